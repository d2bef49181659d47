/- There and back, plainly: what was said is read as it was. -/
import Derived.Test.YtdgblimeehijpaaDoorTxt6
namespace Go.Proofs.YtdgblimeehijpaaDoor
open Go.RowKit Go.Scr
set_option linter.unusedVariables false

theorem nib_hx (n : Nat) (h : n < 16) : nibN (hx n) = n := by
  have hall : ∀ i : Fin 16, nibN (hx i.val) = i.val := by decide +kernel
  exact hall ⟨n, h⟩
theorem hx_nib (c : UInt8) (h : nibN c < 16) : hx (nibN c) = c := by
  have hall : ∀ i : Fin 256, nibN (UInt8.ofNat i.val) < 16 → hx (nibN (UInt8.ofNat i.val)) = UInt8.ofNat i.val := by decide +kernel
  have hc : UInt8.ofNat c.toNat = c := by simp
  have := hall ⟨c.toNat, c.toNat_lt⟩
  simp only [hc] at this
  exact this h
theorem hexL_get : ∀ (d : List UInt8) (i : Nat), i < d.length → (hexL d).getD (2 * i) 0 = hx ((d.getD i 0).toNat / 16) ∧ (hexL d).getD (2 * i + 1) 0 = hx ((d.getD i 0).toNat % 16)
  | [], i, h => by simp at h
  | c :: d, 0, _ => by simp [hexL]
  | c :: d, i + 1, h => by
    have ih := hexL_get d i (by simpa using h)
    have e : hexL (c :: d) = hx (c.toNat / 16) :: hx (c.toNat % 16) :: hexL d := rfl
    rw [e, show 2 * (i + 1) = 2 * i + 1 + 1 by omega, List.getD_cons_succ, List.getD_cons_succ, List.getD_cons_succ, List.getD_cons_succ, List.getD_cons_succ]
    exact ih
theorem hexOk_hexL (l : List UInt8) : hexOk (hexL l) (hexL l).length = true := by
  unfold hexOk
  rw [List.all_eq_true]
  intro j hj
  have hj' := List.mem_range.mp hj
  rw [hexL_length] at hj'
  obtain ⟨h1, h2⟩ := hexL_get l (j / 2) (by omega)
  have hb := (l.getD (j / 2) 0).toNat_lt
  have hcase : j = 2 * (j / 2) ∨ j = 2 * (j / 2) + 1 := by omega
  rcases hcase with h | h
  · rw [h, h1, nib_hx _ (by omega)]
    exact decide_eq_true (by omega)
  · rw [h, h2, nib_hx _ (by omega)]
    exact decide_eq_true (by omega)
theorem unhexL_hexL (l : List UInt8) : unhexL (hexL l) l.length = l := by
  apply List.ext_getElem?
  intro i
  unfold unhexL
  rw [List.getElem?_map]
  by_cases h2 : i < l.length
  · obtain ⟨e1, e2⟩ := hexL_get l i h2
    rw [List.getElem?_range h2, List.getElem?_eq_getElem h2]
    simp only [Option.map_some, Option.some.injEq]
    unfold pairV
    have hb := (l.getD i 0).toNat_lt
    rw [e1, e2, nib_hx _ (by omega), nib_hx _ (by omega)]
    have e3 : l.getD i 0 = l[i] := by rw [List.getD_eq_getElem?_getD, List.getElem?_eq_getElem h2]; rfl
    rw [e3]
    apply UInt8.toNat_inj.mp
    rw [UInt8.toNat_ofNat']
    have := l[i].toNat_lt
    omega
  · rw [List.getElem?_eq_none (by simpa using h2), List.getElem?_eq_none (by omega)]
    rfl
theorem hex_there (l : List UInt8) : fhS (hexL l) = str l ∧ fhE (hexL l) = 0 := by
  have hl := hexL_length l
  have h : (hexL l).length % 2 = 0 ∧ hexOk (hexL l) (hexL l).length = true := ⟨by omega, hexOk_hexL l⟩
  unfold fhS fhE
  rw [if_pos h, if_pos h, show (hexL l).length / 2 = l.length by omega, unhexL_hexL]
  exact ⟨rfl, rfl⟩
theorem hex_back (d : List UInt8) : (fhE d = 0 ∧ hexL (fhS d).data.toList = d) ∨ (fhE d = 10 ∧ fhS d = ⟨#[]⟩) := by
  by_cases h : d.length % 2 = 0 ∧ hexOk d d.length = true
  · left
    unfold fhS fhE
    rw [if_pos h, if_pos h, str_list]
    refine ⟨rfl, ?_⟩
    have hn : ∀ j, j < d.length → nibN (d.getD j 0) < 16 := fun j hj => by
      have := List.all_eq_true.mp h.2 j (List.mem_range.mpr hj)
      simpa using this
    have hul : (unhexL d (d.length / 2)).length = d.length / 2 := by simp [unhexL]
    apply List.ext_getElem
    · rw [hexL_length, hul]; omega
    · intro j h1 h2
      obtain ⟨e1, e2⟩ := hexL_get (unhexL d (d.length / 2)) (j / 2) (by rw [hul]; omega)
      have ev : (unhexL d (d.length / 2)).getD (j / 2) 0 = pairV d (j / 2) := by
        rw [List.getD_eq_getElem?_getD]
        unfold unhexL
        rw [List.getElem?_map, List.getElem?_range (by omega)]
        rfl
      have a1 := hn (2 * (j / 2)) (by omega)
      have a2 := hn (2 * (j / 2) + 1) (by omega)
      have ep : (pairV d (j / 2)).toNat = 16 * nibN (d.getD (2 * (j / 2)) 0) + nibN (d.getD (2 * (j / 2) + 1) 0) := by
        unfold pairV
        rw [UInt8.toNat_ofNat']
        omega
      have g1 : (hexL (unhexL d (d.length / 2)))[j] = (hexL (unhexL d (d.length / 2))).getD j 0 := by rw [List.getD_eq_getElem?_getD, List.getElem?_eq_getElem h1]; rfl
      have g2 : d[j] = d.getD j 0 := by rw [List.getD_eq_getElem?_getD, List.getElem?_eq_getElem h2]; rfl
      rw [g1, g2]
      have hcase : j = 2 * (j / 2) ∨ j = 2 * (j / 2) + 1 := by omega
      rcases hcase with hj | hj
      · rw [hj, e1, ev, ep, show (16 * nibN (d.getD (2 * (j / 2)) 0) + nibN (d.getD (2 * (j / 2) + 1) 0)) / 16 = nibN (d.getD (2 * (j / 2)) 0) by omega, hx_nib _ a1]
      · rw [hj, e2, ev, ep, show (16 * nibN (d.getD (2 * (j / 2)) 0) + nibN (d.getD (2 * (j / 2) + 1) 0)) % 16 = nibN (d.getD (2 * (j / 2) + 1) 0) by omega, hx_nib _ a2]
  · right
    unfold fhS fhE
    rw [if_neg h, if_neg h]
    exact ⟨rfl, rfl⟩
theorem b64_there (l : List UInt8) : fbS (b64 l) = str l ∧ fbE (b64 l) = 0 := by
  obtain ⟨h1, h2⟩ := fbOk_b64 l
  unfold fbS fbE
  rw [if_pos h1, if_pos h1, h2]
  exact ⟨rfl, rfl⟩
theorem b64_back (d : List UInt8) : (fbE d = 0 ∧ b64 (fbS d).data.toList = d) ∨ (fbE d = 11 ∧ fbS d = ⟨#[]⟩) := by
  by_cases h : fbOk d
  · left
    unfold fbS fbE
    rw [if_pos h, if_pos h, str_list]
    exact ⟨rfl, h.2.2⟩
  · right
    unfold fbS fbE
    rw [if_neg h, if_neg h]
    exact ⟨rfl, rfl⟩
theorem str_data (s : ByteArray) : str s.data.toList = s := by
  apply ByteArray.ext
  simp [str]
end Go.Proofs.YtdgblimeehijpaaDoor
