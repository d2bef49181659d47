/- filled, Load; an edge's nodes, its clone: walked. -/
import Derived.Test.YtdbghgpohdijfaaDoorMa33
import Derived.Test.YtdbghgpohdijfaaDoorMa31
import Derived.Deep.RegionHeld3
namespace Go.Proofs.YtdbghgpohdijfaaDoor
open Go.RowKit Go.Scr Go.ChangeMaps Go.MapKept
set_option linter.unusedVariables false
theorem txts_cellF {w : World} {p : Option Addr} {n c : Nat} {L : List ByteArray} (h : Txts w (.slice p n c) L) {i : Nat} {s : ByteArray} (hs : L[i]? = some s) : ∃ a, p = some a ∧ ∀ w', Below w.heap.size w w' → w'.cell? (a.add i) = some (.string s) := by
  obtain ⟨p', c', hpe, _, _, hq⟩ := h
  obtain rfl : p = p' := by cases hpe; rfl
  obtain ⟨a, ha, hcell⟩ := hq i s hs
  exact ⟨a, ha, fun w' hb => (hb.cell (block_lt_of_cell hcell)).trans hcell⟩
theorem pcs_get {w : World} {n : Nat} {P : List Pc} {p : Option Addr} {c : Nat} (h : Held w 115 3 (.slice p n c) P.length (pcV P)) {i : Nat} {x : Pc} (hx : P[i]? = some x) :
    ∃ g, p = some ⟨g, 0, none⟩ ∧ ∀ w', Below w.heap.size w w' → w'.cell? ⟨g, i * 3, none⟩ = some (.int .i64 (x.1 : Int)) ∧ w'.cell? ⟨g, i * 3 + 1, none⟩ = some (.int .i64 (x.2.1 : Int)) ∧ w'.cell? ⟨g, i * 3 + 1 + 1, none⟩ = some (.string x.2.2) := by
  have hi := (List.getElem?_eq_some_iff.mp hx).1
  obtain ⟨g, rfl, hg⟩ := held_cellP h (by omega)
  obtain ⟨x0, x1, x2⟩ := pcV_get hx
  have hk : ∀ {y : Addr} {u : Value} {w' : World}, w.cell? y = some u → Below w.heap.size w w' → w'.cell? y = some u := fun h hb => (hb.cell (block_lt_of_cell h)).trans h
  exact ⟨g, rfl, fun w' hb => ⟨hk (hg _ _ x0) hb, hk (hg _ _ x1) hb, hk (hg _ _ x2) hb⟩⟩
set_option maxRecDepth 100000 in
set_option maxHeartbeats 4000000 in
theorem fnodes_any {w1 w : World} {eb : Nat} {L : List ByteArray} (H : EdU w1 w eb L) :
    Calls Tryd.prog 24 #[rowP eb] w fun o w' => ∃ v, o = .returned v ∧ LfI w w' v (nodesA (valF L 0) 0 L.length).length (nodesA (valF L 0) 0 L.length) := by
  obtain ⟨v, h⟩ := H
  obtain ⟨P, hP⟩ : ∃ P, P = rowA (valF L 0) 0 L.length := ⟨_, rfl⟩
  have hl : P.length ≤ 4096 := by rw [hP]; have h1 := rowA_len (valF L 0) 0 L.length; have h2 := h.n; omega
  have hfr := h.fr
  rw [← hP] at hfr
  obtain ⟨K, hK⟩ : ∃ K, K = nodesA (valF L 0) 0 L.length := ⟨_, rfl⟩
  have hKP : K = P.map fun x => x.2.2 := by rw [hK, hP]; rfl
  rw [← hK]
  obtain ⟨n, hn⟩ : ∃ n, n = P.length := ⟨_, rfl⟩
  have hKn : K.length = n := by rw [hKP, List.length_map, hn]
  obtain ⟨p, c, rfl, hnc, _⟩ := hfr.hd.cells
  rw [hKn]
  rw [← hn] at hfr hnc hl
  have c0 : w.cell? ⟨eb, 0, none⟩ = some (.slice p n c) := cellB hfr.box rfl
  have HF := Lib.hid hfr.hd
  have HK : Hid (n = P.length ∧ K.length = n ∧ K = P.map fun x => x.2.2) := Lib.hid ⟨hn, hKn, hKP⟩
  have HI0 : Hid (LfI w w (.slice none 0 0) 0 (K.take 0)) := Lib.hid ⟨Below.refl _ _, ⟨by rw [List.take_zero]; rfl, .inl ⟨rfl, rfl⟩⟩, fun g hg => nomatch hg⟩
  clear h hfr hP hK hKP hKn hn
  go_enter Tryd.func24, Tryd.ntmps24
  go_wp2_with fail
  clear c0
  go_loopw [3, 11] (fun l k wr => ∃ (i : Nat) (q : Option Addr) (d : Nat), k = .int .i64 (i : Int) ∧ l = .slice q i d ∧ i ≤ n ∧ Hid (LfI w wr (.slice q i d) i (K.take i))) (fun _ k _ => n - (intOf k).toNat)
  case atStart => exact ⟨0, none, 0, rfl, rfl, Nat.zero_le _, HI0⟩
  case round =>
    clear HI0
    obtain ⟨i, q, d, rfl, rfl, hi, HI⟩ := hrel
    by_cases hlt : i < n
    · have hli : (i : Int) < (n : Int) := by omega
      have hi0 : (0 : Int) ≤ (i : Int) := by omega
      obtain ⟨⟨xb, xl, xs⟩, hx⟩ : ∃ x, P[i]? = some x := ⟨P[i]'(by have := HK.out; omega), List.getElem?_eq_getElem _⟩
      obtain ⟨g, rfl, hg⟩ := pcs_get HF.out hx
      obtain ⟨d0, d1, d2⟩ := hg wr HI.out.b
      have HTK : Hid (K.take (i + 1) = K.take i ++ [xs]) := Lib.hid (by rw [List.take_add_one, HK.out.2.2, List.getElem?_map, hx]; rfl)
      have HONE : Hid (∀ u ∈ [Value.string xs], u.oneCell' = true) := Lib.hid (fun u hu => by rw [List.mem_singleton.1 hu]; rfl)
      have HHD : Hid (∀ o, Held (wr.alloc o) 9 1 (.slice q i d) i ((K.take i).map Value.string)) := Lib.hid (fun o => HI.out.h.below ((Below.refl _ _).alloc (Nat.le_refl _) o))
      have HP5 : Hid (∀ o cs T v5 w5, Grew 9 1 ((wr.alloc o).alloc (.cells cs T)) (.slice q i d) i 1 ((K.take i).map Value.string) [.string xs] v5 w5 → LfI w w5 v5 (i + 1) (K.take (i + 1))) := Lib.hid (fun o cs T v5 w5 g5 => by rw [HTK.out]; exact (HI.out.below ((Below.refl _ _).alloc (Nat.le_refl _) o)).push g5)
      have hl1 : (i + 1) * 16 ≤ 140737488355328 := by omega
      have hl2 : i + 1 ≤ 140737488355328 := by omega
      have HLT := Lib.hid hlt
      clear hlt hx hg
      go_wp2_with (at_builtin; refine wpList_grew (v := .slice q i d) rfl _ _ rfl Tryd.underlying22 (.string ⟨#[]⟩) 1 info_strT rfl (by decide) [.string xs] 1 (by simp [Act.eval]) (by simp [Act.eval]) (HHD.out _) rfl rfl (by decide) HONE.out hl1 hl2 ?_; intro v5 w5 hg5; obtain ⟨p5, c5, rfl, _⟩ := hg5.held.cells; have HI5 := Lib.hid (HP5.out _ _ _ _ _ hg5); clear hg5)
      exact ⟨⟨i + 1, p5, c5, by simp, rfl, HLT.out, HI5⟩, by show n - ((i : Int) + 1).toNat < n - (i : Int).toNat; have := HLT.out; omega⟩
    · obtain rfl : i = n := by omega
      have hli : ¬ (i : Int) < (i : Int) := by omega
      clear hlt
      go_wp2_with fail
      go_ret
      exact ⟨_, rfl, by have := HI.out; rwa [List.take_of_length_le (by have := HK.out.2.1; omega)] at this⟩
end Go.Proofs.YtdbghgpohdijfaaDoor
