/- The document's sign, Hex, FromHex, walked. -/
import Derived.Test.YtdgblimeehijpaaDoorTxt6
namespace Go.Proofs.YtdgblimeehijpaaDoor
open Go.RowKit Go.Scr
set_option linter.unusedVariables false

set_option maxRecDepth 100000 in
set_option maxHeartbeats 400000 in
theorem sign_any (c : UInt8) (s : ByteArray) (w : World) (r : Int) (hl : s.size ≤ 1000)
    (h : (∃ k : Nat, r = (k : Int) ∧ k < s.size ∧ s.data.toList.getD k 0 = c ∧ ∀ j, j < k → s.data.toList.getD j 0 ≠ c) ∨ (r = -1 ∧ ∀ j, j < s.size → s.data.toList.getD j 0 ≠ c)) :
    Calls Tryd.prog 45 #[.int .u8 (c.toNat : Int), .string s] w fun e w' => e = .returned (.int .i64 r) ∧ w' = w := by
  have H := Lib.hid h
  clear h
  go_enter Tryd.func45, Tryd.ntmps45
  go_wp2_with fail
  go_loopw [5] (fun q wr => ∃ i : Nat, i ≤ s.size ∧ q = .int .i64 i ∧ (∀ j, j < i → s.data.toList.getD j 0 ≠ c) ∧ wr = w) (fun q _ => s.size - (intOf q).toNat)
  case atStart => exact ⟨0, by omega, rfl, fun j hj => by omega, rfl⟩
  case round =>
    obtain ⟨i, hi, rfl, hne, hww⟩ := hrel
    have HNE := Lib.hid hne
    have HWW := Lib.hid hww
    clear hne hww
    by_cases hlt : i < s.size
    · obtain ⟨x, hx⟩ : ∃ x, x = s.data.toList.getD i 0 := ⟨_, rfl⟩
      have hxi : ∀ (h : i < s.size), s[i] = x := fun h => by
        rw [hx, List.getD_eq_getElem?_getD, List.getElem?_eq_getElem (by simpa using h)]
        rfl
      have HX := Lib.hid hx
      have hli : (i : Int) < (s.size : Int) := by omega
      clear hx
      by_cases hxc : x = c
      · have hr : r = (i : Int) := by
          rcases H.out with ⟨k, hk, hks, hkc, hkj⟩ | ⟨_, hall⟩
          · rw [hk]
            have h1 : ¬ k < i := fun h => HNE.out k h hkc
            have h2 : ¬ i < k := fun h => hkj i h (by rw [← HX.out]; exact hxc)
            have : k = i := by omega
            rw [this]
          · exact absurd (by rw [← HX.out]; exact hxc) (hall i hlt)
        have HR := Lib.hid hr
        clear hr
        subst hxc
        go_wp2_with fail
        go_ret
        exact ⟨by rw [HR.out]; rfl, HWW.out⟩
      · have hne2 : ((x.toNat : Int) == (c.toNat : Int)) = false := by
          simp only [beq_eq_false_iff_ne, ne_eq]
          intro h
          exact hxc (UInt8.toNat_inj.mp (by omega))
        have HXC := Lib.hid hxc
        clear hxc
        go_wp2_with fail
        refine ⟨⟨i + 1, by omega, rfl, fun j hj => ?_, HWW.out⟩, (by show s.size - ((i : Int) + 1).toNat < s.size - (i : Int).toNat; omega)⟩
        by_cases hji : j < i
        · exact HNE.out j hji
        · rw [show j = i by omega, ← HX.out]
          exact HXC.out
    · have hli : ¬ ((i : Int) < (s.size : Int)) := by omega
      have hr : r = -1 := by
        rcases H.out with ⟨k, _, hks, hkc, _⟩ | ⟨h, _⟩
        · exact absurd hkc (HNE.out k (by omega))
        · exact h
      have HR := Lib.hid hr
      clear hr
      go_wp2_with fail
      go_ret
      exact ⟨by rw [HR.out]; rfl, HWW.out⟩

theorem hex_sign_all : ∀ n : Fin 256, (nibN (UInt8.ofNat n.val) < 16 ∧ hexs.getD (nibN (UInt8.ofNat n.val)) 0 = UInt8.ofNat n.val ∧ ∀ j : Fin 16, j.val < nibN (UInt8.ofNat n.val) → hexs.getD j.val 0 ≠ UInt8.ofNat n.val) ∨ (¬ nibN (UInt8.ofNat n.val) < 16 ∧ ∀ j : Fin 16, hexs.getD j.val 0 ≠ UInt8.ofNat n.val) := by decide +kernel
theorem b64_sign_all : ∀ n : Fin 256, (sixN (UInt8.ofNat n.val) < 64 ∧ b64s.getD (sixN (UInt8.ofNat n.val)) 0 = UInt8.ofNat n.val ∧ ∀ j : Fin 64, j.val < sixN (UInt8.ofNat n.val) → b64s.getD j.val 0 ≠ UInt8.ofNat n.val) ∨ (¬ sixN (UInt8.ofNat n.val) < 64 ∧ ∀ j : Fin 64, b64s.getD j.val 0 ≠ UInt8.ofNat n.val) := by decide +kernel
theorem sign_hex (c : UInt8) (w : World) :
    Calls Tryd.prog 45 #[.int .u8 (c.toNat : Int), .string ⟨#[48, 49, 50, 51, 52, 53, 54, 55, 56, 57, 97, 98, 99, 100, 101, 102]⟩] w fun e w' => e = .returned (.int .i64 (if nibN c < 16 then (nibN c : Int) else -1)) ∧ w' = w := by
  have hc : UInt8.ofNat c.toNat = c := by simp
  refine sign_any c _ w _ (by decide) ?_
  have h := hex_sign_all ⟨c.toNat, c.toNat_lt⟩
  simp only [hc] at h
  rcases h with ⟨h1, h2, h3⟩ | ⟨h1, h2⟩
  · exact .inl ⟨nibN c, by rw [if_pos h1], h1, h2, fun j hj => h3 ⟨j, by omega⟩ hj⟩
  · exact .inr ⟨by rw [if_neg h1], fun j hj => h2 ⟨j, hj⟩⟩
theorem sign_b64 (c : UInt8) (w : World) :
    Calls Tryd.prog 45 #[.int .u8 (c.toNat : Int), .string b64B] w fun e w' => e = .returned (.int .i64 (if sixN c < 64 then (sixN c : Int) else -1)) ∧ w' = w := by
  have hc : UInt8.ofNat c.toNat = c := by simp
  refine sign_any c _ w _ (by decide) ?_
  have h := b64_sign_all ⟨c.toNat, c.toNat_lt⟩
  simp only [hc] at h
  rcases h with ⟨h1, h2, h3⟩ | ⟨h1, h2⟩
  · exact .inl ⟨sixN c, by rw [if_pos h1], h1, h2, fun j hj => h3 ⟨j, by omega⟩ hj⟩
  · exact .inr ⟨by rw [if_neg h1], fun j hj => h2 ⟨j, hj⟩⟩

set_option maxRecDepth 100000 in
set_option maxHeartbeats 1000000 in
theorem rfromhex_any (s : ByteArray) (w : World) (hl : s.size ≤ 1099511627776) :
    Calls Tryd.prog 20 #[.string s] w fun e w' => e = .returned (.tuple #[.string (fhS s.data.toList), .int .i64 (fhE s.data.toList)]) ∧ Below w.heap.size w w' := by
  obtain ⟨d, hd⟩ : ∃ d, d = s.data.toList := ⟨_, rfl⟩
  have hdl : d.length = s.size := by rw [hd]; simp
  have HD := Lib.hid hd
  have HDL := Lib.hid hdl
  rw [← hd]
  have hz0 : (0 : Int) ≤ (s.size : Int) := Int.natCast_nonneg _
  by_cases ho : s.size % 2 = 0
  · obtain ⟨c, hc⟩ : ∃ c, c = s.size / 2 := ⟨_, rfl⟩
    have hc1 : s.size = 2 * c := by omega
    have hcb : c ≤ 1099511627776 := by omega
    have hm1 : (s.size : Int).tmod 2 = 0 := by rw [Int.tmod_eq_emod_of_nonneg hz0]; omega
    have HC1 := Lib.hid hc1
    have HEV := Lib.hid ho
    clear hd hdl hc hc1 ho hz0
    go_enter Tryd.func20, Tryd.ntmps20
    go_wp2_with fail
    clear hm1
    go_loopw [4, 5] (fun v q wr => ∃ i p : Nat, i ≤ c ∧ Hid (p = 2 * i) ∧ q = .int .i64 p ∧ wr.ownsRow w.heap.size 5 1 v i (bytesV (unhexL d i)) ∧ hexOk d p = true ∧ Below w.heap.size w wr) (fun _ q _ => s.size - (intOf q).toNat)
    case atStart => exact ⟨0, 0, by omega, rfl, rfl, World.ownsRow_nil _ _ _ _, rfl, Below.refl _ _⟩
    case round =>
      obtain ⟨i, p, hi, hp, rfl, hown, hok, hbel⟩ := hrel
      have HP := Lib.hid hp.out
      have HOWN := Lib.hid hown
      have HOK := Lib.hid hok
      have HBEL := Lib.hid hbel
      clear hp hown hok hbel
      by_cases hlt : i < c
      · obtain ⟨a, ha⟩ : ∃ a, a = d.getD (2 * i) 0 := ⟨_, rfl⟩
        obtain ⟨b, hb⟩ : ∃ b, b = d.getD (2 * i + 1) 0 := ⟨_, rfl⟩
        have hp1 : p + 1 < s.size := by have := HP.out; have := HC1.out; omega
        have hka : ∀ (h : p < s.size), s[p] = a := fun h => by
          rw [ha, ← HP.out, List.getD_eq_getElem?_getD, HD.out, List.getElem?_eq_getElem (by simpa using h)]
          rfl
        have hkb : ∀ (h : p + 1 < s.size), s[p + 1] = b := fun h => by
          rw [hb, ← HP.out, List.getD_eq_getElem?_getD, HD.out, List.getElem?_eq_getElem (by simpa using h)]
          rfl
        have ht1 : ((p : Int) + 1).toNat = p + 1 := by omega
        have hi1 : (p : Int) < (s.size : Int) := by omega
        have hi2 : (p : Int) + 1 < (s.size : Int) := by omega
        have HAV := Lib.hid ha
        have HBV := Lib.hid hb
        obtain ⟨x, hx⟩ : ∃ x, x = nibN a := ⟨_, rfl⟩
        obtain ⟨y, hy⟩ : ∃ y, y = nibN b := ⟨_, rfl⟩
        have hna := fun w => sign_hex a w
        have hnb := fun w => sign_hex b w
        rw [← hx] at hna
        rw [← hy] at hnb
        have HX := Lib.hid hx
        have HY := Lib.hid hy
        clear ha hb hx hy
        by_cases hx16 : x < 16
        · rw [if_pos hx16] at hna
          by_cases hy16 : y < 16
          · rw [if_pos hy16] at hnb
            have HNA := Lib.hid hna
            have HNB := Lib.hid hnb
            have HCELL : Hid (#[Value.int .u8 (16 * (x : Int) + (y : Int))] = (bytesV [UInt8.ofNat (16 * x + y)]).toArray) := by
              show _ = _
              simp only [bytesV, List.map_cons, List.map_nil]
              rw [← byte_cell, show (((16 * x + y : Nat)) : Int) % 256 = 16 * (x : Int) + (y : Int) by omega]
            clear hna hnb
            have hw := HBEL.out.size
            have hk1 : 0 < i + 1 := by omega
            have hk2 : (i + 1) * 1 ≤ 140737488355328 := by omega
            have hk3 : i + 1 ≤ 140737488355328 := by omega
            go_wp2_with (first
              | (go_at_call 45; with_reducible refine (HNA.out _).mono ?_; rintro r w2 ⟨rfl, hw2⟩; rw [hw2]; clear hw2 w2)
              | (go_at_call 45; with_reducible refine (HNB.out _).mono ?_; rintro r w3 ⟨rfl, hw3⟩; rw [hw3]; clear hw3 w3)
              | (at_builtin; refine wpList_appendV rfl _ _ rfl Tryd.underlying52 (.int .u8 0) 1 bu8 rfl (by decide) (bytesV [UInt8.ofNat (16 * x + y)]) 1 (i + 1) rfl rfl HOWN.out HCELL.out rfl (bytesV_one _) HBEL.out (Nat.le_refl _) hw rfl hk1 hk2 hk3 ?_; intro g' c' w' hg' hown' hb' hsz' hgr'; have HOWN' := Lib.hid hown'; have HB' := Lib.hid hb'; clear hown' hb' hsz' hgr' hg'))
            refine ⟨⟨i + 1, p + 2, by omega, (by have := HP.out; show _ = _; omega), rfl, ?_, ?_, HB'.out⟩, (by show s.size - ((p : Int) + 2).toNat < s.size - (p : Int).toNat; omega)⟩
            · rw [unhexL_succ, show bytesV (unhexL d i ++ [pairV d i]) = bytesV (unhexL d i) ++ bytesV [pairV d i] by simp [bytesV]]
              have e : pairV d i = UInt8.ofNat (16 * x + y) := by unfold pairV; rw [← HAV.out, ← HBV.out, ← HX.out, ← HY.out]
              rw [e]
              exact HOWN'.out
            · have hp := HP.out
              have hk := HOK.out
              rw [hp] at hk
              rw [show p + 2 = 2 * (i + 1) by omega, hexOk_two, hk, ← HAV.out, ← HBV.out, ← HX.out, ← HY.out]
              simp [hx16, hy16]
          · rw [if_neg hy16] at hnb
            have HNA := Lib.hid hna
            have HNB := Lib.hid hnb
            clear hna hnb
            have hbad : hexOk d d.length = false := hexOk_false (j := 2 * i + 1) (by rw [HDL.out]; have := HP.out; omega) (by rw [← HBV.out, ← HY.out]; exact hy16)
            have hS : fhS d = ⟨#[]⟩ := if_neg (by rw [hbad]; simp)
            have hE : fhE d = 10 := if_neg (by rw [hbad]; simp)
            have HS := Lib.hid hS
            have HE := Lib.hid hE
            clear hbad hS hE
            go_wp2_with (first
              | (go_at_call 45; with_reducible refine (HNA.out _).mono ?_; rintro r w2 ⟨rfl, hw2⟩; rw [hw2]; clear hw2 w2)
              | (go_at_call 45; with_reducible refine (HNB.out _).mono ?_; rintro r w3 ⟨rfl, hw3⟩; rw [hw3]; clear hw3 w3))
            all_goals go_ret2
            all_goals exact ⟨by rw [HS.out, HE.out]; rfl, HBEL.out⟩
        · rw [if_neg hx16] at hna
          have hbad : hexOk d d.length = false := hexOk_false (j := 2 * i) (by rw [HDL.out]; have := HP.out; omega) (by rw [← HAV.out, ← HX.out]; exact hx16)
          have hS : fhS d = ⟨#[]⟩ := if_neg (by rw [hbad]; simp)
          have hE : fhE d = 10 := if_neg (by rw [hbad]; simp)
          obtain ⟨yv, hyv⟩ : ∃ yv : Int, yv = if y < 16 then (y : Int) else -1 := ⟨_, rfl⟩
          rw [← hyv] at hnb
          have HNA := Lib.hid hna
          have HNB := Lib.hid hnb
          have HS := Lib.hid hS
          have HE := Lib.hid hE
          clear hna hnb hbad hS hE hyv
          go_wp2_with (first
            | (go_at_call 45; with_reducible refine (HNA.out _).mono ?_; rintro r w2 ⟨rfl, hw2⟩; rw [hw2]; clear hw2 w2)
            | (go_at_call 45; with_reducible refine (HNB.out _).mono ?_; rintro r w3 ⟨rfl, hw3⟩; rw [hw3]; clear hw3 w3))
          all_goals go_ret2
          all_goals exact ⟨by rw [HS.out, HE.out]; rfl, HBEL.out⟩
      · have hic : i = c := by omega
        have hps : ¬ ((p : Int) < (s.size : Int)) := by have := HP.out; have := HC1.out; omega
        have hok2 : hexOk d d.length = true := by
          have := HOK.out
          rwa [show p = d.length by have := HP.out; have := HC1.out; have := HDL.out; omega] at this
        have hcnd : d.length % 2 = 0 ∧ hexOk d d.length = true := ⟨by rw [HDL.out]; exact HEV.out, hok2⟩
        have hS : fhS d = str (unhexL d i) := by
          unfold fhS
          rw [if_pos hcnd, show d.length / 2 = i by have := HC1.out; have := HDL.out; omega]
        have hE : fhE d = 0 := if_pos hcnd
        have HS := Lib.hid hS
        have HE := Lib.hid hE
        have hown := HOWN.out
        rcases hown.2 with ⟨rfl, hi0⟩ | ⟨g, cc, cur, rfl, _⟩
        · have hcv : (convert 52 9 (.slice none 0 0)).run Tryd.prog wr = .ok (.string (str [])) wr := by kernel_rfl
          have hS2 : fhS d = str [] := by rw [HS.out, hi0]; rfl
          have HS2 := Lib.hid hS2
          clear hic hok2 hcnd hS hE hi0 hown hS2
          go_wp2
          go_ret2
          exact ⟨by rw [HS2.out, HE.out]; rfl, HBEL.out⟩
        · have hul : i = (unhexL d i).length := by simp [unhexL]
          have hcv := own_string (P := Tryd.prog) (D := 9) (S := 52) (w := wr) (B := w.heap.size) (g := g) (N := i) (c := cc) (l := unhexL d i) Tryd.underlying52 bund8 bundS (by unfold OwnB; rw [← hul]; exact hown)
          clear hic hul hok2 hcnd hS hE hown
          go_wp2
          go_ret2
          exact ⟨by rw [HS.out, HE.out]; rfl, HBEL.out⟩
  · have hm1 : (s.size : Int).tmod 2 = 1 := by rw [Int.tmod_eq_emod_of_nonneg hz0]; omega
    have hS : fhS d = ⟨#[]⟩ := if_neg (by rw [hdl]; intro h; exact ho h.1)
    have hE : fhE d = 10 := if_neg (by rw [hdl]; intro h; exact ho h.1)
    rw [hS, hE]
    clear hd hdl ho hz0 hS hE
    go_enter Tryd.func20, Tryd.ntmps20
    go_wp2
    go_ret2
    exact ⟨rfl, Below.refl _ _⟩
end Go.Proofs.YtdgblimeehijpaaDoor
