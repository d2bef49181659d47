/- The document's highest pair, its steps as rows: plain. -/
import Derived.Test.YtdbghgpohdijfaaGreatDoorMa40
import Derived.Test.YtdbghgpohdijfaaGreatDoorMa43
import Derived.Test.YtdbghgpohdijfaaGreatDoorMa42
import Derived.BigQuiet
namespace Go.Proofs.YtdbghgpohdijfaaGreatDoor
open Go.RowKit Go.Scr
set_option linter.unusedVariables false
theorem hiR_cons (a b : ByteArray) (A B : List ByteArray) : hiR (a :: A) (b :: B) = match hiR A B with
    | some x => some x
    | none => if a = b then none else some (a, b) := rfl
theorem hiR_drop {A B : List ByteArray} {k : Nat} {a b : ByteArray} (ha : A[k]? = some a) (hb : B[k]? = some b) (hn : hiR (A.drop (k + 1)) (B.drop (k + 1)) = none) : hiR (A.drop k) (B.drop k) = if a = b then none else some (a, b) := by
  obtain ⟨h1, e1⟩ := List.getElem?_eq_some_iff.mp ha
  obtain ⟨h2, e2⟩ := List.getElem?_eq_some_iff.mp hb
  rw [List.drop_eq_getElem_cons h1, List.drop_eq_getElem_cons h2, hiR_cons, hn, e1, e2]
theorem hiR_up {x : ByteArray × ByteArray} : ∀ (k : Nat) (A B : List ByteArray), k ≤ A.length → k ≤ B.length → hiR (A.drop k) (B.drop k) = some x → hiR A B = some x
  | 0, _, _, _, _, h => h
  | k + 1, [], _, h, _, _ => by simp at h
  | k + 1, _ :: _, [], _, h, _ => by simp at h
  | k + 1, a :: A, b :: B, h1, h2, h => by
    rw [List.drop_succ_cons, List.drop_succ_cons] at h
    rw [hiR_cons, hiR_up k A B (by simpa using h1) (by simpa using h2) h]
theorem hiR_end {A B : List ByteArray} : hiR (A.drop A.length) (B.drop A.length) = none := by
  rw [List.drop_length]
  exact hiR_none_nil _
where hiR_none_nil : ∀ B : List ByteArray, hiR [] B = none := fun B => by cases B <;> rfl
/-- what is answered -/
def hiV : Option (ByteArray × ByteArray) → Value
  | some x => .tuple #[.agg #[.string x.1, .string x.2], .int .i64 0]
  | none => .tuple #[.agg #[.string ⟨#[]⟩, .string ⟨#[]⟩], .int .i64 60]
/-- steps as rows of three cells -/
def s6V (S : List (Nat × Nat × Bool)) : List Value := S.flatMap fun x => [.int .i64 (x.1 : Int), .int .i64 (x.2.1 : Int), .bool x.2.2]
theorem s6V_len (S : List (Nat × Nat × Bool)) : (s6V S).length = S.length * 3 := by
  induction S with
  | nil => rfl
  | cons x r ih => rw [s6V, List.flatMap_cons, List.length_append]; show 3 + (s6V r).length = _; rw [ih, List.length_cons]; omega
theorem s6V_snoc (S : List (Nat × Nat × Bool)) (x : Nat × Nat × Bool) : s6V (S ++ [x]) = s6V S ++ [.int .i64 (x.1 : Int), .int .i64 (x.2.1 : Int), .bool x.2.2] := by
  unfold s6V; rw [List.flatMap_append]; rfl
theorem s6V_get : ∀ {S : List (Nat × Nat × Bool)} {i : Nat} {x : Nat × Nat × Bool}, S[i]? = some x → (s6V S)[i * 3]? = some (.int .i64 (x.1 : Int)) ∧ (s6V S)[i * 3 + 1]? = some (.int .i64 (x.2.1 : Int)) ∧ (s6V S)[i * 3 + 2]? = some (.bool x.2.2)
  | [], i, x, h => by simp at h
  | y :: r, 0, x, h => by obtain rfl := Option.some.inj h; exact ⟨rfl, rfl, rfl⟩
  | y :: r, i + 1, x, h => by
    obtain ⟨h1, h2, h3⟩ := s6V_get (S := r) (i := i) (x := x) (by simpa using h)
    rw [show (i + 1) * 3 = i * 3 + 3 by omega, show i * 3 + 3 + 1 = (i * 3 + 1) + 3 by omega, show i * 3 + 3 + 2 = (i * 3 + 2) + 3 by omega]
    exact ⟨h1, h2, h3⟩
/-- the way down goes on -/
theorem spD_right {x y b e : Nat} (h : ¬ ((b = x ∧ e = y) ∨ e - b ≤ 1)) (h2 : b + spl (e - b) ≤ x) : spD x y b e = (b, b + spl (e - b), true) :: spD x y (b + spl (e - b)) e := by
  rw [spD, dif_neg h, if_pos h2]
theorem spD_left {x y b e : Nat} (h : ¬ ((b = x ∧ e = y) ∨ e - b ≤ 1)) (h2 : ¬ b + spl (e - b) ≤ x) : spD x y b e = (b + spl (e - b), e, false) :: spD x y b (b + spl (e - b)) := by
  rw [spD, dif_neg h, if_neg h2]
theorem spD_end {x y b e : Nat} (h : (b = x ∧ e = y) ∨ e - b ≤ 1) : spD x y b e = [] := by
  rw [spD, dif_pos h]
/-- the spans beside lie in the tree -/
theorem spD_in (x y : Nat) (s : Nat) : ∀ (b e : Nat), e - b = s → b ≤ e → ∀ z ∈ spD x y b e, b ≤ z.1 ∧ z.1 ≤ z.2.1 ∧ z.2.1 ≤ e := by
  induction s using Nat.strongRecOn with
  | ind s ih =>
    intro b e hs hbe z hz
    by_cases h : (b = x ∧ e = y) ∨ e - b ≤ 1
    · rw [spD_end h] at hz; exact nomatch hz
    · have hsp := spl_lt (show 2 ≤ e - b by omega)
      by_cases h2 : b + spl (e - b) ≤ x
      · rw [spD_right h h2] at hz
        rcases List.mem_cons.mp hz with rfl | hz
        · show b ≤ b ∧ b ≤ b + spl (e - b) ∧ b + spl (e - b) ≤ e; omega
        · have := ih (e - (b + spl (e - b))) (by omega) _ _ rfl (by omega) z hz
          omega
      · rw [spD_left h h2] at hz
        rcases List.mem_cons.mp hz with rfl | hz
        · show b ≤ b + spl (e - b) ∧ b + spl (e - b) ≤ e ∧ e ≤ e; omega
        · have := ih (b + spl (e - b) - b) (by omega) _ _ rfl (by omega) z hz
          omega
theorem rev_take6 {α : Type} (D : List α) (j : Nat) (x : α) (hj : j < D.length) (hx : D[D.length - 1 - j]? = some x) : D.reverse.take (j + 1) = D.reverse.take j ++ [x] := by
  rw [List.take_add_one, List.getElem?_reverse hj, hx]
  rfl
end Go.Proofs.YtdbghgpohdijfaaGreatDoor
/- The document's layer 6: root, the highest pair. -/
namespace Go.Proofs.YtdbghgpohdijfaaGreatDoor
open Go.RowKit Go.Scr
set_option linter.unusedVariables false
set_option maxRecDepth 100000 in
set_option maxHeartbeats 400000 in
theorem root6_any (v : Value) (L : List ByteArray) (w : World) (hv : Txts w v L) :
    Calls Tryz.prog 36 #[v] w fun e w' => e = .returned (.string (rootT L)) ∧ Below w.heap.size w w' := by
  have HR := Lib.hid (Rootr_any v L w hv)
  obtain ⟨p, c, rfl, hv1, hv2, hv3⟩ := hv
  obtain ⟨r, hr⟩ : ∃ r, r = rootT L := ⟨_, rfl⟩
  obtain ⟨z, hz⟩ : ∃ z, z = refusedE L := ⟨_, rfl⟩
  rw [← hr, ← hz] at HR
  rw [← hr]
  clear hv1 hv2 hv3 hr hz
  go_enter Tryz.func36, Tryz.ntmps36
  go_wp2_with (go_at_call 62; with_reducible refine (HR.out).mono ?_; rintro e w2 ⟨rfl, h⟩; have H2 := Lib.hid h; clear h)
  go_ret
  exact ⟨rfl, H2.out⟩
set_option maxRecDepth 100000 in
set_option maxHeartbeats 4000000 in
theorem highest6_any (va vb : Value) (A B : List ByteArray) (w : World) (hva : Txts w va A) (hvb : Txts w vb B) (hl : A.length = B.length) (h4 : A.length ≤ 1048576) :
    Calls Tryz.prog 29 #[va, vb] w fun e w' => e = .returned (hiV (hiR A B)) ∧ Below w.heap.size w w' := by
  obtain ⟨w1, hw1⟩ : ∃ x, x = w.alloc (.cells #[.string ⟨#[]⟩, .string ⟨#[]⟩] 26) := ⟨_, rfl⟩
  obtain ⟨x0, x1⟩ := one_blockE w #[.string ⟨#[]⟩, .string ⟨#[]⟩] 26
  rw [← hw1] at x0 x1
  obtain ⟨bp, hbp⟩ : ∃ x, x = w.heap.size := ⟨_, rfl⟩
  rw [← hbp] at x0
  obtain ⟨n, hn⟩ : ∃ n, n = A.length := ⟨_, rfl⟩
  obtain ⟨pa, ca, rfl, ha1, ha2, ha3⟩ := hva
  obtain ⟨pb, cb, rfl, hb1, hb2, hb3⟩ := hvb
  rw [← hn] at ha1 ha2
  rw [← hl, ← hn] at hb1 hb2
  rw [← hl, ← hn]
  have hn4 : n ≤ 1048576 := by rw [hn]; exact h4
  have HN : Hid (A.length = n ∧ B.length = n) := Lib.hid ⟨hn.symm, by rw [← hl, ← hn]⟩
  have HPA : Hid (∀ j s, A[j]? = some s → ∃ a, pa = some a ∧ ∀ wr, Below w1.heap.size w1 wr → wr.cell? (a.add j) = some (.string s)) := Lib.hid (fun j s hs => by
    obtain ⟨a, ha, hc⟩ := ha3 j s hs
    exact ⟨a, ha, fun wr hb => ((x1.trans (hb.mono x1.size)).cell (block_lt_of_cell hc)).trans hc⟩)
  have HPB : Hid (∀ j s, B[j]? = some s → ∃ a, pb = some a ∧ ∀ wr, Below w1.heap.size w1 wr → wr.cell? (a.add j) = some (.string s)) := Lib.hid (fun j s hs => by
    obtain ⟨a, ha, hc⟩ := hb3 j s hs
    exact ⟨a, ha, fun wr hb => ((x1.trans (hb.mono x1.size)).cell (block_lt_of_cell hc)).trans hc⟩)
  have HX : Hid (∀ w', Below w1.heap.size w1 w' → w'.heap[bp]? = some (.cells #[.string ⟨#[]⟩, .string ⟨#[]⟩] 26 (0, 0))) := Lib.hid (fun w' hb => blk_below x0 hb (blk_lt x0))
  have HF : Hid (Below w.heap.size w w1 ∧ bp = w.heap.size) := Lib.hid ⟨x1, hbp⟩
  have HEND : Hid (hiR (A.drop n) (B.drop n) = none) := Lib.hid (by rw [hn]; exact hiR_end)
  have HW1 := Lib.hid hw1
  have HBP := Lib.hid hbp
  clear hn hl h4 hw1 hbp x0 x1 ha1 ha2 ha3 hb1 hb2 hb3
  go_enter Tryz.func29, Tryz.ntmps29
  go_upto_region 1 with fail
  rw [← HW1.out, ← HBP.out]
  go_wp2_with fail
  go_loopw [6] (fun i wr => ∃ (k : Nat) (z : Int), k ≤ n ∧ z = (k : Int) - 1 ∧ i = .int .i64 z ∧ Hid (hiR (A.drop k) (B.drop k) = none) ∧ Hid (Below w1.heap.size w1 wr)) (fun i _ => (intOf i + 1).toNat)
  case atStart => exact ⟨n, _, Nat.le_refl _, rfl, rfl, HEND, Lib.hid (Below.refl _ _)⟩
  case round =>
    clear HEND
    obtain ⟨k, z, hk, hz, rfl, HI, HB⟩ := hrel
    rcases k with _ | j
    · obtain rfl : z = -1 := by omega
      have hx := HX.out wr HB.out
      have k0 : wr.cell? ⟨bp, 0, none⟩ = some (.string ⟨#[]⟩) := cellB hx rfl
      have k1 : wr.cell? ⟨bp, 1, none⟩ = some (.string ⟨#[]⟩) := cellB hx rfl
      have f0 : wr.frozen? ⟨bp, 0, none⟩ = false := frozB hx
      have f1 : wr.frozen? ⟨bp, 1, none⟩ = false := frozB hx
      have HX6 := Lib.hid (blk_set2 (x := .string ⟨#[]⟩) (y := .string ⟨#[]⟩) hx)
      have HR : Hid (hiR A B = none) := Lib.hid HI.out
      clear hx hk hz
      go_wp2_with fail
      have m0 := cellB (k := 0) HX6.out rfl
      have m1 := cellB (k := 1) HX6.out rfl
      refine bodyPost_ret (v := .tuple #[.agg #[.string ⟨#[]⟩, .string ⟨#[]⟩], .int .i64 60]) (by simp [results, Tryz.results29, go_sem, m0, m1]) rfl ?_
      have hf := HF.out
      refine ⟨by rw [HR.out]; rfl, ?_⟩
      exact ((hf.1.trans (HB.out.mono hf.1.size)).setCell (p := ⟨bp, 0, none⟩) (by show w.heap.size ≤ bp; omega) _).setCell (p := ⟨bp, 1, none⟩) (by show w.heap.size ≤ bp; omega) _
    · obtain rfl : z = (j : Int) := by omega
      obtain ⟨s, hs⟩ : ∃ s, A[j]? = some s := ⟨A[j]'(by have := HN.out.1; omega), List.getElem?_eq_getElem _⟩
      obtain ⟨t, ht⟩ : ∃ s, B[j]? = some s := ⟨B[j]'(by have := HN.out.2; omega), List.getElem?_eq_getElem _⟩
      obtain ⟨a, rfl, hc⟩ := HPA.out j s hs
      obtain ⟨b, rfl, hd⟩ := HPB.out j t ht
      have hcell1 := hc wr HB.out
      have hcell2 := hd wr HB.out
      have hj0 : (0 : Int) ≤ (j : Int) := by omega
      have hjn : (j : Int) < (n : Int) := by omega
      have HD := Lib.hid (hiR_drop hs ht HI.out)
      have HK : Hid (j < n) := Lib.hid (by omega)
      clear hs ht hc hd hz hk
      by_cases hst : s = t
      · have e1 : (s.toList == t.toList) = true := by rw [hst]; exact textE_same _
        have HDN : Hid (hiR (A.drop j) (B.drop j) = none) := Lib.hid (by rw [HD.out, if_pos hst])
        clear hst
        go_upto_region 4 with fail
        go_quiet (fail)
        have HB2 : Hid (Below w1.heap.size w1 (wr.drewN nq)) := Lib.hid (below_drewN HB.out nq)
        generalize wr.drewN nq = wx at *
        go_wp2_with fail
        exact ⟨⟨j, _, by have := HK.out; omega, rfl, rfl, HDN, HB2⟩, by show ((j : Int) - 1 + 1).toNat < ((j : Int) + 1).toNat; omega⟩
      · have e1 : (s.toList == t.toList) = false := textE_ne hst
        have HR : Hid (hiR A B = some (s, t)) := Lib.hid (hiR_up j A B (by have := HN.out; have := HK.out; omega) (by have := HN.out; have := HK.out; omega) (by rw [HD.out, if_neg hst]))
        clear hst
        go_upto_region 4 with fail
        go_quiet (fail)
        have HB2 : Hid (Below w1.heap.size w1 (wr.drewN nq)) := Lib.hid (below_drewN HB.out nq)
        replace hcell1 := cell_drewN hcell1 nq
        replace hcell2 := cell_drewN hcell2 nq
        generalize wr.drewN nq = wx at *
        have hx0 := HX.out wx HB2.out
        have g0 : wx.frozen? ⟨bp, 0, none⟩ = false := frozB hx0
        have g1 : wx.frozen? ⟨bp, 1, none⟩ = false := frozB hx0
        have q0 : wx.cell? ⟨bp, 0, none⟩ = some (.string ⟨#[]⟩) := cellB hx0 rfl
        have q1 : wx.cell? ⟨bp, 1, none⟩ = some (.string ⟨#[]⟩) := cellB hx0 rfl
        clear hx0
        have hx := HX.out wx.drew (HB2.out.trans (Below.refl _ _).drew)
        have k0 : wx.drew.cell? ⟨bp, 0, none⟩ = some (.string ⟨#[]⟩) := cellB hx rfl
        have k1 : wx.drew.cell? ⟨bp, 1, none⟩ = some (.string ⟨#[]⟩) := cellB hx rfl
        have f0 : wx.drew.frozen? ⟨bp, 0, none⟩ = false := frozB hx
        have f1 : wx.drew.frozen? ⟨bp, 1, none⟩ = false := frozB hx
        have hcd1 : wx.drew.cell? (a.add j) = some (.string s) := hcell1
        have hcd2 : wx.drew.cell? (b.add j) = some (.string t) := hcell2
        have HX6 := Lib.hid (blk_set2 (x := .string s) (y := .string t) hx)
        clear hx
        go_upto_region 5 with fail
        refine wp_region_still_tail 9 (by kernel_rfl) (by kernel_rfl) ?_
        simp only [List.take_succ_cons, List.take_zero, List.drop_succ_cons, List.drop_zero]
        change wpStill _ _ wx.drew _ _ _
        iterate 9 (refine wpStill_step (fun K hK => ?_); go_simp; (refine hK _ ?_; clear hK K))
        refine wpStill_nil ?_
        change wpList _ _ _ _ _ wx.drew
        go_wp2_with fail
        obtain ⟨wz, hwz⟩ : ∃ wz, wz = ((wx.setCell ⟨bp, 0, none⟩ (.string s)).setCell ⟨bp, 1, none⟩ (.string t)).drew := ⟨_, rfl⟩
        rw [← hwz]
        have m0 : wz.cell? ⟨bp, 0, none⟩ = some (.string s) := by rw [hwz]; exact cellB (k := 0) HX6.out rfl
        have m1 : wz.cell? ⟨bp, 1, none⟩ = some (.string t) := by rw [hwz]; exact cellB (k := 1) HX6.out rfl
        refine bodyPost_ret (v := .tuple #[.agg #[.string s, .string t], .int .i64 0]) (by simp [results, Tryz.results29, go_sem, m0, m1]) rfl ?_
        have hf := HF.out
        refine ⟨by rw [HR.out]; rfl, ?_⟩
        rw [hwz]
        exact ((hf.1.trans ((HB2.out.trans (Below.refl _ _).drew).mono hf.1.size)).setCell (p := ⟨bp, 0, none⟩) (by show w.heap.size ≤ bp; omega) _).setCell (p := ⟨bp, 1, none⟩) (by show w.heap.size ≤ bp; omega) _
end Go.Proofs.YtdbghgpohdijfaaGreatDoor
/- The document's Entries (printed by gen_eva.py). -/
namespace Go.Proofs.YtdbghgpohdijfaaGreatDoor
open Go.RowKit Go.Scr
set_option linter.unusedVariables false
set_option maxRecDepth 100000 in
set_option maxHeartbeats 4000000 in
theorem entries6_any {w : World} {a b : ByteArray} (hsa : a.size ≤ 1048576) (hsb : b.size ≤ 1048576) :
    Calls Tryz.prog 14 #[.string a, .string b] w (EnQ a b w) := by
  obtain ⟨w1, hw1⟩ : ∃ x, x = w.alloc (.cells #[.string ⟨#[]⟩, .string ⟨#[]⟩] 26) := ⟨_, rfl⟩
  obtain ⟨x0, x1⟩ := one_blockE w #[.string ⟨#[]⟩, .string ⟨#[]⟩] 26
  rw [← hw1] at x0 x1
  obtain ⟨bp, hbp⟩ : ∃ x, x = w.heap.size := ⟨_, rfl⟩
  rw [← hbp] at x0
  obtain ⟨la, hla⟩ : ∃ x, x = hleaf a := ⟨_, rfl⟩
  obtain ⟨lb, hlb⟩ : ∃ x, x = hleaf b := ⟨_, rfl⟩
  have CL1 : Hid (∀ w', Below w1.heap.size w1 w' → Calls Tryz.prog 43 #[.string a] w' fun o z => o = .returned (.string la) ∧ Below w'.heap.size w' z) := Lib.hid (fun w' hb => by rw [hla]; exact rleaf_any a w' (by omega))
  have CL2 : Hid (∀ w', Below w1.heap.size w1 w' → Calls Tryz.prog 43 #[.string b] w' fun o z => o = .returned (.string lb) ∧ Below w'.heap.size w' z) := Lib.hid (fun w' hb => by rw [hlb]; exact rleaf_any b w' (by omega))
  have HX : Hid (∀ w', Below w1.heap.size w1 w' → w'.heap[bp]? = some (.cells #[.string ⟨#[]⟩, .string ⟨#[]⟩] 26 (0, 0))) := Lib.hid (fun w' hb => blk_below x0 hb (blk_lt x0))
  have HF : Hid (la = hleaf a ∧ lb = hleaf b ∧ Below w.heap.size w w1 ∧ bp = w.heap.size) := Lib.hid ⟨hla, hlb, x1, hbp⟩
  have HNO : Hid (∀ wx, Below w1.heap.size w1 wx → (a = b ∨ la ≠ lb) → ∀ e, e = .returned (.tuple #[.agg #[.string ⟨#[]⟩, .string ⟨#[]⟩], .int .i64 60]) → EnQ a b w e ((wx.setCell ⟨bp, 0, none⟩ (.string ⟨#[]⟩)).setCell ⟨bp, 1, none⟩ (.string ⟨#[]⟩))) := Lib.hid (fun wx hb h e he => by
    unfold EnQ
    rw [← hla, ← hlb, if_pos h]
    exact ⟨he, ((x1.trans (hb.mono x1.size)).setCell (p := ⟨bp, 0, none⟩) (by show w.heap.size ≤ bp; omega) _).setCell (p := ⟨bp, 1, none⟩) (by show w.heap.size ≤ bp; omega) _⟩)
  have HW1 := Lib.hid hw1
  have HBP := Lib.hid hbp
  have ha1 : (⟨#[0]⟩ : ByteArray).size + a.size ≤ 140737488355200 := by show 1 + a.size ≤ _; omega
  have hb1 : (⟨#[0]⟩ : ByteArray).size + b.size ≤ 140737488355200 := by show 1 + b.size ≤ _; omega
  have HSZ : Hid ((⟨#[0]⟩ ++ a : ByteArray).size ≤ 2000000 ∧ (⟨#[0]⟩ ++ b : ByteArray).size ≤ 2000000) := Lib.hid ⟨by rw [ByteArray.size_append]; show 1 + a.size ≤ _; omega, by rw [ByteArray.size_append]; show 1 + b.size ≤ _; omega⟩
  clear hsa hsb hw1 x0 x1 hbp hla hlb
  by_cases hab : a = b
  · subst hab
    have e1 : (a.toList == a.toList) = true := by simp
    have hx := HX.out w1 (Below.refl _ _)
    have k0 : w1.cell? ⟨bp, 0, none⟩ = some (.string ⟨#[]⟩) := cellB hx rfl
    have k1 : w1.cell? ⟨bp, 1, none⟩ = some (.string ⟨#[]⟩) := cellB hx rfl
    have f0 : w1.frozen? ⟨bp, 0, none⟩ = false := frozB hx
    have f1 : w1.frozen? ⟨bp, 1, none⟩ = false := frozB hx
    have HX6 := Lib.hid (blk_set2 (x := .string ⟨#[]⟩) (y := .string ⟨#[]⟩) hx)
    clear hx
    go_enter Tryz.func14, Tryz.ntmps14
    go_upto_region 1 with fail
    rw [← HW1.out, ← HBP.out]
    go_wp2_with fail
    have m0 := cellB (k := 0) HX6.out rfl
    have m1 := cellB (k := 1) HX6.out rfl
    refine bodyPost_ret (v := .tuple #[.agg #[.string ⟨#[]⟩, .string ⟨#[]⟩], .int .i64 60]) (by simp [results, Tryz.results14, go_sem, m0, m1]) rfl ?_
    exact HNO.out w1 (Below.refl _ _) (.inl (by first | rfl | trivial)) _ rfl
  have e1 : (a.toList == b.toList) = false := textQ_ne hab
  by_cases hll : la = lb
  case neg =>
    have e2 : (la.toList == lb.toList) = false := textQ_ne hll
    have e3 : (la.toList != lb.toList) = true := textQ_bne hll
    have HLL := Lib.hid hll
    clear hll hab
    go_enter Tryz.func14, Tryz.ntmps14
    go_upto_region 1 with fail
    rw [← HW1.out, ← HBP.out]
    go_wp2_with (first
      | (go_at_call 43; (with_reducible refine (CL1.out _ (Below.refl _ _)).mono ?_); rintro o x1 ⟨rfl, h⟩; have HB1 : Hid (Below w1.heap.size w1 x1) := Lib.hid h; clear h)
      | (go_at_call 43; (with_reducible refine (CL2.out _ HB1.out).mono ?_); rintro o x2 ⟨rfl, h⟩; have HB2 : Hid (Below w1.heap.size w1 x2) := Lib.hid (HB1.out.trans (h.mono HB1.out.size)); have hx := HX.out _ HB2.out; have HXX := Lib.hid hx; have k0 : x2.cell? ⟨bp, 0, none⟩ = some (.string ⟨#[]⟩) := cellB hx rfl; have k1 : x2.cell? ⟨bp, 1, none⟩ = some (.string ⟨#[]⟩) := cellB hx rfl; have f0 : x2.frozen? ⟨bp, 0, none⟩ = false := frozB hx; have f1 : x2.frozen? ⟨bp, 1, none⟩ = false := frozB hx; clear h hx))
    have hx6 := blk_set2 (x := .string ⟨#[]⟩) (y := .string ⟨#[]⟩) HXX.out
    have m0 := cellB (k := 0) hx6 rfl
    have m1 := cellB (k := 1) hx6 rfl
    refine bodyPost_ret (v := .tuple #[.agg #[.string ⟨#[]⟩, .string ⟨#[]⟩], .int .i64 60]) (by simp [results, Tryz.results14, go_sem, m0, m1]) rfl ?_
    exact HNO.out _ HB2.out (.inr HLL.out) _ rfl
  subst hll
  have e2 : (la.toList == la.toList) = true := by simp
  have HAB := Lib.hid hab
  clear hab
  obtain ⟨ta, hta⟩ : ∃ x : ByteArray, x = ⟨#[0]⟩ ++ a := ⟨_, rfl⟩
  obtain ⟨tb, htb⟩ : ∃ x : ByteArray, x = ⟨#[0]⟩ ++ b := ⟨_, rfl⟩
  have HTT : Hid (ta = ⟨#[0]⟩ ++ a ∧ tb = ⟨#[0]⟩ ++ b) := Lib.hid ⟨hta, htb⟩
  clear hta htb
  go_enter Tryz.func14, Tryz.ntmps14
  go_upto_region 1 with fail
  rw [← HW1.out, ← HBP.out]
  go_wp2_with (first
    | (go_at_call 43; (with_reducible refine (CL1.out _ (Below.refl _ _)).mono ?_); rintro o x1 ⟨rfl, h⟩; have HB1 : Hid (Below w1.heap.size w1 x1) := Lib.hid h; clear h)
    | (go_at_call 43; (with_reducible refine (CL2.out _ HB1.out).mono ?_); rintro o x2 ⟨rfl, h⟩; have HB2 : Hid (Below w1.heap.size w1 x2) := Lib.hid (HB1.out.trans (h.mono HB1.out.size)); have hx := HX.out _ HB2.out; have HXX := Lib.hid hx; have k0 : x2.cell? ⟨bp, 0, none⟩ = some (.string ⟨#[]⟩) := cellB hx rfl; have k1 : x2.cell? ⟨bp, 1, none⟩ = some (.string ⟨#[]⟩) := cellB hx rfl; have f0 : x2.frozen? ⟨bp, 0, none⟩ = false := frozB hx; have f1 : x2.frozen? ⟨bp, 1, none⟩ = false := frozB hx; clear h hx))
  rw [← HTT.out.1, ← HTT.out.2]
  have hx6 := blk_set2 (x := .string ta) (y := .string tb) HXX.out
  have m0 := cellB (k := 0) hx6 rfl
  have m1 := cellB (k := 1) hx6 rfl
  refine bodyPost_ret (v := .tuple #[.agg #[.string ta, .string tb], .int .i64 0]) (by simp [results, Tryz.results14, go_sem, m0, m1]) rfl ?_
  have hf := HF.out
  have hne : ¬ (a = b ∨ hleaf a ≠ hleaf b) := by
    rintro (h | h)
    · exact HAB.out h
    · exact h (by rw [← hf.1, ← hf.2.1])
  unfold EnQ
  rw [if_neg hne]
  exact ⟨ta, tb, rfl, ⟨HTT.out.1, HTT.out.2⟩, ((hf.2.2.1.trans (HB2.out.mono hf.2.2.1.size)).setCell (p := ⟨bp, 0, none⟩) (by show w.heap.size ≤ bp; omega) _).setCell (p := ⟨bp, 1, none⟩) (by show w.heap.size ≤ bp; omega) _⟩
end Go.Proofs.YtdbghgpohdijfaaGreatDoor
/- The document's Leaves. -/
namespace Go.Proofs.YtdbghgpohdijfaaGreatDoor
open Go.RowKit Go.Scr
set_option linter.unusedVariables false
/-- a pair and an error come out -/
def Rt (p q : ByteArray) (c : Int) (w : World) (e : Ending) (w' : World) : Prop := e = .returned (.tuple #[.agg #[.string p, .string q], .int .i64 c]) ∧ Below w.heap.size w w'
theorem pair_end6 {w w1 wx : World} {bp : Nat} {p q : ByteArray} {c : Int} (h1 : Below w.heap.size w w1) (hb : Below w1.heap.size w1 wx) (hp : w.heap.size ≤ bp) {e : Ending} (he : e = .returned (.tuple #[.agg #[.string p, .string q], .int .i64 c])) :
    Rt p q c w e ((wx.setCell ⟨bp, 0, none⟩ (.string p)).setCell ⟨bp, 1, none⟩ (.string q)) :=
  ⟨he, ((h1.trans (hb.mono h1.size)).setCell (p := ⟨bp, 0, none⟩) hp _).setCell (p := ⟨bp, 1, none⟩) hp _⟩
theorem Rt.of_no {d : Int} {p q : ByteArray} {c : Int} (h : NoS d p q c) : p = ⟨#[]⟩ ∧ q = ⟨#[]⟩ ∧ c = d := h
/-- the halves of a slice -/
structure Lv6 (wr : World) (pa pb : Option Addr) (ca cb k : Nat) (A B : List ByteArray) (p q : ByteArray) : Prop where
  a : Txts wr (.slice pa k ca) A
  b : Txts wr (.slice pb k cb) B
  la : A.length = k
  lb : B.length = k
  k4 : k ≤ 4096
  za : ∀ s ∈ A, s.size = 32
  zb : ∀ s ∈ B, s.size = 32
  ne : A ≠ B
  r : rootR A = rootR B
  d : DnR A B p q
theorem Lv6.pos {wr : World} {pa pb : Option Addr} {ca cb k : Nat} {A B : List ByteArray} {p q : ByteArray} (H : Lv6 wr pa pb ca cb k A B p q) : 2 ≤ k := by
  have h1 := H.la
  have h2 := H.lb
  rcases Nat.lt_or_ge k 2 with h | h
  · exfalso
    rcases Nat.eq_zero_or_pos k with h0 | h0
    · exact H.ne (by rw [List.eq_nil_of_length_eq_zero (h1.trans h0), List.eq_nil_of_length_eq_zero (h2.trans h0)])
    · exact H.ne (one_same (by omega) (by omega) H.r)
  · exact h
theorem Lv6.step {wr : World} {pa pb : Option Addr} {ca cb k : Nat} {A B : List ByteArray} {p q : ByteArray} (H : Lv6 wr pa pb ca cb k A B p q) :
    (topT A ≠ topT B → p = topT A ∧ q = topT B) ∧
    (topT A = topT B → A.take (spl k) ≠ B.take (spl k) → ∀ w', Below wr.heap.size wr w' → Lv6 w' pa pb ca cb (spl k) (A.take (spl k)) (B.take (spl k)) p q) ∧
    (topT A = topT B → A.take (spl k) = B.take (spl k) → ∀ w', Below wr.heap.size wr w' → Lv6 w' (pa.map (·.add (spl k))) (pb.map (·.add (spl k))) (ca - spl k) (cb - spl k) (k - spl k) (A.drop (spl k)) (B.drop (spl k)) p q) := by
  have h2 := H.pos
  have hs := spl_lt h2
  have hla := H.la
  have hlb := H.lb
  have hk4 := H.k4
  obtain ⟨d1, d2⟩ := down_step hla hlb h2 H.za H.zb H.ne H.r
  have htop : topT A = txtS (rootR (A.take (spl k))) (rootR (A.drop (spl k))) := by unfold topT; rw [hla]
  have htop2 : topT B = txtS (rootR (B.take (spl k))) (rootR (B.drop (spl k))) := by unfold topT; rw [hlb]
  refine ⟨fun hne => ?_, fun he ht w' hb => ?_, fun he ht w' hb => ?_⟩
  · have := H.d.one (DnR.here hne)
    exact this
  · obtain ⟨e1, e2, e3⟩ := d2 (by rw [← htop, ← htop2]; exact he)
    have hd : DnR (A.take (spl k)) (B.take (spl k)) p q := by
      have h := H.d
      cases h with
      | here hne => exact absurd he hne
      | left _ _ h3 => rwa [hla] at h3
      | right _ h3 _ => rw [hla] at h3; exact absurd h3 ht
    exact ⟨(H.a.below hb (Nat.le_refl _)).cutC (by omega), (H.b.below hb (Nat.le_refl _)).cutC (by omega), by rw [List.length_take]; omega, by rw [List.length_take]; omega, by omega, fun s hs => H.za s (List.mem_of_mem_take hs), fun s hs => H.zb s (List.mem_of_mem_take hs), ht, e1, hd⟩
  · obtain ⟨e1, e2, e3⟩ := d2 (by rw [← htop, ← htop2]; exact he)
    have hd : DnR (A.drop (spl k)) (B.drop (spl k)) p q := by
      have h := H.d
      cases h with
      | here hne => exact absurd he hne
      | left _ h3 _ => rw [hla] at h3; exact absurd ht h3
      | right _ _ h3 => rwa [hla] at h3
    exact ⟨(H.a.below hb (Nat.le_refl _)).rightC (by omega), (H.b.below hb (Nat.le_refl _)).rightC (by omega), by rw [List.length_drop]; omega, by rw [List.length_drop]; omega, by omega, fun s hs => H.za s (List.mem_of_mem_drop hs), fun s hs => H.zb s (List.mem_of_mem_drop hs), e3 ht, e2, hd⟩
end Go.Proofs.YtdbghgpohdijfaaGreatDoor
