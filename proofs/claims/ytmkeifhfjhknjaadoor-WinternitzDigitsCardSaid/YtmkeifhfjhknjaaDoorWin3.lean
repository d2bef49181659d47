/- The law's first calls, walked. -/
import Derived.Test.YtmkeifhfjhknjaaDoorWin2
namespace Go.Proofs.YtmkeifhfjhknjaaDoor
open Go.RowKit Go.Scr
set_option linter.unusedVariables false

theorem dig_known : (digs (dig ⟨#[]⟩)).take 4 = [6, 2, 12, 6] := by decide +kernel

set_option maxRecDepth 100000 in
set_option maxHeartbeats 400000 in
theorem wsize_any (w : World) : Calls Tryd.prog 17 #[] w fun e w' => e = .returned (.int .i64 2144) ∧ w' = w := by
  go_enter Tryd.func17, Tryd.ntmps17
  go_wp2
  go_ret
  exact ⟨rfl, rfl⟩

theorem numV_get {l : List Nat} {j : Nat} (hj : j < l.length) : (numV l)[j]? = some (.int .i64 ((l.getD j 0 : Nat) : Int)) := by
  unfold numV
  rw [List.getElem?_map, List.getD_eq_getElem?_getD, List.getElem?_eq_getElem hj]
  rfl
theorem digs_length (d : List UInt8) (h : d.length = 32) : (digs d).length = 67 := by
  unfold digs
  rw [List.length_append, nibs_length, h]
  rfl
set_option maxRecDepth 100000 in
set_option maxHeartbeats 400000 in
theorem wknown_any (w : World) (ht : Tabs w) :
    Calls Tryd.prog 5 #[] w fun e w' => e = .returned (.bool true) ∧ Below w.heap.size w w' := by
  have h := wdigits_any ⟨#[]⟩ w ht (by decide)
  have H := Lib.hid h
  have HK := Lib.hid dig_known
  have HL := Lib.hid (digs_length _ (dig_length ⟨#[]⟩))
  obtain ⟨A, hA⟩ : ∃ A, A = digs (dig ⟨#[]⟩) := ⟨_, rfl⟩
  rw [← hA] at H HK HL
  clear hA h ht
  have k0 : A.getD 0 0 = 6 := by
    have := congrArg (fun l => l.getD 0 0) HK.out
    simpa [List.getD_eq_getElem?_getD, List.getElem?_take] using this
  have k1 : A.getD 1 0 = 2 := by
    have := congrArg (fun l => l.getD 1 0) HK.out
    simpa [List.getD_eq_getElem?_getD, List.getElem?_take] using this
  have k2 : A.getD 2 0 = 12 := by
    have := congrArg (fun l => l.getD 2 0) HK.out
    simpa [List.getD_eq_getElem?_getD, List.getElem?_take] using this
  have k3 : A.getD 3 0 = 6 := by
    have := congrArg (fun l => l.getD 3 0) HK.out
    simpa [List.getD_eq_getElem?_getD, List.getElem?_take] using this
  have HK4 := Lib.hid (And.intro k0 (And.intro k1 (And.intro k2 k3)))
  clear k0 k1 k2 k3
  go_enter Tryd.func5, Tryd.ntmps5
  go_wp2_with (first
    | (go_at_call 6; refine H.out.mono ?_; rintro e w1 ⟨g, c, rfl, hown, hb1⟩; have c0 := owns_cell hown (j := 0) (by omega); have c1 := owns_cell hown (j := 1) (by omega); have c2 := owns_cell hown (j := 2) (by omega); have c3 := owns_cell hown (j := 3) (by omega); rw [numV_get (by rw [HL.out]; omega), HK4.out.1] at c0; rw [numV_get (by rw [HL.out]; omega), HK4.out.2.1] at c1; rw [numV_get (by rw [HL.out]; omega), HK4.out.2.2.1] at c2; rw [numV_get (by rw [HL.out]; omega), HK4.out.2.2.2] at c3; have HB1 := Lib.hid hb1; clear hb1 hown)
    | (go_at_call 17; refine (wsize_any _).mono ?_; rintro e w2 ⟨rfl, rfl⟩))
  go_ret
  exact ⟨rfl, HB1.out⟩

/-- the digest of a text, as it is signed -/
theorem dsumm_any (s : ByteArray) (w : World) (ht : Tabs w) (hl : s.size ≤ 140737488355199) :
    Calls Tryd.prog 18 #[.slice (some ⟨w.heap.size, 0, none⟩) 2 2] (w.alloc (.cells #[.string ⟨#[109]⟩, .string s] 9)) fun e w' => e = .returned (.string (str (dig s))) ∧ Below w.heap.size w w' := by
  have h := sum_any (.slice (some ⟨w.heap.size, 0, none⟩) 2 2) [⟨#[109]⟩, s] (w.alloc (.cells #[.string ⟨#[109]⟩, .string s] 9)) (ht.below ((Below.refl _ _).alloc (Nat.le_refl _) _)) (txts_alloc w 9 [⟨#[109]⟩, s] (by simp)) (by simp [cat]; omega)
  refine h.mono ?_
  rintro e w1 ⟨rfl, hb⟩
  exact ⟨by simp [cat, dig, str], below_from ((Below.refl _ _).alloc (Nat.le_refl _) _) hb (by simp)⟩
end Go.Proofs.YtmkeifhfjhknjaaDoor
