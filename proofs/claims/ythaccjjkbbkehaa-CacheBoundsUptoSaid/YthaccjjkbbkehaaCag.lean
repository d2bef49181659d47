/- What stands between the calls of a law; the document's example. -/
import Derived.Test.YthaccjjkbbkehaaCaf
import Derived.Deep.RegionHeld3
namespace Go.Proofs.Ythaccjjkbbkehaa
open Go.RowKit Go.Scr Go.Maps
set_option linter.unusedVariables false

structure ST (w0 w : World) (col : Nat → Nat) : Prop where
  lo : ∀ g, col g ≠ 0 → w0.heap.size ≤ g ∧ g < w.heap.size
  bl : Below w0.heap.size w0 w
theorem ST.start (w : World) : ST w w (fun _ => 0) := ⟨fun g h => absurd rfl h, Below.refl _ _⟩
theorem ST.only {w0 w w' : World} {col : Nat → Nat} {κ : Nat} (h : ST w0 w col) (hκ : κ ≠ 0) (ho : Only col (fun g => g = κ) w w') : ST w0 w' col :=
  ⟨fun g hg => ⟨(h.lo g hg).1, Nat.lt_of_lt_of_le (h.lo g hg).2 ho.size⟩, h.bl.trans (ho.below (fun e => hκ e.symm) (fun g hg => (h.lo g hg).1) h.bl.size)⟩
theorem ST.turn {w0 w w' : World} {col col' : Nat → Nat} {κ : Nat} (h : ST w0 w col) (hκ : κ ≠ 0) (ht : Turn col col' κ w w') : ST w0 w' col' := by
  have h1 := h.only hκ ht.o
  refine ⟨fun g hg => ?_, h1.bl⟩
  by_cases he : col' g = col g
  · exact h1.lo g (by rw [← he]; exact hg)
  · obtain ⟨a, b, _⟩ := ht.n g he
    exact ⟨Nat.le_trans h.bl.size a, b⟩
theorem ST.below {w0 w w' : World} {col : Nat → Nat} (h : ST w0 w col) (hb : Below w.heap.size w w') : ST w0 w' col :=
  ⟨fun g hg => ⟨(h.lo g hg).1, Nat.lt_of_lt_of_le (h.lo g hg).2 hb.size⟩, below_on h.bl hb h.bl.size⟩
theorem ST.hi {w0 w : World} {col : Nat → Nat} (h : ST w0 w col) : ∀ g, col g ≠ 0 → g < w.heap.size := fun g hg => (h.lo g hg).2
/-- another cache's call -/
theorem Cash.other {w w' : World} {col col' : Nat → Nat} {κ μ cb n f m o : Nat} {L : List Ent} (h : Cash w col κ cb n f m o L) (hκ : κ ≠ μ) (ht : Turn col col' μ w w') : Cash w' col' κ cb n f m o L :=
  h.keep (fun g hg hc => ht.o.block g hg (by rw [hc]; exact hκ)) ht.a

abbrev sA : ByteArray := ⟨#[97]⟩
abbrev sB : ByteArray := ⟨#[98]⟩
abbrev sC : ByteArray := ⟨#[99]⟩
abbrev s123 : ByteArray := ⟨#[49, 50, 51]⟩
abbrev s12345 : ByteArray := ⟨#[49, 50, 51, 52, 53]⟩
abbrev s1 : ByteArray := ⟨#[49]⟩
theorem neAB : sA ≠ sB := by decide
theorem neAC : sA ≠ sC := by decide
theorem neBC : sB ≠ sC := by decide
theorem rest_1 (l : Nat) : rest 10 6 sB [⟨l, sA, s123, 0⟩] = [⟨l, sA, s123, 0⟩] := by rfl
theorem rest_2 (l m : Nat) : rest 10 2 sC [⟨l, sA, s123, 0⟩, ⟨m, sB, s12345, 0⟩] = [⟨l, sA, s123, 0⟩] := by rfl
theorem one_mem {P : Ent → Prop} {a : Ent} (h : P a) : ∀ e ∈ [a], P e := fun e he => by rw [List.mem_singleton.mp he]; exact h
theorem two_mem {P : Ent → Prop} {a b : Ent} (h : P a) (h2 : P b) : ∀ e ∈ [a, b], P e := fun e he => by
  rcases List.mem_cons.mp he with rfl | he
  · exact h
  · rw [List.mem_singleton.mp he]; exact h2
/-- three Puts, two Gets: how it stands -/
theorem tally_7 (l m : Nat) : wts [⟨l, sC, s1, 0⟩, ⟨m, sA, s123, 0⟩] = 6 ∧ pinw [⟨l, sC, s1, 0⟩, ⟨m, sA, s123, 0⟩] = 0 := ⟨rfl, rfl⟩
set_option maxRecDepth 100000 in
set_option maxHeartbeats 2000000 in
theorem cknown_any (w : World) :
    Calls Try.prog 6 #[] w fun e w' => e = .returned (.bool true) ∧ Below w.heap.size w w' := by
  have HS0 := Lib.hid (ST.start w)
  have CN : Hid (Calls Try.prog 8 #[.int .i64 10] w fun r w' => ∃ cb, r = .returned (.tuple #[bp cb, .int .i64 0]) ∧ NewPost w w' (fun _ => 0) 1 cb 10) := Lib.hid (cnew_any 10 w (fun _ => 0) 1 (by decide) (fun g h => absurd rfl h) (by decide))
  go_enter Try.func6, Try.ntmps6
  go_upto_region 4 with (first
    | (go_at_call 8; with_reducible refine (CN.out).mono ?_; rintro r w1 ⟨cb, rfl, hp⟩; have HP := Lib.hid hp; clear hp CN))
  obtain ⟨_, col1, ht1, _, hc1⟩ := HP.out
  have HS1 := Lib.hid (HS0.out.turn (by decide) ht1)
  have CP1 : Hid (Calls Try.prog 10 #[bp cb, .string sA, .string s123] w1 fun r w' => r = .returned (.int .i64 0) ∧ PutPost w1 w' col1 1 cb 10 0 0 0 sA s123 []) :=
    Lib.hid (put_new (by decide) HS1.out.hi hc1 (by decide) (fun e he => by cases he) (by decide) (by decide) (by decide) (by decide) (by decide) (by decide))
  clear HP ht1 hc1
  go_upto_region 5 with (first
    | (go_at_call 10; refine (CP1.out).mono ?_; rintro r w2 ⟨rfl, hp⟩; have HP1 := Lib.hid hp; clear hp CP1))
  obtain ⟨la, col2, ht2, hc2⟩ := HP1.out
  have HS2 := Lib.hid (HS1.out.turn (by decide) ht2)
  have hc2' : Cash w2 col2 1 cb 10 0 0 0 [⟨la, sA, s123, 0⟩] := hc2
  have CP2 : Hid (Calls Try.prog 10 #[bp cb, .string sB, .string s12345] w2 fun r w' => r = .returned (.int .i64 0) ∧ PutPost w2 w' col2 1 cb 10 0 0 0 sB s12345 [⟨la, sA, s123, 0⟩]) :=
    Lib.hid (put_new (by decide) HS2.out.hi hc2' (by decide) (one_mem neAB) (by decide) (by decide) (show 1 ≤ _ by decide) (by decide) (show 4 ≤ 10 by decide) (show 0 + 6 ≤ 10 by decide))
  clear HP1 ht2 hc2 hc2' HS1
  go_upto_region 6 with (first
    | (go_at_call 10; refine (CP2.out).mono ?_; rintro r w3 ⟨rfl, hp⟩; have HP2 := Lib.hid hp; clear hp CP2))
  obtain ⟨lb, col3, ht3, hc3⟩ := HP2.out
  have HS3 := Lib.hid (HS2.out.turn (by decide) ht3)
  have hc3' : Cash w3 col3 1 cb 10 0 0 0 ([⟨lb, sB, s12345, 0⟩] ++ ⟨la, sA, s123, 0⟩ :: []) := by
    have e : lput 10 lb sB s12345 [⟨la, sA, s123, 0⟩] = [⟨lb, sB, s12345, 0⟩] ++ ⟨la, sA, s123, 0⟩ :: [] := by rfl
    rw [e] at hc3
    exact hc3
  have CG : Hid (Calls Try.prog 9 #[bp cb, .string sA] w3 fun r w' => r = .returned (.tuple #[.string s123, .bool true]) ∧ Cash w' col3 1 cb 10 (0 + 1) 0 0 (⟨la, sA, s123, 0⟩ :: ([⟨lb, sB, s12345, 0⟩] ++ [])) ∧ Only col3 (fun g => g = 1) w3 w') :=
    Lib.hid (cget_in hc3' rfl (by decide))
  clear HP2 ht3 hc3 hc3' HS2
  go_upto_region 7 with (first
    | (go_at_call 9; refine (CG.out).mono ?_; rintro r w4 ⟨rfl, hc, ho⟩; have HC4 := Lib.hid hc; have HO4 := Lib.hid ho; clear hc ho CG))
  have HS4 := Lib.hid (HS3.out.only (by decide) HO4.out)
  have hc4 : Cash w4 col3 1 cb 10 1 0 0 [⟨la, sA, s123, 0⟩, ⟨lb, sB, s12345, 0⟩] := HC4.out
  have CP3 : Hid (Calls Try.prog 10 #[bp cb, .string sC, .string s1] w4 fun r w' => r = .returned (.int .i64 0) ∧ PutPost w4 w' col3 1 cb 10 1 0 0 sC s1 [⟨la, sA, s123, 0⟩, ⟨lb, sB, s12345, 0⟩]) :=
    Lib.hid (put_new (by decide) HS4.out.hi hc4 (by decide) (two_mem neAC neBC) (by decide) (by decide) (show 2 ≤ _ by decide) (by decide) (show 10 ≤ 10 by decide) (show 0 + 2 ≤ 10 by decide))
  clear HC4 HO4 hc4 HS3
  go_upto_region 8 with (first
    | (go_at_call 10; refine (CP3.out).mono ?_; rintro r w5 ⟨rfl, hp⟩; have HP3 := Lib.hid hp; clear hp CP3))
  obtain ⟨lc, col5, ht5, hc5⟩ := HP3.out
  have HS5 := Lib.hid (HS4.out.turn (by decide) ht5)
  have hc5' : Cash w5 col5 1 cb 10 1 0 1 [⟨lc, sC, s1, 0⟩, ⟨la, sA, s123, 0⟩] := by
    have e : lput 10 lc sC s1 [⟨la, sA, s123, 0⟩, ⟨lb, sB, s12345, 0⟩] = [⟨lc, sC, s1, 0⟩, ⟨la, sA, s123, 0⟩] := by rfl
    rw [e, show sC.size + s1.size = 2 from rfl, rest_2] at hc5
    exact hc5
  have CG2 : Hid (Calls Try.prog 9 #[bp cb, .string sB] w5 fun r w' => r = .returned (.tuple #[.string ⟨#[]⟩, .bool false]) ∧ Cash w' col5 1 cb 10 1 (0 + 1) 1 [⟨lc, sC, s1, 0⟩, ⟨la, sA, s123, 0⟩] ∧ Only col5 (fun g => g = 1) w5 w') :=
    Lib.hid (cget_out hc5' (two_mem neBC.symm neAB) (by decide) (by decide))
  clear HP3 ht5 hc5 hc5' HS4
  go_upto_region 9 with (first
    | (go_at_call 9; refine (CG2.out).mono ?_; rintro r w6 ⟨rfl, hc, ho⟩; have HC6 := Lib.hid hc; have HO6 := Lib.hid ho; clear hc ho CG2))
  have HS6 := Lib.hid (HS5.out.only (by decide) HO6.out)
  have CT : Hid (Calls Try.prog 12 #[bp cb] w6 fun r w' => r = .returned (.agg #[.int .i64 2, .int .i64 6, .int .i64 0, .int .i64 1, .int .i64 1, .int .i64 1]) ∧ Below w6.heap.size w6 w') := Lib.hid (ctally_any HC6.out)
  clear HC6 HO6 HS5
  go_wp2_with (first
    | (go_at_call 12; refine (CT.out).mono ?_; rintro r w7 ⟨rfl, hb⟩; have HB7 := Lib.hid hb; clear hb CT))
  go_ret
  have hst := HS6.out.below HB7.out
  exact ⟨rfl, hst.bl.alloc hst.bl.size _⟩
end Go.Proofs.Ythaccjjkbbkehaa
