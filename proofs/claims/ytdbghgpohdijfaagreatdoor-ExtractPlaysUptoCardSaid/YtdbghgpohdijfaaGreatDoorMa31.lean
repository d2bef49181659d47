/- extract.caught: what a walk gives up is caught. -/
import Derived.Test.YtdbghgpohdijfaaGreatDoorMa30
import Derived.Defers
import Derived.Recover
import Derived.Laws.Pointers
namespace Go.Proofs.YtdbghgpohdijfaaGreatDoor
open Go.RowKit Go.Scr
set_option linter.unusedVariables false
theorem two_blocksE (w : World) (a b : Array Value) (S T : TypeId) :
    ((w.alloc (.cells a S)).alloc (.cells b T)).heap[w.heap.size]? = some (.cells a S (0, 0)) ∧
    ((w.alloc (.cells a S)).alloc (.cells b T)).heap[w.heap.size + 1]? = some (.cells b T (0, 0)) ∧
    Below w.heap.size w ((w.alloc (.cells a S)).alloc (.cells b T)) := by
  refine ⟨blk_alloc (heap_alloc_new w _), ?_, ((Below.refl _ _).alloc (Nat.le_refl _) _).alloc (by simp) _⟩
  have := heap_alloc_new (w.alloc (.cells a S)) (.cells b T)
  rwa [show (w.alloc (.cells a S)).heap.size = w.heap.size + 1 by simp] at this
set_option maxRecDepth 100000 in
set_option maxHeartbeats 1000000 in
theorem catch_panicking (gp ge : Nat) (a b : ByteArray) (v0 v1 v2 : Value) (w : World) (h0 : w.cell? ⟨gp, 0, none⟩ = some v0) (h1 : w.cell? ⟨gp, 1, none⟩ = some v1) (h2 : w.cell? ⟨ge, 0, none⟩ = some v2) (f0 : w.frozen? ⟨gp, 0, none⟩ = false) (f1 : w.frozen? ⟨gp, 1, none⟩ = false) (f2 : w.frozen? ⟨ge, 0, none⟩ = false) (hne : gp ≠ ge) :
    CallsD Tryz.prog 53 #[.pointer (some ⟨gp, 0, none⟩), .pointer (some ⟨ge, 0, none⟩)] (.panicking ({ v := foundV a b, recovered := false } :: [])) w fun e u' w' =>
      e = .returned (.tuple #[]) ∧ u' = .panicking ({ v := foundV a b, recovered := true } :: []) ∧ w' = ((w.setCell ⟨gp, 0, none⟩ (.string a)).setCell ⟨gp, 1, none⟩ (.string b)).setCell ⟨ge, 0, none⟩ (.int .i64 0) := by
  have hta : ∀ w : World, (Instr.typeAssert (foundV a b) 20 76 false).run Tryz.prog w = .ok (.agg #[.string a, .string b]) w := fun w => by kernel_rfl
  have hfi : ∀ w : World, (Instr.field 76 (.agg #[.string a, .string b]) 0).run Tryz.prog w = .ok (.agg #[.string a, .string b]) w := fun w => by kernel_rfl
  refine callsD_of_wpS Tryz.func53 rfl fun c₀ cs hu => ?_
  apply wpS_seq
  apply wpS_region
  simp [wpOpsS, go_sem, recoverD, hu, Tryz.ntmps53, Exit.thenS]
  apply wpS_seq
  apply wpS_region
  simp [wpOpsS, go_sem, Exit.thenS]
  refine wpS_cond (t := true) (by simp [Act.eval, Array.replicate]) ?_
  simp only [if_true]
  apply wpS_region
  simp [wpOpsS, go_sem, hta, hfi, h0, h1, h2, f0, f1, f2, bodyPostS, results, Tryz.results53]
/-- a pair of unlike texts of one digest -/
def PairP (w : World) (e : Ending) (w' : World) : Prop := ∃ p q, e = .returned (.tuple #[.agg #[.string p, .string q], .int .i64 0]) ∧ p ≠ q ∧ (shaS p = shaS q ∧ p.size ≤ 2000000 ∧ q.size ≤ 2000000) ∧ Below w.heap.size w w'
set_option maxRecDepth 100000 in
set_option maxHeartbeats 1000000 in
theorem caughtL_any (ba bb : Nat) (w : World) (HC : Hid (∀ w', Below w.heap.size w w' → Calls Tryz.prog 33 #[.pointer (some ⟨ba, 0, none⟩), .pointer (some ⟨bb, 0, none⟩)] w' (DownP w'))) :
    Calls Tryz.prog 23 #[.func (.func 33) #[] #[.pointer (some ⟨ba, 0, none⟩), .pointer (some ⟨bb, 0, none⟩)]] w (PairP w) := by
  have hmf : ∀ (fn : Fn) (first cap : Array Value) (w : World), (Instr.makeFunc fn first cap).run Tryz.prog w = .ok (.func fn first cap) w := fun _ _ _ _ => rfl
  obtain ⟨x0, x1, x2⟩ := two_blocksE w #[.string ⟨#[]⟩, .string ⟨#[]⟩] #[.int .i64 0] 26 27
  have HX := Lib.hid (And.intro x0 (And.intro x1 x2))
  have HC2 := Lib.hid (HC.out _ x2)
  clear x0 x1 x2
  go_enter_defers Tryz.func23, Tryz.ntmps23
  go_wp2_with fail
  refine HC2.out.mono ?_
  rintro o z ⟨p, q, rfl, hpq, hsh, hb⟩
  obtain ⟨x0, x1, x2⟩ := HX.out
  have y0 := blk_below x0 hb (blk_lt x0)
  have y1 := blk_below x1 hb (blk_lt x1)
  refine leaves_cons (f := 53) (args := #[.pointer (some ⟨w.heap.size, 0, none⟩), .pointer (some ⟨w.heap.size + 1, 0, none⟩)]) (by simp) (by simp [go_sem]) ?_
  refine (catch_panicking w.heap.size (w.heap.size + 1) p q _ _ _ _ (cellB y0 rfl) (cellB y0 rfl) (cellB y1 rfl) (frozB y0) (frozB y0) (frozB y1) (by omega)).mono ?_
  rintro e u' w'' ⟨rfl, rfl, rfl⟩
  have hx6 := blk_set (blk_set y0 0 (.string p)) 1 (.string q)
  obtain ⟨wf, hwf⟩ : ∃ x, x = ((z.setCell ⟨w.heap.size, 0, none⟩ (.string p)).setCell ⟨w.heap.size, 1, none⟩ (.string q)).setCell ⟨w.heap.size + 1, 0, none⟩ (.int .i64 0) := ⟨_, rfl⟩
  have hx7 : wf.heap[w.heap.size]? = some (.cells #[.string p, .string q] 26 (0, 0)) := by
    rw [hwf, Below.heap_setCell _ ⟨w.heap.size + 1, 0, none⟩ _ _ (by show w.heap.size ≠ w.heap.size + 1; omega)]
    exact hx6
  have hy7 : wf.heap[w.heap.size + 1]? = some (.cells #[.int .i64 0] 27 (0, 0)) := by
    rw [hwf]
    refine blk_set (cs := #[.int .i64 0]) ?_ 0 _
    rw [Below.heap_setCell _ ⟨w.heap.size, 1, none⟩ _ _ (by show w.heap.size + 1 ≠ w.heap.size; omega), Below.heap_setCell _ ⟨w.heap.size, 0, none⟩ _ _ (by show w.heap.size + 1 ≠ w.heap.size; omega)]
    exact y1
  have hbf : Below w.heap.size w wf := by
    rw [hwf]
    exact (((x2.trans (hb.mono x2.size)).setCell (p := ⟨w.heap.size, 0, none⟩) (Nat.le_refl _) _).setCell (p := ⟨w.heap.size, 1, none⟩) (Nat.le_refl _) _).setCell (p := ⟨w.heap.size + 1, 0, none⟩) (Nat.le_succ _) _
  have m0 : wf.cell? ⟨w.heap.size, 0, none⟩ = some (.string p) := cellB hx7 rfl
  have m1 : wf.cell? ⟨w.heap.size, 1, none⟩ = some (.string q) := cellB hx7 rfl
  have m2 : wf.cell? ⟨w.heap.size + 1, 0, none⟩ = some (.int .i64 0) := cellB hy7 rfl
  rw [← hwf]
  clear hwf hx6 x0 x1 x2 y0 y1 hb
  simp [Leaves, settle, results, Tryz.results23, go_sem, m0, m1, m2]
  exact ⟨p, q, rfl, hpq, hsh, hbf⟩
end Go.Proofs.YtdbghgpohdijfaaGreatDoor
/- extract.Leaves, Entries: walked. -/
namespace Go.Proofs.YtdbghgpohdijfaaGreatDoor
open Go.RowKit Go.Scr
set_option linter.unusedVariables false
theorem three_blocksE (w : World) (a b c : Array Value) (S T U : TypeId) :
    (((w.alloc (.cells a S)).alloc (.cells b T)).alloc (.cells c U)).heap[w.heap.size]? = some (.cells a S (0, 0)) ∧
    (((w.alloc (.cells a S)).alloc (.cells b T)).alloc (.cells c U)).heap[w.heap.size + 1]? = some (.cells b T (0, 0)) ∧
    (((w.alloc (.cells a S)).alloc (.cells b T)).alloc (.cells c U)).heap[w.heap.size + 1 + 1]? = some (.cells c U (0, 0)) ∧
    Below w.heap.size w (((w.alloc (.cells a S)).alloc (.cells b T)).alloc (.cells c U)) := by
  refine ⟨blk_alloc (blk_alloc (heap_alloc_new w _)), blk_alloc ?_, ?_, (((Below.refl _ _).alloc (Nat.le_refl _) _).alloc (by simp) _).alloc (by simp; omega) _⟩
  · have := heap_alloc_new (w.alloc (.cells a S)) (.cells b T)
    rwa [show (w.alloc (.cells a S)).heap.size = w.heap.size + 1 by simp] at this
  · have := heap_alloc_new ((w.alloc (.cells a S)).alloc (.cells b T)) (.cells c U)
    rwa [show ((w.alloc (.cells a S)).alloc (.cells b T)).heap.size = w.heap.size + 1 + 1 by simp] at this
set_option maxRecDepth 100000 in
set_option maxHeartbeats 1000000 in
theorem leaves1_any {w : World} {ba bb : Nat} {va vb : Value} {A B : List ByteArray} (ht : Tabs w) (ca : w.cell? ⟨ba, 0, none⟩ = some va) (cb : w.cell? ⟨bb, 0, none⟩ = some vb) (hva : Txts w va A) (hvb : Txts w vb B)
    (hl : A.length = B.length) (h4 : A.length ≤ 4096) (h32a : ∀ s ∈ A, s.size = 32) (h32b : ∀ s ∈ B, s.size = 32) (hne : A ≠ B) (hr : rootR A = rootR B) :
    Calls Tryz.prog 33 #[.pointer (some ⟨ba, 0, none⟩), .pointer (some ⟨bb, 0, none⟩)] w (DownP w) := by
  have h1 : 1 ≤ A.length := by
    rcases Nat.eq_zero_or_pos A.length with h | h
    · exact absurd (by rw [List.eq_nil_of_length_eq_zero h, List.eq_nil_of_length_eq_zero (by omega : B.length = 0)]) hne
    · exact h
  have CD := Lib.hid (down_any A.length A B va vb w ht hva hvb rfl hl.symm h1 h4 h32a h32b hne hr)
  clear ht hva hvb hl h4 h32a h32b hne hr h1
  go_enter Tryz.func33, Tryz.ntmps33
  go_wp2_with fail
  refine CD.out.mono ?_
  rintro o z h
  obtain ⟨p, q, rfl, _⟩ := id h
  exact ⟨rfl, h⟩
/-- what Leaves tells -/
def lvNo (A B : List ByteArray) : Bool := decide (A.length ≠ B.length) || decide (4096 < A.length) || !ok32 A || !ok32 B
def NoneP (c : Int) (w : World) (e : Ending) (w' : World) : Prop := e = .returned (.tuple #[.agg #[.string ⟨#[]⟩, .string ⟨#[]⟩], .int .i64 c]) ∧ Below w.heap.size w w'
theorem blk_set2 {w : World} {g : Nat} {a b x y : Value} {T : TypeId} (h : w.heap[g]? = some (.cells #[a, b] T (0, 0))) : ((w.setCell ⟨g, 0, none⟩ x).setCell ⟨g, 1, none⟩ y).heap[g]? = some (.cells #[x, y] T (0, 0)) := by
  have := blk_set (blk_set h 0 x) 1 y
  exact this
set_option maxRecDepth 100000 in
set_option maxHeartbeats 4000000 in
theorem leaves_arg {w : World} {va vb : Value} {A B : List ByteArray} (ht : Tabs w) (hva : Txts w va A) (hvb : Txts w vb B) (hno : lvNo A B = true) :
    Calls Tryz.prog 9 #[va, vb] w (NoneP 1 w) := by
  obtain ⟨w3, hw3⟩ : ∃ x, x = ((w.alloc (.cells #[va] 22)).alloc (.cells #[vb] 22)).alloc (.cells #[.string ⟨#[]⟩, .string ⟨#[]⟩] 26) := ⟨_, rfl⟩
  obtain ⟨x0, x1, x2, x3⟩ := three_blocksE w #[va] #[vb] #[.string ⟨#[]⟩, .string ⟨#[]⟩] 22 22 26
  rw [← hw3] at x0 x1 x2 x3
  obtain ⟨ba, hba⟩ : ∃ x, x = w.heap.size := ⟨_, rfl⟩
  obtain ⟨bb, hbb⟩ : ∃ x, x = w.heap.size + 1 := ⟨_, rfl⟩
  obtain ⟨bp, hbp⟩ : ∃ x, x = w.heap.size + 1 + 1 := ⟨_, rfl⟩
  rw [← hba] at x0
  rw [← hbb] at x1
  rw [← hbp] at x2
  have CH1 := Lib.hid (ehashes_any va A w3 (hva.below x3 (Nat.le_refl _)))
  have CH2 := Lib.hid (ehashes_any vb B w3 (hvb.below x3 (Nat.le_refl _)))
  obtain ⟨pa, ca, rfl, ha1, ha2, _⟩ := hva
  obtain ⟨pb, cb, rfl, hb1, hb2, _⟩ := hvb
  obtain ⟨n, hn⟩ : ∃ n, n = A.length := ⟨_, rfl⟩
  obtain ⟨m, hm⟩ : ∃ n, n = B.length := ⟨_, rfl⟩
  unfold lvNo at hno
  obtain ⟨o1, ho1⟩ : ∃ n, n = ok32 A := ⟨_, rfl⟩
  obtain ⟨o2, ho2⟩ : ∃ n, n = ok32 B := ⟨_, rfl⟩
  rw [← hn, ← ho1] at CH1
  rw [← hm, ← ho2] at CH2
  rw [← hn] at x0 ha2
  rw [← hm] at x1 hb2
  rw [← hn, ← hm, ← ho1, ← ho2] at hno
  rw [← hn, ← hm] at hw3 ⊢
  have c0 : w3.cell? ⟨ba, 0, none⟩ = some (.slice pa n ca) := cellB x0 rfl
  have c1 : w3.cell? ⟨bb, 0, none⟩ = some (.slice pb m cb) := cellB x1 rfl
  have k0 : w3.cell? ⟨bp, 0, none⟩ = some (.string ⟨#[]⟩) := cellB x2 rfl
  have k1 : w3.cell? ⟨bp, 1, none⟩ = some (.string ⟨#[]⟩) := cellB x2 rfl
  have f0 : w3.frozen? ⟨bp, 0, none⟩ = false := frozB x2
  have f1 : w3.frozen? ⟨bp, 1, none⟩ = false := frozB x2
  have hx6 := blk_set2 (x := .string ⟨#[]⟩) (y := .string ⟨#[]⟩) x2
  have hfin : NoneP 1 w (.returned (.tuple #[.agg #[.string ⟨#[]⟩, .string ⟨#[]⟩], .int .i64 1])) ((w3.setCell ⟨bp, 0, none⟩ (.string ⟨#[]⟩)).setCell ⟨bp, 1, none⟩ (.string ⟨#[]⟩)) :=
    ⟨rfl, (x3.setCell (p := ⟨bp, 0, none⟩) (by show w.heap.size ≤ bp; omega) _).setCell (p := ⟨bp, 1, none⟩) (by show w.heap.size ≤ bp; omega) _⟩
  have HFIN := Lib.hid hfin
  have HX6 := Lib.hid hx6
  have HW3 := Lib.hid hw3
  have HBA := Lib.hid hba
  have HBB := Lib.hid hbb
  have HBP := Lib.hid hbp
  clear ht hn hm ho1 ho2 ha1 ha2 hb1 hb2 x0 x1 x2 x3 hba hbb hbp hw3 hx6 hfin
  have hfi : ∀ w' : World, True := fun _ => trivial
  by_cases h1 : n = m
  case neg =>
    have e1 : ((n : Int) == (m : Int)) = false := by rw [beq_eq_false_iff_ne]; omega
    have e1b : ((n : Int) != (m : Int)) = true := by rw [bne_iff_ne]; omega
    have e1c : ¬ (n : Int) = (m : Int) := by omega
    have e1d : ¬ n = m := h1
    clear h1 hno hfi
    go_enter Tryz.func9, Tryz.ntmps9
    go_upto_region 1 with fail
    rw [← HW3.out, ← HBP.out, ← HBB.out, ← HBA.out]
    go_wp2_with fail
    have m0 := cellB (k := 0) HX6.out rfl
    have m1 := cellB (k := 1) HX6.out rfl
    refine bodyPost_ret (v := .tuple #[.agg #[.string ⟨#[]⟩, .string ⟨#[]⟩], .int .i64 1]) (by simp [results, Tryz.results9, go_sem, m0, m1]) rfl HFIN.out
  subst h1
  have e1 : ((n : Int) == (n : Int)) = true := by simp
  by_cases h2 : 4096 < n
  case pos =>
    have e2 : (4096 : Int) < (n : Int) := by omega
    clear h2 hno hfi
    go_enter Tryz.func9, Tryz.ntmps9
    go_upto_region 1 with fail
    rw [← HW3.out, ← HBP.out, ← HBB.out, ← HBA.out]
    go_wp2_with fail
    have m0 := cellB (k := 0) HX6.out rfl
    have m1 := cellB (k := 1) HX6.out rfl
    refine bodyPost_ret (v := .tuple #[.agg #[.string ⟨#[]⟩, .string ⟨#[]⟩], .int .i64 1]) (by simp [results, Tryz.results9, go_sem, m0, m1]) rfl HFIN.out
  have e2 : ¬ (4096 : Int) < (n : Int) := by omega
  cases o1 with
  | false =>
    clear h2 hno hfi
    go_enter Tryz.func9, Tryz.ntmps9
    go_upto_region 1 with fail
    rw [← HW3.out, ← HBP.out, ← HBB.out, ← HBA.out]
    go_wp2_with (go_at_call 31; (with_reducible refine CH1.out.mono ?_); rintro o z ⟨rfl, hx⟩; rw [hx]; clear hx z)
    have m0 := cellB (k := 0) HX6.out rfl
    have m1 := cellB (k := 1) HX6.out rfl
    refine bodyPost_ret (v := .tuple #[.agg #[.string ⟨#[]⟩, .string ⟨#[]⟩], .int .i64 1]) (by simp [results, Tryz.results9, go_sem, m0, m1]) rfl HFIN.out
  | true =>
    cases o2 with
    | true => simp [h2] at hno
    | false =>
      clear h2 hno hfi
      go_enter Tryz.func9, Tryz.ntmps9
      go_upto_region 1 with fail
      rw [← HW3.out, ← HBP.out, ← HBB.out, ← HBA.out]
      go_wp2_with (first
        | (go_at_call 31; (with_reducible refine CH1.out.mono ?_); rintro o z ⟨rfl, hx⟩; rw [hx]; clear hx z CH1)
        | (go_at_call 31; (with_reducible refine CH2.out.mono ?_); rintro o z ⟨rfl, hx⟩; rw [hx]; clear hx z))
      have m0 := cellB (k := 0) HX6.out rfl
      have m1 := cellB (k := 1) HX6.out rfl
      refine bodyPost_ret (v := .tuple #[.agg #[.string ⟨#[]⟩, .string ⟨#[]⟩], .int .i64 1]) (by simp [results, Tryz.results9, go_sem, m0, m1]) rfl HFIN.out
end Go.Proofs.YtdbghgpohdijfaaGreatDoor
