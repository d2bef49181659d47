/- Layer 4, walked: begin, PathLen, ProofLen. -/
import Derived.Test.YtmlekeegmdpjkaaDoorVer1
import Derived.Test.YtmlekeegmdpjkaaDoorDig4
import Derived.StillTailTactics
import Derived.Laws.ResultCell
namespace Go.Proofs.YtmlekeegmdpjkaaDoor
open Go.RowKit Go.Scr
set_option linter.unusedVariables false

theorem results_row_tmp {P : Program} {fn : Func} {p u : Tmp} {ty : TypeId} (h : fn.results = #[.cell p ty, .tmp u]) (tmps : Array Value) (w : World) (g : Nat) (t : TypeId) (cs : Array Value) (fr : Nat × Nat) (d : TypeDesc)
    (hp : tmps.getD p undef = .pointer (some ⟨g, 0, none⟩)) (hg : w.heap[g]? = some (.cells cs t fr))
    (hu : P.underlying ty = some d) (hd : (match d with | .struct _ | .array _ _ => true | _ => false) = true) (hi : (P.info? ty).map (·.size) = some cs.size) :
    (results fn tmps).run P w = .ok (.tuple #[.agg cs, tmps.getD u undef]) w := by
  have hp' : tmps[p]?.getD undef = .pointer (some ⟨g, 0, none⟩) := by simpa using hp
  rw [results_cell_tmp h, hp]
  simp only [asAddr, Sem.run_pure, Result.andThen_ok, run_loadVar_row w g t ty cs fr d hg hu hd hi]
theorem two_one (x y : Nat) : (#[Value.int .i64 (x : Int), Value.int .i64 (y : Int)]).all (·.oneCell') = true := by
  rw [Array.all_eq_true_iff_forall_mem]
  intro v hv
  simp only [List.mem_toArray, List.mem_cons, List.not_mem_nil, or_false] at hv
  rcases hv with rfl | rfl <;> rfl

set_option maxRecDepth 100000 in
set_option maxHeartbeats 1000000 in
theorem begin_any (f s : Nat) (w : World) (h1 : 1 ≤ f) (h2 : f ≤ s) (h3 : s ≤ 1099511627776) :
    Calls Tryd.prog 59 #[.int .i64 f, .int .i64 s] w fun e w' => e = .returned (.tuple #[.agg #[.int .i64 (((strip (f - 1) (s - 1)).1 : Nat) : Int), .int .i64 (((strip (f - 1) (s - 1)).2 : Nat) : Int)], .bool ((strip (f - 1) (s - 1)).1 == 0)]) ∧ Below w.heap.size w w' := by
  obtain ⟨a, ha⟩ : ∃ a, a = f - 1 := ⟨_, rfl⟩
  obtain ⟨l, hl⟩ : ∃ l, l = s - 1 := ⟨_, rfl⟩
  have e1 : (f : Int) - 1 = (a : Int) := by omega
  have e2 : (s : Int) - 1 = (l : Int) := by omega
  have hab : a ≤ 1099511627776 := by omega
  have hlb : l ≤ 1099511627776 := by omega
  rw [← ha, ← hl]
  clear ha hl
  go_enter Tryd.func59, Tryd.ntmps59
  go_wp2
  obtain ⟨r, hr⟩ : ∃ r, r = w.heap.size := ⟨_, rfl⟩
  have hc0 : Climb ((w.alloc (.cells #[.int .i64 0, .int .i64 0] 71)).alloc (.cells #[.int .i64 a, .int .i64 l] 71)) (r + 1) a l := heap_alloc_at _ _ _ (by rw [hr]; simp)
  have hr0 : Climb ((w.alloc (.cells #[.int .i64 0, .int .i64 0] 71)).alloc (.cells #[.int .i64 a, .int .i64 l] 71)) r ((0 : Nat)) ((0 : Nat)) := blk_alloc (heap_alloc_at _ _ _ hr)
  have hb0 : Below w.heap.size w ((w.alloc (.cells #[.int .i64 0, .int .i64 0] 71)).alloc (.cells #[.int .i64 a, .int .i64 l] 71)) := ((Below.refl _ _).alloc (Nat.le_refl _) _).alloc (by simp) _
  generalize (w.alloc (.cells #[.int .i64 0, .int .i64 0] 71)).alloc (.cells #[.int .i64 a, .int .i64 l] 71) = w1 at hc0 hr0 hb0 ⊢
  rw [← hr]
  rw [← hr] at hb0
  have HR := Lib.hid hr
  have HC0 := Lib.hid hc0
  have HR0 := Lib.hid hr0
  have HB0 := Lib.hid hb0
  clear hr hc0 hr0 hb0
  go_loopw [] (fun wr => ∃ x y : Nat, Hid (strip x y = strip a l) ∧ x ≤ 1099511627776 ∧ y ≤ 1099511627776 ∧ Climb wr (r + 1) x y ∧ Climb wr r (0 : Nat) (0 : Nat) ∧ Below r w wr) (fun wr => climbAt wr (r + 1))
  case atStart => exact ⟨a, l, Lib.hid rfl, hab, hlb, HC0.out, HR0.out, HB0.out⟩
  case round =>
    clear HC0 HR0 HB0
    obtain ⟨x, y, HS, hx, hy, hc, hr0, hbel⟩ := hrel
    have HC := Lib.hid hc
    have HR0 := Lib.hid hr0
    have HBEL := Lib.hid hbel
    have HAT := Lib.hid hc.at_
    have c0 := hc.c0
    clear hc hr0 hbel
    have hz0 : (0 : Int) ≤ (x : Int) := Int.natCast_nonneg _
    by_cases ho : x % 2 = 1
    · have q2 : (x : Int).tmod 2 = 1 := by rw [Int.tmod_eq_emod_of_nonneg hz0]; omega
      have HO := Lib.hid ho
      clear hz0 ho
      go_wp2_with (go_at_call 95; with_reducible refine (half_any (r + 1) x y _ HC.out hx hy).mono ?_; rintro e w3 ⟨rfl, hc3, hg3⟩; have HC3 := Lib.hid hc3; have HG3 := Lib.hid hg3; clear hc3 hg3)
      go_roundw
      case rel => exact ⟨x / 2, y / 2, Lib.hid (by rw [← HS.out, ← strip_odd y HO.out]), by omega, by omega, HC3.out, blk_only HR0.out HG3.out (by simp), below_only HBEL.out HG3.out (Nat.le_of_lt (blk_lt HR0.out)) (by omega)⟩
      case measure => rw [HC3.out.at_, HAT.out]; have := HO.out; omega
    · have q2 : (x : Int).tmod 2 = 0 := by rw [Int.tmod_eq_emod_of_nonneg hz0]; omega
      have HO := Lib.hid ho
      clear hz0 ho
      go_wp2
      have e0 : wr.cell? ⟨r, 0, none⟩ = some (.int .i64 0) := HR0.out.c0
      have e1 : wr.cell? ⟨r, 1, none⟩ = some (.int .i64 0) := HR0.out.c1
      have f0 : wr.frozen? ⟨r, 0, none⟩ = false := HR0.out.k 0
      have f1 : wr.frozen? ⟨r, 1, none⟩ = false := HR0.out.k 1
      have g1 : wr.cell? ⟨r + 1, 1, none⟩ = some (.int .i64 y) := HC.out.c1
      have HS1 : Hid (Climb (wr.setCell ⟨r, 0, none⟩ (.int .i64 x)) r x (0 : Nat)) := Lib.hid (HR0.out.set0 x)
      have HS2 : Hid (Climb (((wr.setCell ⟨r, 0, none⟩ (.int .i64 x)).setCell ⟨r, 1, none⟩ (.int .i64 y)).drew) r x y) := Lib.hid (HS1.out.set1 y)
      have HBEL2 : Hid (Below r w (((wr.setCell ⟨r, 0, none⟩ (.int .i64 x)).setCell ⟨r, 1, none⟩ (.int .i64 y)).drew)) := Lib.hid (below_only (below_only HBEL.out (grow_cell wr r 0 (.int .i64 x)) (Nat.le_of_lt (blk_lt HR0.out)) (Nat.le_refl r)) (grow_cell _ r 1 (.int .i64 y)) (Nat.le_of_lt (blk_lt HS1.out)) (Nat.le_refl r)).drew
      have HXY := Lib.hid (HS.out.symm.trans (strip_even y (by have := HO.out; omega)))
      go_region
      generalize ((wr.setCell ⟨r, 0, none⟩ (.int .i64 x)).setCell ⟨r, 1, none⟩ (.int .i64 y)).drew = w4 at HS2 HBEL2 ⊢
      clear e0 e1 f0 f1 g1 c0
      go_wp2
      refine bodyPost_ret (results_row_tmp (p := 4) (u := 5) rfl _ _ r 71 _ (0, 0) _ rfl HS2.out Tryd.underlying71 rfl (by kernel_rfl)) rfl ?_
      refine ⟨?_, by rw [← HR.out]; exact HBEL2.out⟩
      rw [HXY.out]
      show Ending.returned (.tuple #[.agg #[.int .i64 x, .int .i64 y], .bool ((x : Int) == 0)]) = Ending.returned (.tuple #[.agg #[.int .i64 x, .int .i64 y], .bool (x == 0)])
      have hb : ((x : Int) == 0) = (x == 0) := by rw [Bool.eq_iff_iff]; simp
      rw [hb]

/-- a box of a number -/
def BoxI (w : World) (g : Nat) (n : Nat) : Prop := w.heap[g]? = some (.cells #[.int .i64 n] 3 (0, 0))
theorem BoxI.c {w : World} {g n : Nat} (h : BoxI w g n) : w.cell? ⟨g, 0, none⟩ = some (.int .i64 n) := cell_of_one h
theorem BoxI.k {w : World} {g n : Nat} (h : BoxI w g n) : w.frozen? ⟨g, 0, none⟩ = false := free_of_one h
theorem BoxI.set {w : World} {g n : Nat} (h : BoxI w g n) (x : Nat) : BoxI (w.setCell ⟨g, 0, none⟩ (.int .i64 x)) g x := by
  have := blk_set h 0 (.int .i64 x)
  exact this
theorem step_below {B : Nat} {w : World} {g i : Nat} (u : Value) (hB : B ≤ g) (hBw : B ≤ w.heap.size) : Below B w (w.setCell ⟨g, i, none⟩ u) := below_only (Below.refl B w) (grow_cell w g i u) hBw hB

set_option maxRecDepth 100000 in
set_option maxHeartbeats 400000 in
theorem pathlen1_any (b : Bool) (p n g : Nat) (w : World) (h : BoxI w p n) (hn : n ≤ 1099511627776) (hpg : p ≠ g) (B : Nat) (hB : B ≤ p) (hBw : B ≤ w.heap.size) :
    Calls Tryd.prog 57 #[.bool b, .pointer (some ⟨p, 0, none⟩)] w fun e w' => e = .returned (.tuple #[]) ∧ BoxI w' p (n + 1) ∧ Below B w w' ∧ w'.heap[g]? = w.heap[g]? := by
  have c0 := h.c
  have k0 := h.k
  have H := Lib.hid h
  obtain ⟨m, hm⟩ : ∃ m, m = n + 1 := ⟨_, rfl⟩
  have hm1 : (n : Int) + 1 = (m : Int) := by omega
  rw [← hm]
  clear h hm
  go_enter Tryd.func57, Tryd.ntmps57
  go_wp2
  go_end0
  exact ⟨rfl, H.out.set m, step_below _ hB hBw, Below.heap_setCell w ⟨p, 0, none⟩ _ g (fun h => hpg h.symm)⟩
end Go.Proofs.YtmlekeegmdpjkaaDoor
