/- Layer 4, walked: begin, PathLen, ProofLen. -/
import Derived.Test.YtdbghgpohdijfaaGreatDoorMa23
import Derived.Test.YtdbghgpohdijfaaGreatDoorMa10
import Derived.StillTailTactics
import Derived.Laws.ResultCell
import Derived.Test.YtdbghgpohdijfaaGreatDoorMa11
namespace Go.Proofs.YtdbghgpohdijfaaGreatDoor
open Go.RowKit Go.Scr
set_option linter.unusedVariables false

theorem results_row_tmp {P : Program} {fn : Func} {p u : Tmp} {ty : TypeId} (h : fn.results = #[.cell p ty, .tmp u]) (tmps : Array Value) (w : World) (g : Nat) (t : TypeId) (cs : Array Value) (fr : Nat × Nat) (d : TypeDesc)
    (hp : tmps.getD p undef = .pointer (some ⟨g, 0, none⟩)) (hg : w.heap[g]? = some (.cells cs t fr))
    (hu : P.underlying ty = some d) (hd : (match d with | .struct _ | .array _ _ => true | _ => false) = true) (hi : (P.info? ty).map (·.size) = some cs.size) :
    (results fn tmps).run P w = .ok (.tuple #[.agg cs, tmps.getD u undef]) w := by
  have hp' : tmps[p]?.getD undef = .pointer (some ⟨g, 0, none⟩) := by simpa using hp
  rw [results_cell_tmp h, hp]
  simp only [asAddr, Sem.run_pure, Result.andThen_ok, run_loadVar_row w g t ty cs fr d hg hu hd hi]
theorem two_one (x y : Nat) : (#[Value.int .i64 (x : Int), Value.int .i64 (y : Int)]).all (·.oneCell') = true := by
  rw [Array.all_eq_true_iff_forall_mem]
  intro v hv
  simp only [List.mem_toArray, List.mem_cons, List.not_mem_nil, or_false] at hv
  rcases hv with rfl | rfl <;> rfl

set_option maxRecDepth 100000 in
set_option maxHeartbeats 1000000 in
theorem begin_any (f s : Nat) (w : World) (h1 : 1 ≤ f) (h2 : f ≤ s) (h3 : s ≤ 1099511627776) :
    Calls Tryz.prog 89 #[.int .i64 f, .int .i64 s] w fun e w' => e = .returned (.tuple #[.agg #[.int .i64 (((strip (f - 1) (s - 1)).1 : Nat) : Int), .int .i64 (((strip (f - 1) (s - 1)).2 : Nat) : Int)], .bool ((strip (f - 1) (s - 1)).1 == 0)]) ∧ Below w.heap.size w w' := by
  obtain ⟨a, ha⟩ : ∃ a, a = f - 1 := ⟨_, rfl⟩
  obtain ⟨l, hl⟩ : ∃ l, l = s - 1 := ⟨_, rfl⟩
  have e1 : (f : Int) - 1 = (a : Int) := by omega
  have e2 : (s : Int) - 1 = (l : Int) := by omega
  have hab : a ≤ 1099511627776 := by omega
  have hlb : l ≤ 1099511627776 := by omega
  rw [← ha, ← hl]
  clear ha hl
  go_enter Tryz.func89, Tryz.ntmps89
  go_wp2
  obtain ⟨r, hr⟩ : ∃ r, r = w.heap.size := ⟨_, rfl⟩
  have hc0 : Climb ((w.alloc (.cells #[.int .i64 0, .int .i64 0] 90)).alloc (.cells #[.int .i64 a, .int .i64 l] 90)) (r + 1) a l := heap_alloc_at _ _ _ (by rw [hr]; simp)
  have hr0 : Climb ((w.alloc (.cells #[.int .i64 0, .int .i64 0] 90)).alloc (.cells #[.int .i64 a, .int .i64 l] 90)) r ((0 : Nat)) ((0 : Nat)) := blk_alloc (heap_alloc_at _ _ _ hr)
  have hb0 : Below w.heap.size w ((w.alloc (.cells #[.int .i64 0, .int .i64 0] 90)).alloc (.cells #[.int .i64 a, .int .i64 l] 90)) := ((Below.refl _ _).alloc (Nat.le_refl _) _).alloc (by simp) _
  generalize (w.alloc (.cells #[.int .i64 0, .int .i64 0] 90)).alloc (.cells #[.int .i64 a, .int .i64 l] 90) = w1 at hc0 hr0 hb0 ⊢
  rw [← hr]
  rw [← hr] at hb0
  have HR := Lib.hid hr
  have HC0 := Lib.hid hc0
  have HR0 := Lib.hid hr0
  have HB0 := Lib.hid hb0
  clear hr hc0 hr0 hb0
  go_loopw [] (fun wr => ∃ x y : Nat, Hid (strip x y = strip a l) ∧ x ≤ 1099511627776 ∧ y ≤ 1099511627776 ∧ Climb wr (r + 1) x y ∧ Climb wr r (0 : Nat) (0 : Nat) ∧ Below r w wr) (fun wr => climbAt wr (r + 1))
  case atStart => exact ⟨a, l, Lib.hid rfl, hab, hlb, HC0.out, HR0.out, HB0.out⟩
  case round =>
    clear HC0 HR0 HB0
    obtain ⟨x, y, HS, hx, hy, hc, hr0, hbel⟩ := hrel
    have HC := Lib.hid hc
    have HR0 := Lib.hid hr0
    have HBEL := Lib.hid hbel
    have HAT := Lib.hid hc.at_
    have c0 := hc.c0
    clear hc hr0 hbel
    have hz0 : (0 : Int) ≤ (x : Int) := Int.natCast_nonneg _
    by_cases ho : x % 2 = 1
    · have q2 : (x : Int).tmod 2 = 1 := by rw [Int.tmod_eq_emod_of_nonneg hz0]; omega
      have HO := Lib.hid ho
      clear hz0 ho
      go_wp2_with (go_at_call 94; with_reducible refine (half_any (r + 1) x y _ HC.out hx hy).mono ?_; rintro e w3 ⟨rfl, hc3, hg3⟩; have HC3 := Lib.hid hc3; have HG3 := Lib.hid hg3; clear hc3 hg3)
      go_roundw
      case rel => exact ⟨x / 2, y / 2, Lib.hid (by rw [← HS.out, ← strip_odd y HO.out]), by omega, by omega, HC3.out, blk_only HR0.out HG3.out (by simp), below_only HBEL.out HG3.out (Nat.le_of_lt (blk_lt HR0.out)) (by omega)⟩
      case measure => rw [HC3.out.at_, HAT.out]; have := HO.out; omega
    · have q2 : (x : Int).tmod 2 = 0 := by rw [Int.tmod_eq_emod_of_nonneg hz0]; omega
      have HO := Lib.hid ho
      clear hz0 ho
      go_wp2
      have e0 : wr.cell? ⟨r, 0, none⟩ = some (.int .i64 0) := HR0.out.c0
      have e1 : wr.cell? ⟨r, 1, none⟩ = some (.int .i64 0) := HR0.out.c1
      have f0 : wr.frozen? ⟨r, 0, none⟩ = false := HR0.out.k 0
      have f1 : wr.frozen? ⟨r, 1, none⟩ = false := HR0.out.k 1
      have g1 : wr.cell? ⟨r + 1, 1, none⟩ = some (.int .i64 y) := HC.out.c1
      have HS1 : Hid (Climb (wr.setCell ⟨r, 0, none⟩ (.int .i64 x)) r x (0 : Nat)) := Lib.hid (HR0.out.set0 x)
      have HS2 : Hid (Climb (((wr.setCell ⟨r, 0, none⟩ (.int .i64 x)).setCell ⟨r, 1, none⟩ (.int .i64 y)).drew) r x y) := Lib.hid (HS1.out.set1 y)
      have HBEL2 : Hid (Below r w (((wr.setCell ⟨r, 0, none⟩ (.int .i64 x)).setCell ⟨r, 1, none⟩ (.int .i64 y)).drew)) := Lib.hid (below_only (below_only HBEL.out (grow_cell wr r 0 (.int .i64 x)) (Nat.le_of_lt (blk_lt HR0.out)) (Nat.le_refl r)) (grow_cell _ r 1 (.int .i64 y)) (Nat.le_of_lt (blk_lt HS1.out)) (Nat.le_refl r)).drew
      have HXY := Lib.hid (HS.out.symm.trans (strip_even y (by have := HO.out; omega)))
      go_region
      generalize ((wr.setCell ⟨r, 0, none⟩ (.int .i64 x)).setCell ⟨r, 1, none⟩ (.int .i64 y)).drew = w4 at HS2 HBEL2 ⊢
      clear e0 e1 f0 f1 g1 c0
      go_wp2
      refine bodyPost_ret (results_row_tmp (p := 4) (u := 5) rfl _ _ r 90 _ (0, 0) _ rfl HS2.out Tryz.underlying90 rfl (by kernel_rfl)) rfl ?_
      refine ⟨?_, by rw [← HR.out]; exact HBEL2.out⟩
      rw [HXY.out]
      show Ending.returned (.tuple #[.agg #[.int .i64 x, .int .i64 y], .bool ((x : Int) == 0)]) = Ending.returned (.tuple #[.agg #[.int .i64 x, .int .i64 y], .bool (x == 0)])
      have hb : ((x : Int) == 0) = (x == 0) := by rw [Bool.eq_iff_iff]; simp
      rw [hb]

/-- a box of a number -/
def BoxI (w : World) (g : Nat) (n : Nat) : Prop := w.heap[g]? = some (.cells #[.int .i64 n] 3 (0, 0))
theorem BoxI.c {w : World} {g n : Nat} (h : BoxI w g n) : w.cell? ⟨g, 0, none⟩ = some (.int .i64 n) := cell_of_one h
theorem BoxI.k {w : World} {g n : Nat} (h : BoxI w g n) : w.frozen? ⟨g, 0, none⟩ = false := free_of_one h
theorem BoxI.set {w : World} {g n : Nat} (h : BoxI w g n) (x : Nat) : BoxI (w.setCell ⟨g, 0, none⟩ (.int .i64 x)) g x := by
  have := blk_set h 0 (.int .i64 x)
  exact this
theorem step_below {B : Nat} {w : World} {g i : Nat} (u : Value) (hB : B ≤ g) (hBw : B ≤ w.heap.size) : Below B w (w.setCell ⟨g, i, none⟩ u) := below_only (Below.refl B w) (grow_cell w g i u) hBw hB

set_option maxRecDepth 100000 in
set_option maxHeartbeats 400000 in
theorem pathlen1_any (b : Bool) (p n g : Nat) (w : World) (h : BoxI w p n) (hn : n ≤ 1099511627776) (hpg : p ≠ g) (B : Nat) (hB : B ≤ p) (hBw : B ≤ w.heap.size) :
    Calls Tryz.prog 93 #[.bool b, .pointer (some ⟨p, 0, none⟩)] w fun e w' => e = .returned (.tuple #[]) ∧ BoxI w' p (n + 1) ∧ Below B w w' ∧ w'.heap[g]? = w.heap[g]? := by
  have c0 := h.c
  have k0 := h.k
  have H := Lib.hid h
  obtain ⟨m, hm⟩ : ∃ m, m = n + 1 := ⟨_, rfl⟩
  have hm1 : (n : Int) + 1 = (m : Int) := by omega
  rw [← hm]
  clear h hm
  go_enter Tryz.func93, Tryz.ntmps93
  go_wp2
  go_end0
  exact ⟨rfl, H.out.set m, step_below _ hB hBw, Below.heap_setCell w ⟨p, 0, none⟩ _ g (fun h => hpg h.symm)⟩
end Go.Proofs.YtdbghgpohdijfaaGreatDoor
/- Layer 4, walked: PathLen, ProofLen. -/
namespace Go.Proofs.YtdbghgpohdijfaaGreatDoor
open Go.RowKit Go.Scr
set_option linter.unusedVariables false

def badSize (s : Int) : Bool := decide (s < 1) || decide (s > 1099511627776)
def badIndex (s i : Int) : Bool := decide (i < 0) || decide (i ≥ s)
def pathLenS (s i : Int) : Int := if s < 1 ∨ 1099511627776 < s then 0 else if i < 0 ∨ s ≤ i then 0 else ((wayN s.toNat i.toNat : Nat) : Int)
def pathLenE (s i : Int) : Int := if s < 1 ∨ 1099511627776 < s then 41 else if i < 0 ∨ s ≤ i then 40 else 0
def proofLenS (f s : Int) : Int := if f < 1 ∨ s < f ∨ 1099511627776 < s then 0 else ((toldN f.toNat s.toNat true : Nat) : Int)
def proofLenE (f s : Int) : Int := if f < 1 ∨ s < f ∨ 1099511627776 < s then 41 else 0
theorem pathLenS_ok {n m : Nat} (h : m < n) (hn : n ≤ 1099511627776) : pathLenS n m = ((wayN n m : Nat) : Int) ∧ pathLenE n m = 0 := by
  unfold pathLenS pathLenE
  rw [if_neg (by omega), if_neg (by omega), if_neg (by omega), if_neg (by omega)]
  simp
theorem proofLenS_ok {f s : Nat} (h1 : 1 ≤ f) (h2 : f ≤ s) (h : s ≤ 1099511627776) : proofLenS f s = ((toldN f s true : Nat) : Int) ∧ proofLenE f s = 0 := by
  unfold proofLenS proofLenE
  rw [if_neg (by omega), if_neg (by omega)]
  simp
theorem stepL_len (l : Nat) : ∀ a, (stepL a l).length ≤ l := by
  induction l using Nat.strongRecOn with
  | ind l ih =>
    intro a
    by_cases h : l = 0
    · rw [h, stepL_zero]; simp
    · rw [stepL_cons h, List.length_cons]
      have h1 := (skB_le (isLeft a l) a l).2
      have := ih ((skB (isLeft a l) a l).2 / 2) (by omega) ((skB (isLeft a l) a l).1 / 2)
      omega
theorem two_le (wB : World) (o : Obj) : wB.heap.size ≤ (wB.alloc o).heap.size := by simp
theorem stepL_way {n m : Nat} (h : m < n) : (stepL m (n - 1)).length = wayN n m := by rw [stepL_dn n m h]; rfl
theorem stepL_told {f s : Nat} (h1 : 1 ≤ f) (h2 : f < s) : (if (strip (f - 1) (s - 1)).1 == 0 then 0 else 1) + (stepL (strip (f - 1) (s - 1)).1 (strip (f - 1) (s - 1)).2).length = toldN f s true := by
  have := strip_fl s f h1 h2
  unfold toldN
  rw [this.1, this.2]
  omega
theorem strip_mono (a : Nat) : ∀ l, a ≤ l → (strip a l).1 ≤ (strip a l).2 := by
  induction a using Nat.strongRecOn with
  | ind a ih =>
    intro l h
    by_cases ho : a % 2 = 1
    · rw [strip_odd l ho]; exact ih (a / 2) (by omega) (l / 2) (by omega)
    · rw [strip_even l ho]; exact h

set_option maxRecDepth 100000 in
set_option maxHeartbeats 1000000 in
theorem pathlen_any (s i : Int) (w : World) :
    Calls Tryz.prog 69 #[.int .i64 s, .int .i64 i] w fun e w' => e = .returned (.tuple #[.int .i64 (pathLenS s i), .int .i64 (pathLenE s i)]) ∧ Below w.heap.size w w' := by
  by_cases h1 : s < 1
  · have e1 : pathLenS s i = 0 := if_pos (Or.inl h1)
    have e2 : pathLenE s i = 41 := if_pos (Or.inl h1)
    rw [e1, e2]
    clear e1 e2
    go_enter Tryz.func69, Tryz.ntmps69
    go_wp2
    go_ret2
    exact ⟨rfl, Below.refl _ _⟩
  · by_cases h2 : 1099511627776 < s
    · have e1 : pathLenS s i = 0 := if_pos (Or.inr h2)
      have e2 : pathLenE s i = 41 := if_pos (Or.inr h2)
      rw [e1, e2]
      clear e1 e2
      go_enter Tryz.func69, Tryz.ntmps69
      go_wp2
      go_ret2
      exact ⟨rfl, Below.refl _ _⟩
    · have hs : ¬ (s < 1 ∨ 1099511627776 < s) := by omega
      by_cases h3 : i < 0
      · have e1 : pathLenS s i = 0 := by unfold pathLenS; rw [if_neg hs, if_pos (Or.inl h3)]
        have e2 : pathLenE s i = 40 := by unfold pathLenE; rw [if_neg hs, if_pos (Or.inl h3)]
        rw [e1, e2]
        clear e1 e2 hs
        go_enter Tryz.func69, Tryz.ntmps69
        go_wp2
        go_ret2
        exact ⟨rfl, Below.refl _ _⟩
      · by_cases h4 : s ≤ i
        · have e1 : pathLenS s i = 0 := by unfold pathLenS; rw [if_neg hs, if_pos (Or.inr h4)]
          have e2 : pathLenE s i = 40 := by unfold pathLenE; rw [if_neg hs, if_pos (Or.inr h4)]
          rw [e1, e2]
          clear e1 e2 hs
          go_enter Tryz.func69, Tryz.ntmps69
          go_wp2
          go_ret2
          exact ⟨rfl, Below.refl _ _⟩
        · obtain ⟨n, rfl⟩ : ∃ n : Nat, s = n := ⟨s.toNat, by omega⟩
          obtain ⟨m, rfl⟩ : ∃ m : Nat, i = m := ⟨i.toNat, by omega⟩
          have hmn : m < n := by omega
          have hn : n ≤ 1099511627776 := by omega
          obtain ⟨e1, e2⟩ := pathLenS_ok hmn hn
          rw [e1, e2, ← stepL_way hmn]
          clear e1 e2 hs
          obtain ⟨l, hl⟩ : ∃ l, l = n - 1 := ⟨_, rfl⟩
          have hli : (n : Int) - 1 = (l : Int) := by omega
          have hml : m ≤ l := by omega
          have hlb : l ≤ 1099511627776 := by omega
          rw [← hl]
          have hsteps := fun w1 (hc : Climb w1 (w.heap.size + 1) m l) (hi : BoxI w1 w.heap.size 0) => steps_pathlen (w.heap.size + 1) w.heap.size w.heap.size (fun L w' => BoxI w' w.heap.size L.length) (by omega) (fun L w w' h hg => blk_only h hg (by simp)) m l hml hlb w1 hc (Nat.le_of_lt (blk_lt hi)) hi
            (fun k b w' hk hI hb => (pathlen1_any b w.heap.size _ (w.heap.size + 1) w' hI (by rw [List.length_take]; have := stepL_len l m; omega) (by omega) w.heap.size (Nat.le_refl _) (Nat.le_of_lt (blk_lt hI))).mono (fun e w'' h => ⟨h.1, by simpa using h.2.1, h.2.2.1, h.2.2.2⟩))
          have HB0 : Hid (BoxI ((w.alloc (.cells #[.int .i64 0] 3)).alloc (.cells #[.int .i64 m, .int .i64 l] 90)) w.heap.size 0) := Lib.hid (blk_alloc (heap_alloc_new w _))
          have HC0 : Hid (Climb ((w.alloc (.cells #[.int .i64 0] 3)).alloc (.cells #[.int .i64 m, .int .i64 l] 90)) (w.heap.size + 1) m l) := Lib.hid (heap_alloc2_new _ _ _)
          have HBB : Hid (Below w.heap.size w ((w.alloc (.cells #[.int .i64 0] 3)).alloc (.cells #[.int .i64 m, .int .i64 l] 90))) := Lib.hid (((Below.refl _ _).alloc (Nat.le_refl _) _).alloc (by simp) _)
          have HSTEPS := Lib.hid hsteps
          clear hl hsteps h1 h2 h3 h4
          go_enter Tryz.func69, Tryz.ntmps69
          go_wp2_with (go_at_call 71; with_reducible refine (HSTEPS.out _ HC0.out HB0.out).mono ?_; rintro e w2 ⟨rfl, hb2, hbb2⟩; have c0 := BoxI.c hb2; have HBB2 := Lib.hid (HBB.out.trans hbb2); clear hb2 hbb2)
          go_ret2
          exact ⟨rfl, HBB2.out⟩

set_option maxRecDepth 100000 in
set_option maxHeartbeats 400000 in
theorem prooflen1_any (b : Bool) (p n g : Nat) (w : World) (h : BoxI w p n) (hn : n ≤ 1099511627778) (hpg : p ≠ g) (B : Nat) (hB : B ≤ p) (hBw : B ≤ w.heap.size) :
    Calls Tryz.prog 103 #[.bool b, .pointer (some ⟨p, 0, none⟩)] w fun e w' => e = .returned (.tuple #[]) ∧ BoxI w' p (n + 1) ∧ Below B w w' ∧ w'.heap[g]? = w.heap[g]? := by
  have c0 := h.c
  have k0 := h.k
  have H := Lib.hid h
  obtain ⟨m, hm⟩ : ∃ m, m = n + 1 := ⟨_, rfl⟩
  have hm1 : (n : Int) + 1 = (m : Int) := by omega
  rw [← hm]
  clear h hm
  go_enter Tryz.func103, Tryz.ntmps103
  go_wp2
  go_end0
  exact ⟨rfl, H.out.set m, step_below _ hB hBw, Below.heap_setCell w ⟨p, 0, none⟩ _ g (fun h => hpg h.symm)⟩

set_option maxRecDepth 100000 in
set_option maxHeartbeats 2000000 in
theorem prooflen_any (f s : Int) (w : World) :
    Calls Tryz.prog 88 #[.int .i64 f, .int .i64 s] w fun e w' => e = .returned (.tuple #[.int .i64 (proofLenS f s), .int .i64 (proofLenE f s)]) ∧ Below w.heap.size w w' := by
  by_cases hbad : f < 1 ∨ s < f ∨ 1099511627776 < s
  · have e1 : proofLenS f s = 0 := if_pos hbad
    have e2 : proofLenE f s = 41 := if_pos hbad
    rw [e1, e2]
    clear e1 e2
    by_cases h1 : f < 1
    · clear hbad
      go_enter Tryz.func88, Tryz.ntmps88
      go_wp2
      go_ret2
      exact ⟨rfl, Below.refl _ _⟩
    · by_cases h2 : s < f
      · clear hbad
        go_enter Tryz.func88, Tryz.ntmps88
        go_wp2
        go_ret2
        exact ⟨rfl, Below.refl _ _⟩
      · have h3 : 1099511627776 < s := by omega
        clear hbad
        go_enter Tryz.func88, Tryz.ntmps88
        go_wp2
        go_ret2
        exact ⟨rfl, Below.refl _ _⟩
  · obtain ⟨n, rfl⟩ : ∃ n : Nat, f = n := ⟨f.toNat, by omega⟩
    obtain ⟨m, rfl⟩ : ∃ m : Nat, s = m := ⟨s.toNat, by omega⟩
    have hn : 1 ≤ n := by omega
    have hnm : n ≤ m := by omega
    have hm : m ≤ 1099511627776 := by omega
    obtain ⟨e1, e2⟩ := proofLenS_ok hn hnm hm
    rw [e1, e2]
    clear e1 e2 hbad
    by_cases heq : n = m
    · subst heq
      have e3 : toldN n n true = 0 := by rw [toldN_same]; rfl
      rw [e3]
      clear e3
      go_enter Tryz.func88, Tryz.ntmps88
      go_wp2
      go_ret2
      exact ⟨rfl, Below.refl _ _⟩
    · have hlt : n < m := by omega
      rw [← stepL_told hn hlt]
      have hbg := begin_any n m w hn hnm hm
      have hst := strip_le (n - 1) (m - 1)
      have hsm := strip_mono (n - 1) (m - 1) (by omega)
      obtain ⟨x, hx⟩ : ∃ x, x = (strip (n - 1) (m - 1)).1 := ⟨_, rfl⟩
      obtain ⟨y, hy⟩ : ∃ y, y = (strip (n - 1) (m - 1)).2 := ⟨_, rfl⟩
      rw [← hx, ← hy] at hbg hst hsm
      rw [← hx, ← hy]
      have hyb : y ≤ 1099511627776 := by omega
      obtain ⟨wl, hwl⟩ : ∃ b, b = (x == 0) := ⟨_, rfl⟩
      rw [← hwl] at hbg ⊢
      have HBG := Lib.hid hbg
      have hne : ¬ ((n : Int) = (m : Int)) := by omega
      have hsteps := fun (c0 : Nat) (wB w1 : World) (hc0 : c0 ≤ 1) (hc : Climb w1 wB.heap.size x y) (hi : BoxI w1 (wB.heap.size + 1) c0) => steps_prooflen wB.heap.size wB.heap.size (wB.heap.size + 1) (fun L w' => BoxI w' (wB.heap.size + 1) (c0 + L.length)) (Nat.le_refl _) (fun L w w' h hg => blk_only h hg (by simp)) x y hsm hyb w1 hc (Nat.le_of_lt (blk_lt hc)) hi
        (fun k b w' hk hI hb => (prooflen1_any b (wB.heap.size + 1) _ wB.heap.size w' hI (by rw [List.length_take]; have := stepL_len y x; omega) (by omega) wB.heap.size (by omega) (by have := blk_lt hI; omega)).mono (fun e w'' h => ⟨h.1, by simpa [Nat.add_assoc] using h.2.1, h.2.2.1, h.2.2.2⟩))
      have HSTEPS := Lib.hid hsteps
      clear hx hy hbg hwl hst hsm heq hsteps
      have HS0 : Hid (∀ wB : World, Climb ((wB.alloc (.cells #[.int .i64 x, .int .i64 y] 90)).alloc (.cells #[.int .i64 0] 3)) wB.heap.size x y ∧ BoxI ((wB.alloc (.cells #[.int .i64 x, .int .i64 y] 90)).alloc (.cells #[.int .i64 0] 3)) (wB.heap.size + 1) 0 ∧ Below wB.heap.size wB ((wB.alloc (.cells #[.int .i64 x, .int .i64 y] 90)).alloc (.cells #[.int .i64 0] 3))) :=
        Lib.hid fun wB => ⟨blk_alloc (heap_alloc_new wB _), heap_alloc2_new _ _ _, ((Below.refl wB.heap.size wB).alloc (Nat.le_refl _) _).alloc (two_le _ _) _⟩
      have HS1 : Hid (∀ wB : World, Climb ((wB.alloc (.cells #[.int .i64 x, .int .i64 y] 90)).alloc (.cells #[.int .i64 1] 3)) wB.heap.size x y ∧ BoxI ((wB.alloc (.cells #[.int .i64 x, .int .i64 y] 90)).alloc (.cells #[.int .i64 1] 3)) (wB.heap.size + 1) 1 ∧ Below wB.heap.size wB ((wB.alloc (.cells #[.int .i64 x, .int .i64 y] 90)).alloc (.cells #[.int .i64 1] 3))) :=
        Lib.hid fun wB => ⟨blk_alloc (heap_alloc_new wB _), heap_alloc2_new _ _ _, ((Below.refl wB.heap.size wB).alloc (Nat.le_refl _) _).alloc (two_le _ _) _⟩
      cases wl with
      | true =>
        go_enter Tryz.func88, Tryz.ntmps88
        go_wp2_with (first
          | (go_at_call 89; with_reducible refine (HBG.out).mono ?_; rintro e wB ⟨rfl, hbB⟩; have HBB := Lib.hid hbB; clear hbB)
          | (go_at_call 71; (with_reducible refine (HSTEPS.out 0 wB _ (by decide) (HS0.out wB).1 (HS0.out wB).2.1).mono ?_; rintro e w2 ⟨rfl, hb2, hbb2⟩; have c0 := BoxI.c hb2; have HBB2 := Lib.hid (below_from HBB.out ((HS0.out wB).2.2.trans hbb2) HBB.out.size); clear hb2 hbb2)))
        go_ret2
        refine ⟨?_, HBB2.out⟩
        simp
      | false =>
        go_enter Tryz.func88, Tryz.ntmps88
        go_wp2_with (first
          | (go_at_call 89; with_reducible refine (HBG.out).mono ?_; rintro e wB ⟨rfl, hbB⟩; have HBB := Lib.hid hbB; clear hbB)
          | (go_at_call 71; (with_reducible refine (HSTEPS.out 1 wB _ (by decide) (HS1.out wB).1 (HS1.out wB).2.1).mono ?_; rintro e w2 ⟨rfl, hb2, hbb2⟩; have c0 := BoxI.c hb2; have HBB2 := Lib.hid (below_from HBB.out ((HS1.out wB).2.2.trans hbb2) HBB.out.size); clear hb2 hbb2)))
        go_ret2
        refine ⟨?_, HBB2.out⟩
        simp
end Go.Proofs.YtdbghgpohdijfaaGreatDoor
/- Layer 4, walked: hashes, joined, own. -/
namespace Go.Proofs.YtdbghgpohdijfaaGreatDoor
open Go.RowKit Go.Scr
set_option linter.unusedVariables false

/-- has each text 32 bytes? -/
def all32 (L : List ByteArray) : Bool := L.all fun s => s.size == 32
theorem all32_take {L : List ByteArray} {k : Nat} {s : ByteArray} (h : L[k]? = some s) : all32 (L.take (k + 1)) = (all32 (L.take k) && (s.size == 32)) := by
  obtain ⟨hk, rfl⟩ := List.getElem?_eq_some_iff.mp h
  unfold all32
  rw [List.take_succ_eq_append_getElem hk, List.all_append]
  simp
theorem all32_bad {L : List ByteArray} {k : Nat} {s : ByteArray} (h : L[k]? = some s) (hs : s.size ≠ 32) : all32 L = false := by
  unfold all32
  rw [List.all_eq_false]
  exact ⟨s, List.mem_of_getElem? h, by simpa using hs⟩

set_option maxRecDepth 100000 in
set_option maxHeartbeats 400000 in
theorem hashes_any (v : Value) (L : List ByteArray) (w : World) (hv : Txts w v L) :
    Calls Tryz.prog 50 #[v] w fun e w' => e = .returned (.bool (all32 L)) ∧ w' = w := by
  obtain ⟨p, c, rfl, hv1, hv2, hv3⟩ := hv
  obtain ⟨n, hn⟩ : ∃ n, n = L.length := ⟨_, rfl⟩
  rw [← hn] at hv1 ⊢
  have HN := Lib.hid hn
  have HV := Lib.hid hv3
  have hnb : n ≤ 281474976710656 := by omega
  clear hn hv2 hv3 hv1
  go_enter Tryz.func50, Tryz.ntmps50
  go_wp2_with (go_step3)
  go_loop [7] (fun q => ∃ k : Nat, k ≤ n ∧ q = .int .i64 k ∧ Hid (all32 (L.take k) = true)) (fun q => n - (intOf q).toNat)
  case atStart => exact ⟨0, by omega, rfl, Lib.hid rfl⟩
  case round =>
    obtain ⟨k, hk, rfl, hall⟩ := hrel
    by_cases hlt : k < n
    · obtain ⟨s, hs⟩ : ∃ s, L[k]? = some s := ⟨L[k]'(by rw [← HN.out]; exact hlt), List.getElem?_eq_getElem _⟩
      obtain ⟨a, rfl, hc⟩ := HV.out k s hs
      have HS := Lib.hid hs
      clear hs
      by_cases h32 : s.size = 32
      · have hsz : (s.size : Int) = 32 := by omega
        have HALL := Lib.hid (by rw [all32_take HS.out, hall.out]; simp [h32] : all32 (L.take (k + 1)) = true)
        clear h32
        go_wp2_with (go_step3)
        exact ⟨⟨k + 1, by omega, rfl, HALL⟩, (by show n - ((k : Int) + 1).toNat < n - (k : Int).toNat; omega)⟩
      · have hsz : ¬ ((s.size : Int) = 32) := by omega
        have HBAD := Lib.hid (all32_bad HS.out h32)
        clear h32
        go_wp2_with (go_step3)
        go_ret
        exact ⟨by rw [HBAD.out]; rfl, rfl⟩
    · have HK := Lib.hid (by have := hall.out; rwa [show k = n by omega, HN.out, List.take_length] at this : all32 L = true)
      go_wp2_with (go_step3)
      go_ret
      exact ⟨by rw [HK.out]; rfl, rfl⟩

set_option maxRecDepth 100000 in
set_option maxHeartbeats 400000 in
theorem joined_any (b : Bool) (s r : ByteArray) (w : World) (ht : Tabs w) :
    Calls Tryz.prog 73 #[.bool b, .string s, .string r] w fun e w' => e = .returned (.string (if b then nodeS s r else nodeS r s)) ∧ Below w.heap.size w w' := by
  have HT := Lib.hid ht
  clear ht
  cases b with
  | true =>
    go_enter Tryz.func73, Tryz.ntmps73
    go_wp2_with (go_at_call 68; with_reducible refine (dnode_any s r _ HT.out).mono ?_; rintro e w2 ⟨rfl, hb⟩; have HB := Lib.hid hb; clear hb)
    go_ret
    exact ⟨rfl, HB.out⟩
  | false =>
    go_enter Tryz.func73, Tryz.ntmps73
    go_wp2_with (go_at_call 68; with_reducible refine (dnode_any r s _ HT.out).mono ?_; rintro e w2 ⟨rfl, hb⟩; have HB := Lib.hid hb; clear hb)
    go_ret
    exact ⟨rfl, HB.out⟩

set_option maxRecDepth 100000 in
set_option maxHeartbeats 400000 in
theorem own_any (v : Value) (L : List ByteArray) (w : World) (hv : Txts w v L) (hl : L.length ≤ 1048576) :
    Calls Tryz.prog 70 #[v] w fun e w' => ∃ g, e = .returned (.slice (some ⟨g, 0, none⟩) L.length L.length) ∧ w.heap.size ≤ g ∧ SRow w' g L ∧ Below w.heap.size w w' := by
  have HV := Lib.hid hv
  obtain ⟨p, c, rfl, hv1, hv2, hv3⟩ := hv
  obtain ⟨n, hn⟩ : ∃ n, n = L.length := ⟨_, rfl⟩
  rw [← hn] at hv1 HV hl ⊢
  have HN := Lib.hid hn
  have hmk := make_strs n (by omega) w
  have hsplice : splice ((List.replicate n (⟨#[]⟩ : ByteArray)).map Value.string) 0 (L.map Value.string) = L.map Value.string := by
    unfold splice
    rw [List.take_zero, List.nil_append, Nat.zero_add, List.length_map, ← hn, List.drop_of_length_le (by simp), List.append_nil]
  have HSP := Lib.hid hsplice
  have HNMIN := Lib.hid (show (L.map Value.string).length = Nat.min n n by rw [List.length_map, ← hn]; exact (Nat.min_self n).symm)
  have HFIT := Lib.hid (show 0 + (L.map Value.string).length ≤ ((List.replicate n (⟨#[]⟩ : ByteArray)).map Value.string).length by simp; omega)
  have hnb : n ≤ 1048576 := by omega
  clear hn hv2 hv3 hv1 hsplice
  go_enter Tryz.func70, Tryz.ntmps70
  go_upto_region 2 with fail
  have hrow0 : SRow (w.alloc (.cells (Array.replicate n (Value.string ⟨#[]⟩)) 9)) w.heap.size (List.replicate n ⟨#[]⟩) := by
    have h := heap_alloc_new w (.cells (Array.replicate n (Value.string ⟨#[]⟩)) 9)
    unfold SRow
    rw [h]
    simp
  have hbel5 : Below w.heap.size w (w.alloc (.cells (Array.replicate n (Value.string ⟨#[]⟩)) 9)) := (Below.refl _ _).alloc (Nat.le_refl _) _
  have HG := Lib.hid (Nat.le_refl w.heap.size)
  clear hmk
  obtain ⟨g, hg⟩ : ∃ g, g = w.heap.size := ⟨_, rfl⟩
  rw [← hg] at hrow0 hbel5
  rw [← hg]
  generalize w.alloc (.cells (Array.replicate n (Value.string ⟨#[]⟩)) 9) = w5 at hrow0 hbel5 ⊢
  have HCP := Lib.hid (copy_src (g := g) HV.out hbel5 (by omega))
  have HROW5 := Lib.hid hrow0
  have HB5 := Lib.hid hbel5
  have HG := Lib.hid (Nat.le_refl g)
  have HGW := Lib.hid hg
  clear hrow0 hbel5 hg
  go_wp2_with ((with_reducible refine wpList_copy_splice (o := ⟨some 9, _, _, _, _, _⟩) rfl (.tmp 7) (.tmp 8) 22 22 rfl 9 Tryz.underlying22 hsz_str (some ⟨g, 0, none⟩) p n n n c ?_ ?_ g 0 ((List.replicate n (⟨#[]⟩ : ByteArray)).map Value.string) 9 ?_ (L.map Value.string) HNMIN.out HCP.out HFIT.out (str_one _) g w HB5.out HG.out ?_); rfl; rfl; exact HROW5.out; intro w6 hrow6 hb6; rw [HSP.out] at hrow6; have HROW6 : Hid (SRow w6 g L) := hrow6.out; have HB6 := Lib.hid hb6; clear hrow6 hb6)
  go_ret
  refine ⟨g, rfl, by rw [HGW.out]; exact Nat.le_refl _, HROW6.out, by rw [← HGW.out]; exact HB6.out⟩
end Go.Proofs.YtdbghgpohdijfaaGreatDoor
