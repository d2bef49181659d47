/- Shape, walked: size, middle, halves. -/
import Derived.Test.YtafookdllnhdaaaDoorMa3
import Derived.Test.YtafookdllnhdaaaDoorMa0
import Derived.Test.YtafookdllnhdaaaDoorChecked
import Derived.Test.YtafookdllnhdaaaDoorMa4
import Derived.StillTailTactics
import Derived.Deep.CutBlock
import Derived.Deep.RegionHeld3
import Derived.Test.YtafookdllnhdaaaDoorMa14
namespace Go.Proofs.YtafookdllnhdaaaDoor
open Go.RowKit Go.Scr
set_option linter.unusedVariables false

abbrev spV (b e : Nat) : Value := .agg #[.int .i64 (b : Int), .int .i64 (e : Int)]
theorem ret_intS {a b : Nat} (h : a = b) : Ending.returned (Value.int .i64 (a : Int)) = Ending.returned (Value.int .i64 (b : Int)) := by rw [h]
set_option maxRecDepth 100000 in
set_option maxHeartbeats 400000 in
theorem size_yes (z : Int) (w : World) (h1 : 1 ≤ z) (h2 : z ≤ 1099511627776) :
    Calls Tryd.prog 74 #[.int .i64 z] w fun e w' => e = .returned (.bool true) ∧ w' = w := by
  go_enter Tryd.func74, Tryd.ntmps74
  go_wp2
  go_ret
  exact ⟨rfl, rfl⟩
set_option maxRecDepth 100000 in
set_option maxHeartbeats 400000 in
theorem size_no (z : Int) (w : World) (h : z < 1 ∨ 1099511627776 < z) :
    Calls Tryd.prog 74 #[.int .i64 z] w fun e w' => e = .returned (.bool false) ∧ w' = w := by
  by_cases h1 : z < 1
  · have h2 : ¬ 1 ≤ z := by omega
    clear h
    go_enter Tryd.func74, Tryd.ntmps74
    go_wp2
    go_ret
    exact ⟨rfl, rfl⟩
  · have h2 : 1 ≤ z := by omega
    have h3 : ¬ z ≤ 1099511627776 := by omega
    clear h h1
    go_enter Tryd.func74, Tryd.ntmps74
    go_wp2
    go_ret
    exact ⟨rfl, rfl⟩
set_option maxRecDepth 100000 in
set_option maxHeartbeats 1000000 in
theorem middle_any (b e : Nat) (w : World) (h : b ≤ e) (he : e ≤ 4398046511104) :
    Calls Tryd.prog 86 #[spV b e] w fun r w' => r = .returned (.int .i64 ((b + spl (e - b) : Nat) : Int)) ∧ Below w.heap.size w w' := by
  obtain ⟨n, hn⟩ : ∃ n, n = e - b := ⟨_, rfl⟩
  obtain ⟨R, hR⟩ : ∃ R, R = spl n := ⟨_, rfl⟩
  rw [← hn, ← hR]
  have HR := Lib.hid (show splF 1 n = R from hR.symm)
  have hsub : (e : Int) - (b : Int) = (n : Int) := by omega
  have hn2 : n ≤ 4398046511104 := by omega
  have hb2 : b ≤ 4398046511104 := by omega
  obtain ⟨w1, hw1⟩ : ∃ x, x = w.alloc (.cells #[.int .i64 (b : Int), .int .i64 (e : Int)] 46) := ⟨_, rfl⟩
  obtain ⟨bb, hbb⟩ : ∃ x, x = w.heap.size := ⟨_, rfl⟩
  have hrow : w1.heap[bb]? = some (.cells #[.int .i64 (b : Int), .int .i64 (e : Int)] 46 (0, 0)) := by rw [hw1, hbb]; exact heap_alloc_new w _
  have d0 : w1.cell? ⟨bb, 0, none⟩ = some (.int .i64 (b : Int)) := cell_of_row _ _ _ _ _ _ hrow
  have d1 : w1.cell? ⟨bb, 1, none⟩ = some (.int .i64 (e : Int)) := cell_of_row _ _ _ _ _ _ hrow
  have HBEL : Hid (Below w.heap.size w w1) := Lib.hid (by rw [hw1]; exact (Below.refl _ _).alloc (Nat.le_refl _) _)
  have HW := Lib.hid hw1
  have HB := Lib.hid hbb
  have hwr : IntKind.i64.wrap (n : Int) = (n : Int) := IntWalk.i64_in _ (by omega)
  clear hn hR h he hw1 hbb hrow
  go_enter Tryd.func86, Tryd.ntmps86
  go_upto_region 1 with fail
  rw [← HW.out, ← HB.out]
  go_wp2_with fail
  clear d1 hsub
  go_loop [4] (fun v => ∃ k : Nat, 0 < k ∧ k ≤ 4398046511104 ∧ v = .int .i64 k ∧ Hid (splF k n = R)) (fun v => 4398046511104 - (intOf v).toNat)
  case atStart => exact ⟨1, by decide, by omega, rfl, HR⟩
  case round =>
    obtain ⟨k, hk0, hkn, rfl, HS⟩ := hrel
    by_cases hlt : 2 * k < n
    · have h1 : (k : Int) < (n : Int) - (k : Int) := by omega
      have HS2 := Lib.hid ((splF_spl hk0 hlt).trans HS.out)
      obtain ⟨k2, hk2⟩ : ∃ k2, k2 = 2 * k := ⟨_, rfl⟩
      have hk2i : (k : Int) * 2 = (k2 : Int) := by omega
      have hk2b : k2 ≤ 4398046511104 := by omega
      rw [← hk2] at HS2
      have hkk : k < k2 := by omega
      clear hlt hk2
      go_wp2
      exact ⟨⟨k2, by omega, hk2b, rfl, HS2⟩, (by show 4398046511104 - (k2 : Int).toNat < 4398046511104 - (k : Int).toNat; omega)⟩
    · have h1 : ¬ ((k : Int) < (n : Int) - (k : Int)) := by omega
      have HS2 := Lib.hid ((splF_end hlt).symm.trans HS.out)
      clear hlt
      go_wp2
      go_ret
      exact ⟨by rw [← HS2.out]; exact (ret_intS rfl), HBEL.out⟩
theorem below_onS {B : Nat} {a b c : World} (h : Below B a b) (g : Below b.heap.size b c) (hb : B ≤ b.heap.size) : Below B a c :=
  ⟨g.os.trans h.os, g.tape.trans h.tape, g.output.trans h.output, Nat.le_trans h.size g.size, fun i hi => (g.block i (Nat.lt_of_lt_of_le hi hb)).trans (h.block i hi)⟩
theorem cs_far {w : World} {a b i j : Nat} {u : Value} (h : a ≠ b) : (w.setCell ⟨a, i, none⟩ u).cell? ⟨b, j, none⟩ = w.cell? ⟨b, j, none⟩ := by
  apply World.cell?_setCell_other
  intro e
  simp only [Addr.mk.injEq, and_true] at e
  exact h e.1
theorem cs_other {w : World} {a i j : Nat} {u : Value} (h : i ≠ j) : (w.setCell ⟨a, i, none⟩ u).cell? ⟨a, j, none⟩ = w.cell? ⟨a, j, none⟩ := by
  apply World.cell?_setCell_other
  intro e
  simp only [Addr.mk.injEq, and_true, true_and] at e
  exact h e
set_option maxRecDepth 100000 in
set_option maxHeartbeats 1000000 in
theorem halves_any (b e : Nat) (w : World) (h : b ≤ e) (he : e ≤ 4398046511104) :
    Calls Tryd.prog 76 #[spV b e] w fun r w' => r = .returned (.tuple #[spV b (b + spl (e - b)), spV (b + spl (e - b)) e]) ∧ Below w.heap.size w w' := by
  obtain ⟨m, hm⟩ : ∃ m, m = b + spl (e - b) := ⟨_, rfl⟩
  have hmid := fun w => middle_any b e w h he
  rw [← hm] at hmid ⊢
  have CM := Lib.hid hmid
  obtain ⟨bb, hbb⟩ : ∃ x, x = w.heap.size := ⟨_, rfl⟩
  obtain ⟨w1, hw1⟩ : ∃ x, x = ((w.alloc (.cells #[.int .i64 (b : Int), .int .i64 (e : Int)] 46)).alloc (.cells #[.int .i64 0, .int .i64 0] 46)).alloc (.cells #[.int .i64 0, .int .i64 0] 46) := ⟨_, rfl⟩
  have hbel : Below w.heap.size w w1 := by rw [hw1]; exact (((Below.refl _ _).alloc (Nat.le_refl _) _).alloc (by simp) _).alloc (by simp; omega) _
  have r0 : w1.heap[bb]? = some (.cells #[.int .i64 (b : Int), .int .i64 (e : Int)] 46 (0, 0)) := by rw [hw1, hbb]; exact blk_alloc (blk_alloc (heap_alloc_new w _))
  have r1 : w1.heap[bb + 1]? = some (.cells #[.int .i64 0, .int .i64 0] 46 (0, 0)) := by rw [hw1, hbb]; exact blk_alloc (heap_alloc_at _ _ _ (by simp))
  have r2 : w1.heap[bb + 1 + 1]? = some (.cells #[.int .i64 0, .int .i64 0] 46 (0, 0)) := by rw [hw1, hbb]; exact heap_alloc_at _ _ _ (by simp)
  have HW := Lib.hid hw1
  have HB := Lib.hid hbb
  have HBEL := Lib.hid hbel
  have HR : Hid (∀ w', Below w1.heap.size w1 w' → w'.heap[bb]? = some (.cells #[.int .i64 (b : Int), .int .i64 (e : Int)] 46 (0, 0)) ∧ w'.heap[bb + 1]? = some (.cells #[.int .i64 0, .int .i64 0] 46 (0, 0)) ∧ w'.heap[bb + 1 + 1]? = some (.cells #[.int .i64 0, .int .i64 0] 46 (0, 0))) := Lib.hid (fun w' hb => by
    have l0 : bb < w1.heap.size := (Array.getElem?_eq_some_iff.mp r0).1
    have l1 : bb + 1 < w1.heap.size := (Array.getElem?_eq_some_iff.mp r1).1
    have l2 : bb + 1 + 1 < w1.heap.size := (Array.getElem?_eq_some_iff.mp r2).1
    exact ⟨(hb.block _ l0).trans r0, (hb.block _ l1).trans r1, (hb.block _ l2).trans r2⟩)
  have d0 : w1.cell? ⟨bb, 0, none⟩ = some (.int .i64 (b : Int)) := cell_of_row _ _ _ _ _ _ r0
  have d1 : w1.cell? ⟨bb, 1, none⟩ = some (.int .i64 (e : Int)) := cell_of_row _ _ _ _ _ _ r0
  clear hm hmid h he hw1 hbb hbel r0 r1 r2
  go_enter Tryd.func76, Tryd.ntmps76
  go_upto_region 1 with fail
  rw [← HW.out, ← HB.out]
  go_upto_region 2 with (go_at_call 86; with_reducible refine (CM.out _).mono ?_; rintro r w2 ⟨rfl, hb⟩; have HB2 := Lib.hid hb; clear hb)
  clear d0 d1
  obtain ⟨r0, r1, r2⟩ := HR.out _ HB2.out
  have d0 : w2.cell? ⟨bb, 0, none⟩ = some (.int .i64 (b : Int)) := cell_of_row _ _ _ _ _ _ r0
  have d1 : w2.cell? ⟨bb, 1, none⟩ = some (.int .i64 (e : Int)) := cell_of_row _ _ _ _ _ _ r0
  have e0 : ∀ i, w2.frozen? ⟨bb + 1, i, none⟩ = false := fun i => frozen_of_row w2 (bb + 1) i _ _ r1
  have e1 : ∀ i, w2.frozen? ⟨bb + 1 + 1, i, none⟩ = false := fun i => frozen_of_row w2 (bb + 1 + 1) i _ _ r2
  have z0 : w2.cell? ⟨bb + 1, 0, none⟩ = some (.int .i64 0) := cell_of_row _ _ _ _ _ _ r1
  have z1 : w2.cell? ⟨bb + 1, 1, none⟩ = some (.int .i64 0) := cell_of_row _ _ _ _ _ _ r1
  have z2 : w2.cell? ⟨bb + 1 + 1, 0, none⟩ = some (.int .i64 0) := cell_of_row _ _ _ _ _ _ r2
  have z3 : w2.cell? ⟨bb + 1 + 1, 1, none⟩ = some (.int .i64 0) := cell_of_row _ _ _ _ _ _ r2
  have HBF : Hid (Below w.heap.size w w2) := Lib.hid (below_onS HBEL.out HB2.out HBEL.out.size)
  have HBB : Hid (w.heap.size ≤ bb) := Lib.hid (Nat.le_of_eq HB.out.symm)
  clear r0 r1 r2
  have n1 : bb + 1 ≠ bb := by omega
  have n2 : bb + 1 + 1 ≠ bb := by omega
  have N1 := fun (w : World) (i j : Nat) (u : Value) => cs_far (w := w) (i := i) (j := j) (u := u) n1
  have N2 := fun (w : World) (i j : Nat) (u : Value) => cs_far (w := w) (i := i) (j := j) (u := u) n2
  have HN1 := Lib.hid N1
  have HN2 := Lib.hid N2
  clear N1 N2 n1 n2
  go_region_held3 (fun w' => w'.cell? ⟨bb, 0, none⟩ = some (.int .i64 (b : Int)) ∧ w'.cell? ⟨bb, 1, none⟩ = some (.int .i64 (e : Int))) ((refine ⟨?_, ?_⟩ <;> (simp only [World.cell?_drew, HN1.out, HN2.out]; assumption))) (fail)
  obtain ⟨w5, hw5⟩ : ∃ x, x = ((((w2.setCell ⟨bb + 1, 0, none⟩ (.int .i64 (b : Int))).setCell ⟨bb + 1, 1, none⟩ (.int .i64 (m : Int))).setCell ⟨bb + 1 + 1, 0, none⟩ (.int .i64 (m : Int))).setCell ⟨bb + 1 + 1, 1, none⟩ (.int .i64 (e : Int))).drew := ⟨_, rfl⟩
  have c0 : w5.cell? ⟨bb + 1, 0, none⟩ = some (.int .i64 (b : Int)) := by
    rw [hw5, World.cell?_drew, cs_far (by omega), cs_far (by omega), cs_other (by decide)]
    exact World.cell?_setCell_same' _ _ _ (by rw [z0]; rfl)
  have c1 : w5.cell? ⟨bb + 1, 1, none⟩ = some (.int .i64 (m : Int)) := by
    rw [hw5, World.cell?_drew, cs_far (by omega), cs_far (by omega)]
    exact World.cell?_setCell_same' _ _ _ (by rw [cs_other (by decide), z1]; rfl)
  have c2 : w5.cell? ⟨bb + 1 + 1, 0, none⟩ = some (.int .i64 (m : Int)) := by
    rw [hw5, World.cell?_drew, cs_other (by decide)]
    exact World.cell?_setCell_same' _ _ _ (by rw [cs_far (by omega), cs_far (by omega), z2]; rfl)
  have c3 : w5.cell? ⟨bb + 1 + 1, 1, none⟩ = some (.int .i64 (e : Int)) := by
    rw [hw5, World.cell?_drew]
    exact World.cell?_setCell_same' _ _ _ (by rw [cs_other (by decide), cs_far (by omega), cs_far (by omega), z3]; rfl)
  have hbf : Below w.heap.size w w5 := by
    have h := HBB.out
    rw [hw5]
    exact ((((HBF.out.setCell (p := ⟨bb + 1, 0, none⟩) (by show w.heap.size ≤ bb + 1; omega) _).setCell (p := ⟨bb + 1, 1, none⟩) (by show w.heap.size ≤ bb + 1; omega) _).setCell (p := ⟨bb + 1 + 1, 0, none⟩) (by show w.heap.size ≤ bb + 1 + 1; omega) _).setCell (p := ⟨bb + 1 + 1, 1, none⟩) (by show w.heap.size ≤ bb + 1 + 1; omega) _).drew
  rw [← hw5]
  have HBF5 := Lib.hid hbf
  clear hw5 hbf d0 d1 e0 e1 z0 z1 z2 z3
  go_wp2
  refine bodyPost_ret (v := .tuple #[spV b m, spV m e]) (by simp [results, Tryd.results76, go_sem, c0, c1, c2, c3]) rfl ⟨rfl, HBF5.out⟩
end Go.Proofs.YtafookdllnhdaaaDoor
/- Shape, walked: the iterator of the way down. -/
namespace Go.Scr
/-- the subtrees that have a span within them, from the top -/
def wayT (b n lo hi : Nat) : List (Nat × Nat) :=
  (b, b + n) :: (if h : n ≤ 1 then [] else if hi ≤ b + spl n then wayT b (spl n) lo hi else if b + spl n ≤ lo then wayT (b + spl n) (n - spl n) lo hi else [])
termination_by n
decreasing_by
  · have := spl_lt (show 2 ≤ n by omega); omega
  · have := spl_lt (show 2 ≤ n by omega); omega
theorem wayT_one {b n : Nat} (lo hi : Nat) (h : n ≤ 1) : wayT b n lo hi = [(b, b + n)] := by rw [wayT, dif_pos h]
theorem wayT_left {b n lo hi : Nat} (h : 1 < n) (h2 : hi ≤ b + spl n) : wayT b n lo hi = (b, b + n) :: wayT b (spl n) lo hi := by rw [wayT, dif_neg (by omega), if_pos h2]
theorem wayT_right {b n lo hi : Nat} (h : 1 < n) (h2 : ¬ hi ≤ b + spl n) (h3 : b + spl n ≤ lo) : wayT b n lo hi = (b, b + n) :: wayT (b + spl n) (n - spl n) lo hi := by rw [wayT, dif_neg (by omega), if_neg h2, if_pos h3]
theorem wayT_stop {b n lo hi : Nat} (h : 1 < n) (h2 : ¬ hi ≤ b + spl n) (h3 : ¬ b + spl n ≤ lo) : wayT b n lo hi = [(b, b + n)] := by rw [wayT, dif_neg (by omega), if_neg h2, if_neg h3]
theorem wayT_mem (n : Nat) : ∀ (b lo hi : Nat), 1 ≤ n → ∀ x ∈ wayT b n lo hi, b ≤ x.1 ∧ x.1 < x.2 ∧ x.2 ≤ b + n := by
  induction n using Nat.strongRecOn with
  | ind n ih =>
    intro b lo hi hn x hx
    by_cases h : n ≤ 1
    · rw [wayT_one lo hi h, List.mem_singleton] at hx
      subst hx
      exact ⟨Nat.le_refl _, by show b < b + n; omega, Nat.le_refl _⟩
    · have h1 : 1 < n := by omega
      have hs := spl_lt (show 2 ≤ n by omega)
      have h0 : b ≤ (b, b + n).1 ∧ (b, b + n).1 < (b, b + n).2 ∧ (b, b + n).2 ≤ b + n := ⟨Nat.le_refl _, by show b < b + n; omega, Nat.le_refl _⟩
      by_cases h2 : hi ≤ b + spl n
      · rw [wayT_left h1 h2] at hx
        rcases List.mem_cons.1 hx with rfl | hx
        · exact h0
        · have := ih _ hs.2.1 b lo hi hs.1 x hx
          omega
      · by_cases h3 : b + spl n ≤ lo
        · rw [wayT_right h1 h2 h3] at hx
          rcases List.mem_cons.1 hx with rfl | hx
          · exact h0
          · have := ih (n - spl n) (by omega) (b + spl n) lo hi (by omega) x hx
            omega
        · rw [wayT_stop h1 h2 h3, List.mem_singleton] at hx
          subst hx
          exact h0
theorem wayT_ne (b n lo hi : Nat) : wayT b n lo hi ≠ [] := by rw [wayT]; simp
end Go.Scr
namespace Go.Proofs.YtafookdllnhdaaaDoor
open Go.RowKit Go.Scr Go.Shelf
set_option linter.unusedVariables false
attribute [local go_sem] Oper.semAt_some

theorem Chg.set {Q : Nat → Prop} {a c : World} (h : Chg Q a c) {b i : Nat} (hb : Q b) (v : Value) : Chg Q a (c.setCell ⟨b, i, none⟩ v) :=
  ⟨h.os, h.tape, h.output, by simpa [World.setCell] using h.size, fun j hj hn => (Below.heap_setCell c _ v j (fun e => hn (by have e' : j = b := e; rw [e']; exact hb))).trans (h.same j hj hn)⟩
def spRow (w : World) (B b e : Nat) : Prop := w.heap[B]? = some (.cells #[.int .i64 (b : Int), .int .i64 (e : Int)] 46 (0, 0))
def spLen (w : World) (B : Nat) : Nat := match w.cell? ⟨B, 0, none⟩, w.cell? ⟨B, 1, none⟩ with
  | some x, some y => (intOf y).toNat - (intOf x).toNat
  | _, _ => 0
theorem spRow.len {w : World} {B b e : Nat} (h : spRow w B b e) : spLen w B = e - b := by
  unfold spLen
  rw [show w.cell? ⟨B, 0, none⟩ = some (.int .i64 (b : Int)) from cell_of_row _ _ _ _ _ _ h, show w.cell? ⟨B, 1, none⟩ = some (.int .i64 (e : Int)) from cell_of_row _ _ _ _ _ _ h]
  simp [intOf]
theorem spRow.at {w : World} {B b e : Nat} (h : spRow w B b e) : w.cell? ⟨B, 0, none⟩ = some (.int .i64 (b : Int)) ∧ w.cell? ⟨B, 1, none⟩ = some (.int .i64 (e : Int)) ∧ ∀ i, w.frozen? ⟨B, i, none⟩ = false :=
  ⟨cell_of_row _ _ _ _ _ _ h, cell_of_row _ _ _ _ _ _ h, fun i => frozen_of_row w B i _ _ h⟩
theorem spRow.lt {w : World} {B b e : Nat} (h : spRow w B b e) : B < w.heap.size := (Array.getElem?_eq_some_iff.mp h).1
theorem spRow.keep {w w' : World} {B b e : Nat} (h : spRow w B b e) (hk : w'.heap[B]? = w.heap[B]?) : spRow w' B b e := hk.trans h
theorem spRow.set {w : World} {B b e : Nat} (h : spRow w B b e) (b' e' : Nat) : spRow ((w.setCell ⟨B, 0, none⟩ (.int .i64 (b' : Int))).setCell ⟨B, 1, none⟩ (.int .i64 (e' : Int))) B b' e' := by
  exact blk_set (blk_set h 0 (.int .i64 (b' : Int))) 1 (.int .i64 (e' : Int))
set_option maxRecDepth 100000 in
set_option maxHeartbeats 4000000 in
theorem way_seq (n : Nat) (hn1 : 1 ≤ n) (sz lo hi Bn Bs : Nat) (w : World) (hn : sz ≤ 1099511627776) (hhi : hi ≤ 4398046511104) (hlo : lo ≤ 4398046511104) (hBn : w.heap[Bn]? = some (.cells #[.int .i64 (sz : Int)] 3 (0, 0))) (hBs : spRow w Bs lo hi) :
    SeqQ Fence.wide n Tryd.prog 85 #[.pointer (some ⟨Bn, 0, none⟩), .pointer (some ⟨Bs, 0, none⟩)] (fun x : Nat × Nat => #[spV x.1 x.2]) 1 (fun xs => xs = wayT 0 sz lo hi) (fun pre => pre <+: wayT 0 sz lo hi) (fun pre x => (pre ++ [x]) <+: wayT 0 sz lo hi) (fun i => i = Bs) w := by
  intro l J Jx hJ hJx hY h0
  obtain ⟨B, hB⟩ : ∃ B, B = w.heap.size := ⟨_, rfl⟩
  rw [← hB] at hJ hJx hY
  have HJ := Lib.hid hJ
  have HJX := Lib.hid hJx
  have HY := Lib.hid hY
  have HB := Lib.hid hB
  have d0 : w.cell? ⟨Bn, 0, none⟩ = some (.int .i64 (sz : Int)) := cell_of_row _ _ _ _ _ _ hBn
  have HBS := Lib.hid hBs
  have H0 := Lib.hid h0
  clear hJ hJx hY hB hBn hBs h0
  refine callsIn_of_wp Tryd.func85 rfl trivial ?_ rfl
  simp only [Tryd.ntmps85, List.size_toArray, List.length_cons, List.length_nil, Nat.reduceAdd, Nat.reduceSub, Array.replicate_succ, Array.replicate_zero, List.push_toArray, List.append_toArray, List.nil_append, List.cons_append]
  gi_wp2
  obtain ⟨w1, hw1⟩ : ∃ x, x = w.alloc (.cells #[.int .i64 0, .int .i64 (sz : Int)] 46) := ⟨_, rfl⟩
  have hr1 : spRow w1 B 0 sz := by rw [hw1, HB.out]; exact heap_alloc_new w _
  have hs1 : spRow w1 Bs lo hi := HBS.out.keep (by rw [hw1]; exact Below.heap_alloc w _ _ HBS.out.lt)
  have hj1 : J [] w1 := HJ.out _ _ _ H0.out (by rw [hw1]; exact Chg.alloc _ _ _)
  have hz1 : B + 1 ≤ w1.heap.size := by rw [hw1, HB.out]; simp
  rw [← hw1, ← HB.out]
  have HST : Hid (spRow w1 B 0 sz ∧ spRow w1 Bs lo hi ∧ J [] w1 ∧ B + 1 ≤ w1.heap.size ∧ Bs < B) := Lib.hid ⟨hr1, hs1, hj1, hz1, by rw [HB.out]; exact HBS.out.lt⟩
  clear hw1 hr1 hs1 hj1 hz1 d0 H0 HBS
  gi_loopw [5, 6] (fun _ _ wr => ∃ (pre : List (Nat × Nat)) (b m : Nat), b + m ≤ 1099511627776 ∧ Hid (wayT 0 sz lo hi = pre ++ wayT b m lo hi ∧ spRow wr B b (b + m) ∧ spRow wr Bs lo hi ∧ J pre wr ∧ B + 1 ≤ wr.heap.size ∧ Bs < B)) (fun _ _ wr => spLen wr B)
  case atStart => exact ⟨[], 0, sz, by omega, Lib.hid ⟨rfl, by rw [Nat.zero_add]; exact HST.out.1, HST.out.2⟩⟩
  case round =>
    clear HST
    obtain ⟨pre, b, m, hbm, hinv⟩ := hrel
    obtain ⟨h1, h2, h3, h4, h5, h6⟩ := hinv.out
    obtain ⟨e, he⟩ : ∃ e, e = b + m := ⟨_, rfl⟩
    have HSP := Lib.hid h1
    have hlen : (pre ++ [(b, b + m)]) <+: wayT 0 sz lo hi := by
      rw [h1]
      refine List.prefix_append_right_inj _ |>.mpr ?_
      rw [wayT]
      exact ⟨_, rfl⟩
    obtain ⟨fn, tmps, assign, body, hy, hR⟩ := HY.out pre (b, b + m) wr h4 h5 hlen
    rw [← he] at h2 hy hbm
    obtain ⟨c0, c1, cf⟩ := h2.at
    have HINV := Lib.hid hinv.out
    have HR := Lib.hid hR
    have HE := Lib.hid he
    clear hinv h1 h2 h3 h4 h5 h6 hlen hR he
    gi_wp2
    refine HR.out.mono ?_
    rintro e2 w2 ⟨(⟨rfl, hj2⟩ | ⟨rfl, hjx2⟩), hk2⟩
    · obtain ⟨h1, h2, h3, h4, h5, h6⟩ := HINV.out
      have g2 : spRow w2 B b e := by
        have := h2.keep (hk2.same B h2.lt (.inl ⟨Nat.le_refl _, Nat.lt_succ_self _⟩))
        rwa [← HE.out] at this
      have g3 : spRow w2 Bs lo hi := h3.keep (hk2.same Bs h3.lt (.inr rfl))
      have g5 : B + 1 ≤ w2.heap.size := Nat.le_trans h5 hk2.size
      have hsub : (e : Int) - (b : Int) = (m : Int) := by have := HE.out; omega
      have hmb : m ≤ 1099511627776 := by have := HE.out; omega
      have HJ2 := Lib.hid hj2
      have HG2 := Lib.hid g2
      have HG3 := Lib.hid g3
      have HG5 : Hid (B + 1 ≤ w2.heap.size ∧ Bs < B) := Lib.hid ⟨g5, h6⟩
      obtain ⟨c0, c1, cf⟩ := g2.at
      obtain ⟨s0, s1, _⟩ := g3.at
      clear h1 h2 h3 h4 h5 h6 hj2 hk2 g2 g3 g5
      by_cases hm : m ≤ 1
      · have hmi : ¬ (1 : Int) < (m : Int) := by omega
        have hway := wayT_one (b := b) lo hi hm
        have HW := Lib.hid hway
        clear hm hway
        gi_wp2
        go_end0
        refine ⟨⟨_, rfl⟩, .inl ⟨pre ++ [(b, b + m)], ?_, HJ2.out⟩⟩
        rw [HINV.out.1, HW.out]
      · have hmi : (1 : Int) < (m : Int) := by omega
        have hsp := spl_lt (show 2 ≤ m by omega)
        obtain ⟨md, hmd⟩ : ∃ x, x = b + spl m := ⟨_, rfl⟩
        have CH : Hid (Calls Tryd.prog 76 #[.agg #[.int .i64 (b : Int), .int .i64 (e : Int)]] w2 fun r w' => r = .returned (.tuple #[spV b md, spV md e]) ∧ Below w2.heap.size w2 w') := Lib.hid (by
          have := halves_any b e w2 (by have := HE.out; omega) (by omega)
          rwa [show e - b = m by have := HE.out; omega, ← hmd] at this)
        have HMD : Hid (md = b + spl m ∧ 0 < spl m ∧ spl m < m) := Lib.hid ⟨hmd, hsp.1, hsp.2.1⟩
        have hmd2 : b < md ∧ md < e := by have := HE.out; omega
        have hmb1 : b < md := hmd2.1
        have hmb2 : md < e := hmd2.2
        have HM : Hid (1 < m) := Lib.hid (by omega)
        clear hm hsp hmd hmd2
        by_cases hA : hi ≤ md
        · have hAi : (hi : Int) ≤ (md : Int) := by omega
          have hway : wayT b m lo hi = (b, b + m) :: wayT b (spl m) lo hi := wayT_left HM.out (by have := HMD.out; omega)
          have HW := Lib.hid hway
          clear hway hA
          gi_wp2_with (first
            | (refine ⟨trivial, ?_⟩; gi_at_call 76; refine (callsIn_wide.2 CH.out).mono ?_; rintro r w3 ⟨rfl, hb3⟩; have hr4 : Hid (∀ x y z u : Value, spRow ((w3.alloc (.cells #[x, y] 46)).alloc (.cells #[z, u] 46)) Bs lo hi ∧ spRow ((w3.alloc (.cells #[x, y] 46)).alloc (.cells #[z, u] 46)) B b e ∧ Chg (fun i => B ≤ i ∧ i < B + 1) w2 ((w3.alloc (.cells #[x, y] 46)).alloc (.cells #[z, u] 46))) := Lib.hid (fun x y z u => by
            have hbb : Below w2.heap.size w2 ((w3.alloc (.cells #[x, y] 46)).alloc (.cells #[z, u] 46)) := (hb3.alloc hb3.size _).alloc (by have := hb3.size; simp; omega) _
            exact ⟨HG3.out.keep (hbb.block _ HG3.out.lt), HG2.out.keep (hbb.block _ HG2.out.lt), Chg.of_below hbb⟩); obtain ⟨rs, rb, rc⟩ := hr4.out (.int .i64 (b : Int)) (.int .i64 (md : Int)) (.int .i64 (md : Int)) (.int .i64 (e : Int)); have RB := Lib.hid rb; have RS := Lib.hid rs; have RC := Lib.hid rc; obtain ⟨t0, t1, _⟩ := rs.at; obtain ⟨v0, v1, v2⟩ := rb.at; clear hb3 hr4 rs rb rc CH))
          have HJ5 := HJ.out _ _ _ HJ2.out (Chg.set (Chg.set RC.out (i := 0) ⟨Nat.le_refl _, Nat.lt_succ_self _⟩ (.int .i64 (b : Int))) (i := 1) ⟨Nat.le_refl _, Nat.lt_succ_self _⟩ (.int .i64 (md : Int)))
          have hrow := RB.out.set b md
          have hlenA := hrow.len
          have hlenB := HG2.out.len
          have hrs := RS.out.keep (w' := ((((w3.alloc (.cells #[.int .i64 (b : Int), .int .i64 (md : Int)] 46)).alloc (.cells #[.int .i64 (md : Int), .int .i64 (e : Int)] 46)).setCell ⟨B, 0, none⟩ (.int .i64 (b : Int))).setCell ⟨B, 1, none⟩ (.int .i64 (md : Int)))) (((Below.heap_setCell _ _ _ _ (by show Bs ≠ B; have := HG5.out.2; omega))).trans (Below.heap_setCell _ _ _ _ (by show Bs ≠ B; have := HG5.out.2; omega)))
          have hsz := RC.out.size
          have hway := HW.out
          have hmd := HMD.out
          have he := HE.out
          refine ⟨⟨pre ++ [(b, b + m)], b, (spl m), by omega, Lib.hid ⟨?_, ?_, hrs, HJ5, ?_, HG5.out.2⟩⟩, ?_⟩
          · rw [HINV.out.1, hway, List.append_assoc]; rfl
          · have : b + (spl m) = md := by omega
            rw [this]; exact hrow
          · simp [World.setCell] at hsz ⊢
            have := HG5.out.1
            omega
          · have hl0 := HINV.out.2.1.len
            omega
        · have hAi : ¬ (hi : Int) ≤ (md : Int) := by omega
          by_cases hC : md ≤ lo
          · have hCi : (md : Int) ≤ (lo : Int) := by omega
            have hway : wayT b m lo hi = (b, b + m) :: wayT md (m - spl m) lo hi := by
              have := HMD.out
              rw [wayT_right HM.out (by omega) (by omega), ← this.1]
            have HW := Lib.hid hway
            clear hway hA hC
            gi_wp2_with (first
              | (refine ⟨trivial, ?_⟩; gi_at_call 76; refine (callsIn_wide.2 CH.out).mono ?_; rintro r w3 ⟨rfl, hb3⟩; have hr4 : Hid (∀ x y z u : Value, spRow ((w3.alloc (.cells #[x, y] 46)).alloc (.cells #[z, u] 46)) Bs lo hi ∧ spRow ((w3.alloc (.cells #[x, y] 46)).alloc (.cells #[z, u] 46)) B b e ∧ Chg (fun i => B ≤ i ∧ i < B + 1) w2 ((w3.alloc (.cells #[x, y] 46)).alloc (.cells #[z, u] 46))) := Lib.hid (fun x y z u => by
            have hbb : Below w2.heap.size w2 ((w3.alloc (.cells #[x, y] 46)).alloc (.cells #[z, u] 46)) := (hb3.alloc hb3.size _).alloc (by have := hb3.size; simp; omega) _
            exact ⟨HG3.out.keep (hbb.block _ HG3.out.lt), HG2.out.keep (hbb.block _ HG2.out.lt), Chg.of_below hbb⟩); obtain ⟨rs, rb, rc⟩ := hr4.out (.int .i64 (b : Int)) (.int .i64 (md : Int)) (.int .i64 (md : Int)) (.int .i64 (e : Int)); have RB := Lib.hid rb; have RS := Lib.hid rs; have RC := Lib.hid rc; obtain ⟨t0, t1, _⟩ := rs.at; obtain ⟨v0, v1, v2⟩ := rb.at; clear hb3 hr4 rs rb rc CH))
            have HJ5 := HJ.out _ _ _ HJ2.out (Chg.set (Chg.set RC.out (i := 0) ⟨Nat.le_refl _, Nat.lt_succ_self _⟩ (.int .i64 (md : Int))) (i := 1) ⟨Nat.le_refl _, Nat.lt_succ_self _⟩ (.int .i64 (e : Int)))
            have hrow := RB.out.set md e
            have hlenA := hrow.len
            have hlenB := HG2.out.len
            have hrs := RS.out.keep (w' := ((((w3.alloc (.cells #[.int .i64 (b : Int), .int .i64 (md : Int)] 46)).alloc (.cells #[.int .i64 (md : Int), .int .i64 (e : Int)] 46)).setCell ⟨B, 0, none⟩ (.int .i64 (md : Int))).setCell ⟨B, 1, none⟩ (.int .i64 (e : Int)))) (((Below.heap_setCell _ _ _ _ (by show Bs ≠ B; have := HG5.out.2; omega))).trans (Below.heap_setCell _ _ _ _ (by show Bs ≠ B; have := HG5.out.2; omega)))
            have hsz := RC.out.size
            have hway := HW.out
            have hmd := HMD.out
            have he := HE.out
            refine ⟨⟨pre ++ [(b, b + m)], md, (m - spl m), by omega, Lib.hid ⟨?_, ?_, hrs, HJ5, ?_, HG5.out.2⟩⟩, ?_⟩
            · rw [HINV.out.1, hway, List.append_assoc]; rfl
            · have : md + (m - spl m) = e := by omega
              rw [this]; exact hrow
            · simp [World.setCell] at hsz ⊢
              have := HG5.out.1
              omega
            · have hl0 := HINV.out.2.1.len
              omega
          · have hCi : ¬ (md : Int) ≤ (lo : Int) := by omega
            have hway : wayT b m lo hi = [(b, b + m)] := by
              have := HMD.out
              exact wayT_stop HM.out (by omega) (by omega)
            have HW := Lib.hid hway
            clear hway hA hC
            gi_wp2_with (first
              | (refine ⟨trivial, ?_⟩; gi_at_call 76; refine (callsIn_wide.2 CH.out).mono ?_; rintro r w3 ⟨rfl, hb3⟩; have hr4 : Hid (∀ x y z u : Value, spRow ((w3.alloc (.cells #[x, y] 46)).alloc (.cells #[z, u] 46)) Bs lo hi ∧ spRow ((w3.alloc (.cells #[x, y] 46)).alloc (.cells #[z, u] 46)) B b e ∧ Chg (fun i => B ≤ i ∧ i < B + 1) w2 ((w3.alloc (.cells #[x, y] 46)).alloc (.cells #[z, u] 46))) := Lib.hid (fun x y z u => by
            have hbb : Below w2.heap.size w2 ((w3.alloc (.cells #[x, y] 46)).alloc (.cells #[z, u] 46)) := (hb3.alloc hb3.size _).alloc (by have := hb3.size; simp; omega) _
            exact ⟨HG3.out.keep (hbb.block _ HG3.out.lt), HG2.out.keep (hbb.block _ HG2.out.lt), Chg.of_below hbb⟩); obtain ⟨rs, rb, rc⟩ := hr4.out (.int .i64 (b : Int)) (.int .i64 (md : Int)) (.int .i64 (md : Int)) (.int .i64 (e : Int)); have RB := Lib.hid rb; have RS := Lib.hid rs; have RC := Lib.hid rc; obtain ⟨t0, t1, _⟩ := rs.at; obtain ⟨v0, v1, v2⟩ := rb.at; clear hb3 hr4 rs rb rc CH))
            refine bodyPost_ret (results_none rfl _ _ _) rfl ?_
            refine ⟨⟨_, rfl⟩, .inl ⟨pre ++ [(b, b + m)], ?_, HJ.out _ _ _ HJ2.out RC.out⟩⟩
            rw [HINV.out.1, HW.out]
    · gi_wp2
      go_end0
      refine ⟨⟨_, rfl⟩, .inr ⟨pre ++ [(b, b + m)], ?_, hjx2⟩⟩
      rw [HINV.out.1]
      refine List.prefix_append_right_inj _ |>.mpr ?_
      rw [wayT]
      exact ⟨_, rfl⟩
end Go.Proofs.YtafookdllnhdaaaDoor
/- Shape, walked: Inside. -/
namespace Go.Scr
theorem insideB_way (n : Nat) : ∀ (b lo hi : Nat), insideB b n lo hi = decide ((lo, hi) ∈ wayT b n lo hi) := by
  induction n using Nat.strongRecOn with
  | ind n ih =>
    intro b lo hi
    by_cases h : n ≤ 1
    · rw [insideB_one h, wayT_one lo hi h]
      by_cases he : b = lo ∧ b + n = hi
      · obtain ⟨rfl, rfl⟩ := he
        simp
      · have hm : ¬ (lo, hi) ∈ [(b, b + n)] := by
          simp only [List.mem_singleton, Prod.mk.injEq]
          omega
        rw [decide_eq_false hm]
        rw [Bool.and_eq_false_iff]
        simp only [beq_eq_false_iff_ne]
        omega
    · have h1 : 1 < n := by omega
      have hs := spl_lt (show 2 ≤ n by omega)
      by_cases he : b = lo ∧ b + n = hi
      · obtain ⟨rfl, rfl⟩ := he
        rw [insideB_at, eq_comm, decide_eq_true_eq, wayT]
        exact List.mem_cons_self ..
      · have hne : (lo, hi) ≠ (b, b + n) := by
          intro e
          simp only [Prod.mk.injEq] at e
          omega
        by_cases h2 : hi ≤ b + spl n
        · rw [insideB_left h1 he h2, wayT_left h1 h2, ih _ hs.2.1]
          simp [hne]
        · by_cases h3 : b + spl n ≤ lo
          · rw [insideB_right h1 he h2 h3, wayT_right h1 h2 h3, ih _ (by omega)]
            simp [hne]
          · rw [insideB_no h1 he h2 h3, wayT_stop h1 h2 h3]
            simp [hne]
end Go.Scr
namespace Go.Proofs.YtafookdllnhdaaaDoor
open Go.RowKit Go.Scr Go.Shelf
set_option linter.unusedVariables false
attribute [local go_sem] Oper.semAt_some

theorem below_chg {B : Nat} {Q : Nat → Prop} {w a c : World} (h : Below B w a) (g : Chg Q a c) (hq : ∀ i, Q i → B ≤ i) (hB : B ≤ a.heap.size) : Below B w c :=
  ⟨g.os.trans h.os, g.tape.trans h.tape, g.output.trans h.output, Nat.le_trans h.size g.size, fun i hi => (g.same i (Nat.lt_of_lt_of_le hi hB) (fun e => by have := hq i e; omega)).trans (h.block i hi)⟩
theorem span_eql (a b c d : Int) (w : World) : (binOp .eql 46 (.agg #[.int .i64 a, .int .i64 b]) (.agg #[.int .i64 c, .int .i64 d])).run Tryd.prog w = .ok (.bool (a == c && b == d)) w := by
  have hu := Tryd.underlying46
  have hi : Tryd.prog.underlying 3 = some (.int .i64) := by kernel_rfl
  have h1 : ∀ (k : Nat) (x y : Int), (Op.equalIn (k + 1) 3 (.int .i64 x) (.int .i64 y)).run Tryd.prog w = .ok (x == y) w := fun k x y => by simp [Op.equalIn, run_underlying hi]
  have h1' : ∀ (x y : Int), (Op.equalIn 9999 3 (.int .i64 x) (.int .i64 y)).run Tryd.prog w = .ok (x == y) w := h1 9998
  have p0 : ∀ x y : Int, (part 3 #[.int .i64 x, .int .i64 y] 0).run Tryd.prog w = .ok (.int .i64 x) w := fun x y => by kernel_rfl
  have p1 : ∀ x y : Int, (part 3 #[.int .i64 x, .int .i64 y] 1).run Tryd.prog w = .ok (.int .i64 y) w := fun x y => by kernel_rfl
  have h2 : (Op.equalIn (9998 + 1 + 1) 46 (.agg #[.int .i64 a, .int .i64 b]) (.agg #[.int .i64 c, .int .i64 d])).run Tryd.prog w = .ok (a == c && b == d) w := by
    rw [Op.equalIn]
    by_cases e : a = c
    · subst e
      by_cases e2 : b = d
      · subst e2
        simp [run_underlying hu, h1', run_underlying hi, p0, p1]
      · have : (b == d) = false := by simpa using e2
        simp [run_underlying hu, h1', run_underlying hi, p0, p1, this]
    · have : (a == c) = false := by simpa using e
      simp [run_underlying hu, h1', run_underlying hi, p0, p1, this]
  have h0 : (Op.equal 46 (.agg #[.int .i64 a, .int .i64 b]) (.agg #[.int .i64 c, .int .i64 d])).run Tryd.prog w = .ok (a == c && b == d) w := h2
  simp only [binOp]
  simp [h0]
set_option maxRecDepth 100000 in
set_option maxHeartbeats 400000 in
theorem way_any (n lo hi : Int) (w : World) :
    Calls Tryd.prog 75 #[.int .i64 n, .agg #[.int .i64 lo, .int .i64 hi]] w fun r w' => r = .returned (.func (.func 85) #[] #[.pointer (some ⟨w.heap.size, 0, none⟩), .pointer (some ⟨w.heap.size + 1, 0, none⟩)]) ∧ w' = (w.alloc (.cells #[.int .i64 n] 3)).alloc (.cells #[.int .i64 lo, .int .i64 hi] 46) := by
  go_enter Tryd.func75, Tryd.ntmps75
  go_wp2
  go_ret
  exact ⟨rfl, rfl⟩
end Go.Proofs.YtafookdllnhdaaaDoor
/- Shape, walked: Inside, of right arguments. -/
namespace Go.Proofs.YtafookdllnhdaaaDoor
open Go.RowKit Go.Scr Go.Shelf
set_option linter.unusedVariables false
attribute [local go_sem] Oper.semAt_some

def boRow (w : World) (B : Nat) (b : Bool) : Prop := w.heap[B]? = some (.cells #[.bool b] 4 (0, 0))
theorem boRow.lt {w : World} {B : Nat} {b : Bool} (h : boRow w B b) : B < w.heap.size := (Array.getElem?_eq_some_iff.mp h).1
theorem boRow.at {w : World} {B : Nat} {b : Bool} (h : boRow w B b) : w.cell? ⟨B, 0, none⟩ = some (.bool b) ∧ w.frozen? ⟨B, 0, none⟩ = false := ⟨cell_of_row _ _ _ _ _ _ h, frozen_of_row w B 0 _ _ h⟩
end Go.Proofs.YtafookdllnhdaaaDoor
