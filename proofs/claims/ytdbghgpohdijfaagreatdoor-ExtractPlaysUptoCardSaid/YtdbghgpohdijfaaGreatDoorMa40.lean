/- caught, and the highest unlike texts: which pair (printed by gen_ew0.py). -/
import Derived.Test.YtdbghgpohdijfaaGreatDoorMa39
namespace Go.Proofs.YtdbghgpohdijfaaGreatDoor
open Go.RowKit Go.Scr Go.ChangeMaps Go.MapKept
set_option linter.unusedVariables false
/-- what a walk gives up -/
def DownQ (Z : ByteArray → ByteArray → Prop) (w : World) (e : Ending) (w' : World) : Prop := ∃ p q, e = .panicked [{ v := foundV p q, recovered := false }] ∧ Z p q ∧ Below w.heap.size w w'
def PairQ (Z : ByteArray → ByteArray → Prop) (w : World) (e : Ending) (w' : World) : Prop := ∃ p q, e = .returned (.tuple #[.agg #[.string p, .string q], .int .i64 0]) ∧ Z p q ∧ Below w.heap.size w w'
/-- the highest pair of two lists that is not the same -/
def hiR : List ByteArray → List ByteArray → Option (ByteArray × ByteArray)
  | a :: A, b :: B => match hiR A B with
    | some x => some x
    | none => if a = b then none else some (a, b)
  | _, _ => none
theorem hiR_none : ∀ (A B : List ByteArray), (∀ j : Nat, A[j]? = B[j]?) → hiR A B = none
  | [], _, _ => by simp [hiR]
  | _ :: _, [], _ => rfl
  | a :: A, b :: B, h => by
    have h0 := h 0
    rw [List.getElem?_cons_zero, List.getElem?_cons_zero] at h0
    rw [hiR, hiR_none A B (fun j => by have := h (j + 1); rwa [List.getElem?_cons_succ, List.getElem?_cons_succ] at this)]
    exact if_pos (Option.some.inj h0)
theorem hiR_at : ∀ (A B : List ByteArray) (k : Nat) (a b : ByteArray), A[k]? = some a → B[k]? = some b → a ≠ b → (∀ j : Nat, k < j → A[j]? = B[j]?) → hiR A B = some (a, b)
  | [], _, _, _, _, h, _, _, _ => by simp at h
  | _ :: _, [], _, _, _, _, h, _, _ => by simp at h
  | x :: A, y :: B, 0, a, b, h1, h2, hne, h => by
    rw [List.getElem?_cons_zero] at h1 h2
    rw [hiR, hiR_none A B (fun j => by have := h (j + 1) (by omega); rwa [List.getElem?_cons_succ, List.getElem?_cons_succ] at this), Option.some.inj h1, Option.some.inj h2]
    exact if_neg hne
  | x :: A, y :: B, k + 1, a, b, h1, h2, hne, h => by
    rw [List.getElem?_cons_succ] at h1 h2
    rw [hiR, hiR_at A B k a b h1 h2 hne (fun j hj => by have := h (j + 1) (by omega); rwa [List.getElem?_cons_succ, List.getElem?_cons_succ] at this)]
theorem high_downQ {A B : List ByteArray} (H : TwoW A B) {w w' : World} {e : Ending} (h : HighP A B w e w') : DownQ (fun p q => hiR A B = some (p, q)) w e w' := by
  rcases h with ⟨_, h, _⟩ | ⟨k, a, b, he, ha, hb, hne, hk, hw⟩
  · exact absurd h H.ne
  · exact ⟨a, b, he, hiR_at A B k a b ha hb hne hk, hw⟩
set_option maxRecDepth 100000 in
set_option maxHeartbeats 1000000 in
theorem closIq_any {w : World} {ba bb : Nat} {va vb : Value} {A B : List ByteArray} (ca : w.cell? ⟨ba, 0, none⟩ = some va) (cb : w.cell? ⟨bb, 0, none⟩ = some vb) (hva : Held w 9 1 va A.length (A.map Value.string)) (hvb : Held w 9 1 vb B.length (B.map Value.string)) (H : TwoW A B) :
    Calls Tryz.prog 24 #[.pointer (some ⟨ba, 0, none⟩), .pointer (some ⟨bb, 0, none⟩)] w (DownQ (fun p q => hiR A B = some (p, q)) w) := by
  have CD := Lib.hid (highest_any A B va vb w hva hvb H.l H.n)
  have HH := Lib.hid H
  clear hva hvb H
  go_enter Tryz.func24, Tryz.ntmps24
  go_wp2_with fail
  refine CD.out.mono ?_
  rintro o z h
  have h2 := high_downQ HH.out h
  obtain ⟨p, q, rfl, _⟩ := id h2
  exact ⟨rfl, h2⟩
set_option maxRecDepth 100000 in
set_option maxHeartbeats 1000000 in
theorem closCq_any {w : World} {ba bb : Nat} {va vb : Value} {A B : List ByteArray} (ca : w.cell? ⟨ba, 0, none⟩ = some va) (cb : w.cell? ⟨bb, 0, none⟩ = some vb) (hva : Held w 9 1 va A.length (A.map Value.string)) (hvb : Held w 9 1 vb B.length (B.map Value.string)) (H : TwoW A B) :
    Calls Tryz.prog 40 #[.pointer (some ⟨ba, 0, none⟩), .pointer (some ⟨bb, 0, none⟩)] w (DownQ (fun p q => hiR A B = some (p, q)) w) := by
  have CD := Lib.hid (highest_any A B va vb w hva hvb H.l H.n)
  have HH := Lib.hid H
  clear hva hvb H
  go_enter Tryz.func40, Tryz.ntmps40
  go_wp2_with fail
  refine CD.out.mono ?_
  rintro o z h
  have h2 := high_downQ HH.out h
  obtain ⟨p, q, rfl, _⟩ := id h2
  exact ⟨rfl, h2⟩
set_option maxRecDepth 100000 in
set_option maxHeartbeats 1000000 in
theorem caughtLq_any (Z : ByteArray → ByteArray → Prop) (ba bb : Nat) (w : World) (HC : Hid (∀ w', Below w.heap.size w w' → Calls Tryz.prog 33 #[.pointer (some ⟨ba, 0, none⟩), .pointer (some ⟨bb, 0, none⟩)] w' (DownQ Z w'))) :
    Calls Tryz.prog 23 #[.func (.func 33) #[] #[.pointer (some ⟨ba, 0, none⟩), .pointer (some ⟨bb, 0, none⟩)]] w (PairQ Z w) := by
  have hmf : ∀ (fn : Fn) (first cap : Array Value) (w : World), (Instr.makeFunc fn first cap).run Tryz.prog w = .ok (.func fn first cap) w := fun _ _ _ _ => rfl
  obtain ⟨x0, x1, x2⟩ := two_blocksE w #[.string ⟨#[]⟩, .string ⟨#[]⟩] #[.int .i64 0] 26 27
  have HX := Lib.hid (And.intro x0 (And.intro x1 x2))
  have HC2 := Lib.hid (HC.out _ x2)
  clear x0 x1 x2
  go_enter_defers Tryz.func23, Tryz.ntmps23
  go_wp2_with fail
  refine HC2.out.mono ?_
  rintro o z ⟨p, q, rfl, hpq, hb⟩
  obtain ⟨x0, x1, x2⟩ := HX.out
  have y0 := blk_below x0 hb (blk_lt x0)
  have y1 := blk_below x1 hb (blk_lt x1)
  refine leaves_cons (f := 53) (args := #[.pointer (some ⟨w.heap.size, 0, none⟩), .pointer (some ⟨w.heap.size + 1, 0, none⟩)]) (by simp) (by simp [go_sem]) ?_
  refine (catch_panicking w.heap.size (w.heap.size + 1) p q _ _ _ _ (cellB y0 rfl) (cellB y0 rfl) (cellB y1 rfl) (frozB y0) (frozB y0) (frozB y1) (by omega)).mono ?_
  rintro e u' w'' ⟨rfl, rfl, rfl⟩
  have hx6 := blk_set (blk_set y0 0 (.string p)) 1 (.string q)
  obtain ⟨wf, hwf⟩ : ∃ x, x = ((z.setCell ⟨w.heap.size, 0, none⟩ (.string p)).setCell ⟨w.heap.size, 1, none⟩ (.string q)).setCell ⟨w.heap.size + 1, 0, none⟩ (.int .i64 0) := ⟨_, rfl⟩
  have hx7 : wf.heap[w.heap.size]? = some (.cells #[.string p, .string q] 26 (0, 0)) := by
    rw [hwf, Below.heap_setCell _ ⟨w.heap.size + 1, 0, none⟩ _ _ (by show w.heap.size ≠ w.heap.size + 1; omega)]
    exact hx6
  have hy7 : wf.heap[w.heap.size + 1]? = some (.cells #[.int .i64 0] 27 (0, 0)) := by
    rw [hwf]
    refine blk_set (cs := #[.int .i64 0]) ?_ 0 _
    rw [Below.heap_setCell _ ⟨w.heap.size, 1, none⟩ _ _ (by show w.heap.size + 1 ≠ w.heap.size; omega), Below.heap_setCell _ ⟨w.heap.size, 0, none⟩ _ _ (by show w.heap.size + 1 ≠ w.heap.size; omega)]
    exact y1
  have hbf : Below w.heap.size w wf := by
    rw [hwf]
    exact (((x2.trans (hb.mono x2.size)).setCell (p := ⟨w.heap.size, 0, none⟩) (Nat.le_refl _) _).setCell (p := ⟨w.heap.size, 1, none⟩) (Nat.le_refl _) _).setCell (p := ⟨w.heap.size + 1, 0, none⟩) (Nat.le_succ _) _
  have m0 : wf.cell? ⟨w.heap.size, 0, none⟩ = some (.string p) := cellB hx7 rfl
  have m1 : wf.cell? ⟨w.heap.size, 1, none⟩ = some (.string q) := cellB hx7 rfl
  have m2 : wf.cell? ⟨w.heap.size + 1, 0, none⟩ = some (.int .i64 0) := cellB hy7 rfl
  rw [← hwf]
  clear hwf hx6 x0 x1 x2 y0 y1 hb
  simp [Leaves, settle, results, Tryz.results23, go_sem, m0, m1, m2]
  exact ⟨p, q, rfl, hpq, hbf⟩
set_option maxRecDepth 100000 in
set_option maxHeartbeats 1000000 in
theorem caughtIq_any (Z : ByteArray → ByteArray → Prop) (ba bb : Nat) (w : World) (HC : Hid (∀ w', Below w.heap.size w w' → Calls Tryz.prog 24 #[.pointer (some ⟨ba, 0, none⟩), .pointer (some ⟨bb, 0, none⟩)] w' (DownQ Z w'))) :
    Calls Tryz.prog 23 #[.func (.func 24) #[] #[.pointer (some ⟨ba, 0, none⟩), .pointer (some ⟨bb, 0, none⟩)]] w (PairQ Z w) := by
  have hmf : ∀ (fn : Fn) (first cap : Array Value) (w : World), (Instr.makeFunc fn first cap).run Tryz.prog w = .ok (.func fn first cap) w := fun _ _ _ _ => rfl
  obtain ⟨x0, x1, x2⟩ := two_blocksE w #[.string ⟨#[]⟩, .string ⟨#[]⟩] #[.int .i64 0] 26 27
  have HX := Lib.hid (And.intro x0 (And.intro x1 x2))
  have HC2 := Lib.hid (HC.out _ x2)
  clear x0 x1 x2
  go_enter_defers Tryz.func23, Tryz.ntmps23
  go_wp2_with fail
  refine HC2.out.mono ?_
  rintro o z ⟨p, q, rfl, hpq, hb⟩
  obtain ⟨x0, x1, x2⟩ := HX.out
  have y0 := blk_below x0 hb (blk_lt x0)
  have y1 := blk_below x1 hb (blk_lt x1)
  refine leaves_cons (f := 53) (args := #[.pointer (some ⟨w.heap.size, 0, none⟩), .pointer (some ⟨w.heap.size + 1, 0, none⟩)]) (by simp) (by simp [go_sem]) ?_
  refine (catch_panicking w.heap.size (w.heap.size + 1) p q _ _ _ _ (cellB y0 rfl) (cellB y0 rfl) (cellB y1 rfl) (frozB y0) (frozB y0) (frozB y1) (by omega)).mono ?_
  rintro e u' w'' ⟨rfl, rfl, rfl⟩
  have hx6 := blk_set (blk_set y0 0 (.string p)) 1 (.string q)
  obtain ⟨wf, hwf⟩ : ∃ x, x = ((z.setCell ⟨w.heap.size, 0, none⟩ (.string p)).setCell ⟨w.heap.size, 1, none⟩ (.string q)).setCell ⟨w.heap.size + 1, 0, none⟩ (.int .i64 0) := ⟨_, rfl⟩
  have hx7 : wf.heap[w.heap.size]? = some (.cells #[.string p, .string q] 26 (0, 0)) := by
    rw [hwf, Below.heap_setCell _ ⟨w.heap.size + 1, 0, none⟩ _ _ (by show w.heap.size ≠ w.heap.size + 1; omega)]
    exact hx6
  have hy7 : wf.heap[w.heap.size + 1]? = some (.cells #[.int .i64 0] 27 (0, 0)) := by
    rw [hwf]
    refine blk_set (cs := #[.int .i64 0]) ?_ 0 _
    rw [Below.heap_setCell _ ⟨w.heap.size, 1, none⟩ _ _ (by show w.heap.size + 1 ≠ w.heap.size; omega), Below.heap_setCell _ ⟨w.heap.size, 0, none⟩ _ _ (by show w.heap.size + 1 ≠ w.heap.size; omega)]
    exact y1
  have hbf : Below w.heap.size w wf := by
    rw [hwf]
    exact (((x2.trans (hb.mono x2.size)).setCell (p := ⟨w.heap.size, 0, none⟩) (Nat.le_refl _) _).setCell (p := ⟨w.heap.size, 1, none⟩) (Nat.le_refl _) _).setCell (p := ⟨w.heap.size + 1, 0, none⟩) (Nat.le_succ _) _
  have m0 : wf.cell? ⟨w.heap.size, 0, none⟩ = some (.string p) := cellB hx7 rfl
  have m1 : wf.cell? ⟨w.heap.size, 1, none⟩ = some (.string q) := cellB hx7 rfl
  have m2 : wf.cell? ⟨w.heap.size + 1, 0, none⟩ = some (.int .i64 0) := cellB hy7 rfl
  rw [← hwf]
  clear hwf hx6 x0 x1 x2 y0 y1 hb
  simp [Leaves, settle, results, Tryz.results23, go_sem, m0, m1, m2]
  exact ⟨p, q, rfl, hpq, hbf⟩
set_option maxRecDepth 100000 in
set_option maxHeartbeats 1000000 in
theorem caughtCq_any (Z : ByteArray → ByteArray → Prop) (ba bb : Nat) (w : World) (HC : Hid (∀ w', Below w.heap.size w w' → Calls Tryz.prog 40 #[.pointer (some ⟨ba, 0, none⟩), .pointer (some ⟨bb, 0, none⟩)] w' (DownQ Z w'))) :
    Calls Tryz.prog 23 #[.func (.func 40) #[] #[.pointer (some ⟨ba, 0, none⟩), .pointer (some ⟨bb, 0, none⟩)]] w (PairQ Z w) := by
  have hmf : ∀ (fn : Fn) (first cap : Array Value) (w : World), (Instr.makeFunc fn first cap).run Tryz.prog w = .ok (.func fn first cap) w := fun _ _ _ _ => rfl
  obtain ⟨x0, x1, x2⟩ := two_blocksE w #[.string ⟨#[]⟩, .string ⟨#[]⟩] #[.int .i64 0] 26 27
  have HX := Lib.hid (And.intro x0 (And.intro x1 x2))
  have HC2 := Lib.hid (HC.out _ x2)
  clear x0 x1 x2
  go_enter_defers Tryz.func23, Tryz.ntmps23
  go_wp2_with fail
  refine HC2.out.mono ?_
  rintro o z ⟨p, q, rfl, hpq, hb⟩
  obtain ⟨x0, x1, x2⟩ := HX.out
  have y0 := blk_below x0 hb (blk_lt x0)
  have y1 := blk_below x1 hb (blk_lt x1)
  refine leaves_cons (f := 53) (args := #[.pointer (some ⟨w.heap.size, 0, none⟩), .pointer (some ⟨w.heap.size + 1, 0, none⟩)]) (by simp) (by simp [go_sem]) ?_
  refine (catch_panicking w.heap.size (w.heap.size + 1) p q _ _ _ _ (cellB y0 rfl) (cellB y0 rfl) (cellB y1 rfl) (frozB y0) (frozB y0) (frozB y1) (by omega)).mono ?_
  rintro e u' w'' ⟨rfl, rfl, rfl⟩
  have hx6 := blk_set (blk_set y0 0 (.string p)) 1 (.string q)
  obtain ⟨wf, hwf⟩ : ∃ x, x = ((z.setCell ⟨w.heap.size, 0, none⟩ (.string p)).setCell ⟨w.heap.size, 1, none⟩ (.string q)).setCell ⟨w.heap.size + 1, 0, none⟩ (.int .i64 0) := ⟨_, rfl⟩
  have hx7 : wf.heap[w.heap.size]? = some (.cells #[.string p, .string q] 26 (0, 0)) := by
    rw [hwf, Below.heap_setCell _ ⟨w.heap.size + 1, 0, none⟩ _ _ (by show w.heap.size ≠ w.heap.size + 1; omega)]
    exact hx6
  have hy7 : wf.heap[w.heap.size + 1]? = some (.cells #[.int .i64 0] 27 (0, 0)) := by
    rw [hwf]
    refine blk_set (cs := #[.int .i64 0]) ?_ 0 _
    rw [Below.heap_setCell _ ⟨w.heap.size, 1, none⟩ _ _ (by show w.heap.size + 1 ≠ w.heap.size; omega), Below.heap_setCell _ ⟨w.heap.size, 0, none⟩ _ _ (by show w.heap.size + 1 ≠ w.heap.size; omega)]
    exact y1
  have hbf : Below w.heap.size w wf := by
    rw [hwf]
    exact (((x2.trans (hb.mono x2.size)).setCell (p := ⟨w.heap.size, 0, none⟩) (Nat.le_refl _) _).setCell (p := ⟨w.heap.size, 1, none⟩) (Nat.le_refl _) _).setCell (p := ⟨w.heap.size + 1, 0, none⟩) (Nat.le_succ _) _
  have m0 : wf.cell? ⟨w.heap.size, 0, none⟩ = some (.string p) := cellB hx7 rfl
  have m1 : wf.cell? ⟨w.heap.size, 1, none⟩ = some (.string q) := cellB hx7 rfl
  have m2 : wf.cell? ⟨w.heap.size + 1, 0, none⟩ = some (.int .i64 0) := cellB hy7 rfl
  rw [← hwf]
  clear hwf hx6 x0 x1 x2 y0 y1 hb
  simp [Leaves, settle, results, Tryz.results23, go_sem, m0, m1, m2]
  exact ⟨p, q, rfl, hpq, hbf⟩
end Go.Proofs.YtdbghgpohdijfaaGreatDoor
