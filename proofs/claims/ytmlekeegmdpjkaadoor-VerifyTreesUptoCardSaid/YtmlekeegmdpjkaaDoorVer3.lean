/- Layer 4, walked: PathLen, ProofLen. -/
import Derived.Test.YtmlekeegmdpjkaaDoorVer2
namespace Go.Proofs.YtmlekeegmdpjkaaDoor
open Go.RowKit Go.Scr
set_option linter.unusedVariables false

def badSize (s : Int) : Bool := decide (s < 1) || decide (s > 1099511627776)
def badIndex (s i : Int) : Bool := decide (i < 0) || decide (i ≥ s)
def pathLenS (s i : Int) : Int := if s < 1 ∨ 1099511627776 < s then 0 else if i < 0 ∨ s ≤ i then 0 else ((wayN s.toNat i.toNat : Nat) : Int)
def pathLenE (s i : Int) : Int := if s < 1 ∨ 1099511627776 < s then 41 else if i < 0 ∨ s ≤ i then 40 else 0
def proofLenS (f s : Int) : Int := if f < 1 ∨ s < f ∨ 1099511627776 < s then 0 else ((toldN f.toNat s.toNat true : Nat) : Int)
def proofLenE (f s : Int) : Int := if f < 1 ∨ s < f ∨ 1099511627776 < s then 41 else 0
theorem pathLenS_ok {n m : Nat} (h : m < n) (hn : n ≤ 1099511627776) : pathLenS n m = ((wayN n m : Nat) : Int) ∧ pathLenE n m = 0 := by
  unfold pathLenS pathLenE
  rw [if_neg (by omega), if_neg (by omega), if_neg (by omega), if_neg (by omega)]
  simp
theorem proofLenS_ok {f s : Nat} (h1 : 1 ≤ f) (h2 : f ≤ s) (h : s ≤ 1099511627776) : proofLenS f s = ((toldN f s true : Nat) : Int) ∧ proofLenE f s = 0 := by
  unfold proofLenS proofLenE
  rw [if_neg (by omega), if_neg (by omega)]
  simp
theorem stepL_len (l : Nat) : ∀ a, (stepL a l).length ≤ l := by
  induction l using Nat.strongRecOn with
  | ind l ih =>
    intro a
    by_cases h : l = 0
    · rw [h, stepL_zero]; simp
    · rw [stepL_cons h, List.length_cons]
      have h1 := (skB_le (isLeft a l) a l).2
      have := ih ((skB (isLeft a l) a l).2 / 2) (by omega) ((skB (isLeft a l) a l).1 / 2)
      omega
theorem two_le (wB : World) (o : Obj) : wB.heap.size ≤ (wB.alloc o).heap.size := by simp
theorem stepL_way {n m : Nat} (h : m < n) : (stepL m (n - 1)).length = wayN n m := by rw [stepL_dn n m h]; rfl
theorem stepL_told {f s : Nat} (h1 : 1 ≤ f) (h2 : f < s) : (if (strip (f - 1) (s - 1)).1 == 0 then 0 else 1) + (stepL (strip (f - 1) (s - 1)).1 (strip (f - 1) (s - 1)).2).length = toldN f s true := by
  have := strip_fl s f h1 h2
  unfold toldN
  rw [this.1, this.2]
  omega
theorem strip_mono (a : Nat) : ∀ l, a ≤ l → (strip a l).1 ≤ (strip a l).2 := by
  induction a using Nat.strongRecOn with
  | ind a ih =>
    intro l h
    by_cases ho : a % 2 = 1
    · rw [strip_odd l ho]; exact ih (a / 2) (by omega) (l / 2) (by omega)
    · rw [strip_even l ho]; exact h

set_option maxRecDepth 100000 in
set_option maxHeartbeats 1000000 in
theorem pathlen_any (s i : Int) (w : World) :
    Calls Tryd.prog 15 #[.int .i64 s, .int .i64 i] w fun e w' => e = .returned (.tuple #[.int .i64 (pathLenS s i), .int .i64 (pathLenE s i)]) ∧ Below w.heap.size w w' := by
  by_cases h1 : s < 1
  · have e1 : pathLenS s i = 0 := if_pos (Or.inl h1)
    have e2 : pathLenE s i = 41 := if_pos (Or.inl h1)
    rw [e1, e2]
    clear e1 e2
    go_enter Tryd.func15, Tryd.ntmps15
    go_wp2
    go_ret2
    exact ⟨rfl, Below.refl _ _⟩
  · by_cases h2 : 1099511627776 < s
    · have e1 : pathLenS s i = 0 := if_pos (Or.inr h2)
      have e2 : pathLenE s i = 41 := if_pos (Or.inr h2)
      rw [e1, e2]
      clear e1 e2
      go_enter Tryd.func15, Tryd.ntmps15
      go_wp2
      go_ret2
      exact ⟨rfl, Below.refl _ _⟩
    · have hs : ¬ (s < 1 ∨ 1099511627776 < s) := by omega
      by_cases h3 : i < 0
      · have e1 : pathLenS s i = 0 := by unfold pathLenS; rw [if_neg hs, if_pos (Or.inl h3)]
        have e2 : pathLenE s i = 40 := by unfold pathLenE; rw [if_neg hs, if_pos (Or.inl h3)]
        rw [e1, e2]
        clear e1 e2 hs
        go_enter Tryd.func15, Tryd.ntmps15
        go_wp2
        go_ret2
        exact ⟨rfl, Below.refl _ _⟩
      · by_cases h4 : s ≤ i
        · have e1 : pathLenS s i = 0 := by unfold pathLenS; rw [if_neg hs, if_pos (Or.inr h4)]
          have e2 : pathLenE s i = 40 := by unfold pathLenE; rw [if_neg hs, if_pos (Or.inr h4)]
          rw [e1, e2]
          clear e1 e2 hs
          go_enter Tryd.func15, Tryd.ntmps15
          go_wp2
          go_ret2
          exact ⟨rfl, Below.refl _ _⟩
        · obtain ⟨n, rfl⟩ : ∃ n : Nat, s = n := ⟨s.toNat, by omega⟩
          obtain ⟨m, rfl⟩ : ∃ m : Nat, i = m := ⟨i.toNat, by omega⟩
          have hmn : m < n := by omega
          have hn : n ≤ 1099511627776 := by omega
          obtain ⟨e1, e2⟩ := pathLenS_ok hmn hn
          rw [e1, e2, ← stepL_way hmn]
          clear e1 e2 hs
          obtain ⟨l, hl⟩ : ∃ l, l = n - 1 := ⟨_, rfl⟩
          have hli : (n : Int) - 1 = (l : Int) := by omega
          have hml : m ≤ l := by omega
          have hlb : l ≤ 1099511627776 := by omega
          rw [← hl]
          have hsteps := fun w1 (hc : Climb w1 (w.heap.size + 1) m l) (hi : BoxI w1 w.heap.size 0) => steps_pathlen (w.heap.size + 1) w.heap.size w.heap.size (fun L w' => BoxI w' w.heap.size L.length) (by omega) (fun L w w' h hg => blk_only h hg (by simp)) m l hml hlb w1 hc (Nat.le_of_lt (blk_lt hi)) hi
            (fun k b w' hk hI hb => (pathlen1_any b w.heap.size _ (w.heap.size + 1) w' hI (by rw [List.length_take]; have := stepL_len l m; omega) (by omega) w.heap.size (Nat.le_refl _) (Nat.le_of_lt (blk_lt hI))).mono (fun e w'' h => ⟨h.1, by simpa using h.2.1, h.2.2.1, h.2.2.2⟩))
          have HB0 : Hid (BoxI ((w.alloc (.cells #[.int .i64 0] 3)).alloc (.cells #[.int .i64 m, .int .i64 l] 71)) w.heap.size 0) := Lib.hid (blk_alloc (heap_alloc_new w _))
          have HC0 : Hid (Climb ((w.alloc (.cells #[.int .i64 0] 3)).alloc (.cells #[.int .i64 m, .int .i64 l] 71)) (w.heap.size + 1) m l) := Lib.hid (heap_alloc2_new _ _ _)
          have HBB : Hid (Below w.heap.size w ((w.alloc (.cells #[.int .i64 0] 3)).alloc (.cells #[.int .i64 m, .int .i64 l] 71))) := Lib.hid (((Below.refl _ _).alloc (Nat.le_refl _) _).alloc (by simp) _)
          have HSTEPS := Lib.hid hsteps
          clear hl hsteps h1 h2 h3 h4
          go_enter Tryd.func15, Tryd.ntmps15
          go_wp2_with (go_at_call 56; with_reducible refine (HSTEPS.out _ HC0.out HB0.out).mono ?_; rintro e w2 ⟨rfl, hb2, hbb2⟩; have c0 := BoxI.c hb2; have HBB2 := Lib.hid (HBB.out.trans hbb2); clear hb2 hbb2)
          go_ret2
          exact ⟨rfl, HBB2.out⟩

set_option maxRecDepth 100000 in
set_option maxHeartbeats 400000 in
theorem prooflen1_any (b : Bool) (p n g : Nat) (w : World) (h : BoxI w p n) (hn : n ≤ 1099511627778) (hpg : p ≠ g) (B : Nat) (hB : B ≤ p) (hBw : B ≤ w.heap.size) :
    Calls Tryd.prog 60 #[.bool b, .pointer (some ⟨p, 0, none⟩)] w fun e w' => e = .returned (.tuple #[]) ∧ BoxI w' p (n + 1) ∧ Below B w w' ∧ w'.heap[g]? = w.heap[g]? := by
  have c0 := h.c
  have k0 := h.k
  have H := Lib.hid h
  obtain ⟨m, hm⟩ : ∃ m, m = n + 1 := ⟨_, rfl⟩
  have hm1 : (n : Int) + 1 = (m : Int) := by omega
  rw [← hm]
  clear h hm
  go_enter Tryd.func60, Tryd.ntmps60
  go_wp2
  go_end0
  exact ⟨rfl, H.out.set m, step_below _ hB hBw, Below.heap_setCell w ⟨p, 0, none⟩ _ g (fun h => hpg h.symm)⟩

set_option maxRecDepth 100000 in
set_option maxHeartbeats 2000000 in
theorem prooflen_any (f s : Int) (w : World) :
    Calls Tryd.prog 17 #[.int .i64 f, .int .i64 s] w fun e w' => e = .returned (.tuple #[.int .i64 (proofLenS f s), .int .i64 (proofLenE f s)]) ∧ Below w.heap.size w w' := by
  by_cases hbad : f < 1 ∨ s < f ∨ 1099511627776 < s
  · have e1 : proofLenS f s = 0 := if_pos hbad
    have e2 : proofLenE f s = 41 := if_pos hbad
    rw [e1, e2]
    clear e1 e2
    by_cases h1 : f < 1
    · clear hbad
      go_enter Tryd.func17, Tryd.ntmps17
      go_wp2
      go_ret2
      exact ⟨rfl, Below.refl _ _⟩
    · by_cases h2 : s < f
      · clear hbad
        go_enter Tryd.func17, Tryd.ntmps17
        go_wp2
        go_ret2
        exact ⟨rfl, Below.refl _ _⟩
      · have h3 : 1099511627776 < s := by omega
        clear hbad
        go_enter Tryd.func17, Tryd.ntmps17
        go_wp2
        go_ret2
        exact ⟨rfl, Below.refl _ _⟩
  · obtain ⟨n, rfl⟩ : ∃ n : Nat, f = n := ⟨f.toNat, by omega⟩
    obtain ⟨m, rfl⟩ : ∃ m : Nat, s = m := ⟨s.toNat, by omega⟩
    have hn : 1 ≤ n := by omega
    have hnm : n ≤ m := by omega
    have hm : m ≤ 1099511627776 := by omega
    obtain ⟨e1, e2⟩ := proofLenS_ok hn hnm hm
    rw [e1, e2]
    clear e1 e2 hbad
    by_cases heq : n = m
    · subst heq
      have e3 : toldN n n true = 0 := by rw [toldN_same]; rfl
      rw [e3]
      clear e3
      go_enter Tryd.func17, Tryd.ntmps17
      go_wp2
      go_ret2
      exact ⟨rfl, Below.refl _ _⟩
    · have hlt : n < m := by omega
      rw [← stepL_told hn hlt]
      have hbg := begin_any n m w hn hnm hm
      have hst := strip_le (n - 1) (m - 1)
      have hsm := strip_mono (n - 1) (m - 1) (by omega)
      obtain ⟨x, hx⟩ : ∃ x, x = (strip (n - 1) (m - 1)).1 := ⟨_, rfl⟩
      obtain ⟨y, hy⟩ : ∃ y, y = (strip (n - 1) (m - 1)).2 := ⟨_, rfl⟩
      rw [← hx, ← hy] at hbg hst hsm
      rw [← hx, ← hy]
      have hyb : y ≤ 1099511627776 := by omega
      obtain ⟨wl, hwl⟩ : ∃ b, b = (x == 0) := ⟨_, rfl⟩
      rw [← hwl] at hbg ⊢
      have HBG := Lib.hid hbg
      have hne : ¬ ((n : Int) = (m : Int)) := by omega
      have hsteps := fun (c0 : Nat) (wB w1 : World) (hc0 : c0 ≤ 1) (hc : Climb w1 wB.heap.size x y) (hi : BoxI w1 (wB.heap.size + 1) c0) => steps_prooflen wB.heap.size wB.heap.size (wB.heap.size + 1) (fun L w' => BoxI w' (wB.heap.size + 1) (c0 + L.length)) (Nat.le_refl _) (fun L w w' h hg => blk_only h hg (by simp)) x y hsm hyb w1 hc (Nat.le_of_lt (blk_lt hc)) hi
        (fun k b w' hk hI hb => (prooflen1_any b (wB.heap.size + 1) _ wB.heap.size w' hI (by rw [List.length_take]; have := stepL_len y x; omega) (by omega) wB.heap.size (by omega) (by have := blk_lt hI; omega)).mono (fun e w'' h => ⟨h.1, by simpa [Nat.add_assoc] using h.2.1, h.2.2.1, h.2.2.2⟩))
      have HSTEPS := Lib.hid hsteps
      clear hx hy hbg hwl hst hsm heq hsteps
      have HS0 : Hid (∀ wB : World, Climb ((wB.alloc (.cells #[.int .i64 x, .int .i64 y] 71)).alloc (.cells #[.int .i64 0] 3)) wB.heap.size x y ∧ BoxI ((wB.alloc (.cells #[.int .i64 x, .int .i64 y] 71)).alloc (.cells #[.int .i64 0] 3)) (wB.heap.size + 1) 0 ∧ Below wB.heap.size wB ((wB.alloc (.cells #[.int .i64 x, .int .i64 y] 71)).alloc (.cells #[.int .i64 0] 3))) :=
        Lib.hid fun wB => ⟨blk_alloc (heap_alloc_new wB _), heap_alloc2_new _ _ _, ((Below.refl wB.heap.size wB).alloc (Nat.le_refl _) _).alloc (two_le _ _) _⟩
      have HS1 : Hid (∀ wB : World, Climb ((wB.alloc (.cells #[.int .i64 x, .int .i64 y] 71)).alloc (.cells #[.int .i64 1] 3)) wB.heap.size x y ∧ BoxI ((wB.alloc (.cells #[.int .i64 x, .int .i64 y] 71)).alloc (.cells #[.int .i64 1] 3)) (wB.heap.size + 1) 1 ∧ Below wB.heap.size wB ((wB.alloc (.cells #[.int .i64 x, .int .i64 y] 71)).alloc (.cells #[.int .i64 1] 3))) :=
        Lib.hid fun wB => ⟨blk_alloc (heap_alloc_new wB _), heap_alloc2_new _ _ _, ((Below.refl wB.heap.size wB).alloc (Nat.le_refl _) _).alloc (two_le _ _) _⟩
      cases wl with
      | true =>
        go_enter Tryd.func17, Tryd.ntmps17
        go_wp2_with (first
          | (go_at_call 59; with_reducible refine (HBG.out).mono ?_; rintro e wB ⟨rfl, hbB⟩; have HBB := Lib.hid hbB; clear hbB)
          | (go_at_call 56; (with_reducible refine (HSTEPS.out 0 wB _ (by decide) (HS0.out wB).1 (HS0.out wB).2.1).mono ?_; rintro e w2 ⟨rfl, hb2, hbb2⟩; have c0 := BoxI.c hb2; have HBB2 := Lib.hid (below_from HBB.out ((HS0.out wB).2.2.trans hbb2) HBB.out.size); clear hb2 hbb2)))
        go_ret2
        refine ⟨?_, HBB2.out⟩
        simp
      | false =>
        go_enter Tryd.func17, Tryd.ntmps17
        go_wp2_with (first
          | (go_at_call 59; with_reducible refine (HBG.out).mono ?_; rintro e wB ⟨rfl, hbB⟩; have HBB := Lib.hid hbB; clear hbB)
          | (go_at_call 56; (with_reducible refine (HSTEPS.out 1 wB _ (by decide) (HS1.out wB).1 (HS1.out wB).2.1).mono ?_; rintro e w2 ⟨rfl, hb2, hbb2⟩; have c0 := BoxI.c hb2; have HBB2 := Lib.hid (below_from HBB.out ((HS1.out wB).2.2.trans hbb2) HBB.out.size); clear hb2 hbb2)))
        go_ret2
        refine ⟨?_, HBB2.out⟩
        simp
end Go.Proofs.YtmlekeegmdpjkaaDoor
