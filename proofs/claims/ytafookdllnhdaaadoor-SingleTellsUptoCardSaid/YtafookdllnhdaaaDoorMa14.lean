/- A range over a function whose iterator keeps some variables of its own in cells (its first k new blocks). -/
import Derived.RangeFuncNested
import Derived.RangeFuncBound
import Derived.RangeFuncCalls
import Derived.RangeFuncLeaves
import Derived.Shelf.Abstract
import Derived.Shelf.RegionOpen
import Derived.WalkKit
import Derived.OwnWalkIn
import Derived.TacticsInMore
import Derived.LoopNIn
import Derived.LoopIn
namespace Go.Scr
open Go.RowKit Go.Shelf
set_option linter.unusedVariables false

/-- nothing has turned but some blocks; there may be new ones -/
structure Chg (Q : Nat → Prop) (a c : World) : Prop where
  os : c.os = a.os
  tape : c.tape = a.tape
  output : c.output = a.output
  size : a.heap.size ≤ c.heap.size
  same : ∀ i, i < a.heap.size → ¬ Q i → c.heap[i]? = a.heap[i]?
theorem Chg.refl (Q : Nat → Prop) (a : World) : Chg Q a a := ⟨rfl, rfl, rfl, Nat.le_refl _, fun _ _ _ => rfl⟩
theorem Chg.trans {Q : Nat → Prop} {a b c : World} (h : Chg Q a b) (g : Chg Q b c) : Chg Q a c :=
  ⟨g.os.trans h.os, g.tape.trans h.tape, g.output.trans h.output, Nat.le_trans h.size g.size, fun i hi hq => (g.same i (Nat.lt_of_lt_of_le hi h.size) hq).trans (h.same i hi hq)⟩
theorem Chg.mono {Q Q' : Nat → Prop} {a c : World} (h : Chg Q a c) (hq : ∀ i, Q i → Q' i) : Chg Q' a c := ⟨h.os, h.tape, h.output, h.size, fun i hi hn => h.same i hi (fun e => hn (hq i e))⟩
theorem Chg.put (Q : Nat → Prop) (a : World) {l : Nat} (o : Obj) (hl : Q l) : Chg Q a (a.putObj l o) :=
  ⟨rfl, rfl, rfl, by simp, fun i hi hn => World.putObj_heap_other (fun e => hn (by rw [e]; exact hl))⟩
theorem Chg.alloc (Q : Nat → Prop) (a : World) (o : Obj) : Chg Q a (a.alloc o) := ⟨rfl, rfl, rfl, by simp, fun i hi _ => Below.heap_alloc a o i hi⟩
theorem Chg.of_below {Q : Nat → Prop} {a c : World} (h : Below a.heap.size a c) : Chg Q a c := ⟨h.os, h.tape, h.output, h.size, fun i hi _ => h.block i hi⟩
/-- what a round keeps -/
structure Kq (K : Nat → Prop) (a c : World) : Prop where
  size : a.heap.size ≤ c.heap.size
  same : ∀ i, i < a.heap.size → K i → c.heap[i]? = a.heap[i]?
theorem Kq.refl (K : Nat → Prop) (a : World) : Kq K a a := ⟨Nat.le_refl _, fun _ _ _ => rfl⟩
theorem Kq.trans {K : Nat → Prop} {a b c : World} (h : Kq K a b) (g : Kq K b c) : Kq K a c := ⟨Nat.le_trans h.size g.size, fun i hi hk => (g.same i (Nat.lt_of_lt_of_le hi h.size) hk).trans (h.same i hi hk)⟩
theorem Kq.of_chg {K Q : Nat → Prop} {a c : World} (h : Chg Q a c) (hd : ∀ i, K i → ¬ Q i) : Kq K a c := ⟨h.size, fun i hi hk => h.same i hi (hd i hk)⟩
/-- an iterator: its calls of yield hand on what S says; its own variables are the blocks from B on to B + k; it reads, besides, the blocks that cap names -/
def SeqQ {α : Type} (F : Fence) (n : Nat) (P : Program) (g : Nat) (lb : Array Value) (encs : α → Array Value) (k : Nat) (S Sp : List α → Prop) (Ok : List α → α → Prop) (cap : Nat → Prop) (W : World) : Prop :=
  ∀ (l : Nat) (J Jx : List α → World → Prop), (∀ s a c, J s a → Chg (fun i => W.heap.size ≤ i ∧ i < W.heap.size + k) a c → J s c) → (∀ s a c, Jx s a → Chg (fun i => W.heap.size ≤ i ∧ i < W.heap.size + k) a c → Jx s c) →
    (∀ pre x W1, J pre W1 → W.heap.size + k ≤ W1.heap.size → Ok pre x → YieldAt F (n - 1) P l (encs x) W1 fun e W' =>
      ((e = .returned (.bool true) ∧ J (pre ++ [x]) W') ∨ (e = .returned (.bool false) ∧ Jx (pre ++ [x]) W')) ∧ Kq (fun i => (W.heap.size ≤ i ∧ i < W.heap.size + k) ∨ cap i) W1 W') →
    J [] W →
    CallsIn F n P g (#[.func (.yield l) #[] #[]] ++ lb) W fun e W' => (∃ v, e = .returned v) ∧ ((∃ xs, S xs ∧ J xs W') ∨ (∃ pre, Sp pre ∧ Jx pre W'))
/-- how a round's body may be left -/
def rndPost {α : Type} (K : Nat → Prop) (I : List α → World → Prop) (Ix : Code → List α → World → Prop) (xs : List α) (W : World) : Exit → Act → World → Prop
  | .normal, _, W' => Kq K W W' ∧ I xs W'
  | .ret, _, W' => Kq K W W' ∧ Ix .ret xs W'
  | .exit id, _, W' => Kq K W W' ∧ Ix (.exit id) xs W'
  | .goto t, _, W' => Kq K W W' ∧ Ix (.goto t) xs W'
  | .panic _, _, _ => False
  | .outgrown, _, _ => False
theorem wpIn_rangeQ {α : Type} {F : Fence} {n : Nat} {P : Program} {g : Operand} {ps : Array Tmp} {assign body : Code} {Q : Exit → Act → World → Prop} {a : Act} {w : World}
    (hro : F.round = none) (h1 : 1 ≤ n) {gf : Nat} {lb : Array Value} (hg : a.eval g = .func (.func gf) #[] lb) (hFg : F.fn gf) (eg : ∀ args w, (callFunc gf args).run P w = .ok (.enter gf args) w)
    {encs : α → Array Value} {k : Nat} {S Sp : List α → Prop} {Ok : List α → α → Prop} {cap : Nat → Prop} (hcap : ∀ i, cap i → i < w.heap.size)
    (hseq : ∀ W, Below w.heap.size w W → W.heap.size = w.heap.size + 2 → SeqQ F (n - 1) P gf lb encs k S Sp Ok cap W) (hps : ∀ x, (encs x).size = ps.size)
    (I : List α → World → Prop) (Ix : Code → List α → World → Prop) (hI : ∀ s a c, I s a → Chg (fun i => w.heap.size ≤ i ∧ i < w.heap.size + 2 + k) a c → I s c) (hIx : ∀ j s a c, Ix j s a → Chg (fun i => w.heap.size ≤ i ∧ i < w.heap.size + 2 + k) a c → Ix j s c) (h0 : I [] w)
    (hround : ∀ (l : Nat) (pre : List α) (x : α) (W : World), I pre W → w.heap.size + 2 + k ≤ W.heap.size → Ok pre x →
      assign.wpIn (F.inRound l) (n - 1 - 1) P (Exit.then (fun a₁ w₁ => Kq (fun i => (w.heap.size ≤ i ∧ i < w.heap.size + 2 + k) ∨ cap i) W w₁ ∧
          ∀ w₂, Chg (fun i => i = w.heap.size + 1) w₁ w₂ → w₂.heap.size = w₁.heap.size → body.wpIn (F.inRound l) (n - 1 - 1) P (rndPost (fun i => (w.heap.size ≤ i ∧ i < w.heap.size + 2 + k) ∨ cap i) I Ix (pre ++ [x]) w₂) a₁ w₂) (fun _ _ _ => False))
        { tmps := (ps.zip (encs x)).foldl (fun t (p, v) => t.setIfInBounds p v) a.tmps, defers := [] } W)
    (hdone : ∀ (D : Nat) (xs : List α) (W : World), D = w.heap.size → S xs → I xs W → W.heap[D]? = some (.deferred (some [])) → Q .normal { a with defers := { target := .collected D, args := #[] } :: a.defers } W)
    (hstop : ∀ (D : Nat) (c : Code) (pre : List α) (W : World), D = w.heap.size → Sp pre → Ix c pre W → W.heap[D]? = some (.deferred (some [])) → c.wpIn F n P Q { a with defers := { target := .collected D, args := #[] } :: a.defers } W) :
    (Code.rangeFunc g ps assign body).wpIn F n P Q a w := by
  refine wpIn_rangeFunc fun fn hfn => ?_
  rw [hro]
  obtain ⟨D, hD⟩ : ∃ D, D = w.heap.size := ⟨_, rfl⟩
  obtain ⟨mk, hmk⟩ : ∃ mk : LoopState → Option Code → Loop, mk = fun st pe => { state := st, pending := pe, fn, tmps := a.tmps, params := ps, assign, body, defers := w.heap.size } := ⟨_, rfl⟩
  obtain ⟨W1, hW1⟩ : ∃ W1, W1 = (w.alloc (.deferred (some []))).alloc (.loop (mk .ready none)) := ⟨_, rfl⟩
  have hsz : W1.heap.size = D + 2 := by rw [hW1, hD]; simp
  have hbel : Below w.heap.size w W1 := by rw [hW1]; exact ((Below.refl _ _).alloc (Nat.le_refl _) _).alloc (by simp) _
  have hL1 : W1.heap[D + 1]? = some (.loop (mk .ready none)) := by
    have := World.alloc_heap_new (w.alloc (.deferred (some []))) (.loop (mk .ready none))
    rw [World.size_alloc] at this
    rw [hW1, hD]
    exact this
  have hK1 : W1.heap[D]? = some (.deferred (some [])) := by
    rw [hW1, hD]
    exact (Below.heap_alloc _ _ _ (by simp)).trans (World.alloc_heap_new w _)
  have hI1 : I [] W1 := hI _ _ _ h0 (Chg.of_below hbel)
  rw [← hD] at hI hIx hround hdone hstop
  -- the two records lie apart from the iterator's own blocks
  have hqD : ∀ {i : Nat}, (D + 2 ≤ i ∧ i < D + 2 + k) → (D ≤ i ∧ i < D + 2 + k) := fun h => ⟨by omega, h.2⟩
  have keepL : ∀ {A C : World} {o o' : Obj}, A.heap[D + 1]? = some o → A.heap[D]? = some o' → Chg (fun i => D + 2 ≤ i ∧ i < D + 2 + k) A C → C.heap[D + 1]? = some o ∧ C.heap[D]? = some o' := fun hl hk hc =>
    ⟨(hc.same _ (Array.getElem?_eq_some_iff.1 hl).1 (by omega)).trans hl, (hc.same _ (Array.getElem?_eq_some_iff.1 hk).1 (by omega)).trans hk⟩
  refine ⟨D + 1, [{ target := .collected D, args := #[] }], W1, { target := .fn (.func gf) lb, args := #[.func (.yield (D + 1)) #[] #[]] }, W1, gf, #[.func (.yield (D + 1)) #[] #[]] ++ lb, W1, ?_, ?_, ?_, ?_, fun _ => h1, ?_⟩
  · rw [hW1, hmk, hD]; exact run_enterLoop_outer _ _ _ _ _
  · simp only [resolve, hg]
    simp [go_sem]
  · intro f' hf'; simp [Target.leads] at hf'; subst hf'; exact hFg
  · simp [invoke, go_sem, eg]
  · have hs := hseq W1 hbel (by rw [hsz, hD])
    unfold SeqQ at hs
    rw [hsz] at hs
    refine (hs (D + 1) (fun pre W => I pre W ∧ W.heap[D + 1]? = some (.loop (mk .ready none)) ∧ W.heap[D]? = some (.deferred (some [])))
      (fun pre W => ∃ c, Ix c pre W ∧ W.heap[D + 1]? = some (.loop (mk .done (some c))) ∧ W.heap[D]? = some (.deferred (some [])))
      (fun s A C h hc => ⟨hI _ _ _ h.1 (hc.mono fun i => hqD), keepL h.2.1 h.2.2 hc⟩)
      (fun s A C h hc => by
        obtain ⟨c, h1, h2, h3⟩ := h
        exact ⟨c, hIx _ _ _ _ h1 (hc.mono fun i => hqD), keepL h2 h3 hc⟩) ?_ ⟨hI1, hL1, hK1⟩).mono ?_
    · rintro pre x W ⟨hi, hl, hk⟩ hsW hlen
      have hy := run_yield (P := P) (args := encs x) hl (by rw [hmk]; exact hps x)
      rw [hmk] at hy
      refine ⟨fn, _, assign, body, hy, roundIn_of_wpIn hfn (wpIn_mono (hround _ pre x W hi hsW hlen) ?_)⟩
      clear hy
      intro e a1 w1 he
      cases e with
      | normal =>
        obtain ⟨hk1, hb1⟩ := he
        have hl1 : w1.heap[D + 1]? = some (.loop (mk .ready none)) := (hk1.same _ (Array.getElem?_eq_some_iff.1 hl).1 (.inl (by omega))).trans hl
        have hd1 : w1.heap[D]? = some (.deferred (some [])) := (hk1.same _ (Array.getElem?_eq_some_iff.1 hk).1 (.inl (by omega))).trans hk
        have hlt1 : D + 1 < w1.heap.size := (Array.getElem?_eq_some_iff.1 hl1).1
        refine ⟨_, run_beginRound hl1 (by rw [hmk]), ?_⟩
        obtain ⟨w2, hw2⟩ : ∃ w2, w2 = w1.putObj (D + 1) (.loop { mk .ready none with state := .busy }) := ⟨_, rfl⟩
        rw [← hw2]
        have hc2 : Chg (fun i => i = D + 1) w1 w2 := by rw [hw2]; exact Chg.put _ _ _ rfl
        have hl2 : w2.heap[D + 1]? = some (.loop { mk .ready none with state := .busy }) := by rw [hw2]; exact World.putObj_heap_same hlt1
        have hd2 : w2.heap[D]? = some (.deferred (some [])) := (hc2.same _ (by omega) (by omega)).trans hd1
        refine wpIn_mono (hb1 w2 hc2 (by rw [hw2]; simp)) ?_
        -- the round's end
        have fin : ∀ (j : Option Code) (w3 : World), Kq (fun i => (D ≤ i ∧ i < D + 2 + k) ∨ cap i) w2 w3 → ∃ w4, (Instr.endRound (D + 1) j).run P w3 = .ok (.bool j.isNone) w4 ∧ Chg (fun i => i = D + 1) w3 w4 ∧
            w4.heap[D + 1]? = some (.loop (mk (if j.isNone then .ready else .done) j)) ∧ w4.heap[D]? = some (.deferred (some [])) ∧ Kq (fun i => (D + 2 ≤ i ∧ i < D + 2 + k) ∨ cap i) W w4 := by
          intro j w3 h3
          have hl3 : w3.heap[D + 1]? = some (.loop { mk .ready none with state := .busy }) := (h3.same _ (Array.getElem?_eq_some_iff.1 hl2).1 (.inl (by omega))).trans hl2
          have hd3 : w3.heap[D]? = some (.deferred (some [])) := (h3.same _ (Array.getElem?_eq_some_iff.1 hd2).1 (.inl (by omega))).trans hd2
          have hr := run_endRound (P := P) j hl3
          refine ⟨_, hr, Chg.put _ _ _ rfl, ?_, ?_, ?_⟩
          · rw [World.putObj_heap_same (Array.getElem?_eq_some_iff.1 hl3).1, hmk]
          · exact (World.putObj_heap_other (by omega)).trans hd3
          · have e1 : Kq (fun i => (D + 2 ≤ i ∧ i < D + 2 + k) ∨ cap i) W w1 := ⟨hk1.size, fun i hi hK => hk1.same i hi (hK.imp hqD id)⟩
            have e2 : Kq (fun i => (D + 2 ≤ i ∧ i < D + 2 + k) ∨ cap i) w1 w2 := Kq.of_chg hc2 (fun i hK e => by
              rcases hK with hK | hK
              · omega
              · have := hcap i hK; omega)
            have e3 : Kq (fun i => (D + 2 ≤ i ∧ i < D + 2 + k) ∨ cap i) w2 w3 := ⟨h3.size, fun i hi hK => h3.same i hi (hK.imp hqD id)⟩
            refine ((e1.trans e2).trans e3).trans (Kq.of_chg (Chg.put (fun i => i = D + 1) _ _ rfl) (fun i hK e => ?_))
            rcases hK with hK | hK
            · omega
            · have := hcap i hK; omega
        have one : ∀ {A C : World}, Chg (fun i => i = D + 1) A C → Chg (fun i => D ≤ i ∧ i < D + 2 + k) A C := fun h => h.mono fun i e => by omega
        rintro e a3 w3 hp
        cases e with
        | normal =>
          obtain ⟨h3, hi3⟩ := hp
          obtain ⟨w4, r4, c4, l4, d4, k4⟩ := fin none w3 h3
          exact ⟨_, _, r4, .inl ⟨rfl, hI _ _ _ hi3 (one c4), l4, d4⟩, k4⟩
        | ret =>
          obtain ⟨h3, hi3⟩ := hp
          obtain ⟨w4, r4, c4, l4, d4, k4⟩ := fin (some .ret) w3 h3
          exact ⟨_, _, r4, .inr ⟨rfl, .ret, hIx _ _ _ _ hi3 (one c4), l4, d4⟩, k4⟩
        | exit id =>
          obtain ⟨h3, hi3⟩ := hp
          obtain ⟨w4, r4, c4, l4, d4, k4⟩ := fin (some (.exit id)) w3 h3
          exact ⟨_, _, r4, .inr ⟨rfl, .exit id, hIx _ _ _ _ hi3 (one c4), l4, d4⟩, k4⟩
        | goto t =>
          obtain ⟨h3, hi3⟩ := hp
          obtain ⟨w4, r4, c4, l4, d4, k4⟩ := fin (some (.goto t)) w3 h3
          exact ⟨_, _, r4, .inr ⟨rfl, .goto t, hIx _ _ _ _ hi3 (one c4), l4, d4⟩, k4⟩
        | panic ch => exact hp.elim
        | outgrown => exact hp.elim
      | _ => exact he.elim
    · rintro e W2 ⟨⟨v, rfl⟩, (⟨xs, hS, hi, hl, hk⟩ | ⟨pre, hSp, c, hi, hl, hk⟩)⟩
      · have hr := run_endLoop (P := P) hl (by rw [hmk]; simp)
        rw [hmk] at hr
        exact ⟨none, _, hr, hdone _ xs _ rfl hS (hI _ _ _ hi (Chg.put _ _ _ ⟨by omega, by omega⟩)) ((World.putObj_heap_other (by omega)).trans hk)⟩
      · have hr := run_endLoop (P := P) hl (by rw [hmk]; simp)
        rw [hmk] at hr
        exact ⟨some c, _, hr, hstop _ c pre _ rfl hSp (hIx _ _ _ _ hi (Chg.put _ _ _ ⟨by omega, by omega⟩)) ((World.putObj_heap_other (by omega)).trans hk)⟩
end Go.Scr
