/- A range over a function whose iterator keeps some variables of its own in cells (its first k new blocks). -/
import Derived.RangeFuncNested
import Derived.RangeFuncBound
import Derived.RangeFuncCalls
import Derived.RangeFuncLeaves
import Derived.Shelf.Abstract
import Derived.Shelf.RegionOpen
import Derived.WalkKit
import Derived.OwnWalkIn
import Derived.TacticsInMore
import Derived.LoopNIn
import Derived.LoopIn
namespace Go.Scr
open Go.RowKit Go.Shelf
set_option linter.unusedVariables false

/-- nothing has turned but some blocks; there may be new ones -/
structure Chg (Q : Nat → Prop) (a c : World) : Prop where
  os : c.os = a.os
  tape : c.tape = a.tape
  output : c.output = a.output
  size : a.heap.size ≤ c.heap.size
  same : ∀ i, i < a.heap.size → ¬ Q i → c.heap[i]? = a.heap[i]?
theorem Chg.refl (Q : Nat → Prop) (a : World) : Chg Q a a := ⟨rfl, rfl, rfl, Nat.le_refl _, fun _ _ _ => rfl⟩
theorem Chg.trans {Q : Nat → Prop} {a b c : World} (h : Chg Q a b) (g : Chg Q b c) : Chg Q a c :=
  ⟨g.os.trans h.os, g.tape.trans h.tape, g.output.trans h.output, Nat.le_trans h.size g.size, fun i hi hq => (g.same i (Nat.lt_of_lt_of_le hi h.size) hq).trans (h.same i hi hq)⟩
theorem Chg.mono {Q Q' : Nat → Prop} {a c : World} (h : Chg Q a c) (hq : ∀ i, Q i → Q' i) : Chg Q' a c := ⟨h.os, h.tape, h.output, h.size, fun i hi hn => h.same i hi (fun e => hn (hq i e))⟩
theorem Chg.put (Q : Nat → Prop) (a : World) {l : Nat} (o : Obj) (hl : Q l) : Chg Q a (a.putObj l o) :=
  ⟨rfl, rfl, rfl, by simp, fun i hi hn => World.putObj_heap_other (fun e => hn (by rw [e]; exact hl))⟩
theorem Chg.alloc (Q : Nat → Prop) (a : World) (o : Obj) : Chg Q a (a.alloc o) := ⟨rfl, rfl, rfl, by simp, fun i hi _ => Below.heap_alloc a o i hi⟩
theorem Chg.of_below {Q : Nat → Prop} {a c : World} (h : Below a.heap.size a c) : Chg Q a c := ⟨h.os, h.tape, h.output, h.size, fun i hi _ => h.block i hi⟩
/-- what a round keeps -/
structure Kq (K : Nat → Prop) (a c : World) : Prop where
  size : a.heap.size ≤ c.heap.size
  same : ∀ i, i < a.heap.size → K i → c.heap[i]? = a.heap[i]?
theorem Kq.refl (K : Nat → Prop) (a : World) : Kq K a a := ⟨Nat.le_refl _, fun _ _ _ => rfl⟩
theorem Kq.trans {K : Nat → Prop} {a b c : World} (h : Kq K a b) (g : Kq K b c) : Kq K a c := ⟨Nat.le_trans h.size g.size, fun i hi hk => (g.same i (Nat.lt_of_lt_of_le hi h.size) hk).trans (h.same i hi hk)⟩
theorem Kq.of_chg {K Q : Nat → Prop} {a c : World} (h : Chg Q a c) (hd : ∀ i, K i → ¬ Q i) : Kq K a c := ⟨h.size, fun i hi hk => h.same i hi (hd i hk)⟩
/-- an iterator: its calls of yield hand on what S says; its own variables are the blocks from B on to B + k; it reads, besides, the blocks that cap names -/
def SeqQ {α : Type} (F : Fence) (n : Nat) (P : Program) (g : Nat) (lb : Array Value) (encs : α → Array Value) (k : Nat) (S Sp : List α → Prop) (Ok : List α → α → Prop) (cap : Nat → Prop) (W : World) : Prop :=
  ∀ (l : Nat) (J Jx : List α → World → Prop), (∀ s a c, J s a → Chg (fun i => W.heap.size ≤ i ∧ i < W.heap.size + k) a c → J s c) → (∀ s a c, Jx s a → Chg (fun i => W.heap.size ≤ i ∧ i < W.heap.size + k) a c → Jx s c) →
    (∀ pre x W1, J pre W1 → W.heap.size + k ≤ W1.heap.size → Ok pre x → YieldAt F (n - 1) P l (encs x) W1 fun e W' =>
      ((e = .returned (.bool true) ∧ J (pre ++ [x]) W') ∨ (e = .returned (.bool false) ∧ Jx (pre ++ [x]) W')) ∧ Kq (fun i => (W.heap.size ≤ i ∧ i < W.heap.size + k) ∨ cap i) W1 W') →
    J [] W →
    CallsIn F n P g (#[.func (.yield l) #[] #[]] ++ lb) W fun e W' => (∃ v, e = .returned v) ∧ ((∃ xs, S xs ∧ J xs W') ∨ (∃ pre, Sp pre ∧ Jx pre W'))
/-- how a round's body may be left -/
def rndPost {α : Type} (K : Nat → Prop) (I : List α → World → Prop) (Ix : Code → List α → World → Prop) (xs : List α) (W : World) : Exit → Act → World → Prop
  | .normal, _, W' => Kq K W W' ∧ I xs W'
  | .ret, _, W' => Kq K W W' ∧ Ix .ret xs W'
  | .exit id, _, W' => Kq K W W' ∧ Ix (.exit id) xs W'
  | .goto t, _, W' => Kq K W W' ∧ Ix (.goto t) xs W'
  | .panic _, _, _ => False
  | .outgrown, _, _ => False
theorem wpIn_rangeQ {α : Type} {F : Fence} {n : Nat} {P : Program} {g : Operand} {ps : Array Tmp} {assign body : Code} {Q : Exit → Act → World → Prop} {a : Act} {w : World}
    (hro : F.round = none) (h1 : 1 ≤ n) {gf : Nat} {lb : Array Value} (hg : a.eval g = .func (.func gf) #[] lb) (hFg : F.fn gf) (eg : ∀ args w, (callFunc gf args).run P w = .ok (.enter gf args) w)
    {encs : α → Array Value} {k : Nat} {S Sp : List α → Prop} {Ok : List α → α → Prop} {cap : Nat → Prop} (hcap : ∀ i, cap i → i < w.heap.size)
    (hseq : ∀ W, Below w.heap.size w W → W.heap.size = w.heap.size + 2 → SeqQ F (n - 1) P gf lb encs k S Sp Ok cap W) (hps : ∀ x, (encs x).size = ps.size)
    (I : List α → World → Prop) (Ix : Code → List α → World → Prop) (hI : ∀ s a c, I s a → Chg (fun i => w.heap.size ≤ i ∧ i < w.heap.size + 2 + k) a c → I s c) (hIx : ∀ j s a c, Ix j s a → Chg (fun i => w.heap.size ≤ i ∧ i < w.heap.size + 2 + k) a c → Ix j s c) (h0 : I [] w)
    (hround : ∀ (l : Nat) (pre : List α) (x : α) (W : World), I pre W → w.heap.size + 2 + k ≤ W.heap.size → Ok pre x →
      assign.wpIn (F.inRound l) (n - 1 - 1) P (Exit.then (fun a₁ w₁ => Kq (fun i => (w.heap.size ≤ i ∧ i < w.heap.size + 2 + k) ∨ cap i) W w₁ ∧
          ∀ w₂, Chg (fun i => i = w.heap.size + 1) w₁ w₂ → w₂.heap.size = w₁.heap.size → body.wpIn (F.inRound l) (n - 1 - 1) P (rndPost (fun i => (w.heap.size ≤ i ∧ i < w.heap.size + 2 + k) ∨ cap i) I Ix (pre ++ [x]) w₂) a₁ w₂) (fun _ _ _ => False))
        { tmps := (ps.zip (encs x)).foldl (fun t (p, v) => t.setIfInBounds p v) a.tmps, defers := [] } W)
    (hdone : ∀ (D : Nat) (xs : List α) (W : World), D = w.heap.size → S xs → I xs W → W.heap[D]? = some (.deferred (some [])) → Q .normal { a with defers := { target := .collected D, args := #[] } :: a.defers } W)
    (hstop : ∀ (D : Nat) (c : Code) (pre : List α) (W : World), D = w.heap.size → Sp pre → Ix c pre W → W.heap[D]? = some (.deferred (some [])) → c.wpIn F n P Q { a with defers := { target := .collected D, args := #[] } :: a.defers } W) :
    (Code.rangeFunc g ps assign body).wpIn F n P Q a w := by
  refine wpIn_rangeFunc fun fn hfn => ?_
  rw [hro]
  obtain ⟨D, hD⟩ : ∃ D, D = w.heap.size := ⟨_, rfl⟩
  obtain ⟨mk, hmk⟩ : ∃ mk : LoopState → Option Code → Loop, mk = fun st pe => { state := st, pending := pe, fn, tmps := a.tmps, params := ps, assign, body, defers := w.heap.size } := ⟨_, rfl⟩
  obtain ⟨W1, hW1⟩ : ∃ W1, W1 = (w.alloc (.deferred (some []))).alloc (.loop (mk .ready none)) := ⟨_, rfl⟩
  have hsz : W1.heap.size = D + 2 := by rw [hW1, hD]; simp
  have hbel : Below w.heap.size w W1 := by rw [hW1]; exact ((Below.refl _ _).alloc (Nat.le_refl _) _).alloc (by simp) _
  have hL1 : W1.heap[D + 1]? = some (.loop (mk .ready none)) := by
    have := World.alloc_heap_new (w.alloc (.deferred (some []))) (.loop (mk .ready none))
    rw [World.size_alloc] at this
    rw [hW1, hD]
    exact this
  have hK1 : W1.heap[D]? = some (.deferred (some [])) := by
    rw [hW1, hD]
    exact (Below.heap_alloc _ _ _ (by simp)).trans (World.alloc_heap_new w _)
  have hI1 : I [] W1 := hI _ _ _ h0 (Chg.of_below hbel)
  rw [← hD] at hI hIx hround hdone hstop
  -- the two records lie apart from the iterator's own blocks
  have hqD : ∀ {i : Nat}, (D + 2 ≤ i ∧ i < D + 2 + k) → (D ≤ i ∧ i < D + 2 + k) := fun h => ⟨by omega, h.2⟩
  have keepL : ∀ {A C : World} {o o' : Obj}, A.heap[D + 1]? = some o → A.heap[D]? = some o' → Chg (fun i => D + 2 ≤ i ∧ i < D + 2 + k) A C → C.heap[D + 1]? = some o ∧ C.heap[D]? = some o' := fun hl hk hc =>
    ⟨(hc.same _ (Array.getElem?_eq_some_iff.1 hl).1 (by omega)).trans hl, (hc.same _ (Array.getElem?_eq_some_iff.1 hk).1 (by omega)).trans hk⟩
  refine ⟨D + 1, [{ target := .collected D, args := #[] }], W1, { target := .fn (.func gf) lb, args := #[.func (.yield (D + 1)) #[] #[]] }, W1, gf, #[.func (.yield (D + 1)) #[] #[]] ++ lb, W1, ?_, ?_, ?_, ?_, fun _ => h1, ?_⟩
  · rw [hW1, hmk, hD]; exact run_enterLoop_outer _ _ _ _ _
  · simp only [resolve, hg]
    simp [go_sem]
  · intro f' hf'; simp [Target.leads] at hf'; subst hf'; exact hFg
  · simp [invoke, go_sem, eg]
  · have hs := hseq W1 hbel (by rw [hsz, hD])
    unfold SeqQ at hs
    rw [hsz] at hs
    refine (hs (D + 1) (fun pre W => I pre W ∧ W.heap[D + 1]? = some (.loop (mk .ready none)) ∧ W.heap[D]? = some (.deferred (some [])))
      (fun pre W => ∃ c, Ix c pre W ∧ W.heap[D + 1]? = some (.loop (mk .done (some c))) ∧ W.heap[D]? = some (.deferred (some [])))
      (fun s A C h hc => ⟨hI _ _ _ h.1 (hc.mono fun i => hqD), keepL h.2.1 h.2.2 hc⟩)
      (fun s A C h hc => by
        obtain ⟨c, h1, h2, h3⟩ := h
        exact ⟨c, hIx _ _ _ _ h1 (hc.mono fun i => hqD), keepL h2 h3 hc⟩) ?_ ⟨hI1, hL1, hK1⟩).mono ?_
    · rintro pre x W ⟨hi, hl, hk⟩ hsW hlen
      have hy := run_yield (P := P) (args := encs x) hl (by rw [hmk]; exact hps x)
      rw [hmk] at hy
      refine ⟨fn, _, assign, body, hy, roundIn_of_wpIn hfn (wpIn_mono (hround _ pre x W hi hsW hlen) ?_)⟩
      clear hy
      intro e a1 w1 he
      cases e with
      | normal =>
        obtain ⟨hk1, hb1⟩ := he
        have hl1 : w1.heap[D + 1]? = some (.loop (mk .ready none)) := (hk1.same _ (Array.getElem?_eq_some_iff.1 hl).1 (.inl (by omega))).trans hl
        have hd1 : w1.heap[D]? = some (.deferred (some [])) := (hk1.same _ (Array.getElem?_eq_some_iff.1 hk).1 (.inl (by omega))).trans hk
        have hlt1 : D + 1 < w1.heap.size := (Array.getElem?_eq_some_iff.1 hl1).1
        refine ⟨_, run_beginRound hl1 (by rw [hmk]), ?_⟩
        obtain ⟨w2, hw2⟩ : ∃ w2, w2 = w1.putObj (D + 1) (.loop { mk .ready none with state := .busy }) := ⟨_, rfl⟩
        rw [← hw2]
        have hc2 : Chg (fun i => i = D + 1) w1 w2 := by rw [hw2]; exact Chg.put _ _ _ rfl
        have hl2 : w2.heap[D + 1]? = some (.loop { mk .ready none with state := .busy }) := by rw [hw2]; exact World.putObj_heap_same hlt1
        have hd2 : w2.heap[D]? = some (.deferred (some [])) := (hc2.same _ (by omega) (by omega)).trans hd1
        refine wpIn_mono (hb1 w2 hc2 (by rw [hw2]; simp)) ?_
        -- the round's end
        have fin : ∀ (j : Option Code) (w3 : World), Kq (fun i => (D ≤ i ∧ i < D + 2 + k) ∨ cap i) w2 w3 → ∃ w4, (Instr.endRound (D + 1) j).run P w3 = .ok (.bool j.isNone) w4 ∧ Chg (fun i => i = D + 1) w3 w4 ∧
            w4.heap[D + 1]? = some (.loop (mk (if j.isNone then .ready else .done) j)) ∧ w4.heap[D]? = some (.deferred (some [])) ∧ Kq (fun i => (D + 2 ≤ i ∧ i < D + 2 + k) ∨ cap i) W w4 := by
          intro j w3 h3
          have hl3 : w3.heap[D + 1]? = some (.loop { mk .ready none with state := .busy }) := (h3.same _ (Array.getElem?_eq_some_iff.1 hl2).1 (.inl (by omega))).trans hl2
          have hd3 : w3.heap[D]? = some (.deferred (some [])) := (h3.same _ (Array.getElem?_eq_some_iff.1 hd2).1 (.inl (by omega))).trans hd2
          have hr := run_endRound (P := P) j hl3
          refine ⟨_, hr, Chg.put _ _ _ rfl, ?_, ?_, ?_⟩
          · rw [World.putObj_heap_same (Array.getElem?_eq_some_iff.1 hl3).1, hmk]
          · exact (World.putObj_heap_other (by omega)).trans hd3
          · have e1 : Kq (fun i => (D + 2 ≤ i ∧ i < D + 2 + k) ∨ cap i) W w1 := ⟨hk1.size, fun i hi hK => hk1.same i hi (hK.imp hqD id)⟩
            have e2 : Kq (fun i => (D + 2 ≤ i ∧ i < D + 2 + k) ∨ cap i) w1 w2 := Kq.of_chg hc2 (fun i hK e => by
              rcases hK with hK | hK
              · omega
              · have := hcap i hK; omega)
            have e3 : Kq (fun i => (D + 2 ≤ i ∧ i < D + 2 + k) ∨ cap i) w2 w3 := ⟨h3.size, fun i hi hK => h3.same i hi (hK.imp hqD id)⟩
            refine ((e1.trans e2).trans e3).trans (Kq.of_chg (Chg.put (fun i => i = D + 1) _ _ rfl) (fun i hK e => ?_))
            rcases hK with hK | hK
            · omega
            · have := hcap i hK; omega
        have one : ∀ {A C : World}, Chg (fun i => i = D + 1) A C → Chg (fun i => D ≤ i ∧ i < D + 2 + k) A C := fun h => h.mono fun i e => by omega
        rintro e a3 w3 hp
        cases e with
        | normal =>
          obtain ⟨h3, hi3⟩ := hp
          obtain ⟨w4, r4, c4, l4, d4, k4⟩ := fin none w3 h3
          exact ⟨_, _, r4, .inl ⟨rfl, hI _ _ _ hi3 (one c4), l4, d4⟩, k4⟩
        | ret =>
          obtain ⟨h3, hi3⟩ := hp
          obtain ⟨w4, r4, c4, l4, d4, k4⟩ := fin (some .ret) w3 h3
          exact ⟨_, _, r4, .inr ⟨rfl, .ret, hIx _ _ _ _ hi3 (one c4), l4, d4⟩, k4⟩
        | exit id =>
          obtain ⟨h3, hi3⟩ := hp
          obtain ⟨w4, r4, c4, l4, d4, k4⟩ := fin (some (.exit id)) w3 h3
          exact ⟨_, _, r4, .inr ⟨rfl, .exit id, hIx _ _ _ _ hi3 (one c4), l4, d4⟩, k4⟩
        | goto t =>
          obtain ⟨h3, hi3⟩ := hp
          obtain ⟨w4, r4, c4, l4, d4, k4⟩ := fin (some (.goto t)) w3 h3
          exact ⟨_, _, r4, .inr ⟨rfl, .goto t, hIx _ _ _ _ hi3 (one c4), l4, d4⟩, k4⟩
        | panic ch => exact hp.elim
        | outgrown => exact hp.elim
      | _ => exact he.elim
    · rintro e W2 ⟨⟨v, rfl⟩, (⟨xs, hS, hi, hl, hk⟩ | ⟨pre, hSp, c, hi, hl, hk⟩)⟩
      · have hr := run_endLoop (P := P) hl (by rw [hmk]; simp)
        rw [hmk] at hr
        exact ⟨none, _, hr, hdone _ xs _ rfl hS (hI _ _ _ hi (Chg.put _ _ _ ⟨by omega, by omega⟩)) ((World.putObj_heap_other (by omega)).trans hk)⟩
      · have hr := run_endLoop (P := P) hl (by rw [hmk]; simp)
        rw [hmk] at hr
        exact ⟨some c, _, hr, hstop _ c pre _ rfl hSp (hIx _ _ _ _ hi (Chg.put _ _ _ ⟨by omega, by omega⟩)) ((World.putObj_heap_other (by omega)).trans hk)⟩
end Go.Scr
/- A range over a function whose iterator makes memory as it goes (it may call itself): the body's blocks are told by a set that grows with what the body makes. -/
namespace Go.Scr
open Go.RowKit Go.Shelf
set_option linter.unusedVariables false

/-- what a round says: the body's set afterwards -/
def RndU {α : Type} (J Jx : List α → (Nat → Prop) → World → Prop) (s : List α) (U : Nat → Prop) (W1 : World) (e : Ending) (W' : World) : Prop :=
  ∃ U', ((e = .returned (.bool true) ∧ J s U' W') ∨ (e = .returned (.bool false) ∧ Jx s U' W')) ∧ Kq (fun i => ¬ U i) W1 W' ∧ ∀ i, U' i → i < W'.heap.size ∧ (U i ∨ W1.heap.size ≤ i)
/-- an iterator: its calls of yield hand on what S says; it changes new blocks alone, and none of the body's; it reads, besides, the blocks that cap names -/
def SeqU {α : Type} (F : Fence) (n : Nat) (P : Program) (g : Nat) (lb : Array Value) (encs : α → Array Value) (S Sp : List α → Prop) (Ok : List α → α → Prop) (cap : Nat → Prop) (W : World) : Prop :=
  ∀ (l : Nat) (J Jx : List α → (Nat → Prop) → World → Prop) (U0 : Nat → Prop),
    (∀ s U a c, J s U a → Chg (fun i => W.heap.size ≤ i ∧ ¬ U i) a c → J s U c) → (∀ s U a c, Jx s U a → Chg (fun i => W.heap.size ≤ i ∧ ¬ U i) a c → Jx s U c) →
    (∀ pre x U W1, J pre U W1 → (∀ i, U i → i < W1.heap.size) → W.heap.size ≤ W1.heap.size → Ok pre x → YieldAt F (n - 1) P l (encs x) W1 fun e W' => RndU J Jx (pre ++ [x]) U W1 e W') →
    J [] U0 W → (∀ i, U0 i → i < W.heap.size ∧ ¬ cap i) →
    CallsIn F n P g (#[.func (.yield l) #[] #[]] ++ lb) W fun e W' => (∃ v, e = .returned v) ∧ ((∃ xs U, S xs ∧ J xs U W') ∨ (∃ pre U, Sp pre ∧ Jx pre U W'))
/-- how a round's body may be left -/
def rndPostU {α : Type} (U : Nat → Prop) (N : Nat) (I : List α → (Nat → Prop) → World → Prop) (Ix : Code → List α → (Nat → Prop) → World → Prop) (xs : List α) (W : World) : Exit → Act → World → Prop
  | .normal, _, W' => ∃ U', Kq (fun i => i < N ∧ ¬ U i) W W' ∧ (∀ i, U' i → i < W'.heap.size ∧ (U i ∨ N ≤ i)) ∧ I xs U' W'
  | .ret, _, W' => ∃ U', Kq (fun i => i < N ∧ ¬ U i) W W' ∧ (∀ i, U' i → i < W'.heap.size ∧ (U i ∨ N ≤ i)) ∧ Ix .ret xs U' W'
  | .exit id, _, W' => ∃ U', Kq (fun i => i < N ∧ ¬ U i) W W' ∧ (∀ i, U' i → i < W'.heap.size ∧ (U i ∨ N ≤ i)) ∧ Ix (.exit id) xs U' W'
  | .goto t, _, W' => ∃ U', Kq (fun i => i < N ∧ ¬ U i) W W' ∧ (∀ i, U' i → i < W'.heap.size ∧ (U i ∨ N ≤ i)) ∧ Ix (.goto t) xs U' W'
  | .panic _, _, _ => False
  | .outgrown, _, _ => False
theorem wpIn_rangeU {α : Type} {F : Fence} {n : Nat} {P : Program} {g : Operand} {ps : Array Tmp} {assign body : Code} {Q : Exit → Act → World → Prop} {a : Act} {w : World}
    (hro : F.round = none) (h1 : 1 ≤ n) {gf : Nat} {lb : Array Value} (hg : a.eval g = .func (.func gf) #[] lb) (hFg : F.fn gf) (eg : ∀ args w, (callFunc gf args).run P w = .ok (.enter gf args) w)
    {encs : α → Array Value} {S Sp : List α → Prop} {Ok : List α → α → Prop} {cap : Nat → Prop} (hcap : ∀ i, cap i → i < w.heap.size)
    (hseq : ∀ W, Below w.heap.size w W → W.heap.size = w.heap.size + 2 → SeqU F (n - 1) P gf lb encs S Sp Ok cap W) (hps : ∀ x, (encs x).size = ps.size)
    (I : List α → (Nat → Prop) → World → Prop) (Ix : Code → List α → (Nat → Prop) → World → Prop) (U0 : Nat → Prop) (hI : ∀ s U a c, I s U a → Chg (fun i => w.heap.size ≤ i ∧ ¬ U i) a c → I s U c) (hIx : ∀ j s U a c, Ix j s U a → Chg (fun i => w.heap.size ≤ i ∧ ¬ U i) a c → Ix j s U c) (h0 : I [] U0 w) (hU0 : ∀ i, U0 i → i < w.heap.size ∧ ¬ cap i)
    (hround : ∀ (l : Nat) (pre : List α) (x : α) (U : Nat → Prop) (W : World), I pre U W → (∀ i, U i → i < W.heap.size ∧ (i < w.heap.size ∨ w.heap.size + 2 ≤ i)) → w.heap.size + 2 ≤ W.heap.size → Ok pre x →
      assign.wpIn (F.inRound l) (n - 1 - 1) P (Exit.then (fun a₁ w₁ => Kq (fun i => ¬ U i) W w₁ ∧
          ∀ w₂, Chg (fun i => i = w.heap.size + 1) w₁ w₂ → w₂.heap.size = w₁.heap.size → body.wpIn (F.inRound l) (n - 1 - 1) P (rndPostU U W.heap.size I Ix (pre ++ [x]) w₂) a₁ w₂) (fun _ _ _ => False))
        { tmps := (ps.zip (encs x)).foldl (fun t (p, v) => t.setIfInBounds p v) a.tmps, defers := [] } W)
    (hdone : ∀ (D : Nat) (xs : List α) (U : Nat → Prop) (W : World), D = w.heap.size → S xs → I xs U W → (∀ i, U i → i < D ∨ D + 2 ≤ i) → W.heap[D]? = some (.deferred (some [])) → Q .normal { a with defers := { target := .collected D, args := #[] } :: a.defers } W)
    (hstop : ∀ (D : Nat) (c : Code) (pre : List α) (U : Nat → Prop) (W : World), D = w.heap.size → Sp pre → Ix c pre U W → (∀ i, U i → i < D ∨ D + 2 ≤ i) → W.heap[D]? = some (.deferred (some [])) → c.wpIn F n P Q { a with defers := { target := .collected D, args := #[] } :: a.defers } W) :
    (Code.rangeFunc g ps assign body).wpIn F n P Q a w := by
  refine wpIn_rangeFunc fun fn hfn => ?_
  rw [hro]
  obtain ⟨D, hD⟩ : ∃ D, D = w.heap.size := ⟨_, rfl⟩
  obtain ⟨mk, hmk⟩ : ∃ mk : LoopState → Option Code → Loop, mk = fun st pe => { state := st, pending := pe, fn, tmps := a.tmps, params := ps, assign, body, defers := w.heap.size } := ⟨_, rfl⟩
  obtain ⟨W1, hW1⟩ : ∃ W1, W1 = (w.alloc (.deferred (some []))).alloc (.loop (mk .ready none)) := ⟨_, rfl⟩
  have hsz : W1.heap.size = D + 2 := by rw [hW1, hD]; simp
  have hbel : Below w.heap.size w W1 := by rw [hW1]; exact ((Below.refl _ _).alloc (Nat.le_refl _) _).alloc (by simp) _
  have hL1 : W1.heap[D + 1]? = some (.loop (mk .ready none)) := by
    have := World.alloc_heap_new (w.alloc (.deferred (some []))) (.loop (mk .ready none))
    rw [World.size_alloc] at this
    rw [hW1, hD]
    exact this
  have hK1 : W1.heap[D]? = some (.deferred (some [])) := by
    rw [hW1, hD]
    exact (Below.heap_alloc _ _ _ (by simp)).trans (World.alloc_heap_new w _)
  have hI1 : I [] U0 W1 := hI _ _ _ _ h0 (Chg.of_below hbel)
  rw [← hD] at hI hIx hround hdone hstop hU0 hcap
  refine ⟨D + 1, [{ target := .collected D, args := #[] }], W1, { target := .fn (.func gf) lb, args := #[.func (.yield (D + 1)) #[] #[]] }, W1, gf, #[.func (.yield (D + 1)) #[] #[]] ++ lb, W1, ?_, ?_, ?_, ?_, fun _ => h1, ?_⟩
  · rw [hW1, hmk, hD]; exact run_enterLoop_outer _ _ _ _ _
  · simp only [resolve, hg]
    simp [go_sem]
  · intro f' hf'; simp [Target.leads] at hf'; subst hf'; exact hFg
  · simp [invoke, go_sem, eg]
  · have hs := hseq W1 hbel (by rw [hsz, hD])
    unfold SeqU at hs
    rw [hsz] at hs
    -- the two records are the loop's own
    have keepL : ∀ {U : Nat → Prop} {A C : World} {o o' : Obj}, A.heap[D + 1]? = some o → A.heap[D]? = some o' → Chg (fun i => D + 2 ≤ i ∧ ¬ U i) A C → C.heap[D + 1]? = some o ∧ C.heap[D]? = some o' := fun hl hk hc =>
      ⟨(hc.same _ (Array.getElem?_eq_some_iff.1 hl).1 (by omega)).trans hl, (hc.same _ (Array.getElem?_eq_some_iff.1 hk).1 (by omega)).trans hk⟩
    refine (hs (D + 1) (fun pre U W => ∃ V : Nat → Prop, (∀ i, V i → i < D ∨ D + 2 ≤ i) ∧ (∀ i, U i ↔ (V i ∨ i = D ∨ i = D + 1)) ∧ I pre V W ∧ W.heap[D + 1]? = some (.loop (mk .ready none)) ∧ W.heap[D]? = some (.deferred (some [])))
      (fun pre U W => ∃ V : Nat → Prop, (∀ i, V i → i < D ∨ D + 2 ≤ i) ∧ (∀ i, U i ↔ (V i ∨ i = D ∨ i = D + 1)) ∧ ∃ c, Ix c pre V W ∧ W.heap[D + 1]? = some (.loop (mk .done (some c))) ∧ W.heap[D]? = some (.deferred (some [])))
      (fun i => U0 i ∨ i = D ∨ i = D + 1)
      (fun s U A C h hc => by
        obtain ⟨V, g1, g2, g3, g4, g5⟩ := h
        exact ⟨V, g1, g2, hI _ _ _ _ g3 (hc.mono fun i hi => ⟨by omega, fun hv => hi.2 ((g2 i).2 (.inl hv))⟩), keepL g4 g5 hc⟩)
      (fun s U A C h hc => by
        obtain ⟨V, g1, g2, c, g3, g4, g5⟩ := h
        exact ⟨V, g1, g2, c, hIx _ _ _ _ _ g3 (hc.mono fun i hi => ⟨by omega, fun hv => hi.2 ((g2 i).2 (.inl hv))⟩), keepL g4 g5 hc⟩) ?_ ⟨U0, fun i hi => .inl (hU0 i hi).1, fun _ => Iff.rfl, hI1, hL1, hK1⟩ ?_).mono ?_
    · rintro pre x U W ⟨V, g1, g2, hi, hl, hk⟩ hUW hsW hlen
      have hy := run_yield (P := P) (args := encs x) hl (by rw [hmk]; exact hps x)
      rw [hmk] at hy
      refine ⟨fn, _, assign, body, hy, roundIn_of_wpIn hfn (wpIn_mono (hround _ pre x V W hi (fun i hv => ⟨hUW i ((g2 i).2 (.inl hv)), g1 i hv⟩) hsW hlen) ?_)⟩
      clear hy
      intro e a1 w1 he
      cases e with
      | normal =>
        obtain ⟨hk1, hb1⟩ := he
        have nD : ¬ V D := fun h => by have := g1 _ h; omega
        have nD1 : ¬ V (D + 1) := fun h => by have := g1 _ h; omega
        have hl1 : w1.heap[D + 1]? = some (.loop (mk .ready none)) := (hk1.same _ (Array.getElem?_eq_some_iff.1 hl).1 nD1).trans hl
        have hd1 : w1.heap[D]? = some (.deferred (some [])) := (hk1.same _ (Array.getElem?_eq_some_iff.1 hk).1 nD).trans hk
        have hlt1 : D + 1 < w1.heap.size := (Array.getElem?_eq_some_iff.1 hl1).1
        refine ⟨_, run_beginRound hl1 (by rw [hmk]), ?_⟩
        obtain ⟨w2, hw2⟩ : ∃ w2, w2 = w1.putObj (D + 1) (.loop { mk .ready none with state := .busy }) := ⟨_, rfl⟩
        rw [← hw2]
        have hc2 : Chg (fun i => i = D + 1) w1 w2 := by rw [hw2]; exact Chg.put _ _ _ rfl
        have hl2 : w2.heap[D + 1]? = some (.loop { mk .ready none with state := .busy }) := by rw [hw2]; exact World.putObj_heap_same hlt1
        have hd2 : w2.heap[D]? = some (.deferred (some [])) := (hc2.same _ (by omega) (by omega)).trans hd1
        refine wpIn_mono (hb1 w2 hc2 (by rw [hw2]; simp)) ?_
        have hWD : D + 1 < W.heap.size := (Array.getElem?_eq_some_iff.1 hl).1
        -- the round's end
        have fin : ∀ (j : Option Code) (w3 : World) (V' : Nat → Prop), Kq (fun i => i < W.heap.size ∧ ¬ V i) w2 w3 → (∀ i, V' i → i < w3.heap.size ∧ (V i ∨ W.heap.size ≤ i)) → ∃ w4, (Instr.endRound (D + 1) j).run P w3 = .ok (.bool j.isNone) w4 ∧ Chg (fun i => D ≤ i ∧ ¬ V' i) w3 w4 ∧
            w4.heap[D + 1]? = some (.loop (mk (if j.isNone then .ready else .done) j)) ∧ w4.heap[D]? = some (.deferred (some [])) ∧ Kq (fun i => ¬ U i) W w4 ∧ (∀ i, V' i → i < D ∨ D + 2 ≤ i) ∧ (∀ i, (V' i ∨ i = D ∨ i = D + 1) → i < w4.heap.size ∧ (U i ∨ W.heap.size ≤ i)) := by
          intro j w3 V' h3 hV'
          have hl3 : w3.heap[D + 1]? = some (.loop { mk .ready none with state := .busy }) := (h3.same _ (Array.getElem?_eq_some_iff.1 hl2).1 ⟨hWD, nD1⟩).trans hl2
          have hd3 : w3.heap[D]? = some (.deferred (some [])) := (h3.same _ (Array.getElem?_eq_some_iff.1 hd2).1 ⟨by omega, nD⟩).trans hd2
          have hr := run_endRound (P := P) j hl3
          have hV2 : ∀ i, V' i → i < D ∨ D + 2 ≤ i := fun i hv => by
            rcases (hV' i hv).2 with h | h
            · exact g1 i h
            · omega
          refine ⟨_, hr, Chg.put _ _ _ ⟨by omega, fun h => by have := hV2 _ h; omega⟩, ?_, ?_, ?_, hV2, ?_⟩
          · rw [World.putObj_heap_same (Array.getElem?_eq_some_iff.1 hl3).1, hmk]
          · exact (World.putObj_heap_other (by omega)).trans hd3
          · refine ⟨by have := hk1.size; have := hc2.size; have := h3.size; simp; omega, fun i hiW hU => ?_⟩
            have hi1 : ¬ V i ∧ i ≠ D + 1 := ⟨fun h => hU ((g2 i).2 (.inl h)), fun h => hU ((g2 i).2 (.inr (.inr h)))⟩
            have s1 := hk1.same i hiW hi1.1
            have l1 : i < w1.heap.size := Nat.lt_of_lt_of_le hiW hk1.size
            have s2 := hc2.same i l1 hi1.2
            have s3 := h3.same i (Nat.lt_of_lt_of_le l1 hc2.size) ⟨hiW, hi1.1⟩
            exact ((World.putObj_heap_other hi1.2).trans s3).trans (s2.trans s1)
          · intro i hi
            have hlt3 : D + 1 < w3.heap.size := (Array.getElem?_eq_some_iff.1 hl3).1
            have hs4 : (w3.putObj (D + 1) (.loop { state := if j.isNone then .ready else .done, pending := j, fn := fn, tmps := a.tmps, params := ps, assign := assign, body := body, defers := w.heap.size })).heap.size = w3.heap.size := by simp
            rcases hi with h | h | h
            · have h4 := hV' i h
              refine ⟨?_, h4.2.imp (fun q => (g2 i).2 (.inl q)) id⟩
              simp
              exact h4.1
            · exact ⟨by simp; omega, .inl ((g2 i).2 (.inr (.inl h)))⟩
            · exact ⟨by simp; omega, .inl ((g2 i).2 (.inr (.inr h)))⟩
        rintro e a3 w3 hp
        cases e with
        | normal =>
          obtain ⟨V', h3, hV', hi3⟩ := hp
          obtain ⟨w4, r4, c4, l4, d4, k4, v4, u4⟩ := fin none w3 V' h3 hV'
          exact ⟨_, _, r4, _, .inl ⟨rfl, V', v4, fun _ => Iff.rfl, hI _ _ _ _ hi3 c4, l4, d4⟩, k4, u4⟩
        | ret =>
          obtain ⟨V', h3, hV', hi3⟩ := hp
          obtain ⟨w4, r4, c4, l4, d4, k4, v4, u4⟩ := fin (some .ret) w3 V' h3 hV'
          exact ⟨_, _, r4, _, .inr ⟨rfl, V', v4, fun _ => Iff.rfl, .ret, hIx _ _ _ _ _ hi3 c4, l4, d4⟩, k4, u4⟩
        | exit id =>
          obtain ⟨V', h3, hV', hi3⟩ := hp
          obtain ⟨w4, r4, c4, l4, d4, k4, v4, u4⟩ := fin (some (.exit id)) w3 V' h3 hV'
          exact ⟨_, _, r4, _, .inr ⟨rfl, V', v4, fun _ => Iff.rfl, .exit id, hIx _ _ _ _ _ hi3 c4, l4, d4⟩, k4, u4⟩
        | goto t =>
          obtain ⟨V', h3, hV', hi3⟩ := hp
          obtain ⟨w4, r4, c4, l4, d4, k4, v4, u4⟩ := fin (some (.goto t)) w3 V' h3 hV'
          exact ⟨_, _, r4, _, .inr ⟨rfl, V', v4, fun _ => Iff.rfl, .goto t, hIx _ _ _ _ _ hi3 c4, l4, d4⟩, k4, u4⟩
        | panic ch => exact hp.elim
        | outgrown => exact hp.elim
      | _ => exact he.elim
    · intro i hi
      rcases hi with h | h | h
      · have := hU0 i h
        exact ⟨by omega, this.2⟩
      · exact ⟨by omega, fun hc => by have := hcap i hc; omega⟩
      · exact ⟨by omega, fun hc => by have := hcap i hc; omega⟩
    · rintro e W2 ⟨⟨v, rfl⟩, (⟨xs, U, hS, V, g1, g2, hi, hl, hk⟩ | ⟨pre, U, hSp, V, g1, g2, c, hi, hl, hk⟩)⟩
      · have hr := run_endLoop (P := P) hl (by rw [hmk]; simp)
        rw [hmk] at hr
        exact ⟨none, _, hr, hdone _ xs V _ rfl hS (hI _ _ _ _ hi (Chg.put _ _ _ ⟨by omega, fun h => by have := g1 _ h; omega⟩)) g1 ((World.putObj_heap_other (by omega)).trans hk)⟩
      · have hr := run_endLoop (P := P) hl (by rw [hmk]; simp)
        rw [hmk] at hr
        exact ⟨some c, _, hr, hstop _ c pre V _ rfl hSp (hIx _ _ _ _ _ hi (Chg.put _ _ _ ⟨by omega, fun h => by have := g1 _ h; omega⟩)) g1 ((World.putObj_heap_other (by omega)).trans hk)⟩
/-- under the wide fence the depth says nothing -/
theorem YieldAt.deep {P : Program} {n m l : Nat} {args : Array Value} {W : World} {R : Ending → World → Prop} (h : YieldAt Fence.wide n P l args W R) : YieldAt Fence.wide m P l args W R := by
  obtain ⟨fn, tmps, assign, body, hy, hR⟩ := h
  exact ⟨fn, tmps, assign, body, hy, hR.1, fun c cs _ => hR.2 c cs (room_wide _)⟩
end Go.Scr
