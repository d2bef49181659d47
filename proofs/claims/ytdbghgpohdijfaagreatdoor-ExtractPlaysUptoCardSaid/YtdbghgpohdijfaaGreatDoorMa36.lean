/- A range over a function within whose body a call may panic. -/
import Derived.Test.YtdbghgpohdijfaaGreatDoorMa11
import Derived.Test.YtdbghgpohdijfaaGreatDoorMa31
import Derived.Test.YtdbghgpohdijfaaGreatDoorMa22
import Derived.OrdersIn
import Derived.Test.YtdbghgpohdijfaaGreatDoorMa29
namespace Go
variable {F : Fence} {n : Nat} {P : Program}
/-- what is asked at a round's end, a panic taken in -/
def roundPostP (P : Program) (l : Nat) (R : Ending → World → Prop) : Exit → Act → World → Prop
  | .panic ch, a, w => a.defers = [] ∧ R (.panicked ch) w
  | e, a, w => roundPost P l R e a w
theorem roundIn_of_wpInP {l : Nat} {f : FuncId} {tmps : Array Value} {assign body : Code} {w : World} {R : Ending → World → Prop} (hF : F.fn f) (hex : ∃ fn, P.funcs[f]? = some fn)
    (h : assign.wpIn (F.inRound l) n P (Exit.then (fun a₁ w₁ => ∃ w₂, (Instr.beginRound l).run P w₁ = .ok () w₂ ∧ body.wpIn (F.inRound l) n P (roundPostP P l R) a₁ w₂) (fun _ _ _ => False))
      { tmps := tmps, defers := [] } w) :
    RoundIn F n P l f tmps assign body w R := by
  refine ⟨hF, fun c cs hr => ?_⟩
  let b : Frame := { (default : Frame) with fn := f, kind := .normal, roundOf := some l }
  have hb0 : Frame.round l f tmps assign body .normal = b.atR { tmps := tmps, defers := [] } [.code assign, .beginRound, .code body] := by
    simp [Frame.round, Frame.atR, b]
  have hr' : (F.inRound l).room ((c :: cs).length + 1 + n) := hr
  have hF' : (F.inRound l).fn b.fn := hF
  obtain ⟨e, a₁, w₁, hq, harr⟩ := h b [.beginRound, .code body] (c :: cs) rfl hF' hr'
  rw [← hb0] at harr
  cases e with
  | normal =>
    obtain ⟨w₂, hbr, hbody⟩ := hq
    have s1 : StepsIn (Machine.fenced P (F.inRound l)) P (lone (b.atR a₁ [.beginRound, .code body]) (c :: cs) w₁) (lone (b.atR a₁ [.code body]) (c :: cs) w₂) :=
      .one (fenced_calm (fr := b.atR a₁ [.beginRound, .code body]) hF' hr' rfl) (stepR_beginRound rfl hbr)
    obtain ⟨e₂, a₂, w₃, hq₂, harr₂⟩ := hbody b [] (c :: cs) rfl hF' hr'
    cases e₂ with
    | normal =>
      obtain ⟨v, w₄, hend, hR⟩ := hq₂
      exact ⟨.returned v, w₄, hR, (StepsIn.trans harr s1).trans (StepsIn.trans harr₂ (.one (fenced_calm (fr := b.atR a₂ []) hF' hr' rfl) (stepR_round_end rfl rfl hend)))⟩
    | ret =>
      obtain ⟨v, w₄, hend, hR⟩ := hq₂
      obtain ⟨k₁, hs⟩ := harr₂.2 rfl
      exact ⟨.returned v, w₄, hR, (StepsIn.trans harr s1).trans (StepsIn.trans hs (.one (fenced_calm (fr := b.atR a₂ (.code .ret :: k₁)) hF' hr' rfl) (stepR_round_ret rfl rfl hend)))⟩
    | exit id =>
      obtain ⟨v, w₄, hend, hR⟩ := hq₂
      obtain ⟨k₁, hk, hs⟩ := harr₂.2 rfl rfl
      exact ⟨.returned v, w₄, hR, (StepsIn.trans harr s1).trans (StepsIn.trans hs (.one (fenced_calm (fr := b.atR a₂ (.code (.exit id) :: k₁)) hF' hr' rfl) (stepR_round_exit rfl rfl hk hend)))⟩
    | goto t =>
      obtain ⟨v, w₄, hend, hR⟩ := hq₂
      obtain ⟨k₁, hk, hs⟩ := harr₂.2 rfl rfl
      exact ⟨.returned v, w₄, hR, (StepsIn.trans harr s1).trans (StepsIn.trans hs (.one (fenced_calm (fr := b.atR a₂ (.code (.goto t) :: k₁)) hF' hr' rfl) (stepR_round_goto rfl rfl hk hend)))⟩
    | panic chain =>
      obtain ⟨hd, hR⟩ := hq₂
      obtain ⟨todo, hs⟩ := harr₂
      have hgo : ({ b.atR a₂ todo with mode := .panicking chain } : Frame).going P w₃ (.panicked chain) := ⟨rfl, hd, hex⟩
      have hst := step_going_panicked (c := c) (cs := cs) hgo
      rw [← Frame.raise_mode] at hst
      exact ⟨.panicked chain, w₃, hR, (StepsIn.trans harr s1).trans (StepsIn.trans hs (.one (fenced_going (F := F.inRound l) (n := n) (fr := { b.atR a₂ todo with mode := .panicking chain }) hF' hr' hgo) hst))⟩
    | outgrown => exact hq₂.elim
  | exit id => exact hq.elim
  | goto t => exact hq.elim
  | ret => exact hq.elim
  | panic chain => exact hq.elim
  | outgrown => exact hq.elim
end Go
namespace Go.Scr
open Go.RowKit Go.Shelf
set_option linter.unusedVariables false
/-- an iterator: its calls of yield hand on what S says; its own variables are the blocks from B on to B + k; it reads, besides, the blocks that cap names -/
def SeqP {α : Type} (F : Fence) (n : Nat) (P : Program) (g : Nat) (lb : Array Value) (encs : α → Array Value) (k : Nat) (S Sp : List α → Prop) (Ok : List α → α → Prop) (cap : Nat → Prop) (W : World) : Prop :=
  ∀ (l : Nat) (J Jx : List α → World → Prop) (Jp : List PanicEntry → List α → World → Prop), (∀ s a c, J s a → Chg (fun i => W.heap.size ≤ i ∧ i < W.heap.size + k) a c → J s c) → (∀ s a c, Jx s a → Chg (fun i => W.heap.size ≤ i ∧ i < W.heap.size + k) a c → Jx s c) →
    (∀ pre x W1, J pre W1 → W.heap.size + k ≤ W1.heap.size → Ok pre x → YieldAt F (n - 1) P l (encs x) W1 fun e W' =>
      ((e = .returned (.bool true) ∧ J (pre ++ [x]) W') ∨ (e = .returned (.bool false) ∧ Jx (pre ++ [x]) W') ∨ (∃ ch, e = .panicked ch ∧ Jp ch (pre ++ [x]) W')) ∧ Kq (fun i => (W.heap.size ≤ i ∧ i < W.heap.size + k) ∨ cap i) W1 W') →
    J [] W →
    CallsIn F n P g (#[.func (.yield l) #[] #[]] ++ lb) W fun e W' => ((∃ v, e = .returned v) ∧ ((∃ xs, S xs ∧ J xs W') ∨ (∃ pre, Sp pre ∧ Jx pre W'))) ∨ (∃ ch pre, e = .panicked ch ∧ Sp pre ∧ Jp ch pre W')
/-- how a round's body may be left -/
def rndPostP {α : Type} (K : Nat → Prop) (I : List α → World → Prop) (Ix : Code → List α → World → Prop) (Ip : List PanicEntry → List α → World → Prop) (xs : List α) (W : World) : Exit → Act → World → Prop
  | .normal, _, W' => Kq K W W' ∧ I xs W'
  | .ret, _, W' => Kq K W W' ∧ Ix .ret xs W'
  | .exit id, _, W' => Kq K W W' ∧ Ix (.exit id) xs W'
  | .goto t, _, W' => Kq K W W' ∧ Ix (.goto t) xs W'
  | .panic ch, a, W' => a.defers = [] ∧ Kq K W W' ∧ Ip ch xs W'
  | .outgrown, _, _ => False
theorem wpIn_rangeP {α : Type} {F : Fence} {n : Nat} {P : Program} {g : Operand} {ps : Array Tmp} {assign body : Code} {Q : Exit → Act → World → Prop} {a : Act} {w : World}
    (hro : F.round = none) (hex : ∀ f, F.fn f → ∃ fn, P.funcs[f]? = some fn) (h1 : 1 ≤ n) {gf : Nat} {lb : Array Value} (hg : a.eval g = .func (.func gf) #[] lb) (hFg : F.fn gf) (eg : ∀ args w, (callFunc gf args).run P w = .ok (.enter gf args) w)
    {encs : α → Array Value} {k : Nat} {S Sp : List α → Prop} {Ok : List α → α → Prop} {cap : Nat → Prop} (hcap : ∀ i, cap i → i < w.heap.size)
    (hseq : ∀ W, Below w.heap.size w W → W.heap.size = w.heap.size + 2 → SeqP F (n - 1) P gf lb encs k S Sp Ok cap W) (hps : ∀ x, (encs x).size = ps.size)
    (I : List α → World → Prop) (Ix : Code → List α → World → Prop) (Ip : List PanicEntry → List α → World → Prop) (hI : ∀ s a c, I s a → Chg (fun i => w.heap.size ≤ i ∧ i < w.heap.size + 2 + k) a c → I s c) (hIx : ∀ j s a c, Ix j s a → Chg (fun i => w.heap.size ≤ i ∧ i < w.heap.size + 2 + k) a c → Ix j s c) (h0 : I [] w)
    (hround : ∀ (l : Nat) (pre : List α) (x : α) (W : World), I pre W → w.heap.size + 2 + k ≤ W.heap.size → Ok pre x →
      assign.wpIn (F.inRound l) (n - 1 - 1) P (Exit.then (fun a₁ w₁ => Kq (fun i => (w.heap.size ≤ i ∧ i < w.heap.size + 2 + k) ∨ cap i) W w₁ ∧
          ∀ w₂, Chg (fun i => i = w.heap.size + 1) w₁ w₂ → w₂.heap.size = w₁.heap.size → body.wpIn (F.inRound l) (n - 1 - 1) P (rndPostP (fun i => (w.heap.size ≤ i ∧ i < w.heap.size + 2 + k) ∨ cap i) I Ix Ip (pre ++ [x]) w₂) a₁ w₂) (fun _ _ _ => False))
        { tmps := (ps.zip (encs x)).foldl (fun t (p, v) => t.setIfInBounds p v) a.tmps, defers := [] } W)
    (hdone : ∀ (D : Nat) (xs : List α) (W : World), D = w.heap.size → S xs → I xs W → W.heap[D]? = some (.deferred (some [])) → Q .normal { a with defers := { target := .collected D, args := #[] } :: a.defers } W)
    (hstop : ∀ (D : Nat) (c : Code) (pre : List α) (W : World), D = w.heap.size → Sp pre → Ix c pre W → W.heap[D]? = some (.deferred (some [])) → c.wpIn F n P Q { a with defers := { target := .collected D, args := #[] } :: a.defers } W)
    (hpanic : ∀ (D : Nat) (ch : List PanicEntry) (pre : List α) (W : World), D = w.heap.size → Sp pre → Ip ch pre W → W.heap[D]? = some (.deferred (some [])) → Q (.panic ch) { a with defers := { target := .collected D, args := #[] } :: a.defers } W) :
    (Code.rangeFunc g ps assign body).wpIn F n P Q a w := by
  refine wpIn_rangeFunc fun fn hfn => ?_
  rw [hro]
  obtain ⟨D, hD⟩ : ∃ D, D = w.heap.size := ⟨_, rfl⟩
  obtain ⟨mk, hmk⟩ : ∃ mk : LoopState → Option Code → Loop, mk = fun st pe => { state := st, pending := pe, fn, tmps := a.tmps, params := ps, assign, body, defers := w.heap.size } := ⟨_, rfl⟩
  obtain ⟨W1, hW1⟩ : ∃ W1, W1 = (w.alloc (.deferred (some []))).alloc (.loop (mk .ready none)) := ⟨_, rfl⟩
  have hsz : W1.heap.size = D + 2 := by rw [hW1, hD]; simp
  have hbel : Below w.heap.size w W1 := by rw [hW1]; exact ((Below.refl _ _).alloc (Nat.le_refl _) _).alloc (by simp) _
  have hL1 : W1.heap[D + 1]? = some (.loop (mk .ready none)) := by
    have := World.alloc_heap_new (w.alloc (.deferred (some []))) (.loop (mk .ready none))
    rw [World.size_alloc] at this
    rw [hW1, hD]
    exact this
  have hK1 : W1.heap[D]? = some (.deferred (some [])) := by
    rw [hW1, hD]
    exact (Below.heap_alloc _ _ _ (by simp)).trans (World.alloc_heap_new w _)
  have hI1 : I [] W1 := hI _ _ _ h0 (Chg.of_below hbel)
  rw [← hD] at hI hIx hround hdone hstop hpanic
  -- the two records lie apart from the iterator's own blocks
  have hqD : ∀ {i : Nat}, (D + 2 ≤ i ∧ i < D + 2 + k) → (D ≤ i ∧ i < D + 2 + k) := fun h => ⟨by omega, h.2⟩
  have keepL : ∀ {A C : World} {o o' : Obj}, A.heap[D + 1]? = some o → A.heap[D]? = some o' → Chg (fun i => D + 2 ≤ i ∧ i < D + 2 + k) A C → C.heap[D + 1]? = some o ∧ C.heap[D]? = some o' := fun hl hk hc =>
    ⟨(hc.same _ (Array.getElem?_eq_some_iff.1 hl).1 (by omega)).trans hl, (hc.same _ (Array.getElem?_eq_some_iff.1 hk).1 (by omega)).trans hk⟩
  refine ⟨D + 1, [{ target := .collected D, args := #[] }], W1, { target := .fn (.func gf) lb, args := #[.func (.yield (D + 1)) #[] #[]] }, W1, gf, #[.func (.yield (D + 1)) #[] #[]] ++ lb, W1, ?_, ?_, ?_, ?_, fun _ => h1, ?_⟩
  · rw [hW1, hmk, hD]; exact run_enterLoop_outer _ _ _ _ _
  · simp only [resolve, hg]
    simp [go_sem]
  · intro f' hf'; simp [Target.leads] at hf'; subst hf'; exact hFg
  · simp [invoke, go_sem, eg]
  · have hs := hseq W1 hbel (by rw [hsz, hD])
    unfold SeqP at hs
    rw [hsz] at hs
    refine (hs (D + 1) (fun pre W => I pre W ∧ W.heap[D + 1]? = some (.loop (mk .ready none)) ∧ W.heap[D]? = some (.deferred (some [])))
      (fun pre W => ∃ c, Ix c pre W ∧ W.heap[D + 1]? = some (.loop (mk .done (some c))) ∧ W.heap[D]? = some (.deferred (some [])))
      (fun ch pre W => Ip ch pre W ∧ W.heap[D]? = some (.deferred (some [])))
      (fun s A C h hc => ⟨hI _ _ _ h.1 (hc.mono fun i => hqD), keepL h.2.1 h.2.2 hc⟩)
      (fun s A C h hc => by
        obtain ⟨c, h1, h2, h3⟩ := h
        exact ⟨c, hIx _ _ _ _ h1 (hc.mono fun i => hqD), keepL h2 h3 hc⟩) ?_ ⟨hI1, hL1, hK1⟩).mono ?_
    · rintro pre x W ⟨hi, hl, hk⟩ hsW hlen
      have hy := run_yield (P := P) (args := encs x) hl (by rw [hmk]; exact hps x)
      rw [hmk] at hy
      refine ⟨fn, _, assign, body, hy, roundIn_of_wpInP hfn (hex _ hfn) (wpIn_mono (hround _ pre x W hi hsW hlen) ?_)⟩
      clear hy
      intro e a1 w1 he
      cases e with
      | normal =>
        obtain ⟨hk1, hb1⟩ := he
        have hl1 : w1.heap[D + 1]? = some (.loop (mk .ready none)) := (hk1.same _ (Array.getElem?_eq_some_iff.1 hl).1 (.inl (by omega))).trans hl
        have hd1 : w1.heap[D]? = some (.deferred (some [])) := (hk1.same _ (Array.getElem?_eq_some_iff.1 hk).1 (.inl (by omega))).trans hk
        have hlt1 : D + 1 < w1.heap.size := (Array.getElem?_eq_some_iff.1 hl1).1
        refine ⟨_, run_beginRound hl1 (by rw [hmk]), ?_⟩
        obtain ⟨w2, hw2⟩ : ∃ w2, w2 = w1.putObj (D + 1) (.loop { mk .ready none with state := .busy }) := ⟨_, rfl⟩
        rw [← hw2]
        have hc2 : Chg (fun i => i = D + 1) w1 w2 := by rw [hw2]; exact Chg.put _ _ _ rfl
        have hl2 : w2.heap[D + 1]? = some (.loop { mk .ready none with state := .busy }) := by rw [hw2]; exact World.putObj_heap_same hlt1
        have hd2 : w2.heap[D]? = some (.deferred (some [])) := (hc2.same _ (by omega) (by omega)).trans hd1
        refine wpIn_mono (hb1 w2 hc2 (by rw [hw2]; simp)) ?_
        -- the round's end
        have fin : ∀ (j : Option Code) (w3 : World), Kq (fun i => (D ≤ i ∧ i < D + 2 + k) ∨ cap i) w2 w3 → ∃ w4, (Instr.endRound (D + 1) j).run P w3 = .ok (.bool j.isNone) w4 ∧ Chg (fun i => i = D + 1) w3 w4 ∧
            w4.heap[D + 1]? = some (.loop (mk (if j.isNone then .ready else .done) j)) ∧ w4.heap[D]? = some (.deferred (some [])) ∧ Kq (fun i => (D + 2 ≤ i ∧ i < D + 2 + k) ∨ cap i) W w4 := by
          intro j w3 h3
          have hl3 : w3.heap[D + 1]? = some (.loop { mk .ready none with state := .busy }) := (h3.same _ (Array.getElem?_eq_some_iff.1 hl2).1 (.inl (by omega))).trans hl2
          have hd3 : w3.heap[D]? = some (.deferred (some [])) := (h3.same _ (Array.getElem?_eq_some_iff.1 hd2).1 (.inl (by omega))).trans hd2
          have hr := run_endRound (P := P) j hl3
          refine ⟨_, hr, Chg.put _ _ _ rfl, ?_, ?_, ?_⟩
          · rw [World.putObj_heap_same (Array.getElem?_eq_some_iff.1 hl3).1, hmk]
          · exact (World.putObj_heap_other (by omega)).trans hd3
          · have e1 : Kq (fun i => (D + 2 ≤ i ∧ i < D + 2 + k) ∨ cap i) W w1 := ⟨hk1.size, fun i hi hK => hk1.same i hi (hK.imp hqD id)⟩
            have e2 : Kq (fun i => (D + 2 ≤ i ∧ i < D + 2 + k) ∨ cap i) w1 w2 := Kq.of_chg hc2 (fun i hK e => by
              rcases hK with hK | hK
              · omega
              · have := hcap i hK; omega)
            have e3 : Kq (fun i => (D + 2 ≤ i ∧ i < D + 2 + k) ∨ cap i) w2 w3 := ⟨h3.size, fun i hi hK => h3.same i hi (hK.imp hqD id)⟩
            refine ((e1.trans e2).trans e3).trans (Kq.of_chg (Chg.put (fun i => i = D + 1) _ _ rfl) (fun i hK e => ?_))
            rcases hK with hK | hK
            · omega
            · have := hcap i hK; omega
        have one : ∀ {A C : World}, Chg (fun i => i = D + 1) A C → Chg (fun i => D ≤ i ∧ i < D + 2 + k) A C := fun h => h.mono fun i e => by omega
        rintro e a3 w3 hp
        cases e with
        | normal =>
          obtain ⟨h3, hi3⟩ := hp
          obtain ⟨w4, r4, c4, l4, d4, k4⟩ := fin none w3 h3
          exact ⟨_, _, r4, .inl ⟨rfl, hI _ _ _ hi3 (one c4), l4, d4⟩, k4⟩
        | ret =>
          obtain ⟨h3, hi3⟩ := hp
          obtain ⟨w4, r4, c4, l4, d4, k4⟩ := fin (some .ret) w3 h3
          exact ⟨_, _, r4, .inr (.inl ⟨rfl, .ret, hIx _ _ _ _ hi3 (one c4), l4, d4⟩), k4⟩
        | exit id =>
          obtain ⟨h3, hi3⟩ := hp
          obtain ⟨w4, r4, c4, l4, d4, k4⟩ := fin (some (.exit id)) w3 h3
          exact ⟨_, _, r4, .inr (.inl ⟨rfl, .exit id, hIx _ _ _ _ hi3 (one c4), l4, d4⟩), k4⟩
        | goto t =>
          obtain ⟨h3, hi3⟩ := hp
          obtain ⟨w4, r4, c4, l4, d4, k4⟩ := fin (some (.goto t)) w3 h3
          exact ⟨_, _, r4, .inr (.inl ⟨rfl, .goto t, hIx _ _ _ _ hi3 (one c4), l4, d4⟩), k4⟩
        | panic ch =>
          obtain ⟨hd, h3, hi3⟩ := hp
          have hd3 : w3.heap[D]? = some (.deferred (some [])) := (h3.same _ (Array.getElem?_eq_some_iff.1 hd2).1 (.inl (by omega))).trans hd2
          refine ⟨hd, .inr (.inr ⟨ch, rfl, hi3, hd3⟩), ?_⟩
          have e1 : Kq (fun i => (D + 2 ≤ i ∧ i < D + 2 + k) ∨ cap i) W w1 := ⟨hk1.size, fun i hi hK => hk1.same i hi (hK.imp hqD id)⟩
          have e2 : Kq (fun i => (D + 2 ≤ i ∧ i < D + 2 + k) ∨ cap i) w1 w2 := Kq.of_chg hc2 (fun i hK e => by
            rcases hK with hK | hK
            · omega
            · have := hcap i hK; omega)
          exact (e1.trans e2).trans ⟨h3.size, fun i hi hK => h3.same i hi (hK.imp hqD id)⟩
        | outgrown => exact hp.elim
      | _ => exact he.elim
    · rintro e W2 (⟨⟨v, rfl⟩, (⟨xs, hS, hi, hl, hk⟩ | ⟨pre, hSp, c, hi, hl, hk⟩)⟩ | ⟨ch, pre, rfl, hSp, hi, hk⟩)
      · have hr := run_endLoop (P := P) hl (by rw [hmk]; simp)
        rw [hmk] at hr
        exact ⟨none, _, hr, hdone _ xs _ rfl hS (hI _ _ _ hi (Chg.put _ _ _ ⟨by omega, by omega⟩)) ((World.putObj_heap_other (by omega)).trans hk)⟩
      · have hr := run_endLoop (P := P) hl (by rw [hmk]; simp)
        rw [hmk] at hr
        exact ⟨some c, _, hr, hstop _ c pre _ rfl hSp (hIx _ _ _ _ hi (Chg.put _ _ _ ⟨by omega, by omega⟩)) ((World.putObj_heap_other (by omega)).trans hk)⟩
      · exact hpanic _ ch pre _ rfl hSp hi hk
end Go.Scr
/- slices.Backward over texts: walked, with a body that may panic. -/
namespace Go.Scr
/-- places and texts, from the last one on (the list is given turned) -/
def backS : List ByteArray → List (Nat × ByteArray)
  | [] => []
  | x :: r => (r.length, x) :: backS r
end Go.Scr
namespace Go.Proofs.YtdbghgpohdijfaaGreatDoor
open Go.RowKit Go.Scr Go.Shelf Go.ChangeMaps Go.MapKept
set_option linter.unusedVariables false
attribute [local go_sem] Oper.semAt_some
/-- the functions that the highest difference is found by -/
abbrev HF : Fence := Fence.list [25, 55, 54, 77] none
abbrev backSF (bs : Nat) : Value := .func (.func 77) #[] #[.pointer (some ⟨bs, 0, none⟩)]
theorem hf_in {f : FuncId} (h : f ∈ [25, 55, 54, 77]) : HF.fn f := h
set_option maxRecDepth 100000 in
theorem hf_ex : ∀ f, HF.fn f → ∃ fn, Tryz.prog.funcs[f]? = some fn := by
  intro f hf
  have hf' : f ∈ [25, 55, 54, 77] := hf
  simp only [List.mem_cons, List.not_mem_nil, or_false] at hf'
  rcases hf' with rfl | rfl | rfl | rfl
  · exact ⟨_, Tryz.func25⟩
  · exact ⟨_, Tryz.func55⟩
  · exact ⟨_, Tryz.func54⟩
  · exact ⟨_, Tryz.func77⟩
set_option maxRecDepth 100000 in
theorem backS_any (n : Nat) (v : Value) (p : Option Addr) (m c : Nat) (hv : v = .slice p m c) (w : World) : CallsIn HF n Tryz.prog 54 #[v] w fun r w' => r = .returned (backSF w.heap.size) ∧ w' = w.alloc (.cells #[v] 22) := by
  subst hv
  refine callsIn_of_wp Tryz.func54 rfl (hf_in (by decide)) ?_ rfl
  simp only [Tryz.ntmps54, List.size_toArray, List.length_cons, List.length_nil, Nat.reduceAdd, Nat.reduceSub, Array.replicate_succ, Array.replicate_zero, List.push_toArray, List.append_toArray, List.nil_append, List.cons_append]
  gi_wp2
  go_ret
  exact ⟨rfl, rfl⟩
set_option maxRecDepth 100000 in
theorem meetI_same (n : Nat) (a : ByteArray) (w : World) :
    CallsIn HF n Tryz.prog 55 #[.string a, .string a] w fun e w' => e = .returned (.tuple #[]) ∧ w' = w := by
  refine callsIn_of_wp Tryz.func55 rfl (hf_in (by decide)) ?_ rfl
  simp only [Tryz.ntmps55, List.size_toArray, List.length_cons, List.length_nil, Nat.reduceAdd, Nat.reduceSub, Array.replicate_succ, Array.replicate_zero, List.push_toArray, List.append_toArray, List.nil_append, List.cons_append]
  gi_wp2
  go_end0
  exact ⟨rfl, rfl⟩
set_option maxRecDepth 100000 in
theorem meetI_no (n : Nat) (a b : ByteArray) (w : World) (h : a ≠ b) :
    CallsIn HF n Tryz.prog 55 #[.string a, .string b] w fun e w' => e = .panicked [{ v := foundV a b, recovered := false }] ∧ w' = w := by
  have hne : (a.toList == b.toList) = false := textQ_ne h
  clear h
  refine callsIn_of_wp Tryz.func55 rfl (hf_in (by decide)) ?_ rfl
  simp only [Tryz.ntmps55, List.size_toArray, List.length_cons, List.length_nil, Nat.reduceAdd, Nat.reduceSub, Array.replicate_succ, Array.replicate_zero, List.push_toArray, List.append_toArray, List.nil_append, List.cons_append]
  gi_wp2
  exact ⟨rfl, rfl, rfl⟩
/-- what the iterator reads -/
structure BsI (w : World) (bs : Nat) (P : List ByteArray) (v : Value) : Prop where
  box : w.heap[bs]? = some (.cells #[v] 22 (0, 0))
  hd : Held w 9 1 v P.length (P.map Value.string)
theorem BsI.keep {w w' : World} {bs : Nat} {P : List ByteArray} {v : Value} (h : BsI w bs P v) (hb : w'.heap[bs]? = w.heap[bs]?) (hg : ∀ g, v.ownBlock = some g → w'.heap[g]? = w.heap[g]?) : BsI w' bs P v := ⟨hb.trans h.box, h.hd.keep hg⟩
set_option maxRecDepth 100000 in
set_option maxHeartbeats 4000000 in
theorem backS_seq (n : Nat) (bs : Nat) (P : List ByteArray) (v : Value) (w : World) (h : BsI w bs P v) (hl : P.length ≤ 1048576) :
    SeqP HF n Tryz.prog 77 #[.pointer (some ⟨bs, 0, none⟩)] (fun x : Nat × ByteArray => #[.int .i64 (x.1 : Int), .string x.2]) 0 (fun xs => xs = backS P.reverse) (fun pre => pre <+: backS P.reverse) (fun pre x => (pre ++ [x]) <+: backS P.reverse) (fun i => i = bs ∨ v.ownBlock = some i) w := by
  intro l J Jx Jp hJ hJx hY h0
  have HJ := Lib.hid hJ
  have HJX := Lib.hid hJx
  have HY := Lib.hid hY
  have H := Lib.hid h
  have H0 := Lib.hid h0
  obtain ⟨p, c, rfl, _⟩ := h.hd.cells
  obtain ⟨m, hm⟩ : ∃ m, m = P.length := ⟨_, rfl⟩
  have HM := Lib.hid hm
  have d0 : w.cell? ⟨bs, 0, none⟩ = some (.slice p m c) := by rw [hm]; exact cell_of_row _ _ _ _ _ _ h.box
  rw [← hm] at hl HY H
  clear hJ hJx hY h h0 hm
  refine callsIn_of_wp Tryz.func77 rfl (hf_in (by decide)) ?_ rfl
  simp only [Tryz.ntmps77, List.size_toArray, List.length_cons, List.length_nil, Nat.reduceAdd, Nat.reduceSub, Array.replicate_succ, Array.replicate_zero, List.push_toArray, List.append_toArray, List.nil_append, List.cons_append]
  gi_wp2
  gi_loopw [3] (fun i wr => ∃ (pre : List (Nat × ByteArray)) (k : Nat) (z : Int), i = .int .i64 z ∧ z + 1 = (k : Int) ∧ k ≤ m ∧ Hid (backS P.reverse = pre ++ backS (P.take k).reverse ∧ BsI wr bs P (.slice p m c) ∧ J pre wr ∧ w.heap.size + 0 ≤ wr.heap.size)) (fun i _ => (intOf i + 1).toNat)
  case atStart => exact ⟨[], m, (m : Int) - 1, rfl, by omega, Nat.le_refl _, Lib.hid ⟨by rw [List.take_of_length_le (by rw [← HM.out]; exact Nat.le_refl _)]; rfl, H.out, H0.out, Nat.le_refl _⟩⟩
  case round =>
    obtain ⟨pre, k, z, rfl, hz, hk, HI⟩ := hrel
    cases k with
    | zero =>
      obtain rfl : z = -1 := by omega
      gi_wp2
      go_end0
      refine .inl ⟨⟨_, rfl⟩, .inl ⟨pre, ?_, HI.out.2.2.1⟩⟩
      rw [HI.out.1]
      simp [backS]
    | succ i =>
      obtain rfl : z = (i : Int) := by omega
      have hi0 : (0 : Int) ≤ (i : Int) := by omega
      have him : (i : Int) < (m : Int) := by omega
      obtain ⟨x, hx⟩ : ∃ x, P[i]? = some x := ⟨P[i]'(by have := HM.out; omega), List.getElem?_eq_getElem _⟩
      have htk : (P.take (i + 1)).reverse = x :: (P.take i).reverse := by rw [List.take_add_one, hx, List.reverse_append]; rfl
      have hti : (P.take i).reverse.length = i := by rw [List.length_reverse, List.length_take]; have := HM.out; omega
      have hbk : backS (P.take (i + 1)).reverse = (i, x) :: backS (P.take i).reverse := by rw [htk, backS, hti]
      obtain ⟨h1, h2, h3, h4⟩ := HI.out
      have hlen : (pre ++ [(i, x)]) <+: backS P.reverse := by
        rw [h1, hbk]
        exact (List.prefix_append_right_inj _).mpr ⟨_, rfl⟩
      obtain ⟨fn, tmps, assign, body, hy, hR⟩ := HY.out pre (i, x) wr h3 h4 hlen
      obtain ⟨g, rfl, hg⟩ := held_cellP h2.hd (by have := HM.out; omega)
      have c0 := hg i (.string x) (by rw [List.getElem?_map, hx]; rfl)
      have cb : wr.cell? ⟨bs, 0, none⟩ = some (.slice (some ⟨g, 0, none⟩) m c) := cell_of_row _ _ _ _ _ _ h2.box
      have HR := Lib.hid hR
      have HBK : Hid (backS P.reverse = (pre ++ [(i, x)]) ++ backS (P.take i).reverse) := Lib.hid (by rw [h1, hbk, List.append_assoc]; rfl)
      have HB2 := Lib.hid h2
      have H4 := Lib.hid h4
      have HPL := Lib.hid hlen
      clear hx htk hti hbk h1 h2 h3 h4 hlen hg hR
      gi_wp2
      refine HR.out.mono ?_
      rintro e2 w2 ⟨(⟨rfl, hj2⟩ | ⟨rfl, hjx2⟩ | ⟨ch, rfl, hjp2⟩), hk2⟩
      · have hB3 : BsI w2 bs P (.slice (some ⟨g, 0, none⟩) m c) := HB2.out.keep (hk2.same bs (blk_lt HB2.out.box) (.inr (.inl rfl))) (fun q hq => hk2.same q (HB2.out.hd.lt hq) (.inr (.inr hq)))
        have HB3 := Lib.hid hB3
        have HJ2 := Lib.hid hj2
        have HS2 : Hid (w.heap.size + 0 ≤ w2.heap.size) := Lib.hid (Nat.le_trans H4.out hk2.size)
        clear hB3 hj2 hk2
        gi_wp2
        exact ⟨⟨pre ++ [(i, x)], i, (i : Int) - 1, rfl, by omega, by omega, Lib.hid ⟨HBK.out, HB3.out, HJ2.out, HS2.out⟩⟩, by show ((i : Int) - 1 + 1).toNat < ((i : Int) + 1).toNat; omega⟩
      · gi_wp2
        refine bodyPost_ret (results_none rfl _ _ _) rfl ?_
        exact .inl ⟨⟨_, rfl⟩, .inr ⟨pre ++ [(i, x)], HPL.out, hjx2⟩⟩
      · exact ⟨rfl, .inr ⟨ch, pre ++ [(i, x)], rfl, HPL.out, hjp2⟩⟩
end Go.Proofs.YtdbghgpohdijfaaGreatDoor
/- A region that draws its order, in a round of a range over a function. -/
namespace Go.Scr
open Go.RowKit
set_option linter.unusedVariables false
variable {F : Fence} {n : Nat} {P : Program} {ops : Array Oper} {Q : Exit → Act → World → Prop} {md : Region.Mode} {l : Nat}
theorem wpOpIn_round (hro : F.round = none) (hnd : ∀ (j : Nat) (o : Oper), ops[j]? = some o → ∀ c, o.op ≠ .defer c) {i : Nat} {K : Act → World → Prop} {a : Act} {w : World}
    (h : wpOpIn F n P ops Q i K a w) : wpOpIn (F.inRound l) n P ops Q i K a w := by
  unfold wpOpIn at *
  split
  · rename_i hn
    simpa [hn] using h
  · rename_i o ho
    simp only [ho] at h
    split
    · rename_i hw
      simp only [hw, if_true] at h
      unfold Oper.wpIn at *
      refine ⟨h.1, ?_⟩
      have h2 := h.2
      rw [hro, Oper.semAt_none] at h2
      rw [Oper.semAt_eq _ _ _ (hnd i o ho)]
      exact h2
    · rename_i hw
      simp only [hw] at h
      exact h
theorem wpAnyIn_round (hro : F.round = none) (hnd : ∀ (j : Nat) (o : Oper), ops[j]? = some o → ∀ c, o.op ≠ .defer c) : ∀ (fuel : Nat) (listed : Array Bool) (a : Act) (w : World),
    wpAnyIn F n P md ops Q fuel listed a w → wpAnyIn (F.inRound l) n P md ops Q fuel listed a w
  | 0, _, _, _, h => h
  | fuel + 1, listed, a, w, h => ⟨h.1, fun i hi => wpOpIn_round hro hnd (wpOpIn_mono (fun a w h => wpAnyIn_round hro hnd fuel _ a w h) (h.2 i hi))⟩
theorem wpIn_region_round {id : Nat} {a : Act} {w : World} (hro : F.round = none) (hnd : ∀ (j : Nat) (o : Oper), ops[j]? = some o → ∀ c, o.op ≠ .defer c) (hm : P.follows .mixedOrders = true)
    (h : wpAnyIn F n P .any ops Q ops.size (Array.replicate ops.size false) a { w with drawn := w.drawn + 1 }) : (Code.region id ops true).wpIn (F.inRound l) n P Q a w :=
  wpIn_region_any hm (wpAnyIn_round hro hnd _ _ _ _ h)
/-- no operation is put off -/
def noDefer (ops : List Oper) : Bool := ops.all fun o => match o.op with | .defer _ => false | _ => true
theorem noDefer_spec {ops : List Oper} (h : noDefer ops = true) : ∀ (j : Nat) (o : Oper), ops.toArray[j]? = some o → ∀ c, o.op ≠ .defer c := by
  intro j o ho c hc
  have h1 : o ∈ ops := List.mem_of_getElem? (by simpa using ho)
  have h2 := List.all_eq_true.1 h o h1
  rw [hc] at h2
  cases h2
/-- the texts that two ways give: the highest one that is not the same -/
def HighP (A B : List ByteArray) (w : World) (e : Ending) (w' : World) : Prop :=
  (e = .returned (.tuple #[]) ∧ A = B ∧ Below w.heap.size w w') ∨
  (∃ (k : Nat) (a b : ByteArray), e = .panicked [{ v := .iface 76 (.agg #[.string a, .string b]), recovered := false }] ∧ A[k]? = some a ∧ B[k]? = some b ∧ a ≠ b ∧ (∀ j, k < j → A[j]? = B[j]?) ∧ Below w.heap.size w w')
theorem backS_at : ∀ (R : List ByteArray) (t : Nat), (backS R)[t]? = R[t]?.map (fun x => (R.length - 1 - t, x))
  | [], t => by simp [backS]
  | x :: r, 0 => by simp [backS]
  | x :: r, t + 1 => by
    rw [backS, List.getElem?_cons_succ, backS_at r t, List.getElem?_cons_succ, List.length_cons]
    congr 1
    funext y
    rw [show r.length + 1 - 1 - (t + 1) = r.length - 1 - t by omega]
theorem backS_turn {A : List ByteArray} {t : Nat} (ht : t < A.length) : (backS A.reverse)[t]? = A[A.length - 1 - t]?.map (fun x => (A.length - 1 - t, x)) := by
  rw [backS_at, List.length_reverse, List.getElem?_reverse ht]
theorem high_all {A B : List ByteArray} (hl : A.length = B.length) {pre : List (Nat × ByteArray)} (hp : pre = backS A.reverse) (h : ∀ x ∈ pre, B[x.1]? = some x.2) : A = B := by
  apply List.ext_getElem? 
  intro j
  rcases Nat.lt_or_ge j A.length with hj | hj
  · have h1 := backS_turn (A := A) (t := A.length - 1 - j) (by omega)
    rw [show A.length - 1 - (A.length - 1 - j) = j by omega, List.getElem?_eq_getElem hj] at h1
    rw [List.getElem?_eq_getElem hj]
    exact (h _ (by rw [hp]; exact List.mem_of_getElem? h1)).symm
  · rw [List.getElem?_eq_none hj, List.getElem?_eq_none (by omega)]
theorem high_some {A B : List ByteArray} (hl : A.length = B.length) {q : List (Nat × ByteArray)} {i : Nat} {a : ByteArray} (hp : (q ++ [(i, a)]) <+: backS A.reverse) (h : ∀ x ∈ q, B[x.1]? = some x.2) :
    A[i]? = some a ∧ ∀ j, i < j → A[j]? = B[j]? := by
  obtain ⟨r, hr⟩ := hp
  have hlen : (backS A.reverse).length = A.length := by
    have : ∀ R : List ByteArray, (backS R).length = R.length := by
      intro R
      induction R with
      | nil => rfl
      | cons x r ih => rw [backS, List.length_cons, List.length_cons, ih]
    rw [this, List.length_reverse]
  have hq : q.length < A.length := by
    rw [← hlen, ← hr]
    simp only [List.length_append, List.length_cons, List.length_nil]
    omega
  have h1 := backS_turn (A := A) hq
  rw [← hr, List.append_assoc, List.getElem?_append_right (Nat.le_refl _), Nat.sub_self] at h1
  rw [List.getElem?_eq_getElem (show A.length - 1 - q.length < A.length by omega)] at h1
  have h2 := Option.some.inj h1
  have hi : i = A.length - 1 - q.length := congrArg Prod.fst h2
  have ha : a = A[A.length - 1 - q.length]'(by omega) := congrArg Prod.snd h2
  refine ⟨by rw [hi, List.getElem?_eq_getElem (show A.length - 1 - q.length < A.length by omega), ha], fun j hj => ?_⟩
  rcases Nat.lt_or_ge j A.length with hjA | hjA
  · have ht : A.length - 1 - j < q.length := by omega
    have h3 := backS_turn (A := A) (t := A.length - 1 - j) (by omega)
    rw [show A.length - 1 - (A.length - 1 - j) = j by omega, ← hr, List.append_assoc, List.getElem?_append_left ht, List.getElem?_eq_getElem hjA] at h3
    have h4 := h _ (List.mem_of_getElem? h3)
    rw [List.getElem?_eq_getElem hjA]
    exact h4.symm
  · rw [List.getElem?_eq_none hjA, List.getElem?_eq_none (by omega)]
end Go.Scr
/- extract.highest: walked. -/
namespace Go.Proofs.YtdbghgpohdijfaaGreatDoor
open Go.RowKit Go.Scr Go.Shelf Go.ChangeMaps Go.MapKept
set_option linter.unusedVariables false
attribute [local go_sem] Oper.semAt_some
theorem below_heap {B : Nat} {w a c : World} (h : Below B w a) (he : c.heap = a.heap) (h1 : c.os = a.os) (h2 : c.tape = a.tape) (h3 : c.output = a.output) : Below B w c :=
  ⟨h1.trans h.os, h2.trans h.tape, h3.trans h.output, by rw [he]; exact h.size, fun i hi => by rw [he]; exact h.block i hi⟩
set_option maxRecDepth 100000 in
set_option maxHeartbeats 4000000 in
theorem highest_any (A B : List ByteArray) (va vb : Value) (w : World) (ha : Held w 9 1 va A.length (A.map Value.string)) (hb : Held w 9 1 vb B.length (B.map Value.string)) (hl : A.length = B.length) (hm : A.length ≤ 1048576) :
    Calls Tryz.prog 25 #[va, vb] w (HighP A B w) := by
  refine CallsIn.calls (F := HF) (n := 3) ?_ (fun k d hd => by cases hd)
  obtain ⟨m, hm0⟩ : ∃ m, m = A.length := ⟨_, rfl⟩
  have HA := Lib.hid ha
  have HB := Lib.hid hb
  obtain ⟨p, c, rfl, hle, _⟩ := ha.cells
  obtain ⟨p2, c2, rfl, hle2, _⟩ := hb.cells
  rw [← hl, ← hm0] at HB hle2
  rw [← hm0] at HA hle hm
  have HM : Hid (m = A.length ∧ A.length = B.length ∧ m ≤ 1048576 ∧ m ≤ c ∧ m ≤ c2) := Lib.hid ⟨hm0, hl, hm, hle, hle2⟩
  rw [show B.length = m by omega, show A.length = m from hm0.symm]
  clear ha hb hl hm hm0 hle hle2
  have CB := Lib.hid (fun w' => backS_any 2 (.slice p m c) p m c rfl w')
  refine callsIn_of_wp_marks Tryz.func25 rfl (hf_in (by decide)) ?_ rfl
  simp only [Tryz.ntmps25, List.size_toArray, List.length_cons, List.length_nil, Nat.reduceAdd, Nat.reduceSub, Array.replicate_succ, Array.replicate_zero, List.push_toArray, List.append_toArray, List.nil_append, List.cons_append]
  have hn1 : 1 ≤ 3 := by decide
  gi_wp2_with (gi_at_call 54; refine (CB.out _).mono ?_; rintro r wx ⟨rfl, hwx⟩; rw [hwx]; clear hwx wx)
  obtain ⟨bo, hbo⟩ : ∃ x, x = w.heap.size := ⟨_, rfl⟩
  obtain ⟨w4, hw4⟩ : ∃ x, x = ((w.alloc (.cells #[.slice p m c] 22)).alloc (.cells #[.slice p2 m c2] 22)).alloc (.cells #[.slice p m c] 22) := ⟨_, rfl⟩
  have hsz : w4.heap.size = bo + 3 := by rw [hw4, hbo]; simp
  have hbel : Below w.heap.size w w4 := by rw [hw4]; exact (((Below.refl _ _).alloc (Nat.le_refl _) _).alloc (by simp) _).alloc (by simp; omega) _
  have r0 : w4.heap[bo]? = some (.cells #[.slice p m c] 22 (0, 0)) := by rw [hw4, hbo]; exact blk_alloc (blk_alloc (heap_alloc_new w _))
  have r1 : w4.heap[bo + 1]? = some (.cells #[.slice p2 m c2] 22 (0, 0)) := by rw [hw4, hbo]; exact blk_alloc (alloc_two w _ _)
  have r2 : w4.heap[bo + 2]? = some (.cells #[.slice p m c] 22 (0, 0)) := by
    have := heap_alloc_new ((w.alloc (.cells #[.slice p m c] 22)).alloc (.cells #[.slice p2 m c2] 22)) (.cells #[.slice p m c] 22)
    rw [hw4, hbo]
    simpa using this
  have hs3 : ((w.alloc (.cells #[.slice p m c] 22)).alloc (.cells #[.slice p2 m c2] 22)).heap.size = bo + 2 := by rw [hbo]; simp
  rw [← hw4]
  have HSZ := Lib.hid hsz
  have HR0 := Lib.hid r0
  have HR1 := Lib.hid r1
  have HR2 := Lib.hid r2
  have HBEL := Lib.hid hbel
  have HBO := Lib.hid hbo
  rw [← hbo, show bo + 1 + 1 = bo + 2 from rfl]
  clear hw4 hsz r0 r1 r2 hbel hbo hs3
  refine wpIn_rangeP (α := Nat × ByteArray) rfl hf_ex hn1 (gf := 77) (lb := #[.pointer (some ⟨bo + 2, 0, none⟩)]) rfl (hf_in (by decide)) (enters_of Tryz.func77 (by kernel_rfl) rfl)
    (encs := fun x => #[.int .i64 (x.1 : Int), .string x.2]) (k := 0) (S := fun xs => xs = backS A.reverse) (Sp := fun pre => pre <+: backS A.reverse) (Ok := fun pre x => (pre ++ [x]) <+: backS A.reverse) (cap := fun i => i = bo + 2 ∨ (Value.slice p m c).ownBlock = some i)
    (fun i hi => by
      rw [HSZ.out]
      rcases hi with h | h
      · omega
      · have := HA.out.lt h
        have := HBO.out
        omega)
    (fun W hb hs => backS_seq 2 (bo + 2) A (.slice p m c) W ⟨(hb.block _ (by rw [HSZ.out]; omega)).trans HR2.out, by have h1 := (HA.out.below HBEL.out).below hb; rw [← HM.out.1]; exact h1⟩ (by have := HM.out; omega)) (fun _ => rfl)
    (fun pre W => (∀ x ∈ pre, B[x.1]? = some x.2) ∧ Below w4.heap.size w4 W)
    (fun _ _ _ => False)
    (fun ch pre W => ∃ (q : List (Nat × ByteArray)) (i : Nat) (a b : ByteArray), pre = q ++ [(i, a)] ∧ (∀ x ∈ q, B[x.1]? = some x.2) ∧ B[i]? = some b ∧ a ≠ b ∧ ch = [{ v := foundV a b, recovered := false }] ∧ Below w4.heap.size w4 W)
    (fun s A C h hc => ⟨h.1, below_chg h.2 hc (fun i hi => hi.1) h.2.size⟩)
    (fun c s A C h hc => h)
    ⟨(fun x hx => nomatch hx), Below.refl _ _⟩ ?round ?done ?stop ?panic
  case round =>
    rintro l pre ⟨i, y⟩ W ⟨hpre, hbl⟩ hsW hlen
    obtain ⟨hy, _⟩ := high_some (B := B) HM.out.2.1 hlen hpre
    have hiA : i < m := by have := (List.getElem?_eq_some_iff.mp hy).1; have := HM.out; omega
    obtain ⟨b, hb⟩ : ∃ b, B[i]? = some b := ⟨B[i]'(by have := HM.out; omega), List.getElem?_eq_getElem _⟩
    have HBL := Lib.hid hbl
    have HP := Lib.hid hpre
    have HIB := Lib.hid hb
    have HIA := Lib.hid hy
    clear hpre hbl hsW hlen hy hb
    gi_wp2
    refine ⟨Kq.refl _ _, ?_⟩
    intro w2 hc hs2
    have hbl2 : Below w4.heap.size w4 w2 := below_chg HBL.out hc (fun i hi => by subst hi; exact Nat.le_succ _) (by have := HBL.out.size; omega)
    have HB2 := Lib.hid hbl2
    obtain ⟨g, rfl, hg⟩ := held_cellP ((HA.out.below HBEL.out).below hbl2) (by omega)
    obtain ⟨g2, rfl, hg2⟩ := held_cellP ((HB.out.below HBEL.out).below hbl2) (by omega)
    have c0 : w2.cell? ⟨g, i, none⟩ = some (.string y) := hg i (.string y) (by rw [List.getElem?_map, HIA.out]; rfl)
    have c1 : w2.cell? ⟨g2, i, none⟩ = some (.string b) := hg2 i (.string b) (by rw [List.getElem?_map, HIB.out]; rfl)
    have q0 : w2.cell? ⟨bo, 0, none⟩ = some (.slice (some ⟨g, 0, none⟩) m c) := cell_of_row _ _ _ _ _ _ ((hbl2.block bo (by rw [HSZ.out]; omega)).trans HR0.out)
    have q1 : w2.cell? ⟨bo + 1, 0, none⟩ = some (.slice (some ⟨g2, 0, none⟩) m c2) := cell_of_row _ _ _ _ _ _ ((hbl2.block (bo + 1) (by rw [HSZ.out]; omega)).trans HR1.out)
    have hi0 : (0 : Int) ≤ (i : Int) := by omega
    have him : (i : Int) < (m : Int) := by omega
    have hw : IntKind.i64.wrap (i : Int) = (i : Int) := IntWalk.i64_in _ (by have := HM.out; omega)
    clear hc hs2 hbl2 hg hg2
    by_cases heq : y = b
    · subst heq
      have hfin : ∀ w9 : World, w9.heap = w2.heap ∧ w9.os = w2.os ∧ w9.tape = w2.tape ∧ w9.output = w2.output → Kq (fun i => (w4.heap.size ≤ i ∧ i < w4.heap.size + 2 + 0) ∨ (i = bo + 2 ∨ (Value.slice (some ⟨g, 0, none⟩) m c).ownBlock = some i)) w2 w9 ∧ (∀ x ∈ pre ++ [(i, y)], B[x.1]? = some x.2) ∧ Below w4.heap.size w4 w9 := by
        intro w9 h9
        refine ⟨⟨by rw [h9.1]; exact Nat.le_refl _, fun j _ _ => by rw [h9.1]⟩, fun x hx => ?_, below_heap HB2.out h9.1 h9.2.1 h9.2.2.1 h9.2.2.2⟩
        rcases List.mem_append.mp hx with h | h
        · exact HP.out x h
        · rw [List.mem_singleton] at h; subst h; exact HIB.out
      have CM := fun w' => meetI_same 0 y w'
      gi_wp2
      refine wpIn_region_round rfl (noDefer_spec (by kernel_rfl)) (by kernel_rfl) ?_
      try (change wpAnyIn _ _ _ _ _ _ _ _ _ (World.drew _))

      refine wpAnyIn_take (i := 1) (v := ?_) rfl rfl (by kernel_rfl) (by kernel_rfl) (by kernel_rfl) (fun _ _ _ h => h) ⟨Or.inl ⟨by rfl, ?_⟩, fun _ => rfl⟩ ?_
      rotate_left
      · ((intro w; go_simp) <;> with_reducible rfl)
      try simp only [Act.put, List.setIfInBounds_toArray, List.set_cons_zero, List.set_cons_succ]
      refine wpAnyIn_take (i := 5) (v := ?_) rfl rfl (by kernel_rfl) (by kernel_rfl) (by kernel_rfl) (fun _ _ _ h => h) ⟨Or.inl ⟨by rfl, ?_⟩, fun _ => rfl⟩ ?_
      rotate_left
      · ((intro w; go_simp) <;> with_reducible rfl)
      try simp only [Act.put, List.setIfInBounds_toArray, List.set_cons_zero, List.set_cons_succ]
      refine wpAnyIn_ready (rs := [0, 4]) (by kernel_rfl) (by simp) ?_
      refine AllReadyIn.cons rfl (fun K hK => ?_) ?_
      · go_simp
        refine hK _ _ ?_
        clear hK K
        try simp only [Act.put, List.setIfInBounds_toArray, List.set_cons_zero, List.set_cons_succ]
        refine wpAnyIn_take (i := 2) (v := ?_) rfl rfl (by kernel_rfl) (by kernel_rfl) (by kernel_rfl) (fun _ _ _ h => h) ⟨Or.inl ⟨by rfl, ?_⟩, fun _ => rfl⟩ ?_
        rotate_left
        · ((intro w; go_simp) <;> with_reducible rfl)
        try simp only [Act.put, List.setIfInBounds_toArray, List.set_cons_zero, List.set_cons_succ]
        refine wpAnyIn_ready (rs := [3, 4]) (by kernel_rfl) (by simp) ?_
        refine AllReadyIn.cons rfl (fun K hK => ?_) ?_
        · go_simp
          refine hK _ _ ?_
          clear hK K
          try simp only [Act.put, List.setIfInBounds_toArray, List.set_cons_zero, List.set_cons_succ]
          refine wpAnyIn_ready (rs := [4]) (by kernel_rfl) (by simp) ?_
          refine AllReadyIn.cons rfl (fun K hK => ?_) ?_
          · go_simp
            refine hK _ _ ?_
            clear hK K
            try simp only [Act.put, List.setIfInBounds_toArray, List.set_cons_zero, List.set_cons_succ]
            refine wpAnyIn_take (i := 6) (v := ?_) rfl rfl (by kernel_rfl) (by kernel_rfl) (by kernel_rfl) (fun _ _ _ h => h) ⟨Or.inl ⟨by rfl, ?_⟩, fun _ => rfl⟩ ?_
            rotate_left
            · ((intro w; go_simp) <;> with_reducible rfl)
            try simp only [Act.put, List.setIfInBounds_toArray, List.set_cons_zero, List.set_cons_succ]
            refine wpAnyIn_ready (rs := [7]) (by kernel_rfl) (by simp) ?_
            refine AllReadyIn.cons rfl (fun K hK => ?_) ?_
            · go_simp
              refine hK _ _ ?_
              clear hK K
              try simp only [Act.put, List.setIfInBounds_toArray, List.set_cons_zero, List.set_cons_succ]
              refine wpAnyIn_ready (rs := [8]) (by kernel_rfl) (by simp) ?_
              refine AllReadyIn.cons rfl (fun K hK => ?_) ?_
              rotate_left
              · exact AllReadyIn.nil
              go_simp
              refine (CM _).mono ?_
              rintro e w9 ⟨rfl, rfl⟩
              refine hK _ _ ?_
              clear hK K
              refine wpAnyIn_done (by kernel_rfl) ?_ _
              exact hfin _ ⟨rfl, rfl, rfl, rfl⟩
            exact AllReadyIn.nil
          exact AllReadyIn.nil
        refine AllReadyIn.cons rfl (fun K hK => ?_) ?_
        · go_simp
          refine hK _ _ ?_
          clear hK K
          try simp only [Act.put, List.setIfInBounds_toArray, List.set_cons_zero, List.set_cons_succ]
          refine wpAnyIn_take (i := 6) (v := ?_) rfl rfl (by kernel_rfl) (by kernel_rfl) (by kernel_rfl) (fun _ _ _ h => h) ⟨Or.inl ⟨by rfl, ?_⟩, fun _ => rfl⟩ ?_
          rotate_left
          · ((intro w; go_simp) <;> with_reducible rfl)
          try simp only [Act.put, List.setIfInBounds_toArray, List.set_cons_zero, List.set_cons_succ]
          refine wpAnyIn_ready (rs := [3, 7]) (by kernel_rfl) (by simp) ?_
          refine AllReadyIn.cons rfl (fun K hK => ?_) ?_
          · go_simp
            refine hK _ _ ?_
            clear hK K
            try simp only [Act.put, List.setIfInBounds_toArray, List.set_cons_zero, List.set_cons_succ]
            refine wpAnyIn_ready (rs := [7]) (by kernel_rfl) (by simp) ?_
            refine AllReadyIn.cons rfl (fun K hK => ?_) ?_
            · go_simp
              refine hK _ _ ?_
              clear hK K
              try simp only [Act.put, List.setIfInBounds_toArray, List.set_cons_zero, List.set_cons_succ]
              refine wpAnyIn_ready (rs := [8]) (by kernel_rfl) (by simp) ?_
              refine AllReadyIn.cons rfl (fun K hK => ?_) ?_
              rotate_left
              · exact AllReadyIn.nil
              go_simp
              refine (CM _).mono ?_
              rintro e w9 ⟨rfl, rfl⟩
              refine hK _ _ ?_
              clear hK K
              refine wpAnyIn_done (by kernel_rfl) ?_ _
              exact hfin _ ⟨rfl, rfl, rfl, rfl⟩
            exact AllReadyIn.nil
          refine AllReadyIn.cons rfl (fun K hK => ?_) ?_
          · go_simp
            refine hK _ _ ?_
            clear hK K
            try simp only [Act.put, List.setIfInBounds_toArray, List.set_cons_zero, List.set_cons_succ]
            refine wpAnyIn_ready (rs := [3]) (by kernel_rfl) (by simp) ?_
            refine AllReadyIn.cons rfl (fun K hK => ?_) ?_
            · go_simp
              refine hK _ _ ?_
              clear hK K
              try simp only [Act.put, List.setIfInBounds_toArray, List.set_cons_zero, List.set_cons_succ]
              refine wpAnyIn_ready (rs := [8]) (by kernel_rfl) (by simp) ?_
              refine AllReadyIn.cons rfl (fun K hK => ?_) ?_
              rotate_left
              · exact AllReadyIn.nil
              go_simp
              refine (CM _).mono ?_
              rintro e w9 ⟨rfl, rfl⟩
              refine hK _ _ ?_
              clear hK K
              refine wpAnyIn_done (by kernel_rfl) ?_ _
              exact hfin _ ⟨rfl, rfl, rfl, rfl⟩
            exact AllReadyIn.nil
          exact AllReadyIn.nil
        exact AllReadyIn.nil
      refine AllReadyIn.cons rfl (fun K hK => ?_) ?_
      · go_simp
        refine hK _ _ ?_
        clear hK K
        try simp only [Act.put, List.setIfInBounds_toArray, List.set_cons_zero, List.set_cons_succ]
        refine wpAnyIn_take (i := 6) (v := ?_) rfl rfl (by kernel_rfl) (by kernel_rfl) (by kernel_rfl) (fun _ _ _ h => h) ⟨Or.inl ⟨by rfl, ?_⟩, fun _ => rfl⟩ ?_
        rotate_left
        · ((intro w; go_simp) <;> with_reducible rfl)
        try simp only [Act.put, List.setIfInBounds_toArray, List.set_cons_zero, List.set_cons_succ]
        refine wpAnyIn_ready (rs := [0, 7]) (by kernel_rfl) (by simp) ?_
        refine AllReadyIn.cons rfl (fun K hK => ?_) ?_
        · go_simp
          refine hK _ _ ?_
          clear hK K
          try simp only [Act.put, List.setIfInBounds_toArray, List.set_cons_zero, List.set_cons_succ]
          refine wpAnyIn_take (i := 2) (v := ?_) rfl rfl (by kernel_rfl) (by kernel_rfl) (by kernel_rfl) (fun _ _ _ h => h) ⟨Or.inl ⟨by rfl, ?_⟩, fun _ => rfl⟩ ?_
          rotate_left
          · ((intro w; go_simp) <;> with_reducible rfl)
          try simp only [Act.put, List.setIfInBounds_toArray, List.set_cons_zero, List.set_cons_succ]
          refine wpAnyIn_ready (rs := [3, 7]) (by kernel_rfl) (by simp) ?_
          refine AllReadyIn.cons rfl (fun K hK => ?_) ?_
          · go_simp
            refine hK _ _ ?_
            clear hK K
            try simp only [Act.put, List.setIfInBounds_toArray, List.set_cons_zero, List.set_cons_succ]
            refine wpAnyIn_ready (rs := [7]) (by kernel_rfl) (by simp) ?_
            refine AllReadyIn.cons rfl (fun K hK => ?_) ?_
            · go_simp
              refine hK _ _ ?_
              clear hK K
              try simp only [Act.put, List.setIfInBounds_toArray, List.set_cons_zero, List.set_cons_succ]
              refine wpAnyIn_ready (rs := [8]) (by kernel_rfl) (by simp) ?_
              refine AllReadyIn.cons rfl (fun K hK => ?_) ?_
              rotate_left
              · exact AllReadyIn.nil
              go_simp
              refine (CM _).mono ?_
              rintro e w9 ⟨rfl, rfl⟩
              refine hK _ _ ?_
              clear hK K
              refine wpAnyIn_done (by kernel_rfl) ?_ _
              exact hfin _ ⟨rfl, rfl, rfl, rfl⟩
            exact AllReadyIn.nil
          refine AllReadyIn.cons rfl (fun K hK => ?_) ?_
          · go_simp
            refine hK _ _ ?_
            clear hK K
            try simp only [Act.put, List.setIfInBounds_toArray, List.set_cons_zero, List.set_cons_succ]
            refine wpAnyIn_ready (rs := [3]) (by kernel_rfl) (by simp) ?_
            refine AllReadyIn.cons rfl (fun K hK => ?_) ?_
            · go_simp
              refine hK _ _ ?_
              clear hK K
              try simp only [Act.put, List.setIfInBounds_toArray, List.set_cons_zero, List.set_cons_succ]
              refine wpAnyIn_ready (rs := [8]) (by kernel_rfl) (by simp) ?_
              refine AllReadyIn.cons rfl (fun K hK => ?_) ?_
              rotate_left
              · exact AllReadyIn.nil
              go_simp
              refine (CM _).mono ?_
              rintro e w9 ⟨rfl, rfl⟩
              refine hK _ _ ?_
              clear hK K
              refine wpAnyIn_done (by kernel_rfl) ?_ _
              exact hfin _ ⟨rfl, rfl, rfl, rfl⟩
            exact AllReadyIn.nil
          exact AllReadyIn.nil
        refine AllReadyIn.cons rfl (fun K hK => ?_) ?_
        · go_simp
          refine hK _ _ ?_
          clear hK K
          try simp only [Act.put, List.setIfInBounds_toArray, List.set_cons_zero, List.set_cons_succ]
          refine wpAnyIn_ready (rs := [0]) (by kernel_rfl) (by simp) ?_
          refine AllReadyIn.cons rfl (fun K hK => ?_) ?_
          · go_simp
            refine hK _ _ ?_
            clear hK K
            try simp only [Act.put, List.setIfInBounds_toArray, List.set_cons_zero, List.set_cons_succ]
            refine wpAnyIn_take (i := 2) (v := ?_) rfl rfl (by kernel_rfl) (by kernel_rfl) (by kernel_rfl) (fun _ _ _ h => h) ⟨Or.inl ⟨by rfl, ?_⟩, fun _ => rfl⟩ ?_
            rotate_left
            · ((intro w; go_simp) <;> with_reducible rfl)
            try simp only [Act.put, List.setIfInBounds_toArray, List.set_cons_zero, List.set_cons_succ]
            refine wpAnyIn_ready (rs := [3]) (by kernel_rfl) (by simp) ?_
            refine AllReadyIn.cons rfl (fun K hK => ?_) ?_
            · go_simp
              refine hK _ _ ?_
              clear hK K
              try simp only [Act.put, List.setIfInBounds_toArray, List.set_cons_zero, List.set_cons_succ]
              refine wpAnyIn_ready (rs := [8]) (by kernel_rfl) (by simp) ?_
              refine AllReadyIn.cons rfl (fun K hK => ?_) ?_
              rotate_left
              · exact AllReadyIn.nil
              go_simp
              refine (CM _).mono ?_
              rintro e w9 ⟨rfl, rfl⟩
              refine hK _ _ ?_
              clear hK K
              refine wpAnyIn_done (by kernel_rfl) ?_ _
              exact hfin _ ⟨rfl, rfl, rfl, rfl⟩
            exact AllReadyIn.nil
          exact AllReadyIn.nil
        exact AllReadyIn.nil
      exact AllReadyIn.nil
    · have hfin : ∀ w9 : World, w9.heap = w2.heap ∧ w9.os = w2.os ∧ w9.tape = w2.tape ∧ w9.output = w2.output → Kq (fun i => (w4.heap.size ≤ i ∧ i < w4.heap.size + 2 + 0) ∨ (i = bo + 2 ∨ (Value.slice (some ⟨g, 0, none⟩) m c).ownBlock = some i)) w2 w9 ∧ ∃ (q : List (Nat × ByteArray)) (i' : Nat) (a' b' : ByteArray), pre ++ [(i, y)] = q ++ [(i', a')] ∧ (∀ x ∈ q, B[x.1]? = some x.2) ∧ B[i']? = some b' ∧ a' ≠ b' ∧ ([{ v := foundV y b, recovered := false }] : List PanicEntry) = [{ v := foundV a' b', recovered := false }] ∧ Below w4.heap.size w4 w9 := by
        intro w9 h9
        exact ⟨⟨by rw [h9.1]; exact Nat.le_refl _, fun j _ _ => by rw [h9.1]⟩, pre, i, y, b, rfl, HP.out, HIB.out, heq, rfl, below_heap HB2.out h9.1 h9.2.1 h9.2.2.1 h9.2.2.2⟩
      have CM := fun w' => meetI_no 0 y b w' heq
      gi_wp2
      refine wpIn_region_round rfl (noDefer_spec (by kernel_rfl)) (by kernel_rfl) ?_
      try (change wpAnyIn _ _ _ _ _ _ _ _ _ (World.drew _))
      refine wpAnyIn_take (i := 1) (v := ?_) rfl rfl (by kernel_rfl) (by kernel_rfl) (by kernel_rfl) (fun _ _ _ h => h) ⟨Or.inl ⟨by rfl, ?_⟩, fun _ => rfl⟩ ?_
      rotate_left
      · ((intro w; go_simp) <;> with_reducible rfl)
      try simp only [Act.put, List.setIfInBounds_toArray, List.set_cons_zero, List.set_cons_succ]
      refine wpAnyIn_take (i := 5) (v := ?_) rfl rfl (by kernel_rfl) (by kernel_rfl) (by kernel_rfl) (fun _ _ _ h => h) ⟨Or.inl ⟨by rfl, ?_⟩, fun _ => rfl⟩ ?_
      rotate_left
      · ((intro w; go_simp) <;> with_reducible rfl)
      try simp only [Act.put, List.setIfInBounds_toArray, List.set_cons_zero, List.set_cons_succ]
      refine wpAnyIn_ready (rs := [0, 4]) (by kernel_rfl) (by simp) ?_
      refine AllReadyIn.cons rfl (fun K hK => ?_) ?_
      · go_simp
        refine hK _ _ ?_
        clear hK K
        try simp only [Act.put, List.setIfInBounds_toArray, List.set_cons_zero, List.set_cons_succ]
        refine wpAnyIn_take (i := 2) (v := ?_) rfl rfl (by kernel_rfl) (by kernel_rfl) (by kernel_rfl) (fun _ _ _ h => h) ⟨Or.inl ⟨by rfl, ?_⟩, fun _ => rfl⟩ ?_
        rotate_left
        · ((intro w; go_simp) <;> with_reducible rfl)
        try simp only [Act.put, List.setIfInBounds_toArray, List.set_cons_zero, List.set_cons_succ]
        refine wpAnyIn_ready (rs := [3, 4]) (by kernel_rfl) (by simp) ?_
        refine AllReadyIn.cons rfl (fun K hK => ?_) ?_
        · go_simp
          refine hK _ _ ?_
          clear hK K
          try simp only [Act.put, List.setIfInBounds_toArray, List.set_cons_zero, List.set_cons_succ]
          refine wpAnyIn_ready (rs := [4]) (by kernel_rfl) (by simp) ?_
          refine AllReadyIn.cons rfl (fun K hK => ?_) ?_
          · go_simp
            refine hK _ _ ?_
            clear hK K
            try simp only [Act.put, List.setIfInBounds_toArray, List.set_cons_zero, List.set_cons_succ]
            refine wpAnyIn_take (i := 6) (v := ?_) rfl rfl (by kernel_rfl) (by kernel_rfl) (by kernel_rfl) (fun _ _ _ h => h) ⟨Or.inl ⟨by rfl, ?_⟩, fun _ => rfl⟩ ?_
            rotate_left
            · ((intro w; go_simp) <;> with_reducible rfl)
            try simp only [Act.put, List.setIfInBounds_toArray, List.set_cons_zero, List.set_cons_succ]
            refine wpAnyIn_ready (rs := [7]) (by kernel_rfl) (by simp) ?_
            refine AllReadyIn.cons rfl (fun K hK => ?_) ?_
            · go_simp
              refine hK _ _ ?_
              clear hK K
              try simp only [Act.put, List.setIfInBounds_toArray, List.set_cons_zero, List.set_cons_succ]
              refine wpAnyIn_ready (rs := [8]) (by kernel_rfl) (by simp) ?_
              refine AllReadyIn.cons rfl (fun K hK => ?_) ?_
              rotate_left
              · exact AllReadyIn.nil
              go_simp
              refine (CM _).mono ?_
              rintro e w9 ⟨rfl, rfl⟩
              exact ⟨rfl, hfin _ ⟨rfl, rfl, rfl, rfl⟩⟩
            exact AllReadyIn.nil
          exact AllReadyIn.nil
        refine AllReadyIn.cons rfl (fun K hK => ?_) ?_
        · go_simp
          refine hK _ _ ?_
          clear hK K
          try simp only [Act.put, List.setIfInBounds_toArray, List.set_cons_zero, List.set_cons_succ]
          refine wpAnyIn_take (i := 6) (v := ?_) rfl rfl (by kernel_rfl) (by kernel_rfl) (by kernel_rfl) (fun _ _ _ h => h) ⟨Or.inl ⟨by rfl, ?_⟩, fun _ => rfl⟩ ?_
          rotate_left
          · ((intro w; go_simp) <;> with_reducible rfl)
          try simp only [Act.put, List.setIfInBounds_toArray, List.set_cons_zero, List.set_cons_succ]
          refine wpAnyIn_ready (rs := [3, 7]) (by kernel_rfl) (by simp) ?_
          refine AllReadyIn.cons rfl (fun K hK => ?_) ?_
          · go_simp
            refine hK _ _ ?_
            clear hK K
            try simp only [Act.put, List.setIfInBounds_toArray, List.set_cons_zero, List.set_cons_succ]
            refine wpAnyIn_ready (rs := [7]) (by kernel_rfl) (by simp) ?_
            refine AllReadyIn.cons rfl (fun K hK => ?_) ?_
            · go_simp
              refine hK _ _ ?_
              clear hK K
              try simp only [Act.put, List.setIfInBounds_toArray, List.set_cons_zero, List.set_cons_succ]
              refine wpAnyIn_ready (rs := [8]) (by kernel_rfl) (by simp) ?_
              refine AllReadyIn.cons rfl (fun K hK => ?_) ?_
              rotate_left
              · exact AllReadyIn.nil
              go_simp
              refine (CM _).mono ?_
              rintro e w9 ⟨rfl, rfl⟩
              exact ⟨rfl, hfin _ ⟨rfl, rfl, rfl, rfl⟩⟩
            exact AllReadyIn.nil
          refine AllReadyIn.cons rfl (fun K hK => ?_) ?_
          · go_simp
            refine hK _ _ ?_
            clear hK K
            try simp only [Act.put, List.setIfInBounds_toArray, List.set_cons_zero, List.set_cons_succ]
            refine wpAnyIn_ready (rs := [3]) (by kernel_rfl) (by simp) ?_
            refine AllReadyIn.cons rfl (fun K hK => ?_) ?_
            · go_simp
              refine hK _ _ ?_
              clear hK K
              try simp only [Act.put, List.setIfInBounds_toArray, List.set_cons_zero, List.set_cons_succ]
              refine wpAnyIn_ready (rs := [8]) (by kernel_rfl) (by simp) ?_
              refine AllReadyIn.cons rfl (fun K hK => ?_) ?_
              rotate_left
              · exact AllReadyIn.nil
              go_simp
              refine (CM _).mono ?_
              rintro e w9 ⟨rfl, rfl⟩
              exact ⟨rfl, hfin _ ⟨rfl, rfl, rfl, rfl⟩⟩
            exact AllReadyIn.nil
          exact AllReadyIn.nil
        exact AllReadyIn.nil
      refine AllReadyIn.cons rfl (fun K hK => ?_) ?_
      · go_simp
        refine hK _ _ ?_
        clear hK K
        try simp only [Act.put, List.setIfInBounds_toArray, List.set_cons_zero, List.set_cons_succ]
        refine wpAnyIn_take (i := 6) (v := ?_) rfl rfl (by kernel_rfl) (by kernel_rfl) (by kernel_rfl) (fun _ _ _ h => h) ⟨Or.inl ⟨by rfl, ?_⟩, fun _ => rfl⟩ ?_
        rotate_left
        · ((intro w; go_simp) <;> with_reducible rfl)
        try simp only [Act.put, List.setIfInBounds_toArray, List.set_cons_zero, List.set_cons_succ]
        refine wpAnyIn_ready (rs := [0, 7]) (by kernel_rfl) (by simp) ?_
        refine AllReadyIn.cons rfl (fun K hK => ?_) ?_
        · go_simp
          refine hK _ _ ?_
          clear hK K
          try simp only [Act.put, List.setIfInBounds_toArray, List.set_cons_zero, List.set_cons_succ]
          refine wpAnyIn_take (i := 2) (v := ?_) rfl rfl (by kernel_rfl) (by kernel_rfl) (by kernel_rfl) (fun _ _ _ h => h) ⟨Or.inl ⟨by rfl, ?_⟩, fun _ => rfl⟩ ?_
          rotate_left
          · ((intro w; go_simp) <;> with_reducible rfl)
          try simp only [Act.put, List.setIfInBounds_toArray, List.set_cons_zero, List.set_cons_succ]
          refine wpAnyIn_ready (rs := [3, 7]) (by kernel_rfl) (by simp) ?_
          refine AllReadyIn.cons rfl (fun K hK => ?_) ?_
          · go_simp
            refine hK _ _ ?_
            clear hK K
            try simp only [Act.put, List.setIfInBounds_toArray, List.set_cons_zero, List.set_cons_succ]
            refine wpAnyIn_ready (rs := [7]) (by kernel_rfl) (by simp) ?_
            refine AllReadyIn.cons rfl (fun K hK => ?_) ?_
            · go_simp
              refine hK _ _ ?_
              clear hK K
              try simp only [Act.put, List.setIfInBounds_toArray, List.set_cons_zero, List.set_cons_succ]
              refine wpAnyIn_ready (rs := [8]) (by kernel_rfl) (by simp) ?_
              refine AllReadyIn.cons rfl (fun K hK => ?_) ?_
              rotate_left
              · exact AllReadyIn.nil
              go_simp
              refine (CM _).mono ?_
              rintro e w9 ⟨rfl, rfl⟩
              exact ⟨rfl, hfin _ ⟨rfl, rfl, rfl, rfl⟩⟩
            exact AllReadyIn.nil
          refine AllReadyIn.cons rfl (fun K hK => ?_) ?_
          · go_simp
            refine hK _ _ ?_
            clear hK K
            try simp only [Act.put, List.setIfInBounds_toArray, List.set_cons_zero, List.set_cons_succ]
            refine wpAnyIn_ready (rs := [3]) (by kernel_rfl) (by simp) ?_
            refine AllReadyIn.cons rfl (fun K hK => ?_) ?_
            · go_simp
              refine hK _ _ ?_
              clear hK K
              try simp only [Act.put, List.setIfInBounds_toArray, List.set_cons_zero, List.set_cons_succ]
              refine wpAnyIn_ready (rs := [8]) (by kernel_rfl) (by simp) ?_
              refine AllReadyIn.cons rfl (fun K hK => ?_) ?_
              rotate_left
              · exact AllReadyIn.nil
              go_simp
              refine (CM _).mono ?_
              rintro e w9 ⟨rfl, rfl⟩
              exact ⟨rfl, hfin _ ⟨rfl, rfl, rfl, rfl⟩⟩
            exact AllReadyIn.nil
          exact AllReadyIn.nil
        refine AllReadyIn.cons rfl (fun K hK => ?_) ?_
        · go_simp
          refine hK _ _ ?_
          clear hK K
          try simp only [Act.put, List.setIfInBounds_toArray, List.set_cons_zero, List.set_cons_succ]
          refine wpAnyIn_ready (rs := [0]) (by kernel_rfl) (by simp) ?_
          refine AllReadyIn.cons rfl (fun K hK => ?_) ?_
          · go_simp
            refine hK _ _ ?_
            clear hK K
            try simp only [Act.put, List.setIfInBounds_toArray, List.set_cons_zero, List.set_cons_succ]
            refine wpAnyIn_take (i := 2) (v := ?_) rfl rfl (by kernel_rfl) (by kernel_rfl) (by kernel_rfl) (fun _ _ _ h => h) ⟨Or.inl ⟨by rfl, ?_⟩, fun _ => rfl⟩ ?_
            rotate_left
            · ((intro w; go_simp) <;> with_reducible rfl)
            try simp only [Act.put, List.setIfInBounds_toArray, List.set_cons_zero, List.set_cons_succ]
            refine wpAnyIn_ready (rs := [3]) (by kernel_rfl) (by simp) ?_
            refine AllReadyIn.cons rfl (fun K hK => ?_) ?_
            · go_simp
              refine hK _ _ ?_
              clear hK K
              try simp only [Act.put, List.setIfInBounds_toArray, List.set_cons_zero, List.set_cons_succ]
              refine wpAnyIn_ready (rs := [8]) (by kernel_rfl) (by simp) ?_
              refine AllReadyIn.cons rfl (fun K hK => ?_) ?_
              rotate_left
              · exact AllReadyIn.nil
              go_simp
              refine (CM _).mono ?_
              rintro e w9 ⟨rfl, rfl⟩
              exact ⟨rfl, hfin _ ⟨rfl, rfl, rfl, rfl⟩⟩
            exact AllReadyIn.nil
          exact AllReadyIn.nil
        exact AllReadyIn.nil
      exact AllReadyIn.nil
  case done =>
    rintro D xs W rfl rfl ⟨hpre, hbl⟩ hK
    have hAB := high_all HM.out.2.1 rfl hpre
    have HAB := Lib.hid hAB
    have HBL := Lib.hid hbl
    have HKK := Lib.hid hK
    clear hpre hbl hK hAB
    gi_wp2
    refine ⟨by simp, .inl ⟨_, _, rfl, run_takeDeferred HKK.out, ?_⟩⟩
    refine ⟨.tuple #[], ?_, .inl ⟨rfl, HAB.out, ?_⟩⟩
    · simp [results, Tryz.f25, go_sem]
    · exact below_chg (HBEL.out.trans (HBL.out.mono HBEL.out.size)) (Chg.put (fun i => i = w4.heap.size) _ (.deferred none) rfl) (fun i hi => by have := HBEL.out.size; omega) (HBEL.out.trans (HBL.out.mono HBEL.out.size)).size
  case stop =>
    rintro D c pre W rfl hpre h hK
    exact h.elim
  case panic =>
    rintro D ch pre W rfl hpre ⟨q, i, a, b, rfl, hq, hb, hne, rfl, hbl⟩ hK
    obtain ⟨h1, h2⟩ := high_some HM.out.2.1 hpre hq
    refine ⟨by simp, .inl ⟨_, _, rfl, run_takeDeferred hK, ?_⟩⟩
    refine .inr ⟨i, a, b, rfl, h1, hb, hne, h2, ?_⟩
    exact below_chg (HBEL.out.trans (hbl.mono HBEL.out.size)) (Chg.put (fun i => i = w4.heap.size) _ (.deferred none) rfl) (fun i hi => by have := HBEL.out.size; omega) (HBEL.out.trans (hbl.mono HBEL.out.size)).size
end Go.Proofs.YtdbghgpohdijfaaGreatDoor
/- extract: the texts of two ways up: plain. -/
namespace Go.Scr
set_option linter.unusedVariables false
/-- a step up -/
def nextC (a l : Nat) : Nat × Nat := if isLeft a l then ((skipUp a l).1 / 2, (skipUp a l).2 / 2) else (a / 2, l / 2)
/-- the flags of as many steps as are asked -/
def flagsC : Nat → Nat → Nat → List Bool
  | _, _, 0 => []
  | a, l, k + 1 => isLeft a l :: flagsC (nextC a l).1 (nextC a l).2 k
theorem flagsC_len : ∀ (k a l : Nat), (flagsC a l k).length = k
  | 0, _, _ => rfl
  | k + 1, a, l => by rw [flagsC, List.length_cons, flagsC_len k]
theorem flagsC_step : ∀ (k a l : Nat), k ≤ (stepL a l).length → flagsC a l k = (stepL a l).take k
  | 0, _, _, _ => rfl
  | k + 1, a, l, h => by
    rw [stepL] at h ⊢
    split at h
    · simp at h
    · rename_i hl
      rw [dif_neg hl] 
      rw [List.length_cons] at h
      rw [flagsC, List.take_succ_cons]
      unfold nextC
      by_cases hi : isLeft a l = true
      · rw [if_pos hi] at h ⊢
        rw [flagsC_step k _ _ (Nat.le_of_succ_le_succ h), if_pos hi]
      · rw [if_neg hi] at h ⊢
        rw [flagsC_step k _ _ (Nat.le_of_succ_le_succ h), if_neg hi]
theorem flagsC_all {a l : Nat} {k : Nat} (h : (stepL a l).length = k) : flagsC a l k = stepL a l := by
  rw [flagsC_step k a l (by omega), List.take_of_length_le (by omega)]
/-- the place behind k steps -/
def atC : Nat → Nat → Nat → Nat × Nat
  | a, l, 0 => (a, l)
  | a, l, k + 1 => nextC (atC a l k).1 (atC a l k).2
theorem atC_front : ∀ (k a l : Nat), atC (nextC a l).1 (nextC a l).2 k = atC a l (k + 1)
  | 0, _, _ => rfl
  | k + 1, a, l => by
    rw [atC, atC_front k a l]
    rfl
theorem flagsC_snoc : ∀ (k a l : Nat), flagsC a l (k + 1) = flagsC a l k ++ [isLeft (atC a l k).1 (atC a l k).2]
  | 0, _, _ => rfl
  | k + 1, a, l => by
    rw [flagsC, flagsC_snoc k, flagsC, atC_front]
    rfl
theorem nextC_le (a l : Nat) : (nextC a l).1 ≤ a ∧ (nextC a l).2 ≤ l := by
  unfold nextC
  have := skipUp_le a l
  split <;> constructor <;> (show _ / 2 ≤ _; omega)
theorem atC_le (a l : Nat) : ∀ k, (atC a l k).1 ≤ a ∧ (atC a l k).2 ≤ l
  | 0 => ⟨Nat.le_refl _, Nat.le_refl _⟩
  | k + 1 => by
    have h1 := atC_le a l k
    have h2 := nextC_le (atC a l k).1 (atC a l k).2
    exact ⟨Nat.le_trans h2.1 h1.1, Nat.le_trans h2.2 h1.2⟩
end Go.Scr
namespace Go.Proofs.YtdbghgpohdijfaaGreatDoor
open Go.RowKit Go.Scr
set_option linter.unusedVariables false
/-- a step's text -/
def stT (f : Bool) (p r : ByteArray) : ByteArray := if f then txtS p r else txtS r p
/-- the texts of a way up, from below -/
def textsF : List (Bool × ByteArray) → ByteArray → List ByteArray
  | (f, p) :: s, r => stT f p r :: textsF s (shaS (stT f p r))
  | [], _ => []
/-- what is reached -/
def endF : List (Bool × ByteArray) → ByteArray → ByteArray
  | (f, p) :: s, r => endF s (shaS (stT f p r))
  | [], r => r
theorem textsF_snoc (f : Bool) (p : ByteArray) : ∀ (s : List (Bool × ByteArray)) (r : ByteArray), textsF (s ++ [(f, p)]) r = textsF s r ++ [stT f p (endF s r)] ∧ endF (s ++ [(f, p)]) r = shaS (stT f p (endF s r))
  | [], r => ⟨rfl, rfl⟩
  | (g, q) :: s, r => by
    obtain ⟨h1, h2⟩ := textsF_snoc f p s (shaS (stT g q r))
    exact ⟨by rw [List.cons_append, textsF, h1, textsF, endF]; rfl, by rw [List.cons_append, endF, h2, endF]⟩
theorem textsF_len : ∀ (s : List (Bool × ByteArray)) (r : ByteArray), (textsF s r).length = s.length
  | [], _ => rfl
  | (f, p) :: s, r => by rw [textsF, List.length_cons, textsF_len s, List.length_cons]
theorem shaS_size (s : ByteArray) : (shaS s).size = 32 := by unfold shaS; rw [str_size, sha_length]
theorem stT_size {f : Bool} {p r : ByteArray} (hp : p.size = 32) (hr : r.size = 32) : (stT f p r).size = 65 := by
  unfold stT txtS
  split <;> (rw [ByteArray.size_append, ByteArray.size_append, hp, hr]; rfl)
theorem stT_inj {f : Bool} {p r q s : ByteArray} (hp : p.size = 32) (hr : r.size = 32) (hq : q.size = 32) (hs : s.size = 32) (h : stT f p r = stT f q s) : p = q ∧ r = s := by
  unfold stT at h
  split at h
  · exact txtS_inj h (by rw [hp, hq])
  · exact (txtS_inj h (by rw [hr, hs])).symm
theorem textsF_size : ∀ (s : List (Bool × ByteArray)) (r : ByteArray), (∀ x ∈ s, x.2.size = 32) → r.size = 32 → ∀ t ∈ textsF s r, t.size = 65
  | [], _, _, _, t, ht => nomatch ht
  | (f, p) :: s, r, h, hr, t, ht => by
    rw [textsF] at ht
    rcases List.mem_cons.mp ht with rfl | ht
    · exact stT_size (h _ List.mem_cons_self) hr
    · exact textsF_size s _ (fun x hx => h x (List.mem_cons_of_mem _ hx)) (shaS_size _) t ht
theorem endF_size : ∀ (s : List (Bool × ByteArray)) (r : ByteArray), r.size = 32 → (endF s r).size = 32
  | [], _, h => h
  | (f, p) :: s, r, h => by rw [endF]; exact endF_size s _ (shaS_size _)
/-- a way up is what it ends in -/
theorem climbF_end : ∀ (fs : List Bool) (ps : List ByteArray) (r : ByteArray), fs.length = ps.length → (∀ p ∈ ps, p.size = 32) → r.size = 32 → climbF nodeS fs ps r = endF (fs.zip ps) r
  | [], [], r, _, _, _ => rfl
  | [], p :: ps, r, h, _, _ => by simp at h
  | f :: fs, [], r, h, _, _ => by simp at h
  | f :: fs, p :: ps, r, h, hp, hr => by
    have hp1 := hp p List.mem_cons_self
    have hn : (if f then nodeS p r else nodeS r p) = shaS (stT f p r) := by
      unfold stT nodeS
      cases f
      · simp only [Bool.false_eq_true, if_false]
        rw [if_pos ⟨hr, hp1⟩, hnode_txt]
      · simp only [if_true]
        rw [if_pos ⟨hp1, hr⟩, hnode_txt]
    rw [climbF, hn, List.zip_cons_cons, endF]
    exact climbF_end fs ps _ (by simpa using h) (fun q hq => hp q (List.mem_cons_of_mem _ hq)) (shaS_size _)
/-- all texts are the same: so are the ways -/
theorem way_same : ∀ (fs : List Bool) (P Q : List ByteArray) (r s : ByteArray), fs.length = P.length → fs.length = Q.length → (∀ p ∈ P, p.size = 32) → (∀ p ∈ Q, p.size = 32) → r.size = 32 → s.size = 32 →
    endF (fs.zip P) r = endF (fs.zip Q) s → textsF (fs.zip P) r = textsF (fs.zip Q) s → r = s ∧ P = Q
  | [], [], [], r, s, _, _, _, _, _, _, he, _ => ⟨he, rfl⟩
  | [], p :: P, _, r, s, h, _, _, _, _, _, _, _ => by simp at h
  | [], [], q :: Q, r, s, _, h, _, _, _, _, _, _ => by simp at h
  | f :: fs, [], _, r, s, h, _, _, _, _, _, _, _ => by simp at h
  | f :: fs, p :: P, [], r, s, _, h, _, _, _, _, _, _ => by simp at h
  | f :: fs, p :: P, q :: Q, r, s, h1, h2, hp, hq, hr, hs, he, ht => by
    rw [List.zip_cons_cons, List.zip_cons_cons, textsF, textsF] at ht
    rw [List.zip_cons_cons, List.zip_cons_cons, endF, endF] at he
    obtain ⟨h3, h4⟩ := List.cons.inj ht
    obtain ⟨h5, h6⟩ := stT_inj (hp p List.mem_cons_self) hr (hq q List.mem_cons_self) hs h3
    obtain ⟨_, h8⟩ := way_same fs P Q _ _ (by simpa using h1) (by simpa using h2) (fun x hx => hp x (List.mem_cons_of_mem _ hx)) (fun x hx => hq x (List.mem_cons_of_mem _ hx)) (shaS_size _) (shaS_size _) he h4
    exact ⟨h6, by rw [h5, h8]⟩
/-- the highest texts that are not the same have one digest -/
theorem way_highest : ∀ (fs : List Bool) (P Q : List ByteArray) (r s : ByteArray), fs.length = P.length → fs.length = Q.length → (∀ p ∈ P, p.size = 32) → (∀ p ∈ Q, p.size = 32) → r.size = 32 → s.size = 32 →
    endF (fs.zip P) r = endF (fs.zip Q) s → ∀ (k : Nat) (a b : ByteArray), (textsF (fs.zip P) r)[k]? = some a → (textsF (fs.zip Q) s)[k]? = some b → (∀ j, k < j → (textsF (fs.zip P) r)[j]? = (textsF (fs.zip Q) s)[j]?) → shaS a = shaS b
  | [], [], [], r, s, _, _, _, _, _, _, he, k, a, b, ha, _, _ => by simp [textsF] at ha
  | [], p :: P, _, r, s, h, _, _, _, _, _, _, _, _, _, _, _, _ => by simp at h
  | [], [], q :: Q, r, s, _, h, _, _, _, _, _, _, _, _, _, _, _ => by simp at h
  | f :: fs, [], _, r, s, h, _, _, _, _, _, _, _, _, _, _, _, _ => by simp at h
  | f :: fs, p :: P, [], r, s, _, h, _, _, _, _, _, _, _, _, _, _, _ => by simp at h
  | f :: fs, p :: P, q :: Q, r, s, h1, h2, hp, hq, hr, hs, he, k, a, b, ha, hb, hk => by
    rw [List.zip_cons_cons, textsF] at ha hk
    rw [List.zip_cons_cons, textsF] at hb hk
    rw [List.zip_cons_cons, List.zip_cons_cons, endF, endF] at he
    have hP : ∀ x ∈ P, x.size = 32 := fun x hx => hp x (List.mem_cons_of_mem _ hx)
    have hQ : ∀ x ∈ Q, x.size = 32 := fun x hx => hq x (List.mem_cons_of_mem _ hx)
    cases k with
    | zero =>
      rw [List.getElem?_cons_zero] at ha hb
      rw [← Option.some.inj ha, ← Option.some.inj hb]
      have htt : textsF (fs.zip P) (shaS (stT f p r)) = textsF (fs.zip Q) (shaS (stT f q s)) := by
        apply List.ext_getElem?
        intro j
        have := hk (j + 1) (by omega)
        rwa [List.getElem?_cons_succ, List.getElem?_cons_succ] at this
      exact (way_same fs P Q _ _ (by simpa using h1) (by simpa using h2) hP hQ (shaS_size _) (shaS_size _) he htt).1
    | succ k =>
      rw [List.getElem?_cons_succ] at ha hb
      exact way_highest fs P Q _ _ (by simpa using h1) (by simpa using h2) hP hQ (shaS_size _) (shaS_size _) he k a b ha hb (fun j hj => by
        have := hk (j + 1) (by omega)
        rwa [List.getElem?_cons_succ, List.getElem?_cons_succ] at this)
end Go.Proofs.YtdbghgpohdijfaaGreatDoor
