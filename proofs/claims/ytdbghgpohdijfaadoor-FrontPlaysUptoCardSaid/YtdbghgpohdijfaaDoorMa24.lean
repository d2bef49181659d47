/- slices.Clone of texts. -/
import Derived.Test.YtdbghgpohdijfaaDoorMa19
namespace Go.Proofs.YtdbghgpohdijfaaDoor
open Go.RowKit Go.Scr
set_option linter.unusedVariables false
theorem wpList_cat {P : Program} {ops : Array Oper} {rest : List Oper} {o : Oper} {a : Act} {Q : Exit → Act → World → Prop} {w : World} {T S : TypeId}
    (hg : o.guard = none) (s x : Operand) (hop : o.op = Op.call { callee := Callee.builtin Builtin.append, args := #[s, x], argTypes := #[S, S] })
    (hu : P.underlying S = some (.slice T)) (z : Value) (sz : Nat) {byt : Nat} (hi : (P.info? T).map (fun i => (i.zero, i.size, i.bytes)) = some (some z, sz, byt)) (hzs : z.cells.size = sz) (hsz : 0 < sz)
    {v u : Value} {n m : Nat} (l xs : List Value) (hs : a.eval s = v) (hx : a.eval x = u) (hown : Held w T sz v n l) (hsrc : Held w T sz u m xs) (hone : ∀ u ∈ xs, u.oneCell' = true) (hl : (n + m) * byt ≤ 140737488355328) (hl2 : n + m ≤ 140737488355328)
    (hK : ∀ v' w', Held w' T sz v' (n + m) (l ++ xs) → w.grownBy w' v.ownBlock → (v'.ownBlock = v.ownBlock ∨ v'.ownBlock = some w.heap.size) → wpList P ops Q rest (a.put o.dst v') w') : wpList P ops Q (o :: rest) a w := by
  refine wpList_plain hg fun K hKK => ?_
  obtain ⟨i, hi0, hz, hsi, hbi⟩ := info_parts hi
  obtain ⟨v', w', hrun, r1, r2, r3⟩ := run_cat (P := P) w S o.type T i z sz byt hu hi0 hz hsi hbi hzs hsz v u n m l xs hown hsrc hone (by simp only [maxLen]; omega) hl
  unfold Oper.wp
  simp [execOp, hop, resolve, invoke, builtin, hs, hx, hrun, Result.andThen]
  exact hKK _ _ (hK v' w' r1 r2 r3)
end Go.Proofs.YtdbghgpohdijfaaDoor
