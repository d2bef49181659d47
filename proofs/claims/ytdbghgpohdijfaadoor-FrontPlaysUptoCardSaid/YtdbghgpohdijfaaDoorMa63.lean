/- frontier.Join, RootOf of any ranges (printed by gen_fs6.py). -/
import Derived.Test.YtdbghgpohdijfaaDoorMa62
namespace Go.Proofs.YtdbghgpohdijfaaDoor
open Go.RowKit Go.Scr Go.ChangeMaps Go.MapKept
set_option linter.unusedVariables false
/-- a range and an error come out; its list is a new one -/
def RgP (w : World) (b e : Int) (K : List ByteArray) (E : Int) (o : Ending) (w' : World) : Prop := ∃ u, o = .returned (.tuple #[.agg #[.int .i64 b, .int .i64 e, u], .int .i64 E]) ∧ LfI w w' u K.length K
theorem single_known {n m : Nat} {H : List ByteArray} (hl : H.length = (cutA n m).length) : nodesA (valK nodeS (cutA n m) H) n m = H := by
  rw [nodesA_known (i := 0) (cutA_sorted _ _ _ rfl) (fun j _ => by rw [Nat.zero_add]) (by omega), List.drop_zero, List.take_of_length_le (by omega)]
/-- Join's error -/
def jnE (ab ae : Int) (A : List ByteArray) (bb be : Int) (B : List ByteArray) : Int := if rgE ab ae A = 50 ∨ rgE bb be B = 50 then 50 else if rgE ab ae A ≠ 0 ∨ rgE bb be B ≠ 0 then 52 else if ae ≠ bb then 51 else 0
theorem zero3_end {w w3 wx : World} {bs : Nat} (h1 : Below w.heap.size w w3) (hb : Below w3.heap.size w3 wx) (hs : w.heap.size ≤ bs) (x y z : Value) : Below w.heap.size w (((wx.setCell ⟨bs, 0, none⟩ x).setCell ⟨bs, 1, none⟩ y).setCell ⟨bs, 2, none⟩ z) :=
  (((h1.trans (hb.mono h1.size)).setCell (p := ⟨bs, 0, none⟩) hs _).setCell (p := ⟨bs, 1, none⟩) hs _).setCell (p := ⟨bs, 2, none⟩) hs _
/-- the joined hashes -/
def jnT (n m k : Nat) (A B : List ByteArray) : List ByteArray := nodesA (valK nodeS (cutA n m ++ cutA m k) (A ++ B)) n k
theorem jnE_ok {ab ae bb be : Int} {A B : List ByteArray} (h : jnE ab ae A bb be B = 0) : ∃ n m k : Nat, ab = n ∧ ae = m ∧ bb = m ∧ be = k ∧ n ≤ m ∧ m ≤ k ∧ k ≤ 1099511627776 ∧ A.length = (cutA n m).length ∧ B.length = (cutA m k).length ∧ (∀ s ∈ A, s.size = 32) ∧ (∀ s ∈ B, s.size = 32) := by
  unfold jnE at h
  split at h
  · omega
  · split at h
    · omega
    · split at h
      · omega
      · rename_i h1 h2 h3
        obtain ⟨n, m, rfl, rfl, a1, a2, a3, a4⟩ := rgE_ok (Classical.byContradiction fun x => h2 (.inl x))
        obtain ⟨m', k, hm', rfl, b1, b2, b3, b4⟩ := rgE_ok (Classical.byContradiction fun x => h2 (.inr x))
        have h3 : (m : Int) = bb := Classical.byContradiction h3
        obtain rfl : m' = m := by omega
        exact ⟨n, m', k, rfl, rfl, hm', rfl, a1, b1, b2, a3, b3, a4, b4⟩
/-- the root by hashes: from the last one on -/
def rootF : List ByteArray → ByteArray
  | [] => hempty
  | [x] => x
  | x :: y :: r => nodeS x (rootF (y :: r))
theorem rootA_F : ∀ (P : List Pc), P ≠ [] → rootA nodeS P = rootF (P.map fun x => x.2.2)
  | [], h => absurd rfl h
  | [x], _ => rfl
  | x :: y :: r, _ => by
    rw [rootA, rootA_F (y :: r) (by simp)]
    rfl
theorem rowroot_any {w : World} {eb : Nat} {T : TypeId} {rest : List Value} {P : List Pc} {v : Value} (h2 : FrI w eb T rest P v) (hn : P.length ≤ 4096) (ht : Tabs w) :
    Calls Tryd.prog 27 #[rowP eb] w fun o w' => o = .returned (.string (rootF (P.map fun x => x.2.2))) ∧ Below w.heap.size w w' := by
  by_cases hP : P = []
  · subst hP
    exact froot_none h2 ht
  · rw [← rootA_F P hP]
    obtain ⟨Q, x, hQ⟩ : ∃ Q x, P = Q ++ [x] := ⟨_, _, (List.dropLast_concat_getLast hP).symm⟩
    rw [hQ] at h2 hn ⊢
    refine froot_some h2 ht ?_
    rw [List.length_append] at hn
    omega
end Go.Proofs.YtdbghgpohdijfaaDoor
