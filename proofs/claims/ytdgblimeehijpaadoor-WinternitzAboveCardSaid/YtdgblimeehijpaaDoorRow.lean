/- Rows that the call owns, of elements of any kind: one append as an arm of a walk. -/
import Derived.Test.YtdgblimeehijpaaDoorWalk
import Derived.Test.YtdgblimeehijpaaDoorDig0
namespace Go.Proofs.YtdgblimeehijpaaDoor
open Go.RowKit Go.Scr

theorem wpList_appendV {P : Program} {ops : Array Oper} {rest : List Oper} {o : Oper} {a : Act} {Q : Exit → Act → World → Prop} {W : World} {cs : Array Value} {T S : TypeId} (hgd : o.guard = none) (s x : Operand)
    (ho : o.op = .call { callee := .builtin .append, args := #[s, x], argTypes := #[S, S] }) (hu : P.underlying S = some (.slice T)) (z : Value) (sz : Nat) {byt : Nat} (hi : (P.info? T).map (fun i => (i.zero, i.size, i.bytes)) = some (some z, sz, byt))
    (hzs : z.cells.size = sz) (hsz : 0 < sz) {B : Nat} {v : Value} {n0 : Nat} {l : List Value} (xs : List Value) (m N : Nat) (hs : a.eval s = v) (hx : a.eval x = .slice (some ⟨W.heap.size, 0, none⟩) m m) (hown : W.ownsRow B T sz v n0 l) (hcs : cs = xs.toArray) (hm : xs.length = m * sz)
    (hone : ∀ u ∈ xs, u.oneCell' = true) {C : Nat} {w0 : World} (hb : Below C w0 W) (hCB : C ≤ B) (hB : B ≤ W.heap.size) (hN : N = n0 + m) (hpos : 0 < N) (hl : N * byt ≤ 140737488355328) (hl2 : N ≤ 140737488355328)
    (h : ∀ (g c : Nat) w', B ≤ g → w'.ownsRow B T sz (.slice (some ⟨g, 0, none⟩) N c) N (l ++ xs) → Below C w0 w' → W.heap.size ≤ w'.heap.size → W.grownBy w' v.ownBlock → wpList P ops Q rest (a.put o.dst (.slice (some ⟨g, 0, none⟩) N c)) w') :
    wpList P ops Q (o :: rest) a (W.alloc (.cells cs T)) := by
  subst hcs hN
  obtain ⟨i, hi0, hz, hsi, hbi⟩ := info_parts hi
  obtain ⟨v', w', hrun, ho2, hg, _⟩ := run_append_own (P := P) (W.alloc (.cells xs.toArray T)) B S o.type T i z sz byt hu hi0 hz hsi hbi hzs hsz v n0 l (World.ownsRow.alloc hown _) ⟨W.heap.size, 0, none⟩ m m xs hm
    (fun j u hj => by
      have hadd : (⟨W.heap.size, 0, none⟩ : Addr).add j = ⟨W.heap.size, j, none⟩ := by unfold Addr.add; split <;> simp_all
      rw [hadd, World.cell?_alloc_at _ _ _ _ rfl]; simpa using hj) hone (by simp only [maxLen]; omega) hl (by simp; omega)
  have hg' : W.grownBy w' v.ownBlock := ⟨hg.os, hg.tape, hg.output, Nat.le_trans (by simp) hg.size, fun k hk hne => (hg.block k (by simp; omega) hne).trans (Below.heap_alloc _ _ _ hk)⟩
  rcases ho2.2 with ⟨_, h0⟩ | ⟨g, c, cur, rfl, hBg, _⟩
  · omega
  refine wpList_plain hgd fun _ hK => ?_
  unfold Oper.wp execOp
  simp only [ho, resolve, invoke, builtin, Sem.run_bind, Sem.run_pure, Result.andThen_ok, List.map_toArray, List.map_cons, List.map_nil, hs, hx, hrun]
  exact hK _ _ (h g c w' hBg ho2 (hb.grown hg' (by omega) (fun k hk => by have := World.ownsRow.lt hown k hk; omega)) hg'.size hg')

def numV (l : List Nat) : List Value := l.map fun n : Nat => Value.int .i64 ((n : Nat) : Int)
theorem numV_one (l : List Nat) : ∀ v ∈ numV l, v.oneCell' = true := by
  intro v hv
  simp only [numV, List.mem_map] at hv
  obtain ⟨_, _, rfl⟩ := hv
  rfl
theorem numV_length (l : List Nat) : (numV l).length = l.length := by simp [numV]
theorem numV_append (l x : List Nat) : numV (l ++ x) = numV l ++ numV x := by simp [numV]
theorem info_int : (Tryd.prog.info? 3).map (fun i => (i.zero, i.size, i.bytes)) = some (some (.int .i64 0), 1, 8) := by kernel_rfl
theorem owns_below {w w' : World} {B T sz C n : Nat} {v : Value} {l : List Value} (h : w.ownsRow B T sz v n l) (hb : Below C w w') (hC : w.heap.size ≤ C) : w'.ownsRow B T sz v n l :=
  h.kept (row := none) ⟨hb.os, hb.tape, hb.output, hb.size, fun k hk _ => hb.block k (Nat.lt_of_lt_of_le hk hC)⟩ (by
    rcases h.2 with ⟨rfl, _⟩ | ⟨g, c, cur, rfl, _⟩
    · exact .inl rfl
    · right; simp [Value.ownBlock])
theorem owns_cell {w : World} {B T n c g : Nat} {l : List Value} (h : w.ownsRow B T 1 (.slice (some ⟨g, 0, none⟩) n c) n l) {j : Nat} (hj : j < n) : w.cell? ⟨g, j, none⟩ = l[j]? := h.cellAt j (by omega)
end Go.Proofs.YtdgblimeehijpaaDoor
