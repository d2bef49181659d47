/- Laws for walks through regions that draw their order: loads of whole arrays. -/
import Derived.Test.YtafookdllnhdaaaDoorMa0
import Derived.Test.YtafookdllnhdaaaDoorRows
import Derived.WalkKit
import Derived.WalkSpells
import Derived.WalkLawsBesides
import Derived.Lib.Hide
import Derived.OwnWalk
import Derived.Deep.RegionLaw
import Derived.Deep.RegionLawGrows
namespace Go.Proofs.YtafookdllnhdaaaDoor
open Go.RowKit
set_option linter.unusedVariables false

theorem row_lt {α : Type} {a : Array α} {i : Nat} {x : α} (h : a[i]? = some x) : i < a.size := (Array.getElem?_eq_some_iff.mp h).elim fun h _ => h

theorem still_load_row {P : Program} {ops : Array Oper} {w : World} {Q : Act → Prop} {a : Act} {o : Oper} {rest : List Oper} (hw : Region.wanted o (yielded ops a.tmps) = true)
    (ty : TypeId) (x : Operand) (ho : o.op = .load ty x) (g : Nat) (hx : a.eval x = .pointer (some ⟨g, 0, none⟩)) (t : TypeId) (cs : Array Value) (fr : Nat × Nat) (d : TypeDesc) (hg : w.heap[g]? = some (.cells cs t fr))
    (hu : P.underlying ty = some d) (hd : (match d with | .struct _ | .array _ _ => true | _ => false) = true) (hi : (P.info? ty).map (·.size) = some cs.size)
    (h : wpStill P ops w Q rest (a.put o.dst (.agg cs))) : wpStill P ops w Q (o :: rest) a := by
  unfold wpStill
  rw [if_pos hw]
  unfold Oper.still Oper.stillUpon execOp
  simp only [ho, hx, Instr.loadAt, Instr.sureAddr, Sem.run_bind, Sem.run_pure, Result.andThen_ok, run_loadVar_row w g t ty cs fr d hg hu hd hi]
  exact ⟨trivial, h⟩
end Go.Proofs.YtafookdllnhdaaaDoor
/- The digest's own functions, walked: words turned; one block; a hasher's calls. -/
namespace Go.Proofs.YtafookdllnhdaaaDoor
open Go.RowKit Go.Scr
set_option linter.unusedVariables false

set_option maxHeartbeats 400000 in
theorem rot_any (x n : Nat) (hx : x < 4294967296) (hn : 1 ≤ n) (hn' : n ≤ 31) (w : World) :
    Calls Tryd.prog 97 #[.int .u32 x, .int .i64 (-(n : Int))] w fun e w' => e = .returned (.int .u32 (ror x n : Nat)) ∧ w = w' := by
  have hc := rot_count n hn hn'
  have HR := Lib.hid (rot_word x n hx hn hn')
  go_enter Tryd.func97, Tryd.ntmps97
  go_wp2
  go_ret
  exact ⟨ret_int HR.out, rfl⟩
set_option maxHeartbeats 400000 in
theorem turned_any (x : Nat) (n : Int) (hx : x < 4294967296) (hn : 1 ≤ n) (hn' : n ≤ 31) (w : World) :
    Calls Tryd.prog 94 #[.int .u32 x, .int .i64 n] w fun e w' => e = .returned (.int .u32 (ror x n.toNat : Nat)) ∧ w' = w := by
  obtain ⟨m, rfl⟩ := Int.eq_ofNat_of_zero_le (show 0 ≤ n by omega)
  go_enter Tryd.func94, Tryd.ntmps94
  go_wp2_with (go_at_call 97; refine (rot_any x m hx (by omega) (by omega) _).mono ?_; rintro e w' ⟨rfl, rfl⟩)
  go_ret
  exact ⟨rfl, rfl⟩
end Go.Proofs.YtafookdllnhdaaaDoor
/- Rows that the call owns, of elements of any kind: one append as an arm of a walk. -/
namespace Go.Proofs.YtafookdllnhdaaaDoor
open Go.RowKit Go.Scr
set_option linter.unusedVariables false

theorem wpList_appendV {P : Program} {ops : Array Oper} {rest : List Oper} {o : Oper} {a : Act} {Q : Exit → Act → World → Prop} {W : World} {cs : Array Value} {T S : TypeId} (hgd : o.guard = none) (s x : Operand)
    (ho : o.op = .call { callee := .builtin .append, args := #[s, x], argTypes := #[S, S] }) (hu : P.underlying S = some (.slice T)) (z : Value) (sz : Nat) {byt : Nat} (hi : (P.info? T).map (fun i => (i.zero, i.size, i.bytes)) = some (some z, sz, byt))
    (hzs : z.cells.size = sz) (hsz : 0 < sz) {B : Nat} {v : Value} {n0 : Nat} {l : List Value} (xs : List Value) (m N : Nat) (hs : a.eval s = v) (hx : a.eval x = .slice (some ⟨W.heap.size, 0, none⟩) m m) (hown : W.ownsRow B T sz v n0 l) (hcs : cs = xs.toArray) (hm : xs.length = m * sz)
    (hone : ∀ u ∈ xs, u.oneCell' = true) {C : Nat} {w0 : World} (hb : Below C w0 W) (hCB : C ≤ B) (hB : B ≤ W.heap.size) (hN : N = n0 + m) (hpos : 0 < N) (hl : N * byt ≤ 140737488355328) (hl2 : N ≤ 140737488355328)
    (h : ∀ (g c : Nat) w', B ≤ g → w'.ownsRow B T sz (.slice (some ⟨g, 0, none⟩) N c) N (l ++ xs) → Below C w0 w' → W.heap.size ≤ w'.heap.size → W.grownBy w' v.ownBlock → wpList P ops Q rest (a.put o.dst (.slice (some ⟨g, 0, none⟩) N c)) w') :
    wpList P ops Q (o :: rest) a (W.alloc (.cells cs T)) := by
  subst hcs hN
  obtain ⟨i, hi0, hz, hsi, hbi⟩ := info_parts hi
  obtain ⟨v', w', hrun, ho2, hg, _⟩ := run_append_own (P := P) (W.alloc (.cells xs.toArray T)) B S o.type T i z sz byt hu hi0 hz hsi hbi hzs hsz v n0 l (World.ownsRow.alloc hown _) ⟨W.heap.size, 0, none⟩ m m xs hm
    (fun j u hj => by
      have hadd : (⟨W.heap.size, 0, none⟩ : Addr).add j = ⟨W.heap.size, j, none⟩ := by unfold Addr.add; split <;> simp_all
      rw [hadd, World.cell?_alloc_at _ _ _ _ rfl]; simpa using hj) hone (by simp only [maxLen]; omega) hl (by simp; omega)
  have hg' : W.grownBy w' v.ownBlock := ⟨hg.os, hg.tape, hg.output, Nat.le_trans (by simp) hg.size, fun k hk hne => (hg.block k (by simp; omega) hne).trans (Below.heap_alloc _ _ _ hk)⟩
  rcases ho2.2 with ⟨_, h0⟩ | ⟨g, c, cur, rfl, hBg, _⟩
  · omega
  refine wpList_plain hgd fun _ hK => ?_
  unfold Oper.wp execOp
  simp only [ho, resolve, invoke, builtin, Sem.run_bind, Sem.run_pure, Result.andThen_ok, List.map_toArray, List.map_cons, List.map_nil, hs, hx, hrun]
  exact hK _ _ (h g c w' hBg ho2 (hb.grown hg' (by omega) (fun k hk => by have := World.ownsRow.lt hown k hk; omega)) hg'.size hg')

/-- the same where the room is there: it stays in its block -/
theorem wpList_fitsV {P : Program} {ops : Array Oper} {rest : List Oper} {o : Oper} {a : Act} {Q : Exit → Act → World → Prop} {W : World} {cs : Array Value} {T S : TypeId} (hgd : o.guard = none) (s x : Operand)
    (ho : o.op = .call { callee := .builtin .append, args := #[s, x], argTypes := #[S, S] }) (hu : P.underlying S = some (.slice T)) (z : Value) (sz : Nat) {byt : Nat} (hi : (P.info? T).map (fun i => (i.zero, i.size, i.bytes)) = some (some z, sz, byt))
    {B g n0 cap : Nat} {l : List Value} (xs : List Value) (m N : Nat) (hs : a.eval s = .slice (some ⟨g, 0, none⟩) n0 cap) (hx : a.eval x = .slice (some ⟨W.heap.size, 0, none⟩) m m) (hown : W.ownsRow B T sz (.slice (some ⟨g, 0, none⟩) n0 cap) n0 l) (hcs : cs = xs.toArray) (hm : xs.length = m * sz)
    (hone : ∀ u ∈ xs, u.oneCell' = true) (hN : N = n0 + m) (hfit : N ≤ cap)
    (h : ∀ w', w'.ownsRow B T sz (.slice (some ⟨g, 0, none⟩) N cap) N (l ++ xs) → W.grownBy w' (some g) → wpList P ops Q rest (a.put o.dst (.slice (some ⟨g, 0, none⟩) N cap)) w') :
    wpList P ops Q (o :: rest) a (W.alloc (.cells cs T)) := by
  subst hcs hN
  obtain ⟨i, hi0, hz, hsi, hbi⟩ := info_parts hi
  refine wpList_append_fits _ hgd s x S ho B T i sz hu hi0 hsi g n0 cap l hs (World.ownsRow.alloc hown _) ⟨W.heap.size, 0, none⟩ m m xs hx hm (fun j u hj => by
      have hadd : (⟨W.heap.size, 0, none⟩ : Addr).add j = ⟨W.heap.size, j, none⟩ := by unfold Addr.add; split <;> simp_all
      rw [hadd, World.cell?_alloc_at _ _ _ _ rfl]; simpa using hj) hone hfit (fun w' h1 h2 => h w' h1 ?_)
  exact ⟨h2.os, h2.tape, h2.output, Nat.le_trans (by simp) h2.size, fun k hk hne => (h2.block k (by simp; omega) hne).trans (Below.heap_alloc _ _ _ hk)⟩

/-- the same as one step of a region that draws its order -/
theorem step_fitsV {P : Program} {ops : Array Oper} {o : Oper} {a : Act} {w : World} {K : Act → World → Prop} {Q : Exit → Act → World → Prop} {E : Prop} {T S : TypeId}
    (hg : o.guard = none) (s x : Operand) (hop : o.op = Op.call { callee := Callee.builtin Builtin.append, args := #[s, x], argTypes := #[S, S] })
    (hu : P.underlying S = some (.slice T)) (z : Value) (sz : Nat) {byt : Nat} (hi : (P.info? T).map (fun i => (i.zero, i.size, i.bytes)) = some (some z, sz, byt))
    {B g n0 cap c : Nat} {l : List Value} (xs : List Value) (m N : Nat) (ad : Addr) (hs : a.eval s = .slice (some ⟨g, 0, none⟩) n0 cap) (hx : a.eval x = .slice (some ad) m c)
    (hown : w.ownsRow B T sz (.slice (some ⟨g, 0, none⟩) n0 cap) n0 l) (hm : xs.length = m * sz) (hc : ∀ j u, xs[j]? = some u → w.cell? (ad.add j) = some u) (hone : ∀ u ∈ xs, u.oneCell' = true) (hN : N = n0 + m) (hfit : N ≤ cap)
    (hK : ∀ w', w'.ownsRow B T sz (.slice (some ⟨g, 0, none⟩) N cap) N (l ++ xs) → w.grownBy w' (some g) → K (a.put o.dst (.slice (some ⟨g, 0, none⟩) N cap)) w') :
    if Region.wanted o (yielded ops a.tmps) = true then Oper.wp P o a w K Q else E := by
  have hw : Region.wanted o (yielded ops a.tmps) = true := by simp [Region.wanted, hg]
  rw [if_pos hw]
  subst hN
  obtain ⟨i, hi0, hz, hsi, hbi⟩ := info_parts hi
  obtain ⟨w', hrun, r1, r2⟩ := run_append_fits (P := P) w B S o.type T i sz hu hi0 hsi g n0 cap l hown ad m c xs hm hc hone hfit
  unfold Oper.wp
  simp [execOp, hop, resolve, invoke, builtin, hs, hx, hrun, Result.andThen]
  exact hK w' r1 r2
theorem cells_alloc {w : World} {T : TypeId} {xs : List Value} : ∀ j u, xs[j]? = some u → (w.alloc (.cells xs.toArray T)).cell? ((⟨w.heap.size, 0, none⟩ : Addr).add j) = some u := fun j u hj => by
  have hadd : (⟨w.heap.size, 0, none⟩ : Addr).add j = ⟨w.heap.size, j, none⟩ := by unfold Addr.add; split <;> simp_all
  rw [hadd, World.cell?_alloc_at _ _ _ _ rfl]; simpa using hj

def numV (l : List Nat) : List Value := l.map fun n : Nat => Value.int .i64 ((n : Nat) : Int)
theorem numV_one (l : List Nat) : ∀ v ∈ numV l, v.oneCell' = true := by
  intro v hv
  simp only [numV, List.mem_map] at hv
  obtain ⟨_, _, rfl⟩ := hv
  rfl
theorem numV_length (l : List Nat) : (numV l).length = l.length := by simp [numV]
theorem numV_append (l x : List Nat) : numV (l ++ x) = numV l ++ numV x := by simp [numV]
theorem info_int : (Tryd.prog.info? 3).map (fun i => (i.zero, i.size, i.bytes)) = some (some (.int .i64 0), 1, 8) := by kernel_rfl
theorem owns_below {w w' : World} {B T sz C n : Nat} {v : Value} {l : List Value} (h : w.ownsRow B T sz v n l) (hb : Below C w w') (hC : w.heap.size ≤ C) : w'.ownsRow B T sz v n l :=
  h.kept (row := none) ⟨hb.os, hb.tape, hb.output, hb.size, fun k hk _ => hb.block k (Nat.lt_of_lt_of_le hk hC)⟩ (by
    rcases h.2 with ⟨rfl, _⟩ | ⟨g, c, cur, rfl, _⟩
    · exact .inl rfl
    · right; simp [Value.ownBlock])
theorem owns_cell {w : World} {B T n c g : Nat} {l : List Value} (h : w.ownsRow B T 1 (.slice (some ⟨g, 0, none⟩) n c) n l) {j : Nat} (hj : j < n) : w.cell? ⟨g, j, none⟩ = l[j]? := h.cellAt j (by omega)
end Go.Proofs.YtafookdllnhdaaaDoor
