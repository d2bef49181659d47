/- slices.Clone of pieces; a clone of an edge, its size, its nodes. -/
import Derived.Test.YtdbghgpohdijfaaDoorMa30
import Derived.Test.YtdbghgpohdijfaaDoorMa29
import Derived.Test.YtdbghgpohdijfaaDoorMa24
namespace Go.Proofs.YtdbghgpohdijfaaDoor
open Go.RowKit Go.Scr Go.ChangeMaps Go.MapKept
set_option linter.unusedVariables false
theorem pcs_eqN (w : World) : (binOp .eql 60 (.slice none 0 0) (.slice none 0 0)).run Tryd.prog w = .ok (.bool true) w := by kernel_rfl
theorem pcs_eqS (w : World) (g n c : Nat) : (binOp .eql 60 (.slice (some ⟨g, 0, none⟩) n c) (.slice none 0 0)).run Tryd.prog w = .ok (.bool false) w := by kernel_rfl
theorem held_nothingP (w : World) (T : TypeId) : Held (w.alloc (.cells #[] T)) T 3 (.slice (some ⟨w.heap.size, 0, none⟩) 0 0) 0 [] :=
  ⟨rfl, .inr ⟨_, 0, #[], rfl, heap_alloc_new w _, Nat.le_refl _, by decide, by simp, rfl⟩⟩
set_option maxRecDepth 100000 in
set_option maxHeartbeats 1000000 in
theorem cloneNP_any (w : World) : Calls Tryd.prog 96 #[.slice none 0 0] w fun r w' => r = .returned (.slice none 0 0) ∧ w' = w := by
  have heN := pcs_eqN
  go_enter Tryd.func96, Tryd.ntmps96
  go_wp2
  go_ret
  exact ⟨rfl, rfl⟩
set_option maxRecDepth 100000 in
set_option maxHeartbeats 1000000 in
theorem cloneSP_any {w : World} {g n c : Nat} {xs : List Value} (h : Held w 115 3 (.slice (some ⟨g, 0, none⟩) n c) n xs) (ho1 : ∀ u ∈ xs, u.oneCell' = true) (hn : n ≤ 4096) :
    Calls Tryd.prog 96 #[.slice (some ⟨g, 0, none⟩) n c] w fun r w' => ∃ v, r = .returned v ∧ Held w' 115 3 v n xs ∧ (∀ q, v.ownBlock = some q → w.heap.size ≤ q) ∧ Below w.heap.size w w' := by
  have heS := pcs_eqS
  have H : Hid (Held (w.alloc (.cells #[] 115)) 115 3 (.slice (some ⟨g, 0, none⟩) n c) n xs) := Lib.hid (h.below ((Below.refl _ _).alloc (Nat.le_refl _) _))
  have HONE : Hid (∀ u ∈ xs, u.oneCell' = true) := Lib.hid ho1
  have hl1 : (0 + n) * 32 ≤ 140737488355328 := by omega
  have hl2 : 0 + n ≤ 140737488355328 := by omega
  have HNO := Lib.hid (held_nothingP w 115)
  clear h ho1
  go_enter Tryd.func96, Tryd.ntmps96
  go_wp2_with (at_builtin; refine wpList_cat (v := .slice (some ⟨w.heap.size, 0, none⟩) 0 0) (u := .slice (some ⟨g, 0, none⟩) n c) rfl _ _ rfl Tryd.underlying60 (.agg #[.int .i64 0, .int .i64 0, .string ⟨#[]⟩]) 3 info_pc rfl (by decide) [] xs (by simp [Act.eval]) (by simp [Act.eval]) HNO.out H.out HONE.out hl1 hl2 ?_; intro v5 w5 hh hg ho; have H5 := Lib.hid hh; have HG := Lib.hid hg; have HO := Lib.hid ho; clear hh hg ho)
  go_ret
  refine ⟨v5, rfl, ?_, fun q hq => ?_, ((Below.refl _ _).alloc (Nat.le_refl _) _).grown HG.out (by simp) (fun k hk => by have := Option.some.inj (show some w.heap.size = some k from hk); omega)⟩
  · have := H5.out
    rwa [List.nil_append, Nat.zero_add] at this
  · rcases HO.out with h | h
    · rw [h] at hq
      have := Option.some.inj (show some w.heap.size = some q from hq)
      omega
    · rw [h] at hq
      have := Option.some.inj hq
      simp at this
      omega
theorem cloneP_any {w : World} {v : Value} {n : Nat} {P : List Pc} (h : Held w 115 3 v n (pcV P)) (hn : n ≤ 4096) :
    Calls Tryd.prog 96 #[v] w fun r w' => ∃ v', r = .returned v' ∧ Held w' 115 3 v' n (pcV P) ∧ (∀ q, v'.ownBlock = some q → w.heap.size ≤ q) ∧ Below w.heap.size w w' := by
  have h0 := h
  rcases h.2 with ⟨rfl, e⟩ | ⟨g, cap, cur, rfl, _⟩
  · refine (cloneNP_any w).mono ?_
    rintro r w' ⟨rfl, rfl⟩
    exact ⟨_, rfl, h0, (fun q hq => by cases hq), Below.refl _ _⟩
  · exact cloneSP_any h (pcV_oneCell P) hn
set_option maxRecDepth 100000 in
theorem fsize_any {w1 w : World} {eb : Nat} {L : List ByteArray} (H : EdU w1 w eb L) : Calls Tryd.prog 46 #[.pointer (some ⟨eb, 0, none⟩)] w fun o w' => o = .returned (.int .i64 (L.length : Int)) ∧ w' = w := by
  obtain ⟨v, h⟩ := H
  obtain ⟨n, hn⟩ : ∃ n, n = L.length := ⟨_, rfl⟩
  have hfr := h.fr
  rw [← hn] at hfr ⊢
  have c1 : w.cell? ⟨eb, 1, none⟩ = some (.int .i64 (n : Int)) := cellB hfr.box rfl
  clear h hfr hn
  go_enter Tryd.func46, Tryd.ntmps46
  go_wp2
  go_ret
  exact ⟨rfl, rfl⟩
end Go.Proofs.YtdbghgpohdijfaaDoor
/- Pieces whose hashes are laid in. -/
namespace Go.Proofs.YtdbghgpohdijfaaDoor
open Go.RowKit Go.Scr Go.ChangeMaps Go.MapKept
set_option linter.unusedVariables false
theorem pcV_set {K : List Pc} : ∀ {j : Nat} {x : Pc} {s : ByteArray}, K[j]? = some x → pcV (K.set j (x.1, x.2.1, s)) = (pcV K).set (j * 3 + 2) (.string s) := by
  induction K with
  | nil => intro j x s h; simp at h
  | cons a K ih =>
    intro j x s h
    cases j with
    | zero =>
      simp at h
      subst h
      rw [List.set_cons_zero, pcV_cons, pcV_cons]
      rfl
    | succ j =>
      rw [List.set_cons_succ, pcV_cons, ih (by simpa using h), pcV_cons, show (j + 1) * 3 + 2 = (j * 3 + 2) + 3 by omega]
      rfl
theorem Held.setN {w : World} {T sz n : Nat} {v : Value} {xs : List Value} (h : Held w T sz v n xs) {g : Nat} (hg : v.ownBlock = some g) (k : Nat) (u : Value) : Held (w.setCell ⟨g, k, none⟩ u) T sz v n (xs.set k u) := by
  refine ⟨by rw [List.length_set]; exact h.1, ?_⟩
  rcases h.2 with ⟨rfl, _⟩ | ⟨g', cap, cur, rfl, hg', h1, h2, h3, h4⟩
  · cases hg
  · cases hg
    refine .inr ⟨g', cap, cur.setIfInBounds k u, rfl, blk_set hg' k u, h1, h2, by rw [Array.size_setIfInBounds]; exact h3, ?_⟩
    rw [← h4]
    simp [List.take_set]
/-- an own list of pieces, above w -/
structure PcI (w wr : World) (v : Value) (P : List Pc) : Prop where
  b : Below w.heap.size w wr
  h : Held wr 115 3 v P.length (pcV P)
  o : ∀ g, v.ownBlock = some g → w.heap.size ≤ g
theorem PcI.below {w wr w' : World} {v : Value} {P : List Pc} (H : PcI w wr v P) (hb : Below wr.heap.size wr w') : PcI w w' v P :=
  ⟨H.b.trans (hb.mono H.b.size), H.h.below hb, H.o⟩
theorem PcI.push {w wr w2 w' : World} {v v' : Value} {n : Nat} {P : List Pc} {x : Pc} (H : PcI w wr v P) (hn : n = P.length) (hb : Below wr.heap.size wr w2) (g : Grew 115 3 w2 v n 1 (pcV P) [.int .i64 (x.1 : Int), .int .i64 (x.2.1 : Int), .string x.2.2] v' w') : PcI w w' v' (P ++ [x]) := by
  subst hn
  have H2 := H.below hb
  have hgr := g.grown
  refine ⟨⟨hgr.os.trans H2.b.os, hgr.tape.trans H2.b.tape, hgr.output.trans H2.b.output, Nat.le_trans H2.b.size hgr.size, fun i hi => (hgr.block i (Nat.lt_of_lt_of_le hi H2.b.size) (fun e => by have := H.o i e.symm; omega)).trans (H2.b.block i hi)⟩, ?_, fun q hq => ?_⟩
  · rw [pcV_append, pcV_one, List.length_append]
    exact g.held
  · rcases g.at with ⟨e, _⟩ | ⟨e, _⟩
    · exact H.o q (by rw [← e]; exact hq)
    · rw [hq] at e
      have h1 := Option.some.inj e
      have h2 := H2.b.size
      omega
theorem PcI.set {w wr : World} {v : Value} {P : List Pc} {g j : Nat} {x : Pc} {s : ByteArray} (H : PcI w wr v P) (hg : v.ownBlock = some g) (hx : P[j]? = some x) : PcI w (wr.setCell ⟨g, j * 3 + 2, none⟩ (.string s)) v (P.set j (x.1, x.2.1, s)) := by
  refine ⟨H.b.setCell (p := ⟨g, j * 3 + 2, none⟩) (H.o g hg) _, ?_, H.o⟩
  rw [List.length_set, pcV_set hx]
  exact Held.setN H.h hg _ _
end Go.Proofs.YtdbghgpohdijfaaDoor
