/- Is a node a complete subtree that is there? Its hash. -/
import Derived.Test.YtblacbfkaamdgaaDoorMa25
import Derived.Test.YtblacbfkaamdgaaDoorMa21
namespace Go.Proofs.YtblacbfkaamdgaaDoor
open Go.RowKit Go.Scr Go.ChangeMaps Go.MapKept
set_option linter.unusedVariables false
theorem cL_high {n l : Nat} (h : ¬ l < Lib.bitLen n) (hn : n ≤ 1048576) : cL n l = 0 := by
  unfold cL
  rcases Nat.eq_zero_or_pos n with e | e
  · rw [e]; simp
  · obtain ⟨k, q1, q2, q3⟩ := bitLen_spec n (by omega) (by omega)
    have : 2 ^ (k + 1) ≤ 2 ^ l := Nat.pow_le_pow_right (by decide) (by omega)
    exact Nat.div_eq_of_lt (by omega)
set_option maxRecDepth 100000 in
set_option maxHeartbeats 4000000 in
theorem complete_any {w : World} {tb h n l i : Nat} {c : Nat → Nat} {val : Nat → Nat → ByteArray} {col : Col} (t : TreeI w tb h n c val col) (hn : n ≤ 1048576) (hl : l ≤ 63) (hi40 : i ≤ 1099511627776) :
    Calls Tryd.prog 50 #[bpT tb, .agg #[.int .i64 (l : Int), .int .i64 (i : Int)]] w fun o w' => o = .returned (.bool (decide (i < cL n l))) ∧ Below w.heap.size w w' := by
  obtain ⟨mv, hb⟩ := t.box
  have h0 : (0 : Int) ≤ (l : Int) := by omega
  have h1 : (0 : Int) ≤ (i : Int) := by omega
  obtain ⟨w2, hw2⟩ : ∃ y, y = w.alloc (.cells #[.int .i64 (l : Int), .int .i64 (i : Int)] 31) := ⟨_, rfl⟩
  have HBE : Hid (Below w.heap.size w w2) := Lib.hid (by rw [hw2]; exact (Below.refl _ _).alloc (Nat.le_refl _) _)
  obtain ⟨sb, hsb⟩ : ∃ y, y = w.heap.size := ⟨_, rfl⟩
  have hbx : w2.heap[sb]? = some (.cells #[.int .i64 (l : Int), .int .i64 (i : Int)] 31 (0, 0)) := by rw [hw2, hsb]; exact heap_alloc_new w _
  have HSZ := Lib.hid hsb
  have HW2 := Lib.hid hw2
  have HS : Hid (∀ k, (w2.drewN k).cell? ⟨sb, 0, none⟩ = some (.int .i64 (l : Int)) ∧ (w2.drewN k).cell? ⟨sb, 1, none⟩ = some (.int .i64 (i : Int)) ∧ (w2.drewN k).cell? ⟨tb, 1, none⟩ = some (.int .i64 (n : Int))) := Lib.hid (fun k => ⟨cellB hbx rfl, cellB hbx rfl, by rw [hw2]; exact cellB (w := (w.alloc _).drewN k) (blk_alloc hb) rfl⟩)
  have c0 : w2.cell? ⟨sb, 0, none⟩ = some (.int .i64 (l : Int)) := (HS.out 0).1
  have c1 : w2.cell? ⟨sb, 1, none⟩ = some (.int .i64 (i : Int)) := (HS.out 0).2.1
  have c2 : w2.cell? ⟨tb, 1, none⟩ = some (.int .i64 (n : Int)) := (HS.out 0).2.2
  obtain ⟨b, hbl⟩ : ∃ b, b = Lib.bitLen n := ⟨_, rfl⟩
  have hb64 : b ≤ 64 := by rw [hbl]; exact Lib.bitLen_le n 64 (by omega) (by omega)
  have CL : Hid (∀ w3, Calls Tryd.prog 62 #[.int .u64 (n : Int)] w3 fun o w' => o = .returned (.int .i64 (b : Int)) ∧ w' = w3) := Lib.hid (fun w3 => by rw [hbl]; exact len_any n w3 (by omega))
  obtain ⟨p, hp⟩ : ∃ p, p = 2 ^ l := ⟨_, rfl⟩
  have hpI : (2 : Int) ^ l = (p : Int) := by rw [hp]; simp
  obtain ⟨q, hq⟩ : ∃ q, q = n / p := ⟨_, rfl⟩
  have hqI : (n : Int) / (p : Int) = (q : Int) := by rw [hq]; simp
  have hqn : q ≤ n := by rw [hq]; exact Nat.div_le_self _ _
  have hcl : cL n l = q := by unfold cL; rw [hq, hp]
  have HCL : Hid (cL n l = q ∧ (¬ l < b → q = 0)) := Lib.hid ⟨hcl, fun h => by rw [← hcl]; exact cL_high (by rw [← hbl]; exact h) hn⟩
  rw [hcl]
  clear t hb hbx hsb hw2 hbl hp hq hcl
  by_cases hlb : l < b
  · have hlbI : (l : Int) < (b : Int) := by omega
    clear hlb
    go_enter Tryd.func50, Tryd.ntmps50
    go_upto_region 1 with fail
    rw [← HW2.out, ← HSZ.out]
    go_quiet ((go_at_call 62; exact Calls.quiet_of_same (CL.out _)))
    go_wp2
    go_ret
    exact ⟨by simp, below_drewN HBE.out _⟩
  · have hlbI : ¬ (l : Int) < (b : Int) := by omega
    have hq0 := HCL.out.2 hlb
    rw [hq0]
    clear hlb hq0
    go_enter Tryd.func50, Tryd.ntmps50
    go_upto_region 1 with fail
    rw [← HW2.out, ← HSZ.out]
    go_quiet ((go_at_call 62; exact Calls.quiet_of_same (CL.out _)))
    go_wp2
    go_ret
    exact ⟨by simp, below_drewN HBE.out _⟩
def hashT (n : Nat) (val : Nat → Nat → ByteArray) (l i : Nat) : Value := if i < cL n l then .tuple #[.string (val l i), .int .i64 0] else .tuple #[.string ⟨#[]⟩, .int .i64 72]
set_option maxRecDepth 100000 in
set_option maxHeartbeats 4000000 in
theorem hash_at {w : World} {tb h n l i : Nat} {val : Nat → Nat → ByteArray} {col : Col} (t : TreeI w tb h n (cL n) val col) (hn : n ≤ 1048576) (hl : l ≤ 63) (hi40 : i ≤ 1099511627776) :
    Calls Tryd.prog 13 #[bpT tb, .agg #[.int .i64 (l : Int), .int .i64 (i : Int)]] w fun o w' => o = .returned (hashT n val l i) ∧ Below w.heap.size w w' := by
  obtain ⟨b, hb0⟩ : ∃ b, b = decide (i < cL n l) := ⟨_, rfl⟩
  have CC : Hid (∀ w3, Below w.heap.size w w3 → Calls Tryd.prog 50 #[bpT tb, .agg #[.int .i64 (l : Int), .int .i64 (i : Int)]] w3 fun o w' => o = .returned (.bool b) ∧ Below w3.heap.size w3 w') := Lib.hid (fun w3 hb3 => by rw [hb0]; exact complete_any (t.below hb3) hn hl hi40)
  obtain ⟨w2, hw2⟩ : ∃ y, y = w.alloc (.cells #[.int .i64 (l : Int), .int .i64 (i : Int)] 31) := ⟨_, rfl⟩
  have HBE : Hid (Below w.heap.size w w2) := Lib.hid (by rw [hw2]; exact (Below.refl _ _).alloc (Nat.le_refl _) _)
  obtain ⟨sb, hsb⟩ : ∃ y, y = w.heap.size := ⟨_, rfl⟩
  have hbx : w2.heap[sb]? = some (.cells #[.int .i64 (l : Int), .int .i64 (i : Int)] 31 (0, 0)) := by rw [hw2, hsb]; exact heap_alloc_new w _
  have HSZ := Lib.hid hsb
  have HW2 := Lib.hid hw2
  have HSB := Lib.hid hbx
  have c0 : w2.cell? ⟨sb, 0, none⟩ = some (.int .i64 (l : Int)) := cellB hbx rfl
  have c1 : w2.cell? ⟨sb, 1, none⟩ = some (.int .i64 (i : Int)) := cellB hbx rfl
  by_cases hlt : i < cL n l
  · obtain rfl : b = true := by rw [hb0]; simp [hlt]
    have CN : Hid (∀ w3, Below w.heap.size w w3 → Calls Tryd.prog 51 #[bpT tb, .agg #[.int .i64 (l : Int), .int .i64 (i : Int)]] w3 fun o w' => o = .returned (.string (val l i)) ∧ Below w3.heap.size w3 w') := Lib.hid (fun w3 hb3 => node_at (t.below hb3) (by omega) hi40 hlt)
    have HR : Hid (hashT n val l i = .tuple #[.string (val l i), .int .i64 0]) := Lib.hid (if_pos hlt)
    rw [HR.out]
    clear t hbx hsb hw2 hlt hb0
    go_enter Tryd.func13, Tryd.ntmps13
    go_upto_region 1 with fail
    rw [← HW2.out, ← HSZ.out]
    go_wp2_with (first
      | (go_at_call 50; refine (CC.out _ HBE.out).mono ?_; rintro o w3 ⟨rfl, hb3⟩; have HB3 : Hid (Below w.heap.size w w3) := Lib.hid (HBE.out.trans (hb3.mono HBE.out.size)); have k0 : w3.cell? ⟨sb, 0, none⟩ = some (.int .i64 (l : Int)) := cellB (blk_below HSB.out hb3 (blk_lt HSB.out)) rfl; have k1 : w3.cell? ⟨sb, 1, none⟩ = some (.int .i64 (i : Int)) := cellB (blk_below HSB.out hb3 (blk_lt HSB.out)) rfl; clear hb3 c0 c1)
      | (go_at_call 51; refine (CN.out _ HB3.out).mono ?_; rintro o w4 ⟨rfl, hb4⟩; have HB4 : Hid (Below w.heap.size w w4) := Lib.hid (HB3.out.trans (hb4.mono HB3.out.size)); clear hb4))
    go_ret2
    exact ⟨rfl, HB4.out⟩
  · obtain rfl : b = false := by rw [hb0]; simp [hlt]
    have HR : Hid (hashT n val l i = .tuple #[.string ⟨#[]⟩, .int .i64 72]) := Lib.hid (if_neg hlt)
    rw [HR.out]
    clear t hbx hsb hw2 hlt hb0
    go_enter Tryd.func13, Tryd.ntmps13
    go_upto_region 1 with fail
    rw [← HW2.out, ← HSZ.out]
    go_wp2_with (go_at_call 50; refine (CC.out _ HBE.out).mono ?_; rintro o w3 ⟨rfl, hb3⟩; have HB3 : Hid (Below w.heap.size w w3) := Lib.hid (HBE.out.trans (hb3.mono HBE.out.size)); clear hb3 c0 c1)
    go_ret2
    exact ⟨rfl, HB3.out⟩
end Go.Proofs.YtblacbfkaamdgaaDoor
/- slices.Clone of texts. -/
namespace Go.Proofs.YtblacbfkaamdgaaDoor
open Go.RowKit Go.Scr
set_option linter.unusedVariables false
theorem texts_eqN (w : World) : (binOp .eql 33 (.slice none 0 0) (.slice none 0 0)).run Tryd.prog w = .ok (.bool true) w := by kernel_rfl
theorem texts_eqS (w : World) (g n c : Nat) : (binOp .eql 33 (.slice (some ⟨g, 0, none⟩) n c) (.slice none 0 0)).run Tryd.prog w = .ok (.bool false) w := by kernel_rfl
theorem wpList_cat {P : Program} {ops : Array Oper} {rest : List Oper} {o : Oper} {a : Act} {Q : Exit → Act → World → Prop} {w : World} {T S : TypeId}
    (hg : o.guard = none) (s x : Operand) (hop : o.op = Op.call { callee := Callee.builtin Builtin.append, args := #[s, x], argTypes := #[S, S] })
    (hu : P.underlying S = some (.slice T)) (z : Value) (sz : Nat) {byt : Nat} (hi : (P.info? T).map (fun i => (i.zero, i.size, i.bytes)) = some (some z, sz, byt)) (hzs : z.cells.size = sz) (hsz : 0 < sz)
    {v u : Value} {n m : Nat} (l xs : List Value) (hs : a.eval s = v) (hx : a.eval x = u) (hown : Held w T sz v n l) (hsrc : Held w T sz u m xs) (hone : ∀ u ∈ xs, u.oneCell' = true) (hl : (n + m) * byt ≤ 140737488355328) (hl2 : n + m ≤ 140737488355328)
    (hK : ∀ v' w', Held w' T sz v' (n + m) (l ++ xs) → w.grownBy w' v.ownBlock → (v'.ownBlock = v.ownBlock ∨ v'.ownBlock = some w.heap.size) → wpList P ops Q rest (a.put o.dst v') w') : wpList P ops Q (o :: rest) a w := by
  refine wpList_plain hg fun K hKK => ?_
  obtain ⟨i, hi0, hz, hsi, hbi⟩ := info_parts hi
  obtain ⟨v', w', hrun, r1, r2, r3⟩ := run_cat (P := P) w S o.type T i z sz byt hu hi0 hz hsi hbi hzs hsz v u n m l xs hown hsrc hone (by simp only [maxLen]; omega) hl
  unfold Oper.wp
  simp [execOp, hop, resolve, invoke, builtin, hs, hx, hrun, Result.andThen]
  exact hKK _ _ (hK v' w' r1 r2 r3)
theorem held_nothing (w : World) (T : TypeId) : Held (w.alloc (.cells #[] T)) T 1 (.slice (some ⟨w.heap.size, 0, none⟩) 0 0) 0 [] :=
  ⟨rfl, .inr ⟨_, 0, #[], rfl, heap_alloc_new w _, Nat.le_refl _, by decide, by simp, rfl⟩⟩
set_option maxRecDepth 100000 in
set_option maxHeartbeats 1000000 in
theorem clone_any {w : World} {g n c : Nat} {L : List ByteArray} (h : Held w 9 1 (.slice (some ⟨g, 0, none⟩) n c) n (L.map Value.string)) (hn : n ≤ 4096) :
    Calls Tryd.prog 53 #[.slice (some ⟨g, 0, none⟩) n c] w fun r w' => ∃ v, r = .returned v ∧ Held w' 9 1 v n (L.map Value.string) ∧ (∀ q, v.ownBlock = some q → w.heap.size ≤ q) ∧ Below w.heap.size w w' := by
  have heS := texts_eqS
  have H : Hid (Held (w.alloc (.cells #[] 9)) 9 1 (.slice (some ⟨g, 0, none⟩) n c) n (L.map Value.string)) := Lib.hid (h.below ((Below.refl _ _).alloc (Nat.le_refl _) _))
  have HONE : Hid (∀ u ∈ L.map Value.string, u.oneCell' = true) := Lib.hid (fun u hu => by obtain ⟨s, _, rfl⟩ := List.mem_map.1 hu; rfl)
  have hl1 : (0 + n) * 16 ≤ 140737488355328 := by omega
  have hl2 : 0 + n ≤ 140737488355328 := by omega
  have HNO := Lib.hid (held_nothing w 9)
  clear h
  go_enter Tryd.func53, Tryd.ntmps53
  go_wp2_with (at_builtin; refine wpList_cat (v := .slice (some ⟨w.heap.size, 0, none⟩) 0 0) (u := .slice (some ⟨g, 0, none⟩) n c) rfl _ _ rfl Tryd.underlying33 (.string ⟨#[]⟩) 1 info_strT rfl (by decide) [] (L.map Value.string) (by simp [Act.eval]) (by simp [Act.eval]) HNO.out H.out HONE.out hl1 hl2 ?_; intro v5 w5 hh hg ho; have H5 := Lib.hid hh; have HG := Lib.hid hg; have HO := Lib.hid ho; clear hh hg ho)
  go_ret
  refine ⟨v5, rfl, ?_, fun q hq => ?_, ((Below.refl _ _).alloc (Nat.le_refl _) _).grown HG.out (by simp) (fun k hk => by have := Option.some.inj (show some w.heap.size = some k from hk); omega)⟩
  · have := H5.out
    rwa [List.nil_append, Nat.zero_add] at this
  · rcases HO.out with h | h
    · rw [h] at hq
      have := Option.some.inj (show some w.heap.size = some q from hq)
      omega
    · rw [h] at hq
      have := Option.some.inj hq
      simp at this
      omega
end Go.Proofs.YtblacbfkaamdgaaDoor
/- The hashes that a tile has. -/
namespace Go.Proofs.YtblacbfkaamdgaaDoor
open Go.RowKit Go.Scr Go.ChangeMaps Go.MapKept
set_option linter.unusedVariables false
theorem cnt_pos {c : Nat → Nat} {h lv ix : Nat} (he : exT c h lv ix) : 0 < cntT c h lv ix 0 ∧ cntT c h lv ix 0 ≤ 2 ^ h := by
  unfold exT at he
  unfold cntT
  rw [Nat.sub_zero, Nat.add_zero]
  exact ⟨Nat.lt_min.2 ⟨two_pos h, by omega⟩, Nat.min_le_left _ _⟩
set_option maxRecDepth 100000 in
set_option maxHeartbeats 2000000 in
theorem tile_yes {w : World} {tb h n lv ix : Nat} {c : Nat → Nat} {val : Nat → Nat → ByteArray} {col : Col} (t : TreeI w tb h n c val col) (he : exT c h lv ix) :
    Calls Tryd.prog 15 #[bpT tb, .int .i64 (lv : Int), .int .i64 (ix : Int)] w fun o w' => ∃ v, o = .returned (.tuple #[v, .int .i64 0]) ∧ Held w' 9 1 v (cntT c h lv ix 0) ((rowT c val h lv ix 0).map Value.string) ∧ (∀ q, v.ownBlock = some q → w.heap.size ≤ q) ∧ Below w.heap.size w w' := by
  obtain ⟨r, ex, G, V, es, clk, t, hex⟩ := t
  have he2 := (hex lv ix).2 he
  have hc2 : w.cell? ⟨tb, 2, none⟩ = some (.map (some r)) := cellB t.box rfl
  have hlk : (Instr.lookup 85 (.map (some r)) (.agg #[.int .i64 (lv : Int), .int .i64 (ix : Int)]) false).run Tryd.prog w = .ok (.slice (some ⟨G lv ix, 0, none⟩) h h) w := t.look he2
  have hh0 : 0 < h := by have := t.hh; omega
  obtain ⟨q1, q2⟩ := t.out lv ix he2
  obtain ⟨q3, q4⟩ := t.inn lv ix 0 he2 hh0
  have hpos := cnt_pos he
  have h256 : 2 ^ h ≤ 2 ^ 8 := Nat.pow_le_pow_right (by decide) t.hh.2
  obtain ⟨g, cap, cur, e, _, _, _, _⟩ := q3.block hpos.1
  have hg0 : w.cell? ⟨G lv ix, 0, none⟩ = some (V lv ix 0) := cellB q1 (by simp [hh0])
  rw [e] at hg0 q3
  have CC := Lib.hid (clone_any q3 (by omega))
  have heS := rows_eqS
  obtain ⟨gq, hgq⟩ : ∃ x, x = G lv ix := ⟨_, rfl⟩
  obtain ⟨m, hm⟩ : ∃ x, x = cntT c h lv ix 0 := ⟨_, rfl⟩
  rw [← hgq] at hlk hg0
  rw [← hm] at CC hg0 ⊢
  have hh0' : (0 : Int) < (h : Int) := by omega
  clear t hex he he2 q1 q2 q3 q4 hpos h256 e hgq hm
  go_enter Tryd.func15, Tryd.ntmps15
  go_wp2_with (go_at_call 53; refine CC.out.mono ?_; rintro o w2 ⟨v, rfl, hh, ho, hb⟩; have HH := Lib.hid (And.intro hh (And.intro ho hb)); clear hh ho hb)
  go_ret2
  exact ⟨v, rfl, HH.out.1, HH.out.2.1, HH.out.2.2⟩
end Go.Proofs.YtblacbfkaamdgaaDoor
