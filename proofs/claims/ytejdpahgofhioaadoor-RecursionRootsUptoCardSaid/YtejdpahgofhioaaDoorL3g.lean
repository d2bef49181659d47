/- RecursionRoots, walked. -/
import Derived.Test.YtejdpahgofhioaaDoorL3f
import Derived.IntWalk
namespace Go.Proofs.YtejdpahgofhioaaDoor
open Go.RowKit Go.Scr
set_option linter.unusedVariables false

theorem step_load_row {P : Program} {ops : Array Oper} {o : Oper} {a : Act} {w : World} {K : Act → World → Prop} {Q : Exit → Act → World → Prop} {E : Prop} (hg0 : o.guard = none) (ty : TypeId) (x : Operand) (ho : o.op = .load ty x)
    (g : Nat) (hx : a.eval x = .pointer (some ⟨g, 0, none⟩)) (t : TypeId) (cs : Array Value) (fr : Nat × Nat) (d : TypeDesc) (hg : w.heap[g]? = some (.cells cs t fr))
    (hu : P.underlying ty = some d) (hd : (match d with | .struct _ | .array _ _ => true | _ => false) = true) (hi : (P.info? ty).map (·.size) = some cs.size)
    (h : K (a.put o.dst (.agg cs)) w) : if Region.wanted o (yielded ops a.tmps) = true then Oper.wp P o a w K Q else E := by
  have hw : Region.wanted o (yielded ops a.tmps) = true := by simp [Region.wanted, hg0]
  rw [if_pos hw]
  exact wp_load_row ty x ho g hx t cs fr d hg hu hd hi h
/-- an append of a list that lies somewhere -/
theorem wpList_copied {P : Program} {ops : Array Oper} {rest : List Oper} {o : Oper} {a : Act} {Q : Exit → Act → World → Prop} {w : World} {T S : TypeId} (hgd : o.guard = none) (s x : Operand)
    (ho : o.op = .call { callee := .builtin .append, args := #[s, x], argTypes := #[S, S] }) (hu : P.underlying S = some (.slice T)) (z : Value) (sz : Nat) {byt : Nat} (hi : (P.info? T).map (fun i => (i.zero, i.size, i.bytes)) = some (some z, sz, byt))
    (hzs : z.cells.size = sz) (hsz : 0 < sz) {B : Nat} {v : Value} {n0 : Nat} {l : List Value} (xs : List Value) (m c : Nat) (ad : Addr) (hs : a.eval s = v) (hx : a.eval x = .slice (some ad) m c) (hown : w.ownsRow B T sz v n0 l)
    (hm : xs.length = m * sz) (hc : ∀ j u, xs[j]? = some u → w.cell? (ad.add j) = some u) (hone : ∀ u ∈ xs, u.oneCell' = true) (hB : B ≤ w.heap.size) (hl : (n0 + m) * byt ≤ 140737488355328) (hl2 : n0 + m ≤ 140737488355328)
    (h : ∀ v' w', w'.ownsRow B T sz v' (n0 + m) (l ++ xs) → w.grownBy w' v.ownBlock → wpList P ops Q rest (a.put o.dst v') w') :
    wpList P ops Q (o :: rest) a w := by
  obtain ⟨i, hi0, hz, hsi, hbi⟩ := info_parts hi
  obtain ⟨v', w', hrun, ho2, hg, _⟩ := run_append_own (P := P) w B S o.type T i z sz byt hu hi0 hz hsi hbi hzs hsz v n0 l hown ad m c xs hm hc hone (by simp only [maxLen]; omega) hl hB
  refine wpList_plain hgd fun _ hK => ?_
  unfold Oper.wp execOp
  simp only [ho, resolve, invoke, builtin, Sem.run_bind, Sem.run_pure, Result.andThen_ok, List.map_toArray, List.map_cons, List.map_nil, hs, hx, hrun]
  exact hK _ _ (h v' w' ho2 hg)

/-- what stands in a run: what was there, the span in its box, the list lent; and the second span; and the copy -/
structure RI (w : World) (F : Nat) (b e : Int) (g : Nat) (M : List ByteArray) (w' : World) : Prop where
  bel : Below F w w'
  box : w'.heap[F]? = some (.cells #[.int .i64 b, .int .i64 e] 27 (0, 0))
  row : SRow w' g (fillS M 8)
  lt : F < g
theorem RI.keep {w : World} {F : Nat} {b e : Int} {g : Nat} {M : List ByteArray} {w1 w2 : World} (h : RI w F b e g M w1) (hb : Below w1.heap.size w1 w2) : RI w F b e g M w2 :=
  ⟨below_from h.bel hb (Nat.le_of_lt (blk_lt h.box)), blk_below h.box hb (blk_lt h.box), h.row.below hb h.row.lt, h.lt⟩
theorem RI.c {w : World} {F : Nat} {b e : Int} {g : Nat} {M : List ByteArray} {w' : World} (h : RI w F b e g M w') : w'.cell? ⟨F, 0, none⟩ = some (.int .i64 b) ∧ w'.cell? ⟨F, 1, none⟩ = some (.int .i64 e) ∧ RI w F b e g M w' :=
  ⟨by rw [cell_of_row w' F 0 _ _ _ h.box]; rfl, by rw [cell_of_row w' F 1 _ _ _ h.box]; rfl, h⟩
structure RJ (w : World) (F : Nat) (b e : Int) (g : Nat) (M : List ByteArray) (X : Nat) (c d : Nat) (w' : World) : Prop where
  i : RI w F b e g M w'
  box : w'.heap[X]? = some (.cells #[.int .i64 c, .int .i64 d] 27 (0, 0))
  lt : F < X ∧ g ≠ X
theorem RJ.keep {w : World} {F : Nat} {b e : Int} {g : Nat} {M : List ByteArray} {X c d : Nat} {w1 w2 : World} (h : RJ w F b e g M X c d w1) (hb : Below w1.heap.size w1 w2) : RJ w F b e g M X c d w2 :=
  ⟨h.i.keep hb, blk_below h.box hb (blk_lt h.box), h.lt⟩
theorem RJ.c {w : World} {F : Nat} {b e : Int} {g : Nat} {M : List ByteArray} {X c d : Nat} {w' : World} (h : RJ w F b e g M X c d w') : w'.cell? ⟨X, 0, none⟩ = some (.int .i64 c) ∧ w'.cell? ⟨X, 1, none⟩ = some (.int .i64 d) ∧ RJ w F b e g M X c d w' :=
  ⟨by rw [cell_of_row w' X 0 _ _ _ h.box]; rfl, by rw [cell_of_row w' X 1 _ _ _ h.box]; rfl, h⟩
theorem RJ.put {w : World} {F : Nat} {b e : Int} {g : Nat} {M : List ByteArray} {X c d : Nat} {w1 : World} (h : RJ w F b e g M X c d w1) {i : Nat} (s : ByteArray) (hi : i < M.length) : RJ w F b e g (M.set i s) X c d (w1.setCell ⟨g, i, none⟩ (.string s)) := by
  have hs := h.i.row.set i s
  rw [fillS_put M i s hi] at hs
  exact ⟨⟨h.i.bel.setCell (p := ⟨g, i, none⟩) (Nat.le_of_lt h.i.lt) _, blk_far h.i.box (p := ⟨g, i, none⟩) (Nat.ne_of_lt h.i.lt) _, hs, h.i.lt⟩, blk_far h.box (p := ⟨g, i, none⟩) (fun he => h.lt.2 he.symm) _, h.lt⟩
theorem row_cells {w : World} {g : Nat} {M : List ByteArray} (h : SRow w g (fillS M 8)) : ∀ j u, (M.map Value.string)[j]? = some u → w.cell? ((⟨g, 0, none⟩ : Addr).add j) = some u := by
  intro j u hu
  rw [List.getElem?_map] at hu
  cases hj : M[j]? with
  | none => rw [hj] at hu; cases hu
  | some s =>
    rw [hj] at hu
    simp only [Option.map_some, Option.some.injEq] at hu
    have hadd : (⟨g, 0, none⟩ : Addr).add j = ⟨g, j, none⟩ := by unfold Addr.add; split <;> simp_all
    rw [hadd, ← hu]
    exact h.cell (by rw [fillS_lo M j ((List.getElem?_eq_some_iff.mp hj).1)]; exact hj)
theorem info_span : (Tryd.prog.info? 27).map (·.size) = some 2 := by kernel_rfl
theorem zero_span (w : World) : (zeroValue 27).run Tryd.prog w = .ok (.agg #[.int .i64 0, .int .i64 0]) w := by kernel_rfl
theorem rev_set {L : List ByteArray} {i : Nat} {s : ByteArray} (hi : i < L.length) (hs : L[L.length - 1 - i]? = some s) : (L.reverse.take i ++ L.drop i).set i s = L.reverse.take (i + 1) ++ L.drop (i + 1) := by
  have h1 : (L.reverse.take i).length = i := by rw [List.length_take, List.length_reverse]; omega
  rw [set_mid h1 hi, List.take_add_one]
  congr 2
  rw [List.getElem?_reverse hi, hs]
  rfl

set_option maxRecDepth 100000 in
set_option maxHeartbeats 4000000 in
theorem rroots_any (v : Value) (L : List ByteArray) (b e a z : Int) (w : World) (ht : Tabs w) (hv : Txts w v L) (hl : L.length ≤ 1048576) (ha : -9223372036854775808 ≤ a ∧ a ≤ 9223372036854775807) (hz : -9223372036854775808 ≤ z ∧ z ≤ 9223372036854775807) :
    Calls Tryd.prog 4 #[v, .agg #[.int .i64 b, .int .i64 e], .int .i64 a, .int .i64 z] w fun r w' => r = .returned (.bool true) ∧ Below w.heap.size w w' := by
  have HT := Lib.hid ht
  have HV := Lib.hid hv
  obtain ⟨F, hF⟩ : ∃ F, F = w.heap.size := ⟨_, rfl⟩
  have HF := Lib.hid hF
  have HTB := Lib.hid (fun w' (h : Below F w w') => (show Tabs w' from ht.below (by rw [← hF]; exact h)))
  have CK := Lib.hid (fun w' (h : Tabs w') => known3_any w' h)
  have CL := Lib.hid (fun w' (h : Txts w' v L) => lent3_any v L w' h hl)
  have CR := Lib.hid (fun x M w' (h : Tabs w') (hx : Txts w' x M) => Root_any x M w' h hx)
  have CS := Lib.hid (fun x M w' (hx : Txts w' x M) => Rootr_any x M w' hx)
  have CP := Lib.hid (fun x M b e w' (h : Tabs w') (hx : Txts w' x M) => Part_any x M b e w' h hx)
  have CQ := Lib.hid (fun x M b e w' (hx : Txts w' x M) => Partr_any x M b e w' hx)
  have CE := Lib.hid (fun g w' (h : Txts w' v L) (hr : SRow w' g (fillS L 8)) => kept3_any v L g w' h hr hl)
  obtain ⟨n, hn⟩ : ∃ n, n = L.length := ⟨_, rfl⟩
  have HTX := Lib.hid (fun g M w' (hM : M.length = n) (h : SRow w' g (fillS M 8)) => (show Txts w' (.slice (some ⟨g, 0, none⟩) n (n + 8)) M by have := fillS_txts h (by omega); rwa [hM] at this))
  rw [← hn] at CL CE hl
  obtain ⟨N8, hN8⟩ : ∃ N8, N8 = n + 8 := ⟨_, rfl⟩
  rw [← hN8] at CL CE HTX
  have HN8 := Lib.hid hN8
  have HNL := Lib.hid hn
  have hnN : (n : Int) ≤ (N8 : Int) := by omega
  have hnN2 : n ≤ N8 := by omega
  obtain ⟨n1, hn1n⟩ : ∃ n1, n1 = n + 1 := ⟨_, rfl⟩
  have hn1 : (n : Int) + 1 = (n1 : Int) := by omega
  have cp1 := fun w' => pick3_any a n1 w' (by omega) (by omega) ha
  obtain ⟨c1, hc1⟩ : ∃ c1, c1 = pickN a n1 := ⟨_, rfl⟩
  have hc1n : c1 < n1 := by rw [hc1]; exact pickN_lt a (by omega)
  rw [← hc1] at cp1
  obtain ⟨m2, hm2⟩ : ∃ m2, m2 = n - c1 + 1 := ⟨_, rfl⟩
  have hm2i : (n : Int) - (c1 : Int) + 1 = (m2 : Int) := by omega
  have cp2 := fun w' => pick3_any z m2 w' (by omega) (by omega) hz
  obtain ⟨c2, hc2⟩ : ∃ c2, c2 = pickN z m2 := ⟨_, rfl⟩
  have hc2n : c2 < m2 := by rw [hc2]; exact pickN_lt z (by omega)
  rw [← hc2] at cp2
  obtain ⟨c3, hc3⟩ : ∃ c3, c3 = c1 + c2 := ⟨_, rfl⟩
  have hc3i : (c1 : Int) + (c2 : Int) = (c3 : Int) := by omega
  have CP1 := Lib.hid cp1
  have CP2 := Lib.hid cp2
  have hnb : n ≤ 1048576 := hl
  have hN8b : N8 ≤ 1048584 := by omega
  have hc1b : c1 ≤ 1048576 := by omega
  have hc2b : c2 ≤ 1048577 := by omega
  have hm2b : m2 ≤ 1048577 := by omega
  have HZ := zero_span
  have HX0 : Hid (RI w F b e (F + 1) [] w → True) := Lib.hid fun _ => trivial
  obtain ⟨p0, cp0, rfl, hv1, hv2, hv3⟩ := hv
  rw [← hn] at HV CL CE ⊢
  have HP := Lib.hid hv3
  have hn1b : n1 ≤ 1048577 := by omega
  clear hn1n hn ht hl ha hz hN8 cp1 hc1 hc1n hm2 cp2 hc2 hc2n hc3 hv1 hv2 hv3 hF
  go_enter Tryd.func4, Tryd.ntmps4
  go_upto_region 1 with fail
  obtain ⟨w0, hw0⟩ : ∃ w0, w0 = w.alloc (.cells #[.int .i64 b, .int .i64 e] 27) := ⟨_, rfl⟩
  have hb0 : Below F w w0 := by rw [hw0, HF.out]; exact (Below.refl _ _).alloc (Nat.le_refl _) _
  have hx0 : w0.heap[F]? = some (.cells #[.int .i64 b, .int .i64 e] 27 (0, 0)) := by rw [hw0, HF.out]; exact heap_alloc_new w _
  rw [← hw0, ← HF.out]
  clear hw0 HX0
  have HB0 := Lib.hid hb0
  have HX0 := Lib.hid hx0
  clear hb0 hx0
  go_upto_region 6 with (first
    | (go_at_call 15; with_reducible refine (CK.out w0 (HTB.out w0 HB0.out)).mono ?_; rintro r w1 ⟨rfl, hb⟩; have HB1 := Lib.hid (below_from HB0.out hb (Nat.le_of_lt (blk_lt HX0.out))); have HX1 := Lib.hid (blk_below HX0.out hb (blk_lt HX0.out)); clear hb)
    | (go_at_call 18; with_reducible refine (CL.out w1 (HV.out.below HB1.out (Nat.le_of_eq HF.out.symm))).mono ?_; rintro r w2 ⟨g, rfl, hg, hrow, hb⟩; have HS2 : Hid (RI w F b e g L w2) := Lib.hid ⟨below_from HB1.out hb (Nat.le_of_lt (blk_lt HX1.out)), blk_below HX1.out hb (blk_lt HX1.out), hrow, Nat.lt_of_lt_of_le (blk_lt HX1.out) hg⟩; clear hb hrow hg)
    | (go_at_call 19; with_reducible refine (CR.out _ L w2 (HTB.out w2 HS2.out.bel) (HTX.out g L w2 HNL.out.symm HS2.out.row)).mono ?_; rintro r w3 ⟨rfl, hb⟩; have HS3 := Lib.hid (HS2.out.keep hb); clear hb)
    | (go_at_call 20; with_reducible refine (CS.out _ L w3 (HV.out.below HS3.out.bel (Nat.le_of_eq HF.out.symm))).mono ?_; rintro r w4 ⟨rfl, hb⟩; have HS4 := Lib.hid (HS3.out.keep hb); clear hb))
  have HS5 : Hid (RI w F b e g L w4.drew) := Lib.hid (HS4.out.keep (Below.refl _ _).drew)
  have HS5c : Hid (_ ∧ _ ∧ RI w F b e g L w4.drew) := Lib.hid HS5.out.c
  go_region_held3 (fun w' => w'.cell? ⟨F, 0, none⟩ = some (.int .i64 b) ∧ w'.cell? ⟨F, 1, none⟩ = some (.int .i64 e) ∧ RI w F b e g L w') (first | exact HS6.out.c | exact HS5c.out) (first
    | (go_at_call 21; with_reducible refine (CP.out _ L b e w4.drew (HTB.out _ HS5.out.bel) (HTX.out g L w4.drew HNL.out.symm HS5.out.row)).mono ?_; rintro r w6 ⟨rfl, hb⟩; have HS6 := Lib.hid (HS5.out.keep hb); clear hb))
  have hb0 := HS6.out.c.1
  have hb1 := HS6.out.c.2.1
  go_upto_region 8 with (first
    | (go_at_call 22; with_reducible refine (CQ.out _ L b e w6 (HV.out.below HS6.out.bel (Nat.le_of_eq HF.out.symm))).mono ?_; rintro r w7 ⟨rfl, hb⟩; have HS7 := Lib.hid (HS6.out.keep hb); clear hb))
  clear hb0 hb1
  go_upto_region 9 with (first
    | (go_at_call 23; with_reducible refine (CP1.out w7).mono ?_; rintro r wx ⟨rfl, hw⟩; rw [hw]; clear hw wx))
  obtain ⟨X, hX⟩ : ∃ X, X = w7.heap.size := ⟨_, rfl⟩
  obtain ⟨w8, hw8⟩ : ∃ w8, w8 = w7.alloc (.cells #[.int .i64 c1, .int .i64 0] 27) := ⟨_, rfl⟩
  have hx8 : w8.heap[X]? = some (.cells #[.int .i64 c1, .int .i64 0] 27 (0, 0)) := by rw [hw8, hX]; exact heap_alloc_new w7 _
  have hs8 : RI w F b e g L w8 := by rw [hw8]; exact HS7.out.keep ((Below.refl _ _).alloc (Nat.le_refl _) _)
  have hlt8 : F < X ∧ g ≠ X := by
    have h1 := blk_lt HS7.out.box
    have h2 := HS7.out.row.lt
    omega
  rw [← hw8, ← hX]
  have HJ8 : Hid (RJ w F b e g L X c1 c3 (w8.setCell ⟨X, 1, none⟩ (.int .i64 c3)).drew) := Lib.hid ⟨⟨(hs8.bel.setCell (p := ⟨X, 1, none⟩) (Nat.le_of_lt hlt8.1) _).drew, blk_far hs8.box (p := ⟨X, 1, none⟩) (Nat.ne_of_lt hlt8.1) _, hs8.row.far (p := ⟨X, 1, none⟩) hlt8.2 _, hs8.lt⟩, blk_set (g := X) hx8 1 _, hlt8⟩
  have h80 : w8.drew.cell? ⟨X, 0, none⟩ = some (.int .i64 c1) := by rw [cell_of_row w8.drew X 0 _ _ _ hx8]; rfl
  have h81 : w8.drew.cell? ⟨X, 1, none⟩ = some (.int .i64 0) := by rw [cell_of_row w8.drew X 1 _ _ _ hx8]; rfl
  have h8f : w8.drew.frozen? ⟨X, 1, none⟩ = false := by simp [World.frozen?, show w8.drew.heap[X]? = _ from hx8]
  clear hw8 hX hx8 hs8 hlt8
  have hw1 : IntKind.i64.wrap ((n : Int) - (c1 : Int)) = (n : Int) - (c1 : Int) := IntWalk.i64_in _ (by omega)
  have hw2 : IntKind.i64.wrap ((n : Int) - (c1 : Int) + 1) = (m2 : Int) := by rw [hm2i]; exact IntWalk.i64_in _ (by omega)
  have hw3 : IntKind.i64.wrap (m2 : Int) = (m2 : Int) := IntWalk.i64_in _ (by omega)
  have hw4 : IntKind.i64.wrap ((c1 : Int) + (c2 : Int)) = (c3 : Int) := by rw [hc3i]; exact IntWalk.i64_in _ (by omega)
  have hw5 : IntKind.i64.wrap (c3 : Int) = (c3 : Int) := IntWalk.i64_in _ (by omega)
  refine wp_region_still_tail 11 (by kernel_rfl) (by kernel_rfl) ?_
  simp only [List.take_succ_cons, List.take_zero, List.drop_succ_cons, List.drop_zero]
  change wpStill _ _ w8.drew _ _ _
  iterate 8 (refine wpStill_step (fun K hK => ?_); go_simp; (refine hK _ ?_; clear hK K))
  refine wpStill_step (fun K hK => ?_)
  go_simp
  refine ⟨_, CP2.out _, hK _ ?_⟩
  clear hK K
  iterate 2 (refine wpStill_step (fun K hK => ?_); go_simp; (refine hK _ ?_; clear hK K))
  refine wpStill_nil ?_
  change wpList _ _ _ _ _ w8.drew
  clear hw1 hw2 hw3 hw4 hw5
  go_upto_region 10 with fail
  clear h80 h81 h8f
  generalize (w8.setCell ⟨X, 1, none⟩ (.int .i64 c3)).drew = w9 at HJ8 ⊢
  have HJ9 : Hid (RJ w F b e g L X c1 c3 w9.drew) := Lib.hid (HJ8.out.keep (Below.refl _ _).drew)
  have HJ9c : Hid (_ ∧ _ ∧ RJ w F b e g L X c1 c3 w9.drew) := Lib.hid HJ9.out.c
  go_region_held3 (fun w' => w'.cell? ⟨X, 0, none⟩ = some (.int .i64 c1) ∧ w'.cell? ⟨X, 1, none⟩ = some (.int .i64 c3) ∧ RJ w F b e g L X c1 c3 w') (first | exact HJA.out.c | exact HJ9c.out) (first
    | (go_at_call 21; with_reducible refine (CP.out _ L c1 c3 w9.drew (HTB.out _ HJ9.out.i.bel) (HTX.out g L w9.drew HNL.out.symm HJ9.out.i.row)).mono ?_; rintro r wA ⟨rfl, hb⟩; have HJA := Lib.hid (HJ9.out.keep hb); clear hb))
  have hb0 := HJA.out.c.1
  have hb1 := HJA.out.c.2.1
  go_upto_region 12 with (first
    | (go_at_call 22; with_reducible refine (CQ.out _ L c1 c3 wA (HV.out.below HJA.out.i.bel (Nat.le_of_eq HF.out.symm))).mono ?_; rintro r wB ⟨rfl, hb⟩; have HJB := Lib.hid (HJA.out.keep hb); clear hb))
  clear hb0 hb1
  go_wp2_with (first
    | (go_at_call 24; with_reducible refine (CE.out g wB (HV.out.below HJB.out.i.bel (Nat.le_of_eq HF.out.symm)) HJB.out.i.row).mono ?_; rintro r wC ⟨rfl, hb⟩; have HJC := Lib.hid (HJB.out.keep hb); clear hb))
  go_loopw [26] (fun q wr => ∃ i : Nat, i ≤ n ∧ q = .int .i64 i ∧ Hid (RJ w F b e g (L.reverse.take i ++ L.drop i) X c1 c3 wr)) (fun q _ => n - (intOf q).toNat)
  case atStart => exact ⟨0, by omega, rfl, Lib.hid (by rw [List.take_zero, List.drop_zero, List.nil_append]; exact HJC.out)⟩
  case round =>
    clear HJC HJB HJA HJ9c HJ9 HJ8 HS7 HS6 HS5c HS5 HS4 HS3 HS2 HX1 HX0 HB1 HB0
    obtain ⟨i, hi, rfl, hj⟩ := hrel
    have HJ := Lib.hid hj.out
    clear hj
    have HMN := Lib.hid (show (L.reverse.take i ++ L.drop i).length = n by have := HNL.out; rw [List.length_append, List.length_take, List.length_reverse, List.length_drop]; omega)
    by_cases hlt : i < n
    · obtain ⟨j, hj⟩ : ∃ j, j = n - 1 - i := ⟨_, rfl⟩
      have hji : (n : Int) - 1 - (i : Int) = (j : Int) := by omega
      have hjn : (j : Int) < (n : Int) := by omega
      have hj0 : (0 : Int) ≤ (j : Int) := by omega
      have hin : (i : Int) < (n : Int) := by omega
      have hin8 : (i : Int) < (N8 : Int) := by omega
      have hi0 : (0 : Int) ≤ (i : Int) := by omega
      have hjb : j ≤ 1048576 := by omega
      obtain ⟨s, hs⟩ : ∃ s, L[j]? = some s := ⟨L[j]'(by have := HNL.out; omega), List.getElem?_eq_getElem _⟩
      obtain ⟨ad, rfl, hc⟩ := HP.out j s hs
      have hc1 : wr.cell? (ad.add j) = some (.string s) := (HJ.out.i.bel.cell (by have := block_lt_of_cell hc; have := HF.out; omega)).trans hc
      have hfz := HJ.out.i.row.frozen i
      obtain ⟨old, hold⟩ : ∃ s, (fillS (L.reverse.take i ++ L.drop i) 8)[i]? = some s := ⟨_, List.getElem?_eq_getElem (by rw [fillS_length _ 8 (Nat.le_refl _), HMN.out]; omega)⟩
      have hcell := HJ.out.i.row.cell hold
      have hput := HJ.out.put (i := i) s (by rw [HMN.out]; exact hlt)
      rw [rev_set (by have := HNL.out; omega) (by rw [← HNL.out, ← hj]; exact hs)] at hput
      have HPUT := Lib.hid hput
      have HLT := Lib.hid hlt
      clear hs hc hput hj hlt HMN hold
      go_wp2_with fail
      exact ⟨⟨i + 1, by have := HLT.out; omega, rfl, Lib.hid HPUT.out⟩, (by show n - ((i : Int) + 1).toNat < n - (i : Int).toNat; have := HLT.out; omega)⟩
    · have hin : ¬ ((i : Int) < (n : Int)) := by omega
      obtain ⟨M, hM⟩ : ∃ M, M = L.reverse := ⟨_, rfl⟩
      have hMl : M.length = n := by rw [hM, List.length_reverse]; exact HNL.out.symm
      have hjm : RJ w F b e g M X c1 c3 wr := by
        have h := HJ.out
        rw [show i = n by omega, HNL.out, List.drop_length, List.append_nil, ← List.length_reverse, List.take_length, ← hM] at h
        exact h
      have HJM := Lib.hid hjm
      have HML := Lib.hid hMl
      have HCC := Lib.hid (row_cells hjm.i.row)
      have HLEN := Lib.hid (show (M.map Value.string).length = n * 1 by rw [List.length_map, hMl, Nat.mul_one])
      have hbd1 : (0 + n) * 16 ≤ 140737488355328 := by omega
      have hbd2 : 0 + n ≤ 140737488355328 := by omega
      have HTXM := Lib.hid (fun v' w' (h : w'.ownsRow wr.heap.size 9 1 v' (0 + n) ([] ++ M.map Value.string)) => (show ∃ pl cl, v' = .slice pl n cl ∧ Txts w' v' M by
        have h1 := txts_ownR (n := 0 + n) (by simpa using h) (by omega)
        obtain ⟨pl, cl, hx, h2⟩ := id h1
        exact ⟨pl, cl, by rw [hx, hMl], h1⟩))
      clear hjm hMl hM hlt HJ HMN
      go_upto_region 22 with (first
        | (at_builtin; refine wpList_copied rfl _ _ rfl Tryd.underlying25 (.string ⟨#[]⟩) 1 info_str rfl (by decide) (M.map Value.string) n N8 ⟨g, 0, none⟩ rfl rfl (World.ownsRow_nil wr wr.heap.size 9 1) HLEN.out HCC.out (str_one _) (Nat.le_refl _) hbd1 hbd2 ?_; intro v' w5 hown hgr; obtain ⟨pl, cl, rfl, htx⟩ := HTXM.out v' w5 hown; have HX5 := Lib.hid htx; have HJ5 := Lib.hid (HJM.out.keep ((Below.refl wr.heap.size wr).grown hgr (Nat.le_refl _) (fun k hk => by cases hk))); clear hown hgr htx)
        | (go_at_call 19; with_reducible refine (CR.out _ M w5 (HTB.out w5 HJ5.out.i.bel) (HTX.out g M w5 HML.out HJ5.out.i.row)).mono ?_; rintro r w6 ⟨rfl, hb⟩; have HJ6 := Lib.hid (HJ5.out.keep hb); have HX6 := Lib.hid (HX5.out.below hb (Nat.le_refl _)); clear hb)
        | (go_at_call 20; with_reducible refine (CS.out _ M w6 HX6.out).mono ?_; rintro r w7 ⟨rfl, hb⟩; have HJ7 := Lib.hid (HJ6.out.keep hb); have HX7 := Lib.hid (HX6.out.below hb (Nat.le_refl _)); clear hb))
      have HJ8 : Hid (RJ w F b e g M X c1 c3 w7.drew) := Lib.hid (HJ7.out.keep (Below.refl _ _).drew)
      have HJ8c : Hid (_ ∧ _ ∧ RJ w F b e g M X c1 c3 w7.drew) := Lib.hid HJ8.out.c
      have HX8 : Hid (Txts w7.drew _ M) := HX7
      go_region_held3 (fun w' => w'.cell? ⟨X, 0, none⟩ = some (.int .i64 c1) ∧ w'.cell? ⟨X, 1, none⟩ = some (.int .i64 c3) ∧ RJ w F b e g M X c1 c3 w') (first | exact HJ9.out.c | exact HJ8c.out) (first
        | (go_at_call 21; with_reducible refine (CP.out _ M c1 c3 w7.drew (HTB.out _ HJ8.out.i.bel) (HTX.out g M w7.drew HML.out HJ8.out.i.row)).mono ?_; rintro r w9 ⟨rfl, hb⟩; have HJ9 := Lib.hid (HJ8.out.keep hb); have HX9 := Lib.hid (HX8.out.below hb (Nat.le_refl _)); clear hb))
      have hb0 := HJ9.out.c.1
      have hb1 := HJ9.out.c.2.1
      go_wp2_with (first
        | (go_at_call 22; with_reducible refine (CQ.out _ M c1 c3 w9 HX9.out).mono ?_; rintro r wA ⟨rfl, hb⟩; have HJA := Lib.hid (HJ9.out.keep hb); clear hb))
      go_ret
      exact ⟨rfl, by have := HJA.out.i.bel; rw [← HF.out]; exact this⟩
