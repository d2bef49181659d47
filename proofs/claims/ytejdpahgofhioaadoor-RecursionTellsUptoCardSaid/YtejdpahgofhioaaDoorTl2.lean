/- RecursionTells, walked. -/
import Derived.Test.YtejdpahgofhioaaDoorTl1
namespace Go.Proofs.YtejdpahgofhioaaDoor
open Go.RowKit Go.Scr Bk3
set_option linter.unusedVariables false

/-- append(nil, a list that lies anywhere) -/
theorem wpList_copiedC {P : Program} {ops : Array Oper} {rest : List Oper} {o : Oper} {a : Act} {Q : Exit → Act → World → Prop} {w : World} {T S : TypeId} (hgd : o.guard = none) (s x : Operand)
    (ho : o.op = .call { callee := .builtin .append, args := #[s, x], argTypes := #[S, S] }) (hu : P.underlying S = some (.slice T)) (z : Value) {byt : Nat} (hi : (P.info? T).map (fun i => (i.zero, i.size, i.bytes)) = some (some z, 1, byt))
    (hzs : z.cells.size = 1) {p : Option Addr} {m c : Nat} (xs : List Value) (hs : a.eval s = .slice none 0 0) (hx : a.eval x = .slice p m c) (hm : xs.length = m) (hsrc : ∀ j u, xs[j]? = some u → ∃ a, p = some a ∧ w.cell? (a.add j) = some u)
    (hone : ∀ u ∈ xs, u.oneCell' = true) (hl : m * byt ≤ 140737488355328) (hl2 : m ≤ 140737488355328)
    (h : ∀ v' w', Held w' T 1 v' m xs → w.grownBy w' none → (v'.ownBlock = none ∨ v'.ownBlock = some w.heap.size) → wpList P ops Q rest (a.put o.dst v') w') :
    wpList P ops Q (o :: rest) a w := by
  obtain ⟨i, hi0, hz, hsi, hbi⟩ := info_parts hi
  have hrun : ∃ v' w', (Builtin.append_ #[S, S] o.type #[.slice none 0 0, .slice p m c]).run P w = .ok v' w' ∧ Held w' T 1 v' m xs ∧ w.grownBy w' none ∧ (v'.ownBlock = none ∨ v'.ownBlock = some w.heap.size) := by
    by_cases hm0 : m = 0
    · subst hm0
      have hxs : xs = [] := List.eq_nil_of_length_eq_zero hm
      subst hxs
      refine ⟨.slice none 0 0, w, ?_, ⟨by simp, .inl ⟨rfl, rfl⟩⟩, only_refl _ _, .inl rfl⟩
      cases p <;> simp [Builtin.append_, run_underlying hu, sizeOf, typeInfo, hi0, Builtin.lenOf, Builtin.firstCells, loadCells, loadCellsFrom]
    · obtain ⟨a0, rfl, _⟩ := hsrc 0 (xs[0]'(by omega)) (List.getElem?_eq_getElem _)
      obtain ⟨v', w', hr, hgr⟩ := run_append_grew (P := P) w S o.type T i z 1 byt hu hi0 hz hsi hbi hzs (by decide) (.slice none 0 0) 0 [] ⟨by simp, .inl ⟨rfl, rfl⟩⟩ a0 m c xs (by omega) (by rw [Nat.mul_one]; exact hm)
        (fun j u hj => by obtain ⟨b, hb, hc⟩ := hsrc j u hj; cases hb; exact hc) hone (by simp only [maxLen]; omega) (by rw [Nat.zero_add]; exact hl)
      refine ⟨v', w', hr, ?_, hgr.grown, ?_⟩
      · have := hgr.held
        rwa [Nat.zero_add, List.nil_append] at this
      · rcases hgr.at with ⟨h1, _⟩ | ⟨h1, _⟩
        · exact .inl h1
        · exact .inr h1
  obtain ⟨v', w', hrun, r1, r2, r3⟩ := hrun
  refine wpList_plain hgd fun _ hK => ?_
  unfold Oper.wp execOp
  simp only [ho, resolve, invoke, builtin, Sem.run_bind, Sem.run_pure, Result.andThen_ok, List.map_toArray, List.map_cons, List.map_nil, hs, hx, hrun]
  exact hK _ _ (h v' w' r1 r2 r3)
theorem int_ones (Z : List Int) : ∀ u ∈ Z.map (Value.int .i64), u.oneCell' = true := by
  intro u hu
  obtain ⟨z, _, rfl⟩ := List.mem_map.mp hu
  rfl

theorem wanted_end {w w2 w3 w4 : World} {g nz : Nat} {X : List ByteArray} {xs news : List Value} {v3 v4 : Value} {o : Obj} (HB2 : Below w.heap.size w w2) (hrow : SRow w2 g X) (HB3 : Below w2.heap.size w2 w3) (H3 : Held w3 3 1 v3 nz xs) (HAT3 : v3.ownBlock = none ∨ v3.ownBlock = some w2.heap.size)
    (HG4 : Grew 3 1 (w3.alloc o) v3 nz 8 xs news v4 w4) : ∃ gz c, v4 = .slice (some ⟨gz, 0, none⟩) (nz + 8) c ∧ g ≠ gz ∧ SRow w4 g X ∧ Below w.heap.size w w4 ∧ Held w4 3 1 v4 (nz + 8) (xs ++ news) := by
  obtain ⟨gz, c, cur, rfl, hgz, _⟩ := HG4.held.block (by omega)
  have hg3 := grown_alloc HG4.grown
  have hgw := hrow.lt
  have h23 := HB3.size
  have h02 := HB2.size
  have hfar : v3.ownBlock ≠ some g := by
    rcases HAT3 with h | h
    · rw [h]; intro e; cases e
    · rw [h]; intro e; cases e; omega
  refine ⟨gz, c, rfl, ?_, ?_, ?_, HG4.held⟩
  · rcases HG4.at with ⟨h, _⟩ | ⟨h, _⟩
    · intro e; subst e; exact hfar (h.symm.trans rfl)
    · intro e; subst e
      have h : some g = some (w3.alloc o).heap.size := h
      simp at h
      omega
  · exact blk_only (hrow.below HB3 hgw) hg3 (fun e => hfar e.symm)
  · refine (below_from HB2 HB3 h02).grown hg3 (by omega) (fun k e => ?_)
    rcases HAT3 with h | h
    · rw [h] at e; cases e
    · rw [h] at e; cases e; exact h02
theorem wanted_ints {w : World} {gz nz d : Nat} {Z : List Int} (h : Held w 3 1 (.slice (some ⟨gz, 0, none⟩) (nz + 8) d) (nz + 8) ((Z ++ List.replicate 8 77).map (Value.int .i64))) (hz : nz = Z.length) (hl : nz ≤ 1048576) (hb : ∀ z ∈ Z, -9223372036854775808 ≤ z ∧ z ≤ 9223372036854775807) : Ints w (.slice (some ⟨gz, 0, none⟩) nz d) Z := by
  obtain ⟨p, c, he, h2, _, h3⟩ := h.cells
  simp only [Value.slice.injEq] at he
  obtain ⟨rfl, _, rfl⟩ := he
  refine ⟨_, d, by rw [hz], by omega, by omega, hb, fun j z hj => ?_⟩
  obtain ⟨a, ha, _, hc⟩ := h3 j (.int .i64 z) (by
    rw [List.getElem?_map, List.getElem?_append_left (List.getElem?_eq_some_iff.mp hj).1, hj]
    rfl)
  exact ⟨a, ha, hc⟩
theorem same3_true (v v2 : Value) (L : List ByteArray) (w : World) (hv : Txts w v L) (hv2 : Txts w v2 L) (hl : L.length ≤ 1048576) :
    Calls Tryd.prog 31 #[v, v2] w fun e w' => e = .returned (.bool true) ∧ Below w.heap.size w w' := by
  have h := same3_any v v2 L L w hv hv2 hl hl
  rw [decide_eq_true (rfl : L = L)] at h
  exact h
theorem own_at {w : World} {B T sz n : Nat} {v : Value} {l : List Value} (h : w.ownsRow B T sz v n l) : ∀ g, v.ownBlock = some g → B ≤ g ∧ g < w.heap.size := fun g hg => ⟨own_ge h (.inr (.inl hg)), (held_of_owns h).lt hg⟩
/-- what stands in a turn of RecursionTells -/
def TIx (W0 : World) (n g gz nz dz b : Nat) (Z : List Int) (m : Nat) (wr : World) : Prop := ∃ M col V fr wl, TI W0 n g gz nz dz b Z m wr M col V fr wl

set_option maxRecDepth 100000 in
set_option maxHeartbeats 4000000 in
theorem rtells_any (v v2 : Value) (L : List ByteArray) (Z : List Int) (z1 z2 : Int) (w : World) (ht : Tabs w) (hv : Txts w v L) (hl : L.length ≤ 1048576) (hv2 : Ints w v2 Z) (hzl : Z.length ≤ 1048576) :
    Calls Tryd.prog 5 #[v, .int .i64 z1, .int .i64 z2, v2] w fun e w' => e = .returned (.bool true) ∧ Below w.heap.size w w' := by
  have HT := Lib.hid ht
  have HV := Lib.hid hv
  have HZ := Lib.hid hv2
  have C1 := Lib.hid (known3_any w ht)
  have C2 := Lib.hid (fun w' (h : Below w.heap.size w w') => lent3_any v L w' (hv.below h (Nat.le_refl _)) hl)
  obtain ⟨p, c, rfl, hw1, hw2, hw3⟩ := hv
  obtain ⟨q, cq, rfl, hi1, hi2, hib, hi3⟩ := hv2
  obtain ⟨n, hn⟩ : ∃ n, n = L.length := ⟨_, rfl⟩
  obtain ⟨nz, hnz⟩ : ∃ n, n = Z.length := ⟨_, rfl⟩
  rw [← hn] at hw1 hl C2 HV ⊢
  rw [← hnz] at hi1 hzl HZ ⊢
  have HN := Lib.hid hn
  have HNZ := Lib.hid hnz
  have HIB := Lib.hid hib
  have hb1 : nz * 8 ≤ 140737488355328 := by omega
  have hb2 : nz ≤ 140737488355328 := by omega
  have hb3 : (nz + 8) * 8 ≤ 140737488355328 := by omega
  have hb4 : nz + 8 ≤ 140737488355328 := by omega
  have HI3 : Hid (∀ w', Below w.heap.size w w' → ∀ j u, (Z.map (Value.int .i64))[j]? = some u → ∃ a, q = some a ∧ w'.cell? (a.add j) = some u) := Lib.hid (fun w' hb j u hj => by
    rw [List.getElem?_map] at hj
    cases hz : Z[j]? with
    | none => rw [hz] at hj; cases hj
    | some z =>
      rw [hz] at hj
      cases hj
      obtain ⟨a, ha, hc⟩ := hi3 j z hz
      exact ⟨a, ha, (hb.cell (block_lt_of_cell hc)).trans hc⟩)
  have HML : Hid ((Z.map (Value.int .i64)).length = nz) := Lib.hid (by rw [List.length_map]; exact hnz.symm)
  clear ht hn hnz hib hi1 hi2 hi3 hw1 hw2 hw3
  go_enter Tryd.func5, Tryd.ntmps5
  go_upto_region 6 with (first
    | (go_at_call 15; with_reducible refine (C1.out).mono ?_; rintro r w1 ⟨rfl, hb⟩; have HB1 := Lib.hid hb; clear hb)
    | (go_at_call 18; with_reducible refine (C2.out w1 HB1.out).mono ?_; rintro r w2 ⟨g, rfl, hg, hrow, hb⟩; have HG := Lib.hid (Nat.le_trans HB1.out.size hg); have HROW := Lib.hid hrow; have HB2 := Lib.hid (below_from HB1.out hb HB1.out.size); clear hb hg hrow)
    | (at_builtin; refine wpList_copiedC (p := q) (m := nz) (c := cq) rfl _ _ rfl Tryd.underlying36 (.int .i64 0) info_int rfl (Z.map (Value.int .i64)) (by simp [Act.eval]) (by simp [Act.eval]) HML.out (HI3.out w2 HB2.out) (int_ones _) hb1 hb2 ?_; intro v3 w3 h3 hg3 hat3; obtain ⟨p3, c3, rfl, _⟩ := h3.cells; have H3 := Lib.hid h3; have HB3 := Lib.hid (Bk3.below_none hg3); have HAT3 := Lib.hid hat3; clear h3 hg3 hat3)
    | (at_builtin; refine wpList_grew (v := .slice p3 nz c3) rfl _ _ rfl Tryd.underlying36 (.int .i64 0) 1 info_int rfl (by decide) ((List.replicate 8 (77 : Int)).map (Value.int .i64)) 8 (by simp [Act.eval]) (by simp [Act.eval]) H3.out rfl rfl (by decide) (int_ones _) hb3 hb4 ?_; intro v4 w4 hg4; obtain ⟨p4, c4, rfl, _⟩ := hg4.held.cells; have HG4 := Lib.hid hg4; clear hg4))
  obtain ⟨gz, dz, he4, hne, hr4, hb4', hw4⟩ := wanted_end HB2.out HROW.out HB3.out H3.out HAT3.out HG4.out
  simp only [Value.slice.injEq] at he4
  obtain ⟨rfl, _, rfl⟩ := he4
  rw [← List.map_append] at hw4
  have hti := TI.begin (W0 := w) HN.out.symm hr4 hw4 hb4' HG.out hne
  have HTI := Lib.hid hti
  have HNE := Lib.hid hne
  clear hti hne hr4 hb4' hw4 HG4 H3 HB3 HAT3 HB2 HROW HB1 C1 C2 HI3 HML hb1 hb2 hb3
  obtain ⟨b, hb⟩ : ∃ b, b = w4.heap.size := ⟨_, rfl⟩
  rw [← hb] at HTI ⊢
  generalize w4.alloc (.cells #[.slice none 0 0, .slice none 0 0, .slice none 0 0, .slice none 0 0, .slice none 0 0] 40) = w5 at HTI ⊢
  clear hb
  obtain ⟨n8, hn8⟩ : ∃ x, x = n + 8 := ⟨_, rfl⟩
  obtain ⟨nz8, hnz8⟩ : ∃ x, x = nz + 8 := ⟨_, rfl⟩
  rw [← hn8, ← hnz8]
  have HN8 := Lib.hid hn8
  have HNZ8 := Lib.hid hnz8
  have hn8b : n8 ≤ 1048584 := by omega
  have hnz8b : nz8 ≤ 1048584 := by omega
  have hnn8 : (n : Int) ≤ (n8 : Int) := by omega
  have hznz8 : (nz : Int) ≤ (nz8 : Int) := by omega
  have hnzd : (nz : Int) ≤ (c4 : Int) := by
    obtain ⟨q, c2, he, hle, _⟩ := HTI.out.wan.cells
    simp only [Value.slice.injEq] at he
    omega
  have hnz8d : (nz8 : Int) ≤ (c4 : Int) := by
    obtain ⟨q, c2, he, hle, _⟩ := HTI.out.wan.cells
    simp only [Value.slice.injEq] at he
    omega
  have hn0 : (0 : Int) ≤ (n : Int) := by omega
  have hnz0 : (0 : Int) ≤ (nz : Int) := by omega
  clear hn8 hnz8
  go_wp2_with fail
  go_loopw [14, 15, 16, 17, 18, 19, 20, 21, 22, 23, 24, 25, 26, 27, 28, 29, 30, 31, 32, 33, 34] (fun x14 _ _ _ _ _ _ _ _ _ _ _ _ _ _ _ _ _ _ _ _ wr => ∃ t : Nat, t ≤ 3 ∧ x14 = .int .i64 t ∧ Hid (TIx w n g gz nz c4 b Z (3 * t) wr)) (fun x14 _ _ _ _ _ _ _ _ _ _ _ _ _ _ _ _ _ _ _ _ _ => 3 - (intOf x14).toNat)
  case atStart => exact ⟨0, by omega, rfl, Lib.hid ⟨_, _, _, _, _, HTI.out⟩⟩
  case round =>
    clear HTI
    obtain ⟨t, ht, rfl, hinv⟩ := hrel
    obtain ⟨M, col, V, fr, wl, hti⟩ := hinv.out
    have HTI := Lib.hid hti
    clear hinv hti
    by_cases ht3 : t < 3
    · have hti : (t : Int) < 3 := by omega
      go_upto_if 53 with fail
      go_cut [15] from 50 to 68 (fun _ wx => Hid (∃ M2 : List ByteArray, M2.length = n ∧ SRow wx g (fillS M2 8) ∧ wr.grownBy wx (some g)))
      case first =>
        by_cases h2 : t = 2
        · have hbt : ((t : Int) == 2) = true := beq_iff_eq.2 (by omega)
          clear h2
          obtain ⟨w8, rfl⟩ : ∃ w8, w8 = wr := ⟨_, rfl⟩
          go_wp2_with fail
          go_loopw [15] (fun x wr => ∃ i : Nat, i ≤ n ∧ x = .int .i64 i ∧ Hid (w8.grownBy wr (some g) ∧ ∃ M2 : List ByteArray, M2.length = n ∧ SRow wr g (fillS M2 8))) (fun x _ => n - (intOf x).toNat)
          case atStart => exact ⟨0, by omega, rfl, Lib.hid ⟨only_refl _ _, M, HTI.out.hM, HTI.out.row⟩⟩
          case round =>
            obtain ⟨i, hi, rfl, hinv⟩ := hrel
            obtain ⟨hg5, M2, hm2, hr2⟩ := hinv.out
            have HG5 := Lib.hid hg5
            have HM2 := Lib.hid hm2
            have HR2 := Lib.hid hr2
            clear hinv hg5 hm2 hr2
            by_cases hlt : i < n
            · have hlti : (i : Int) < (n : Int) := by omega
              have hi0 : (0 : Int) ≤ (i : Int) := by omega
              have hi8 : (i : Int) < (n8 : Int) := by omega
              obtain ⟨n1, hn1⟩ : ∃ x, x = n - 1 := ⟨_, rfl⟩
              obtain ⟨j, hj⟩ : ∃ x, x = n1 - i := ⟨_, rfl⟩
              have e1 : (n : Int) - 1 = (n1 : Int) := by omega
              have e2 : (n1 : Int) - (i : Int) = (j : Int) := by omega
              have hjn : (j : Int) < (n : Int) := by omega
              have hj0 : (0 : Int) ≤ (j : Int) := by omega
              have hjb : j ≤ 1048576 := by omega
              have hn1b : n1 ≤ 1048576 := by omega
              obtain ⟨s, hs⟩ : ∃ s, L[j]? = some s := ⟨L[j]'(by have := HN.out; omega), List.getElem?_eq_getElem _⟩
              have hblw : Below w.heap.size w wr := HTI.out.bl.grown HG5.out HTI.out.bl.size (fun k e => by cases e; exact HTI.out.lo)
              obtain ⟨q', cq', hq', _, _, hcells⟩ := HV.out.below hblw (Nat.le_refl _)
              simp only [Value.slice.injEq] at hq'
              obtain ⟨rfl, hnn, rfl⟩ := hq'
              clear hnn
              obtain ⟨a, rfl, hca⟩ := hcells j s hs
              obtain ⟨old, hold⟩ : ∃ o, (fillS M2 8)[i]? = some o := ⟨(fillS M2 8)[i]'(by rw [fillS_length M2 8 (by omega)]; have := HM2.out; omega), List.getElem?_eq_getElem _⟩
              have hco := HR2.out.cell hold
              have hfo := HR2.out.frozen i
              have HSET : Hid (SRow (wr.setCell ⟨g, i, none⟩ (.string s)) g (fillS (M2.set i s) 8)) := Lib.hid (by
                have h := HR2.out.set i s
                rw [fillS_put M2 i s (by have := HM2.out; omega)] at h
                exact h)
              have HG6 := Lib.hid (only_setCell HG5.out (p := ⟨g, i, none⟩) (.inl rfl) (.string s))
              have HLT := Lib.hid hlt
              clear hs hold hcells hlt hj hn1 hblw
              go_wp2_with fail
              exact ⟨⟨i + 1, by have := HLT.out; omega, rfl, Lib.hid ⟨HG6.out, M2.set i s, by rw [List.length_set]; exact HM2.out, HSET.out⟩⟩, (by show n - ((i : Int) + 1).toNat < n - (i : Int).toNat; have := HLT.out; omega)⟩
            · have hlti : ¬ ((i : Int) < (n : Int)) := by omega
              go_wp2_with fail
              go_meet
              exact Lib.hid ⟨M2, HM2.out, HR2.out, HG5.out⟩
        · have hbt : ((t : Int) == 2) = false := beq_eq_false_iff_ne.2 (by omega)
          clear h2
          go_wp2_with fail
          go_meet
          exact Lib.hid ⟨M, HTI.out.hM, HTI.out.row, only_refl _ _⟩
      case rest =>
        obtain ⟨M2, hm2, hr2, hg2⟩ := hcut.out
        have hti2 := HTI.out.turned hg2 hr2 hm2
        clear HTI hcut hg2 hr2 hm2
        obtain ⟨w1', rfl⟩ : ∃ x, x = wc := ⟨_, rfl⟩
        have HTI := Lib.hid hti2
        clear hti2
        have HS : Hid (Held w1' 9 1 (.slice (some ⟨g, 0, none⟩) n n8) n (M2.map Value.string)) := Lib.hid (by
          have h := row_held HTI.out.row (by rw [HTI.out.hM]; exact hl)
          rw [HTI.out.hM, ← HN8.out] at h
          exact h)
        have hb1 : n * 16 ≤ 140737488355328 := by omega
        have hb2 : n ≤ 140737488355328 := by omega
        have HM : Hid (M2.length = n) := Lib.hid HTI.out.hM
        go_upto_region 15 with (at_builtin; refine wpList_copied' (u := .slice (some ⟨g, 0, none⟩) n n8) rfl _ _ rfl Tryd.underlying25 (.string ⟨#[]⟩) 1 info_str rfl (by decide) (M2.map Value.string) (by simp [Act.eval]) (by simp [Act.eval]) HS.out (str_one _) hb1 hb2 ?_; intro v2 w2' h2 hg2 hat2; obtain ⟨pl, cl, rfl, _⟩ := h2.cells; have H2 := Lib.hid h2; have HBa := Lib.hid (Bk3.below_none hg2); have HAT := Lib.hid hat2; clear h2 hg2 hat2)
        obtain ⟨t0, t1⟩ := HTI.out.dye HBa.out (.slice pl n cl) 7 (fun g' hg' => ⟨by (rcases HAT.out with e | e <;> rw [e] at hg' <;> cases hg'; exact Nat.le_refl _), H2.out.lt hg'⟩)
        have HT0 := Lib.hid t0
        have HP0 : Hid (PL w2' (dyeV col (.slice pl n cl) 7) (.slice pl n cl) M2 7) := Lib.hid ⟨by rw [HM.out]; exact H2.out, fun g' hg' => dyeV_at hg', by rw [HM.out]; exact hl, by omega⟩
        clear t0 t1 HAT
        have HX1 : Hid (Txts w2' (.slice pl n cl) M2) := Lib.hid (held_txts' H2.out (by rw [HM.out]; omega)).2
        have HX2 : Hid (Txts w2' (.slice (some ⟨g, 0, none⟩) n n8) M2) := Lib.hid (held_txts' (HS.out.below HBa.out) (by rw [HM.out]; omega)).2
        have HTB : Hid (Tabs w2') := Lib.hid (HT.out.below HT0.out.bl)
        have HXI : Hid (Ints w2' (.slice (some ⟨gz, 0, none⟩) nz c4) Z) := Lib.hid (wanted_ints HT0.out.wan HNZ.out hzl HIB.out)
        have HXJ : Hid (Ints w2' (.slice q nz cq) Z) := Lib.hid (ints_below HZ.out HT0.out.bl (Nat.le_refl _))
        clear HS HTI H2 HBa
        have CA := Lib.hid (Path_any (.slice (some ⟨g, 0, none⟩) n n8) M2 z1 w2' HTB.out HX2.out)
        have CB := Lib.hid (fun w' (h : Below w2'.heap.size w2' w') => Pathr_any (.slice pl n cl) M2 z1 w' (HX1.out.below h (Nat.le_refl _)))
        have CC := Lib.hid (fun w' (h : Below w2'.heap.size w2' w') => Proof_any (.slice (some ⟨g, 0, none⟩) n n8) M2 z2 w' (HTB.out.below h) (HX2.out.below h (Nat.le_refl _)))
        have CD := Lib.hid (fun w' (h : Below w2'.heap.size w2' w') => Proofr_any (.slice pl n cl) M2 z2 w' (HX1.out.below h (Nat.le_refl _)))
        have CE := Lib.hid (fun w' (h : Below w2'.heap.size w2' w') => Many_own (.slice (some ⟨g, 0, none⟩) n n8) (.slice (some ⟨gz, 0, none⟩) nz c4) M2 Z w' (HTB.out.below h) (HX2.out.below h (Nat.le_refl _)) (ints_below HXI.out h (Nat.le_refl _)) (by rw [← HNZ.out]; exact hzl))
        have CF := Lib.hid (fun w' (h : Below w2'.heap.size w2' w') => Manyr_any (.slice pl n cl) (.slice q nz cq) M2 Z w' (HX1.out.below h (Nat.le_refl _)) (ints_below HXJ.out h (Nat.le_refl _)) (by rw [← HNZ.out]; exact hzl))
        obtain ⟨R1, hR1⟩ : ∃ R, R = pathT M2 z1 := ⟨_, rfl⟩
        obtain ⟨E1, hE1⟩ : ∃ E, E = pathE M2 z1 := ⟨_, rfl⟩
        have hl1 := pathT_len M2 z1
        rw [← hR1] at hl1
        rw [← hR1, ← hE1] at CA CB
        obtain ⟨R2, hR2⟩ : ∃ R, R = proofT M2 z2 := ⟨_, rfl⟩
        obtain ⟨E2, hE2⟩ : ∃ E, E = proofE M2 z2 := ⟨_, rfl⟩
        have hl2 := proofT_len M2 z2
        rw [← hR2] at hl2
        rw [← hR2, ← hE2] at CC CD
        obtain ⟨R3, hR3⟩ : ∃ R, R = manyT M2 Z := ⟨_, rfl⟩
        obtain ⟨E3, hE3⟩ : ∃ E, E = manyE M2 Z := ⟨_, rfl⟩
        have hl3 := manyT_len M2 Z
        rw [← hR3] at hl3
        rw [← hR3, ← hE3] at CE CF
        have hl1 : R1.length ≤ 1048576 := by have := HM.out; omega
        have hl2 : R2.length ≤ 1048576 := by have := HM.out; omega
        have hl3 : R3.length ≤ 1048576 := by have := HM.out; omega
        clear hR1 hE1 hR2 hE2 hR3 hE3 hb1 hb2
        go_upto_region 19 with (first
          | (go_at_call 25; with_reducible refine (CA.out).mono ?_; rintro r wa ⟨x, rfl, ho, hb⟩; have HBa := Lib.hid hb; have HOa := Lib.hid (held_of_owns ho); have HFa := Lib.hid (own_at ho); obtain ⟨pa, ca, rfl, _⟩ := HOa.out.cells; clear hb ho)
          | (go_at_call 26; with_reducible refine (CB.out wa HBa.out).mono ?_; rintro r wb ⟨x, rfl, ho, hb⟩; have HBb := Lib.hid (below_from HBa.out hb HBa.out.size); have HBb1 := Lib.hid hb; have HOb := Lib.hid (held_of_owns ho); obtain ⟨pb, cb, rfl, _⟩ := HOb.out.cells; clear hb ho)
          | (go_at_call 27; with_reducible refine (CC.out wb HBb.out).mono ?_; rintro r wc ⟨x, rfl, ho, hb⟩; have HBc := Lib.hid (below_from HBb.out hb HBb.out.size); have HBc1 := Lib.hid hb; have HOc := Lib.hid (held_of_owns ho); have HFc := Lib.hid (own_at ho); obtain ⟨pc, cc, rfl, _⟩ := HOc.out.cells; clear hb ho)
          | (go_at_call 28; with_reducible refine (CD.out wc HBc.out).mono ?_; rintro r wd ⟨x, rfl, ho, hb⟩; have HBd := Lib.hid (below_from HBc.out hb HBc.out.size); have HBd1 := Lib.hid hb; have HOd := Lib.hid (held_of_owns ho); obtain ⟨pd, cd, rfl, _⟩ := HOd.out.cells; clear hb ho))
        have HBdd : Hid (Below w2'.heap.size w2' wd.drew) := Lib.hid HBd.out.drew
        go_region_law (first
          | (go_simp; go_at_call 29; with_reducible refine (CE.out wd.drew HBdd.out).mono ?_; rintro r we ⟨pe, rfl, htx, hfr, hb, cle, hoe⟩; have HBe := Lib.hid (below_from HBdd.out hb HBdd.out.size); have HBe1 := Lib.hid (Bk3.below_drew hb); have HOe := Lib.hid hoe; clear htx hfr hb hoe)
          | fail)
        go_upto_region 21 with (first
          | (go_at_call 30; with_reducible refine (CF.out we HBe.out).mono ?_; rintro r wf ⟨x, rfl, ho, hb⟩; have HBf := Lib.hid (below_from HBe.out hb HBe.out.size); have HBf1 := Lib.hid hb; have HOf := Lib.hid (held_of_owns ho); obtain ⟨pf, cf, rfl, _⟩ := HOf.out.cells; clear hb ho))
        obtain ⟨colX, ti5, pl0, pl1, pl2, pl3⟩ := HT0.out.three HP0.out HBa.out HBb1.out HBc1.out HBd1.out HBe1.out HOa.out HFa.out HOc.out HFc.out (held_clip HOe.out).1 (fun g' hg' => ⟨(held_clip HOe.out).2 g' hg', (held_clip HOe.out).1.lt hg'⟩) hl1 hl2 hl3
        have HTI6 := Lib.hid (ti5.below HBf1.out)
        have HP0 := Lib.hid (pl0.below HBf1.out)
        have HP1 := Lib.hid (pl1.below HBf1.out)
        have HP2 := Lib.hid (pl2.below HBf1.out)
        have HP3 := Lib.hid (pl3.below HBf1.out)
        have hq1 : Txts wf (.slice pb R1.length cb) R1 := (held_txts' ((((HOb.out.below HBc1.out).below HBd1.out).below HBe1.out).below HBf1.out) (by omega)).2
        have hq2 : Txts wf (.slice pd R2.length cd) R2 := (held_txts' ((HOd.out.below HBe1.out).below HBf1.out) (by omega)).2
        have hq3 : Txts wf (.slice pf R3.length cf) R3 := (held_txts' HOf.out (by omega)).2
        have HQ1 := Lib.hid hq1
        have HQ2 := Lib.hid hq2
        have HQ3 := Lib.hid hq3
        have HS1 : Hid (∀ w', Below wf.heap.size wf w' → _) := Lib.hid (fun w' hb => same3_true (.slice pa R1.length ca) (.slice pb R1.length cb) R1 w' ((held_txts' (HP1.out.below hb).he (by omega)).2) (HQ1.out.below hb (Nat.le_refl _)) hl1)
        have HS2 : Hid (∀ w', Below wf.heap.size wf w' → _) := Lib.hid (fun w' hb => same3_true (.slice pc R2.length cc) (.slice pd R2.length cd) R2 w' ((held_txts' (HP2.out.below hb).he (by omega)).2) (HQ2.out.below hb (Nat.le_refl _)) hl2)
        have HS3 : Hid (∀ w', Below wf.heap.size wf w' → _) := Lib.hid (fun w' hb => same3_true (.slice pe R3.length R3.length) (.slice pf R3.length cf) R3 w' ((held_txts' (HP3.out.below hb).he (by omega)).2) (HQ3.out.below hb (Nat.le_refl _)) hl3)
        have ht100 : 3 * t + 2 ≤ 1000 := by omega
        clear ti5 pl0 pl1 pl2 pl3 hq1 hq2 hq3 CA CB CC CD CE CF HBa HBb HBb1 HBc HBc1 HBd HBd1 HBdd HBe HBe1 HBf HBf1 HOa HOb HOc HOd HOe HOf HFa HFc HT0 HX1 HX2 HTB HXI HXJ HQ1 HQ2 HQ3
        go_upto_region 24 with (first
          | (go_at_call 31; with_reducible refine (HS1.out wf (Below.refl _ _)).mono ?_; rintro r wg ⟨rfl, hb⟩; have HBg := Lib.hid hb; clear hb HS1)
          | (go_at_call 31; with_reducible refine (HS2.out wg HBg.out).mono ?_; rintro r wh ⟨rfl, hb⟩; have HBh := Lib.hid (below_from HBg.out hb HBg.out.size); clear hb HS2)
          | (go_at_call 31; with_reducible refine (HS3.out wh HBh.out).mono ?_; rintro r wi ⟨rfl, hb⟩; have HBi := Lib.hid (below_from HBh.out hb HBh.out.size); clear hb HS3))
        have HTI7 := Lib.hid (HTI6.out.below HBi.out)
        have HP0 := Lib.hid (HP0.out.below HBi.out)
        have HP1 := Lib.hid (HP1.out.below HBi.out)
        have HP2 := Lib.hid (HP2.out.below HBi.out)
        have HP3 := Lib.hid (HP3.out.below HBi.out)
        have CT1 := Lib.hid (HTI7.out.takes HP1.out (by omega))
        clear HTI6 HBg HBh HBi
        go_upto_region 27 with (first
          | (go_at_call 32; with_reducible refine (CT1.out).mono ?_; rintro r wj ⟨rfl, colJ, VJ, wlJ, tj, oj, cj⟩; have CT2 := Lib.hid (tj.takes (HP2.out.only oj cj) (by omega)); have HP0 := Lib.hid (HP0.out.only oj cj); have HP3 := Lib.hid (HP3.out.only oj cj); clear CT1 tj oj cj)
          | (go_at_call 32; with_reducible refine (CT2.out).mono ?_; rintro r wk ⟨rfl, colK, VK, wlK, tk, ok, ck⟩; have CT3 := Lib.hid (tk.takes (HP3.out.only ok ck) (by omega)); have HP0 := Lib.hid (HP0.out.only ok ck); clear CT2 tk ok ck)
          | (go_at_call 32; with_reducible refine (CT3.out).mono ?_; rintro r wl9 ⟨rfl, colL, VL, wlL, tl, ol, cl9⟩; have HTI8 := Lib.hid tl; have HP0 := Lib.hid (HP0.out.only ol cl9); clear CT3 tl ol cl9))
        have hsr : SRow wl9 g (fillS M2 8) := HTI8.out.row
        have HLT9 : Hid (Txts wl9 (.slice pl n cl) M2) := Lib.hid (by
          have h := (held_txts' HP0.out.he (by rw [HM.out]; omega)).2
          exact h)
        have CK := Lib.hid (kept3_any (.slice pl n cl) M2 g wl9 HLT9.out hsr (by rw [HM.out]; exact hl))
        rw [HM.out, ← HN8.out] at CK
        have CJ : Hid (∀ w', Below wl9.heap.size wl9 w' → _) := Lib.hid (fun w' hb => sameInts3_any (.slice (some ⟨gz, 0, none⟩) nz c4) (.slice q nz cq) Z w' (wanted_ints (HTI8.out.below hb).wan HNZ.out hzl HIB.out) (ints_below HZ.out (HTI8.out.below hb).bl (Nat.le_refl _)) (by rw [← HNZ.out]; exact hzl))
        clear hsr HLT9
        go_upto_block 6 with (first
          | (go_at_call 24; with_reducible refine (CK.out).mono ?_; rintro r wm ⟨rfl, hb⟩; have HBm := Lib.hid hb; clear hb)
          | (go_at_call 33; with_reducible refine (CJ.out wm HBm.out).mono ?_; rintro r wn ⟨rfl, hb⟩; have HBn := Lib.hid (below_from HBm.out hb HBm.out.size); clear hb))
        have HTI9 := Lib.hid (HTI8.out.below HBn.out)
        clear HTI8 HP0 HP1 HP2 HP3 CK CJ HBm HBn HTI7
        go_wp2_with fail
        go_loop [33, 34] (fun x y => ∃ i : Nat, nz ≤ i ∧ i ≤ nz8 ∧ x = .bool true ∧ y = .int .i64 i) (fun _ y => nz8 - (intOf y).toNat)
        case atStart => exact ⟨nz, by omega, by have := HNZ8.out; omega, rfl, rfl⟩
        case round =>
          obtain ⟨i, hi1, hi2, rfl, rfl⟩ := hrel
          by_cases hlt : i < nz8
          · have hlti : (i : Int) < (nz8 : Int) := by omega
            have hi0 : (0 : Int) ≤ (i : Int) := by omega
            have hc77 := wanted_77 HTI9.out.wan HNZ.out hi1 (by have := HNZ8.out; omega)
            have HLT := Lib.hid hlt
            clear hlt
            go_wp2_with fail
            exact ⟨⟨i + 1, by omega, by have := HLT.out; omega, rfl, rfl⟩, (by show nz8 - ((i : Int) + 1).toNat < nz8 - (i : Int).toNat; have := HLT.out; omega)⟩
          · have hlti : ¬ ((i : Int) < (nz8 : Int)) := by omega
            clear hlt
            go_wp2_with fail
            exact ⟨⟨t + 1, by omega, rfl, Lib.hid ⟨M2, _, _, _, _, by rw [show 3 * (t + 1) = 3 * t + 1 + 1 + 1 by omega]; exact HTI9.out⟩⟩, (by show 3 - ((t : Int) + 1).toNat < 3 - (t : Int).toNat; omega)⟩
    · have hti : ¬ (t : Int) < 3 := by omega
      have hte : 3 * t ≤ 1000 := by omega
      have CT := Lib.hid (turned3_any w wr HT.out HTI.out.bl g gz nz c4 HTI.out.lo HTI.out.ne M n HTI.out.hM hl HTI.out.row Z (held_pre (k := 8) (by rw [← List.map_append]; exact HTI.out.wan) (by rw [List.length_map]; exact HNZ.out.symm)) HIB.out (by rw [← HNZ.out]; exact hzl) z1 z2)
      rw [← HN8.out] at CT
      have CS := Lib.hid (fun w' (h : wr.grownBy w' (some g)) => HTI.out.still h hte)
      clear ht3
      go_wp2_with (first
        | (go_at_call 34; with_reducible refine (CT.out).mono ?_; rintro r wa ⟨rfl, hg⟩; have HGa := Lib.hid hg; clear hg)
        | (go_at_call 35; with_reducible refine (CS.out wa HGa.out).mono ?_; rintro r wb ⟨rfl, hb⟩; have HBb := Lib.hid hb; clear hb))
      go_ret
      exact ⟨rfl, HBb.out⟩
end Go.Proofs.YtejdpahgofhioaaDoor
