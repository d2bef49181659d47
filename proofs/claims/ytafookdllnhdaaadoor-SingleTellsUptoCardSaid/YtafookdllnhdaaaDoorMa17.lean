/- Shape, walked: Path, of right arguments. -/
import Derived.Test.YtafookdllnhdaaaDoorMa16
import Derived.Test.YtafookdllnhdaaaDoorMa4
namespace Go.Scr
theorem wayT_length (n : Nat) : ∀ (b lo hi : Nat), (wayT b n lo hi).length ≤ n + 1 := by
  induction n using Nat.strongRecOn with
  | ind n ih =>
    intro b lo hi
    by_cases h : n ≤ 1
    · rw [wayT_one lo hi h]; simp
    · have h1 : 1 < n := by omega
      have hs := spl_lt (show 2 ≤ n by omega)
      by_cases h2 : hi ≤ b + spl n
      · rw [wayT_left h1 h2, List.length_cons]
        have := ih _ hs.2.1 b lo hi
        omega
      · by_cases h3 : b + spl n ≤ lo
        · rw [wayT_right h1 h2 h3, List.length_cons]
          have := ih (n - spl n) (by omega) (b + spl n) lo hi
          omega
        · rw [wayT_stop h1 h2 h3]; simp
end Go.Scr
namespace Go.Proofs.YtafookdllnhdaaaDoor
open Go.RowKit Go.Scr Go.Shelf
set_option linter.unusedVariables false
attribute [local go_sem] Oper.semAt_some

set_option maxRecDepth 100000 in
set_option maxHeartbeats 4000000 in
theorem path_yes (n i : Nat) (w : World) (h1 : i < n) (h2 : n ≤ 1099511627776) :
    Calls Tryd.prog 54 #[.int .i64 (n : Int), .int .i64 (i : Int)] w fun r w' => (∃ p c, r = .returned (.tuple #[.slice p (pathT 0 n i).length c, .int .i64 0]) ∧ Held w' 46 2 (.slice p (pathT 0 n i).length c) (pathT 0 n i).length (prsV (pathT 0 n i).reverse) ∧ ∀ g, (Value.slice p (pathT 0 n i).length c).ownBlock = some g → w.heap.size ≤ g) ∧ Below w.heap.size w w' := by
  refine (callsIn_wide (n := 3)).1 ?_
  have CS := Lib.hid (fun w' => size_yes (n : Int) w' (by omega) (by omega))
  have CW := Lib.hid (fun w' => way_any (n : Int) (i : Int) ((i : Int) + 1) w')
  have e1 : ¬ (i : Int) < 0 := by omega
  have e2 : ¬ (n : Int) ≤ (i : Int) := by omega
  have e3 : (i : Int) ≤ 1099511627776 := by omega
  have HH : Hid (i < n ∧ n ≤ 1099511627776) := Lib.hid ⟨h1, h2⟩
  clear h1 h2
  refine callsIn_of_wp_marks Tryd.func54 rfl trivial ?_ rfl
  simp only [Tryd.ntmps54, List.size_toArray, List.length_cons, List.length_nil, Nat.reduceAdd, Nat.reduceSub, Array.replicate_succ, Array.replicate_zero, List.push_toArray, List.append_toArray, List.nil_append, List.cons_append]
  have hn1 : 1 ≤ 3 := by decide
  gi_wp2_with (first
    | (refine ⟨trivial, ?_⟩; gi_at_call 74; refine (callsIn_wide.2 (CS.out _)).mono ?_; rintro r wx ⟨rfl, hwx⟩; rw [hwx]; clear hwx wx)
    | (refine ⟨trivial, ?_⟩; gi_at_call 75; refine (callsIn_wide.2 (CW.out _)).mono ?_; rintro r wx ⟨rfl, hwx⟩; rw [hwx]; clear hwx wx))
  obtain ⟨b0, hb0⟩ : ∃ x, x = w.heap.size := ⟨_, rfl⟩
  obtain ⟨w4, hw4⟩ : ∃ x, x = (((w.alloc (.cells #[.int .i64 (i : Int)] 3)).alloc (.cells #[.slice none 0 0] 86)).alloc (.cells #[.int .i64 (n : Int)] 3)).alloc (.cells #[.int .i64 (i : Int), .int .i64 ((i : Int) + 1)] 46) := ⟨_, rfl⟩
  have hsz : w4.heap.size = b0 + 4 := by rw [hw4, hb0]; simp
  have hbel : Below w.heap.size w w4 := by rw [hw4]; exact ((((Below.refl _ _).alloc (Nat.le_refl _) _).alloc (by simp) _).alloc (by simp; omega) _).alloc (by simp; omega) _
  have r0 : w4.heap[b0]? = some (.cells #[.int .i64 (i : Int)] 3 (0, 0)) := by rw [hw4, hb0]; exact blk_alloc (blk_alloc (blk_alloc (heap_alloc_new w _)))
  have r1 : w4.heap[b0 + 1]? = some (.cells #[.slice none 0 0] 86 (0, 0)) := by rw [hw4, hb0]; exact blk_alloc (blk_alloc (heap_alloc_at _ _ _ (by simp)))
  have r2 : w4.heap[b0 + 2]? = some (.cells #[.int .i64 (n : Int)] 3 (0, 0)) := by rw [hw4, hb0]; exact blk_alloc (heap_alloc_at _ _ _ (by simp))
  have r3 : spRow w4 (b0 + 3) i (i + 1) := by rw [hw4, hb0]; exact heap_alloc_at _ _ _ (by simp)
  rw [← hb0]
  change Code.wpIn _ _ _ _ _ _ ((((w.alloc (.cells #[.int .i64 (i : Int)] 3)).alloc (.cells #[.slice none 0 0] 86)).alloc (.cells #[.int .i64 (n : Int)] 3)).alloc (.cells #[.int .i64 (i : Int), .int .i64 ((i : Int) + 1)] 46))
  rw [← hw4]
  have HSZ := Lib.hid hsz
  have HPI : Hid (PI w w4 b0 (b0 + 1) w4.heap.size i []) := Lib.hid ⟨r0, ⟨_, r1, ⟨rfl, .inl ⟨rfl, rfl⟩⟩, fun g hg => by cases hg⟩, hbel, by omega, by omega, by omega, by omega, by omega⟩
  have HR2 := Lib.hid r2
  have HR3 := Lib.hid r3
  have HBEL := Lib.hid hbel
  have HB0 := Lib.hid hb0
  clear hw4 hsz r0 r1 r2 r3 hbel hb0 e1 e2
  refine wpIn_rangeQ (α := Nat × Nat) rfl hn1 (gf := 85) (lb := #[.pointer (some ⟨b0 + 2, 0, none⟩), .pointer (some ⟨b0 + 3, 0, none⟩)]) rfl trivial (enters_of Tryd.func85 (by kernel_rfl) rfl)
    (encs := fun x => #[spV x.1 x.2]) (k := 1) (S := fun xs => xs = wayT 0 n i (i + 1)) (Sp := fun pre => pre <+: wayT 0 n i (i + 1)) (Ok := fun pre x => (pre ++ [x]) <+: wayT 0 n i (i + 1)) (cap := fun j => j = b0 + 3) (fun j hj => by rw [hj, HSZ.out]; omega)
    (fun W hb hs => way_seq 2 (by decide) n i (i + 1) (b0 + 2) (b0 + 3) W HH.out.2 (by have := HH.out; omega) (by have := HH.out; omega) ((hb.block _ (by rw [HSZ.out]; omega)).trans HR2.out) (HR3.out.keep (hb.block _ HR3.out.lt))) (fun _ => rfl)
    (fun pre W => (∀ x ∈ pre, 1 < x.2 - x.1) ∧ PI w W b0 (b0 + 1) w4.heap.size i (pre.map (sideT i)))
    (fun c pre W => c = .exit 1 ∧ ∃ q x, pre = q ++ [x] ∧ ¬ 1 < x.2 - x.1 ∧ (∀ x ∈ q, 1 < x.2 - x.1) ∧ PI w W b0 (b0 + 1) w4.heap.size i (q.map (sideT i)))
    (fun s A C h hc => ⟨h.1, h.2.chg hc (fun j hj => .inl hj)⟩)
    (fun c s A C h hc => by
      obtain ⟨h1, q, x, h2, h3, h4, h5⟩ := h
      exact ⟨h1, q, x, h2, h3, h4, h5.chg hc (fun j hj => .inl hj)⟩)
    ⟨(fun y hy => by cases hy), HPI.out⟩ ?round ?done ?stop
  case round =>
    rintro l pre ⟨xb, xe⟩ W ⟨hall, hpi⟩ hsW hlen
    have HALL := Lib.hid hall
    have HP := Lib.hid hpi
    have hln : pre.length ≤ 1099511627777 := by have h := hlen.length_le; have := wayT_length n 0 i (i + 1); have := HH.out; rw [List.length_append] at h; omega
    obtain ⟨hx1, hx2, hx3⟩ := wayT_mem n 0 i (i + 1) (by have := HH.out; omega) _ (hlen.subset (List.mem_append_right _ (List.mem_singleton.2 rfl)))
    have HX : Hid (xb < xe ∧ xe ≤ 1099511627776) := Lib.hid ⟨hx2, by have := HH.out; omega⟩
    clear hx1 hx2 hx3
    clear hall hpi hlen
    have HSW := Lib.hid hsW
    clear hsW
    gi_wp2
    refine ⟨Kq.of_chg (Chg.alloc (fun _ => False) _ _) (fun _ _ h => h), ?_⟩
    intro w2 hc hs2
    obtain ⟨xb0, hxb0⟩ : ∃ x, x = W.heap.size := ⟨_, rfl⟩
    have hszA : (W.alloc (.cells #[.int .i64 (xb : Int), .int .i64 (xe : Int)] 46)).heap.size = W.heap.size + 1 := by simp
    have hpA : PI w (W.alloc (.cells #[.int .i64 (xb : Int), .int .i64 (xe : Int)] 46)) b0 (b0 + 1) w4.heap.size i (pre.map (sideT i)) := HP.out.chg (Chg.alloc (fun _ => False) _ _) (fun j hj => hj.elim)
    have hp2 := hpA.chg hc (fun j hj => .inl ⟨by omega, by omega⟩)
    have q2 : spRow w2 xb0 xb xe := by
      have : spRow (W.alloc (.cells #[.int .i64 (xb : Int), .int .i64 (xe : Int)] 46)) xb0 xb xe := by rw [hxb0]; exact heap_alloc_new W _
      exact this.keep (hc.same _ (by rw [hszA]; omega) (by have := HSW.out; omega))
    have HXB : Hid (w4.heap.size + 3 ≤ xb0 ∧ xb0 < w2.heap.size) := Lib.hid ⟨by rw [hxb0]; exact HSW.out, by rw [hs2, hszA]; omega⟩
    rw [← hxb0]
    obtain ⟨x0, x1, _⟩ := q2.at
    have HP2 := Lib.hid hp2
    have HQ2 := Lib.hid q2
    clear hc hs2 hxb0 hszA hpA hp2 q2 HP
    have hx12 := HX.out
    obtain ⟨ln, hln2⟩ : ∃ x, x = xe - xb := ⟨_, rfl⟩
    have hsub : (xe : Int) - (xb : Int) = (ln : Int) := by omega
    have hlb : ln ≤ 1099511627776 := by omega
    by_cases hl1 : 1 < ln
    · have hne : ((ln : Int) == 1) = false := by rw [beq_eq_false_iff_ne]; omega
      obtain ⟨md, hmd⟩ : ∃ x, x = xb + spl ln := ⟨_, rfl⟩
      have hsp := spl_lt (show 2 ≤ ln by omega)
      have CH : Hid (∀ w', Calls Tryd.prog 76 #[.agg #[.int .i64 (xb : Int), .int .i64 (xe : Int)]] w' fun r w2 => r = .returned (.tuple #[spV xb md, spV md xe]) ∧ Below w'.heap.size w' w2) := Lib.hid (fun w' => by
        have := halves_any xb xe w' (by omega) (by omega)
        rwa [← hln2, ← hmd] at this)
      have HMD : Hid (md = xb + spl (xe - xb) ∧ ln = xe - xb ∧ xb < md ∧ md < xe) := Lib.hid ⟨by rw [hmd, hln2], hln2, by omega, by omega⟩
      clear hx12 hln2 hmd hsp
      obtain ⟨v, p1, p2, p3⟩ := HP2.out.bx
      obtain ⟨vp, vc, rfl, _⟩ := p2.cells
      have HV : Hid (b0 + 1 < w2.heap.size ∧ w2.heap[b0 + 1]? = some (.cells #[.slice vp (pre.map (sideT i)).length vc] 86 (0, 0)) ∧ Held w2 46 2 (.slice vp (pre.map (sideT i)).length vc) (pre.map (sideT i)).length (prsV (pre.map (sideT i))) ∧ ∀ g, (Value.slice vp (pre.map (sideT i)).length vc).ownBlock = some g → w4.heap.size + 3 ≤ g) := Lib.hid ⟨(Array.getElem?_eq_some_iff.mp p1).1, p1, p2, p3⟩
      have HONE : Hid (∀ x y : Int, ∀ u ∈ [Value.int .i64 x, Value.int .i64 y], u.oneCell' = true) := Lib.hid (fun x y u hu => by
        rcases List.mem_cons.1 hu with rfl | hu
        · rfl
        · rw [List.mem_singleton.1 hu]; rfl)
      have hlm : (pre.map (sideT i)).length = pre.length := List.length_map ..
      have hb1 : ((pre.map (sideT i)).length + 1) * 16 ≤ 140737488355328 := by omega
      have hb2 : (pre.map (sideT i)).length + 1 ≤ 140737488355328 := by omega
      clear p1 p2 p3 hlm
      by_cases him : i < md
      · have himi : (i : Int) < (md : Int) := by omega
        have HIM := Lib.hid him
        clear him
        gi_wp2_with (first
          | (refine ⟨trivial, ?_⟩; gi_at_call 76; refine (CallsIn.inRound l (callsIn_wide.2 (CH.out _))).mono ?_; rintro r w3 ⟨rfl, hb3⟩; have HB4 : Hid (∀ x y z u : Value, Below w2.heap.size w2 ((w3.alloc (.cells #[x, y] 46)).alloc (.cells #[z, u] 46)) ∧ PI w ((w3.alloc (.cells #[x, y] 46)).alloc (.cells #[z, u] 46)) b0 (b0 + 1) w4.heap.size i (pre.map (sideT i)) ∧ ((w3.alloc (.cells #[x, y] 46)).alloc (.cells #[z, u] 46)).heap[b0 + 1]? = some (.cells #[.slice vp (pre.map (sideT i)).length vc] 86 (0, 0)) ∧ Held ((w3.alloc (.cells #[x, y] 46)).alloc (.cells #[z, u] 46)) 46 2 (.slice vp (pre.map (sideT i)).length vc) (pre.map (sideT i)).length (prsV (pre.map (sideT i)))) := Lib.hid (fun x y z u => by
            have hb4 : Below w2.heap.size w2 ((w3.alloc (.cells #[x, y] 46)).alloc (.cells #[z, u] 46)) := (hb3.alloc hb3.size _).alloc (by have := hb3.size; simp; omega) _
            exact ⟨hb4, HP2.out.chg (Chg.of_below (Q := fun _ => False) hb4) (fun j hj => hj.elim), (hb4.block _ HV.out.1).trans HV.out.2.1, HV.out.2.2.1.below hb4⟩); have y0 : ∀ x y z u : Value, ((w3.alloc (.cells #[x, y] 46)).alloc (.cells #[z, u] 46)).cell? ⟨b0, 0, none⟩ = some (.int .i64 (i : Int)) := fun x y z u => cell_of_row _ _ _ _ _ _ (HB4.out x y z u).2.1.ix; have y1 : ∀ x y z u : Value, ((w3.alloc (.cells #[x, y] 46)).alloc (.cells #[z, u] 46)).cell? ⟨b0 + 1, 0, none⟩ = some (.slice vp (pre.map (sideT i)).length vc) := fun x y z u => cell_of_row _ _ _ _ _ _ (HB4.out x y z u).2.2.1; clear hb3)
          | (gi_at_builtin; refine wpListIn_grew (v := .slice vp (pre.map (sideT i)).length vc) (l := prsV (pre.map (sideT i))) rfl _ _ rfl Tryd.underlying86 (.agg #[.int .i64 0, .int .i64 0]) 2 info_spanP rfl (by decide) [.int .i64 (md : Int), .int .i64 (xe : Int)] 1 (by simp [Act.eval]) (by simp [Act.eval]) (HB4.out _ _ _ _).2.2.2 rfl rfl (by decide) (HONE.out _ _) hb1 hb2 ?_; intro v5 w5 hg5; obtain ⟨p5, c5, rfl, _⟩ := hg5.held.cells; obtain ⟨hpp, hkq, hc5, hf5⟩ := (HB4.out _ _ _ _).2.1.push (x := (md, xe)) (cp := b0 + 3) (HB4.out _ _ _ _).2.2.1 HV.out.2.2.2 (Nat.le_trans (show w4.heap.size + 3 ≤ w2.heap.size by have := HXB.out; omega) (HB4.out _ _ _ _).1.size) (by rw [HSZ.out]; omega) (by omega) hg5; have HPP := Lib.hid hpp; have HKQ := Lib.hid hkq; clear hpp hkq hg5))
        have hside : sideT i (xb, xe) = (md, xe) := by
          unfold sideT
          simp only []
          rw [← HMD.out.1, if_pos HIM.out]
        refine ⟨?_, ?_, ?_⟩
        · exact (Kq.of_chg (Chg.of_below (HB4.out _ _ _ _).1) (fun _ _ h => h : ∀ j, _ → ¬ (fun _ : Nat => False) j)).trans (by have h := HKQ.out; rw [List.length_map] at h; exact h)
        · intro y hy
          rcases List.mem_append.1 hy with hy | hy
          · exact HALL.out y hy
          · rw [List.mem_singleton.1 hy]
            show 1 < xe - xb
            have := HMD.out
            omega
        · rw [List.map_append, List.map_cons, List.map_nil, hside]
          have h := HPP.out
          rw [List.length_map] at h
          exact h
      · have himi : ¬ (i : Int) < (md : Int) := by omega
        have HIM := Lib.hid him
        clear him
        gi_wp2_with (first
          | (refine ⟨trivial, ?_⟩; gi_at_call 76; refine (CallsIn.inRound l (callsIn_wide.2 (CH.out _))).mono ?_; rintro r w3 ⟨rfl, hb3⟩; have HB4 : Hid (∀ x y z u : Value, Below w2.heap.size w2 ((w3.alloc (.cells #[x, y] 46)).alloc (.cells #[z, u] 46)) ∧ PI w ((w3.alloc (.cells #[x, y] 46)).alloc (.cells #[z, u] 46)) b0 (b0 + 1) w4.heap.size i (pre.map (sideT i)) ∧ ((w3.alloc (.cells #[x, y] 46)).alloc (.cells #[z, u] 46)).heap[b0 + 1]? = some (.cells #[.slice vp (pre.map (sideT i)).length vc] 86 (0, 0)) ∧ Held ((w3.alloc (.cells #[x, y] 46)).alloc (.cells #[z, u] 46)) 46 2 (.slice vp (pre.map (sideT i)).length vc) (pre.map (sideT i)).length (prsV (pre.map (sideT i)))) := Lib.hid (fun x y z u => by
            have hb4 : Below w2.heap.size w2 ((w3.alloc (.cells #[x, y] 46)).alloc (.cells #[z, u] 46)) := (hb3.alloc hb3.size _).alloc (by have := hb3.size; simp; omega) _
            exact ⟨hb4, HP2.out.chg (Chg.of_below (Q := fun _ => False) hb4) (fun j hj => hj.elim), (hb4.block _ HV.out.1).trans HV.out.2.1, HV.out.2.2.1.below hb4⟩); have y0 : ∀ x y z u : Value, ((w3.alloc (.cells #[x, y] 46)).alloc (.cells #[z, u] 46)).cell? ⟨b0, 0, none⟩ = some (.int .i64 (i : Int)) := fun x y z u => cell_of_row _ _ _ _ _ _ (HB4.out x y z u).2.1.ix; have y1 : ∀ x y z u : Value, ((w3.alloc (.cells #[x, y] 46)).alloc (.cells #[z, u] 46)).cell? ⟨b0 + 1, 0, none⟩ = some (.slice vp (pre.map (sideT i)).length vc) := fun x y z u => cell_of_row _ _ _ _ _ _ (HB4.out x y z u).2.2.1; clear hb3)
          | (gi_at_builtin; refine wpListIn_grew (v := .slice vp (pre.map (sideT i)).length vc) (l := prsV (pre.map (sideT i))) rfl _ _ rfl Tryd.underlying86 (.agg #[.int .i64 0, .int .i64 0]) 2 info_spanP rfl (by decide) [.int .i64 (xb : Int), .int .i64 (md : Int)] 1 (by simp [Act.eval]) (by simp [Act.eval]) (HB4.out _ _ _ _).2.2.2 rfl rfl (by decide) (HONE.out _ _) hb1 hb2 ?_; intro v5 w5 hg5; obtain ⟨p5, c5, rfl, _⟩ := hg5.held.cells; obtain ⟨hpp, hkq, hc5, hf5⟩ := (HB4.out _ _ _ _).2.1.push (x := (xb, md)) (cp := b0 + 3) (HB4.out _ _ _ _).2.2.1 HV.out.2.2.2 (Nat.le_trans (show w4.heap.size + 3 ≤ w2.heap.size by have := HXB.out; omega) (HB4.out _ _ _ _).1.size) (by rw [HSZ.out]; omega) (by omega) hg5; have HPP := Lib.hid hpp; have HKQ := Lib.hid hkq; clear hpp hkq hg5))
        have hside : sideT i (xb, xe) = (xb, md) := by
          unfold sideT
          simp only []
          rw [← HMD.out.1, if_neg HIM.out]
        refine ⟨?_, ?_, ?_⟩
        · exact (Kq.of_chg (Chg.of_below (HB4.out _ _ _ _).1) (fun _ _ h => h : ∀ j, _ → ¬ (fun _ : Nat => False) j)).trans (by have h := HKQ.out; rw [List.length_map] at h; exact h)
        · intro y hy
          rcases List.mem_append.1 hy with hy | hy
          · exact HALL.out y hy
          · rw [List.mem_singleton.1 hy]
            show 1 < xe - xb
            have := HMD.out
            omega
        · rw [List.map_append, List.map_cons, List.map_nil, hside]
          have h := HPP.out
          rw [List.length_map] at h
          exact h
    · have hl1e : ln = 1 := by omega
      have hne : ((ln : Int) == 1) = true := by rw [hl1e]; rfl
      have HL1 : Hid (¬ 1 < xe - xb) := Lib.hid (by omega)
      clear hx12 hln2 hl1 hl1e
      gi_wp2
      exact ⟨Kq.refl _ _, rfl, pre, (xb, xe), rfl, HL1.out, HALL.out, HP2.out⟩
  case done =>
    rintro D xs W rfl rfl ⟨hall, hpi⟩ hK
    obtain ⟨W', a1, _, _⟩ := way_path n 0 i HH.out.1
    rw [Nat.zero_add] at a1
    have := hall (i, i + 1) (by rw [a1]; simp)
    simp at this
  case stop =>
    rintro D c pre W rfl hpre ⟨rfl, q, x, rfl, hx, hq, hpi⟩ hK
    obtain ⟨W', a1, a2, a3⟩ := way_path n 0 i HH.out.1
    rw [Nat.zero_add] at a1 a2
    have hqW : q = W' := by
      rw [a1] at hpre
      obtain ⟨t, ht⟩ := hpre
      rcases List.append_eq_append_iff.1 (show q ++ ([x] ++ t) = W' ++ [(i, i + 1)] by rw [← List.append_assoc]; exact ht) with ⟨u, h1, h2⟩ | ⟨u, h1, h2⟩
      · cases u with
        | nil => simpa using h1.symm
        | cons y u =>
          rw [List.singleton_append, List.cons_append] at h2
          have : y = x := (List.cons.inj h2).1.symm
          subst this
          exact absurd (a3 y (by rw [h1]; simp)) hx
      · cases u with
        | nil => simpa using h1
        | cons y u =>
          have hl := congrArg List.length h2
          simp at hl
    subst hqW
    have hpl : (pathT 0 n i).length ≤ n := by
      have h := wayT_length n 0 i (i + 1)
      rw [a1, List.length_append, List.length_singleton] at h
      rw [a2, List.length_map]
      omega
    rw [← a2] at hpi
    obtain ⟨v, p1, p2, p3⟩ := hpi.bx
    obtain ⟨vp, vc, rfl, hvc, _⟩ := p2.cells
    have HREV : Hid (Calls Tryd.prog 77 #[.slice vp (pathT 0 n i).length vc] W fun r w' => r = .returned (.tuple #[]) ∧ Held w' 46 2 (.slice vp (pathT 0 n i).length vc) (pathT 0 n i).length (prsV (pathT 0 n i).reverse) ∧ Chg (fun j => (Value.slice vp (pathT 0 n i).length vc).ownBlock = some j) W w') := Lib.hid (reverse_any _ W p2 (by have := HH.out; omega))
    have HCL : Hid (∀ w', Calls Tryd.prog 78 #[.slice vp (pathT 0 n i).length vc] w' fun e w2 => e = .returned (.slice vp (pathT 0 n i).length (pathT 0 n i).length) ∧ w2 = w') := Lib.hid (fun w' => clipS_any vp _ _ w' hvc)
    have hown : ∀ g, (Value.slice vp (pathT 0 n i).length (pathT 0 n i).length).ownBlock = some g → (Value.slice vp (pathT 0 n i).length vc).ownBlock = some g := fun g hg => by
      cases vp with
      | none => cases hg
      | some a => exact hg
    have HOWN := Lib.hid hown
    have HP3 := Lib.hid p3
    have HPF := Lib.hid hpi
    have HKK := Lib.hid hK
    have c1 : W.cell? ⟨b0 + 1, 0, none⟩ = some (.slice vp (pathT 0 n i).length vc) := cell_of_row _ _ _ _ _ _ p1
    have HP1 := Lib.hid p1
    clear hpre hx hq hpi hK a1 a2 a3 hpl p1 p2 p3 hvc hown
    obtain ⟨m, hm⟩ : ∃ m, m = (pathT 0 n i).length := ⟨_, rfl⟩
    rw [← hm] at HREV HCL HOWN HP3 c1 HP1
    have HM := Lib.hid hm
    clear hm
    gi_wp2_with (first
      | (refine ⟨trivial, ?_⟩; gi_at_call 77; refine (callsIn_wide.2 HREV.out).mono ?_; rintro r wr ⟨rfl, hd, hc⟩; have hk1 := (hc.same _ (Array.getElem?_eq_some_iff.mp HP1.out).1 (fun e => by have := HP3.out _ e; have := HSZ.out; omega)).trans HP1.out; have c2 : wr.cell? ⟨b0 + 1, 0, none⟩ = some (.slice vp m vc) := cell_of_row _ _ _ _ _ _ hk1; have HD := Lib.hid hd; have HC := Lib.hid hc; clear hk1 hd hc)
      | (refine ⟨trivial, ?_⟩; gi_at_call 78; refine (callsIn_wide.2 (HCL.out _)).mono ?_; rintro r wx ⟨rfl, hwx⟩; rw [hwx]; clear hwx wx))
    have hkd : wr.heap[w4.heap.size]? = W.heap[w4.heap.size]? := HC.out.same _ (Array.getElem?_eq_some_iff.mp HKK.out).1 (fun e => by have := HP3.out _ e; omega)
    refine ⟨by simp, .inl ⟨_, _, rfl, run_takeDeferred (hkd.trans HKK.out), ?_⟩⟩
    have hch : Chg (fun j => w4.heap.size ≤ j) W (wr.putObj w4.heap.size (.deferred none)) := (HC.out.mono (fun j e => by have := HP3.out _ e; omega)).trans (Chg.put _ _ (.deferred none) (Nat.le_refl _))
    have hfar : ∀ g, (Value.slice vp m vc).ownBlock = some g → (wr.putObj w4.heap.size (.deferred none)).heap[g]? = wr.heap[g]? := fun g e => World.putObj_heap_other (by have := HP3.out _ e; omega)
    refine ⟨.tuple #[.slice vp m m, .int .i64 0], ?_, ⟨⟨vp, m, by rw [← HM.out], ?_, ?_⟩, ?_⟩⟩
    · simp [results, Tryd.f54, go_sem]
    · rw [← HM.out]
      exact (HD.out.keep hfar).clip
    · intro g hg
      rw [← HM.out] at hg
      have := HP3.out _ (HOWN.out _ hg)
      have := HBEL.out.size
      omega
    · exact below_chg HPF.out.bl hch (fun j hj => by have := HBEL.out.size; omega) HPF.out.bl.size
end Go.Proofs.YtafookdllnhdaaaDoor
/- Shape, walked: Path, of wrong arguments. -/
namespace Go.Proofs.YtafookdllnhdaaaDoor
open Go.RowKit Go.Scr Go.Shelf
set_option linter.unusedVariables false
set_option maxRecDepth 100000 in
set_option maxHeartbeats 1000000 in
theorem path_noS (n i : Int) (w : World) (h : n < 1 ∨ 1099511627776 < n) :
    Calls Tryd.prog 54 #[.int .i64 n, .int .i64 i] w fun r w' => r = .returned (.tuple #[.slice none 0 0, .int .i64 81]) ∧ Below w.heap.size w w' := by
  have CS := Lib.hid (fun w' => size_no n w' h)
  clear h
  go_enter Tryd.func54, Tryd.ntmps54
  go_wp2_with (go_at_call 74; with_reducible refine (CS.out _).mono ?_; rintro r wx ⟨rfl, hwx⟩; rw [hwx]; clear hwx wx)
  go_ret2
  exact ⟨rfl, (Below.refl _ _).alloc (Nat.le_refl _) _⟩
set_option maxRecDepth 100000 in
set_option maxHeartbeats 1000000 in
theorem path_noI (n i : Int) (w : World) (h1 : 1 ≤ n) (h2 : n ≤ 1099511627776) (h : i < 0 ∨ n ≤ i) :
    Calls Tryd.prog 54 #[.int .i64 n, .int .i64 i] w fun r w' => r = .returned (.tuple #[.slice none 0 0, .int .i64 80]) ∧ Below w.heap.size w w' := by
  have CS := Lib.hid (fun w' => size_yes n w' h1 h2)
  clear h1 h2
  by_cases hi : i < 0
  · clear h
    go_enter Tryd.func54, Tryd.ntmps54
    go_wp2_with (go_at_call 74; with_reducible refine (CS.out _).mono ?_; rintro r wx ⟨rfl, hwx⟩; rw [hwx]; clear hwx wx)
    go_ret2
    exact ⟨rfl, (Below.refl _ _).alloc (Nat.le_refl _) _⟩
  · have hni : n ≤ i := by omega
    clear h
    go_enter Tryd.func54, Tryd.ntmps54
    go_wp2_with (go_at_call 74; with_reducible refine (CS.out _).mono ?_; rintro r wx ⟨rfl, hwx⟩; rw [hwx]; clear hwx wx)
    go_ret2
    exact ⟨rfl, (Below.refl _ _).alloc (Nat.le_refl _) _⟩
end Go.Proofs.YtafookdllnhdaaaDoor
/- Shape, walked: Proof. -/
namespace Go.Proofs.YtafookdllnhdaaaDoor
open Go.RowKit Go.Scr Go.Shelf
set_option linter.unusedVariables false
set_option maxRecDepth 100000 in
set_option maxHeartbeats 1000000 in
theorem proof_no (f s : Int) (w : World) (h : f < 1 ∨ s < f ∨ 1099511627776 < s) :
    Calls Tryd.prog 56 #[.int .i64 f, .int .i64 s] w fun r w' => r = .returned (.tuple #[.slice none 0 0, .int .i64 81]) ∧ w' = w := by
  by_cases h1 : f < 1
  · clear h
    go_enter Tryd.func56, Tryd.ntmps56
    go_wp2
    go_ret2
    exact ⟨rfl, rfl⟩
  · by_cases h2 : s < f
    · clear h
      go_enter Tryd.func56, Tryd.ntmps56
      go_wp2
      go_ret2
      exact ⟨rfl, rfl⟩
    · have h3 : 1099511627776 < s := by omega
      clear h
      go_enter Tryd.func56, Tryd.ntmps56
      go_wp2
      go_ret2
      exact ⟨rfl, rfl⟩
set_option maxRecDepth 100000 in
set_option maxHeartbeats 1000000 in
theorem proof_eq (s : Int) (w : World) (h1 : 1 ≤ s) (h2 : s ≤ 1099511627776) :
    Calls Tryd.prog 56 #[.int .i64 s, .int .i64 s] w fun r w' => r = .returned (.tuple #[.slice none 0 0, .int .i64 0]) ∧ w' = w := by
  have e1 : ¬ s < 1 := by omega
  have e2 : ¬ s < s := by omega
  have e3 : ¬ 1099511627776 < s := by omega
  go_enter Tryd.func56, Tryd.ntmps56
  go_wp2
  go_ret2
  exact ⟨rfl, rfl⟩
/-- what stands at the head of Proof's loop -/
def PfI (w wr : World) (bx f s : Nat) (v : Value) : Prop :=
  ∃ b k m L, v.ownBlock ≠ some bx ∧ f = b + m ∧ 1 ≤ m ∧ m ≤ k ∧ b + k ≤ s ∧ L.length + k ≤ s ∧ proofT 0 s f = L ++ proofT b k m ∧ spRow wr bx b (b + k) ∧ Held wr 46 2 v L.length (prsV L) ∧ Below w.heap.size w wr ∧ (∀ g, v.ownBlock = some g → w.heap.size ≤ g)
theorem pfI_push {w A w5 : World} {o : Obj} {bx b e b' k' m' f s : Nat} {L : List (Nat × Nat)} {v v5 : Value} {x : Nat × Nat} (hne : ∀ g, v.ownBlock = some g → g ≠ bx ∧ w.heap.size ≤ g) (hbx : bx < A.heap.size) (hbw : w.heap.size ≤ bx) (hA : Below w.heap.size w A) (r2 : spRow w5 bx b e)
    (g : Grew 46 2 (A.drew.alloc o) v L.length 1 (prsV L) [.int .i64 (x.1 : Int), .int .i64 (x.2 : Int)] v5 w5) (q2 : f = b' + m') (q3 : 1 ≤ m') (q4 : m' ≤ k') (q5 : b' + k' ≤ s) (q6 : L.length + 1 + k' ≤ s) (q7 : proofT 0 s f = (L ++ [x]) ++ proofT b' k' m') :
    PfI w ((w5.setCell ⟨bx, 0, none⟩ (.int .i64 (b' : Int))).setCell ⟨bx, 1, none⟩ (.int .i64 ((b' + k' : Nat) : Int))) bx f s v5 := by
  have hgr := grown_alloc g.grown
  have hown : ∀ q, v5.ownBlock = some q → q ≠ bx ∧ w.heap.size ≤ q := fun q hq => by
    rcases g.at with ⟨e, _⟩ | ⟨e, _⟩
    · exact hne q (by rw [← e]; exact hq)
    · rw [hq] at e
      have h1 := Option.some.inj e
      have h2 : (A.drew.alloc o).heap.size = A.heap.size + 1 := (show (A.alloc o).heap.size = A.heap.size + 1 by simp)
      have h3 := hA.size
      rw [h2] at h1
      omega
  have hb5 : Below w.heap.size w w5 := (Below.drew hA).grown hgr hA.size (fun q e => (hne q e).2)
  refine ⟨b', k', m', L ++ [x], fun e => (hown _ e).1 rfl, q2, q3, q4, q5, by rw [List.length_append, List.length_singleton]; exact q6, q7, r2.set _ _, ?_, (hb5.setCell (p := ⟨bx, 0, none⟩) hbw _).setCell (p := ⟨bx, 1, none⟩) hbw _, fun g hg => (hown g hg).2⟩
  rw [List.length_append, List.length_singleton, prsV_append]
  exact g.held.keep (fun q hq => (Below.heap_setCell _ _ _ q (hown q hq).1).trans (Below.heap_setCell _ _ _ q (hown q hq).1))
set_option maxRecDepth 100000 in
set_option maxHeartbeats 4000000 in
theorem proof_yes (f s : Nat) (w : World) (h1 : 1 ≤ f) (h2 : f < s) (h3 : s ≤ 1099511627776) :
    Calls Tryd.prog 56 #[.int .i64 (f : Int), .int .i64 (s : Int)] w fun r w' => (∃ p c, r = .returned (.tuple #[.slice p (proofT 0 s f).length c, .int .i64 0]) ∧ Held w' 46 2 (.slice p (proofT 0 s f).length c) (proofT 0 s f).length (prsV (proofT 0 s f).reverse) ∧ ∀ g, (Value.slice p (proofT 0 s f).length c).ownBlock = some g → w.heap.size ≤ g) ∧ Below w.heap.size w w' := by
  have e1 : ¬ (f : Int) < 1 := by omega
  have e2 : ¬ (s : Int) < (f : Int) := by omega
  have e3 : ¬ (1099511627776 : Int) < (s : Int) := by omega
  have e4 : ((f : Int) == (s : Int)) = false := by rw [beq_eq_false_iff_ne]; omega
  have HH : Hid (1 ≤ f ∧ f < s ∧ s ≤ 1099511627776) := Lib.hid ⟨h1, h2, h3⟩
  obtain ⟨bx, hbx⟩ : ∃ x, x = w.heap.size := ⟨_, rfl⟩
  have hinv : ∀ u : Value, PfI w ((w.alloc (.cells #[.int .i64 0, .int .i64 (s : Int)] 46))) bx f s (.slice none 0 0) := fun u =>
    ⟨0, s, f, [], (by simp [Value.ownBlock]), by omega, h1, by omega, by omega, by simp, by simp, by rw [hbx]; show _ = _; rw [show ((0 : Nat) + s) = s by omega]; exact heap_alloc_new w _, ⟨rfl, .inl ⟨rfl, rfl⟩⟩, (Below.refl _ _).alloc (Nat.le_refl _) _, fun g hg => by cases hg⟩
  have HINV := Lib.hid hinv
  have HBX := Lib.hid hbx
  have HBX2 : Hid (w.heap.size ≤ bx) := Lib.hid (Nat.le_of_eq hbx.symm)
  clear h1 h2 h3 hinv hbx
  go_enter Tryd.func56, Tryd.ntmps56
  go_wp2
  rw [← HBX.out]
  obtain ⟨wa, hwa⟩ : ∃ x, x = w.alloc (.cells #[.int .i64 0, .int .i64 (s : Int)] 46) := ⟨_, rfl⟩
  rw [← hwa]
  have HS0 : Hid (PfI w wa bx f s (.slice none 0 0)) := Lib.hid (by rw [hwa]; exact HINV.out undef)
  clear hwa HINV
  go_loopw [6] (fun v wr => Hid (PfI w wr bx f s v)) (fun _ wr => ((intOf ((wr.cell? ⟨bx, 1, none⟩).getD undef)) - (intOf ((wr.cell? ⟨bx, 0, none⟩).getD undef))).toNat)
  case atStart => exact HS0.out
  case round =>
    obtain ⟨b, k, m, L, q1, q2, q3, q4, q5, q6, q7, q8, q9, q10, q11⟩ := hrel.out
    obtain ⟨vp, vc, rfl, hvc, _⟩ := q9.cells
    obtain ⟨e, he⟩ : ∃ e, e = b + k := ⟨_, rfl⟩
    obtain ⟨n, hn⟩ : ∃ n, n = L.length := ⟨_, rfl⟩
    obtain ⟨d0, d1, d2⟩ := q8.at
    rw [← he] at d1
    by_cases hmk : m < k
    · have hne : ((e : Int) != (f : Int)) = true := by rw [bne_iff_ne]; omega
      obtain ⟨md, hmd⟩ : ∃ x, x = b + spl k := ⟨_, rfl⟩
      have hsp := spl_lt (show 2 ≤ k by omega)
      have CH : Hid (∀ w', Calls Tryd.prog 76 #[.agg #[.int .i64 (b : Int), .int .i64 (e : Int)]] w' fun r w2 => r = .returned (.tuple #[spV b md, spV md e]) ∧ Below w'.heap.size w' w2) := Lib.hid (fun w' => by
        have := halves_any b e w' (by omega) (by have := HH.out; omega)
        rwa [show e - b = k by omega, ← hmd] at this)
      have HFACT : Hid (f = b + m ∧ 1 ≤ m ∧ m < k ∧ e = b + k ∧ e ≤ s ∧ L.length + k ≤ s ∧ md = b + spl k ∧ b < md ∧ md < e) := Lib.hid ⟨q2, q3, hmk, he, by omega, q6, hmd, by omega, by omega⟩
      have HROW : Hid (spRow wr bx b e) := Lib.hid (by rw [he]; exact q8)
      have HHD := Lib.hid q9
      have HOWN : Hid ((Value.slice vp L.length vc).ownBlock ≠ some bx ∧ ∀ g, (Value.slice vp L.length vc).ownBlock = some g → w.heap.size ≤ g) := Lib.hid ⟨q1, q11⟩
      have HBEL := Lib.hid q10
      have HPR := Lib.hid q7
      clear hrel q1 q2 q3 q4 q5 q6 q7 q8 q9 q10 q11 he hn hmk hmd hsp hvc
      go_upto_region 9 with (go_at_call 76; with_reducible refine (CH.out _).mono ?_; rintro r w3 ⟨rfl, hb3⟩; have HB3 := Lib.hid hb3; clear hb3)
      obtain ⟨A, hA⟩ : ∃ x, x = ((w3.alloc (.cells #[.int .i64 (b : Int), .int .i64 (md : Int)] 46)).alloc (.cells #[.int .i64 (md : Int), .int .i64 (e : Int)] 46)) := ⟨_, rfl⟩
      obtain ⟨bh, hbh⟩ : ∃ x, x = w3.heap.size := ⟨_, rfl⟩
      have hbA : Below wr.heap.size wr A := by rw [hA]; exact (HB3.out.alloc HB3.out.size _).alloc (by have := HB3.out.size; simp; omega) _
      have r0 : spRow A bh b md := by rw [hA, hbh]; exact blk_alloc (heap_alloc_new w3 _)
      have r1 : spRow A (bh + 1) md e := by rw [hA, hbh]; exact heap_alloc_at _ _ _ (by simp)
      have r2 : spRow A bx b e := HROW.out.keep (hbA.block _ HROW.out.lt)
      obtain ⟨a0, a1, a2⟩ := r0.at
      obtain ⟨b0, b1, b2⟩ := r1.at
      obtain ⟨c0, c1, c2⟩ := r2.at
      rw [← hbh]
      rw [← hA]
      have HHA := Lib.hid (HHD.out.below hbA)
      have HBA : Hid (Below w.heap.size w A) := Lib.hid (below_onS HBEL.out hbA HBEL.out.size)
      have HSZ : Hid (bh + 1 < A.heap.size ∧ bx < A.heap.size) := Lib.hid ⟨r1.lt, r2.lt⟩
      have HR2 := Lib.hid r2
      have HNE : Hid (∀ g, (Value.slice vp L.length vc).ownBlock = some g → g ≠ bh ∧ g ≠ bh + 1 ∧ g ≠ bx ∧ w.heap.size ≤ g ∧ g < A.heap.size) := Lib.hid (fun g hg => by
        have l1 := HHD.out.lt hg
        have l2 := HB3.out.size
        have l3 := hbA.size
        refine ⟨by omega, by omega, fun e => HOWN.out.1 (e ▸ hg), HOWN.out.2 g hg, by omega⟩)
      have HR0 := Lib.hid r0
      have HR1 := Lib.hid r1
      clear d0 d1 d2 hA hbh hbA r0 r1 r2
      by_cases hf : (f : Int) ≤ (md : Int)
      · go_upto_region 10 with fail
        have hl1 : (L.length + 1) * 16 ≤ 140737488355328 := by have := HFACT.out; have := HH.out; omega
        have hl2 : L.length + 1 ≤ 140737488355328 := by omega
        have HHD2 : Hid (∀ o, Held (A.drew.alloc o) 46 2 (.slice vp L.length vc) L.length (prsV L)) := Lib.hid (fun o => Held.below (w := A.drew) (HHA.out.keep (w' := A.drew) (fun _ _ => rfl)) ((Below.refl _ _).alloc (Nat.le_refl _) _))
        have HONE : Hid (∀ x y : Int, ∀ u ∈ [Value.int .i64 x, Value.int .i64 y], u.oneCell' = true) := Lib.hid (fun x y u hu => by
          rcases List.mem_cons.1 hu with rfl | hu
          · rfl
          · rw [List.mem_singleton.1 hu]; rfl)
        have m0 : ∀ o, (A.alloc o).cell? ⟨bh, 0, none⟩ = some (.int .i64 (b : Int)) := fun o => cell_of_row _ _ _ _ _ _ (blk_alloc HR0.out)
        have m1 : ∀ o, (A.alloc o).cell? ⟨bh, 1, none⟩ = some (.int .i64 (md : Int)) := fun o => cell_of_row _ _ _ _ _ _ (blk_alloc HR0.out)
        go_region_law (first
          | (go_loud (refine step_grew (v := .slice vp L.length vc) rfl (.tmp 39) (.tmp 41) rfl Tryd.underlying86 (.agg #[.int .i64 0, .int .i64 0]) 2 info_spanP rfl (by decide) [.int .i64 (md : Int), .int .i64 (e : Int)] 1 ⟨A.heap.size, 0, none⟩ rfl rfl (HHD2.out _) rfl (by decide) cells_alloc (HONE.out _ _) hl1 hl2 ?_; intro v5 w5 hg5; have hgr := grown_alloc (show (A.drew.alloc (.cells #[.int .i64 (md : Int), .int .i64 (e : Int)] 46)).grownBy w5 (Value.slice vp L.length vc).ownBlock from hg5.grown); have k0 : spRow w5 bh b md := HR0.out.keep (hgr.block bh (by have := HSZ.out.1; show bh < A.heap.size; omega) (fun e => (HNE.out _ e.symm).1 rfl)); have k2 : spRow w5 bx b e := HR2.out.keep (hgr.block bx (by have := HSZ.out.2; show bx < A.heap.size; omega) (fun e => (HNE.out _ e.symm).2.2.1 rfl)); obtain ⟨x0, x1, x2⟩ := k0.at; obtain ⟨y0, y1, y2⟩ := k2.at; have HG5 := Lib.hid hg5; have HGR := Lib.hid hgr; have HK2 := Lib.hid k2; clear hg5 hgr k0 k2))
          | fail)
        all_goals
          have hfin : Hid (PfI w ((w5.setCell ⟨bx, 0, none⟩ (.int .i64 (b : Int))).setCell ⟨bx, 1, none⟩ (.int .i64 (md : Int))) bx f s v5 ∧ spRow ((w5.setCell ⟨bx, 0, none⟩ (.int .i64 (b : Int))).setCell ⟨bx, 1, none⟩ (.int .i64 (md : Int))) bx b md) := Lib.hid (by
            obtain ⟨f1, f2, f3, f4, f5, f6, f7, f8, f9⟩ := HFACT.out
            have hsp := spl_lt (show 2 ≤ k by omega)
            have hh := pfI_push (x := (md, e)) (b' := b) (k' := spl k) (m' := m) (f := f) (s := s) (fun g hg => ⟨(HNE.out g hg).2.2.1, (HNE.out g hg).2.2.2.1⟩) HSZ.out.2 HBX2.out HBA.out HK2.out HG5.out f1 f2 (by omega) (by omega) (by omega) (by
              rw [HPR.out, proofT_left b (by omega) (by omega) (by omega), List.append_assoc, List.singleton_append, ← f7, ← f4])
            rw [← f7] at hh
            exact ⟨hh, HK2.out.set _ _⟩)
          generalize ((w5.setCell ⟨bx, 0, none⟩ (.int .i64 (b : Int))).setCell ⟨bx, 1, none⟩ (.int .i64 (md : Int))) = wz at hfin ⊢
          go_wp2
          refine ⟨Lib.hid hfin.out.1, ?_⟩
          obtain ⟨z0, z1, _⟩ := hfin.out.2.at
          obtain ⟨t0, t1, _⟩ := HROW.out.at
          rw [z0, z1, t0, t1]
          show ((md : Int) - (b : Int)).toNat < ((e : Int) - (b : Int)).toNat
          have := HFACT.out
          omega
      · go_upto_region 11 with fail
        have hl1 : (L.length + 1) * 16 ≤ 140737488355328 := by have := HFACT.out; have := HH.out; omega
        have hl2 : L.length + 1 ≤ 140737488355328 := by omega
        have HHD2 : Hid (∀ o, Held (A.drew.alloc o) 46 2 (.slice vp L.length vc) L.length (prsV L)) := Lib.hid (fun o => Held.below (w := A.drew) (HHA.out.keep (w' := A.drew) (fun _ _ => rfl)) ((Below.refl _ _).alloc (Nat.le_refl _) _))
        have HONE : Hid (∀ x y : Int, ∀ u ∈ [Value.int .i64 x, Value.int .i64 y], u.oneCell' = true) := Lib.hid (fun x y u hu => by
          rcases List.mem_cons.1 hu with rfl | hu
          · rfl
          · rw [List.mem_singleton.1 hu]; rfl)
        have m0 : ∀ o, (A.alloc o).cell? ⟨bh + 1, 0, none⟩ = some (.int .i64 (md : Int)) := fun o => cell_of_row _ _ _ _ _ _ (blk_alloc HR1.out)
        have m1 : ∀ o, (A.alloc o).cell? ⟨bh + 1, 1, none⟩ = some (.int .i64 (e : Int)) := fun o => cell_of_row _ _ _ _ _ _ (blk_alloc HR1.out)
        go_region_law (first
          | (go_loud (refine step_grew (v := .slice vp L.length vc) rfl (.tmp 44) (.tmp 46) rfl Tryd.underlying86 (.agg #[.int .i64 0, .int .i64 0]) 2 info_spanP rfl (by decide) [.int .i64 (b : Int), .int .i64 (md : Int)] 1 ⟨A.heap.size, 0, none⟩ rfl rfl (HHD2.out _) rfl (by decide) cells_alloc (HONE.out _ _) hl1 hl2 ?_; intro v5 w5 hg5; have hgr := grown_alloc (show (A.drew.alloc (.cells #[.int .i64 (b : Int), .int .i64 (md : Int)] 46)).grownBy w5 (Value.slice vp L.length vc).ownBlock from hg5.grown); have k0 : spRow w5 (bh + 1) md e := HR1.out.keep (hgr.block (bh + 1) (by have := HSZ.out.1; show bh + 1 < A.heap.size; omega) (fun e => (HNE.out _ e.symm).2.1 rfl)); have k2 : spRow w5 bx b e := HR2.out.keep (hgr.block bx (by have := HSZ.out.2; show bx < A.heap.size; omega) (fun e => (HNE.out _ e.symm).2.2.1 rfl)); obtain ⟨x0, x1, x2⟩ := k0.at; obtain ⟨y0, y1, y2⟩ := k2.at; have HG5 := Lib.hid hg5; have HGR := Lib.hid hgr; have HK2 := Lib.hid k2; clear hg5 hgr k0 k2))
          | fail)
        all_goals
          have hfin : Hid (PfI w ((w5.setCell ⟨bx, 0, none⟩ (.int .i64 (md : Int))).setCell ⟨bx, 1, none⟩ (.int .i64 (e : Int))) bx f s v5 ∧ spRow ((w5.setCell ⟨bx, 0, none⟩ (.int .i64 (md : Int))).setCell ⟨bx, 1, none⟩ (.int .i64 (e : Int))) bx md e) := Lib.hid (by
            obtain ⟨f1, f2, f3, f4, f5, f6, f7, f8, f9⟩ := HFACT.out
            have hsp := spl_lt (show 2 ≤ k by omega)
            have hh := pfI_push (x := (b, md)) (b' := md) (k' := k - spl k) (m' := m - spl k) (f := f) (s := s) (fun g hg => ⟨(HNE.out g hg).2.2.1, (HNE.out g hg).2.2.2.1⟩) HSZ.out.2 HBX2.out HBA.out HK2.out HG5.out (by omega) (by omega) (by omega) (by omega) (by omega) (by
              rw [HPR.out, proofT_right b (by omega) (by omega) (by omega), List.append_assoc, List.singleton_append, ← f7])
            rw [show md + (k - spl k) = e by omega] at hh
            exact ⟨hh, HK2.out.set _ _⟩)
          generalize ((w5.setCell ⟨bx, 0, none⟩ (.int .i64 (md : Int))).setCell ⟨bx, 1, none⟩ (.int .i64 (e : Int))) = wz at hfin ⊢
          go_wp2
          refine ⟨Lib.hid hfin.out.1, ?_⟩
          obtain ⟨z0, z1, _⟩ := hfin.out.2.at
          obtain ⟨t0, t1, _⟩ := HROW.out.at
          rw [z0, z1, t0, t1]
          show ((e : Int) - (md : Int)).toNat < ((e : Int) - (b : Int)).toNat
          have := HFACT.out
          omega
    · have hne : ((e : Int) != (f : Int)) = false := by rw [bne_eq_false_iff_eq]; omega
      obtain rfl : m = k := by omega
      rw [proofT_end] at q7
      by_cases hb0 : b = 0
      · have hb : ((b : Int) != 0) = false := by rw [bne_eq_false_iff_eq]; omega
        rw [if_pos hb0, List.append_nil] at q7
        have HREV : Hid (Calls Tryd.prog 77 #[.slice vp L.length vc] wr fun r w' => r = .returned (.tuple #[]) ∧ Held w' 46 2 (.slice vp L.length vc) L.length (prsV L.reverse) ∧ Chg (fun j => (Value.slice vp L.length vc).ownBlock = some j) wr w') := Lib.hid (reverse_any L wr q9 (by have := HH.out; omega))
        have HCL : Hid (∀ w', Calls Tryd.prog 78 #[.slice vp L.length vc] w' fun e w2 => e = .returned (.slice vp L.length L.length) ∧ w2 = w') := Lib.hid (fun w' => clipS_any vp _ _ w' hvc)
        have HFIN : Hid (proofT 0 s f = L ∧ Below w.heap.size w wr ∧ (∀ g, (Value.slice vp L.length vc).ownBlock = some g → w.heap.size ≤ g)) := Lib.hid ⟨q7, q10, q11⟩
        clear hrel q1 q2 q3 q4 q5 q6 q7 q8 q9 q10 q11 he hn hmk hvc
        go_wp2_with (first
          | (go_at_call 77; refine HREV.out.mono ?_; rintro r w6 ⟨rfl, hd6, hc6⟩; have HD6 := Lib.hid hd6; have HC6 := Lib.hid hc6; clear hd6 hc6)
          | (go_at_call 78; with_reducible refine (HCL.out _).mono ?_; rintro r wx ⟨rfl, hwx⟩; rw [hwx]; clear hwx wx))
        go_ret2
        refine ⟨⟨vp, L.length, by rw [HFIN.out.1]; rfl, ?_, ?_⟩, ?_⟩
        · rw [HFIN.out.1]
          exact HD6.out.clip
        · rw [HFIN.out.1]
          intro g hg
          cases vp with
          | none => cases hg
          | some a => exact HFIN.out.2.2 g hg
        · exact below_chg HFIN.out.2.1 HC6.out (fun j hj => HFIN.out.2.2 j hj) HFIN.out.2.1.size
      · have hb : ((b : Int) != 0) = true := by rw [bne_iff_ne]; omega
        rw [if_neg hb0, ← he] at q7
        have hl1 : (L.length + 1) * 16 ≤ 140737488355328 := by have := HH.out; omega
        have hl2 : L.length + 1 ≤ 140737488355328 := by omega
        have HONE : Hid (∀ x y : Int, ∀ u ∈ [Value.int .i64 x, Value.int .i64 y], u.oneCell' = true) := Lib.hid (fun x y u hu => by
          rcases List.mem_cons.1 hu with rfl | hu
          · rfl
          · rw [List.mem_singleton.1 hu]; rfl)
        have HREV : Hid (∀ (W : World) (p : Option Addr) (c : Nat), Held W 46 2 (.slice p (L.length + 1) c) (L.length + 1) (prsV (L ++ [(b, e)])) → Calls Tryd.prog 77 #[.slice p (L.length + 1) c] W fun r w' => r = .returned (.tuple #[]) ∧ Held w' 46 2 (.slice p (L.length + 1) c) (L.length + 1) (prsV (L ++ [(b, e)]).reverse) ∧ Chg (fun j => (Value.slice p (L.length + 1) c).ownBlock = some j) W w') := Lib.hid (fun W p c h => by
          have hlen : (L ++ [(b, e)]).length = L.length + 1 := by simp
          have := reverse_any (L ++ [(b, e)]) W (v := .slice p (L.length + 1) c) (by rw [hlen]; exact h) (by rw [hlen]; have := HH.out; omega)
          rw [hlen] at this
          exact this)
        have HCL : Hid (∀ (p : Option Addr) (c : Nat) (w' : World), L.length + 1 ≤ c → Calls Tryd.prog 78 #[.slice p (L.length + 1) c] w' fun e w2 => e = .returned (.slice p (L.length + 1) (L.length + 1)) ∧ w2 = w') := Lib.hid (fun p c w' h => clipS_any p _ _ w' h)
        have HFIN : Hid (proofT 0 s f = L ++ [(b, e)] ∧ Below w.heap.size w wr ∧ (∀ g, (Value.slice vp L.length vc).ownBlock = some g → w.heap.size ≤ g)) := Lib.hid ⟨q7, q10, q11⟩
        have HHD := Lib.hid q9
        clear hrel q1 q2 q3 q4 q5 q6 q7 q8 q9 q10 q11 he hn hmk hvc
        go_wp2_with (first
          | (at_builtin; refine wpList_grew (v := .slice vp L.length vc) (l := prsV L) rfl _ _ rfl Tryd.underlying86 (.agg #[.int .i64 0, .int .i64 0]) 2 info_spanP rfl (by decide) [.int .i64 (b : Int), .int .i64 (e : Int)] 1 (by simp [Act.eval]) (by simp [Act.eval]) HHD.out rfl rfl (by decide) (HONE.out _ _) hl1 hl2 ?_; intro v5 w5 hg5; obtain ⟨p5, c5, rfl, hc5, _⟩ := hg5.held.cells; have HG5 := Lib.hid hg5; have HC5 := Lib.hid hc5; clear hg5 hc5)
          | (go_at_call 77; refine (HREV.out _ _ _ (by rw [prsV_append]; exact HG5.out.held)).mono ?_; rintro r w6 ⟨rfl, hd6, hc6⟩; have HD6 := Lib.hid hd6; have HC6 := Lib.hid hc6; clear hd6 hc6)
          | (go_at_call 78; with_reducible refine (HCL.out _ _ _ HC5.out).mono ?_; rintro r wx ⟨rfl, hwx⟩; rw [hwx]; clear hwx wx))
        go_ret2
        have hown : ∀ q, (Value.slice p5 (L.length + 1) c5).ownBlock = some q → w.heap.size ≤ q := fun q hq => by
          rcases HG5.out.at with ⟨e, _⟩ | ⟨e, _⟩
          · exact HFIN.out.2.2 q (by rw [← e]; exact hq)
          · rw [hq] at e
            have h1 := Option.some.inj e
            have h3 := HFIN.out.2.1.size
            simp at h1
            omega
        have hb5 : Below w.heap.size w w5 := HFIN.out.2.1.grown (grown_alloc HG5.out.grown) HFIN.out.2.1.size HFIN.out.2.2
        have hlen : (L ++ [(b, e)]).length = L.length + 1 := by simp
        refine ⟨⟨p5, L.length + 1, by rw [HFIN.out.1, hlen]; rfl, ?_, ?_⟩, ?_⟩
        · rw [HFIN.out.1, hlen]
          exact HD6.out.clip
        · rw [HFIN.out.1, hlen]
          intro g hg
          cases p5 with
          | none => cases hg
          | some a => exact hown g hg
        · exact below_chg hb5 HC6.out (fun j hj => hown j hj) hb5.size
end Go.Proofs.YtafookdllnhdaaaDoor
