/- Rows of ints; law 8's lentInts, keptInts, walked. -/
import Derived.Test.YteknpnanmbfhfaaDoorMa43
import Derived.Test.YteknpnanmbfhfaaDoorMa32
import Derived.BigQuiet
import Derived.Test.YteknpnanmbfhfaaDoorMa37
import Derived.Deep.CutBlock
namespace Go.Proofs.YteknpnanmbfhfaaDoor
open Go.RowKit Go.Scr Go.Shelf Go.Proofs.YteknpnanmbfhfaaDoor.Bk8
set_option linter.unusedVariables false
def IRow (w : World) (g : Nat) (Z : List Int) : Prop := w.heap[g]? = some (.cells ((Z.map (Value.int .i64)).toArray) 3 (0, 0))
theorem IRow.lt {w : World} {g : Nat} {Z : List Int} (h : IRow w g Z) : g < w.heap.size := row_lt h
theorem IRow.keep {w w' : World} {g : Nat} {Z : List Int} (h : IRow w g Z) (e : w'.heap[g]? = w.heap[g]?) : IRow w' g Z := e.trans h
theorem IRow.cell {w : World} {g j : Nat} {Z : List Int} {x : Int} (h : IRow w g Z) (hx : Z[j]? = some x) : w.cell? ⟨g, j, none⟩ = some (.int .i64 x) := lit_cell h hx
theorem IRow.free {w : World} {g : Nat} {Z : List Int} (h : IRow w g Z) (j : Nat) : w.frozen? ⟨g, j, none⟩ = false := frozen_of_row w g j _ _ h
theorem IRow.set {w : World} {g : Nat} {Z : List Int} (h : IRow w g Z) (j : Nat) (v : Int) : IRow (w.setCell ⟨g, j, none⟩ (.int .i64 v)) g (Z.set j v) := by
  unfold IRow
  rw [List.map_set]
  have := blk_set h j (.int .i64 v)
  rw [this]
  simp
theorem IRow.ints {w : World} {g n c : Nat} {Z : List Int} (h : IRow w g Z) (hn : n ≤ Z.length) (hc : n ≤ c) (hl : n ≤ 281474976710656) (hb : ∀ x ∈ Z.take n, -9223372036854775808 ≤ x ∧ x ≤ 9223372036854775807) : Ints w (.slice (some ⟨g, 0, none⟩) n c) (Z.take n) := by
  have hlen : (Z.take n).length = n := by rw [List.length_take]; omega
  refine ⟨_, c, by rw [hlen], by rw [hlen]; exact hc, by rw [hlen]; exact hl, hb, fun j z hz => ⟨_, rfl, ?_⟩⟩
  have hadd : (⟨g, 0, none⟩ : Addr).add j = ⟨g, j, none⟩ := by unfold Addr.add; split <;> simp_all
  rw [hadd]
  rw [List.getElem?_take] at hz
  split at hz
  · exact h.cell hz
  · cases hz
theorem madeCells_ints (c : Nat) : madeCells #[Value.int .i64 0] c = (((List.replicate c (0 : Int)).map (Value.int .i64))).toArray := by
  apply Array.ext'
  rw [toList_madeCells_one]
  simp
theorem make_ints (n : Nat) (hn : n ≤ 4194304) (w : World) :
    (Instr.makeSlice 41 (.int .i64 (n : Int)) (.int .i64 (n : Int))).run Tryd.prog w = .ok (.slice (some ⟨w.heap.size, 0, none⟩) n n) (w.alloc (.cells (Array.replicate n (Value.int .i64 0)) 3)) := by
  obtain ⟨i, hi0, hz, hsi, hbi⟩ := info_parts info_intH
  have h := run_make_rowN (P := Tryd.prog) 41 3 i (.int .i64 0) Tryd.underlying41 hi0 hz .i64 .i64 n n (Nat.le_refl _) (by rw [hbi]; omega) (by omega) w
  rw [h, hsi, Nat.mul_one]
  have e : (Value.int .i64 0 : Value).cells = #[Value.int .i64 0] := rfl
  rw [e, madeCells_ints]
  simp
theorem hsz_intH : (Tryd.prog.info? 3).map (·.size) = some 1 := by kernel_rfl
theorem int_ones8 (Z : List Int) : ∀ u ∈ Z.map (Value.int .i64), u.oneCell' = true := by
  intro u hu
  obtain ⟨z, _, rfl⟩ := List.mem_map.1 hu
  rfl
def fillI (L : List Int) (k : Nat) : List Int := L ++ (List.replicate k 77 ++ List.replicate (8 - k) 0)
theorem fillI_length (L : List Int) (k : Nat) (h : k ≤ 8) : (fillI L k).length = L.length + 8 := by
  unfold fillI
  simp
  omega
theorem fillI_take (L : List Int) (k : Nat) : (fillI L k).take L.length = L := by unfold fillI; simp
theorem fillI_at (L : List Int) (k : Nat) (h : k < 8) : (fillI L k)[L.length + k]? = some 0 := by
  unfold fillI
  rw [List.getElem?_append_right (by omega), Nat.add_sub_cancel_left, List.getElem?_append_right (by simp), List.length_replicate, Nat.sub_self, List.getElem?_replicate, if_pos (by omega)]
theorem fillI_set (L : List Int) (k : Nat) (h : k < 8) : (fillI L k).set (L.length + k) 77 = fillI L (k + 1) := by
  unfold fillI
  rw [List.set_append_right _ _ (by omega), Nat.add_sub_cancel_left, List.set_append_right _ _ (by simp), List.length_replicate, Nat.sub_self, show 8 - k = (8 - (k + 1)) + 1 by omega, List.replicate_succ, List.set_cons_zero, List.replicate_succ', List.append_assoc]
  rfl
theorem fillI_lo (L : List Int) (i : Nat) (h : i < L.length) : (fillI L 8)[i]? = L[i]? := by
  unfold fillI
  rw [List.getElem?_append_left h]
theorem fillI_hi (L : List Int) (i : Nat) (h : L.length ≤ i) (h2 : i < L.length + 8) : (fillI L 8)[i]? = some 77 := by
  unfold fillI
  rw [List.getElem?_append_right h, List.getElem?_append_left (by simp; omega), List.getElem?_replicate, if_pos (by omega)]
theorem fillI_laid (L : List Int) : L.map (Value.int .i64) ++ ((List.replicate (L.length + 8) (0 : Int)).map (Value.int .i64)).drop (L.map (Value.int .i64)).length = (fillI L 0).map (Value.int .i64) := by
  unfold fillI
  rw [List.length_map, List.map_append, List.map_replicate, List.drop_replicate, show L.length + 8 - L.length = 8 by omega]
  rfl
theorem copy_srcI {w w5 : World} {B g n c : Nat} {p : Option Addr} {Z : List Int} (h : Ints w (.slice p n c) Z) (hb : Below B w w5) (hB : w.heap.size ≤ B) :
    0 < (Z.map (Value.int .i64)).length → (some (⟨g, 0, none⟩ : Addr)) = some ⟨g, 0, none⟩ ∧ ∃ ad, p = some ad ∧ ∀ j v, (Z.map (Value.int .i64))[j]? = some v → w5.cell? (ad.add j) = some v := by
  intro h0
  have h2 := ints_belowH h hb hB
  obtain ⟨q, c', he, h1, _, _, h4⟩ := h2
  cases he
  refine ⟨rfl, ?_⟩
  rw [List.length_map] at h0
  obtain ⟨a0, rfl, _⟩ := h4 0 _ (List.getElem?_eq_getElem h0)
  refine ⟨a0, rfl, fun j v hv => ?_⟩
  rw [List.getElem?_map] at hv
  obtain ⟨z, hz, rfl⟩ := Option.map_eq_some_iff.1 hv
  obtain ⟨a1, e, hc⟩ := h4 j z hz
  cases e
  exact hc
set_option maxRecDepth 100000 in
set_option maxHeartbeats 1000000 in
theorem lentInts_any (v : Value) (Z : List Int) (w : World) (hv : Ints w v Z) (hl : Z.length ≤ 1048576) :
    Calls Tryd.prog 55 #[v] w fun e w' => (∃ g, e = .returned (.slice (some ⟨g, 0, none⟩) (Z.length + 8) (Z.length + 8)) ∧ w.heap.size ≤ g ∧ IRow w' g (fillI Z 8)) ∧ Below w.heap.size w w' := by
  obtain ⟨p, c, rfl, h1, h2, h3, _⟩ := id hv
  obtain ⟨n, hn⟩ : ∃ n, n = Z.length := ⟨_, rfl⟩
  have HV := Lib.hid hv
  rw [← hn] at h1 h2 hl HV ⊢
  have HN := Lib.hid hn
  obtain ⟨N8, hN8⟩ : ∃ x, x = n + 8 := ⟨_, rfl⟩
  have hn8 : (n : Int) + 8 = (N8 : Int) := by omega
  have hN8b : N8 ≤ 1048584 := by omega
  have hmk := make_ints N8 (by omega) w
  have HN8 := Lib.hid hN8
  rw [← hN8]
  obtain ⟨g, hg⟩ : ∃ g, g = w.heap.size := ⟨_, rfl⟩
  obtain ⟨w1, hw1⟩ : ∃ x, x = w.alloc (.cells (Array.replicate N8 (Value.int .i64 0)) 3) := ⟨_, rfl⟩
  have hb1 : Below w.heap.size w w1 := by rw [hw1]; exact (Below.refl _ _).alloc (Nat.le_refl _) _
  have hr1 : w1.heap[g]? = some (.cells (((List.replicate N8 (0 : Int)).map (Value.int .i64))).toArray 3 (0, 0)) := by rw [hw1, hg, show (((List.replicate N8 (0 : Int)).map (Value.int .i64))).toArray = Array.replicate N8 (Value.int .i64 0) by simp]; exact heap_alloc_new w _
  have HR1 : Hid (Below w.heap.size w w1 ∧ w1.heap[g]? = some (.cells (((List.replicate N8 (0 : Int)).map (Value.int .i64))).toArray 3 (0, 0)) ∧ w.heap.size ≤ g) := Lib.hid ⟨hb1, hr1, Nat.le_of_eq hg.symm⟩
  have HSRC := Lib.hid (copy_srcI (g := g) HV.out hb1 (Nat.le_refl _))
  have HCN : Hid ((Z.map (Value.int .i64)).length = n * 1 ∧ n = Nat.min n N8 ∧ (Z.map (Value.int .i64)).length ≤ ((List.replicate N8 (0 : Int)).map (Value.int .i64)).length) := Lib.hid (by
    have := HN.out
    have := HN8.out
    refine ⟨by rw [List.length_map]; omega, (Nat.min_eq_left (by omega)).symm, ?_⟩
    rw [List.length_map, List.length_map, List.length_replicate]
    omega)
  have HW := Lib.hid hw1
  have HG := Lib.hid hg
  have HONE := Lib.hid (int_ones8 Z)
  have HLAID : Hid (Z.map (Value.int .i64) ++ ((List.replicate N8 (0 : Int)).map (Value.int .i64)).drop (Z.map (Value.int .i64)).length = (fillI Z 0).map (Value.int .i64)) := Lib.hid (by rw [hN8, hn]; exact fillI_laid Z)
  clear hn hN8 hw1 hg hb1 hr1 h3 hv
  go_enter Tryd.func55, Tryd.ntmps55
  go_upto_region 2 with fail
  rw [← HW.out, ← HG.out]
  clear hmk hn8
  go_upto_region 3 with ((with_reducible refine wpList_copyN (o := ⟨some 11, _, _, _, _, _⟩) rfl (.tmp 9) (.tmp 10) 41 41 rfl 3 Tryd.underlying41 1 hsz_intH (by decide) (some ⟨g, 0, none⟩) p N8 N8 n c ?_ ?_ g n HCN.out.2.1 ((List.replicate N8 (0 : Int)).map (Value.int .i64)) 3 ?_ (Z.map (Value.int .i64)) HCN.out.1 HSRC.out HCN.out.2.2 HONE.out ?_); rfl; rfl; exact HR1.out.2.1; intro w3 hr3 hgr3 hs3; have H3 := Lib.hid (And.intro hr3 (And.intro hgr3 hs3)); clear hr3 hgr3 hs3)
  have HI0 : Hid (IRow w3 g (fillI Z 0) ∧ Below w.heap.size w w3) := Lib.hid (by
    have hr := H3.out.1
    rw [HLAID.out] at hr
    exact ⟨hr, HR1.out.1.grown H3.out.2.1 HR1.out.1.size (fun k hk => by cases hk; exact HR1.out.2.2)⟩)
  clear HLAID HCN HSRC HONE H3
  go_wp2_with fail
  go_loopw [4] (fun x wr => ∃ (k i : Nat), x = .int .i64 (i : Int) ∧ i ≤ N8 ∧ Hid (i = n + k ∧ k ≤ 8 ∧ IRow wr g (fillI Z k) ∧ Below w.heap.size w wr)) (fun x _ => N8 - (intOf x).toNat)
  case atStart => exact ⟨0, n, rfl, by have := HN8.out; omega, Lib.hid ⟨rfl, by omega, HI0.out⟩⟩
  case round =>
    clear HI0
    obtain ⟨k, i, rfl, hi8, HI⟩ := hrel
    by_cases hlt : i < N8
    · have hl8 : (i : Int) < (N8 : Int) := by omega
      have hi0 : (0 : Int) ≤ (i : Int) := by omega
      have hk8 : k < 8 := by have := HI.out.1; have := HN8.out; omega
      have hik : i = Z.length + k := by have := HI.out.1; have := HN.out; omega
      have k0 : wr.cell? ⟨g, i, none⟩ = some (.int .i64 0) := HI.out.2.2.1.cell (by rw [hik]; exact fillI_at Z k hk8)
      have kf := HI.out.2.2.1.free i
      have HNX : Hid (IRow (wr.setCell ⟨g, i, none⟩ (.int .i64 77)) g (fillI Z (k + 1)) ∧ Below w.heap.size w (wr.setCell ⟨g, i, none⟩ (.int .i64 77))) := Lib.hid ⟨by
        have := HI.out.2.2.1.set i 77
        rwa [hik, fillI_set Z k hk8, ← hik] at this, HI.out.2.2.2.setCell (p := ⟨g, i, none⟩) HR1.out.2.2 _⟩
      have HLT : Hid (i < N8 ∧ k < 8 ∧ i = n + k) := Lib.hid ⟨hlt, hk8, HI.out.1⟩
      clear hlt hk8 hik
      go_wp2_with fail
      refine ⟨⟨k + 1, i + 1, by simp, HLT.out.1, Lib.hid ⟨by have := HLT.out; omega, HLT.out.2.1, HNX.out⟩⟩, ?_⟩
      show N8 - ((i : Int) + 1).toNat < N8 - ((i : Int)).toNat
      have := HLT.out
      omega
    · have hl8 : ¬ (i : Int) < (N8 : Int) := by omega
      have HRE : Hid (IRow wr g (fillI Z 8) ∧ Below w.heap.size w wr) := Lib.hid (by
        have h := HI.out
        have hk : k = 8 := by have := HN8.out; omega
        rw [hk] at h
        exact h.2.2)
      clear hlt
      go_wp2_with fail
      go_ret
      exact ⟨⟨g, rfl, HR1.out.2.2, HRE.out.1⟩, HRE.out.2⟩
set_option maxRecDepth 100000 in
set_option maxHeartbeats 1000000 in
theorem keptInts_any (v : Value) (Z : List Int) (g : Nat) (w : World) (hv : Ints w v Z) (hr : IRow w g (fillI Z 8)) (hl : Z.length ≤ 1048576) :
    Calls Tryd.prog 56 #[.slice (some ⟨g, 0, none⟩) (Z.length + 8) (Z.length + 8), v] w fun e w' => e = .returned (.bool true) ∧ Below w.heap.size w w' := by
  obtain ⟨p, c, rfl, h1, h2, h3, _⟩ := id hv
  obtain ⟨n, hn⟩ : ∃ n, n = Z.length := ⟨_, rfl⟩
  obtain ⟨N8, hN8⟩ : ∃ x, x = n + 8 := ⟨_, rfl⟩
  have HV : Hid (∀ w', Below w.heap.size w w' → Ints w' (.slice p n c) Z ∧ IRow w' g (fillI Z 8)) := Lib.hid (fun w' hb => ⟨by rw [hn]; exact ints_belowH hv hb (Nat.le_refl _), hr.keep (hb.block g hr.lt)⟩)
  rw [← hn] at h1 h2 hl ⊢
  rw [← hN8]
  have HN : Hid (n = Z.length ∧ N8 = n + 8) := Lib.hid ⟨hn, hN8⟩
  have hN8b : N8 ≤ 1048584 := by omega
  clear hn hN8 h3 hv hr
  go_enter Tryd.func56, Tryd.ntmps56
  go_wp2_with fail
  go_loopw [5] (fun x wr => ∃ (i : Nat), x = .int .i64 (i : Int) ∧ i ≤ N8 ∧ Hid (Below w.heap.size w wr)) (fun x _ => N8 - (intOf x).toNat)
  case atStart => exact ⟨0, rfl, by omega, Lib.hid (Below.refl _ _)⟩
  case round =>
    obtain ⟨i, rfl, hi8, HI⟩ := hrel
    by_cases hlt8 : i < N8
    · have hl8 : (i : Int) < (N8 : Int) := by omega
      have hi0 : (0 : Int) ≤ (i : Int) := by omega
      have HL8 := Lib.hid hlt8
      by_cases hlt : i < n
      · have hln : (i : Int) < (n : Int) := by omega
        obtain ⟨z, hz⟩ : ∃ z, Z[i]? = some z := ⟨Z[i]'(by have := HN.out; omega), List.getElem?_eq_getElem _⟩
        have k0 : wr.cell? ⟨g, i, none⟩ = some (.int .i64 z) := (HV.out wr HI.out).2.cell (by rw [fillI_lo Z i (by have := HN.out; omega)]; exact hz)
        obtain ⟨p', c', hpe, _, _, _, hzc⟩ := (HV.out wr HI.out).1
        obtain rfl : p' = p := by cases hpe; rfl
        obtain ⟨qa, rfl, m0⟩ := hzc i z hz
        have hd1 : decide (n ≤ i) = false := decide_eq_false (by omega)
        have hzz : (z != z) = false := by simp
        clear hz hzc hlt hlt8 hpe
        go_wp2_with fail
        go_quiet (fail)
        go_wp2_with fail
        refine ⟨⟨i + 1, by simp, HL8.out, Lib.hid (below_drewN HI.out nq)⟩, ?_⟩
        show N8 - ((i : Int) + 1).toNat < N8 - ((i : Int)).toNat
        have := HL8.out
        omega
      · have hln : (n : Int) ≤ (i : Int) := by omega
        have hd1 : decide (i < n) = false := decide_eq_false (by omega)
        have k0 : wr.cell? ⟨g, i, none⟩ = some (.int .i64 77) := (HV.out wr HI.out).2.cell (fillI_hi Z i (by have := HN.out; omega) (by have := HN.out; omega))
        clear hlt hlt8
        go_wp2_with fail
        go_quiet (fail)
        go_wp2_with fail
        refine ⟨⟨i + 1, by simp, HL8.out, Lib.hid (below_drewN HI.out nq)⟩, ?_⟩
        show N8 - ((i : Int) + 1).toNat < N8 - ((i : Int)).toNat
        have := HL8.out
        omega
    · have hl8 : ¬ (i : Int) < (N8 : Int) := by omega
      clear hlt8
      go_wp2_with fail
      go_ret
      exact ⟨rfl, HI.out⟩
end Go.Proofs.YteknpnanmbfhfaaDoor
/- Law 8, walked: batch. -/
namespace Go.Proofs.YteknpnanmbfhfaaDoor
open Go.RowKit Go.Scr Go.Shelf Go.Proofs.YteknpnanmbfhfaaDoor.Bk8
set_option linter.unusedVariables false
theorem batL_le (n : Int) (Z : List Int) : (batL n Z).length ≤ 1099511627776 := by
  unfold batL
  split
  · rename_i h
    have hn : ¬ (n < 1 ∨ 1099511627776 < n) := fun hc => by
      unfold batE at h
      rw [if_pos hc] at h
      omega
    have := restT_le (lookZ Z) n.toNat 0 (by omega)
    omega
  · simp
theorem wrap_min : wrap64 (-9223372036854775809) = 9223372036854775807 := by first | rfl | (unfold wrap64; rfl) | (unfold wrap64; decide) | kernel_rfl
/-- one less, as the machine reckons it -/
def decZ (z : Int) : Int := if z = -9223372036854775808 then 9223372036854775807 else z - 1
theorem decZ_in {z : Int} (h : -9223372036854775808 ≤ z ∧ z ≤ 9223372036854775807) : -9223372036854775808 ≤ decZ z ∧ decZ z ≤ 9223372036854775807 := by
  unfold decZ
  split <;> omega
/-- all that was there stays but for one block -/
structure ButI (g : Nat) (a c : World) : Prop where
  os : c.os = a.os
  tape : c.tape = a.tape
  output : c.output = a.output
  size : a.heap.size ≤ c.heap.size
  block : ∀ q, q < a.heap.size → q ≠ g → c.heap[q]? = a.heap[q]?
theorem ButI.refl (g : Nat) (a : World) : ButI g a a := ⟨rfl, rfl, rfl, Nat.le_refl _, fun _ _ _ => rfl⟩
theorem ButI.set {g : Nat} {a c : World} (h : ButI g a c) (j : Nat) (v : Value) : ButI g a (c.setCell ⟨g, j, none⟩ v) :=
  ⟨h.os, h.tape, h.output, by simpa [World.setCell] using h.size, fun q hq hne => (Below.heap_setCell _ _ _ _ hne).trans (h.block q hq hne)⟩
theorem ButI.grown {g : Nat} {a c d : World} {row : Option Nat} (h : ButI g a c) (hg : c.grownBy d row) (hr : ∀ q, row = some q → a.heap.size ≤ q) : ButI g a d :=
  ⟨hg.os.trans h.os, hg.tape.trans h.tape, hg.output.trans h.output, Nat.le_trans h.size hg.size, fun q hq hne => (hg.block q (Nat.lt_of_lt_of_le hq h.size) (fun e => by have := hr q e.symm; omega)).trans (h.block q hq hne)⟩
theorem LpI.but {W0 wL w w' : World} {b g : Nat} {col : Nat → Nat} {V : Nat → Value} {hs hn : List (Value × List (Nat × Nat))} {ws wn : List Value} (h : LpI W0 wL w b col V hs ws hn wn) (hb : ButI g w w') (hg : wL.heap.size ≤ g) (hW : W0.heap.size ≤ g) (hc : col g = 0) : LpI W0 wL w' b col V hs ws hn wn := by
  refine ⟨h.bk.move (fun q hq h1 => hb.block q hq (fun e => by rw [e, hc] at h1; omega)) (fun _ _ => rfl) (fun q hq => by have := h.bk.st.lo q hq; have := hb.size; omega) ?_, Nat.le_trans h.sz hb.size, fun q h1 h2 => ⟨(hb.block q (Nat.lt_of_lt_of_le h2 h.sz) (by omega)).trans (h.kp q h1 h2).1, (h.kp q h1 h2).2⟩⟩
  have hbel := h.bk.bel
  exact ⟨hb.os.trans hbel.os, hb.tape.trans hbel.tape, hb.output.trans hbel.output, Nat.le_trans hbel.size hb.size, fun q hq => (hb.block q (Nat.lt_of_lt_of_le hq hbel.size) (by omega)).trans (hbel.block q hq)⟩
theorem Held.but {w w' : World} {T sz n g : Nat} {v : Value} {xs : List Value} (h : Held w T sz v n xs) (hb : ButI g w w') (hg : v.ownBlock ≠ some g) : Held w' T sz v n xs :=
  h.keep fun q hq => hb.block q (h.lt hq) (fun e => hg (by rw [← e]; exact hq))
theorem held_intsZ {w : World} {n : Nat} {v : Value} {Z : List Int} (h : Held w 3 1 v n (Z.map (Value.int .i64))) (hl : Z.length ≤ 281474976710656) (hb : ∀ x ∈ Z, -9223372036854775808 ≤ x ∧ x ≤ 9223372036854775807) : n = Z.length ∧ Ints w v Z := by
  have hn : n = Z.length := by have := h.1; rw [List.length_map] at this; omega
  subst hn
  obtain ⟨p, c, rfl, h1, h2, h3⟩ := h.cells
  refine ⟨rfl, p, c, rfl, h1, hl, hb, fun j z hz => ?_⟩
  obtain ⟨a, ha, _, hc⟩ := h3 j (.int .i64 z) (by rw [List.getElem?_map, hz]; rfl)
  exact ⟨a, ha, hc⟩
/-- the first i are one less -/
def decT (Z : List Int) (i : Nat) : List Int := (Z.map decZ).take i ++ Z.drop i
theorem decT_length (Z : List Int) (i : Nat) (h : i ≤ Z.length) : (decT Z i).length = Z.length := by
  unfold decT
  rw [List.length_append, List.length_take, List.length_map, List.length_drop]
  omega
theorem decT_zero (Z : List Int) : decT Z 0 = Z := by unfold decT; simp
theorem decT_end (Z : List Int) : decT Z Z.length = Z.map decZ := by
  unfold decT
  rw [List.drop_length, List.append_nil, List.take_of_length_le (by simp)]
theorem decT_at {Z : List Int} {i : Nat} {z : Int} (h : Z[i]? = some z) : (decT Z i)[i]? = some z := by
  have hi := (List.getElem?_eq_some_iff.mp h).1
  unfold decT
  rw [List.getElem?_append_right (by rw [List.length_take]; omega), List.length_take, List.length_map, Nat.min_eq_left (by omega), Nat.sub_self, List.getElem?_drop, Nat.add_zero]
  exact h
theorem decT_set {Z : List Int} {i : Nat} {z : Int} (h : Z[i]? = some z) : (decT Z i).set i (decZ z) = decT Z (i + 1) := by
  obtain ⟨hi, rfl⟩ := List.getElem?_eq_some_iff.mp h
  unfold decT
  rw [List.set_append_right _ _ (by rw [List.length_take]; omega), List.length_take, List.length_map, Nat.min_eq_left (by omega), Nat.sub_self, List.drop_eq_getElem_cons hi, List.set_cons_zero, List.take_succ_eq_append_getElem (by simpa using hi), List.append_assoc]
  simp
theorem fillI_put (L : List Int) (i : Nat) (x : Int) (h : i < L.length) : (fillI L 8).set i x = fillI (L.set i x) 8 := by
  unfold fillI
  rw [List.set_append_left _ _ h]
/-- the low list -/
structure LwI (a wr : World) (g i : Nat) (Z : List Int) (v : Value) : Prop where
  row : IRow wr g (fillI (decT Z i) 8)
  hd : Held wr 3 1 v i (((Z.map decZ).take i).map (Value.int .i64))
  ow : ∀ q, v.ownBlock = some q → a.heap.size ≤ q
  bt : ButI g a wr
theorem LwI.push {a wr w5 : World} {g i : Nat} {Z : List Int} {v v5 : Value} {z : Int} {o : Obj} (h : LwI a wr g i Z v) (hg : g < a.heap.size) (hz : Z[i]? = some z) (gr : Grew 3 1 ((wr.setCell ⟨g, i, none⟩ (.int .i64 (decZ z))).alloc o) v i 1 (((Z.map decZ).take i).map (Value.int .i64)) [.int .i64 (decZ z)] v5 w5) : LwI a w5 g (i + 1) Z v5 := by
  have hi := (List.getElem?_eq_some_iff.mp hz).1
  have hgr := grown_alloc gr.grown
  have hat := grew_own gr
  have hb1 := h.bt.set i (.int .i64 (decZ z))
  have hsz : (wr.setCell ⟨g, i, none⟩ (.int .i64 (decZ z))).heap.size = wr.heap.size := by simp [World.setCell]
  have hr1 := h.row.set i (decZ z)
  rw [fillI_put _ _ _ (by rw [decT_length Z i (by omega)]; exact hi), decT_set hz] at hr1
  refine ⟨hr1.keep (hgr.block g (by rw [hsz]; exact h.row.lt) (fun e => by have := h.ow g e.symm; omega)), ?_, ?_, hb1.grown hgr h.ow⟩
  · have hh := gr.held
    have e : ((Z.map decZ).take (i + 1)).map (Value.int .i64) = ((Z.map decZ).take i).map (Value.int .i64) ++ [.int .i64 (decZ z)] := by
      obtain ⟨hi', rfl⟩ := List.getElem?_eq_some_iff.mp hz
      rw [List.take_succ_eq_append_getElem (by simpa using hi'), List.map_append]
      simp
    rw [e]
    exact hh
  · intro q hq
    rcases hat q hq with h3 | h3
    · exact h.ow q h3
    · rw [hsz] at h3
      have := h.bt.size
      omega
/-- what was coloured keeps its colour; what does not lie in the book's own rows stays -/
def KpI (a w : World) (c0 c1 : Nat → Nat) : Prop := ∀ g, g < a.heap.size → c1 g = c0 g ∧ ((c0 g = 0 ∨ 8 ≤ c0 g) → w.heap[g]? = a.heap[g]?)
theorem KpI.trans {a w w2 : World} {c0 c1 c2 : Nat → Nat} (h : KpI a w c0 c1) (hs : a.heap.size ≤ w.heap.size) (k : KpI w w2 c1 c2) : KpI a w2 c0 c2 := fun g hg => by
  obtain ⟨m1, m2⟩ := h g hg
  obtain ⟨n1, n2⟩ := k g (Nat.lt_of_lt_of_le hg hs)
  exact ⟨n1.trans m1, fun h8 => (n2 (by rw [m1]; exact h8)).trans (m2 h8)⟩
/-- a list that waits to be held -/
def Pnd (w : World) (col : Nat → Nat) (v : Value) (n : Nat) (A : List (Nat × Nat)) (c : Nat) : Prop := Held w 29 2 v n (prsV A) ∧ ∀ g, v.ownBlock = some g → col g = c
theorem Pnd.next {a w : World} {c0 c1 : Nat → Nat} {v : Value} {n c : Nat} {A : List (Nat × Nat)} (h : Pnd a c0 v n A c) (h8 : 8 ≤ c) (hk : KpI a w c0 c1) : Pnd w c1 v n A c :=
  ⟨h.1.keep fun g hg => (hk g (h.1.lt hg)).2 (.inr (by rw [h.2 g hg]; exact h8)), fun g hg => (hk g (h.1.lt hg)).1.trans (h.2 g hg)⟩
/-- the book behind batch -/
def BtP (W0 wL : World) (b : Nat) (k : Nat) (w' : World) : Prop :=
  ∃ col V hs ws, LpI W0 wL w' b col V hs ws [] [] ∧ hs.length = k ∧ ws.length = k
set_option maxRecDepth 100000 in
set_option maxHeartbeats 8000000 in
theorem batch8_any {W0 wL w : World} {b K : Nat} (sz : Int) (v : Value) (Z : List Int) (hp : BtP W0 wL b K w) (hv : Ints w v Z) (hl : Z.length ≤ 1048576) (hK : K ≤ 600) :
    Calls Tryd.prog 25 #[.pointer (some ⟨b, 0, none⟩), .int .i64 sz, v] w fun r w' => r = .returned (.bool true) ∧ BtP W0 wL b (K + 3) w' := by
  obtain ⟨col, V, hs, ws, hlp, hsl, hwl⟩ := hp
  obtain ⟨p, c, rfl, i1, i2, i3, _⟩ := id hv
  obtain ⟨n, hn⟩ : ∃ n, n = Z.length := ⟨_, rfl⟩
  obtain ⟨N8, hN8⟩ : ∃ x, x = n + 8 := ⟨_, rfl⟩
  have CL := Lib.hid (lentInts_any _ Z w hv hl)
  have HV : Hid (∀ w', Below w.heap.size w w' → Ints w' (.slice p n c) Z) := Lib.hid (fun w' hb => by rw [hn]; exact ints_belowH hv hb (Nat.le_refl _))
  have CK : Hid (∀ w' g, Below w.heap.size w w' → IRow w' g (fillI Z 8) → Calls Tryd.prog 56 #[.slice (some ⟨g, 0, none⟩) N8 N8, .slice p n c] w' fun e w2 => e = .returned (.bool true) ∧ Below w'.heap.size w' w2) := Lib.hid (fun w' g hb hr => by
    have h2 := ints_belowH hv hb (Nat.le_refl _)
    have := keptInts_any _ Z g w' h2 hr hl
    rw [← hn, ← hN8] at this
    exact this)
  rw [← hn] at i1 i2 hl ⊢
  rw [← hn, ← hN8] at CL
  have HLP : Hid (LpI W0 wL w b col V hs ws [] [] ∧ hs.length = K ∧ ws.length = K ∧ K ≤ 600) := Lib.hid ⟨hlp, hsl, hwl, hK⟩
  have HN : Hid (n = Z.length ∧ N8 = n + 8 ∧ ∀ z ∈ Z, -9223372036854775808 ≤ z ∧ z ≤ 9223372036854775807) := Lib.hid ⟨hn, hN8, i3⟩
  have hn8 : n ≤ N8 := by omega
  have hN8b : N8 ≤ 1048584 := by omega
  have HI : Hid (∀ w' g, IRow w' g (fillI Z 8) → Ints w' (.slice (some ⟨g, 0, none⟩) n N8) Z) := Lib.hid (fun w' g hr => by
    have := hr.ints (n := n) (c := N8) (by rw [fillI_length Z 8 (Nat.le_refl _)]; omega) hn8 (by omega) (by rw [hn, fillI_take]; exact i3)
    rwa [hn, fillI_take, ← hn] at this)
  have HI2 : Hid (∀ w' g, IRow w' g (fillI (Z.map decZ) 8) → Ints w' (.slice (some ⟨g, 0, none⟩) n N8) (Z.map decZ)) := Lib.hid (fun w' g hr => by
    have hm : n = (Z.map decZ).length := by rw [List.length_map]; exact hn
    have hbd : ∀ x ∈ Z.map decZ, -9223372036854775808 ≤ x ∧ x ≤ 9223372036854775807 := by
      intro x hx
      obtain ⟨z, hz, rfl⟩ := List.mem_map.1 hx
      exact decZ_in (i3 z hz)
    have := hr.ints (n := n) (c := N8) (by rw [fillI_length _ 8 (Nat.le_refl _)]; omega) hn8 (by omega) (by rw [hm, fillI_take]; exact hbd)
    rwa [hm, fillI_take, ← hm] at this)
  obtain ⟨L1, hL1⟩ : ∃ x, x = batL sz Z := ⟨_, rfl⟩
  obtain ⟨n1, hn1⟩ : ∃ x, x = L1.length := ⟨_, rfl⟩
  obtain ⟨E1, hE1⟩ : ∃ x : Int, x = ((batE sz Z : Nat) : Int) := ⟨_, rfl⟩
  obtain ⟨L2, hL2⟩ : ∃ x, x = batL sz (Z.map decZ) := ⟨_, rfl⟩
  obtain ⟨n2, hn2⟩ : ∃ x, x = L2.length := ⟨_, rfl⟩
  obtain ⟨E2, hE2⟩ : ∃ x : Int, x = ((batE sz (Z.map decZ) : Nat) : Int) := ⟨_, rfl⟩
  have CB : Hid (∀ w' u, Ints w' u Z → Calls Tryd.prog 31 #[.int .i64 sz, u] w' (OutQ w' 29 E1 L1 n1)) := Lib.hid (fun w' u hu => by
    rw [hE1, hL1] at *
    exact (sbatch_any sz u Z w' hu).mono fun r w2 h => outQ hn1 h)
  have CR : Hid (∀ w' u, Ints w' u Z → Calls Tryd.prog 29 #[.int .i64 sz, u] w' (OutQ w' 29 E1 L1 n1)) := Lib.hid (fun w' u hu => by
    rw [hE1, hL1] at *
    exact (rbatchP_any sz u Z w' hu).mono fun r w2 h => outQ hn1 h)
  have CB2 : Hid (∀ w' u, Ints w' u (Z.map decZ) → Calls Tryd.prog 31 #[.int .i64 sz, u] w' (OutQ w' 29 E2 L2 n2)) := Lib.hid (fun w' u hu => by
    rw [hE2, hL2] at *
    exact (sbatch_any sz u _ w' hu).mono fun r w2 h => outQ hn2 h)
  have CR2 : Hid (∀ w' u, Ints w' u (Z.map decZ) → Calls Tryd.prog 29 #[.int .i64 sz, u] w' (OutQ w' 29 E2 L2 n2)) := Lib.hid (fun w' u hu => by
    rw [hE2, hL2] at *
    exact (rbatchP_any sz u _ w' hu).mono fun r w2 h => outQ hn2 h)
  have HLEN : Hid (n1 = L1.length ∧ L1.length ≤ 1099511627776 ∧ n2 = L2.length ∧ L2.length ≤ 1099511627776) := Lib.hid ⟨hn1, by rw [hL1]; exact batL_le _ _, hn2, by rw [hL2]; exact batL_le _ _⟩
  have he1 : (E1 == E1) = true := by simp
  have he2 : (E2 == E2) = true := by simp
  have hni : (n : Int) ≤ (N8 : Int) := by omega
  clear hn hN8 hv hlp hsl hwl hK i3 hL1 hn1 hE1 hL2 hn2 hE2
  go_enter Tryd.func25, Tryd.ntmps25
  go_upto_region 7 with (first
    | (go_at_call 55; (with_reducible refine CL.out.mono ?_); rintro r w3 ⟨⟨g, rfl, hg, hr⟩, hb⟩; have H3 : Hid (w.heap.size ≤ g ∧ IRow w3 g (fillI Z 8) ∧ Below w.heap.size w w3) := Lib.hid ⟨hg, hr, hb⟩; clear hg hr hb)
    | (go_at_call 31; (with_reducible refine (CB.out w3 _ (HI.out _ _ H3.out.2.1)).mono ?_); rintro r w4 ⟨⟨pa, ca, rfl, hh, ho⟩, hb⟩; have HB4 := Lib.hid hb; have HO4 := Lib.hid (And.intro hh ho); have HR4 := Lib.hid (H3.out.2.1.keep (hb.block _ H3.out.2.1.lt)); clear hb hh ho)
    | (go_at_call 31; (with_reducible refine (CB.out w4 _ (HI.out _ _ HR4.out)).mono ?_); rintro r w5 ⟨⟨pc, cc, rfl, hh, ho⟩, hb⟩; have HB5 := Lib.hid hb; have HO5 := Lib.hid (And.intro hh ho); have HR5 := Lib.hid (HR4.out.keep (hb.block _ HR4.out.lt)); clear hb hh ho)
    | (go_at_call 29; (with_reducible refine (CR.out w5 _ (HV.out _ (below_onS H3.out.2.2 (below_onS HB4.out HB5.out HB4.out.size) H3.out.2.2.size))).mono ?_); rintro r w6 ⟨⟨pb, cb, rfl, hh, ho⟩, hb⟩; have HB6 := Lib.hid hb; have HO6 := Lib.hid (And.intro hh ho); have HR6 := Lib.hid (HR5.out.keep (hb.block _ HR5.out.lt)); clear hb hh ho)
    | (go_at_call 56; (with_reducible refine (CK.out w6 _ (below_onS H3.out.2.2 (below_onS HB4.out (below_onS HB5.out HB6.out HB5.out.size) HB4.out.size) H3.out.2.2.size) HR6.out).mono ?_); rintro r w7 ⟨rfl, hb⟩; have HB7 := Lib.hid hb; have HR7 := Lib.hid (HR6.out.keep (hb.block _ HR6.out.lt)); clear hb))
  obtain ⟨hlp, hsl, hwl, hK⟩ := HLP.out
  have hb456 := below_onS HB4.out (below_onS HB5.out HB6.out HB5.out.size) HB4.out.size
  obtain ⟨col2, k2, ca1, cc1, co2⟩ := (hlp.later H3.out.2.2).two HB4.out HB5.out (v1 := .slice pa n1 ca) (v2 := .slice pc n1 cc) (16 + hs.length) (16 + (hs.length + 1)) (fun g hg => ⟨HO4.out.2 g hg, HO4.out.1.lt hg⟩) (fun g hg => ⟨HO5.out.2 g hg, HO5.out.1.lt hg⟩)
  obtain ⟨col4, k4, cb1, _, co4⟩ := k2.two HB6.out HB7.out (v1 := .slice pb n1 cb) (v2 := .slice none 0 0) 8 8 (fun g hg => ⟨HO6.out.2 g hg, HO6.out.1.lt hg⟩) (fun g hg => by cases hg)
  have hg3 := H3.out.2.1.lt
  have hs45 : w4.heap.size ≤ w5.heap.size := HB5.out.size
  have hs34 : w3.heap.size ≤ w4.heap.size := HB4.out.size
  have hs56 : w5.heap.size ≤ w6.heap.size := HB6.out.size
  have hcg : col4 g = 0 := by
    rw [co4 g (by omega), co2 g hg3]
    by_cases e : col g = 0
    · exact e
    · have := (hlp.bk.st.lo g e).2
      have := H3.out.1
      omega
  have H7 : Hid (LpI W0 wL w7 b col4 V hs ws [] [] ∧ col4 g = 0 ∧ wL.heap.size ≤ g ∧ W0.heap.size ≤ g ∧ g < w7.heap.size ∧ (Pnd w7 col4 (.slice pa n1 ca) n1 L1 (16 + hs.length) ∧ Pnd w7 col4 (.slice pc n1 cc) n1 L1 (16 + (hs.length + 1)) ∧ Pnd w7 col4 (.slice pb n1 cb) n1 L1 8) ∧ (Value.slice pa n1 ca).ownBlock ≠ some g ∧ (Value.slice pc n1 cc).ownBlock ≠ some g ∧ (Value.slice pb n1 cb).ownBlock ≠ some g) := Lib.hid ⟨k4, hcg, Nat.le_trans hlp.sz H3.out.1, Nat.le_trans hlp.bk.bel.size H3.out.1, HR7.out.lt,
    ⟨⟨((HO4.out.1.below HB5.out).below HB6.out).below HB7.out, fun q hq => (co4 q (Nat.lt_of_lt_of_le (HO4.out.1.lt hq) hs45)).trans (ca1 q hq)⟩, ⟨(HO5.out.1.below HB6.out).below HB7.out, fun q hq => (co4 q (HO5.out.1.lt hq)).trans (cc1 q hq)⟩, ⟨HO6.out.1.below HB7.out, cb1⟩⟩,
    fun e => by have := HO4.out.2 g e; omega, fun e => by have := HO5.out.2 g e; omega, fun e => by have := HO6.out.2 g e; omega⟩
  clear hlp hsl hwl hK hb456 k2 ca1 cc1 co2 k4 cb1 co4 hg3 hs45 hs34 hs56 hcg HR4 HR5 HR6 HO4 HO5 HO6 HB4 HB5 HB6 HB7
  have HL0 : Hid (LwI w7 w7 g 0 Z (.slice none 0 0)) := Lib.hid ⟨by rw [decT_zero]; exact HR7.out, ⟨rfl, .inl ⟨rfl, rfl⟩⟩, (fun q hq => by cases hq), ButI.refl _ _⟩
  go_wp2_with fail
  go_loopw [16, 17] (fun x y wr => ∃ i : Nat, y = .int .i64 (i : Int) ∧ i ≤ n ∧ Hid (LwI w7 wr g i Z x)) (fun _ y _ => n - (intOf y).toNat)
  case atStart => exact ⟨0, rfl, by omega, HL0⟩
  case round =>
    clear HL0 HR7
    obtain ⟨i, rfl, hi, HJ⟩ := hrel
    obtain ⟨lp, lc, rfl, _⟩ := HJ.out.hd.cells
    by_cases hlt : i < n
    · have hli : (i : Int) < (n : Int) := by omega
      have hi0 : (0 : Int) ≤ (i : Int) := by omega
      have HLT := Lib.hid hlt
      obtain ⟨z, hz⟩ : ∃ z, Z[i]? = some z := ⟨Z[i]'(by have := HN.out.1; omega), List.getElem?_eq_getElem _⟩
      have hzb := HN.out.2.2 z (List.mem_of_getElem? hz)
      have k0 : wr.cell? ⟨g, i, none⟩ = some (.int .i64 z) := HJ.out.row.cell (by
        have h1 := decT_at hz
        have h2 := (List.getElem?_eq_some_iff.mp h1).1
        unfold fillI
        rw [List.getElem?_append_left h2]
        exact h1)
      have kf := HJ.out.row.free i
      obtain ⟨dz, hdz⟩ : ∃ x, x = decZ z := ⟨_, rfl⟩
      have HZ : Hid (Z[i]? = some z ∧ dz = decZ z) := Lib.hid ⟨hz, hdz⟩
      have HH : Hid (Held (wr.setCell ⟨g, i, none⟩ (.int .i64 dz)) 3 1 (.slice lp i lc) i (((Z.map decZ).take i).map (Value.int .i64))) := Lib.hid (HJ.out.hd.keep fun q hq => Below.heap_setCell _ _ _ _ (fun e => by
        have e' : q = g := e
        have := HJ.out.ow q hq
        have := H7.out.2.2.2.2.1
        omega))
      have HONE : Hid (∀ u ∈ [Value.int .i64 dz], u.oneCell' = true) := Lib.hid (fun u hu => by rw [List.mem_singleton.1 hu]; rfl)
      have hz1 : (i + 1) * 8 ≤ 140737488355328 := by omega
      have hz2 : i + 1 ≤ 140737488355328 := by omega
      have hdb := decZ_in hzb
      rw [← hdz] at hdb
      obtain ⟨hzb1, hzb2⟩ := hzb
      obtain ⟨hdb1, hdb2⟩ := hdb
      by_cases hmin : z = -9223372036854775808
      · have hdm : dz = 9223372036854775807 := by rw [hdz]; unfold decZ; rw [if_pos hmin]
        subst hmin
        subst hdm
        have hwm : wrap64 (-9223372036854775809) = 9223372036854775807 := wrap_min
        clear hlt hz hdz hzb1 hzb2 hdb1 hdb2
        go_wp2_with (at_builtin; refine wpList_grew (v := .slice lp i lc) (l := ((Z.map decZ).take i).map (Value.int .i64)) rfl _ _ rfl Tryd.underlying41 (.int .i64 0) 1 info_intH rfl (by decide) [.int .i64 9223372036854775807] 1 (by simp [Act.eval]) (by simp [Act.eval]) HH.out rfl rfl (by decide) HONE.out hz1 hz2 ?_; intro v5 w5 hg5; have HG5 := Lib.hid hg5; clear hg5)
        refine ⟨⟨i + 1, by simp, HLT.out, Lib.hid (HJ.out.push H7.out.2.2.2.2.1 HZ.out.1 (by rw [← HZ.out.2]; exact HG5.out))⟩, ?_⟩
        show n - ((i : Int) + 1).toNat < n - ((i : Int)).toNat
        have := HLT.out
        omega
      · have hdi : z - 1 = dz := by rw [hdz]; unfold decZ; rw [if_neg hmin]
        clear hlt hz hdz hmin
        go_wp2_with (at_builtin; refine wpList_grew (v := .slice lp i lc) (l := ((Z.map decZ).take i).map (Value.int .i64)) rfl _ _ rfl Tryd.underlying41 (.int .i64 0) 1 info_intH rfl (by decide) [.int .i64 dz] 1 (by simp [Act.eval]) (by simp [Act.eval]) HH.out rfl rfl (by decide) HONE.out hz1 hz2 ?_; intro v5 w5 hg5; have HG5 := Lib.hid hg5; clear hg5)
        refine ⟨⟨i + 1, by simp, HLT.out, Lib.hid (HJ.out.push H7.out.2.2.2.2.1 HZ.out.1 (by rw [← HZ.out.2]; exact HG5.out))⟩, ?_⟩
        show n - ((i : Int) + 1).toNat < n - ((i : Int)).toNat
        have := HLT.out
        omega
    · have hli : ¬ (i : Int) < (n : Int) := by omega
      obtain rfl : i = n := by omega
      have HW8 : Hid (IRow wr g (fillI (Z.map decZ) 8) ∧ Ints wr (.slice lp i lc) (Z.map decZ) ∧ ButI g w7 wr) := Lib.hid (by
        have h := HJ.out
        have hd := h.hd
        have hr := h.row
        rw [HN.out.1, decT_end] at hr
        rw [List.take_of_length_le (by rw [List.length_map]; exact Nat.le_of_eq HN.out.1.symm)] at hd
        refine ⟨hr, ?_, h.bt⟩
        refine (held_intsZ hd (by rw [List.length_map]; have := HN.out.1; omega) ?_).2
        intro x hx
        obtain ⟨z, hz, rfl⟩ := List.mem_map.1 hx
        exact decZ_in (HN.out.2.2 z hz))
      clear hlt
      go_upto_region 15 with (first
        | (go_at_call 31; (with_reducible refine (CB2.out wr _ (HI2.out _ _ HW8.out.1)).mono ?_); rintro r w9 ⟨⟨px, cx, rfl, hh, ho⟩, hb⟩; have HB9 := Lib.hid hb; have HO9 := Lib.hid (And.intro hh ho); have HI9 := Lib.hid (ints_belowH HW8.out.2.1 hb (Nat.le_refl _)); clear hb hh ho)
        | (go_at_call 29; (with_reducible refine (CR2.out w9 _ HI9.out).mono ?_); rintro r w10 ⟨⟨py, cy, rfl, hh, ho⟩, hb⟩; have HB10 := Lib.hid hb; have HO10 := Lib.hid (And.intro hh ho); clear hb hh ho))
      obtain ⟨h7, hc7, hwg, hw0, hgw, ⟨q1, q2, q3⟩, o1, o2, o3⟩ := H7.out
      obtain ⟨_, hsl, hwl, hK⟩ := HLP.out
      have h8 := LpI.but h7 HW8.out.2.2 hwg hw0 hc7
      obtain ⟨col10, k10, cx1, cy1, co10⟩ := h8.two HB9.out HB10.out (v1 := .slice px n2 cx) (v2 := .slice py n2 cy) (16 + (hs.length + 2)) 8 (fun g hg => ⟨HO9.out.2 g hg, HO9.out.1.lt hg⟩) (fun g hg => ⟨HO10.out.2 g hg, HO10.out.1.lt hg⟩)
      have hb10 := below_onS HB9.out HB10.out HB9.out.size
      have mv : ∀ {v : Value} {m : Nat} {A : List (Nat × Nat)} {c : Nat}, Pnd w7 col4 v m A c → v.ownBlock ≠ some g → Pnd w10 col10 v m A c := fun h ho => by
        have h2 := Held.but h.1 HW8.out.2.2 ho
        exact ⟨h2.below hb10, fun q hq => (co10 q (h2.lt hq)).trans (h.2 q hq)⟩
      have pa1 := mv q1 o1
      have pc1 := mv q2 o2
      have pb1 := mv q3 o3
      have px1 : Pnd w10 col10 (.slice px n2 cx) n2 L2 (16 + (hs.length + 2)) := ⟨HO9.out.1.below HB10.out, cx1⟩
      have py1 : Pnd w10 col10 (.slice py n2 cy) n2 L2 8 := ⟨HO10.out.1, cy1⟩
      have CH1 := Lib.hid (k10.holdS (by omega) (by omega) (p := pa) (q := pb) (n := n1) (c := ca) (d := cb) (A := L1) HLEN.out.1 HLEN.out.2.1 pa1.1 pa1.2 pb1.1 pb1.2)
      have MK2 : Hid (∀ col' V' w', LpI W0 wL w' b col' V' (hs ++ [(.slice pa n1 ca, L1)]) (ws ++ [.slice pb n1 cb]) [] [] → KpI w10 w' col10 col' → Calls Tryd.prog 23 #[.pointer (some ⟨b, 0, none⟩), .slice pc n1 cc, .slice pb n1 cb] w' fun r w2 => r = .returned (.tuple #[]) ∧ LpP W0 wL w' b col' (hs ++ [(.slice pa n1 ca, L1)] ++ [(.slice pc n1 cc, L1)]) (ws ++ [.slice pb n1 cb] ++ [.slice pb n1 cb]) [] [] w2) := Lib.hid (fun col' V' w' hl hk => by
        have u1 := pc1.next (by omega) hk
        have u2 := pb1.next (by omega) hk
        exact hl.holdS (by rw [List.length_append, List.length_append]; simp; omega) (by rw [List.length_append]; simp; omega) HLEN.out.1 HLEN.out.2.1 u1.1 (fun q hq => by rw [u1.2 q hq, List.length_append]; rfl) u2.1 u2.2)
      have MK3 : Hid (∀ col' V' w', LpI W0 wL w' b col' V' (hs ++ [(.slice pa n1 ca, L1)] ++ [(.slice pc n1 cc, L1)]) (ws ++ [.slice pb n1 cb] ++ [.slice pb n1 cb]) [] [] → KpI w10 w' col10 col' → Calls Tryd.prog 23 #[.pointer (some ⟨b, 0, none⟩), .slice px n2 cx, .slice py n2 cy] w' fun r w2 => r = .returned (.tuple #[]) ∧ LpP W0 wL w' b col' (hs ++ [(.slice pa n1 ca, L1)] ++ [(.slice pc n1 cc, L1)] ++ [(.slice px n2 cx, L2)]) (ws ++ [.slice pb n1 cb] ++ [.slice pb n1 cb] ++ [.slice py n2 cy]) [] [] w2) := Lib.hid (fun col' V' w' hl hk => by
        have u1 := px1.next (by omega) hk
        have u2 := py1.next (by omega) hk
        exact hl.holdS (by simp only [List.length_append, List.length_singleton]; omega) (by simp only [List.length_append, List.length_singleton]; omega) HLEN.out.2.2.1 HLEN.out.2.2.2 u1.1 (fun q hq => by rw [u1.2 q hq]; simp only [List.length_append, List.length_singleton]) u2.1 u2.2)
      clear h7 hc7 hwg hw0 hgw q1 q2 q3 o1 o2 o3 hsl hwl hK h8 k10 cx1 cy1 co10 hb10 mv pa1 pc1 pb1 px1 py1 CB CR CB2 CR2 CL CK HI HI2
      go_wp2_with (first
        | (go_at_call 23; (with_reducible refine CH1.out.mono ?_); rintro r w11 ⟨rfl, hp⟩; obtain ⟨col11, V11, k11, s11, p11⟩ := hp; have HP11 : Hid (w10.heap.size ≤ w11.heap.size ∧ KpI w10 w11 col10 col11) := Lib.hid ⟨s11, p11⟩; have CH2 := Lib.hid (MK2.out col11 V11 w11 k11 p11); clear k11 s11 p11)
        | (go_at_call 23; (with_reducible refine CH2.out.mono ?_); rintro r w12 ⟨rfl, hp⟩; obtain ⟨col12, V12, k12, s12, p12⟩ := hp; have CH3 := Lib.hid (MK3.out col12 V12 w12 k12 (HP11.out.2.trans HP11.out.1 p12)); clear k12 s12 p12)
        | (go_at_call 23; (with_reducible refine CH3.out.mono ?_); rintro r w13 ⟨rfl, hp⟩; have HP13 := Lib.hid hp; clear hp))
      go_ret
      obtain ⟨col13, V13, k13, _, _⟩ := HP13.out
      exact ⟨rfl, col13, V13, _, _, k13, by simp only [List.length_append, List.length_singleton]; have := HLP.out.2.1; omega, by simp only [List.length_append, List.length_singleton]; have := HLP.out.2.2.1; omega⟩
end Go.Proofs.YteknpnanmbfhfaaDoor
