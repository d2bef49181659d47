/- DigestSums: the law's walk. -/
import Derived.Test.YtdgblimeehijpaaDoorSums1
import Derived.Laws.CopyOwn
import Derived.BigQuiet
namespace Go.Proofs.YtdgblimeehijpaaDoor
open Go.RowKit Go.Scr
set_option linter.unusedVariables false

/-- a row of texts -/
def SRow (w : World) (g : Nat) (L : List ByteArray) : Prop := w.heap[g]? = some (.cells ((L.map Value.string).toArray) 9 (0, 0))
theorem SRow.cell {w : World} {g : Nat} {L : List ByteArray} (h : SRow w g L) {j : Nat} {s : ByteArray} (hs : L[j]? = some s) : w.cell? ⟨g, j, none⟩ = some (.string s) := by
  rw [cell_of_row w g j _ _ _ h]
  simp [hs]
theorem SRow.frozen {w : World} {g : Nat} {L : List ByteArray} (h : SRow w g L) (j : Nat) : w.frozen? ⟨g, j, none⟩ = false := by
  unfold World.frozen?
  unfold SRow at h
  simp [h]
theorem SRow.set {w : World} {g : Nat} {L : List ByteArray} (h : SRow w g L) (j : Nat) (s : ByteArray) : SRow (w.setCell ⟨g, j, none⟩ (.string s)) g (L.set j s) := by
  have := blk_set h j (.string s)
  unfold SRow
  rw [this]
  congr 2
  simp [List.map_set]
theorem SRow.below {w w' : World} {g B : Nat} {L : List ByteArray} (h : SRow w g L) (hb : Below B w w') (hg : g < B) : SRow w' g L := blk_below h hb hg
theorem SRow.lt {w : World} {g : Nat} {L : List ByteArray} (h : SRow w g L) : g < w.heap.size := row_lt h
theorem SRow.txts {w : World} {g : Nat} {L : List ByteArray} (h : SRow w g L) {n : Nat} (hn : n ≤ L.length) (hl : L.length ≤ 281474976710656) : Txts w (.slice (some ⟨g, 0, none⟩) n L.length) (L.take n) := by
  refine ⟨_, _, by rw [List.length_take, Nat.min_eq_left hn], by rw [List.length_take]; omega, by rw [List.length_take]; omega, fun j s hs => ⟨_, rfl, ?_⟩⟩
  have hadd : (⟨g, 0, none⟩ : Addr).add j = ⟨g, j, none⟩ := by unfold Addr.add; split <;> simp_all
  rw [hadd]
  obtain ⟨hj, he⟩ := List.getElem?_eq_some_iff.mp hs
  exact h.cell (by rw [List.getElem?_take] at hs; split at hs; exact hs; cases hs)
theorem madeCells_strs (c : Nat) : madeCells #[Value.string ⟨#[]⟩] c = (((List.replicate c (⟨#[]⟩ : ByteArray)).map Value.string)).toArray := by
  apply Array.ext'
  rw [toList_madeCells_one]
  simp
theorem make_strs (n : Nat) (hn : n ≤ 4194304) (w : World) :
    (Instr.makeSlice 23 (.int .i64 (n : Int)) (.int .i64 (n : Int))).run Tryd.prog w = .ok (.slice (some ⟨w.heap.size, 0, none⟩) n n) (w.alloc (.cells (Array.replicate n (Value.string ⟨#[]⟩)) 9)) := by
  obtain ⟨i, hi0, hz, hsi, hbi⟩ := info_parts info_str
  have h := run_make_rowN (P := Tryd.prog) 23 9 i (.string ⟨#[]⟩) Tryd.underlying23 hi0 hz .i64 .i64 n n (Nat.le_refl _) (by rw [hbi]; omega) (by omega) w
  rw [h, hsi, Nat.mul_one]
  have e : (Value.string ⟨#[]⟩ : Value).cells = #[Value.string ⟨#[]⟩] := rfl
  rw [e, madeCells_strs]
  simp
def behind : ByteArray := ⟨#[98, 101, 104, 105, 110, 100]⟩
def fill8 (L : List ByteArray) (k : Nat) : List ByteArray := L ++ (List.replicate k behind ++ List.replicate (8 - k) ⟨#[]⟩)
theorem fill8_set (L : List ByteArray) (k : Nat) (h : k < 8) : (fill8 L k).set (L.length + k) behind = fill8 L (k + 1) := by
  unfold fill8
  rw [List.set_append_right _ _ (by omega), Nat.add_sub_cancel_left, List.set_append_right _ _ (by simp), List.length_replicate, Nat.sub_self, show 8 - k = (8 - (k + 1)) + 1 by omega, List.replicate_succ, List.set_cons_zero, List.replicate_succ', List.append_assoc]
  rfl
theorem fill8_length (L : List ByteArray) (k : Nat) (h : k ≤ 8) : (fill8 L k).length = L.length + 8 := by
  unfold fill8
  simp
  omega
theorem fill8_take (L : List ByteArray) (k : Nat) : (fill8 L k).take L.length = L := by
  unfold fill8
  simp
theorem fill8_lo (L : List ByteArray) (i : Nat) (h : i < L.length) : (fill8 L 8)[i]? = L[i]? := by
  unfold fill8
  rw [List.getElem?_append_left h]
theorem fill8_hi (L : List ByteArray) (i : Nat) (h : L.length ≤ i) (h2 : i < L.length + 8) : (fill8 L 8)[i]? = some behind := by
  unfold fill8
  rw [List.getElem?_append_right h, List.getElem?_append_left (by simp; omega), List.getElem?_replicate, if_pos (by omega)]
theorem set_mid {α : Type} {M' M : List α} {k : Nat} (hk : M'.length = k) (hk2 : k < M.length) (y : α) : (M' ++ M.drop k).set k y = (M' ++ [y]) ++ M.drop (k + 1) := by
  subst hk
  rw [List.set_append_right _ _ (Nat.le_refl _), Nat.sub_self, List.drop_eq_getElem_cons hk2, List.set_cons_zero, List.append_assoc]
  rfl
theorem hsz_str : (Tryd.prog.info? 9).map (·.size) = some 1 := by kernel_rfl

set_option maxRecDepth 100000 in
set_option maxHeartbeats 2000000 in
theorem dsums_any (v0 v1 : Value) (L O : List ByteArray) (w : World) (ht : Tabs w) (hv0 : Txts w v0 L) (hv1 : Txts w v1 O) (hb : L.length + (cat L).length + (O.length + (cat O).length) ≤ 1048576) :
    Calls Tryd.prog 8 #[v0, v1] w fun e w' => e = .returned (.bool true) ∧ Below w.heap.size w w' := by
  have HT := Lib.hid ht
  have HV0 := Lib.hid hv0
  have HV1 := Lib.hid hv1
  obtain ⟨p, c, rfl, hp1, hp2, hp3⟩ := hv0
  obtain ⟨p', c', rfl, hq1, hq2, hq3⟩ := hv1
  obtain ⟨n, hn⟩ : ∃ n, n = L.length := ⟨_, rfl⟩
  obtain ⟨m, hm⟩ : ∃ m, m = O.length := ⟨_, rfl⟩
  have hw0 := weigh_any _ L w HV0.out (by omega)
  have hw1 := fun w' (h : Txts w' (.slice p' O.length c') O) => weigh_any _ O w' h (by omega)
  obtain ⟨a, ha⟩ : ∃ a, a = L.length + (cat L).length := ⟨_, rfl⟩
  obtain ⟨b, hb'⟩ : ∃ b, b = O.length + (cat O).length := ⟨_, rfl⟩
  rw [← ha] at hw0
  rw [← hb'] at hw1
  have hab : a + b ≤ 1048576 := by omega
  have hadd := fun w' => addsUp_any a b w' (by omega) (by omega)
  obtain ⟨ab, hab'⟩ : ∃ ab, ab = a + b := ⟨_, rfl⟩
  rw [← hab'] at hadd
  rw [← hn] at hp1 hw0 HV0 ⊢
  rw [← hm] at hq1 hw1 HV1 ⊢
  have hnot : ¬ ((536870911 : Int) < (ab : Int)) := by omega
  have hnb : n ≤ 1048576 := by omega
  have hmb : m ≤ 1048576 := by omega
  have HP := Lib.hid hp3
  have HQ := Lib.hid hq3
  have HW0 := Lib.hid hw0
  have HW1 := Lib.hid hw1
  have HADD := Lib.hid hadd
  have HNL := Lib.hid hn
  have HML := Lib.hid hm
  have HCL := Lib.hid (show n + (cat L).length + (m + (cat O).length) ≤ 1048576 by omega)
  have HB0 := Lib.hid (Below.refl w.heap.size w)
  clear ht hp1 hp2 hp3 hq1 hq2 hq3 hn hm hw0 hw1 ha hb' hadd hab' hab hb
  go_enter Tryd.func8, Tryd.ntmps8
  go_upto_region 7 with (first
    | (go_at_call 30; with_reducible refine HW0.out.mono ?_; rintro r w1 ⟨rfl, hb⟩; have HB1 := Lib.hid hb; clear hb)
    | (go_at_call 30; with_reducible refine (HW1.out w1 (HV1.out.below HB1.out (Nat.le_refl _))).mono ?_; rintro r w2 ⟨rfl, hb⟩; have HB2 := Lib.hid (below_from HB1.out hb HB1.out.size); clear hb)
    | (go_at_call 29; with_reducible refine (HADD.out _).mono ?_; rintro r w3 ⟨rfl, hw3⟩; subst hw3)
    | (go_at_call 15; refine (known1_any _ (HT.out.below HB2.out)).mono ?_; rintro r w4 ⟨rfl, hb⟩; have HB4 := Lib.hid (below_from HB2.out hb HB2.out.size); clear hb))
  obtain ⟨N8, hN8⟩ : ∃ N8, N8 = n + 8 := ⟨_, rfl⟩
  have hn8 : (n : Int) + 8 = (N8 : Int) := by omega
  have hN8b : N8 ≤ 1048584 := by omega
  have hmk := make_strs N8 (by omega) w4
  have HN8 := Lib.hid hN8
  clear hN8 hnot
  go_upto_region 8 with fail
  clear hn8 hmk
  have hrow0 : SRow (w4.alloc (.cells (Array.replicate N8 (Value.string ⟨#[]⟩)) 9)) w4.heap.size (List.replicate N8 ⟨#[]⟩) := by
    have h := heap_alloc_new w4 (.cells (Array.replicate N8 (Value.string ⟨#[]⟩)) 9)
    unfold SRow
    rw [h]
    simp
  have hbel5 : Below w.heap.size w (w4.alloc (.cells (Array.replicate N8 (Value.string ⟨#[]⟩)) 9)) := HB4.out.alloc HB4.out.size _
  obtain ⟨g, hg⟩ : ∃ g, g = w4.heap.size := ⟨_, rfl⟩
  rw [← hg] at hrow0 ⊢
  have HG := Lib.hid (show w.heap.size ≤ g by have := HB4.out.size; omega)
  generalize w4.alloc (.cells (Array.replicate N8 (Value.string ⟨#[]⟩)) 9) = w5 at hrow0 hbel5 ⊢
  have HROW5 := Lib.hid hrow0
  have HB5 := Lib.hid hbel5
  clear hrow0 hbel5 hg HB1 HB2
  have hsplice : splice ((List.replicate N8 (⟨#[]⟩ : ByteArray)).map Value.string) 0 (L.map Value.string) = (fill8 L 0).map Value.string := by
    unfold splice fill8
    rw [List.take_zero, List.nil_append, Nat.zero_add, List.length_map, ← HNL.out, HN8.out, ← List.map_drop, List.drop_replicate, ← List.map_append]
    congr 2
    simp
  have HSP := Lib.hid hsplice
  have hcp : 0 < (L.map Value.string).length → (some (⟨g, 0, none⟩ : Addr)) = some ⟨g, 0, none⟩ ∧ ∃ ad, p = some ad ∧ ∀ j v, (L.map Value.string)[j]? = some v → w5.cell? (ad.add j) = some v := by
    intro h0
    refine ⟨rfl, ?_⟩
    obtain ⟨s0, hs0⟩ : ∃ s0, L[0]? = some s0 := ⟨L[0]'(by simpa using h0), List.getElem?_eq_getElem _⟩
    obtain ⟨a0, rfl, _⟩ := HP.out 0 s0 hs0
    refine ⟨a0, rfl, fun j v hv => ?_⟩
    rw [List.getElem?_map] at hv
    cases hj : L[j]? with
    | none => rw [hj] at hv; cases hv
    | some s =>
      rw [hj] at hv
      simp only [Option.map_some, Option.some.injEq] at hv
      obtain ⟨a1, he, hc⟩ := HP.out j s hj
      cases he
      rw [← hv]
      exact (HB5.out.cell (block_lt_of_cell hc)).trans hc
  have HCP := Lib.hid hcp
  have HNMIN := Lib.hid (show (L.map Value.string).length = Nat.min n N8 by rw [List.length_map, ← HNL.out]; have := HN8.out; exact (Nat.min_eq_left (by omega)).symm)
  have HFIT := Lib.hid (show 0 + (L.map Value.string).length ≤ ((List.replicate N8 (⟨#[]⟩ : ByteArray)).map Value.string).length by simp; have := HN8.out; have := HNL.out; omega)
  clear hsplice hcp
  go_wp2_with ((with_reducible refine wpList_copy_splice (o := ⟨some 34, _, _, _, _, _⟩) rfl (.tmp 32) (.tmp 33) 23 23 rfl 9 Tryd.underlying23 hsz_str (some ⟨g, 0, none⟩) p N8 N8 n c ?_ ?_ g 0 ((List.replicate N8 (⟨#[]⟩ : ByteArray)).map Value.string) 9 ?_ (L.map Value.string) HNMIN.out HCP.out HFIT.out (str_one _) w.heap.size w HB5.out HG.out ?_); rfl; rfl; exact HROW5.out; intro w6 hrow6 hb6; rw [HSP.out] at hrow6; have HROW6 : Hid (SRow w6 g (fill8 L 0)) := hrow6.out; have HB6 := Lib.hid hb6; clear hrow6 hb6)
  clear HSP HCP HNMIN HFIT
  go_loopw [8] (fun q wr => ∃ k i : Nat, k ≤ 8 ∧ Hid (i = n + k) ∧ q = .int .i64 i ∧ SRow wr g (fill8 L k) ∧ Below w.heap.size w wr) (fun q _ => N8 - (intOf q).toNat)
  case atStart => exact ⟨0, n, by omega, rfl, rfl, HROW6.out, HB6.out⟩
  case round =>
    clear HROW6 HB6
    obtain ⟨k, i, hk, hi, rfl, hrow, hbel⟩ := hrel
    have HI := Lib.hid hi.out
    have HROW := Lib.hid hrow
    have HBEL := Lib.hid hbel
    clear hi hrow hbel
    by_cases hk8 : k < 8
    · have hi8 : (i : Int) < (N8 : Int) := by have := HI.out; have := HN8.out; omega
      obtain ⟨old, hold⟩ : ∃ s, (fill8 L k)[i]? = some s := ⟨(fill8 L k)[i]'(by rw [fill8_length L k hk]; have := HI.out; have := HNL.out; omega), List.getElem?_eq_getElem _⟩
      have hcell := HROW.out.cell hold
      have hfz := HROW.out.frozen i
      have hset := HROW.out.set i behind
      rw [show i = L.length + k by have := HI.out; have := HNL.out; omega, fill8_set L k hk8, ← show i = L.length + k by have := HI.out; have := HNL.out; omega] at hset
      have HSET := Lib.hid hset
      have HBS := Lib.hid (HBEL.out.setCell (p := ⟨g, i, none⟩) HG.out (.string behind))
      clear hold hset
      go_wp2_with fail
      exact ⟨⟨k + 1, i + 1, by omega, (by have := HI.out; show _ = _; omega), rfl, HSET.out, HBS.out⟩, (by show N8 - ((i : Int) + 1).toNat < N8 - (i : Int).toNat; have := HI.out; have := HN8.out; omega)⟩
    · have hi8 : ¬ ((i : Int) < (N8 : Int)) := by have := HI.out; have := HN8.out; omega
      obtain ⟨M, hM⟩ : ∃ M, M = fill8 L 8 := ⟨_, rfl⟩
      have hMl : M.length = N8 := by rw [hM, fill8_length L 8 (Nat.le_refl _), HN8.out, HNL.out]
      have hMt : M.take n = L := by rw [hM, HNL.out]; exact fill8_take L 8
      have hrow : SRow wr g M := by have := HROW.out; rwa [show k = 8 by omega, ← hM] at this
      have HROWM := Lib.hid hrow
      have htx : ∀ w', SRow w' g M → Txts w' (.slice (some ⟨g, 0, none⟩) n N8) L := fun w' h => by
        have := h.txts (n := n) (by rw [hMl]; have := HN8.out; omega) (by rw [hMl]; omega)
        rwa [hMt, hMl] at this
      have HTX := Lib.hid htx
      have hcat : (cat L).length ≤ 1000000000000000000 := by have := HCL.out; omega
      obtain ⟨D, hD⟩ : ∃ D : ByteArray, D = ⟨(sha (cat L)).toArray⟩ := ⟨_, rfl⟩
      have hsum := fun w' (h : SRow w' g M) (ht : Tabs w') => sum_any _ L w' ht (htx w' h) hcat
      rw [← hD] at hsum
      obtain ⟨S, hS⟩ : ∃ S, S = str (cat L) := ⟨_, rfl⟩
      have hjoin := fun w' (h : Txts w' (.slice p n c) L) => joined_any _ L w' h (by have := HCL.out; have := HNL.out; omega)
      rw [← hS] at hjoin
      have HSUM := Lib.hid hsum
      have HJOIN := Lib.hid hjoin
      have HML2 := Lib.hid hMl
      have HMT := Lib.hid hMt
      have HM := Lib.hid hM
      have HS := Lib.hid hS
      have HD := Lib.hid hD
      have hn0 : (0 : Int) ≤ (n : Int) := by omega
      have hn8' : (n : Int) ≤ (N8 : Int) := by have := HN8.out; omega
      clear hM hMl hMt hrow htx hcat hD hsum hS hjoin HROW
      go_wp2_with (first
        | (go_at_call 31; refine (HJOIN.out wr (HV0.out.below HBEL.out (Nat.le_refl _))).mono ?_; rintro r w7 ⟨rfl, hb⟩; have HB7 := Lib.hid (below_from HBEL.out hb HBEL.out.size); have HROW7 := Lib.hid (HROWM.out.below hb HROWM.out.lt); clear hb)
        | (go_at_call 14; with_reducible refine (HSUM.out w7 HROW7.out (HT.out.below HB7.out)).mono ?_; rintro r w8 ⟨rfl, hb⟩; have HB8 := Lib.hid (below_from HB7.out hb HB7.out.size); have HROW8 := Lib.hid (HROW7.out.below hb HROW7.out.lt); clear hb)
        | (go_at_call 14; with_reducible refine (HSUM.out w8 HROW8.out (HT.out.below HB8.out)).mono ?_; rintro r w9 ⟨rfl, hb⟩; have HB9 := Lib.hid (below_from HB8.out hb HB8.out.size); have HROW9 := Lib.hid (HROW8.out.below hb HROW8.out.lt); clear hb))
      clear hi8 HROWM HBEL HB7 HB8 HROW7 HROW8 hn0 hn8'
      go_loopw [12, 13] (fun x q wr => ∃ i : Nat, i ≤ N8 ∧ x = .bool true ∧ q = .int .i64 i ∧ SRow wr g M ∧ Below w.heap.size w wr) (fun _ q _ => N8 - (intOf q).toNat)
      case atStart => exact ⟨0, by omega, rfl, rfl, HROW9.out, HB9.out⟩
      case round =>
        clear HROW9 HB9
        obtain ⟨i, hi, rfl, rfl, hrow, hbel⟩ := hrel
        have HROW := Lib.hid hrow
        have HBEL := Lib.hid hbel
        clear hrow hbel
        by_cases hlt : i < N8
        · have hl8 : (i : Int) < (N8 : Int) := by omega
          by_cases hin : i < n
          · obtain ⟨s, hs⟩ : ∃ s, L[i]? = some s := ⟨L[i]'(by rw [← HNL.out]; exact hin), List.getElem?_eq_getElem _⟩
            obtain ⟨a, rfl, hc⟩ := HP.out i s hs
            have hcell1 : wr.cell? (a.add i) = some (.string s) := (HBEL.out.cell (block_lt_of_cell hc)).trans hc
            have hcell2 : wr.cell? ⟨g, i, none⟩ = some (.string s) := HROW.out.cell (by rw [HM.out, fill8_lo L i (by rw [← HNL.out]; exact hin)]; exact hs)
            have hin' : (i : Int) < (n : Int) := by omega
            clear hs hc
            go_upto_region 20 with fail
            go_quiet (fail)
            have HROW2 : Hid (SRow (wr.drewN nq) g M) := HROW.out
            have HBEL2 : Hid (Below w.heap.size w (wr.drewN nq)) := below_drewN HBEL.out nq
            generalize wr.drewN nq = wx at *
            go_wp2_with fail
            exact ⟨⟨i + 1, by omega, rfl, rfl, HROW2.out, HBEL2.out⟩, (by show N8 - ((i : Int) + 1).toNat < N8 - (i : Int).toNat; omega)⟩
          · have hcell2 : wr.cell? ⟨g, i, none⟩ = some (.string behind) := HROW.out.cell (by rw [HM.out, fill8_hi L i (by have := HNL.out; omega) (by have := HNL.out; have := HN8.out; omega)])
            have hin' : decide ((i : Int) < (n : Int)) = false := decide_eq_false (by omega)
            have hge : (n : Int) ≤ (i : Int) := by omega
            have hbeh : (behind.toList == [98, 101, 104, 105, 110, 100]) = true := by decide +kernel
            go_upto_region 20 with fail
            go_quiet (fail)
            have HROW2 : Hid (SRow (wr.drewN nq) g M) := HROW.out
            have HBEL2 : Hid (Below w.heap.size w (wr.drewN nq)) := below_drewN HBEL.out nq
            generalize wr.drewN nq = wx at *
            go_wp2_with fail
            exact ⟨⟨i + 1, by omega, rfl, rfl, HROW2.out, HBEL2.out⟩, (by show N8 - ((i : Int) + 1).toNat < N8 - (i : Int).toNat; omega)⟩
        · have hl8 : ¬ ((i : Int) < (N8 : Int)) := by omega
          go_wp2_with fail
          clear hl8
          go_loopw [14] (fun q wr => ∃ (k : Nat) (M' : List ByteArray), k ≤ n ∧ q = .int .i64 k ∧ Hid (M'.length = k) ∧ SRow wr g (M' ++ M.drop k) ∧ Hid ((cat M').length ≤ k + (cat (O.take k)).length) ∧ Below w.heap.size w wr) (fun q _ => n - (intOf q).toNat)
          case atStart => exact ⟨0, [], by omega, rfl, rfl, HROW.out, (by show (0 : Nat) ≤ _; omega), HBEL.out⟩
          case round =>
            clear HROW HBEL
            obtain ⟨k, M', hk, rfl, hl, hrow, hc, hbel⟩ := hrel
            have HL := Lib.hid hl.out
            have HROW := Lib.hid hrow
            have HC := Lib.hid hc.out
            have HBEL := Lib.hid hbel
            clear hl hrow hc hbel
            by_cases hkn : k < n
            · have hkM : k < M.length := by have := HML2.out; have := HN8.out; omega
              have hki : (k : Int) < (n : Int) := by omega
              have hk8 : (k : Int) < (N8 : Int) := by have := HN8.out; omega
              obtain ⟨old, hold⟩ : ∃ s, (M' ++ M.drop k)[k]? = some s := ⟨(M' ++ M.drop k)[k]'(by rw [List.length_append, List.length_drop]; have := HL.out; omega), List.getElem?_eq_getElem _⟩
              have hcell := HROW.out.cell hold
              have hfz := HROW.out.frozen k
              have hrow1 := HROW.out.set k ⟨#[120]⟩
              rw [set_mid HL.out hkM] at hrow1
              have hbel1 := HBEL.out.setCell (p := ⟨g, k, none⟩) HG.out (.string ⟨#[120]⟩)
              by_cases hkm : k < m
              · obtain ⟨t, ht⟩ : ∃ t, O[k]? = some t := ⟨O[k]'(by rw [← HML.out]; exact hkm), List.getElem?_eq_getElem _⟩
                obtain ⟨a', rfl, hc0⟩ := HQ.out k t ht
                have hcell1 : (wr.setCell ⟨g, k, none⟩ (.string ⟨#[120]⟩)).cell? (a'.add k) = some (.string t) := (hbel1.cell (block_lt_of_cell hc0)).trans hc0
                have hcell2 : (wr.setCell ⟨g, k, none⟩ (.string ⟨#[120]⟩)).cell? ⟨g, k, none⟩ = some (.string ⟨#[120]⟩) := hrow1.cell (by rw [List.append_assoc, List.getElem?_append_right (by rw [HL.out]; exact Nat.le_refl _), HL.out, Nat.sub_self]; rfl)
                have hfz2 := hrow1.frozen k
                have hrow2 := HROW.out.set k ⟨#[120]⟩
                have hrow3 := hrow2.set k t
                rw [List.set_set, set_mid HL.out hkM] at hrow3
                have HROW3 := Lib.hid hrow3
                have HBEL3 := Lib.hid (hbel1.setCell (p := ⟨g, k, none⟩) HG.out (.string t))
                have hkmi : (k : Int) < (m : Int) := by omega
                have HCT := Lib.hid (cat_take ht)
                clear hold ht hc0 hrow1 hrow2 hrow3 hbel1
                go_wp2_with fail
                refine ⟨⟨k + 1, M' ++ [t], by omega, rfl, (by show _ = _; rw [List.length_append, HL.out]; rfl), HROW3.out, ?_, HBEL3.out⟩, (by show n - ((k : Int) + 1).toNat < n - (k : Int).toNat; omega)⟩
                show _ ≤ _
                rw [cat_snoc, HCT.out, List.length_append, List.length_append]
                have := HC.out
                omega
              · have hkmi : ¬ ((k : Int) < (m : Int)) := by omega
                have HROW3 := Lib.hid hrow1
                have HBEL3 := Lib.hid hbel1
                clear hold hrow1 hbel1
                go_wp2_with fail
                refine ⟨⟨k + 1, M' ++ [⟨#[120]⟩], by omega, rfl, (by show _ = _; rw [List.length_append, HL.out]; rfl), HROW3.out, ?_, HBEL3.out⟩, (by show n - ((k : Int) + 1).toNat < n - (k : Int).toNat; omega)⟩
                show _ ≤ _
                rw [cat_snoc, List.length_append]
                have h1 := HC.out
                have h2 : (cat (O.take (k + 1))).length = (cat (O.take k)).length := by rw [List.take_of_length_le (by have := HML.out; omega), List.take_of_length_le (by have := HML.out; omega)]
                have h3 : (⟨#[120]⟩ : ByteArray).data.toList.length = 1 := rfl
                omega
            · have hki : ¬ ((k : Int) < (n : Int)) := by omega
              have hkn2 : k = n := by omega
              have hMl : M'.length = n := by rw [HL.out, hkn2]
              have hAl : (M' ++ M.drop k).length = N8 := by rw [List.length_append, List.length_drop, HML2.out, hMl, hkn2, HN8.out]; omega
              have hAt : (M' ++ M.drop k).take n = M' := by rw [List.take_append_of_le_length (by omega), List.take_of_length_le (by omega)]
              have htx : ∀ w', SRow w' g (M' ++ M.drop k) → Txts w' (.slice (some ⟨g, 0, none⟩) n N8) M' := fun w' h => by
                have := h.txts (n := n) (by rw [hAl]; have := HN8.out; omega) (by rw [hAl]; omega)
                rwa [hAt, hAl] at this
              have hcb : n + (cat M').length ≤ 8388608 := by
                have h1 := HC.out
                have h2 := cat_take_le O k
                have h3 := HCL.out
                omega
              obtain ⟨C, hC⟩ : ∃ C : ByteArray, C = ⟨(sha (cat M')).toArray⟩ := ⟨_, rfl⟩
              obtain ⟨T, hT⟩ : ∃ T, T = str (cat M') := ⟨_, rfl⟩
              have hsum := fun w' (h : SRow w' g (M' ++ M.drop k)) (ht : Tabs w') => sum_any _ M' w' ht (htx w' h) (by omega)
              rw [← hC] at hsum
              have hjoin := fun w' (h : SRow w' g (M' ++ M.drop k)) => joined_any _ M' w' (htx w' h) (by rw [hMl]; exact hcb)
              rw [← hT] at hjoin
              have hSl : S.data.toList = cat L := by rw [HS.out, str_list]
              have hSs : S.size ≤ 1048576 := by rw [HS.out, str_size]; have := HCL.out; omega
              have hTl : T.data.toList = cat M' := by rw [hT, str_list]
              have hTs : T.size ≤ 8388608 := by rw [hT, str_size]; omega
              have hr1 := fun w' => rsum_any S w' (by omega)
              rw [hSl, ← HD.out] at hr1
              have hr2 := fun w' => rsum_any T w' (by omega)
              rw [hTl, ← hC] at hr2
              obtain ⟨LF, hLF⟩ : ∃ LF, LF = hleaf S := ⟨_, rfl⟩
              have hl1 := fun w' h => dleaf_any S w' h (by omega)
              have hl2 := fun w' => rleaf_any S w' (by omega)
              rw [← hLF] at hl1 hl2
              have HSUM2 := Lib.hid hsum
              have HJOIN2 := Lib.hid hjoin
              have HR1 := Lib.hid hr1
              have HR2 := Lib.hid hr2
              have HL1 := Lib.hid hl1
              have HL2 := Lib.hid hl2
              have hn0 : (0 : Int) ≤ (n : Int) := by omega
              have hn8' : (n : Int) ≤ (N8 : Int) := by have := HN8.out; omega
              clear hkn2 hMl hAl hAt htx hcb hC hT hsum hjoin hSl hSs hTl hTs hr1 hr2 hLF hl1 hl2
              go_wp2_with (first
                | (go_at_call 14; with_reducible refine (HSUM2.out wr HROW.out (HT.out.below HBEL.out)).mono ?_; rintro r w10 ⟨rfl, hb⟩; have HB10 := Lib.hid (below_from HBEL.out hb HBEL.out.size); have HROW10 := Lib.hid (HROW.out.below hb HROW.out.lt); clear hb)
                | (go_at_call 31; with_reducible refine (HJOIN2.out w10 HROW10.out).mono ?_; rintro r w11 ⟨rfl, hb⟩; have HB11 := Lib.hid (below_from HB10.out hb HB10.out.size); clear hb)
                | (go_at_call 32; with_reducible refine (HR1.out w11).mono ?_; rintro r w12 ⟨rfl, hb⟩; have HB12 := Lib.hid (below_from HB11.out hb HB11.out.size); clear hb)
                | (go_at_call 32; with_reducible refine (HR2.out w12).mono ?_; rintro r w13 ⟨rfl, hb⟩; have HB13 := Lib.hid (below_from HB12.out hb HB12.out.size); clear hb)
                | (go_at_call 33; with_reducible refine (HL1.out w13 (HT.out.below HB13.out)).mono ?_; rintro r w14 ⟨rfl, hb⟩; have HB14 := Lib.hid (below_from HB13.out hb HB13.out.size); clear hb)
                | (go_at_call 34; with_reducible refine (HL2.out w14).mono ?_; rintro r w15 ⟨rfl, hb⟩; have HB15 := Lib.hid (below_from HB14.out hb HB14.out.size); clear hb)
                | (go_at_call 35; with_reducible refine (dempty_any w15 (HT.out.below HB15.out)).mono ?_; rintro r w16 ⟨rfl, hb⟩; have HB16 := Lib.hid (below_from HB15.out hb HB15.out.size); clear hb)
                | (go_at_call 36; with_reducible refine (rempty_any w16).mono ?_; rintro r w17 ⟨rfl, hb⟩; have HB17 := Lib.hid (below_from HB16.out hb HB16.out.size); clear hb))
              go_ret
              exact ⟨rfl, HB17.out⟩
end Go.Proofs.YtdgblimeehijpaaDoor
