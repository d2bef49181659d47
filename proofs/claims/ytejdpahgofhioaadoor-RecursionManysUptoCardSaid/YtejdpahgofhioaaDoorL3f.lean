/- The law 3's helpers, walked: same, lent, kept. -/
import Derived.Test.YtejdpahgofhioaaDoorL3c
namespace Go.Proofs.YtejdpahgofhioaaDoor
open Go.RowKit Go.Scr
set_option linter.unusedVariables false

theorem text_ne {a b : ByteArray} (h : a ≠ b) : (a.toList == b.toList) = false := by
  refine beq_eq_false_iff_ne.2 fun h2 => h ?_
  rw [ByteArray.toList_eq, ByteArray.toList_eq] at h2
  exact ByteArray.ext (Array.toList_inj.mp h2)
theorem text_same (a : ByteArray) : (a.toList == a.toList) = true := beq_self_eq_true _
def spare : ByteArray := ⟨#[115, 112, 97, 114, 101]⟩
def fillS (L : List ByteArray) (k : Nat) : List ByteArray := L ++ (List.replicate k spare ++ List.replicate (8 - k) ⟨#[]⟩)
theorem fillS_set (L : List ByteArray) (k : Nat) (h : k < 8) : (fillS L k).set (L.length + k) spare = fillS L (k + 1) := by
  unfold fillS
  rw [List.set_append_right _ _ (by omega), Nat.add_sub_cancel_left, List.set_append_right _ _ (by simp), List.length_replicate, Nat.sub_self, show 8 - k = (8 - (k + 1)) + 1 by omega, List.replicate_succ, List.set_cons_zero, List.replicate_succ', List.append_assoc]
  rfl
theorem fillS_length (L : List ByteArray) (k : Nat) (h : k ≤ 8) : (fillS L k).length = L.length + 8 := by
  unfold fillS
  simp
  omega
theorem fillS_take (L : List ByteArray) (k : Nat) : (fillS L k).take L.length = L := by
  unfold fillS
  simp
theorem fillS_lo (L : List ByteArray) (i : Nat) (h : i < L.length) : (fillS L 8)[i]? = L[i]? := by
  unfold fillS
  rw [List.getElem?_append_left h]
theorem fillS_hi (L : List ByteArray) (i : Nat) (h : L.length ≤ i) (h2 : i < L.length + 8) : (fillS L 8)[i]? = some spare := by
  unfold fillS
  rw [List.getElem?_append_right h, List.getElem?_append_left (by simp; omega), List.getElem?_replicate, if_pos (by omega)]
theorem fillS_txts {w : World} {g : Nat} {L : List ByteArray} (h : SRow w g (fillS L 8)) (hl : L.length ≤ 1048576) : Txts w (.slice (some ⟨g, 0, none⟩) L.length (L.length + 8)) L := by
  have hf := fillS_length L 8 (Nat.le_refl _)
  have := h.txts (n := L.length) (by omega) (by omega)
  rwa [fillS_take, hf] at this
theorem fillS_put (L : List ByteArray) (i : Nat) (x : ByteArray) (h : i < L.length) : (fillS L 8).set i x = fillS (L.set i x) 8 := by
  unfold fillS
  rw [List.set_append_left _ _ h]

set_option maxRecDepth 100000 in
set_option maxHeartbeats 1000000 in
theorem lent3_any (v : Value) (L : List ByteArray) (w : World) (hv : Txts w v L) (hl : L.length ≤ 1048576) :
    Calls Tryd.prog 18 #[v] w fun e w' => ∃ g, e = .returned (.slice (some ⟨g, 0, none⟩) (L.length + 8) (L.length + 8)) ∧ w.heap.size ≤ g ∧ SRow w' g (fillS L 8) ∧ Below w.heap.size w w' := by
  have HV := Lib.hid hv
  obtain ⟨p, c, rfl, hv1, hv2, hv3⟩ := hv
  obtain ⟨n, hn⟩ : ∃ n, n = L.length := ⟨_, rfl⟩
  rw [← hn] at hv1 HV hl ⊢
  have HNL := Lib.hid hn
  obtain ⟨N8, hN8⟩ : ∃ N8, N8 = n + 8 := ⟨_, rfl⟩
  rw [← hN8]
  have hn8 : (n : Int) + 8 = (N8 : Int) := by omega
  have hN8b : N8 ≤ 1048584 := by omega
  have hmk := make_strs N8 (by omega) w
  have HN8 := Lib.hid hN8
  have hnb : n ≤ 1048576 := by omega
  have hsplice : splice ((List.replicate N8 (⟨#[]⟩ : ByteArray)).map Value.string) 0 (L.map Value.string) = (fillS L 0).map Value.string := by
    unfold splice fillS
    rw [List.take_zero, List.nil_append, Nat.zero_add, List.length_map, ← hn, hN8, ← List.map_drop, List.drop_replicate, ← List.map_append]
    congr 2
    simp
  have HSP := Lib.hid hsplice
  have HNMIN := Lib.hid (show (L.map Value.string).length = Nat.min n N8 by rw [List.length_map, ← hn]; exact (Nat.min_eq_left (by omega)).symm)
  have HFIT := Lib.hid (show 0 + (L.map Value.string).length ≤ ((List.replicate N8 (⟨#[]⟩ : ByteArray)).map Value.string).length by simp; omega)
  clear hn hN8 hv1 hv2 hv3 hsplice
  go_enter Tryd.func18, Tryd.ntmps18
  go_upto_region 2 with fail
  have hrow0 : SRow (w.alloc (.cells (Array.replicate N8 (Value.string ⟨#[]⟩)) 9)) w.heap.size (List.replicate N8 ⟨#[]⟩) := by
    have h := heap_alloc_new w (.cells (Array.replicate N8 (Value.string ⟨#[]⟩)) 9)
    unfold SRow
    rw [h]
    simp
  have hbel5 : Below w.heap.size w (w.alloc (.cells (Array.replicate N8 (Value.string ⟨#[]⟩)) 9)) := (Below.refl _ _).alloc (Nat.le_refl _) _
  clear hmk hn8
  obtain ⟨g, hg⟩ : ∃ g, g = w.heap.size := ⟨_, rfl⟩
  rw [← hg] at hrow0 hbel5
  rw [← hg]
  generalize w.alloc (.cells (Array.replicate N8 (Value.string ⟨#[]⟩)) 9) = w5 at hrow0 hbel5 ⊢
  have HCP := Lib.hid (copy_src (g := g) HV.out hbel5 (by omega))
  have HROW5 := Lib.hid hrow0
  have HB5 := Lib.hid hbel5
  have HG := Lib.hid (Nat.le_refl g)
  have HGW := Lib.hid hg
  clear hrow0 hbel5 hg
  go_wp2_with ((with_reducible refine wpList_copy_splice (o := ⟨some 11, _, _, _, _, _⟩) rfl (.tmp 9) (.tmp 10) 25 25 rfl 9 Tryd.underlying25 hsz_str (some ⟨g, 0, none⟩) p N8 N8 n c ?_ ?_ g 0 ((List.replicate N8 (⟨#[]⟩ : ByteArray)).map Value.string) 9 ?_ (L.map Value.string) HNMIN.out HCP.out HFIT.out (str_one _) g w HB5.out HG.out ?_); rfl; rfl; exact HROW5.out; intro w6 hrow6 hb6; rw [HSP.out] at hrow6; have HROW6 : Hid (SRow w6 g (fillS L 0)) := hrow6.out; have HB6 := Lib.hid hb6; clear hrow6 hb6)
  clear HSP HCP HNMIN HFIT
  go_loopw [4] (fun q wr => ∃ k i : Nat, k ≤ 8 ∧ Hid (i = n + k) ∧ q = .int .i64 i ∧ SRow wr g (fillS L k) ∧ Below g w wr) (fun q _ => N8 - (intOf q).toNat)
  case atStart => exact ⟨0, n, by omega, rfl, rfl, HROW6.out, HB6.out⟩
  case round =>
    clear HROW6 HB6
    obtain ⟨k, i, hk, hi, rfl, hrow, hbel⟩ := hrel
    have HI := Lib.hid hi.out
    have HROW := Lib.hid hrow
    have HBEL := Lib.hid hbel
    clear hi hrow hbel
    by_cases hk8 : k < 8
    · have hi8 : (i : Int) < (N8 : Int) := by have := HI.out; have := HN8.out; omega
      obtain ⟨old, hold⟩ : ∃ s, (fillS L k)[i]? = some s := ⟨(fillS L k)[i]'(by rw [fillS_length L k hk]; have := HI.out; have := HNL.out; omega), List.getElem?_eq_getElem _⟩
      have hcell := HROW.out.cell hold
      have hfz := HROW.out.frozen i
      have hset := HROW.out.set i spare
      rw [show i = L.length + k by have := HI.out; have := HNL.out; omega, fillS_set L k hk8, ← show i = L.length + k by have := HI.out; have := HNL.out; omega] at hset
      have HSET := Lib.hid hset
      have HBS := Lib.hid (HBEL.out.setCell (p := ⟨g, i, none⟩) HG.out (.string spare))
      clear hold hset
      go_wp2_with fail
      exact ⟨⟨k + 1, i + 1, by omega, (by have := HI.out; show _ = _; omega), rfl, HSET.out, HBS.out⟩, (by show N8 - ((i : Int) + 1).toNat < N8 - (i : Int).toNat; have := HI.out; have := HN8.out; omega)⟩
    · have hi8 : ¬ ((i : Int) < (N8 : Int)) := by have := HI.out; have := HN8.out; omega
      have HRE := Lib.hid (by have := HROW.out; rwa [show k = 8 by omega] at this : SRow wr g (fillS L 8))
      go_wp2
      go_ret
      exact ⟨g, rfl, by rw [HGW.out]; exact Nat.le_refl _, HRE.out, by rw [← HGW.out]; exact HBEL.out⟩


set_option maxRecDepth 100000 in
set_option maxHeartbeats 1000000 in
theorem same3_any (v v2 : Value) (L M : List ByteArray) (w : World) (hv : Txts w v L) (hv2 : Txts w v2 M) (hl : L.length ≤ 1048576) (hl2 : M.length ≤ 1048576) :
    Calls Tryd.prog 31 #[v, v2] w fun e w' => e = .returned (.bool (decide (L = M))) ∧ Below w.heap.size w w' := by
  obtain ⟨p, c, rfl, hv1, hv2', hv3⟩ := hv
  obtain ⟨p2, c2, rfl, hw1, hw2', hw3⟩ := hv2
  obtain ⟨n, hn⟩ : ∃ n, n = L.length := ⟨_, rfl⟩
  obtain ⟨m, hm⟩ : ∃ m, m = M.length := ⟨_, rfl⟩
  rw [← hn] at hv1 hl ⊢
  rw [← hm] at hw1 hl2 ⊢
  have HNL := Lib.hid hn
  have HML := Lib.hid hm
  have HP := Lib.hid hv3
  have HP2 := Lib.hid hw3
  clear hn hm hv1 hv2' hv3 hw1 hw2' hw3
  by_cases hnm : n = m
  · have HNM := Lib.hid hnm
    have e0 : ((n : Int) == (m : Int)) = true := beq_iff_eq.2 (by omega)
    clear hnm
    go_enter Tryd.func31, Tryd.ntmps31
    go_wp2
    go_loopw [5] (fun q wr => ∃ i : Nat, i ≤ n ∧ q = .int .i64 i ∧ Hid (∀ j, j < i → L[j]? = M[j]?) ∧ Below w.heap.size w wr) (fun q _ => n - (intOf q).toNat)
    case atStart => exact ⟨0, by omega, rfl, Lib.hid (fun j h => absurd h (by omega)), Below.refl _ _⟩
    case round =>
      obtain ⟨i, hi, rfl, hinv, hbel⟩ := hrel
      have HBEL := Lib.hid hbel
      have HINV := Lib.hid hinv.out
      clear hbel hinv
      by_cases hlt : i < n
      · have hl8 : (i : Int) < (n : Int) := by omega
        have him : (i : Int) < (m : Int) := by have := HNM.out; omega
        obtain ⟨s, hs⟩ : ∃ s, L[i]? = some s := ⟨L[i]'(by rw [← HNL.out]; exact hlt), List.getElem?_eq_getElem _⟩
        obtain ⟨t, ht⟩ : ∃ s, M[i]? = some s := ⟨M[i]'(by rw [← HML.out, ← HNM.out]; exact hlt), List.getElem?_eq_getElem _⟩
        obtain ⟨a, rfl, hc⟩ := HP.out i s hs
        obtain ⟨b, rfl, hd⟩ := HP2.out i t ht
        have hcell1 : wr.cell? (a.add i) = some (.string s) := (HBEL.out.cell (block_lt_of_cell hc)).trans hc
        have hcell2 : wr.cell? (b.add i) = some (.string t) := (HBEL.out.cell (block_lt_of_cell hd)).trans hd
        have HS := Lib.hid hs
        have HT := Lib.hid ht
        clear hs ht hc hd
        by_cases hst : s = t
        · have e1 : (s.toList == t.toList) = true := by rw [hst]; exact text_same _
          have HST := Lib.hid hst
          clear hst
          go_upto_region 6 with fail
          go_quiet (fail)
          have HBEL2 : Hid (Below w.heap.size w (wr.drewN nq)) := below_drewN HBEL.out nq
          generalize wr.drewN nq = wx at *
          go_wp2_with fail
          refine ⟨⟨i + 1, by omega, rfl, Lib.hid (fun j hj => ?_), HBEL2.out⟩, (by show n - ((i : Int) + 1).toNat < n - (i : Int).toNat; omega)⟩
          rcases Nat.lt_or_ge j i with h1 | h1
          · exact HINV.out j h1
          · have : j = i := by omega
            subst this
            rw [HS.out, HT.out, HST.out]
        · have e1 : (s.toList == t.toList) = false := text_ne hst
          have HST := Lib.hid hst
          clear hst
          go_upto_region 6 with fail
          go_quiet (fail)
          have HBEL2 : Hid (Below w.heap.size w (wr.drewN nq)) := below_drewN HBEL.out nq
          generalize wr.drewN nq = wx at *
          go_wp2_with fail
          go_ret
          have hd : decide (L = M) = false := decide_eq_false (by
            intro he
            have h1 := HS.out
            rw [he, HT.out] at h1
            exact HST.out (Option.some.inj h1).symm)
          exact ⟨by rw [hd]; rfl, HBEL2.out⟩
      · have hl8 : ¬ ((i : Int) < (n : Int)) := by omega
        go_wp2_with fail
        go_ret
        have hd : decide (L = M) = true := decide_eq_true (by
          refine List.ext_getElem? fun j => ?_
          rcases Nat.lt_or_ge j i with h1 | h1
          · exact HINV.out j h1
          · rw [List.getElem?_eq_none (by have := HNL.out; omega), List.getElem?_eq_none (by have := HML.out; have := HNM.out; omega)])
        exact ⟨by rw [hd]; rfl, HBEL.out⟩
  · have e0 : ((n : Int) == (m : Int)) = false := beq_eq_false_iff_ne.2 (by omega)
    have e1 : decide (L = M) = false := decide_eq_false (by intro h; apply hnm; rw [HNL.out, HML.out, h])
    rw [e1]
    clear hnm e1
    go_enter Tryd.func31, Tryd.ntmps31
    go_wp2
    go_ret
    exact ⟨rfl, Below.refl _ _⟩

set_option maxRecDepth 100000 in
set_option maxHeartbeats 1000000 in
theorem kept3_any (v : Value) (L : List ByteArray) (g : Nat) (w : World) (hv : Txts w v L) (hr : SRow w g (fillS L 8)) (hl : L.length ≤ 1048576) :
    Calls Tryd.prog 24 #[.slice (some ⟨g, 0, none⟩) (L.length + 8) (L.length + 8), v] w fun e w' => e = .returned (.bool true) ∧ Below w.heap.size w w' := by
  have HX := Lib.hid (fun w' (h1 : Txts w' (.slice (some ⟨g, 0, none⟩) L.length (L.length + 8)) L) (h2 : Txts w' v L) => same3_any (.slice (some ⟨g, 0, none⟩) L.length (L.length + 8)) v L L w' h1 h2 hl hl)
  have HTX := Lib.hid (fun w' (h : SRow w' g (fillS L 8)) => fillS_txts h hl)
  have HV := Lib.hid hv
  obtain ⟨p, c, rfl, hv1, hv2, hv3⟩ := hv
  obtain ⟨n, hn⟩ : ∃ n, n = L.length := ⟨_, rfl⟩
  rw [← hn] at hv1 HV HX HTX hl ⊢
  have HNL := Lib.hid hn
  obtain ⟨N8, hN8⟩ : ∃ N8, N8 = n + 8 := ⟨_, rfl⟩
  rw [← hN8] at HX HTX ⊢
  have HN8 := Lib.hid hN8
  have HR := Lib.hid hr
  have hnN : (n : Int) ≤ (N8 : Int) := by omega
  have hnN2 : n ≤ N8 := by omega
  have hN8b : N8 ≤ 1048584 := by omega
  have HLT := Lib.hid hr.lt
  clear hn hN8 hv1 hv2 hv3 hr
  go_enter Tryd.func24, Tryd.ntmps24
  go_wp2
  go_loopw [5] (fun q wr => ∃ i : Nat, n ≤ i ∧ i ≤ N8 ∧ q = .int .i64 i ∧ SRow wr g (fillS L 8) ∧ Below w.heap.size w wr) (fun q _ => N8 - (intOf q).toNat)
  case atStart => exact ⟨n, by omega, by omega, rfl, HR.out, Below.refl _ _⟩
  case round =>
    clear HR
    obtain ⟨i, hni, hi, rfl, hrow, hbel⟩ := hrel
    have HROW := Lib.hid hrow
    have HBEL := Lib.hid hbel
    clear hrow hbel
    by_cases hlt : i < N8
    · have hl8 : (i : Int) < (N8 : Int) := by omega
      have hcell2 : wr.cell? ⟨g, i, none⟩ = some (.string spare) := HROW.out.cell (fillS_hi L i (by have := HNL.out; omega) (by have := HNL.out; have := HN8.out; omega))
      have hbeh : (spare.toList == [115, 112, 97, 114, 101]) = true := by decide +kernel
      go_wp2_with fail
      exact ⟨⟨i + 1, by omega, by omega, rfl, HROW.out, HBEL.out⟩, (by show N8 - ((i : Int) + 1).toNat < N8 - (i : Int).toNat; omega)⟩
    · have hl8 : ¬ ((i : Int) < (N8 : Int)) := by omega
      have HVR := Lib.hid (HV.out.below HBEL.out (Nat.le_refl _))
      go_wp2_with (go_at_call 31; with_reducible refine (HX.out _ (HTX.out _ HROW.out) HVR.out).mono ?_; rintro r wx ⟨rfl, hb⟩; have HB := Lib.hid hb; clear hb)
      go_ret
      exact ⟨rfl, below_from HBEL.out HB.out HBEL.out.size⟩
end Go.Proofs.YtejdpahgofhioaaDoor
