/- The law 4's helpers, walked: lent, kept, turned. -/
import Derived.Test.YtmlekeegmdpjkaaDoorL4c
namespace Go.Proofs.YtmlekeegmdpjkaaDoor
open Go.RowKit Go.Scr
set_option linter.unusedVariables false

set_option maxRecDepth 100000 in
set_option maxHeartbeats 1000000 in
theorem lent4_any (v : Value) (L : List ByteArray) (w : World) (hv : Txts w v L) (hl : L.length ≤ 1048576) :
    Calls Tryd.prog 62 #[v] w fun e w' => ∃ g, e = .returned (.slice (some ⟨g, 0, none⟩) (L.length + 8) (L.length + 8)) ∧ w.heap.size ≤ g ∧ SRow w' g (fill8 L 8) ∧ Below w.heap.size w w' := by
  have HV := Lib.hid hv
  obtain ⟨p, c, rfl, hv1, hv2, hv3⟩ := hv
  obtain ⟨n, hn⟩ : ∃ n, n = L.length := ⟨_, rfl⟩
  rw [← hn] at hv1 HV hl ⊢
  have HNL := Lib.hid hn
  obtain ⟨N8, hN8⟩ : ∃ N8, N8 = n + 8 := ⟨_, rfl⟩
  rw [← hN8]
  have hn8 : (n : Int) + 8 = (N8 : Int) := by omega
  have hN8b : N8 ≤ 1048584 := by omega
  have hmk := make_strs N8 (by omega) w
  have HN8 := Lib.hid hN8
  have hnb : n ≤ 1048576 := by omega
  have hsplice : splice ((List.replicate N8 (⟨#[]⟩ : ByteArray)).map Value.string) 0 (L.map Value.string) = (fill8 L 0).map Value.string := by
    unfold splice fill8
    rw [List.take_zero, List.nil_append, Nat.zero_add, List.length_map, ← hn, hN8, ← List.map_drop, List.drop_replicate, ← List.map_append]
    congr 2
    simp
  have HSP := Lib.hid hsplice
  have HNMIN := Lib.hid (show (L.map Value.string).length = Nat.min n N8 by rw [List.length_map, ← hn]; exact (Nat.min_eq_left (by omega)).symm)
  have HFIT := Lib.hid (show 0 + (L.map Value.string).length ≤ ((List.replicate N8 (⟨#[]⟩ : ByteArray)).map Value.string).length by simp; omega)
  clear hn hN8 hv1 hv2 hv3 hsplice
  go_enter Tryd.func62, Tryd.ntmps62
  go_upto_region 2 with fail
  have hrow0 : SRow (w.alloc (.cells (Array.replicate N8 (Value.string ⟨#[]⟩)) 9)) w.heap.size (List.replicate N8 ⟨#[]⟩) := by
    have h := heap_alloc_new w (.cells (Array.replicate N8 (Value.string ⟨#[]⟩)) 9)
    unfold SRow
    rw [h]
    simp
  have hbel5 : Below w.heap.size w (w.alloc (.cells (Array.replicate N8 (Value.string ⟨#[]⟩)) 9)) := (Below.refl _ _).alloc (Nat.le_refl _) _
  clear hmk hn8
  obtain ⟨g, hg⟩ : ∃ g, g = w.heap.size := ⟨_, rfl⟩
  rw [← hg] at hrow0 hbel5
  rw [← hg]
  generalize w.alloc (.cells (Array.replicate N8 (Value.string ⟨#[]⟩)) 9) = w5 at hrow0 hbel5 ⊢
  have HCP := Lib.hid (copy_src (g := g) HV.out hbel5 (by omega))
  have HROW5 := Lib.hid hrow0
  have HB5 := Lib.hid hbel5
  have HG := Lib.hid (Nat.le_refl g)
  have HGW := Lib.hid hg
  clear hrow0 hbel5 hg
  go_wp2_with ((with_reducible refine wpList_copy_splice (o := ⟨some 11, _, _, _, _, _⟩) rfl (.tmp 9) (.tmp 10) 27 27 rfl 9 Tryd.underlying27 hsz_str (some ⟨g, 0, none⟩) p N8 N8 n c ?_ ?_ g 0 ((List.replicate N8 (⟨#[]⟩ : ByteArray)).map Value.string) 9 ?_ (L.map Value.string) HNMIN.out HCP.out HFIT.out (str_one _) g w HB5.out HG.out ?_); rfl; rfl; exact HROW5.out; intro w6 hrow6 hb6; rw [HSP.out] at hrow6; have HROW6 : Hid (SRow w6 g (fill8 L 0)) := hrow6.out; have HB6 := Lib.hid hb6; clear hrow6 hb6)
  clear HSP HCP HNMIN HFIT
  go_loopw [4] (fun q wr => ∃ k i : Nat, k ≤ 8 ∧ Hid (i = n + k) ∧ q = .int .i64 i ∧ SRow wr g (fill8 L k) ∧ Below g w wr) (fun q _ => N8 - (intOf q).toNat)
  case atStart => exact ⟨0, n, by omega, rfl, rfl, HROW6.out, HB6.out⟩
  case round =>
    clear HROW6 HB6
    obtain ⟨k, i, hk, hi, rfl, hrow, hbel⟩ := hrel
    have HI := Lib.hid hi.out
    have HROW := Lib.hid hrow
    have HBEL := Lib.hid hbel
    clear hi hrow hbel
    by_cases hk8 : k < 8
    · have hi8 : (i : Int) < (N8 : Int) := by have := HI.out; have := HN8.out; omega
      obtain ⟨old, hold⟩ : ∃ s, (fill8 L k)[i]? = some s := ⟨(fill8 L k)[i]'(by rw [fill8_length L k hk]; have := HI.out; have := HNL.out; omega), List.getElem?_eq_getElem _⟩
      have hcell := HROW.out.cell hold
      have hfz := HROW.out.frozen i
      have hset := HROW.out.set i behind
      rw [show i = L.length + k by have := HI.out; have := HNL.out; omega, fill8_set L k hk8, ← show i = L.length + k by have := HI.out; have := HNL.out; omega] at hset
      have HSET := Lib.hid hset
      have HBS := Lib.hid (HBEL.out.setCell (p := ⟨g, i, none⟩) HG.out (.string behind))
      clear hold hset
      go_wp2_with fail
      exact ⟨⟨k + 1, i + 1, by omega, (by have := HI.out; show _ = _; omega), rfl, HSET.out, HBS.out⟩, (by show N8 - ((i : Int) + 1).toNat < N8 - (i : Int).toNat; have := HI.out; have := HN8.out; omega)⟩
    · have hi8 : ¬ ((i : Int) < (N8 : Int)) := by have := HI.out; have := HN8.out; omega
      have HRE := Lib.hid (by have := HROW.out; rwa [show k = 8 by omega] at this : SRow wr g (fill8 L 8))
      go_wp2
      go_ret
      exact ⟨g, rfl, by rw [HGW.out]; exact Nat.le_refl _, HRE.out, by rw [← HGW.out]; exact HBEL.out⟩

set_option maxRecDepth 100000 in
set_option maxHeartbeats 1000000 in
theorem kept4_any (v : Value) (L : List ByteArray) (g : Nat) (w : World) (hv : Txts w v L) (hr : SRow w g (fill8 L 8)) (hl : L.length ≤ 1048576) :
    Calls Tryd.prog 65 #[.slice (some ⟨g, 0, none⟩) (L.length + 8) (L.length + 8), v] w fun e w' => e = .returned (.bool true) ∧ Below w.heap.size w w' := by
  have HV := Lib.hid hv
  obtain ⟨p, c, rfl, hv1, hv2, hv3⟩ := hv
  obtain ⟨n, hn⟩ : ∃ n, n = L.length := ⟨_, rfl⟩
  rw [← hn] at hv1 HV hl ⊢
  have HNL := Lib.hid hn
  obtain ⟨N8, hN8⟩ : ∃ N8, N8 = n + 8 := ⟨_, rfl⟩
  rw [← hN8]
  have HN8 := Lib.hid hN8
  have HP := Lib.hid hv3
  have HR := Lib.hid hr
  have hN8b : N8 ≤ 1048584 := by omega
  have hnb : n ≤ 1048576 := by omega
  have HLT := Lib.hid hr.lt
  clear hn hN8 hv1 hv2 hv3 hr
  go_enter Tryd.func65, Tryd.ntmps65
  go_wp2
  go_loopw [5] (fun q wr => ∃ i : Nat, i ≤ N8 ∧ q = .int .i64 i ∧ SRow wr g (fill8 L 8) ∧ Below w.heap.size w wr) (fun q _ => N8 - (intOf q).toNat)
  case atStart => exact ⟨0, by omega, rfl, HR.out, Below.refl _ _⟩
  case round =>
    clear HR
    obtain ⟨i, hi, rfl, hrow, hbel⟩ := hrel
    have HROW := Lib.hid hrow
    have HBEL := Lib.hid hbel
    clear hrow hbel
    by_cases hlt : i < N8
    · have hl8 : (i : Int) < (N8 : Int) := by omega
      by_cases hin : i < n
      · obtain ⟨s, hs⟩ : ∃ s, L[i]? = some s := ⟨L[i]'(by rw [← HNL.out]; exact hin), List.getElem?_eq_getElem _⟩
        obtain ⟨a, rfl, hc⟩ := HP.out i s hs
        have hcell1 : wr.cell? (a.add i) = some (.string s) := (HBEL.out.cell (block_lt_of_cell hc)).trans hc
        have hcell2 : wr.cell? ⟨g, i, none⟩ = some (.string s) := HROW.out.cell (by rw [fill8_lo L i (by rw [← HNL.out]; exact hin)]; exact hs)
        have hin' : (i : Int) < (n : Int) := by omega
        clear hs hc
        go_upto_region 4 with fail
        have hge' : decide (n ≤ i) = false := decide_eq_false (by omega)
        go_quiet (fail)
        have HROW2 : Hid (SRow (wr.drewN nq) g (fill8 L 8)) := HROW.out
        have HBEL2 : Hid (Below w.heap.size w (wr.drewN nq)) := below_drewN HBEL.out nq
        generalize wr.drewN nq = wx at *
        go_wp2_with fail
        exact ⟨⟨i + 1, by omega, rfl, HROW2.out, HBEL2.out⟩, (by show N8 - ((i : Int) + 1).toNat < N8 - (i : Int).toNat; omega)⟩
      · have hcell2 : wr.cell? ⟨g, i, none⟩ = some (.string behind) := HROW.out.cell (fill8_hi L i (by have := HNL.out; omega) (by have := HNL.out; have := HN8.out; omega))
        have hin' : decide ((i : Int) < (n : Int)) = false := decide_eq_false (by omega)
        have hge : (n : Int) ≤ (i : Int) := by omega
        have hbeh : (behind.toList == [98, 101, 104, 105, 110, 100]) = true := by decide +kernel
        go_upto_region 4 with fail
        go_quiet (fail)
        have HROW2 : Hid (SRow (wr.drewN nq) g (fill8 L 8)) := HROW.out
        have HBEL2 : Hid (Below w.heap.size w (wr.drewN nq)) := below_drewN HBEL.out nq
        generalize wr.drewN nq = wx at *
        go_wp2_with fail
        exact ⟨⟨i + 1, by omega, rfl, HROW2.out, HBEL2.out⟩, (by show N8 - ((i : Int) + 1).toNat < N8 - (i : Int).toNat; omega)⟩
    · have hl8 : ¬ ((i : Int) < (N8 : Int)) := by omega
      go_wp2_with fail
      go_ret
      exact ⟨rfl, HBEL.out⟩
end Go.Proofs.YtmlekeegmdpjkaaDoor
