/- The cache's call Get. -/
import Derived.Test.YthaccjjkbbkehaaCab
namespace Go.Proofs.Ythaccjjkbbkehaa
open Go.RowKit Go.Scr Go.Maps
set_option linter.unusedVariables false

theorem mid_wts (X Y : List Ent) (e : Ent) : wts (e :: (X ++ Y)) = wts (X ++ e :: Y) := by rw [wts_cons, wts_append, wts_append, wts_cons]; omega
theorem mid_pinw (X Y : List Ent) (e : Ent) : pinw (e :: (X ++ Y)) = pinw (X ++ e :: Y) := by rw [pinw_cons, pinw_append, pinw_append, pinw_cons]; omega
theorem mid_has {X Y : List Ent} {e x : Ent} : x ∈ e :: (X ++ Y) ↔ x ∈ X ++ e :: Y := by
  simp only [List.mem_cons, List.mem_append]
  constructor
  · rintro (h | h | h) <;> simp [h]
  · rintro (h | h | h) <;> simp [h]
theorem mid_nodup {X Y : List Ent} {e : Ent} (h : ((X ++ e :: Y).map Ent.key).Nodup) : ((e :: (X ++ Y)).map Ent.key).Nodup := by
  rw [List.map_append, List.map_cons, List.nodup_append, List.nodup_cons] at h
  obtain ⟨n1, ⟨n2, n3⟩, n4⟩ := h
  rw [List.map_cons, List.map_append, List.nodup_cons, List.nodup_append]
  refine ⟨fun hm => ?_, n1, n3, fun a ha b hb => n4 a ha b (List.mem_cons_of_mem _ hb)⟩
  rcases List.mem_append.mp hm with hm | hm
  · exact n4 _ hm _ (List.mem_cons_self ..) rfl
  · exact n2 hm
theorem Keyd.mid {X Y : List Ent} {e : Ent} (h : Keyd (X ++ e :: Y)) : Keyd (e :: (X ++ Y)) := ⟨mid_nodup h.nk, fun x hx => h.sz x (mid_has.mp hx)⟩
theorem map_mid {w : World} {mb : Nat} {X Y : List Ent} {e : Ent} (h : MapOf w mb (X ++ e :: Y)) : MapOf w mb (e :: (X ++ Y)) :=
  h.turn (by simp; omega) (fun x hx => ⟨x, mid_has.mp hx, rfl, rfl⟩) (fun x hx => ⟨x, mid_has.mpr hx, rfl⟩)
set_option maxRecDepth 100000 in
set_option maxHeartbeats 1000000 in
theorem cget_in {w : World} {col : Nat → Nat} {κ cb n f m o : Nat} {X Y : List Ent} {e : Ent} {k : ByteArray} (h : Cash w col κ cb n f m o (X ++ e :: Y)) (hk : e.key = k) (hf : f ≤ 1099511627776) :
    Calls Try.prog 9 #[bp cb, .string k] w fun r w' => r = .returned (.tuple #[.string e.val, .bool true]) ∧ Cash w' col κ cb n (f + 1) m o (e :: (X ++ Y)) ∧ Only col (fun g => g = κ) w w' := by
  obtain ⟨ob, mb, c, hC, hN, hK⟩ := h
  have hks : k.size ≤ maxLen := by rw [← hk]; have := (hK.sz e (by simp)).1; simp only [maxLen]; omega
  have CG := Lib.hid (get_in hC.c7 hC.mp (e := e) (by simp) hk hks)
  have c3 : w.cell? ⟨cb, 3, none⟩ = some (.int .i64 (f : Int)) := by rw [← hN.f]; exact hC.c 3 (by decide)
  have f3 := hC.ct.f 3
  have hw : IntKind.i64.wrap ((f : Int) + 1) = (f : Int) + 1 := IntWalk.i64_in _ (by omega)
  obtain ⟨w1, hw1⟩ : ∃ x, x = w.setCell ⟨cb, 3, none⟩ (.int .i64 ((f : Int) + 1)) := ⟨_, rfl⟩
  have hC1 : CB w1 col κ cb ob mb (put1 c 3 (f + 1)) (X ++ e :: Y) (X ++ e :: Y) := by rw [hw1]; exact hC.num (j := 3) (by decide) (f + 1)
  have hO1 : Only col (fun g => g = κ) w w1 := by rw [hw1]; exact only_setCell' (p := ⟨cb, 3, none⟩) hC.cc.1 _
  have CU := Lib.hid (used_any hC1)
  have HFIN : Hid (∀ w2, CB w2 col κ cb ob mb (put1 c 3 (f + 1)) (e :: (X ++ Y)) (X ++ e :: Y) → Only col (fun g => g = κ) w1 w2 → Cash w2 col κ cb n (f + 1) m o (e :: (X ++ Y)) ∧ Only col (fun g => g = κ) w w2) := Lib.hid (fun w2 hC2 hO2 =>
    ⟨⟨ob, mb, put1 c 3 (f + 1), hC2.map (map_mid hC2.mp), ⟨(put1_ne (by decide)).trans hN.n, (put1_ne (by decide)).trans (by rw [mid_wts]; exact hN.b), (put1_ne (by decide)).trans (by rw [mid_pinw]; exact hN.p), put1_at _ _ _, (put1_ne (by decide)).trans hN.m, (put1_ne (by decide)).trans hN.o, (put1_ne (by decide)).trans (by rw [hN.k]; simp; omega)⟩, hK.mid⟩, hO1.trans' hO2⟩)
  have HW := Lib.hid hw1
  clear hC hN hK hk hks hC1 hO1 hw1
  go_enter Try.func9, Try.ntmps9
  go_upto_region 6 with (first
    | (go_at_call 19; with_reducible refine (CG.out).mono ?_; rintro r wx ⟨rfl, hwx⟩; rw [hwx]; clear hwx wx))
  rw [← HW.out]
  go_upto_region 7 with (first
    | (go_at_call 20; with_reducible refine (CU.out).mono ?_; rintro r w2 ⟨rfl, hC2, hO2⟩; have HC2 := Lib.hid hC2; have HO2 := Lib.hid hO2; clear hC2 hO2))
  have ev := (HC2.out.es e (by simp)).v
  go_wp2
  go_ret2
  exact ⟨rfl, HFIN.out w2 HC2.out HO2.out⟩
set_option maxRecDepth 100000 in
set_option maxHeartbeats 1000000 in
theorem cget_out {w : World} {col : Nat → Nat} {κ cb n f m o : Nat} {L : List Ent} {k : ByteArray} (h : Cash w col κ cb n f m o L) (hk : ∀ e ∈ L, e.key ≠ k) (hks : k.size ≤ 140737488355328) (hm : m ≤ 1099511627776) :
    Calls Try.prog 9 #[bp cb, .string k] w fun r w' => r = .returned (.tuple #[.string ⟨#[]⟩, .bool false]) ∧ Cash w' col κ cb n f (m + 1) o L ∧ Only col (fun g => g = κ) w w' := by
  obtain ⟨ob, mb, c, hC, hN, hK⟩ := h
  have CG := Lib.hid (get_out hC.c7 hC.mp hk (by simp only [maxLen]; omega))
  have c4 : w.cell? ⟨cb, 4, none⟩ = some (.int .i64 (m : Int)) := by rw [← hN.m]; exact hC.c 4 (by decide)
  have f4 := hC.ct.f 4
  have hw : IntKind.i64.wrap ((m : Int) + 1) = (m : Int) + 1 := IntWalk.i64_in _ (by omega)
  have hC1 : CB (w.setCell ⟨cb, 4, none⟩ (.int .i64 ((m : Int) + 1))) col κ cb ob mb (put1 c 4 (m + 1)) L L := hC.num (j := 4) (by decide) (m + 1)
  have HFIN : Hid (Cash (w.setCell ⟨cb, 4, none⟩ (.int .i64 ((m : Int) + 1))) col κ cb n f (m + 1) o L ∧ Only col (fun g => g = κ) w (w.setCell ⟨cb, 4, none⟩ (.int .i64 ((m : Int) + 1)))) := Lib.hid
    ⟨⟨ob, mb, put1 c 4 (m + 1), hC1, ⟨(put1_ne (by decide)).trans hN.n, (put1_ne (by decide)).trans hN.b, (put1_ne (by decide)).trans hN.p, (put1_ne (by decide)).trans hN.f, put1_at _ _ _, (put1_ne (by decide)).trans hN.o, (put1_ne (by decide)).trans hN.k⟩, hK⟩, only_setCell' (p := ⟨cb, 4, none⟩) hC.cc.1 _⟩
  clear hC hN hK hk hC1
  go_enter Try.func9, Try.ntmps9
  go_wp2_with (first
    | (go_at_call 19; with_reducible refine (CG.out).mono ?_; rintro r wx ⟨rfl, hwx⟩; rw [hwx]; clear hwx wx))
  go_ret2
  exact ⟨rfl, HFIN.out⟩
end Go.Proofs.Ythaccjjkbbkehaa
