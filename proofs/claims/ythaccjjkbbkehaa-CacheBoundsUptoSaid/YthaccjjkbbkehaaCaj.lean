/- The cache: Pin, Unpin, Drop. -/
import Derived.Test.YthaccjjkbbkehaaCai
namespace Go.Proofs.Ythaccjjkbbkehaa
open Go.RowKit Go.Scr Go.Maps
set_option linter.unusedVariables false

def Ent.at (e : Ent) (p : Nat) : Ent := ⟨e.blk, e.key, e.val, p⟩
theorem EntAt.pin {w : World} {e : Ent} (h : EntAt w e) (p : Nat) (z : Value) (hz : z = .int .i64 (p : Int)) : EntAt (w.setCell ⟨e.blk, 2, none⟩ z) (e.at p) := by
  subst hz
  obtain ⟨u, hu⟩ := h.a
  obtain ⟨v, hv⟩ := h.n
  exact ⟨(cs_ne _ (.inr (by decide))).trans h.k, (cs_ne _ (.inr (by decide))).trans h.v, cs_at _ h.p, ⟨u, (cs_ne _ (.inr (by decide))).trans hu⟩, ⟨v, (cs_ne _ (.inr (by decide))).trans hv⟩, h.t.set _ _⟩
theorem blks_pin (X Y : List Ent) (e : Ent) (p : Nat) : blks (X ++ e.at p :: Y) = blks (X ++ e :: Y) := by simp [blks, Ent.at]
theorem keys_pin (X Y : List Ent) (e : Ent) (p : Nat) : (X ++ e.at p :: Y).map Ent.key = (X ++ e :: Y).map Ent.key := by simp [Ent.at]
theorem wts_pin (X Y : List Ent) (e : Ent) (p : Nat) : wts (X ++ e.at p :: Y) = wts (X ++ e :: Y) := by
  rw [← mid_wts, ← mid_wts, wts_cons, wts_cons]; rfl
theorem pinw_mid (X Y : List Ent) (e : Ent) : pinw (X ++ e :: Y) = (if 0 < e.pins then e.wt else 0) + pinw (X ++ Y) := by rw [← mid_pinw, pinw_cons]
theorem pin_mem {X Y : List Ent} {e x : Ent} {p : Nat} (h : x ∈ X ++ e.at p :: Y) : x = e.at p ∨ x ∈ X ++ Y := by
  rcases List.mem_append.mp h with h | h
  · exact .inr (List.mem_append_left _ h)
  · rcases List.mem_cons.mp h with h | h
    · exact .inl h
    · exact .inr (List.mem_append_right _ h)
theorem CB.pin {w : World} {col : Nat → Nat} {κ cb ob mb : Nat} {c : Nat → Nat} {X Y : List Ent} {e : Ent} (h : CB w col κ cb ob mb c (X ++ e :: Y) (X ++ e :: Y)) (p : Nat) (z : Value) (hz : z = .int .i64 (p : Int)) :
    CB (w.setCell ⟨e.blk, 2, none⟩ z) col κ cb ob mb c (X ++ e.at p :: Y) (X ++ e.at p :: Y) := by
  have he := h.es e (by simp)
  have hcb : e.blk ≠ cb := fun e' => h.nc (by rw [← e']; simp [blks])
  have hob : e.blk ≠ ob := fun e' => (List.nodup_cons.mp h.nd).1 (by rw [← e']; simp [blks])
  have hmb : e.blk ≠ mb := not_map h.mp he.k
  have hne : ∀ x ∈ X ++ Y, e.blk ≠ x.blk := by
    intro x hx e'
    have nd := (List.nodup_cons.mp h.nd).2
    unfold blks at nd
    rw [List.map_append, List.map_cons, List.nodup_append, List.nodup_cons] at nd
    rcases List.mem_append.mp hx with hx | hx
    · exact nd.2.2 _ (List.mem_map_of_mem hx) _ (List.mem_cons_self ..) e'.symm
    · exact nd.2.1.1 (by rw [e']; exact List.mem_map_of_mem hx)
  refine ⟨fun j hj => (cs_ne _ (.inl hcb)).trans (h.c j hj), (cs_ne _ (.inl hcb)).trans h.c7, (cs_ne _ (.inl hcb)).trans h.c8, h.ct.set _ _, h.ot.set _ _, ?_, ?_, ?_, ?_, ?_, ?_⟩
  · rw [blks_pin]
    have hr := h.rg
    unfold Ring at hr ⊢
    exact Chn.frame hr (fun x _ => cs_ne _ (.inr (by decide))) (fun y _ => cs_ne _ (.inr (by decide)))
  · intro x hx
    rcases pin_mem hx with rfl | hx
    · exact he.pin p z hz
    · have hxm : x ∈ X ++ e :: Y := mid_has.mp (List.mem_cons_of_mem _ hx)
      exact (h.es x hxm).set (.inl (hne x hx)) _
  · rw [blks_pin]; exact h.nd
  · rw [blks_pin]; exact h.nc
  · refine (h.mp.keep (Below.heap_setCell w _ _ mb (fun e' => hmb e'.symm))).turn (by simp) (fun x hx => ?_) (fun x hx => ?_)
    · rcases pin_mem hx with rfl | hx
      · exact ⟨e, by simp, rfl, rfl⟩
      · exact ⟨x, mid_has.mp (List.mem_cons_of_mem _ hx), rfl, rfl⟩
    · rcases List.mem_cons.mp (mid_has.mpr hx) with rfl | hx
      · exact ⟨x.at p, by simp, rfl⟩
      · exact ⟨x, mid_has.mp (List.mem_cons_of_mem _ hx), rfl⟩
  · refine ⟨h.cc.1, h.cc.2.1, h.cc.2.2.1, fun x hx => ?_⟩
    rcases pin_mem hx with rfl | hx
    · exact h.cc.2.2.2 e (by simp)
    · exact h.cc.2.2.2 x (mid_has.mp (List.mem_cons_of_mem _ hx))
theorem Keyd.pin {X Y : List Ent} {e : Ent} (h : Keyd (X ++ e :: Y)) (p : Nat) : Keyd (X ++ e.at p :: Y) :=
  ⟨by rw [keys_pin]; exact h.nk, fun x hx => by
    rcases pin_mem hx with rfl | hx
    · exact h.sz e (by simp)
    · exact h.sz x (mid_has.mp (List.mem_cons_of_mem _ hx))⟩
theorem Num.pin {c : Nat → Nat} {n f m o : Nat} {X Y : List Ent} {e : Ent} (h : Num c n f m o (X ++ e :: Y)) (p x : Nat) (hx : x = pinw (X ++ e.at p :: Y)) : Num (put1 c 2 x) n f m o (X ++ e.at p :: Y) :=
  ⟨(put1_ne (by decide)).trans h.n, (put1_ne (by decide)).trans (by rw [wts_pin]; exact h.b), (put1_at _ _ _).trans hx, (put1_ne (by decide)).trans h.f, (put1_ne (by decide)).trans h.m, (put1_ne (by decide)).trans h.o, (put1_ne (by decide)).trans (by rw [h.k]; simp)⟩
theorem Num.pin' {c : Nat → Nat} {n f m o : Nat} {X Y : List Ent} {e : Ent} (h : Num c n f m o (X ++ e :: Y)) (p : Nat) (h0 : 0 < e.pins) (hp : 0 < p) : Num c n f m o (X ++ e.at p :: Y) :=
  ⟨h.n, by rw [wts_pin]; exact h.b, by rw [h.p, pinw_mid, pinw_mid, if_pos h0, if_pos (show 0 < (e.at p).pins from hp)]; rfl, h.f, h.m, h.o, by rw [h.k]; simp⟩
set_option maxRecDepth 100000 in
set_option maxHeartbeats 1000000 in
theorem cpin_out {w : World} {col : Nat → Nat} {κ cb n f m o : Nat} {L : List Ent} {k : ByteArray} (h : Cash w col κ cb n f m o L) (hk : ∀ e ∈ L, e.key ≠ k) (hks : k.size ≤ 140737488355328) :
    Calls Try.prog 13 #[bp cb, .string k] w fun r w' => r = .returned (.int .i64 152) ∧ w' = w := by
  obtain ⟨ob, mb, c, hC, hN, hK⟩ := h
  have CG := Lib.hid (get_out hC.c7 hC.mp hk (by simp only [maxLen]; omega))
  clear hC hN hK hk
  go_enter Try.func13, Try.ntmps13
  go_wp2_with (first
    | (go_at_call 19; with_reducible refine (CG.out).mono ?_; rintro r wx ⟨rfl, hwx⟩; rw [hwx]; clear hwx wx))
  go_ret
  exact ⟨rfl, rfl⟩
set_option maxRecDepth 100000 in
set_option maxHeartbeats 1000000 in
theorem cunpin_out {w : World} {col : Nat → Nat} {κ cb n f m o : Nat} {L : List Ent} {k : ByteArray} (h : Cash w col κ cb n f m o L) (hk : ∀ e ∈ L, e.key ≠ k) (hks : k.size ≤ 140737488355328) :
    Calls Try.prog 14 #[bp cb, .string k] w fun r w' => r = .returned (.int .i64 152) ∧ w' = w := by
  obtain ⟨ob, mb, c, hC, hN, hK⟩ := h
  have CG := Lib.hid (get_out hC.c7 hC.mp hk (by simp only [maxLen]; omega))
  clear hC hN hK hk
  go_enter Try.func14, Try.ntmps14
  go_wp2_with (first
    | (go_at_call 19; with_reducible refine (CG.out).mono ?_; rintro r wx ⟨rfl, hwx⟩; rw [hwx]; clear hwx wx))
  go_ret
  exact ⟨rfl, rfl⟩
set_option maxRecDepth 100000 in
set_option maxHeartbeats 1000000 in
theorem cdrop_out {w : World} {col : Nat → Nat} {κ cb n f m o : Nat} {L : List Ent} {k : ByteArray} (h : Cash w col κ cb n f m o L) (hk : ∀ e ∈ L, e.key ≠ k) (hks : k.size ≤ 140737488355328) :
    Calls Try.prog 29 #[bp cb, .string k] w fun r w' => r = .returned (.int .i64 152) ∧ w' = w := by
  obtain ⟨ob, mb, c, hC, hN, hK⟩ := h
  have CG := Lib.hid (get_out hC.c7 hC.mp hk (by simp only [maxLen]; omega))
  clear hC hN hK hk
  go_enter Try.func29, Try.ntmps29
  go_wp2_with (first
    | (go_at_call 19; with_reducible refine (CG.out).mono ?_; rintro r wx ⟨rfl, hwx⟩; rw [hwx]; clear hwx wx))
  go_ret
  exact ⟨rfl, rfl⟩
set_option maxRecDepth 100000 in
set_option maxHeartbeats 1000000 in
theorem cpin_max {w : World} {col : Nat → Nat} {κ cb n f m o : Nat} {X Y : List Ent} {e : Ent} {k : ByteArray} (h : Cash w col κ cb n f m o (X ++ e :: Y)) (hk : e.key = k) (hp : 65535 ≤ e.pins) :
    Calls Try.prog 13 #[bp cb, .string k] w fun r w' => r = .returned (.int .i64 153) ∧ w' = w := by
  obtain ⟨ob, mb, c, hC, hN, hK⟩ := h
  have hks : k.size ≤ maxLen := by rw [← hk]; have := (hK.sz e (by simp)).1; simp only [maxLen]; omega
  have CG := Lib.hid (get_in hC.c7 hC.mp (e := e) (by simp) hk hks)
  have hE := hC.es e (by simp)
  have HE := Lib.hid hE
  have HC := Lib.hid hC
  have HN := Lib.hid hN
  have HK := Lib.hid hK
  have HEK := Lib.hid hk
  obtain ⟨le, hle⟩ : ∃ x, x = e.blk := ⟨_, rfl⟩
  obtain ⟨pn, hpn⟩ : ∃ x, x = e.pins := ⟨_, rfl⟩
  have HLE := Lib.hid hle
  have HPN := Lib.hid hpn
  have ep : w.cell? ⟨le, 2, none⟩ = some (.int .i64 (pn : Int)) := by rw [hle, hpn]; exact hE.p
  have fp : w.frozen? ⟨le, 2, none⟩ = false := by rw [hle]; exact hE.t.f 2
  rw [← hle] at CG
  have hszz := hK.sz e (by simp)
  have hpp : (65535 : Int) ≤ (pn : Int) := by omega
  clear hp hpn
  clear hC hN hK hk hks hE hle
  go_enter Try.func13, Try.ntmps13
  go_wp2_with (first
    | (go_at_call 19; with_reducible refine (CG.out).mono ?_; rintro r wx ⟨rfl, hwx⟩; rw [hwx]; clear hwx wx))
  go_ret
  exact ⟨rfl, rfl⟩
set_option maxRecDepth 100000 in
set_option maxHeartbeats 1000000 in
theorem cunpin_none {w : World} {col : Nat → Nat} {κ cb n f m o : Nat} {X Y : List Ent} {e : Ent} {k : ByteArray} (h : Cash w col κ cb n f m o (X ++ e :: Y)) (hk : e.key = k) (hp : e.pins = 0) :
    Calls Try.prog 14 #[bp cb, .string k] w fun r w' => r = .returned (.int .i64 153) ∧ w' = w := by
  obtain ⟨ob, mb, c, hC, hN, hK⟩ := h
  have hks : k.size ≤ maxLen := by rw [← hk]; have := (hK.sz e (by simp)).1; simp only [maxLen]; omega
  have CG := Lib.hid (get_in hC.c7 hC.mp (e := e) (by simp) hk hks)
  have hE := hC.es e (by simp)
  have HE := Lib.hid hE
  have HC := Lib.hid hC
  have HN := Lib.hid hN
  have HK := Lib.hid hK
  have HEK := Lib.hid hk
  obtain ⟨le, hle⟩ : ∃ x, x = e.blk := ⟨_, rfl⟩
  obtain ⟨pn, hpn⟩ : ∃ x, x = e.pins := ⟨_, rfl⟩
  have HLE := Lib.hid hle
  have HPN := Lib.hid hpn
  have ep : w.cell? ⟨le, 2, none⟩ = some (.int .i64 (pn : Int)) := by rw [hle, hpn]; exact hE.p
  have fp : w.frozen? ⟨le, 2, none⟩ = false := by rw [hle]; exact hE.t.f 2
  rw [← hle] at CG
  have hszz := hK.sz e (by simp)
  have hp0 : (pn : Int) = 0 := by omega
  clear hp hpn
  clear hC hN hK hk hks hE hle
  go_enter Try.func14, Try.ntmps14
  go_wp2_with (first
    | (go_at_call 19; with_reducible refine (CG.out).mono ?_; rintro r wx ⟨rfl, hwx⟩; rw [hwx]; clear hwx wx))
  go_ret
  exact ⟨rfl, rfl⟩
set_option maxRecDepth 100000 in
set_option maxHeartbeats 1000000 in
theorem cdrop_pins {w : World} {col : Nat → Nat} {κ cb n f m o : Nat} {X Y : List Ent} {e : Ent} {k : ByteArray} (h : Cash w col κ cb n f m o (X ++ e :: Y)) (hk : e.key = k) (hp : 0 < e.pins) :
    Calls Try.prog 29 #[bp cb, .string k] w fun r w' => r = .returned (.int .i64 153) ∧ w' = w := by
  obtain ⟨ob, mb, c, hC, hN, hK⟩ := h
  have hks : k.size ≤ maxLen := by rw [← hk]; have := (hK.sz e (by simp)).1; simp only [maxLen]; omega
  have CG := Lib.hid (get_in hC.c7 hC.mp (e := e) (by simp) hk hks)
  have hE := hC.es e (by simp)
  have HE := Lib.hid hE
  have HC := Lib.hid hC
  have HN := Lib.hid hN
  have HK := Lib.hid hK
  have HEK := Lib.hid hk
  obtain ⟨le, hle⟩ : ∃ x, x = e.blk := ⟨_, rfl⟩
  obtain ⟨pn, hpn⟩ : ∃ x, x = e.pins := ⟨_, rfl⟩
  have HLE := Lib.hid hle
  have HPN := Lib.hid hpn
  have ep : w.cell? ⟨le, 2, none⟩ = some (.int .i64 (pn : Int)) := by rw [hle, hpn]; exact hE.p
  have fp : w.frozen? ⟨le, 2, none⟩ = false := by rw [hle]; exact hE.t.f 2
  rw [← hle] at CG
  have hszz := hK.sz e (by simp)
  have hpp : (0 : Int) < (pn : Int) := by omega
  clear hp hpn
  clear hC hN hK hk hks hE hle
  go_enter Try.func29, Try.ntmps29
  go_wp2_with (first
    | (go_at_call 19; with_reducible refine (CG.out).mono ?_; rintro r wx ⟨rfl, hwx⟩; rw [hwx]; clear hwx wx))
  go_ret
  exact ⟨rfl, rfl⟩
set_option maxRecDepth 100000 in
set_option maxHeartbeats 1000000 in
theorem cpin_more {w : World} {col : Nat → Nat} {κ cb n f m o : Nat} {X Y : List Ent} {e : Ent} {k : ByteArray} (h : Cash w col κ cb n f m o (X ++ e :: Y)) (hk : e.key = k) (hp : 0 < e.pins) (hp2 : e.pins < 65535) :
    Calls Try.prog 13 #[bp cb, .string k] w fun r w' => r = .returned (.int .i64 0) ∧ Cash w' col κ cb n f m o (X ++ e.at (e.pins + 1) :: Y) ∧ Only col (fun g => g = κ) w w' := by
  obtain ⟨ob, mb, c, hC, hN, hK⟩ := h
  have hks : k.size ≤ maxLen := by rw [← hk]; have := (hK.sz e (by simp)).1; simp only [maxLen]; omega
  have CG := Lib.hid (get_in hC.c7 hC.mp (e := e) (by simp) hk hks)
  have hE := hC.es e (by simp)
  have HE := Lib.hid hE
  have HC := Lib.hid hC
  have HN := Lib.hid hN
  have HK := Lib.hid hK
  have HEK := Lib.hid hk
  obtain ⟨le, hle⟩ : ∃ x, x = e.blk := ⟨_, rfl⟩
  obtain ⟨pn, hpn⟩ : ∃ x, x = e.pins := ⟨_, rfl⟩
  have HLE := Lib.hid hle
  have HPN := Lib.hid hpn
  have ep : w.cell? ⟨le, 2, none⟩ = some (.int .i64 (pn : Int)) := by rw [hle, hpn]; exact hE.p
  have fp : w.frozen? ⟨le, 2, none⟩ = false := by rw [hle]; exact hE.t.f 2
  rw [← hle] at CG
  have hszz := hK.sz e (by simp)
  have hpp : (0 : Int) < (pn : Int) := by omega
  have hp0 : ¬ (pn : Int) = 0 := by omega
  have hpm : decide ((65535 : Int) ≤ (pn : Int)) = false := decide_eq_false (by omega)
  have H0 : Hid (0 < e.pins ∧ 0 < e.pins + 1) := Lib.hid ⟨hp, by omega⟩
  have HPNV : Hid (Value.int .i64 ((pn : Int) + 1) = .int .i64 ((e.pins + 1 : Nat) : Int)) := Lib.hid (by rw [hpn]; rfl)
  have hw1 : IntKind.i64.wrap ((pn : Int) + 1) = (pn : Int) + 1 := IntWalk.i64_in _ (by omega)
  clear hp hp2 hpn
  clear hC hN hK hk hks hE hle
  go_enter Try.func13, Try.ntmps13
  go_wp2_with (first
    | (go_at_call 19; with_reducible refine (CG.out).mono ?_; rintro r wx ⟨rfl, hwx⟩; rw [hwx]; clear hwx wx))
  go_ret
  have hcb : col e.blk = κ := HC.out.cc.2.2.2 e (by simp)
  refine ⟨rfl, ?_, ?_⟩
  · rw [HLE.out]
    exact ⟨ob, mb, c, HC.out.pin ((e.pins + 1)) _ (by rw [HPNV.out]), HN.out.pin' ((e.pins + 1)) H0.out.1 H0.out.2, HK.out.pin _⟩
  · rw [HLE.out]
    exact only_setCell' (p := ⟨e.blk, 2, none⟩) hcb _
set_option maxRecDepth 100000 in
set_option maxHeartbeats 1000000 in
theorem cunpin_more {w : World} {col : Nat → Nat} {κ cb n f m o : Nat} {X Y : List Ent} {e : Ent} {k : ByteArray} (h : Cash w col κ cb n f m o (X ++ e :: Y)) (hk : e.key = k) (hp : 1 < e.pins) (hp2 : e.pins ≤ 65535) :
    Calls Try.prog 14 #[bp cb, .string k] w fun r w' => r = .returned (.int .i64 0) ∧ Cash w' col κ cb n f m o (X ++ e.at (e.pins - 1) :: Y) ∧ Only col (fun g => g = κ) w w' := by
  obtain ⟨ob, mb, c, hC, hN, hK⟩ := h
  have hks : k.size ≤ maxLen := by rw [← hk]; have := (hK.sz e (by simp)).1; simp only [maxLen]; omega
  have CG := Lib.hid (get_in hC.c7 hC.mp (e := e) (by simp) hk hks)
  have hE := hC.es e (by simp)
  have HE := Lib.hid hE
  have HC := Lib.hid hC
  have HN := Lib.hid hN
  have HK := Lib.hid hK
  have HEK := Lib.hid hk
  obtain ⟨le, hle⟩ : ∃ x, x = e.blk := ⟨_, rfl⟩
  obtain ⟨pn, hpn⟩ : ∃ x, x = e.pins := ⟨_, rfl⟩
  have HLE := Lib.hid hle
  have HPN := Lib.hid hpn
  have ep : w.cell? ⟨le, 2, none⟩ = some (.int .i64 (pn : Int)) := by rw [hle, hpn]; exact hE.p
  have fp : w.frozen? ⟨le, 2, none⟩ = false := by rw [hle]; exact hE.t.f 2
  rw [← hle] at CG
  have hszz := hK.sz e (by simp)
  have hpp : (1 : Int) < (pn : Int) := by omega
  have hp0 : ¬ (pn : Int) = 0 := by omega
  have hp1 : ¬ (pn : Int) - 1 = 0 := by omega
  have H0 : Hid (0 < e.pins ∧ 0 < e.pins - 1) := Lib.hid ⟨by omega, by omega⟩
  have HPNV : Hid (Value.int .i64 ((pn : Int) - 1) = .int .i64 ((e.pins - 1 : Nat) : Int)) := Lib.hid (by rw [hpn]; congr 1; omega)
  have hw1 : IntKind.i64.wrap ((pn : Int) - 1) = (pn : Int) - 1 := IntWalk.i64_in _ (by omega)
  clear hp hp2 hpn
  clear hC hN hK hk hks hE hle
  go_enter Try.func14, Try.ntmps14
  go_wp2_with (first
    | (go_at_call 19; with_reducible refine (CG.out).mono ?_; rintro r wx ⟨rfl, hwx⟩; rw [hwx]; clear hwx wx))
  go_ret
  have hcb : col e.blk = κ := HC.out.cc.2.2.2 e (by simp)
  refine ⟨rfl, ?_, ?_⟩
  · rw [HLE.out]
    exact ⟨ob, mb, c, HC.out.pin ((e.pins - 1)) _ (by rw [HPNV.out]), HN.out.pin' ((e.pins - 1)) H0.out.1 H0.out.2, HK.out.pin _⟩
  · rw [HLE.out]
    exact only_setCell' (p := ⟨e.blk, 2, none⟩) hcb _
set_option maxRecDepth 100000 in
set_option maxHeartbeats 1000000 in
theorem cpin_first {w : World} {col : Nat → Nat} {κ cb n f m o : Nat} {X Y : List Ent} {e : Ent} {k : ByteArray} (h : Cash w col κ cb n f m o (X ++ e :: Y)) (hk : e.key = k) (hp : e.pins = 0) (hw : wts (X ++ e :: Y) ≤ 1099511627776) :
    Calls Try.prog 13 #[bp cb, .string k] w fun r w' => r = .returned (.int .i64 0) ∧ Cash w' col κ cb n f m o (X ++ e.at 1 :: Y) ∧ Only col (fun g => g = κ) w w' := by
  obtain ⟨ob, mb, c, hC, hN, hK⟩ := h
  have hks : k.size ≤ maxLen := by rw [← hk]; have := (hK.sz e (by simp)).1; simp only [maxLen]; omega
  have CG := Lib.hid (get_in hC.c7 hC.mp (e := e) (by simp) hk hks)
  have hE := hC.es e (by simp)
  have HE := Lib.hid hE
  have HC := Lib.hid hC
  have HN := Lib.hid hN
  have HK := Lib.hid hK
  have HEK := Lib.hid hk
  obtain ⟨le, hle⟩ : ∃ x, x = e.blk := ⟨_, rfl⟩
  obtain ⟨pn, hpn⟩ : ∃ x, x = e.pins := ⟨_, rfl⟩
  have HLE := Lib.hid hle
  have HPN := Lib.hid hpn
  have ep : w.cell? ⟨le, 2, none⟩ = some (.int .i64 (pn : Int)) := by rw [hle, hpn]; exact hE.p
  have fp : w.frozen? ⟨le, 2, none⟩ = false := by rw [hle]; exact hE.t.f 2
  rw [← hle] at CG
  have hszz := hK.sz e (by simp)
  obtain ⟨we, hwe⟩ : ∃ x, x = e.wt := ⟨_, rfl⟩
  obtain ⟨pl, hpl⟩ : ∃ x, x = pinw (X ++ e :: Y) := ⟨_, rfl⟩
  obtain ⟨ek, hek⟩ : ∃ x, x = e.key := ⟨_, rfl⟩
  obtain ⟨ev, hev⟩ : ∃ x, x = e.val := ⟨_, rfl⟩
  have hcn : ∀ w, Calls Try.prog 21 #[.agg #[.string ek, .string ev, .int .i64 0]] w fun r w' => r = .returned (.int .i64 (we : Int)) ∧ Below w.heap.size w w' := fun w => by rw [hwe, hek, hev]; exact counts_any e.key e.val 0 w hszz.1 hszz.2
  have CD := Lib.hid hcn
  have hplb : pl ≤ 1099511627776 := by rw [hpl]; exact Nat.le_trans (pinw_le _) hw
  have hwb : we ≤ 1099511627776 := by
    rw [hwe]
    have h1 := mid_wts X Y e
    rw [wts_cons] at h1
    omega
  have HNUM : Hid (we = e.wt ∧ pl = pinw (X ++ e :: Y) ∧ ek = e.key ∧ ev = e.val) := Lib.hid ⟨hwe, hpl, hek, hev⟩
  have HHW := Lib.hid hw
  have hcol : col e.blk = κ := hC.cc.2.2.2 e (by simp)
  have HCOL := Lib.hid hcol
  clear hwe hpl hek hev hcn hw hcol
  have hep0 : e.pins = 0 := hp
  have hpn0 : pn = 0 := hpn.trans hp
  rw [hpn0] at ep
  have HP0 := Lib.hid hp
  clear hp hpn hep0 hpn0
  clear hC hN hK hk hks hE hle
  go_enter Try.func13, Try.ntmps13
  have HCELL : Hid (∀ w' c', CB w' col κ cb ob mb c' (X ++ e :: Y) (X ++ e :: Y) → w'.cell? ⟨cb, 2, none⟩ = some (.int .i64 (c' 2 : Int)) ∧ w'.cell? ⟨le, 0, none⟩ = some (.string ek) ∧ w'.cell? ⟨le, 1, none⟩ = some (.string ev) ∧ w'.cell? ⟨le, 2, none⟩ = some (.int .i64 0) ∧ w'.frozen? ⟨cb, 2, none⟩ = false ∧ w'.frozen? ⟨le, 2, none⟩ = false) := Lib.hid (fun w' c' hC => by
    have hE := hC.es e (by simp)
    refine ⟨hC.c 2 (by decide), ?_, ?_, ?_, hC.ct.f 2, ?_⟩
    · rw [HLE.out, HNUM.out.2.2.1]; exact hE.k
    · rw [HLE.out, HNUM.out.2.2.2]; exact hE.v
    · rw [HLE.out]; have := hE.p; rw [HP0.out] at this; exact this
    · rw [HLE.out]; exact hE.t.f 2)
  have HC2 : Hid (c 2 = pl) := Lib.hid (HN.out.p.trans HNUM.out.2.1.symm)
  have hwr : IntKind.i64.wrap ((pl : Int) + (we : Int)) = (pl : Int) + (we : Int) := IntWalk.i64_in _ (by omega)
  go_upto_region 7 with (first
    | (go_at_call 19; with_reducible refine (CG.out).mono ?_; rintro r wx ⟨rfl, hwx⟩; rw [hwx]; clear hwx wx))
  obtain ⟨e2, e3, e4, e5, e6, e7⟩ := HCELL.out w c HC.out
  rw [HC2.out] at e2
  clear ep fp
  go_region_law (first
    | (go_simp; go_at_call 21; with_reducible refine (CD.out _).mono ?_; rintro r w3 ⟨rfl, hb3⟩; have HC3 := Lib.hid (HC.out.drew.below hb3); have HO3 := Lib.hid ((only_drew' (Only.refl col (fun g => g = κ) w)).trans' (only_of_below' hb3)); obtain ⟨g2, g3, g4, g5, g6, g7⟩ := HCELL.out _ c HC3.out; rw [HC2.out] at g2; clear hb3)
    | fail)
  all_goals (
    have hC4 := HC3.out.num (j := 2) (by decide) (pl + we)
    rw [show ((pl + we : Nat) : Int) = (pl : Int) + (we : Int) by omega] at hC4
    have HC4 := Lib.hid hC4
    have HO4 := Lib.hid (HO3.out.trans' (only_setCell' (p := ⟨cb, 2, none⟩) HC3.out.cc.1 (.int .i64 ((pl : Int) + (we : Int)))))
    clear hC4 e2 e3 e4 e5 e6 e7 g2 g3 g4 g5 g6 g7 hwr
    generalize w3.setCell ⟨cb, 2, none⟩ (.int .i64 ((pl : Int) + (we : Int))) = w4 at *
    obtain ⟨e2, e3, e4, e5, e6, e7⟩ := HCELL.out w4 _ HC4.out
    clear e2 e3 e4 e6
    go_wp2
    go_ret
    refine ⟨rfl, ?_, ?_⟩
    · rw [HLE.out]
      refine ⟨ob, mb, _, HC4.out.pin 1 _ rfl, HN.out.pin 1 _ ?_, HK.out.pin _⟩
      rw [pinw_mid, if_pos (show 0 < (e.at 1).pins from Nat.one_pos), HNUM.out.2.1, pinw_mid, if_neg (by have := HP0.out; omega), HNUM.out.1]
      show _ = e.wt + _
      omega
    · rw [HLE.out]
      exact HO4.out.trans' (only_setCell' (p := ⟨e.blk, 2, none⟩) HCOL.out _))
set_option maxRecDepth 100000 in
set_option maxHeartbeats 1000000 in
theorem cunpin_last {w : World} {col : Nat → Nat} {κ cb n f m o : Nat} {X Y : List Ent} {e : Ent} {k : ByteArray} (h : Cash w col κ cb n f m o (X ++ e :: Y)) (hk : e.key = k) (hp : e.pins = 1) (hw : wts (X ++ e :: Y) ≤ 1099511627776) :
    Calls Try.prog 14 #[bp cb, .string k] w fun r w' => r = .returned (.int .i64 0) ∧ Cash w' col κ cb n f m o (X ++ e.at 0 :: Y) ∧ Only col (fun g => g = κ) w w' := by
  obtain ⟨ob, mb, c, hC, hN, hK⟩ := h
  have hks : k.size ≤ maxLen := by rw [← hk]; have := (hK.sz e (by simp)).1; simp only [maxLen]; omega
  have CG := Lib.hid (get_in hC.c7 hC.mp (e := e) (by simp) hk hks)
  have hE := hC.es e (by simp)
  have HE := Lib.hid hE
  have HC := Lib.hid hC
  have HN := Lib.hid hN
  have HK := Lib.hid hK
  have HEK := Lib.hid hk
  obtain ⟨le, hle⟩ : ∃ x, x = e.blk := ⟨_, rfl⟩
  obtain ⟨pn, hpn⟩ : ∃ x, x = e.pins := ⟨_, rfl⟩
  have HLE := Lib.hid hle
  have HPN := Lib.hid hpn
  have ep : w.cell? ⟨le, 2, none⟩ = some (.int .i64 (pn : Int)) := by rw [hle, hpn]; exact hE.p
  have fp : w.frozen? ⟨le, 2, none⟩ = false := by rw [hle]; exact hE.t.f 2
  rw [← hle] at CG
  have hszz := hK.sz e (by simp)
  obtain ⟨we, hwe⟩ : ∃ x, x = e.wt := ⟨_, rfl⟩
  obtain ⟨pl, hpl⟩ : ∃ x, x = pinw (X ++ e :: Y) := ⟨_, rfl⟩
  obtain ⟨ek, hek⟩ : ∃ x, x = e.key := ⟨_, rfl⟩
  obtain ⟨ev, hev⟩ : ∃ x, x = e.val := ⟨_, rfl⟩
  have hcn : ∀ w, Calls Try.prog 21 #[.agg #[.string ek, .string ev, .int .i64 0]] w fun r w' => r = .returned (.int .i64 (we : Int)) ∧ Below w.heap.size w w' := fun w => by rw [hwe, hek, hev]; exact counts_any e.key e.val 0 w hszz.1 hszz.2
  have CD := Lib.hid hcn
  have hplb : pl ≤ 1099511627776 := by rw [hpl]; exact Nat.le_trans (pinw_le _) hw
  have hwb : we ≤ 1099511627776 := by
    rw [hwe]
    have h1 := mid_wts X Y e
    rw [wts_cons] at h1
    omega
  have HNUM : Hid (we = e.wt ∧ pl = pinw (X ++ e :: Y) ∧ ek = e.key ∧ ev = e.val) := Lib.hid ⟨hwe, hpl, hek, hev⟩
  have HHW := Lib.hid hw
  have hcol : col e.blk = κ := hC.cc.2.2.2 e (by simp)
  have HCOL := Lib.hid hcol
  clear hwe hpl hek hev hcn hw hcol
  have hpn0 : pn = 1 := hpn.trans hp
  rw [hpn0] at ep
  have HP0 := Lib.hid hp
  have hple : we ≤ pl := by
    rw [HNUM.out.1, HNUM.out.2.1, pinw_mid, if_pos (by omega)]
    omega
  clear hp hpn hpn0
  clear hC hN hK hk hks hE hle
  go_enter Try.func14, Try.ntmps14
  have HCELL : Hid (∀ w' c', CB w' col κ cb ob mb c' (X ++ e.at 0 :: Y) (X ++ e.at 0 :: Y) → w'.cell? ⟨cb, 2, none⟩ = some (.int .i64 (c' 2 : Int)) ∧ w'.cell? ⟨le, 0, none⟩ = some (.string ek) ∧ w'.cell? ⟨le, 1, none⟩ = some (.string ev) ∧ w'.cell? ⟨le, 2, none⟩ = some (.int .i64 0) ∧ w'.frozen? ⟨cb, 2, none⟩ = false ∧ w'.frozen? ⟨le, 2, none⟩ = false) := Lib.hid (fun w' c' hC => by
    have hE := hC.es (e.at 0) (by simp)
    refine ⟨hC.c 2 (by decide), ?_, ?_, ?_, hC.ct.f 2, ?_⟩
    · rw [HLE.out, HNUM.out.2.2.1]; exact hE.k
    · rw [HLE.out, HNUM.out.2.2.2]; exact hE.v
    · rw [HLE.out]; exact hE.p
    · rw [HLE.out]; exact hE.t.f 2)
  have HC2 : Hid (c 2 = pl) := Lib.hid (HN.out.p.trans HNUM.out.2.1.symm)
  have hwr : IntKind.i64.wrap ((pl : Int) - (we : Int)) = (pl : Int) - (we : Int) := IntWalk.i64_in _ (by omega)
  go_upto_region 7 with (first
    | (go_at_call 19; with_reducible refine (CG.out).mono ?_; rintro r wx ⟨rfl, hwx⟩; rw [hwx]; clear hwx wx))
  obtain ⟨w1, hw1⟩ : ∃ x, x = w.setCell ⟨le, 2, none⟩ (.int .i64 0) := ⟨_, rfl⟩
  have HC1 : Hid (CB w1 col κ cb ob mb c (X ++ e.at 0 :: Y) (X ++ e.at 0 :: Y)) := Lib.hid (by rw [hw1, HLE.out]; exact HC.out.pin 0 _ rfl)
  have HO1 : Hid (Only col (fun g => g = κ) w w1) := Lib.hid (by rw [hw1, HLE.out]; exact only_setCell' (p := ⟨e.blk, 2, none⟩) HCOL.out _)
  rw [← hw1]
  clear ep fp hw1
  obtain ⟨e2, e3, e4, e5, e6, e7⟩ := HCELL.out w1 c HC1.out
  rw [HC2.out] at e2
  go_upto_region 8 with fail
  go_region_law (first
    | (go_simp; go_at_call 21; with_reducible refine (CD.out _).mono ?_; rintro r w3 ⟨rfl, hb3⟩; have HC3 := Lib.hid (HC1.out.drew.below hb3); have HO3 := Lib.hid (HO1.out.trans' ((only_drew' (Only.refl col (fun g => g = κ) w1)).trans' (only_of_below' hb3))); obtain ⟨g2, g3, g4, g5, g6, g7⟩ := HCELL.out _ c HC3.out; rw [HC2.out] at g2; clear hb3)
    | fail)
  all_goals (
    have hC4 := HC3.out.num (j := 2) (by decide) (pl - we)
    rw [show ((pl - we : Nat) : Int) = (pl : Int) - (we : Int) by omega] at hC4
    have HC4 := Lib.hid hC4
    have HO4 := Lib.hid (HO3.out.trans' (only_setCell' (p := ⟨cb, 2, none⟩) HC3.out.cc.1 (.int .i64 ((pl : Int) - (we : Int)))))
    clear hC4 e2 e3 e4 e5 e6 e7 g2 g3 g4 g5 g6 g7 hwr
    go_wp2
    go_ret
    refine ⟨rfl, ?_, HO4.out⟩
    refine ⟨ob, mb, _, HC4.out, HN.out.pin 0 _ ?_, HK.out.pin _⟩
    rw [pinw_mid, if_neg (show ¬ 0 < (e.at 0).pins from Nat.lt_irrefl _), HNUM.out.2.1, pinw_mid, if_pos (by have := HP0.out; omega), HNUM.out.1]
    omega)
end Go.Proofs.Ythaccjjkbbkehaa
