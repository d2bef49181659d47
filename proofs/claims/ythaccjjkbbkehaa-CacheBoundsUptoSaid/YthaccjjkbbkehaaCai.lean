/- The cache: Put of a key that is there; Put that is refused. -/
import Derived.Test.YthaccjjkbbkehaaCb1
import Derived.StillTailTactics
import Derived.Deep.CutBlock
namespace Go.Proofs.Ythaccjjkbbkehaa
open Go.RowKit Go.Scr Go.Maps
set_option linter.unusedVariables false

theorem Bx.pins {w : World} {col : Nat → Nat} {κ bc bx bl cb : Nat} {k v : ByteArray} {p : Nat} {lv : Value} (h : Bx w col κ bc bx bl cb k v p lv) (h1 : bc ≠ bx) (h2 : bl ≠ bx) (q : Nat) (z : Value) (hz : z = .int .i64 (q : Int)) : Bx (w.setCell ⟨bx, 2, none⟩ z) col κ bc bx bl cb k v q lv := by
  subst hz
  exact ⟨(cs_ne _ (.inl (Ne.symm h1))).trans h.c, (cs_ne _ (.inr (by decide))).trans h.x0, (cs_ne _ (.inr (by decide))).trans h.x1, cs_at _ h.x2, (cs_ne _ (.inl (Ne.symm h2))).trans h.l, h.nc, h.tx.set _ _, h.tl.set _ _⟩
theorem pinsOf_in {k : ByteArray} {L : List Ent} {e : Ent} (nk : (L.map Ent.key).Nodup) (he : e ∈ L) (hk : e.key = k) : pinsOf k L = e.pins := by
  obtain ⟨X, Y, rfl, hX, hY⟩ := split_at he hk nk
  unfold pinsOf
  rw [List.find?_append, List.find?_eq_none.mpr fun x hx => by simpa using hX x hx, List.find?_cons_of_pos (by simpa using hk)]
  rfl
theorem CB.far {w : World} {col : Nat → Nat} {κ cb ob mb : Nat} {c : Nat → Nat} {L M : List Ent} (h : CB w col κ cb ob mb c L M) {b i : Nat} (hb : col b ≠ κ) (u : Value) : CB (w.setCell ⟨b, i, none⟩ u) col κ cb ob mb c L M :=
  h.keep (fun g _ hg => Below.heap_setCell w _ u g (fun e => hb (by have e' : g = b := e; rw [← e']; exact hg))) (fun _ _ => rfl)
theorem key_same {L : List Ent} (nk : (L.map Ent.key).Nodup) {x y : Ent} (hx : x ∈ L) (hy : y ∈ L) (h : x.key = y.key) : x = y := inj_nodup nk hx hy h
set_option maxRecDepth 100000 in
set_option maxHeartbeats 2000000 in
theorem put_ref0 {w : World} {col : Nat → Nat} {κ cb n f m o : Nat} {L : List Ent} {k v : ByteArray} (hκ : κ ≠ 0) (hlo : ∀ g, col g ≠ 0 → g < w.heap.size) (h : Cash w col κ cb n f m o L) (hn : n ≤ 16777216) {e : Ent} (he : e ∈ L) (hek : e.key = k) (hp : e.pins = 0)
    (hks : k.size ≤ 1099511627776) (hvs : v.size ≤ 1099511627776) (hLl : L.length ≤ 1099511627776) (ho : o ≤ 1099511627776) (hw : wts L ≤ n) (hfit : ¬ pinw (but k L) + (k.size + v.size) ≤ n) :
    Calls Try.prog 10 #[bp cb, .string k, .string v] w fun r w' => r = .returned (.int .i64 151) ∧ Below w.heap.size w w' := by
  obtain ⟨ob, mb, c, hC, hN, hK⟩ := h
  have hkm : k.size ≤ maxLen := by simp only [maxLen]; omega
  have hws := hK.sz e he
  obtain ⟨X, Y, hXY, hbut⟩ := ask_hit hK.nk he hek
  have hwtL : wts L = e.wt + wts (but k L) := by rw [hbut, hXY, ← mid_wts, wts_cons]
  have hpwL : pinw L = (if 0 < e.pins then e.wt else 0) + pinw (but k L) := by rw [hbut, hXY, ← mid_pinw, pinw_cons]
  have HXY : Hid (wts L = e.wt + wts (but k L) ∧ pinw L = (if 0 < e.pins then e.wt else 0) + pinw (but k L)) := Lib.hid ⟨hwtL, hpwL⟩
  have HEK : Hid (e ∈ L ∧ e.key = k) := Lib.hid ⟨he, hek⟩
  have HP := Lib.hid hp
  obtain ⟨le, hle⟩ : ∃ x, x = e.blk := ⟨_, rfl⟩
  obtain ⟨ve, hve⟩ : ∃ x, x = e.val := ⟨_, rfl⟩
  obtain ⟨pn, hpn⟩ : ∃ x, x = e.pins := ⟨_, rfl⟩
  obtain ⟨we, hwe⟩ : ∃ x, x = e.wt := ⟨_, rfl⟩
  have hwes : we = k.size + ve.size := by rw [hwe, hve, ← hek]; rfl
  have HE : Hid (le = e.blk ∧ ve = e.val ∧ pn = e.pins ∧ we = e.wt) := Lib.hid ⟨hle, hve, hpn, hwe⟩
  have HG : Hid (∀ w', Below w.heap.size w w' → Calls Try.prog 19 #[.pointer (some ⟨cb, 7, none⟩), .string k] w' fun r w2 => r = .returned (.tuple #[bp le, .bool true]) ∧ w2 = w') :=
    Lib.hid (fun w' hb => by rw [hle]; exact get_in (hC.below hb).c7 (hC.below hb).mp he hek hkm)
  have HC := Lib.hid hC
  have HN := Lib.hid hN
  have HK := Lib.hid hK
  obtain ⟨b0, hb0⟩ : ∃ x, x = w.heap.size := ⟨_, rfl⟩
  obtain ⟨w1, hw1⟩ : ∃ x, x = w.alloc (.cells #[bp cb] 25) := ⟨_, rfl⟩
  have hbx : Below w.heap.size w w1 := by rw [hw1]; exact (Below.refl _ _).alloc (Nat.le_refl _) _
  have HG1 := Lib.hid (HG.out w1 hbx)
  have d0 : w1.cell? ⟨b0, 0, none⟩ = some (bp cb) := by rw [hw1, hb0]; simp
  have HW1 := Lib.hid hw1
  have HB1 := Lib.hid hbx
  have HB0 := Lib.hid hb0
  have hs1 : w1.heap.size = b0 + 1 := by rw [hw1, hb0]; simp
  have hb0c : col b0 = 0 := Classical.byContradiction fun hne => by have := hlo b0 hne; omega
  have hb1c : col w1.heap.size = 0 := Classical.byContradiction fun hne => by have := hlo _ hne; omega
  have hb2c : col (w1.heap.size + 1) = 0 := Classical.byContradiction fun hne => by have := hlo _ hne; omega
  obtain ⟨oth, hoth⟩ : ∃ x, x = pinw (but k L) := ⟨_, rfl⟩
  obtain ⟨pl, hpl⟩ : ∃ x, x = pinw L := ⟨_, rfl⟩
  obtain ⟨wt, hwt⟩ : ∃ x, x = k.size + v.size := ⟨_, rfl⟩
  have hc2 : c 2 = pl := hN.p.trans hpl.symm
  have hothn : ¬ oth + wt ≤ n := by rw [hoth, hwt]; exact hfit
  have hpln : pl ≤ n := by rw [hpl]; exact Nat.le_trans (pinw_le L) hw
  have hple : pl = oth := by rw [hpl, hoth, hpwL, if_neg (by omega), Nat.zero_add]
  have HOTH := Lib.hid hoth
  have HWT := Lib.hid hwt
  have HLO := Lib.hid hlo
  have HW := Lib.hid hw
  have HC2 := Lib.hid hc2
  have hcnt : ∀ w, Calls Try.prog 21 #[.agg #[.string k, .string v, .int .i64 0]] w fun r w' => r = .returned (.int .i64 ((k.size + v.size : Nat) : Int)) ∧ Below w.heap.size w w' := fun w => counts_any k v 0 w (by omega) (by omega)
  rw [← hwt] at hcnt
  have hcne : ∀ w, Calls Try.prog 21 #[.agg #[.string k, .string ve, .int .i64 (pn : Int)]] w fun r w' => r = .returned (.int .i64 ((k.size + ve.size : Nat) : Int)) ∧ Below w.heap.size w w' := fun w => counts_any k ve pn w (by omega) (by rw [hve]; exact hws.2)
  rw [← hwes] at hcne
  have CD := Lib.hid hcnt
  have hvsz : ve.size ≤ 140737488355328 := by rw [hve]; exact hws.2
  have hcnp : ∀ w, Calls Try.prog 21 #[.agg #[.string k, .string v, .int .i64 (pn : Int)]] w fun r w' => r = .returned (.int .i64 ((k.size + v.size : Nat) : Int)) ∧ Below w.heap.size w w' := fun w => counts_any k v pn w (by omega) (by omega)
  rw [← hwt] at hcnp
  have HLTB : Hid (b0 < w1.heap.size) := Lib.hid (by rw [hs1]; omega)
  have HCOL : Hid (col b0 = 0 ∧ col w1.heap.size = 0 ∧ col (w1.heap.size + 1) = 0) := Lib.hid ⟨hb0c, hb1c, hb2c⟩
  have hc0 : c 0 = n := hN.n
  have HC0 := Lib.hid hc0
  have hel : EntAt w e := hC.es e he
  have HEL := Lib.hid hel
  have HBUT := Lib.hid hbut
  have hwb : we ≤ 16777216 := by have := hwtL; rw [hwe]; omega
  have hpn0 : pn = 0 := hpn.trans hp
  have hcne0 := hcne
  have hcnp0 := hcnp
  rw [hpn0] at hcne0 hcnp0
  have CDE : Hid (∀ w, Calls Try.prog 21 #[.agg #[.string k, .string ve, .int .i64 0]] w fun r w' => r = .returned (.int .i64 (we : Int)) ∧ Below w.heap.size w w') := Lib.hid hcne0
  have CDP : Hid (∀ w, Calls Try.prog 21 #[.agg #[.string k, .string v, .int .i64 0]] w fun r w' => r = .returned (.int .i64 (wt : Int)) ∧ Below w.heap.size w w') := Lib.hid hcnp0
  have HPN : Hid (Value.int .i64 (0 : Int) = .int .i64 (pn : Int)) := Lib.hid (by rw [hpn0]; rfl)
  have HPN0 := Lib.hid hpn0
  clear hcne0 hcnp0 hpn0
  have HPLE := Lib.hid hple
  have hob : oth ≤ 16777216 := by omega
  clear hC hN hK hbx hw1 hlo hfit hw HG hb0 hs1 hb0c hb1c hb2c hoth hpl hwt hc2 hcnt hcne hcnp hc0 hws hXY hbut hwtL hpwL he hek hp hle hve hpn hwe hwes hel hvsz hple
  go_enter Try.func10, Try.ntmps10
  go_upto_region 1 with fail
  rw [← HW1.out, ← HB0.out]
  go_upto_region 3 with (first
    | (go_at_call 19; with_reducible refine (HG1.out).mono ?_; rintro r wx ⟨rfl, hwx⟩; rw [hwx]; clear hwx wx))
  obtain ⟨b1, hb1⟩ : ∃ x, x = w1.heap.size := ⟨_, rfl⟩
  obtain ⟨w2, hw2⟩ : ∃ x, x = (w1.alloc (.cells #[bp le] 60)).alloc (.cells #[.string k, .string v, .int .i64 0] 57) := ⟨_, rfl⟩
  have hbel2 : Below w1.heap.size w1 w2 := by rw [hw2]; exact ((Below.refl _ _).alloc (Nat.le_refl _) _).alloc (by simp) _
  have hbelw : Below w.heap.size w w2 := below_on HB1.out hbel2 HB1.out.size
  have hl0 : w2.cell? ⟨b1, 0, none⟩ = some (bp le) := by rw [hw2, hb1, World.cell?_alloc_lt _ _ _ (by simp)]; simp
  have hx2 : ∀ i, w2.cell? ⟨b1 + 1, i, none⟩ = (#[Value.string k, Value.string v, Value.int .i64 0] : Array Value)[i]? := fun i => by
    rw [hw2, hb1]
    simp
  have hd0 : w2.cell? ⟨b0, 0, none⟩ = some (bp cb) := (hbel2.cell (block_lt_of_cell d0)).trans d0
  have ht2 : Thaw w2 (b1 + 1) := ⟨#[.string k, .string v, .int .i64 0], 57, by rw [hw2]; exact heap_alloc_at _ _ _ (by simp [hb1])⟩
  have ht1 : Thaw w2 b1 := ⟨#[bp le], 60, by rw [hw2, hb1]; exact blk_alloc (heap_alloc_new w1 _)⟩
  have HBX : Hid (Bx w2 col κ b0 (b1 + 1) b1 cb k v 0 (bp le)) := Lib.hid ⟨hd0, hx2 0, hx2 1, hx2 2, hl0, ⟨(by rw [HCOL.out.1]; exact hκ.symm), (by rw [hb1, HCOL.out.2.2]; exact hκ.symm), (by rw [hb1, HCOL.out.2.1]; exact hκ.symm)⟩, ht2, ht1⟩
  have HCB := Lib.hid (HC.out.below hbelw)
  have HB01 : Hid (b0 < b1 ∧ col b0 ≠ κ ∧ col b1 ≠ κ ∧ col (b1 + 1) ≠ κ ∧ w.heap.size ≤ b1) := Lib.hid ⟨by rw [hb1]; exact HLTB.out, by rw [HCOL.out.1]; exact hκ.symm, by rw [hb1, HCOL.out.2.1]; exact hκ.symm, by rw [hb1, HCOL.out.2.2]; exact hκ.symm, by rw [hb1]; exact HB1.out.size⟩
  have HBW := Lib.hid hbelw
  rw [← hw2, ← hb1]
  clear d0 hw2 hb1 hbel2 hbelw hl0 hx2 hd0 HC HG1 HB1 ht1 ht2
  have e2 : w2.cell? ⟨cb, 2, none⟩ = some (.int .i64 (pl : Int)) := by rw [← HC2.out]; exact HCB.out.c 2 (by decide)
  have e0 := HBX.out.c
  have el := HBX.out.l
  have HE2 : Hid (EntAt w2 e) := Lib.hid (HCB.out.es e HEK.out.1)
  have ek : w2.cell? ⟨le, 0, none⟩ = some (.string k) := by rw [HE.out.1, ← HEK.out.2]; exact HE2.out.k
  have ev : w2.cell? ⟨le, 1, none⟩ = some (.string ve) := by rw [HE.out.1, HE.out.2.1]; exact HE2.out.v
  have ep : w2.cell? ⟨le, 2, none⟩ = some (.int .i64 0) := by rw [HE.out.1, HPN.out, HE.out.2.2.1]; exact HE2.out.p
  have HPLO := Lib.hid HPLE.out.symm
  rw [HPLE.out] at e2 hpln
  go_upto_region 6 with fail
  obtain ⟨wS, hwS⟩ : ∃ x, x = w2 := ⟨_, rfl⟩
  rw [← hwS] at HCB HBX HBW ⊢
  have HCS := Lib.hid HCB.out
  have HXS := Lib.hid HBX.out
  have HWS := Lib.hid HBW.out
  clear hwS e2 e0 el ek ev ep HCB HBX HBW HE2
  have HRC : Hid (∀ w', RB w w' col κ cb ob mb b0 (b1 + 1) b1 c L k v 0 (bp le) → w'.cell? ⟨b0, 0, none⟩ = some (bp cb) ∧ w'.cell? ⟨cb, 0, none⟩ = some (.int .i64 (n : Int)) ∧ w'.cell? ⟨b1 + 1, 0, none⟩ = some (.string k) ∧ w'.cell? ⟨b1 + 1, 1, none⟩ = some (.string v) ∧ w'.cell? ⟨b1 + 1, 2, none⟩ = some (.int .i64 0) ∧ RB w w' col κ cb ob mb b0 (b1 + 1) b1 c L k v 0 (bp le)) := Lib.hid (fun w' h =>
    ⟨h.2.1.c, (by rw [← HC0.out]; exact h.1.c 0 (by decide)), h.2.1.x0, h.2.1.x1, h.2.1.x2, h⟩)
  have HRB : Hid (RB w wS.drew col κ cb ob mb b0 (b1 + 1) b1 c L k v 0 (bp le)) := Lib.hid ⟨HCS.out.drew, HXS.out.only (only_drew' (Only.refl _ _ _)), HWS.out.drew⟩
  have HS := Lib.hid (HRC.out _ HRB.out)
  have hgt : (n : Int) - (oth : Int) < (wt : Int) := by omega
  have hwr : IntKind.i64.wrap ((n : Int) - (oth : Int)) = (n : Int) - (oth : Int) := IntWalk.i64_in _ (by omega)
  go_region_held3 (fun w' => w'.cell? ⟨b0, 0, none⟩ = some (bp cb) ∧ w'.cell? ⟨cb, 0, none⟩ = some (.int .i64 (n : Int)) ∧ w'.cell? ⟨b1 + 1, 0, none⟩ = some (.string k) ∧ w'.cell? ⟨b1 + 1, 1, none⟩ = some (.string v) ∧ w'.cell? ⟨b1 + 1, 2, none⟩ = some (.int .i64 0) ∧ RB w w' col κ cb ob mb b0 (b1 + 1) b1 c L k v 0 (bp le)) (first | exact HS3.out | exact HS.out) (first
    | (go_at_call 21; with_reducible refine (CD.out _).mono ?_; rintro r w3 ⟨rfl, hb3⟩; have HB3 := Lib.hid (HRB.out.below hb3); have HS3 := Lib.hid (HRC.out w3 HB3.out); clear hb3))
  have HBF := Lib.hid HB3.out.2.2
  go_wp2
  go_ret
  exact ⟨rfl, HBF.out⟩
set_option maxRecDepth 100000 in
set_option maxHeartbeats 2000000 in
theorem put_ref1 {w : World} {col : Nat → Nat} {κ cb n f m o : Nat} {L : List Ent} {k v : ByteArray} (hκ : κ ≠ 0) (hlo : ∀ g, col g ≠ 0 → g < w.heap.size) (h : Cash w col κ cb n f m o L) (hn : n ≤ 16777216) {e : Ent} (he : e ∈ L) (hek : e.key = k) (hp : 0 < e.pins)
    (hks : k.size ≤ 1099511627776) (hvs : v.size ≤ 1099511627776) (hLl : L.length ≤ 1099511627776) (ho : o ≤ 1099511627776) (hw : wts L ≤ n) (hfit : ¬ pinw (but k L) + (k.size + v.size) ≤ n) :
    Calls Try.prog 10 #[bp cb, .string k, .string v] w fun r w' => r = .returned (.int .i64 151) ∧ Below w.heap.size w w' := by
  obtain ⟨ob, mb, c, hC, hN, hK⟩ := h
  have hkm : k.size ≤ maxLen := by simp only [maxLen]; omega
  have hws := hK.sz e he
  obtain ⟨X, Y, hXY, hbut⟩ := ask_hit hK.nk he hek
  have hwtL : wts L = e.wt + wts (but k L) := by rw [hbut, hXY, ← mid_wts, wts_cons]
  have hpwL : pinw L = (if 0 < e.pins then e.wt else 0) + pinw (but k L) := by rw [hbut, hXY, ← mid_pinw, pinw_cons]
  have HXY : Hid (wts L = e.wt + wts (but k L) ∧ pinw L = (if 0 < e.pins then e.wt else 0) + pinw (but k L)) := Lib.hid ⟨hwtL, hpwL⟩
  have HEK : Hid (e ∈ L ∧ e.key = k) := Lib.hid ⟨he, hek⟩
  have HP := Lib.hid hp
  obtain ⟨le, hle⟩ : ∃ x, x = e.blk := ⟨_, rfl⟩
  obtain ⟨ve, hve⟩ : ∃ x, x = e.val := ⟨_, rfl⟩
  obtain ⟨pn, hpn⟩ : ∃ x, x = e.pins := ⟨_, rfl⟩
  obtain ⟨we, hwe⟩ : ∃ x, x = e.wt := ⟨_, rfl⟩
  have hwes : we = k.size + ve.size := by rw [hwe, hve, ← hek]; rfl
  have HE : Hid (le = e.blk ∧ ve = e.val ∧ pn = e.pins ∧ we = e.wt) := Lib.hid ⟨hle, hve, hpn, hwe⟩
  have HG : Hid (∀ w', Below w.heap.size w w' → Calls Try.prog 19 #[.pointer (some ⟨cb, 7, none⟩), .string k] w' fun r w2 => r = .returned (.tuple #[bp le, .bool true]) ∧ w2 = w') :=
    Lib.hid (fun w' hb => by rw [hle]; exact get_in (hC.below hb).c7 (hC.below hb).mp he hek hkm)
  have HC := Lib.hid hC
  have HN := Lib.hid hN
  have HK := Lib.hid hK
  obtain ⟨b0, hb0⟩ : ∃ x, x = w.heap.size := ⟨_, rfl⟩
  obtain ⟨w1, hw1⟩ : ∃ x, x = w.alloc (.cells #[bp cb] 25) := ⟨_, rfl⟩
  have hbx : Below w.heap.size w w1 := by rw [hw1]; exact (Below.refl _ _).alloc (Nat.le_refl _) _
  have HG1 := Lib.hid (HG.out w1 hbx)
  have d0 : w1.cell? ⟨b0, 0, none⟩ = some (bp cb) := by rw [hw1, hb0]; simp
  have HW1 := Lib.hid hw1
  have HB1 := Lib.hid hbx
  have HB0 := Lib.hid hb0
  have hs1 : w1.heap.size = b0 + 1 := by rw [hw1, hb0]; simp
  have hb0c : col b0 = 0 := Classical.byContradiction fun hne => by have := hlo b0 hne; omega
  have hb1c : col w1.heap.size = 0 := Classical.byContradiction fun hne => by have := hlo _ hne; omega
  have hb2c : col (w1.heap.size + 1) = 0 := Classical.byContradiction fun hne => by have := hlo _ hne; omega
  obtain ⟨oth, hoth⟩ : ∃ x, x = pinw (but k L) := ⟨_, rfl⟩
  obtain ⟨pl, hpl⟩ : ∃ x, x = pinw L := ⟨_, rfl⟩
  obtain ⟨wt, hwt⟩ : ∃ x, x = k.size + v.size := ⟨_, rfl⟩
  have hc2 : c 2 = pl := hN.p.trans hpl.symm
  have hothn : ¬ oth + wt ≤ n := by rw [hoth, hwt]; exact hfit
  have hpln : pl ≤ n := by rw [hpl]; exact Nat.le_trans (pinw_le L) hw
  have hple : pl = we + oth := by rw [hpl, hoth, hpwL, if_pos hp, hwe]
  have HOTH := Lib.hid hoth
  have HWT := Lib.hid hwt
  have HLO := Lib.hid hlo
  have HW := Lib.hid hw
  have HC2 := Lib.hid hc2
  have hcnt : ∀ w, Calls Try.prog 21 #[.agg #[.string k, .string v, .int .i64 0]] w fun r w' => r = .returned (.int .i64 ((k.size + v.size : Nat) : Int)) ∧ Below w.heap.size w w' := fun w => counts_any k v 0 w (by omega) (by omega)
  rw [← hwt] at hcnt
  have hcne : ∀ w, Calls Try.prog 21 #[.agg #[.string k, .string ve, .int .i64 (pn : Int)]] w fun r w' => r = .returned (.int .i64 ((k.size + ve.size : Nat) : Int)) ∧ Below w.heap.size w w' := fun w => counts_any k ve pn w (by omega) (by rw [hve]; exact hws.2)
  rw [← hwes] at hcne
  have CD := Lib.hid hcnt
  have hvsz : ve.size ≤ 140737488355328 := by rw [hve]; exact hws.2
  have hcnp : ∀ w, Calls Try.prog 21 #[.agg #[.string k, .string v, .int .i64 (pn : Int)]] w fun r w' => r = .returned (.int .i64 ((k.size + v.size : Nat) : Int)) ∧ Below w.heap.size w w' := fun w => counts_any k v pn w (by omega) (by omega)
  rw [← hwt] at hcnp
  have HLTB : Hid (b0 < w1.heap.size) := Lib.hid (by rw [hs1]; omega)
  have HCOL : Hid (col b0 = 0 ∧ col w1.heap.size = 0 ∧ col (w1.heap.size + 1) = 0) := Lib.hid ⟨hb0c, hb1c, hb2c⟩
  have hc0 : c 0 = n := hN.n
  have HC0 := Lib.hid hc0
  have hel : EntAt w e := hC.es e he
  have HEL := Lib.hid hel
  have HBUT := Lib.hid hbut
  have hwb : we ≤ 16777216 := by have := hwtL; rw [hwe]; omega
  have CDE := Lib.hid hcne
  have CDP := Lib.hid hcnp
  have hsub : (pl : Int) - (we : Int) = (oth : Int) := by omega
  have hpn0 : (0 : Int) < (pn : Int) := by have := hp; omega
  have HPLE := Lib.hid hple
  have hob : oth ≤ 16777216 := by omega
  clear hC hN hK hbx hw1 hlo hfit hw HG hb0 hs1 hb0c hb1c hb2c hoth hpl hwt hc2 hcnt hcne hcnp hc0 hws hXY hbut hwtL hpwL he hek hp hle hve hpn hwe hwes hel hvsz hple
  go_enter Try.func10, Try.ntmps10
  go_upto_region 1 with fail
  rw [← HW1.out, ← HB0.out]
  go_upto_region 3 with (first
    | (go_at_call 19; with_reducible refine (HG1.out).mono ?_; rintro r wx ⟨rfl, hwx⟩; rw [hwx]; clear hwx wx))
  obtain ⟨b1, hb1⟩ : ∃ x, x = w1.heap.size := ⟨_, rfl⟩
  obtain ⟨w2, hw2⟩ : ∃ x, x = (w1.alloc (.cells #[bp le] 60)).alloc (.cells #[.string k, .string v, .int .i64 0] 57) := ⟨_, rfl⟩
  have hbel2 : Below w1.heap.size w1 w2 := by rw [hw2]; exact ((Below.refl _ _).alloc (Nat.le_refl _) _).alloc (by simp) _
  have hbelw : Below w.heap.size w w2 := below_on HB1.out hbel2 HB1.out.size
  have hl0 : w2.cell? ⟨b1, 0, none⟩ = some (bp le) := by rw [hw2, hb1, World.cell?_alloc_lt _ _ _ (by simp)]; simp
  have hx2 : ∀ i, w2.cell? ⟨b1 + 1, i, none⟩ = (#[Value.string k, Value.string v, Value.int .i64 0] : Array Value)[i]? := fun i => by
    rw [hw2, hb1]
    simp
  have hd0 : w2.cell? ⟨b0, 0, none⟩ = some (bp cb) := (hbel2.cell (block_lt_of_cell d0)).trans d0
  have ht2 : Thaw w2 (b1 + 1) := ⟨#[.string k, .string v, .int .i64 0], 57, by rw [hw2]; exact heap_alloc_at _ _ _ (by simp [hb1])⟩
  have ht1 : Thaw w2 b1 := ⟨#[bp le], 60, by rw [hw2, hb1]; exact blk_alloc (heap_alloc_new w1 _)⟩
  have HBX : Hid (Bx w2 col κ b0 (b1 + 1) b1 cb k v 0 (bp le)) := Lib.hid ⟨hd0, hx2 0, hx2 1, hx2 2, hl0, ⟨(by rw [HCOL.out.1]; exact hκ.symm), (by rw [hb1, HCOL.out.2.2]; exact hκ.symm), (by rw [hb1, HCOL.out.2.1]; exact hκ.symm)⟩, ht2, ht1⟩
  have HCB := Lib.hid (HC.out.below hbelw)
  have HB01 : Hid (b0 < b1 ∧ col b0 ≠ κ ∧ col b1 ≠ κ ∧ col (b1 + 1) ≠ κ ∧ w.heap.size ≤ b1) := Lib.hid ⟨by rw [hb1]; exact HLTB.out, by rw [HCOL.out.1]; exact hκ.symm, by rw [hb1, HCOL.out.2.1]; exact hκ.symm, by rw [hb1, HCOL.out.2.2]; exact hκ.symm, by rw [hb1]; exact HB1.out.size⟩
  have HBW := Lib.hid hbelw
  rw [← hw2, ← hb1]
  clear d0 hw2 hb1 hbel2 hbelw hl0 hx2 hd0 HC HG1 HB1 ht1 ht2
  have e2 : w2.cell? ⟨cb, 2, none⟩ = some (.int .i64 (pl : Int)) := by rw [← HC2.out]; exact HCB.out.c 2 (by decide)
  have e0 := HBX.out.c
  have el := HBX.out.l
  have HE2 : Hid (EntAt w2 e) := Lib.hid (HCB.out.es e HEK.out.1)
  have ek : w2.cell? ⟨le, 0, none⟩ = some (.string k) := by rw [HE.out.1, ← HEK.out.2]; exact HE2.out.k
  have ev : w2.cell? ⟨le, 1, none⟩ = some (.string ve) := by rw [HE.out.1, HE.out.2.1]; exact HE2.out.v
  have ep : w2.cell? ⟨le, 2, none⟩ = some (.int .i64 (pn : Int)) := by rw [HE.out.1, HE.out.2.2.1]; exact HE2.out.p
  go_upto_region 6 with (first
    | (go_at_call 21; with_reducible refine (CDE.out _).mono ?_; rintro r wS ⟨rfl, hbS⟩; have HBS := Lib.hid hbS; clear hbS))
  have HCS := Lib.hid (HCB.out.below HBS.out)
  have HXS := Lib.hid (HBX.out.only (only_of_below' HBS.out))
  have HWS := Lib.hid (below_on HBW.out HBS.out HBW.out.size)
  clear hsub e2 e0 el ek ev ep HCB HBX HBW HE2 HBS
  have HRC : Hid (∀ w', RB w w' col κ cb ob mb b0 (b1 + 1) b1 c L k v 0 (bp le) → w'.cell? ⟨b0, 0, none⟩ = some (bp cb) ∧ w'.cell? ⟨cb, 0, none⟩ = some (.int .i64 (n : Int)) ∧ w'.cell? ⟨b1 + 1, 0, none⟩ = some (.string k) ∧ w'.cell? ⟨b1 + 1, 1, none⟩ = some (.string v) ∧ w'.cell? ⟨b1 + 1, 2, none⟩ = some (.int .i64 0) ∧ RB w w' col κ cb ob mb b0 (b1 + 1) b1 c L k v 0 (bp le)) := Lib.hid (fun w' h =>
    ⟨h.2.1.c, (by rw [← HC0.out]; exact h.1.c 0 (by decide)), h.2.1.x0, h.2.1.x1, h.2.1.x2, h⟩)
  have HRB : Hid (RB w wS.drew col κ cb ob mb b0 (b1 + 1) b1 c L k v 0 (bp le)) := Lib.hid ⟨HCS.out.drew, HXS.out.only (only_drew' (Only.refl _ _ _)), HWS.out.drew⟩
  have HS := Lib.hid (HRC.out _ HRB.out)
  have hgt : (n : Int) - (oth : Int) < (wt : Int) := by omega
  have hwr : IntKind.i64.wrap ((n : Int) - (oth : Int)) = (n : Int) - (oth : Int) := IntWalk.i64_in _ (by omega)
  go_region_held3 (fun w' => w'.cell? ⟨b0, 0, none⟩ = some (bp cb) ∧ w'.cell? ⟨cb, 0, none⟩ = some (.int .i64 (n : Int)) ∧ w'.cell? ⟨b1 + 1, 0, none⟩ = some (.string k) ∧ w'.cell? ⟨b1 + 1, 1, none⟩ = some (.string v) ∧ w'.cell? ⟨b1 + 1, 2, none⟩ = some (.int .i64 0) ∧ RB w w' col κ cb ob mb b0 (b1 + 1) b1 c L k v 0 (bp le)) (first | exact HS3.out | exact HS.out) (first
    | (go_at_call 21; with_reducible refine (CD.out _).mono ?_; rintro r w3 ⟨rfl, hb3⟩; have HB3 := Lib.hid (HRB.out.below hb3); have HS3 := Lib.hid (HRC.out w3 HB3.out); clear hb3))
  have HBF := Lib.hid HB3.out.2.2
  go_wp2
  go_ret
  exact ⟨rfl, HBF.out⟩
set_option maxRecDepth 100000 in
set_option maxHeartbeats 2000000 in
theorem put_old0 {w : World} {col : Nat → Nat} {κ cb n f m o : Nat} {L : List Ent} {k v : ByteArray} (hκ : κ ≠ 0) (hlo : ∀ g, col g ≠ 0 → g < w.heap.size) (h : Cash w col κ cb n f m o L) (hn : n ≤ 16777216) {e : Ent} (he : e ∈ L) (hek : e.key = k) (hp : e.pins = 0)
    (hks : k.size ≤ 1099511627776) (hvs : v.size ≤ 1099511627776) (hLl : L.length ≤ 1099511627776) (ho : o ≤ 1099511627776) (hw : wts L ≤ n) (hfit : pinw (but k L) + (k.size + v.size) ≤ n) :
    Calls Try.prog 10 #[bp cb, .string k, .string v] w fun r w' => r = .returned (.int .i64 0) ∧ PutPost w w' col κ cb n f m o k v L := by
  obtain ⟨ob, mb, c, hC, hN, hK⟩ := h
  have hkm : k.size ≤ maxLen := by simp only [maxLen]; omega
  have hws := hK.sz e he
  obtain ⟨X, Y, hXY, hbut⟩ := ask_hit hK.nk he hek
  have hwtL : wts L = e.wt + wts (but k L) := by rw [hbut, hXY, ← mid_wts, wts_cons]
  have hpwL : pinw L = (if 0 < e.pins then e.wt else 0) + pinw (but k L) := by rw [hbut, hXY, ← mid_pinw, pinw_cons]
  have HXY : Hid (wts L = e.wt + wts (but k L) ∧ pinw L = (if 0 < e.pins then e.wt else 0) + pinw (but k L)) := Lib.hid ⟨hwtL, hpwL⟩
  have HEK : Hid (e ∈ L ∧ e.key = k) := Lib.hid ⟨he, hek⟩
  have HP := Lib.hid hp
  obtain ⟨le, hle⟩ : ∃ x, x = e.blk := ⟨_, rfl⟩
  obtain ⟨ve, hve⟩ : ∃ x, x = e.val := ⟨_, rfl⟩
  obtain ⟨pn, hpn⟩ : ∃ x, x = e.pins := ⟨_, rfl⟩
  obtain ⟨we, hwe⟩ : ∃ x, x = e.wt := ⟨_, rfl⟩
  have hwes : we = k.size + ve.size := by rw [hwe, hve, ← hek]; rfl
  have HE : Hid (le = e.blk ∧ ve = e.val ∧ pn = e.pins ∧ we = e.wt) := Lib.hid ⟨hle, hve, hpn, hwe⟩
  have HG : Hid (∀ w', Below w.heap.size w w' → Calls Try.prog 19 #[.pointer (some ⟨cb, 7, none⟩), .string k] w' fun r w2 => r = .returned (.tuple #[bp le, .bool true]) ∧ w2 = w') :=
    Lib.hid (fun w' hb => by rw [hle]; exact get_in (hC.below hb).c7 (hC.below hb).mp he hek hkm)
  have HC := Lib.hid hC
  have HN := Lib.hid hN
  have HK := Lib.hid hK
  obtain ⟨b0, hb0⟩ : ∃ x, x = w.heap.size := ⟨_, rfl⟩
  obtain ⟨w1, hw1⟩ : ∃ x, x = w.alloc (.cells #[bp cb] 25) := ⟨_, rfl⟩
  have hbx : Below w.heap.size w w1 := by rw [hw1]; exact (Below.refl _ _).alloc (Nat.le_refl _) _
  have HG1 := Lib.hid (HG.out w1 hbx)
  have d0 : w1.cell? ⟨b0, 0, none⟩ = some (bp cb) := by rw [hw1, hb0]; simp
  have HW1 := Lib.hid hw1
  have HB1 := Lib.hid hbx
  have HB0 := Lib.hid hb0
  have hs1 : w1.heap.size = b0 + 1 := by rw [hw1, hb0]; simp
  have hb0c : col b0 = 0 := Classical.byContradiction fun hne => by have := hlo b0 hne; omega
  have hb1c : col w1.heap.size = 0 := Classical.byContradiction fun hne => by have := hlo _ hne; omega
  have hb2c : col (w1.heap.size + 1) = 0 := Classical.byContradiction fun hne => by have := hlo _ hne; omega
  obtain ⟨oth, hoth⟩ : ∃ x, x = pinw (but k L) := ⟨_, rfl⟩
  obtain ⟨pl, hpl⟩ : ∃ x, x = pinw L := ⟨_, rfl⟩
  obtain ⟨wt, hwt⟩ : ∃ x, x = k.size + v.size := ⟨_, rfl⟩
  have hc2 : c 2 = pl := hN.p.trans hpl.symm
  have hothn : oth + wt ≤ n := by rw [hoth, hwt]; exact hfit
  have hpln : pl ≤ n := by rw [hpl]; exact Nat.le_trans (pinw_le L) hw
  have hple : pl = oth := by rw [hpl, hoth, hpwL, if_neg (by omega), Nat.zero_add]
  have HOTH := Lib.hid hoth
  have HWT := Lib.hid hwt
  have HLO := Lib.hid hlo
  have HW := Lib.hid hw
  have HC2 := Lib.hid hc2
  have hcnt : ∀ w, Calls Try.prog 21 #[.agg #[.string k, .string v, .int .i64 0]] w fun r w' => r = .returned (.int .i64 ((k.size + v.size : Nat) : Int)) ∧ Below w.heap.size w w' := fun w => counts_any k v 0 w (by omega) (by omega)
  rw [← hwt] at hcnt
  have hcne : ∀ w, Calls Try.prog 21 #[.agg #[.string k, .string ve, .int .i64 (pn : Int)]] w fun r w' => r = .returned (.int .i64 ((k.size + ve.size : Nat) : Int)) ∧ Below w.heap.size w w' := fun w => counts_any k ve pn w (by omega) (by rw [hve]; exact hws.2)
  rw [← hwes] at hcne
  have CD := Lib.hid hcnt
  have hvsz : ve.size ≤ 140737488355328 := by rw [hve]; exact hws.2
  have hcnp : ∀ w, Calls Try.prog 21 #[.agg #[.string k, .string v, .int .i64 (pn : Int)]] w fun r w' => r = .returned (.int .i64 ((k.size + v.size : Nat) : Int)) ∧ Below w.heap.size w w' := fun w => counts_any k v pn w (by omega) (by omega)
  rw [← hwt] at hcnp
  have HLTB : Hid (b0 < w1.heap.size) := Lib.hid (by rw [hs1]; omega)
  have HCOL : Hid (col b0 = 0 ∧ col w1.heap.size = 0 ∧ col (w1.heap.size + 1) = 0) := Lib.hid ⟨hb0c, hb1c, hb2c⟩
  have hc0 : c 0 = n := hN.n
  have HC0 := Lib.hid hc0
  have hel : EntAt w e := hC.es e he
  have HEL := Lib.hid hel
  have HBUT := Lib.hid hbut
  have hwb : we ≤ 16777216 := by have := hwtL; rw [hwe]; omega
  have hpn0 : pn = 0 := hpn.trans hp
  have hcne0 := hcne
  have hcnp0 := hcnp
  rw [hpn0] at hcne0 hcnp0
  have CDE : Hid (∀ w, Calls Try.prog 21 #[.agg #[.string k, .string ve, .int .i64 0]] w fun r w' => r = .returned (.int .i64 (we : Int)) ∧ Below w.heap.size w w') := Lib.hid hcne0
  have CDP : Hid (∀ w, Calls Try.prog 21 #[.agg #[.string k, .string v, .int .i64 0]] w fun r w' => r = .returned (.int .i64 (wt : Int)) ∧ Below w.heap.size w w') := Lib.hid hcnp0
  have HPN : Hid (Value.int .i64 (0 : Int) = .int .i64 (pn : Int)) := Lib.hid (by rw [hpn0]; rfl)
  have HPN0 := Lib.hid hpn0
  clear hcne0 hcnp0 hpn0
  have HPLE := Lib.hid hple
  have hob : oth ≤ 16777216 := by omega
  clear hC hN hK hbx hw1 hlo hfit hw HG hb0 hs1 hb0c hb1c hb2c hoth hpl hwt hc2 hcnt hcne hcnp hc0 hws hXY hbut hwtL hpwL he hek hp hle hve hpn hwe hwes hel hvsz hple
  go_enter Try.func10, Try.ntmps10
  go_upto_region 1 with fail
  rw [← HW1.out, ← HB0.out]
  go_upto_region 3 with (first
    | (go_at_call 19; with_reducible refine (HG1.out).mono ?_; rintro r wx ⟨rfl, hwx⟩; rw [hwx]; clear hwx wx))
  obtain ⟨b1, hb1⟩ : ∃ x, x = w1.heap.size := ⟨_, rfl⟩
  obtain ⟨w2, hw2⟩ : ∃ x, x = (w1.alloc (.cells #[bp le] 60)).alloc (.cells #[.string k, .string v, .int .i64 0] 57) := ⟨_, rfl⟩
  have hbel2 : Below w1.heap.size w1 w2 := by rw [hw2]; exact ((Below.refl _ _).alloc (Nat.le_refl _) _).alloc (by simp) _
  have hbelw : Below w.heap.size w w2 := below_on HB1.out hbel2 HB1.out.size
  have hl0 : w2.cell? ⟨b1, 0, none⟩ = some (bp le) := by rw [hw2, hb1, World.cell?_alloc_lt _ _ _ (by simp)]; simp
  have hx2 : ∀ i, w2.cell? ⟨b1 + 1, i, none⟩ = (#[Value.string k, Value.string v, Value.int .i64 0] : Array Value)[i]? := fun i => by
    rw [hw2, hb1]
    simp
  have hd0 : w2.cell? ⟨b0, 0, none⟩ = some (bp cb) := (hbel2.cell (block_lt_of_cell d0)).trans d0
  have ht2 : Thaw w2 (b1 + 1) := ⟨#[.string k, .string v, .int .i64 0], 57, by rw [hw2]; exact heap_alloc_at _ _ _ (by simp [hb1])⟩
  have ht1 : Thaw w2 b1 := ⟨#[bp le], 60, by rw [hw2, hb1]; exact blk_alloc (heap_alloc_new w1 _)⟩
  have HBX : Hid (Bx w2 col κ b0 (b1 + 1) b1 cb k v 0 (bp le)) := Lib.hid ⟨hd0, hx2 0, hx2 1, hx2 2, hl0, ⟨(by rw [HCOL.out.1]; exact hκ.symm), (by rw [hb1, HCOL.out.2.2]; exact hκ.symm), (by rw [hb1, HCOL.out.2.1]; exact hκ.symm)⟩, ht2, ht1⟩
  have HCB := Lib.hid (HC.out.below hbelw)
  have HB01 : Hid (b0 < b1 ∧ col b0 ≠ κ ∧ col b1 ≠ κ ∧ col (b1 + 1) ≠ κ ∧ w.heap.size ≤ b1) := Lib.hid ⟨by rw [hb1]; exact HLTB.out, by rw [HCOL.out.1]; exact hκ.symm, by rw [hb1, HCOL.out.2.1]; exact hκ.symm, by rw [hb1, HCOL.out.2.2]; exact hκ.symm, by rw [hb1]; exact HB1.out.size⟩
  have HBW := Lib.hid hbelw
  rw [← hw2, ← hb1]
  clear d0 hw2 hb1 hbel2 hbelw hl0 hx2 hd0 HC HG1 HB1 ht1 ht2
  have e2 : w2.cell? ⟨cb, 2, none⟩ = some (.int .i64 (pl : Int)) := by rw [← HC2.out]; exact HCB.out.c 2 (by decide)
  have e0 := HBX.out.c
  have el := HBX.out.l
  have HE2 : Hid (EntAt w2 e) := Lib.hid (HCB.out.es e HEK.out.1)
  have ek : w2.cell? ⟨le, 0, none⟩ = some (.string k) := by rw [HE.out.1, ← HEK.out.2]; exact HE2.out.k
  have ev : w2.cell? ⟨le, 1, none⟩ = some (.string ve) := by rw [HE.out.1, HE.out.2.1]; exact HE2.out.v
  have ep : w2.cell? ⟨le, 2, none⟩ = some (.int .i64 0) := by rw [HE.out.1, HPN.out, HE.out.2.2.1]; exact HE2.out.p
  have HPLO := Lib.hid HPLE.out.symm
  rw [HPLE.out] at e2 hpln
  go_upto_region 6 with fail
  obtain ⟨wS, hwS⟩ : ∃ x, x = w2 := ⟨_, rfl⟩
  rw [← hwS] at HCB HBX HBW ⊢
  have HCS := Lib.hid HCB.out
  have HXS := Lib.hid HBX.out
  have HWS := Lib.hid HBW.out
  clear hwS e2 e0 el ek ev ep HCB HBX HBW HE2
  have HRC : Hid (∀ w', RB w w' col κ cb ob mb b0 (b1 + 1) b1 c L k v 0 (bp le) → w'.cell? ⟨b0, 0, none⟩ = some (bp cb) ∧ w'.cell? ⟨cb, 0, none⟩ = some (.int .i64 (n : Int)) ∧ w'.cell? ⟨b1 + 1, 0, none⟩ = some (.string k) ∧ w'.cell? ⟨b1 + 1, 1, none⟩ = some (.string v) ∧ w'.cell? ⟨b1 + 1, 2, none⟩ = some (.int .i64 0) ∧ RB w w' col κ cb ob mb b0 (b1 + 1) b1 c L k v 0 (bp le)) := Lib.hid (fun w' h =>
    ⟨h.2.1.c, (by rw [← HC0.out]; exact h.1.c 0 (by decide)), h.2.1.x0, h.2.1.x1, h.2.1.x2, h⟩)
  have HRB : Hid (RB w wS.drew col κ cb ob mb b0 (b1 + 1) b1 c L k v 0 (bp le)) := Lib.hid ⟨HCS.out.drew, HXS.out.only (only_drew' (Only.refl _ _ _)), HWS.out.drew⟩
  have HS := Lib.hid (HRC.out _ HRB.out)
  have hgt : ¬ ((n : Int) - (oth : Int) < (wt : Int)) := by omega
  have hwr : IntKind.i64.wrap ((n : Int) - (oth : Int)) = (n : Int) - (oth : Int) := IntWalk.i64_in _ (by omega)
  go_region_held3 (fun w' => w'.cell? ⟨b0, 0, none⟩ = some (bp cb) ∧ w'.cell? ⟨cb, 0, none⟩ = some (.int .i64 (n : Int)) ∧ w'.cell? ⟨b1 + 1, 0, none⟩ = some (.string k) ∧ w'.cell? ⟨b1 + 1, 1, none⟩ = some (.string v) ∧ w'.cell? ⟨b1 + 1, 2, none⟩ = some (.int .i64 0) ∧ RB w w' col κ cb ob mb b0 (b1 + 1) b1 c L k v 0 (bp le)) (first | exact HS3.out | exact HS.out) (first
    | (go_at_call 21; with_reducible refine (CD.out _).mono ?_; rintro r w3 ⟨rfl, hb3⟩; have HB3 := Lib.hid (HRB.out.below hb3); have HS3 := Lib.hid (HRC.out w3 HB3.out); clear hb3))
  have HC3 := Lib.hid HB3.out.1
  have HX3 := Lib.hid HB3.out.2.1
  have HBW3 := Lib.hid HB3.out.2.2
  clear HCS HXS HWS HRB HS HS3 HB3 HRC hgt hwr
  have q0 := HX3.out.l
  have HE3 : Hid (EntAt w3 e) := Lib.hid (HC3.out.es e HEK.out.1)
  have q1 : w3.cell? ⟨le, 2, none⟩ = some (.int .i64 0) := by rw [HE.out.1, HPN.out, HE.out.2.2.1]; exact HE3.out.p
  have q2 := HX3.out.x2
  have q3 := HX3.out.tx.f 2
  go_upto_region 10 with fail
  obtain ⟨w4, hw4⟩ : ∃ x, x = w3.setCell ⟨b1 + 1, 2, none⟩ (.int .i64 0) := ⟨_, rfl⟩
  have HX4 : Hid (Bx w4 col κ b0 (b1 + 1) b1 cb k v pn (bp le)) := Lib.hid (by rw [hw4]; exact HX3.out.pins (by have := HB01.out.1; omega) (by omega) pn _ HPN.out)
  have HC4 : Hid (CB w4 col κ cb ob mb c L L) := Lib.hid (by rw [hw4]; exact HC3.out.far HB01.out.2.2.2.1 _)
  have HO4 : Hid (Only col (fun g => g = κ) w w4) := Lib.hid (by rw [hw4]; exact only_past (only_of_below' HBW3.out) (by have := HB01.out.2.2.2.2; omega) 2 _)
  rw [← hw4]
  clear hw4 q0 q1 q2 q3 HE3 HC3 HX3 HBW3
  obtain ⟨wl, hwl⟩ : ∃ x, x = wts L := ⟨_, rfl⟩
  obtain ⟨wb, hwb2⟩ : ∃ x, x = wts (but k L) := ⟨_, rfl⟩
  have hwlb : wl = we + wb := by rw [hwl, hwb2, HE.out.2.2.2]; exact HXY.out.1
  have hwln : wl ≤ 16777216 := by rw [hwl]; have := HW.out; omega
  have HWL : Hid (wl = wts L ∧ wb = wts (but k L)) := Lib.hid ⟨hwl, hwb2⟩
  have hsub : (wl : Int) - (we : Int) = (wb : Int) := by omega
  have hwrp : IntKind.i64.wrap (wb : Int) = (wb : Int) := IntWalk.i64_in _ (by omega)
  have HCELL : Hid (∀ w', CB w' col κ cb ob mb c L L → Bx w' col κ b0 (b1 + 1) b1 cb k v pn (bp le) → w'.cell? ⟨b0, 0, none⟩ = some (bp cb) ∧ w'.cell? ⟨cb, 1, none⟩ = some (.int .i64 (wl : Int)) ∧ w'.cell? ⟨b1, 0, none⟩ = some (bp le) ∧ w'.cell? ⟨le, 0, none⟩ = some (.string k) ∧ w'.cell? ⟨le, 1, none⟩ = some (.string ve) ∧ w'.cell? ⟨le, 2, none⟩ = some (.int .i64 0) ∧ w'.frozen? ⟨cb, 1, none⟩ = false) := Lib.hid (fun w' hC hX => by
    have hE := hC.es e HEK.out.1
    refine ⟨hX.c, ?_, hX.l, ?_, ?_, ?_, hC.ct.f 1⟩
    · rw [HWL.out.1, ← HN.out.b]; exact hC.c 1 (by decide)
    · rw [HE.out.1, ← HEK.out.2]; exact hE.k
    · rw [HE.out.1, HE.out.2.1]; exact hE.v
    · rw [HE.out.1, HPN.out, HE.out.2.2.1]; exact hE.p)
  clear hwl hwb2 hwlb
  go_cut [10] from 58 to 70 (fun q wx => q = .int .i64 (oth : Int) ∧ Hid (CB wx col κ cb ob mb (put1 c 1 wb) L L ∧ Bx wx col κ b0 (b1 + 1) b1 cb k v pn (bp le) ∧ Only col (fun g => g = κ) w wx))
  case first =>
    obtain ⟨f0, f1, f2, f3, f4, f5, f6⟩ := HCELL.out w4 HC4.out HX4.out
    have HB3 : Hid (∀ w3, Below w4.drew.heap.size w4.drew w3 → CB w3 col κ cb ob mb c L L ∧ Bx w3 col κ b0 (b1 + 1) b1 cb k v pn (bp le) ∧ Only col (fun g => g = κ) w w3) := Lib.hid (fun w3 hb3 =>
      ⟨HC4.out.drew.below hb3, HX4.out.only ((only_drew' (Only.refl _ _ _)).trans' (only_of_below' hb3)), (only_drew' HO4.out).trans' (only_of_below' hb3)⟩)
    go_region_law (first
      | (go_simp; go_at_call 21; with_reducible refine (CDE.out _).mono ?_; rintro r w3 ⟨rfl, hb3⟩; obtain ⟨hC3, hX3, hO3⟩ := HB3.out _ hb3; obtain ⟨g0, g1, g2, g3, g4, g5, g6⟩ := HCELL.out _ hC3 hX3; have HC3 := Lib.hid hC3; have HX3 := Lib.hid hX3; have HO3 := Lib.hid hO3; clear hC3 hX3 hO3 hb3)
      | fail)
    all_goals
      have hC5 := HC3.out.num (j := 1) (by decide) wb
      have hO5 : Only col (fun g => g = κ) w (w3.setCell ⟨cb, 1, none⟩ (.int .i64 (wb : Int))) := HO3.out.trans' (only_setCell' (p := ⟨cb, 1, none⟩) HC3.out.cc.1 _)
      have hX5 : Bx (w3.setCell ⟨cb, 1, none⟩ (.int .i64 (wb : Int))) col κ b0 (b1 + 1) b1 cb k v pn (bp le) := HX3.out.only (only_setCell' (p := ⟨cb, 1, none⟩) HC3.out.cc.1 _)
      have HF5 := Lib.hid hC5
      have HO5 := Lib.hid hO5
      have HX5 := Lib.hid hX5
      clear hC5 hO5 hX5
      go_wp2_with fail
      go_meet
      exact ⟨rfl, Lib.hid ⟨HF5.out, HX5.out, HO5.out⟩⟩
  case rest =>
  obtain ⟨hq10, h5⟩ := hcut
  subst hq10
  obtain ⟨hC5, hX5, hO5⟩ := h5.out
  have HC5 := Lib.hid hC5
  have HX5 := Lib.hid hX5
  have HO5 := Lib.hid hO5
  have e8 := hC5.c8
  have e0 := hX5.c
  obtain ⟨w5, hw5⟩ : ∃ x, x = wc := ⟨_, rfl⟩
  rw [← hw5] at HC5 HX5 HO5 e8 e0 ⊢
  obtain ⟨c1, hc1⟩ : ∃ x, x = put1 c 1 wb := ⟨_, rfl⟩
  rw [← hc1] at HC5
  have HC1E := Lib.hid hc1
  have hc10 : c1 0 = n := by rw [hc1, put1_ne (by decide)]; exact HC0.out
  have HC10 := Lib.hid hc10
  have CR := Lib.hid (rising_any HC5.out HX5.out HK.out.nk (by omega) (by omega) HK.out.sz (by rw [hc1, put1_at]; exact HWL.out.2) (by rw [hc1, put1_ne (by decide)]; exact HN.out.k) (by have := HW.out; omega) (by omega) (by rw [hc1, put1_ne (by decide), HN.out.o]; omega) (fun x hx hk => by rw [key_same HK.out.nk hx HEK.out.1 (hk.trans HEK.out.2.symm), HE.out.1]) (.inr ⟨e, HEK.out.1, HEK.out.2, by rw [HE.out.1]⟩))
  rw [hc10] at CR
  clear hC5 hX5 hO5 h5 hw5 hc1 hc10 HC4 HX4 HO4 HCELL hsub hwrp hwln
  go_upto_region 12 with (first
    | (go_at_call 22; with_reducible refine (CR.out).mono ?_; rintro r w6 ⟨rfl, hC6, hO6⟩; have HC6 := Lib.hid hC6; have HO6 := Lib.hid hO6; clear hC6 hO6))
  obtain ⟨R, hR⟩ : ∃ R, R = rest n (k.size + v.size) k L := ⟨_, rfl⟩
  have hC6 := HC6.out
  rw [← hR] at hC6
  have hsl : R.Sublist L := by rw [hR]; exact rest_sub _ _ _ _
  have heR : e ∈ R := by rw [hR]; exact rest_mem (.inr HEK.out.2) HEK.out.1
  have hnkR : (R.map Ent.key).Nodup := HK.out.nk.sublist (hsl.map _)
  obtain ⟨X', Y', hXY', hbR⟩ := ask_hit hnkR heR HEK.out.2
  have HRR : Hid (R = rest n (k.size + v.size) k L ∧ R = X' ++ e :: Y' ∧ but k R = X' ++ Y' ∧ R.Sublist L ∧ (R.map Ent.key).Nodup) := Lib.hid ⟨hR, hXY', hbR, hsl, hnkR⟩
  have hC6' : CB w6 col κ cb ob mb (numC c1 k L R) (X' ++ e :: Y') R := by rw [← hXY']; exact hC6
  have CT : Hid (Calls Try.prog 25 #[bp ob, bp le] w6.drew fun r w' => r = .returned (.tuple #[]) ∧ CB w' col κ cb ob mb (numC c1 k L R) (X' ++ Y') R ∧ EntAt w' e ∧ e.blk ∉ ob :: blks (X' ++ Y') ∧ Only col (fun k => k = κ) w6.drew w') := Lib.hid (by rw [HE.out.1]; exact take_any hC6'.drew)
  have HX6 := Lib.hid (HX5.out.only HO6.out)
  have HO6' := Lib.hid (HO5.out.trans' HO6.out)
  have HCC : Hid (col e.blk = κ ∧ e.blk ≠ cb) := Lib.hid ⟨hC6'.cc.2.2.2 e (by simp), fun e' => hC6'.nc (by rw [← e']; simp [blks])⟩
  have e8 := hC6.c8
  have e0 := HX6.out.c
  have el := HX6.out.l
  clear hC6 hR hsl heR hnkR hXY' hbR hC6' HC5 HX5 HO5 HC6 HO6 CR
  go_upto_region 13 with fail
  go_still_tail 5, (by kernel_rfl)
  change wpList _ _ _ _ _ w6.drew
  go_upto_region 17 with (first
    | (go_at_call 25; with_reducible refine (CT.out).mono ?_; rintro r w7 ⟨rfl, hC7, hE7, hn7, hO7⟩; have HC7 := Lib.hid hC7; have HE7 := Lib.hid hE7; have HN7 := Lib.hid hn7; have HO7 := Lib.hid hO7; clear hC7 hE7 hn7 hO7 CT))
  have HX7 := Lib.hid (HX6.out.only ((only_drew' (Only.refl _ _ _)).trans' HO7.out))
  have HOW7 := Lib.hid ((only_drew' HO6'.out).trans' HO7.out)
  have z1 := HX7.out.l
  have z2 := HX7.out.x0
  have z3 := HX7.out.x1
  have z4 : w7.cell? ⟨b1 + 1, 2, none⟩ = some (.int .i64 0) := by rw [HPN.out]; exact HX7.out.x2
  have z5 : w7.cell? ⟨le, 0, none⟩ = some (.string k) := by rw [HE.out.1, ← HEK.out.2]; exact HE7.out.k
  have z6 : w7.cell? ⟨le, 1, none⟩ = some (.string ve) := by rw [HE.out.1, HE.out.2.1]; exact HE7.out.v
  have z7 : w7.cell? ⟨le, 2, none⟩ = some (.int .i64 0) := by rw [HE.out.1, HPN.out, HE.out.2.2.1]; exact HE7.out.p
  have z8 : ∀ i, w7.frozen? ⟨le, i, none⟩ = false := by rw [HE.out.1]; exact HE7.out.t.f
  clear e8 e0 el
  go_upto_region 18 with fail
  obtain ⟨wA, hwA⟩ : ∃ x, x = ((w7.setCell ⟨le, 0, none⟩ (.string k)).setCell ⟨le, 1, none⟩ (.string v)).setCell ⟨le, 2, none⟩ (.int .i64 0) := ⟨_, rfl⟩
  have hm9 : le ≠ mb := not_map HC7.out.mp z5
  have hcc1 : le ≠ cb := by rw [HE.out.1]; exact HCC.out.2
  have hcc2 : le ∉ ob :: blks (X' ++ Y') := by rw [HE.out.1]; exact HN7.out
  have hcc3 : col le = κ := by rw [HE.out.1]; exact HCC.out.1
  have hCA : CB wA col κ cb ob mb (numC c1 k L R) (X' ++ Y') R := by
    rw [hwA]
    exact ((HC7.out.apart hcc1 hcc2 hm9 _ _).apart hcc1 hcc2 hm9 _ _).apart hcc1 hcc2 hm9 _ _
  have hEA : EntAt wA ⟨le, k, v, pn⟩ := by
    rw [hwA, HE.out.1]
    exact HE7.out.write k v pn _ HPN.out
  have hOA : Only col (fun g => g = κ) w7 wA := by
    rw [hwA]
    exact ((only_setCell' (p := ⟨le, 0, none⟩) hcc3 _).trans' (only_setCell' (p := ⟨le, 1, none⟩) hcc3 _)).trans' (only_setCell' (p := ⟨le, 2, none⟩) hcc3 _)
  have hXA : Bx wA col κ b0 (b1 + 1) b1 cb k v pn (bp le) := HX7.out.only hOA
  rw [← hwA]
  have hCA' := hCA.map (hCA.mp.turn (L' := ⟨le, k, v, pn⟩ :: (X' ++ Y')) (by rw [HRR.out.2.1]; simp; omega) (fun x hx => by
    rw [HRR.out.2.1]
    rcases List.mem_cons.mp hx with rfl | hx
    · exact ⟨e, by simp, HEK.out.2, HE.out.1.symm⟩
    · exact ⟨x, mid_has.mp (List.mem_cons_of_mem _ hx), rfl, rfl⟩) (fun x hx => by
    rw [HRR.out.2.1] at hx
    rcases List.mem_cons.mp (mid_has.mpr hx) with rfl | hx
    · exact ⟨_, List.mem_cons_self .., HEK.out.2.symm⟩
    · exact ⟨x, List.mem_cons_of_mem _ hx, rfl⟩))
  have CF : Hid (Calls Try.prog 26 #[bp ob, bp le] wA.drew fun r w' => r = .returned (.tuple #[]) ∧ CB w' col κ cb ob mb (numC c1 k L R) (⟨le, k, v, pn⟩ :: (X' ++ Y')) (⟨le, k, v, pn⟩ :: (X' ++ Y')) ∧ Only col (fun g => g = κ) wA.drew w') :=
    Lib.hid (first_any hCA'.drew hEA.drew hcc3 hcc2 hcc1)
  have y0 := hXA.c
  have y1 := hXA.l
  have y8 := hCA.c8
  have HXA := Lib.hid hXA
  have HOA := Lib.hid (HOW7.out.trans' hOA)
  clear z1 z2 z3 z4 z5 z6 z7 z8 hm9 hCA hEA hOA hXA hwA hCA' hcc1 hcc2 hcc3 HX7 HC7 HE7 HN7 HO7 HOW7 HX6 HO6'
  go_still_tail 5, (by kernel_rfl)
  change wpList _ _ _ _ _ wA.drew
  go_upto_region 19 with (first
    | (go_at_call 26; with_reducible refine (CF.out).mono ?_; rintro r wB ⟨rfl, hCB, hOB⟩; have HCB := Lib.hid hCB; have HOB := Lib.hid hOB; clear hCB hOB))
  have HOC := Lib.hid ((only_drew' HOA.out).trans' HOB.out)
  have HXC := Lib.hid (HXA.out.only ((only_drew' (Only.refl _ _ _)).trans' HOB.out))
  obtain ⟨c2, hc2⟩ : ∃ x, x = numC c1 k L R := ⟨_, rfl⟩
  obtain ⟨x1, hx1⟩ : ∃ x, x = c2 1 := ⟨_, rfl⟩
  have hx1e : x1 = wts (X' ++ Y') := by
    rw [hx1, hc2, numC_1, HRR.out.2.2.1]
  have hxb : x1 ≤ 16777216 := by
    have h1 := wts_sub HRR.out.2.2.2.1
    have h2 := wts_but_le k R
    rw [HRR.out.2.2.1] at h2
    have := HW.out
    omega
  have hCC := HCB.out
  rw [← hc2] at hCC
  have HCC2 := Lib.hid hCC
  have HE1 : Hid (c2 1 = x1) := Lib.hid hx1.symm
  have hw1 : IntKind.i64.wrap ((x1 : Int) + (wt : Int)) = (x1 : Int) + (wt : Int) := IntWalk.i64_in _ (by omega)
  have HCELL : Hid (∀ w3 c3, CB w3 col κ cb ob mb c3 (⟨le, k, v, pn⟩ :: (X' ++ Y')) (⟨le, k, v, pn⟩ :: (X' ++ Y')) → Bx w3 col κ b0 (b1 + 1) b1 cb k v pn (bp le) → w3.cell? ⟨b0, 0, none⟩ = some (bp cb) ∧ w3.cell? ⟨cb, 1, none⟩ = some (.int .i64 (c3 1 : Int)) ∧ w3.cell? ⟨b1 + 1, 0, none⟩ = some (.string k) ∧ w3.cell? ⟨b1 + 1, 1, none⟩ = some (.string v) ∧ w3.cell? ⟨b1 + 1, 2, none⟩ = some (.int .i64 0) ∧ w3.frozen? ⟨cb, 1, none⟩ = false ∧ w3.frozen? ⟨cb, 2, none⟩ = false ∧ w3.cell? ⟨cb, 2, none⟩ = some (.int .i64 (c3 2 : Int))) := Lib.hid (fun w3 c3 hC3 hX3 =>
    ⟨hX3.c, hC3.c 1 (by decide), hX3.x0, hX3.x1, (by rw [HPN.out]; exact hX3.x2), hC3.ct.f 1, hC3.ct.f 2, hC3.c 2 (by decide)⟩)
  have HX1 := Lib.hid hx1e
  have HC2E := Lib.hid hc2
  have HFIN : Hid (∀ w', CB w' col κ cb ob mb (put1 c2 1 (x1 + wt)) (⟨le, k, v, pn⟩ :: (X' ++ Y')) (⟨le, k, v, pn⟩ :: (X' ++ Y')) → Only col (fun g => g = κ) w w' → PutPost w w' col κ cb n f m o k v L) := Lib.hid (fun w' hC hO => by
    obtain ⟨r1, r2, r3, r4, r5⟩ := HRR.out
    have hpo : pinsOf k L = pn := by rw [pinsOf_in HK.out.nk HEK.out.1 HEK.out.2, HE.out.2.2.1]
    have hput : lput n le k v L = ⟨le, k, v, pn⟩ :: (X' ++ Y') := by
      unfold lput
      rw [hpo, ← r1, r3]
    have hpr : pinw (X' ++ Y') = oth := by rw [← r3, HOTH.out, r1]; exact rest_pinw _ _ _ _
    have hc1 := HC1E.out
    refine ⟨le, col, turn_only hO, ?_⟩
    refine ⟨ob, mb, _, by rw [hput]; exact hC, ⟨?_, ?_, ?_, ?_, ?_, ?_, ?_⟩, ?_⟩
    · rw [put1_ne (by decide), hc2, numC_o _ _ _ _ (by decide) (by decide) (by decide)]; exact HC10.out
    · rw [put1_at, hput, wts_cons, hx1e, HWT.out]; show _ = k.size + v.size + _; omega
    · rw [put1_ne (by decide), hc2, numC_o _ _ _ _ (by decide) (by decide) (by decide), hc1, put1_ne (by decide), hput, pinw_cons, if_neg (by have h0 : pn = 0 := HPN0.out; show ¬ 0 < pn; omega), hpr, HC2.out, HPLO.out]; omega
    · rw [put1_ne (by decide), hc2, numC_o _ _ _ _ (by decide) (by decide) (by decide), hc1, put1_ne (by decide)]; exact HN.out.f
    · rw [put1_ne (by decide), hc2, numC_o _ _ _ _ (by decide) (by decide) (by decide), hc1, put1_ne (by decide)]; exact HN.out.m
    · rw [put1_ne (by decide), hc2, numC_5, hc1, put1_ne (by decide), HN.out.o, ← r1]
    · rw [put1_ne (by decide), hc2, numC_6, hput, r2]; simp; omega
    · rw [hput]
      have hkd : Keyd (e :: (X' ++ Y')) := Keyd.mid ⟨by rw [← r2]; exact r5, fun x hx => HK.out.sz x (r4.subset (by rw [r2]; exact hx))⟩
      refine ⟨?_, fun x hx => ?_⟩
      · have := hkd.nk
        rw [List.map_cons, HEK.out.2] at this
        exact this
      · rcases List.mem_cons.mp hx with rfl | hx
        · exact ⟨by show k.size ≤ _; omega, by show v.size ≤ _; omega⟩
        · exact hkd.sz x (List.mem_cons_of_mem _ hx))
  have HBC : Hid (∀ w0 w3 c3, Below w0.drew.heap.size w0.drew w3 → CB w0 col κ cb ob mb c3 (⟨le, k, v, pn⟩ :: (X' ++ Y')) (⟨le, k, v, pn⟩ :: (X' ++ Y')) → Bx w0 col κ b0 (b1 + 1) b1 cb k v pn (bp le) → Only col (fun g => g = κ) w w0 → CB w3 col κ cb ob mb c3 (⟨le, k, v, pn⟩ :: (X' ++ Y')) (⟨le, k, v, pn⟩ :: (X' ++ Y')) ∧ Bx w3 col κ b0 (b1 + 1) b1 cb k v pn (bp le) ∧ Only col (fun g => g = κ) w w3) := Lib.hid (fun w0 w3 c3 hb hC hX hO =>
    ⟨hC.drew.below hb, hX.only ((only_drew' (Only.refl _ _ _)).trans' (only_of_below' hb)), (only_drew' hO).trans' (only_of_below' hb)⟩)
  clear hCC hx1 hx1e hc2 HCB HOB HOA HXA CF y0 y1 y8 HRR HC1E HC10 HC2E HX1 HCC
  obtain ⟨e0, e1, e3, e4, e5, e6, e7, e8⟩ := HCELL.out wB c2 HCC2.out HXC.out
  rw [HE1.out] at e1
  go_region_law (first
    | (go_simp; go_at_call 21; with_reducible refine (CDP.out _).mono ?_; rintro r w3 ⟨rfl, hb3⟩; obtain ⟨hC3, hX3, hO3⟩ := HBC.out wB _ c2 hb3 HCC2.out HXC.out HOC.out; obtain ⟨g0, g1, g2, g3, g4, g5, g6, g7⟩ := HCELL.out _ c2 hC3 hX3; rw [HE1.out] at g1; have HC3 := Lib.hid hC3; have HX3 := Lib.hid hX3; have HO3 := Lib.hid hO3; clear hC3 hX3 hO3 hb3)
    | fail)
  all_goals (
    have hC4 := HC3.out.num (j := 1) (by decide) (x1 + wt)
    rw [show ((x1 + wt : Nat) : Int) = (x1 : Int) + (wt : Int) by omega] at hC4
    have hOs : Only col (fun g => g = κ) w3 (w3.setCell ⟨cb, 1, none⟩ (.int .i64 ((x1 : Int) + (wt : Int)))) := only_setCell' (p := ⟨cb, 1, none⟩) HC3.out.cc.1 _
    have hO4 := HO3.out.trans' hOs
    have hX4 := HX3.out.only hOs
    have HC4 := Lib.hid hC4
    have HX4 := Lib.hid hX4
    have HO4 := Lib.hid hO4
    clear hC4 hX4 hO4 hOs e0 e1 e3 e4 e5 e6 e7 e8 g0 g1 g2 g3 g4 g5 g6 g7 hw1
    generalize w3.setCell ⟨cb, 1, none⟩ (.int .i64 ((x1 : Int) + (wt : Int))) = w4 at *
    have q2 : w4.cell? ⟨b1 + 1, 2, none⟩ = some (.int .i64 0) := by rw [HPN.out]; exact HX4.out.x2
    have HF := Lib.hid (HFIN.out _ HC4.out HO4.out)
    go_wp2
    go_ret
    exact ⟨rfl, HF.out⟩)
set_option maxRecDepth 100000 in
set_option maxHeartbeats 2000000 in
theorem put_old1 {w : World} {col : Nat → Nat} {κ cb n f m o : Nat} {L : List Ent} {k v : ByteArray} (hκ : κ ≠ 0) (hlo : ∀ g, col g ≠ 0 → g < w.heap.size) (h : Cash w col κ cb n f m o L) (hn : n ≤ 16777216) {e : Ent} (he : e ∈ L) (hek : e.key = k) (hp : 0 < e.pins)
    (hks : k.size ≤ 1099511627776) (hvs : v.size ≤ 1099511627776) (hLl : L.length ≤ 1099511627776) (ho : o ≤ 1099511627776) (hw : wts L ≤ n) (hfit : pinw (but k L) + (k.size + v.size) ≤ n) :
    Calls Try.prog 10 #[bp cb, .string k, .string v] w fun r w' => r = .returned (.int .i64 0) ∧ PutPost w w' col κ cb n f m o k v L := by
  obtain ⟨ob, mb, c, hC, hN, hK⟩ := h
  have hkm : k.size ≤ maxLen := by simp only [maxLen]; omega
  have hws := hK.sz e he
  obtain ⟨X, Y, hXY, hbut⟩ := ask_hit hK.nk he hek
  have hwtL : wts L = e.wt + wts (but k L) := by rw [hbut, hXY, ← mid_wts, wts_cons]
  have hpwL : pinw L = (if 0 < e.pins then e.wt else 0) + pinw (but k L) := by rw [hbut, hXY, ← mid_pinw, pinw_cons]
  have HXY : Hid (wts L = e.wt + wts (but k L) ∧ pinw L = (if 0 < e.pins then e.wt else 0) + pinw (but k L)) := Lib.hid ⟨hwtL, hpwL⟩
  have HEK : Hid (e ∈ L ∧ e.key = k) := Lib.hid ⟨he, hek⟩
  have HP := Lib.hid hp
  obtain ⟨le, hle⟩ : ∃ x, x = e.blk := ⟨_, rfl⟩
  obtain ⟨ve, hve⟩ : ∃ x, x = e.val := ⟨_, rfl⟩
  obtain ⟨pn, hpn⟩ : ∃ x, x = e.pins := ⟨_, rfl⟩
  obtain ⟨we, hwe⟩ : ∃ x, x = e.wt := ⟨_, rfl⟩
  have hwes : we = k.size + ve.size := by rw [hwe, hve, ← hek]; rfl
  have HE : Hid (le = e.blk ∧ ve = e.val ∧ pn = e.pins ∧ we = e.wt) := Lib.hid ⟨hle, hve, hpn, hwe⟩
  have HG : Hid (∀ w', Below w.heap.size w w' → Calls Try.prog 19 #[.pointer (some ⟨cb, 7, none⟩), .string k] w' fun r w2 => r = .returned (.tuple #[bp le, .bool true]) ∧ w2 = w') :=
    Lib.hid (fun w' hb => by rw [hle]; exact get_in (hC.below hb).c7 (hC.below hb).mp he hek hkm)
  have HC := Lib.hid hC
  have HN := Lib.hid hN
  have HK := Lib.hid hK
  obtain ⟨b0, hb0⟩ : ∃ x, x = w.heap.size := ⟨_, rfl⟩
  obtain ⟨w1, hw1⟩ : ∃ x, x = w.alloc (.cells #[bp cb] 25) := ⟨_, rfl⟩
  have hbx : Below w.heap.size w w1 := by rw [hw1]; exact (Below.refl _ _).alloc (Nat.le_refl _) _
  have HG1 := Lib.hid (HG.out w1 hbx)
  have d0 : w1.cell? ⟨b0, 0, none⟩ = some (bp cb) := by rw [hw1, hb0]; simp
  have HW1 := Lib.hid hw1
  have HB1 := Lib.hid hbx
  have HB0 := Lib.hid hb0
  have hs1 : w1.heap.size = b0 + 1 := by rw [hw1, hb0]; simp
  have hb0c : col b0 = 0 := Classical.byContradiction fun hne => by have := hlo b0 hne; omega
  have hb1c : col w1.heap.size = 0 := Classical.byContradiction fun hne => by have := hlo _ hne; omega
  have hb2c : col (w1.heap.size + 1) = 0 := Classical.byContradiction fun hne => by have := hlo _ hne; omega
  obtain ⟨oth, hoth⟩ : ∃ x, x = pinw (but k L) := ⟨_, rfl⟩
  obtain ⟨pl, hpl⟩ : ∃ x, x = pinw L := ⟨_, rfl⟩
  obtain ⟨wt, hwt⟩ : ∃ x, x = k.size + v.size := ⟨_, rfl⟩
  have hc2 : c 2 = pl := hN.p.trans hpl.symm
  have hothn : oth + wt ≤ n := by rw [hoth, hwt]; exact hfit
  have hpln : pl ≤ n := by rw [hpl]; exact Nat.le_trans (pinw_le L) hw
  have hple : pl = we + oth := by rw [hpl, hoth, hpwL, if_pos hp, hwe]
  have HOTH := Lib.hid hoth
  have HWT := Lib.hid hwt
  have HLO := Lib.hid hlo
  have HW := Lib.hid hw
  have HC2 := Lib.hid hc2
  have hcnt : ∀ w, Calls Try.prog 21 #[.agg #[.string k, .string v, .int .i64 0]] w fun r w' => r = .returned (.int .i64 ((k.size + v.size : Nat) : Int)) ∧ Below w.heap.size w w' := fun w => counts_any k v 0 w (by omega) (by omega)
  rw [← hwt] at hcnt
  have hcne : ∀ w, Calls Try.prog 21 #[.agg #[.string k, .string ve, .int .i64 (pn : Int)]] w fun r w' => r = .returned (.int .i64 ((k.size + ve.size : Nat) : Int)) ∧ Below w.heap.size w w' := fun w => counts_any k ve pn w (by omega) (by rw [hve]; exact hws.2)
  rw [← hwes] at hcne
  have CD := Lib.hid hcnt
  have hvsz : ve.size ≤ 140737488355328 := by rw [hve]; exact hws.2
  have hcnp : ∀ w, Calls Try.prog 21 #[.agg #[.string k, .string v, .int .i64 (pn : Int)]] w fun r w' => r = .returned (.int .i64 ((k.size + v.size : Nat) : Int)) ∧ Below w.heap.size w w' := fun w => counts_any k v pn w (by omega) (by omega)
  rw [← hwt] at hcnp
  have HLTB : Hid (b0 < w1.heap.size) := Lib.hid (by rw [hs1]; omega)
  have HCOL : Hid (col b0 = 0 ∧ col w1.heap.size = 0 ∧ col (w1.heap.size + 1) = 0) := Lib.hid ⟨hb0c, hb1c, hb2c⟩
  have hc0 : c 0 = n := hN.n
  have HC0 := Lib.hid hc0
  have hel : EntAt w e := hC.es e he
  have HEL := Lib.hid hel
  have HBUT := Lib.hid hbut
  have hwb : we ≤ 16777216 := by have := hwtL; rw [hwe]; omega
  have CDE := Lib.hid hcne
  have CDP := Lib.hid hcnp
  have hsub : (pl : Int) - (we : Int) = (oth : Int) := by omega
  have hpn0 : (0 : Int) < (pn : Int) := by have := hp; omega
  have HPLE := Lib.hid hple
  have hob : oth ≤ 16777216 := by omega
  clear hC hN hK hbx hw1 hlo hfit hw HG hb0 hs1 hb0c hb1c hb2c hoth hpl hwt hc2 hcnt hcne hcnp hc0 hws hXY hbut hwtL hpwL he hek hp hle hve hpn hwe hwes hel hvsz hple
  go_enter Try.func10, Try.ntmps10
  go_upto_region 1 with fail
  rw [← HW1.out, ← HB0.out]
  go_upto_region 3 with (first
    | (go_at_call 19; with_reducible refine (HG1.out).mono ?_; rintro r wx ⟨rfl, hwx⟩; rw [hwx]; clear hwx wx))
  obtain ⟨b1, hb1⟩ : ∃ x, x = w1.heap.size := ⟨_, rfl⟩
  obtain ⟨w2, hw2⟩ : ∃ x, x = (w1.alloc (.cells #[bp le] 60)).alloc (.cells #[.string k, .string v, .int .i64 0] 57) := ⟨_, rfl⟩
  have hbel2 : Below w1.heap.size w1 w2 := by rw [hw2]; exact ((Below.refl _ _).alloc (Nat.le_refl _) _).alloc (by simp) _
  have hbelw : Below w.heap.size w w2 := below_on HB1.out hbel2 HB1.out.size
  have hl0 : w2.cell? ⟨b1, 0, none⟩ = some (bp le) := by rw [hw2, hb1, World.cell?_alloc_lt _ _ _ (by simp)]; simp
  have hx2 : ∀ i, w2.cell? ⟨b1 + 1, i, none⟩ = (#[Value.string k, Value.string v, Value.int .i64 0] : Array Value)[i]? := fun i => by
    rw [hw2, hb1]
    simp
  have hd0 : w2.cell? ⟨b0, 0, none⟩ = some (bp cb) := (hbel2.cell (block_lt_of_cell d0)).trans d0
  have ht2 : Thaw w2 (b1 + 1) := ⟨#[.string k, .string v, .int .i64 0], 57, by rw [hw2]; exact heap_alloc_at _ _ _ (by simp [hb1])⟩
  have ht1 : Thaw w2 b1 := ⟨#[bp le], 60, by rw [hw2, hb1]; exact blk_alloc (heap_alloc_new w1 _)⟩
  have HBX : Hid (Bx w2 col κ b0 (b1 + 1) b1 cb k v 0 (bp le)) := Lib.hid ⟨hd0, hx2 0, hx2 1, hx2 2, hl0, ⟨(by rw [HCOL.out.1]; exact hκ.symm), (by rw [hb1, HCOL.out.2.2]; exact hκ.symm), (by rw [hb1, HCOL.out.2.1]; exact hκ.symm)⟩, ht2, ht1⟩
  have HCB := Lib.hid (HC.out.below hbelw)
  have HB01 : Hid (b0 < b1 ∧ col b0 ≠ κ ∧ col b1 ≠ κ ∧ col (b1 + 1) ≠ κ ∧ w.heap.size ≤ b1) := Lib.hid ⟨by rw [hb1]; exact HLTB.out, by rw [HCOL.out.1]; exact hκ.symm, by rw [hb1, HCOL.out.2.1]; exact hκ.symm, by rw [hb1, HCOL.out.2.2]; exact hκ.symm, by rw [hb1]; exact HB1.out.size⟩
  have HBW := Lib.hid hbelw
  rw [← hw2, ← hb1]
  clear d0 hw2 hb1 hbel2 hbelw hl0 hx2 hd0 HC HG1 HB1 ht1 ht2
  have e2 : w2.cell? ⟨cb, 2, none⟩ = some (.int .i64 (pl : Int)) := by rw [← HC2.out]; exact HCB.out.c 2 (by decide)
  have e0 := HBX.out.c
  have el := HBX.out.l
  have HE2 : Hid (EntAt w2 e) := Lib.hid (HCB.out.es e HEK.out.1)
  have ek : w2.cell? ⟨le, 0, none⟩ = some (.string k) := by rw [HE.out.1, ← HEK.out.2]; exact HE2.out.k
  have ev : w2.cell? ⟨le, 1, none⟩ = some (.string ve) := by rw [HE.out.1, HE.out.2.1]; exact HE2.out.v
  have ep : w2.cell? ⟨le, 2, none⟩ = some (.int .i64 (pn : Int)) := by rw [HE.out.1, HE.out.2.2.1]; exact HE2.out.p
  go_upto_region 6 with (first
    | (go_at_call 21; with_reducible refine (CDE.out _).mono ?_; rintro r wS ⟨rfl, hbS⟩; have HBS := Lib.hid hbS; clear hbS))
  have HCS := Lib.hid (HCB.out.below HBS.out)
  have HXS := Lib.hid (HBX.out.only (only_of_below' HBS.out))
  have HWS := Lib.hid (below_on HBW.out HBS.out HBW.out.size)
  clear hsub e2 e0 el ek ev ep HCB HBX HBW HE2 HBS
  have HRC : Hid (∀ w', RB w w' col κ cb ob mb b0 (b1 + 1) b1 c L k v 0 (bp le) → w'.cell? ⟨b0, 0, none⟩ = some (bp cb) ∧ w'.cell? ⟨cb, 0, none⟩ = some (.int .i64 (n : Int)) ∧ w'.cell? ⟨b1 + 1, 0, none⟩ = some (.string k) ∧ w'.cell? ⟨b1 + 1, 1, none⟩ = some (.string v) ∧ w'.cell? ⟨b1 + 1, 2, none⟩ = some (.int .i64 0) ∧ RB w w' col κ cb ob mb b0 (b1 + 1) b1 c L k v 0 (bp le)) := Lib.hid (fun w' h =>
    ⟨h.2.1.c, (by rw [← HC0.out]; exact h.1.c 0 (by decide)), h.2.1.x0, h.2.1.x1, h.2.1.x2, h⟩)
  have HRB : Hid (RB w wS.drew col κ cb ob mb b0 (b1 + 1) b1 c L k v 0 (bp le)) := Lib.hid ⟨HCS.out.drew, HXS.out.only (only_drew' (Only.refl _ _ _)), HWS.out.drew⟩
  have HS := Lib.hid (HRC.out _ HRB.out)
  have hgt : ¬ ((n : Int) - (oth : Int) < (wt : Int)) := by omega
  have hwr : IntKind.i64.wrap ((n : Int) - (oth : Int)) = (n : Int) - (oth : Int) := IntWalk.i64_in _ (by omega)
  go_region_held3 (fun w' => w'.cell? ⟨b0, 0, none⟩ = some (bp cb) ∧ w'.cell? ⟨cb, 0, none⟩ = some (.int .i64 (n : Int)) ∧ w'.cell? ⟨b1 + 1, 0, none⟩ = some (.string k) ∧ w'.cell? ⟨b1 + 1, 1, none⟩ = some (.string v) ∧ w'.cell? ⟨b1 + 1, 2, none⟩ = some (.int .i64 0) ∧ RB w w' col κ cb ob mb b0 (b1 + 1) b1 c L k v 0 (bp le)) (first | exact HS3.out | exact HS.out) (first
    | (go_at_call 21; with_reducible refine (CD.out _).mono ?_; rintro r w3 ⟨rfl, hb3⟩; have HB3 := Lib.hid (HRB.out.below hb3); have HS3 := Lib.hid (HRC.out w3 HB3.out); clear hb3))
  have HC3 := Lib.hid HB3.out.1
  have HX3 := Lib.hid HB3.out.2.1
  have HBW3 := Lib.hid HB3.out.2.2
  clear HCS HXS HWS HRB HS HS3 HB3 HRC hgt hwr
  have q0 := HX3.out.l
  have HE3 : Hid (EntAt w3 e) := Lib.hid (HC3.out.es e HEK.out.1)
  have q1 : w3.cell? ⟨le, 2, none⟩ = some (.int .i64 (pn : Int)) := by rw [HE.out.1, HE.out.2.2.1]; exact HE3.out.p
  have q2 := HX3.out.x2
  have q3 := HX3.out.tx.f 2
  go_upto_region 10 with fail
  obtain ⟨w4, hw4⟩ : ∃ x, x = w3.setCell ⟨b1 + 1, 2, none⟩ (.int .i64 (pn : Int)) := ⟨_, rfl⟩
  have HX4 : Hid (Bx w4 col κ b0 (b1 + 1) b1 cb k v pn (bp le)) := Lib.hid (by rw [hw4]; exact HX3.out.pins (by have := HB01.out.1; omega) (by omega) pn _ rfl)
  have HC4 : Hid (CB w4 col κ cb ob mb c L L) := Lib.hid (by rw [hw4]; exact HC3.out.far HB01.out.2.2.2.1 _)
  have HO4 : Hid (Only col (fun g => g = κ) w w4) := Lib.hid (by rw [hw4]; exact only_past (only_of_below' HBW3.out) (by have := HB01.out.2.2.2.2; omega) 2 _)
  rw [← hw4]
  clear hw4 q0 q1 q2 q3 HE3 HC3 HX3 HBW3
  obtain ⟨wl, hwl⟩ : ∃ x, x = wts L := ⟨_, rfl⟩
  obtain ⟨wb, hwb2⟩ : ∃ x, x = wts (but k L) := ⟨_, rfl⟩
  have hwlb : wl = we + wb := by rw [hwl, hwb2, HE.out.2.2.2]; exact HXY.out.1
  have hwln : wl ≤ 16777216 := by rw [hwl]; have := HW.out; omega
  have HWL : Hid (wl = wts L ∧ wb = wts (but k L)) := Lib.hid ⟨hwl, hwb2⟩
  have hsub : (wl : Int) - (we : Int) = (wb : Int) := by omega
  have hwrp : IntKind.i64.wrap (wb : Int) = (wb : Int) := IntWalk.i64_in _ (by omega)
  have HCELL : Hid (∀ w', CB w' col κ cb ob mb c L L → Bx w' col κ b0 (b1 + 1) b1 cb k v pn (bp le) → w'.cell? ⟨b0, 0, none⟩ = some (bp cb) ∧ w'.cell? ⟨cb, 1, none⟩ = some (.int .i64 (wl : Int)) ∧ w'.cell? ⟨b1, 0, none⟩ = some (bp le) ∧ w'.cell? ⟨le, 0, none⟩ = some (.string k) ∧ w'.cell? ⟨le, 1, none⟩ = some (.string ve) ∧ w'.cell? ⟨le, 2, none⟩ = some (.int .i64 (pn : Int)) ∧ w'.frozen? ⟨cb, 1, none⟩ = false) := Lib.hid (fun w' hC hX => by
    have hE := hC.es e HEK.out.1
    refine ⟨hX.c, ?_, hX.l, ?_, ?_, ?_, hC.ct.f 1⟩
    · rw [HWL.out.1, ← HN.out.b]; exact hC.c 1 (by decide)
    · rw [HE.out.1, ← HEK.out.2]; exact hE.k
    · rw [HE.out.1, HE.out.2.1]; exact hE.v
    · rw [HE.out.1, HE.out.2.2.1]; exact hE.p)
  clear hwl hwb2 hwlb
  go_cut [10] from 58 to 70 (fun q wx => q = .int .i64 (oth : Int) ∧ Hid (CB wx col κ cb ob mb (put1 c 1 wb) L L ∧ Bx wx col κ b0 (b1 + 1) b1 cb k v pn (bp le) ∧ Only col (fun g => g = κ) w wx))
  case first =>
    obtain ⟨f0, f1, f2, f3, f4, f5, f6⟩ := HCELL.out w4 HC4.out HX4.out
    have HB3 : Hid (∀ w3, Below w4.drew.heap.size w4.drew w3 → CB w3 col κ cb ob mb c L L ∧ Bx w3 col κ b0 (b1 + 1) b1 cb k v pn (bp le) ∧ Only col (fun g => g = κ) w w3) := Lib.hid (fun w3 hb3 =>
      ⟨HC4.out.drew.below hb3, HX4.out.only ((only_drew' (Only.refl _ _ _)).trans' (only_of_below' hb3)), (only_drew' HO4.out).trans' (only_of_below' hb3)⟩)
    go_region_law (first
      | (go_simp; go_at_call 21; with_reducible refine (CDE.out _).mono ?_; rintro r w3 ⟨rfl, hb3⟩; obtain ⟨hC3, hX3, hO3⟩ := HB3.out _ hb3; obtain ⟨g0, g1, g2, g3, g4, g5, g6⟩ := HCELL.out _ hC3 hX3; have HC3 := Lib.hid hC3; have HX3 := Lib.hid hX3; have HO3 := Lib.hid hO3; clear hC3 hX3 hO3 hb3)
      | fail)
    all_goals
      have hC5 := HC3.out.num (j := 1) (by decide) wb
      have hO5 : Only col (fun g => g = κ) w (w3.setCell ⟨cb, 1, none⟩ (.int .i64 (wb : Int))) := HO3.out.trans' (only_setCell' (p := ⟨cb, 1, none⟩) HC3.out.cc.1 _)
      have hX5 : Bx (w3.setCell ⟨cb, 1, none⟩ (.int .i64 (wb : Int))) col κ b0 (b1 + 1) b1 cb k v pn (bp le) := HX3.out.only (only_setCell' (p := ⟨cb, 1, none⟩) HC3.out.cc.1 _)
      have HF5 := Lib.hid hC5
      have HO5 := Lib.hid hO5
      have HX5 := Lib.hid hX5
      clear hC5 hO5 hX5
      go_wp2_with fail
      go_meet
      exact ⟨rfl, Lib.hid ⟨HF5.out, HX5.out, HO5.out⟩⟩
  case rest =>
  obtain ⟨hq10, h5⟩ := hcut
  subst hq10
  obtain ⟨hC5, hX5, hO5⟩ := h5.out
  have HC5 := Lib.hid hC5
  have HX5 := Lib.hid hX5
  have HO5 := Lib.hid hO5
  have e8 := hC5.c8
  have e0 := hX5.c
  obtain ⟨w5, hw5⟩ : ∃ x, x = wc := ⟨_, rfl⟩
  rw [← hw5] at HC5 HX5 HO5 e8 e0 ⊢
  obtain ⟨c1, hc1⟩ : ∃ x, x = put1 c 1 wb := ⟨_, rfl⟩
  rw [← hc1] at HC5
  have HC1E := Lib.hid hc1
  have hc10 : c1 0 = n := by rw [hc1, put1_ne (by decide)]; exact HC0.out
  have HC10 := Lib.hid hc10
  have CR := Lib.hid (rising_any HC5.out HX5.out HK.out.nk (by omega) (by omega) HK.out.sz (by rw [hc1, put1_at]; exact HWL.out.2) (by rw [hc1, put1_ne (by decide)]; exact HN.out.k) (by have := HW.out; omega) (by omega) (by rw [hc1, put1_ne (by decide), HN.out.o]; omega) (fun x hx hk => by rw [key_same HK.out.nk hx HEK.out.1 (hk.trans HEK.out.2.symm), HE.out.1]) (.inr ⟨e, HEK.out.1, HEK.out.2, by rw [HE.out.1]⟩))
  rw [hc10] at CR
  clear hC5 hX5 hO5 h5 hw5 hc1 hc10 HC4 HX4 HO4 HCELL hsub hwrp hwln
  go_upto_region 12 with (first
    | (go_at_call 22; with_reducible refine (CR.out).mono ?_; rintro r w6 ⟨rfl, hC6, hO6⟩; have HC6 := Lib.hid hC6; have HO6 := Lib.hid hO6; clear hC6 hO6))
  obtain ⟨R, hR⟩ : ∃ R, R = rest n (k.size + v.size) k L := ⟨_, rfl⟩
  have hC6 := HC6.out
  rw [← hR] at hC6
  have hsl : R.Sublist L := by rw [hR]; exact rest_sub _ _ _ _
  have heR : e ∈ R := by rw [hR]; exact rest_mem (.inr HEK.out.2) HEK.out.1
  have hnkR : (R.map Ent.key).Nodup := HK.out.nk.sublist (hsl.map _)
  obtain ⟨X', Y', hXY', hbR⟩ := ask_hit hnkR heR HEK.out.2
  have HRR : Hid (R = rest n (k.size + v.size) k L ∧ R = X' ++ e :: Y' ∧ but k R = X' ++ Y' ∧ R.Sublist L ∧ (R.map Ent.key).Nodup) := Lib.hid ⟨hR, hXY', hbR, hsl, hnkR⟩
  have hC6' : CB w6 col κ cb ob mb (numC c1 k L R) (X' ++ e :: Y') R := by rw [← hXY']; exact hC6
  have CT : Hid (Calls Try.prog 25 #[bp ob, bp le] w6.drew fun r w' => r = .returned (.tuple #[]) ∧ CB w' col κ cb ob mb (numC c1 k L R) (X' ++ Y') R ∧ EntAt w' e ∧ e.blk ∉ ob :: blks (X' ++ Y') ∧ Only col (fun k => k = κ) w6.drew w') := Lib.hid (by rw [HE.out.1]; exact take_any hC6'.drew)
  have HX6 := Lib.hid (HX5.out.only HO6.out)
  have HO6' := Lib.hid (HO5.out.trans' HO6.out)
  have HCC : Hid (col e.blk = κ ∧ e.blk ≠ cb) := Lib.hid ⟨hC6'.cc.2.2.2 e (by simp), fun e' => hC6'.nc (by rw [← e']; simp [blks])⟩
  have e8 := hC6.c8
  have e0 := HX6.out.c
  have el := HX6.out.l
  clear hC6 hR hsl heR hnkR hXY' hbR hC6' HC5 HX5 HO5 HC6 HO6 CR
  go_upto_region 13 with fail
  go_still_tail 5, (by kernel_rfl)
  change wpList _ _ _ _ _ w6.drew
  go_upto_region 17 with (first
    | (go_at_call 25; with_reducible refine (CT.out).mono ?_; rintro r w7 ⟨rfl, hC7, hE7, hn7, hO7⟩; have HC7 := Lib.hid hC7; have HE7 := Lib.hid hE7; have HN7 := Lib.hid hn7; have HO7 := Lib.hid hO7; clear hC7 hE7 hn7 hO7 CT))
  have HX7 := Lib.hid (HX6.out.only ((only_drew' (Only.refl _ _ _)).trans' HO7.out))
  have HOW7 := Lib.hid ((only_drew' HO6'.out).trans' HO7.out)
  have z1 := HX7.out.l
  have z2 := HX7.out.x0
  have z3 := HX7.out.x1
  have z4 : w7.cell? ⟨b1 + 1, 2, none⟩ = some (.int .i64 (pn : Int)) := by exact HX7.out.x2
  have z5 : w7.cell? ⟨le, 0, none⟩ = some (.string k) := by rw [HE.out.1, ← HEK.out.2]; exact HE7.out.k
  have z6 : w7.cell? ⟨le, 1, none⟩ = some (.string ve) := by rw [HE.out.1, HE.out.2.1]; exact HE7.out.v
  have z7 : w7.cell? ⟨le, 2, none⟩ = some (.int .i64 (pn : Int)) := by rw [HE.out.1, HE.out.2.2.1]; exact HE7.out.p
  have z8 : ∀ i, w7.frozen? ⟨le, i, none⟩ = false := by rw [HE.out.1]; exact HE7.out.t.f
  clear e8 e0 el
  go_upto_region 18 with fail
  obtain ⟨wA, hwA⟩ : ∃ x, x = ((w7.setCell ⟨le, 0, none⟩ (.string k)).setCell ⟨le, 1, none⟩ (.string v)).setCell ⟨le, 2, none⟩ (.int .i64 (pn : Int)) := ⟨_, rfl⟩
  have hm9 : le ≠ mb := not_map HC7.out.mp z5
  have hcc1 : le ≠ cb := by rw [HE.out.1]; exact HCC.out.2
  have hcc2 : le ∉ ob :: blks (X' ++ Y') := by rw [HE.out.1]; exact HN7.out
  have hcc3 : col le = κ := by rw [HE.out.1]; exact HCC.out.1
  have hCA : CB wA col κ cb ob mb (numC c1 k L R) (X' ++ Y') R := by
    rw [hwA]
    exact ((HC7.out.apart hcc1 hcc2 hm9 _ _).apart hcc1 hcc2 hm9 _ _).apart hcc1 hcc2 hm9 _ _
  have hEA : EntAt wA ⟨le, k, v, pn⟩ := by
    rw [hwA, HE.out.1]
    exact HE7.out.write k v pn _ rfl
  have hOA : Only col (fun g => g = κ) w7 wA := by
    rw [hwA]
    exact ((only_setCell' (p := ⟨le, 0, none⟩) hcc3 _).trans' (only_setCell' (p := ⟨le, 1, none⟩) hcc3 _)).trans' (only_setCell' (p := ⟨le, 2, none⟩) hcc3 _)
  have hXA : Bx wA col κ b0 (b1 + 1) b1 cb k v pn (bp le) := HX7.out.only hOA
  rw [← hwA]
  have hCA' := hCA.map (hCA.mp.turn (L' := ⟨le, k, v, pn⟩ :: (X' ++ Y')) (by rw [HRR.out.2.1]; simp; omega) (fun x hx => by
    rw [HRR.out.2.1]
    rcases List.mem_cons.mp hx with rfl | hx
    · exact ⟨e, by simp, HEK.out.2, HE.out.1.symm⟩
    · exact ⟨x, mid_has.mp (List.mem_cons_of_mem _ hx), rfl, rfl⟩) (fun x hx => by
    rw [HRR.out.2.1] at hx
    rcases List.mem_cons.mp (mid_has.mpr hx) with rfl | hx
    · exact ⟨_, List.mem_cons_self .., HEK.out.2.symm⟩
    · exact ⟨x, List.mem_cons_of_mem _ hx, rfl⟩))
  have CF : Hid (Calls Try.prog 26 #[bp ob, bp le] wA.drew fun r w' => r = .returned (.tuple #[]) ∧ CB w' col κ cb ob mb (numC c1 k L R) (⟨le, k, v, pn⟩ :: (X' ++ Y')) (⟨le, k, v, pn⟩ :: (X' ++ Y')) ∧ Only col (fun g => g = κ) wA.drew w') :=
    Lib.hid (first_any hCA'.drew hEA.drew hcc3 hcc2 hcc1)
  have y0 := hXA.c
  have y1 := hXA.l
  have y8 := hCA.c8
  have HXA := Lib.hid hXA
  have HOA := Lib.hid (HOW7.out.trans' hOA)
  clear z1 z2 z3 z4 z5 z6 z7 z8 hm9 hCA hEA hOA hXA hwA hCA' hcc1 hcc2 hcc3 HX7 HC7 HE7 HN7 HO7 HOW7 HX6 HO6'
  go_still_tail 5, (by kernel_rfl)
  change wpList _ _ _ _ _ wA.drew
  go_upto_region 19 with (first
    | (go_at_call 26; with_reducible refine (CF.out).mono ?_; rintro r wB ⟨rfl, hCB, hOB⟩; have HCB := Lib.hid hCB; have HOB := Lib.hid hOB; clear hCB hOB))
  have HOC := Lib.hid ((only_drew' HOA.out).trans' HOB.out)
  have HXC := Lib.hid (HXA.out.only ((only_drew' (Only.refl _ _ _)).trans' HOB.out))
  obtain ⟨c2, hc2⟩ : ∃ x, x = numC c1 k L R := ⟨_, rfl⟩
  obtain ⟨x1, hx1⟩ : ∃ x, x = c2 1 := ⟨_, rfl⟩
  have hx1e : x1 = wts (X' ++ Y') := by
    rw [hx1, hc2, numC_1, HRR.out.2.2.1]
  have hxb : x1 ≤ 16777216 := by
    have h1 := wts_sub HRR.out.2.2.2.1
    have h2 := wts_but_le k R
    rw [HRR.out.2.2.1] at h2
    have := HW.out
    omega
  have hCC := HCB.out
  rw [← hc2] at hCC
  have HCC2 := Lib.hid hCC
  have HE1 : Hid (c2 1 = x1) := Lib.hid hx1.symm
  have hw1 : IntKind.i64.wrap ((x1 : Int) + (wt : Int)) = (x1 : Int) + (wt : Int) := IntWalk.i64_in _ (by omega)
  have HCELL : Hid (∀ w3 c3, CB w3 col κ cb ob mb c3 (⟨le, k, v, pn⟩ :: (X' ++ Y')) (⟨le, k, v, pn⟩ :: (X' ++ Y')) → Bx w3 col κ b0 (b1 + 1) b1 cb k v pn (bp le) → w3.cell? ⟨b0, 0, none⟩ = some (bp cb) ∧ w3.cell? ⟨cb, 1, none⟩ = some (.int .i64 (c3 1 : Int)) ∧ w3.cell? ⟨b1 + 1, 0, none⟩ = some (.string k) ∧ w3.cell? ⟨b1 + 1, 1, none⟩ = some (.string v) ∧ w3.cell? ⟨b1 + 1, 2, none⟩ = some (.int .i64 (pn : Int)) ∧ w3.frozen? ⟨cb, 1, none⟩ = false ∧ w3.frozen? ⟨cb, 2, none⟩ = false ∧ w3.cell? ⟨cb, 2, none⟩ = some (.int .i64 (c3 2 : Int))) := Lib.hid (fun w3 c3 hC3 hX3 =>
    ⟨hX3.c, hC3.c 1 (by decide), hX3.x0, hX3.x1, (by exact hX3.x2), hC3.ct.f 1, hC3.ct.f 2, hC3.c 2 (by decide)⟩)
  have HX1 := Lib.hid hx1e
  have HC2E := Lib.hid hc2
  have HFIN : Hid (∀ w', CB w' col κ cb ob mb (put1 (put1 c2 1 (x1 + wt)) 2 (oth + wt)) (⟨le, k, v, pn⟩ :: (X' ++ Y')) (⟨le, k, v, pn⟩ :: (X' ++ Y')) → Only col (fun g => g = κ) w w' → PutPost w w' col κ cb n f m o k v L) := Lib.hid (fun w' hC hO => by
    obtain ⟨r1, r2, r3, r4, r5⟩ := HRR.out
    have hpo : pinsOf k L = pn := by rw [pinsOf_in HK.out.nk HEK.out.1 HEK.out.2, HE.out.2.2.1]
    have hput : lput n le k v L = ⟨le, k, v, pn⟩ :: (X' ++ Y') := by
      unfold lput
      rw [hpo, ← r1, r3]
    have hpr : pinw (X' ++ Y') = oth := by rw [← r3, HOTH.out, r1]; exact rest_pinw _ _ _ _
    have hc1 := HC1E.out
    refine ⟨le, col, turn_only hO, ?_⟩
    refine ⟨ob, mb, _, by rw [hput]; exact hC, ⟨?_, ?_, ?_, ?_, ?_, ?_, ?_⟩, ?_⟩
    · rw [put1_ne (by decide)]; rw [put1_ne (by decide), hc2, numC_o _ _ _ _ (by decide) (by decide) (by decide)]; exact HC10.out
    · rw [put1_ne (by decide)]; rw [put1_at, hput, wts_cons, hx1e, HWT.out]; show _ = k.size + v.size + _; omega
    · rw [put1_at, hput, pinw_cons, if_pos (show 0 < pn by omega), hpr, HWT.out]; show _ = k.size + v.size + _; omega
    · rw [put1_ne (by decide)]; rw [put1_ne (by decide), hc2, numC_o _ _ _ _ (by decide) (by decide) (by decide), hc1, put1_ne (by decide)]; exact HN.out.f
    · rw [put1_ne (by decide)]; rw [put1_ne (by decide), hc2, numC_o _ _ _ _ (by decide) (by decide) (by decide), hc1, put1_ne (by decide)]; exact HN.out.m
    · rw [put1_ne (by decide)]; rw [put1_ne (by decide), hc2, numC_5, hc1, put1_ne (by decide), HN.out.o, ← r1]
    · rw [put1_ne (by decide)]; rw [put1_ne (by decide), hc2, numC_6, hput, r2]; simp; omega
    · rw [hput]
      have hkd : Keyd (e :: (X' ++ Y')) := Keyd.mid ⟨by rw [← r2]; exact r5, fun x hx => HK.out.sz x (r4.subset (by rw [r2]; exact hx))⟩
      refine ⟨?_, fun x hx => ?_⟩
      · have := hkd.nk
        rw [List.map_cons, HEK.out.2] at this
        exact this
      · rcases List.mem_cons.mp hx with rfl | hx
        · exact ⟨by show k.size ≤ _; omega, by show v.size ≤ _; omega⟩
        · exact hkd.sz x (List.mem_cons_of_mem _ hx))
  have HBC : Hid (∀ w0 w3 c3, Below w0.drew.heap.size w0.drew w3 → CB w0 col κ cb ob mb c3 (⟨le, k, v, pn⟩ :: (X' ++ Y')) (⟨le, k, v, pn⟩ :: (X' ++ Y')) → Bx w0 col κ b0 (b1 + 1) b1 cb k v pn (bp le) → Only col (fun g => g = κ) w w0 → CB w3 col κ cb ob mb c3 (⟨le, k, v, pn⟩ :: (X' ++ Y')) (⟨le, k, v, pn⟩ :: (X' ++ Y')) ∧ Bx w3 col κ b0 (b1 + 1) b1 cb k v pn (bp le) ∧ Only col (fun g => g = κ) w w3) := Lib.hid (fun w0 w3 c3 hb hC hX hO =>
    ⟨hC.drew.below hb, hX.only ((only_drew' (Only.refl _ _ _)).trans' (only_of_below' hb)), (only_drew' hO).trans' (only_of_below' hb)⟩)
  clear hCC hx1 hx1e hc2 HCB HOB HOA HXA CF y0 y1 y8 HRR HC1E HC10 HC2E HX1 HCC
  obtain ⟨e0, e1, e3, e4, e5, e6, e7, e8⟩ := HCELL.out wB c2 HCC2.out HXC.out
  rw [HE1.out] at e1
  go_region_law (first
    | (go_simp; go_at_call 21; with_reducible refine (CDP.out _).mono ?_; rintro r w3 ⟨rfl, hb3⟩; obtain ⟨hC3, hX3, hO3⟩ := HBC.out wB _ c2 hb3 HCC2.out HXC.out HOC.out; obtain ⟨g0, g1, g2, g3, g4, g5, g6, g7⟩ := HCELL.out _ c2 hC3 hX3; rw [HE1.out] at g1; have HC3 := Lib.hid hC3; have HX3 := Lib.hid hX3; have HO3 := Lib.hid hO3; clear hC3 hX3 hO3 hb3)
    | fail)
  all_goals (
    have hC4 := HC3.out.num (j := 1) (by decide) (x1 + wt)
    rw [show ((x1 + wt : Nat) : Int) = (x1 : Int) + (wt : Int) by omega] at hC4
    have hOs : Only col (fun g => g = κ) w3 (w3.setCell ⟨cb, 1, none⟩ (.int .i64 ((x1 : Int) + (wt : Int)))) := only_setCell' (p := ⟨cb, 1, none⟩) HC3.out.cc.1 _
    have hO4 := HO3.out.trans' hOs
    have hX4 := HX3.out.only hOs
    have HC4 := Lib.hid hC4
    have HX4 := Lib.hid hX4
    have HO4 := Lib.hid hO4
    clear hC4 hX4 hO4 hOs e0 e1 e3 e4 e5 e6 e7 e8 g0 g1 g2 g3 g4 g5 g6 g7 hw1
    generalize w3.setCell ⟨cb, 1, none⟩ (.int .i64 ((x1 : Int) + (wt : Int))) = w4 at *
    have q2 : w4.cell? ⟨b1 + 1, 2, none⟩ = some (.int .i64 (pn : Int)) := by exact HX4.out.x2
    have hw2 : IntKind.i64.wrap ((oth : Int) + (wt : Int)) = (oth : Int) + (wt : Int) := IntWalk.i64_in _ (by omega)
    obtain ⟨e0, e1, e3, e4, e5, e6, e7, e8⟩ := HCELL.out w4 _ HC4.out HX4.out
    clear e1 q2
    have q2 := e5
    go_upto_region 21 with fail
    go_region_law (first
      | (go_simp; go_at_call 21; with_reducible refine (CDP.out _).mono ?_; rintro r w5 ⟨rfl, hb3⟩; obtain ⟨hC5, hX5, hO5⟩ := HBC.out w4 _ _ hb3 HC4.out HX4.out HO4.out; obtain ⟨g0, g1, g2, g3, g4, g5, g6, g7⟩ := HCELL.out _ _ hC5 hX5; clear g1; have HC5 := Lib.hid hC5; have HX5 := Lib.hid hX5; have HO5 := Lib.hid hO5; clear hC5 hX5 hO5 hb3)
      | fail)
    all_goals (
      have hC6 := HC5.out.num (j := 2) (by decide) (oth + wt)
      rw [show ((oth + wt : Nat) : Int) = (oth : Int) + (wt : Int) by omega] at hC6
      have hO6 := HO5.out.trans' (only_setCell' (p := ⟨cb, 2, none⟩) HC5.out.cc.1 (.int .i64 ((oth : Int) + (wt : Int))))
      have HF := Lib.hid (HFIN.out _ hC6 hO6)
      clear hC6 hO6
      go_wp2
      go_ret
      exact ⟨rfl, HF.out⟩))
end Go.Proofs.Ythaccjjkbbkehaa
