/- What is put out, one by one: the closure of Put. -/
import Derived.Test.YthaccjjkbbkehaaCa6
import Derived.Deep.RegionHeld3
namespace Go.Proofs.Ythaccjjkbbkehaa
open Go.RowKit Go.Scr Go.Maps
set_option linter.unusedVariables false

/-- what the closure has captured: the cache, the new thing, the place of its key -/
structure Bx (w : World) (col : Nat → Nat) (κ bc bx bl cb : Nat) (k v : ByteArray) (p : Nat) (lv : Value) : Prop where
  c : w.cell? ⟨bc, 0, none⟩ = some (bp cb)
  x0 : w.cell? ⟨bx, 0, none⟩ = some (.string k)
  x1 : w.cell? ⟨bx, 1, none⟩ = some (.string v)
  x2 : w.cell? ⟨bx, 2, none⟩ = some (.int .i64 (p : Int))
  l : w.cell? ⟨bl, 0, none⟩ = some lv
  nc : col bc ≠ κ ∧ col bx ≠ κ ∧ col bl ≠ κ
  tx : Thaw w bx
  tl : Thaw w bl
theorem only_cell {col : Nat → Nat} {κ : Nat} {w w' : World} (h : Only col (fun k => k = κ) w w') {b i : Nat} {v : Value} (hb : w.cell? ⟨b, i, none⟩ = some v) (hc : col b ≠ κ) : w'.cell? ⟨b, i, none⟩ = some v :=
  (cell_at (h.block b (block_lt_of_cell hb) hc) i).trans hb
theorem Bx.only {w w' : World} {col : Nat → Nat} {κ bc bx bl cb : Nat} {k v : ByteArray} {p : Nat} {lv : Value} (h : Bx w col κ bc bx bl cb k v p lv) (ho : Only col (fun k => k = κ) w w') : Bx w' col κ bc bx bl cb k v p lv :=
  ⟨only_cell ho h.c h.nc.1, only_cell ho h.x0 h.nc.2.1, only_cell ho h.x1 h.nc.2.1, only_cell ho h.x2 h.nc.2.1, only_cell ho h.l h.nc.2.2, h.nc, h.tx.at (ho.block _ (block_lt_of_cell h.x0) h.nc.2.1), h.tl.at (ho.block _ (block_lt_of_cell h.l) h.nc.2.2)⟩
def outC (c : Nat → Nat) (e : Ent) : Nat → Nat := put1 (goneC c e) 5 (c 5 + 1)

set_option maxRecDepth 100000 in
set_option maxHeartbeats 1000000 in
/-- there is room: no more -/
theorem one_stop {w : World} {col : Nat → Nat} {κ cb ob mb bc bx bl : Nat} {c : Nat → Nat} {L M : List Ent} {e : Ent} {k v : ByteArray} {p : Nat} {lv : Value} (h : CB w col κ cb ob mb c L M) (hx : Bx w col κ bc bx bl cb k v p lv)
    (hks : k.size ≤ 140737488355328) (hvs : v.size ≤ 140737488355328) (h1 : c 1 ≤ 4611686018427387904) (hle : c 1 + (k.size + v.size) ≤ c 0) :
    Calls Try.prog 23 #[bp e.blk, bp bc, bp bx, bp bl] w fun r w' => r = .returned (.bool false) ∧ Below w.heap.size w w' := by
  obtain ⟨n0, hn0⟩ : ∃ x, x = c 0 := ⟨_, rfl⟩
  obtain ⟨n1, hn1⟩ : ∃ x, x = c 1 := ⟨_, rfl⟩
  obtain ⟨wt, hwt⟩ : ∃ x, x = k.size + v.size := ⟨_, rfl⟩
  have hcc := fun w => counts_any k v p w hks hvs
  rw [← hwt] at hcc hle
  rw [← hn1] at h1 hle
  rw [← hn0] at hle
  have CD := Lib.hid hcc
  have hlt : (n1 : Int) + (wt : Int) ≤ (n0 : Int) := by omega
  have hwr : IntKind.i64.wrap ((n1 : Int) + (wt : Int)) = (n1 : Int) + (wt : Int) := IntWalk.i64_in _ (by omega)
  have e0 : w.drew.cell? ⟨cb, 0, none⟩ = some (.int .i64 (n0 : Int)) := by rw [hn0]; exact h.drew.c 0 (by decide)
  have e1 : w.drew.cell? ⟨cb, 1, none⟩ = some (.int .i64 (n1 : Int)) := by rw [hn1]; exact h.drew.c 1 (by decide)
  have HS : Hid (w.drew.cell? ⟨bc, 0, none⟩ = some (bp cb) ∧ w.drew.cell? ⟨cb, 0, none⟩ = some (.int .i64 (n0 : Int)) ∧ w.drew.cell? ⟨cb, 1, none⟩ = some (.int .i64 (n1 : Int)) ∧ w.drew.cell? ⟨bx, 0, none⟩ = some (.string k) ∧ w.drew.cell? ⟨bx, 1, none⟩ = some (.string v) ∧ w.drew.cell? ⟨bx, 2, none⟩ = some (.int .i64 (p : Int)) ∧ Below w.heap.size w w.drew) :=
    Lib.hid ⟨hx.c, e0, e1, hx.x0, hx.x1, hx.x2, (Below.refl _ _).drew⟩
  have HT : Hid (∀ w3, Below w.drew.heap.size w.drew w3 → w3.cell? ⟨bc, 0, none⟩ = some (bp cb) ∧ w3.cell? ⟨cb, 0, none⟩ = some (.int .i64 (n0 : Int)) ∧ w3.cell? ⟨cb, 1, none⟩ = some (.int .i64 (n1 : Int)) ∧ w3.cell? ⟨bx, 0, none⟩ = some (.string k) ∧ w3.cell? ⟨bx, 1, none⟩ = some (.string v) ∧ w3.cell? ⟨bx, 2, none⟩ = some (.int .i64 (p : Int)) ∧ Below w.heap.size w w3) := Lib.hid (fun w3 hb => by
    obtain ⟨a0, a1, a2, a3, a4, a5, a6⟩ := HS.out
    have up : ∀ {b i : Nat} {u : Value}, w.drew.cell? ⟨b, i, none⟩ = some u → w3.cell? ⟨b, i, none⟩ = some u := fun ha => (hb.cell (block_lt_of_cell ha)).trans ha
    exact ⟨up a0, up a1, up a2, up a3, up a4, up a5, below_on a6 hb a6.size⟩)
  clear h hx hn0 hn1 hwt hcc hle e0 e1 hks hvs
  go_enter Try.func23, Try.ntmps23
  go_upto_region 1 with fail
  go_region_held3 (fun w' => w'.cell? ⟨bc, 0, none⟩ = some (bp cb) ∧ w'.cell? ⟨cb, 0, none⟩ = some (.int .i64 (n0 : Int)) ∧ w'.cell? ⟨cb, 1, none⟩ = some (.int .i64 (n1 : Int)) ∧ w'.cell? ⟨bx, 0, none⟩ = some (.string k) ∧ w'.cell? ⟨bx, 1, none⟩ = some (.string v) ∧ w'.cell? ⟨bx, 2, none⟩ = some (.int .i64 (p : Int)) ∧ Below w.heap.size w w') (first | exact HS3.out | exact HS.out) (first
    | (go_at_call 21; with_reducible refine (CD.out _).mono ?_; rintro r w3 ⟨rfl, hb3⟩; have HS3 := Lib.hid (HT.out w3 hb3); clear hb3))
  go_wp2
  go_ret
  exact ⟨rfl, HS3.out.2.2.2.2.2.2⟩

def RB (w w' : World) (col : Nat → Nat) (κ cb ob mb bc bx bl : Nat) (c : Nat → Nat) (L : List Ent) (k v : ByteArray) (p : Nat) (lv : Value) : Prop :=
  CB w' col κ cb ob mb c L L ∧ Bx w' col κ bc bx bl cb k v p lv ∧ Below w.heap.size w w'
theorem RB.below {w w1 w2 : World} {col : Nat → Nat} {κ cb ob mb bc bx bl : Nat} {c : Nat → Nat} {L : List Ent} {k v : ByteArray} {p : Nat} {lv : Value} (h : RB w w1 col κ cb ob mb bc bx bl c L k v p lv) (hb : Below w1.heap.size w1 w2) : RB w w2 col κ cb ob mb bc bx bl c L k v p lv :=
  ⟨h.1.below hb, h.2.1.only (only_of_below' hb), below_on h.2.2 hb h.2.2.size⟩

set_option maxRecDepth 100000 in
set_option maxHeartbeats 1000000 in
/-- it is pinned: it stays -/
theorem one_keepP {w : World} {col : Nat → Nat} {κ cb ob mb bc bx bl : Nat} {c : Nat → Nat} {X Y : List Ent} {e : Ent} {k v : ByteArray} {p : Nat} {lv : Value} (h : CB w col κ cb ob mb c (X ++ e :: Y) (X ++ e :: Y)) (hx : Bx w col κ bc bx bl cb k v p lv)
    (hks : k.size ≤ 140737488355328) (hvs : v.size ≤ 140737488355328) (h1 : c 1 ≤ 4611686018427387904) (hle : ¬ c 1 + (k.size + v.size) ≤ c 0) (hp : e.pins ≠ 0) :
    Calls Try.prog 23 #[bp e.blk, bp bc, bp bx, bp bl] w fun r w' => r = .returned (.bool true) ∧ Below w.heap.size w w' := by
  have HRB : Hid (RB w w.drew col κ cb ob mb bc bx bl c (X ++ e :: Y) k v p lv) := Lib.hid ⟨h.drew, hx.only (only_drew' (Only.refl _ _ _)), (Below.refl _ _).drew⟩
  obtain ⟨pn, hpn⟩ : ∃ x, x = e.pins := ⟨_, rfl⟩
  have hp0 : ¬ (pn : Int) = 0 := by rw [hpn]; omega
  have hp1 : ((pn : Int) == 0) = false := by simp only [beq_eq_false_iff_ne]; exact hp0
  clear hp
  obtain ⟨n0, hn0⟩ : ∃ x, x = c 0 := ⟨_, rfl⟩
  obtain ⟨n1, hn1⟩ : ∃ x, x = c 1 := ⟨_, rfl⟩
  obtain ⟨wt, hwt⟩ : ∃ x, x = k.size + v.size := ⟨_, rfl⟩
  have hcc := fun w => counts_any k v p w hks hvs
  rw [← hwt] at hcc hle
  rw [← hn1] at h1 hle
  rw [← hn0] at hle
  have CD := Lib.hid hcc
  have hlt : ¬ ((n1 : Int) + (wt : Int) ≤ (n0 : Int)) := by omega
  have hwr : IntKind.i64.wrap ((n1 : Int) + (wt : Int)) = (n1 : Int) + (wt : Int) := IntWalk.i64_in _ (by omega)
  have HRC : Hid (∀ w', RB w w' col κ cb ob mb bc bx bl c (X ++ e :: Y) k v p lv → w'.cell? ⟨bc, 0, none⟩ = some (bp cb) ∧ w'.cell? ⟨cb, 0, none⟩ = some (.int .i64 (n0 : Int)) ∧ w'.cell? ⟨cb, 1, none⟩ = some (.int .i64 (n1 : Int)) ∧ w'.cell? ⟨bx, 0, none⟩ = some (.string k) ∧ w'.cell? ⟨bx, 1, none⟩ = some (.string v) ∧ w'.cell? ⟨bx, 2, none⟩ = some (.int .i64 (p : Int)) ∧ RB w w' col κ cb ob mb bc bx bl c (X ++ e :: Y) k v p lv) := Lib.hid (fun w' h =>
    ⟨h.2.1.c, (by rw [hn0]; exact h.1.c 0 (by decide)), (by rw [hn1]; exact h.1.c 1 (by decide)), h.2.1.x0, h.2.1.x1, h.2.1.x2, h⟩)
  have HS := Lib.hid (HRC.out _ HRB.out)
  have HEP : Hid (∀ w', RB w w' col κ cb ob mb bc bx bl c (X ++ e :: Y) k v p lv → w'.cell? ⟨e.blk, 2, none⟩ = some (.int .i64 (pn : Int)) ∧ w'.cell? ⟨bl, 0, none⟩ = some lv) := Lib.hid (fun w' h => ⟨by rw [hpn]; exact (h.1.es e (by simp)).p, h.2.1.l⟩)
  clear h hx hn0 hn1 hwt hcc hle hks hvs hpn
  go_enter Try.func23, Try.ntmps23
  go_upto_region 1 with fail
  go_region_held3 (fun w' => w'.cell? ⟨bc, 0, none⟩ = some (bp cb) ∧ w'.cell? ⟨cb, 0, none⟩ = some (.int .i64 (n0 : Int)) ∧ w'.cell? ⟨cb, 1, none⟩ = some (.int .i64 (n1 : Int)) ∧ w'.cell? ⟨bx, 0, none⟩ = some (.string k) ∧ w'.cell? ⟨bx, 1, none⟩ = some (.string v) ∧ w'.cell? ⟨bx, 2, none⟩ = some (.int .i64 (p : Int)) ∧ RB w w' col κ cb ob mb bc bx bl c (X ++ e :: Y) k v p lv) (first | exact HS3.out | exact HS.out) (first
    | (go_at_call 21; with_reducible refine (CD.out _).mono ?_; rintro r w3 ⟨rfl, hb3⟩; have HB3 := Lib.hid (HRB.out.below hb3); have HS3 := Lib.hid (HRC.out w3 HB3.out); clear hb3))
  obtain ⟨k1, k2⟩ := HEP.out _ HB3.out
  go_wp2
  go_ret
  exact ⟨rfl, HB3.out.2.2⟩

set_option maxRecDepth 100000 in
set_option maxHeartbeats 1000000 in
/-- it is the new thing itself: it stays -/
theorem one_keepL {w : World} {col : Nat → Nat} {κ cb ob mb bc bx bl : Nat} {c : Nat → Nat} {X Y : List Ent} {e : Ent} {k v : ByteArray} {p : Nat} {lv : Value} (h : CB w col κ cb ob mb c (X ++ e :: Y) (X ++ e :: Y)) (hx : Bx w col κ bc bx bl cb k v p lv)
    (hks : k.size ≤ 140737488355328) (hvs : v.size ≤ 140737488355328) (h1 : c 1 ≤ 4611686018427387904) (hle : ¬ c 1 + (k.size + v.size) ≤ c 0) (hp : e.pins = 0) (hl : lv = bp e.blk) :
    Calls Try.prog 23 #[bp e.blk, bp bc, bp bx, bp bl] w fun r w' => r = .returned (.bool true) ∧ Below w.heap.size w w' := by
  have HRB : Hid (RB w w.drew col κ cb ob mb bc bx bl c (X ++ e :: Y) k v p lv) := Lib.hid ⟨h.drew, hx.only (only_drew' (Only.refl _ _ _)), (Below.refl _ _).drew⟩
  obtain ⟨pn, hpn⟩ : ∃ x, x = e.pins := ⟨_, rfl⟩
  have hp0 : pn = 0 := by rw [hpn]; exact hp
  have HP0 := Lib.hid hp0
  have HL := Lib.hid hl
  clear hp hp0 hl
  obtain ⟨n0, hn0⟩ : ∃ x, x = c 0 := ⟨_, rfl⟩
  obtain ⟨n1, hn1⟩ : ∃ x, x = c 1 := ⟨_, rfl⟩
  obtain ⟨wt, hwt⟩ : ∃ x, x = k.size + v.size := ⟨_, rfl⟩
  have hcc := fun w => counts_any k v p w hks hvs
  rw [← hwt] at hcc hle
  rw [← hn1] at h1 hle
  rw [← hn0] at hle
  have CD := Lib.hid hcc
  have hlt : ¬ ((n1 : Int) + (wt : Int) ≤ (n0 : Int)) := by omega
  have hwr : IntKind.i64.wrap ((n1 : Int) + (wt : Int)) = (n1 : Int) + (wt : Int) := IntWalk.i64_in _ (by omega)
  have HRC : Hid (∀ w', RB w w' col κ cb ob mb bc bx bl c (X ++ e :: Y) k v p lv → w'.cell? ⟨bc, 0, none⟩ = some (bp cb) ∧ w'.cell? ⟨cb, 0, none⟩ = some (.int .i64 (n0 : Int)) ∧ w'.cell? ⟨cb, 1, none⟩ = some (.int .i64 (n1 : Int)) ∧ w'.cell? ⟨bx, 0, none⟩ = some (.string k) ∧ w'.cell? ⟨bx, 1, none⟩ = some (.string v) ∧ w'.cell? ⟨bx, 2, none⟩ = some (.int .i64 (p : Int)) ∧ RB w w' col κ cb ob mb bc bx bl c (X ++ e :: Y) k v p lv) := Lib.hid (fun w' h =>
    ⟨h.2.1.c, (by rw [hn0]; exact h.1.c 0 (by decide)), (by rw [hn1]; exact h.1.c 1 (by decide)), h.2.1.x0, h.2.1.x1, h.2.1.x2, h⟩)
  have HS := Lib.hid (HRC.out _ HRB.out)
  have HEP : Hid (∀ w', RB w w' col κ cb ob mb bc bx bl c (X ++ e :: Y) k v p lv → w'.cell? ⟨e.blk, 2, none⟩ = some (.int .i64 (pn : Int)) ∧ w'.cell? ⟨bl, 0, none⟩ = some lv) := Lib.hid (fun w' h => ⟨by rw [hpn]; exact (h.1.es e (by simp)).p, h.2.1.l⟩)
  clear h hx hn0 hn1 hwt hcc hle hks hvs hpn
  go_enter Try.func23, Try.ntmps23
  go_upto_region 1 with fail
  go_region_held3 (fun w' => w'.cell? ⟨bc, 0, none⟩ = some (bp cb) ∧ w'.cell? ⟨cb, 0, none⟩ = some (.int .i64 (n0 : Int)) ∧ w'.cell? ⟨cb, 1, none⟩ = some (.int .i64 (n1 : Int)) ∧ w'.cell? ⟨bx, 0, none⟩ = some (.string k) ∧ w'.cell? ⟨bx, 1, none⟩ = some (.string v) ∧ w'.cell? ⟨bx, 2, none⟩ = some (.int .i64 (p : Int)) ∧ RB w w' col κ cb ob mb bc bx bl c (X ++ e :: Y) k v p lv) (first | exact HS3.out | exact HS.out) (first
    | (go_at_call 21; with_reducible refine (CD.out _).mono ?_; rintro r w3 ⟨rfl, hb3⟩; have HB3 := Lib.hid (HRB.out.below hb3); have HS3 := Lib.hid (HRC.out w3 HB3.out); clear hb3))
  obtain ⟨k1, k2⟩ := HEP.out _ HB3.out
  rw [HL.out] at k2
  have k3 : w3.cell? ⟨e.blk, 2, none⟩ = some (.int .i64 0) := by rw [k1, HP0.out]; rfl
  clear k1
  have q1 := neq_link_same e.blk w3
  go_wp2
  go_ret
  exact ⟨rfl, HB3.out.2.2⟩
set_option maxRecDepth 100000 in
set_option maxHeartbeats 1000000 in
/-- it is put out -/
theorem one_gone {w : World} {col : Nat → Nat} {κ cb ob mb bc bx bl : Nat} {c : Nat → Nat} {X Y : List Ent} {e : Ent} {k v : ByteArray} {p : Nat} {lv : Value} (h : CB w col κ cb ob mb c (X ++ e :: Y) (X ++ e :: Y)) (hx : Bx w col κ bc bx bl cb k v p lv)
    (hks : k.size ≤ 140737488355328) (hvs : v.size ≤ 140737488355328) (h1 : c 1 ≤ 4611686018427387904) (hle : ¬ c 1 + (k.size + v.size) ≤ c 0) (hp : e.pins = 0)
    (hne : ∀ w', CB w' col κ cb ob mb c (X ++ e :: Y) (X ++ e :: Y) → (binOp .neq 60 (bp e.blk) lv).run Try.prog w' = .ok (.bool true) w')
    (nk : ((X ++ e :: Y).map Ent.key).Nodup) (hek : e.key.size ≤ 140737488355328) (hev : e.val.size ≤ 140737488355328) (hb : e.wt ≤ c 1) (hm : 1 ≤ c 6) (hm2 : c 6 ≤ 4611686018427387904) (h5 : c 5 ≤ 4611686018427387904) :
    Calls Try.prog 23 #[bp e.blk, bp bc, bp bx, bp bl] w fun r w' => r = .returned (.bool true) ∧ CB w' col κ cb ob mb (outC c e) (X ++ Y) (X ++ Y) ∧ Only col (fun k => k = κ) w w' := by
  have HRB : Hid (RB w w.drew col κ cb ob mb bc bx bl c (X ++ e :: Y) k v p lv) := Lib.hid ⟨h.drew, hx.only (only_drew' (Only.refl _ _ _)), (Below.refl _ _).drew⟩
  obtain ⟨pn, hpn⟩ : ∃ x, x = e.pins := ⟨_, rfl⟩
  have hp0 : pn = 0 := by rw [hpn]; exact hp
  have HP0 := Lib.hid hp0
  have HNE := Lib.hid hne
  have HG : Hid (∀ w', CB w' col κ cb ob mb c (X ++ e :: Y) (X ++ e :: Y) → Calls Try.prog 24 #[bp cb, bp e.blk] w' fun r w2 => r = .returned (.tuple #[]) ∧ CB w2 col κ cb ob mb (goneC c e) (X ++ Y) (X ++ Y) ∧ Only col (fun k => k = κ) w' w2) := Lib.hid (fun w' h' => gone_any h' nk hek hev hb h1 hm hm2)
  obtain ⟨x5, hx5⟩ : ∃ x, x = c 5 := ⟨_, rfl⟩
  have hg5 : goneC c e 5 = x5 := by unfold goneC; rw [put1_ne (by decide), put1_ne (by decide), hx5]
  have hx5' : x5 ≤ 4611686018427387904 := by rw [hx5]; exact h5
  have hw5 : IntKind.i64.wrap ((x5 : Int) + 1) = (x5 : Int) + 1 := IntWalk.i64_in _ (by omega)
  have HG5 := Lib.hid hg5
  have HX5 := Lib.hid hx5
  have HCB : Hid (col cb = κ) := Lib.hid h.cc.1
  clear hp hp0 hne nk hek hev hb hm hm2 h5 hg5 hx5
  obtain ⟨n0, hn0⟩ : ∃ x, x = c 0 := ⟨_, rfl⟩
  obtain ⟨n1, hn1⟩ : ∃ x, x = c 1 := ⟨_, rfl⟩
  obtain ⟨wt, hwt⟩ : ∃ x, x = k.size + v.size := ⟨_, rfl⟩
  have hcc := fun w => counts_any k v p w hks hvs
  rw [← hwt] at hcc hle
  rw [← hn1] at h1 hle
  rw [← hn0] at hle
  have CD := Lib.hid hcc
  have hlt : ¬ ((n1 : Int) + (wt : Int) ≤ (n0 : Int)) := by omega
  have hwr : IntKind.i64.wrap ((n1 : Int) + (wt : Int)) = (n1 : Int) + (wt : Int) := IntWalk.i64_in _ (by omega)
  have HRC : Hid (∀ w', RB w w' col κ cb ob mb bc bx bl c (X ++ e :: Y) k v p lv → w'.cell? ⟨bc, 0, none⟩ = some (bp cb) ∧ w'.cell? ⟨cb, 0, none⟩ = some (.int .i64 (n0 : Int)) ∧ w'.cell? ⟨cb, 1, none⟩ = some (.int .i64 (n1 : Int)) ∧ w'.cell? ⟨bx, 0, none⟩ = some (.string k) ∧ w'.cell? ⟨bx, 1, none⟩ = some (.string v) ∧ w'.cell? ⟨bx, 2, none⟩ = some (.int .i64 (p : Int)) ∧ RB w w' col κ cb ob mb bc bx bl c (X ++ e :: Y) k v p lv) := Lib.hid (fun w' h =>
    ⟨h.2.1.c, (by rw [hn0]; exact h.1.c 0 (by decide)), (by rw [hn1]; exact h.1.c 1 (by decide)), h.2.1.x0, h.2.1.x1, h.2.1.x2, h⟩)
  have HS := Lib.hid (HRC.out _ HRB.out)
  have HEP : Hid (∀ w', RB w w' col κ cb ob mb bc bx bl c (X ++ e :: Y) k v p lv → w'.cell? ⟨e.blk, 2, none⟩ = some (.int .i64 (pn : Int)) ∧ w'.cell? ⟨bl, 0, none⟩ = some lv) := Lib.hid (fun w' h => ⟨by rw [hpn]; exact (h.1.es e (by simp)).p, h.2.1.l⟩)
  clear h hx hn0 hn1 hwt hcc hle hks hvs hpn
  go_enter Try.func23, Try.ntmps23
  go_upto_region 1 with fail
  go_region_held3 (fun w' => w'.cell? ⟨bc, 0, none⟩ = some (bp cb) ∧ w'.cell? ⟨cb, 0, none⟩ = some (.int .i64 (n0 : Int)) ∧ w'.cell? ⟨cb, 1, none⟩ = some (.int .i64 (n1 : Int)) ∧ w'.cell? ⟨bx, 0, none⟩ = some (.string k) ∧ w'.cell? ⟨bx, 1, none⟩ = some (.string v) ∧ w'.cell? ⟨bx, 2, none⟩ = some (.int .i64 (p : Int)) ∧ RB w w' col κ cb ob mb bc bx bl c (X ++ e :: Y) k v p lv) (first | exact HS3.out | exact HS.out) (first
    | (go_at_call 21; with_reducible refine (CD.out _).mono ?_; rintro r w3 ⟨rfl, hb3⟩; have HB3 := Lib.hid (HRB.out.below hb3); have HS3 := Lib.hid (HRC.out w3 HB3.out); clear hb3))
  obtain ⟨k1, k2⟩ := HEP.out _ HB3.out
  have k3 : w3.cell? ⟨e.blk, 2, none⟩ = some (.int .i64 0) := by rw [k1, HP0.out]; rfl
  clear k1
  have q1 := HNE.out w3 HB3.out.1
  have qc := HB3.out.2.1.c
  have HCG := Lib.hid (HG.out w3 HB3.out.1)
  go_upto_region 5 with (first
    | (go_at_call 24; with_reducible refine (HCG.out).mono ?_; rintro r w4 ⟨rfl, hC4, hO4⟩; have HC4 := Lib.hid hC4; have HO4 := Lib.hid hO4; clear hC4 hO4))
  have qc4 := (HB3.out.2.1.only HO4.out).c
  have k5 : w4.cell? ⟨cb, 5, none⟩ = some (.int .i64 (x5 : Int)) := by rw [← HG5.out]; exact HC4.out.c 5 (by decide)
  have f5 := HC4.out.ct.f 5
  clear k2 k3 q1 qc
  go_wp2
  go_ret
  have h5 := HC4.out.num (j := 5) (by decide) (x5 + 1)
  exact ⟨rfl, (by unfold outC; rw [← HX5.out]; exact h5), ((only_of_below' HB3.out.2.2).trans' HO4.out).trans' (only_setCell' (p := ⟨cb, 5, none⟩) HCB.out _)⟩
end Go.Proofs.Ythaccjjkbbkehaa
