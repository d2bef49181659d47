/- The cache as a whole; a new key's Put. -/
import Derived.Test.YthaccjjkbbkehaaCa9
import Derived.Test.YthaccjjkbbkehaaCb0
import Derived.StillTailTactics
import Derived.Deep.CutBlock
namespace Go.Proofs.Ythaccjjkbbkehaa
open Go.RowKit Go.Scr Go.Maps
set_option linter.unusedVariables false

structure Num (c : Nat → Nat) (n f m o : Nat) (L : List Ent) : Prop where
  n : c 0 = n
  b : c 1 = wts L
  p : c 2 = pinw L
  f : c 3 = f
  m : c 4 = m
  o : c 5 = o
  k : c 6 = L.length
structure Keyd (L : List Ent) : Prop where
  nk : (L.map Ent.key).Nodup
  sz : ∀ e ∈ L, e.key.size ≤ 140737488355328 ∧ e.val.size ≤ 140737488355328
def Cash (w : World) (col : Nat → Nat) (κ cb n f m o : Nat) (L : List Ent) : Prop :=
  ∃ ob mb c, CB w col κ cb ob mb c L L ∧ Num c n f m o L ∧ Keyd L
theorem Cash.keep {w w' : World} {col col' : Nat → Nat} {κ cb n f m o : Nat} {L : List Ent} (h : Cash w col κ cb n f m o L) (hk : ∀ g, g < w.heap.size → col g = κ → w'.heap[g]? = w.heap[g]?) (hc : ∀ g, g < w.heap.size → col' g = col g) : Cash w' col' κ cb n f m o L := by
  obtain ⟨ob, mb, c, h1, h2⟩ := h
  exact ⟨ob, mb, c, h1.keep hk hc, h2⟩
theorem Cash.below {w w' : World} {col : Nat → Nat} {κ cb n f m o : Nat} {L : List Ent} (h : Cash w col κ cb n f m o L) (hb : Below w.heap.size w w') : Cash w' col κ cb n f m o L :=
  h.keep (fun g hg _ => hb.block g hg) (fun _ _ => rfl)
/-- a call has turned blocks of the colour κ alone, and has laid new ones -/
structure Turn (col col' : Nat → Nat) (κ : Nat) (w w' : World) : Prop where
  o : Only col (fun k => k = κ) w w'
  a : ∀ g, g < w.heap.size → col' g = col g
  n : ∀ g, col' g ≠ col g → w.heap.size ≤ g ∧ g < w'.heap.size ∧ col' g = κ
theorem turn_only {col : Nat → Nat} {κ : Nat} {w w' : World} (h : Only col (fun k => k = κ) w w') : Turn col col κ w w' := ⟨h, fun _ _ => rfl, fun g hg => absurd rfl hg⟩
theorem only_past {col : Nat → Nat} {S : Nat → Prop} {w w1 : World} (h : Only col S w w1) {b : Nat} (hb : w.heap.size ≤ b) (i : Nat) (u : Value) : Only col S w (w1.setCell ⟨b, i, none⟩ u) :=
  ⟨h.os, h.tape, h.output, by simpa [World.setCell] using h.size, fun g hg hc => (Below.heap_setCell w1 _ u g (by show g ≠ b; omega)).trans (h.block g hg hc)⟩
theorem only_laid {col : Nat → Nat} {S : Nat → Prop} {w w1 : World} (h : Only col S w w1) (o : Obj) : Only col S w (w1.alloc o) := h.trans' (only_of_below' ((Below.refl _ _).alloc (Nat.le_refl _) _))
def PutPost (w w' : World) (col : Nat → Nat) (κ cb n f m o : Nat) (k v : ByteArray) (L : List Ent) : Prop :=
  ∃ lb col', Turn col col' κ w w' ∧ Cash w' col' κ cb n f m (o + (L.length - (rest n (k.size + v.size) k L).length)) (lput n lb k v L)

set_option maxRecDepth 100000 in
set_option maxHeartbeats 2000000 in
theorem put_new {w : World} {col : Nat → Nat} {κ cb n f m o : Nat} {L : List Ent} {k v : ByteArray} (hκ : κ ≠ 0) (hlo : ∀ g, col g ≠ 0 → g < w.heap.size) (h : Cash w col κ cb n f m o L) (hn : n ≤ 16777216) (hno : ∀ e ∈ L, e.key ≠ k)
    (hks : k.size ≤ 1099511627776) (hvs : v.size ≤ 1099511627776) (hLl : L.length ≤ 1099511627776) (ho : o ≤ 1099511627776) (hw : wts L ≤ n) (hfit : pinw L + (k.size + v.size) ≤ n) :
    Calls Try.prog 10 #[bp cb, .string k, .string v] w fun r w' => r = .returned (.int .i64 0) ∧ PutPost w w' col κ cb n f m o k v L := by
  obtain ⟨ob, mb, c, hC, hN, hK⟩ := h
  have hkm : k.size ≤ maxLen := by simp only [maxLen]; omega
  have HG : Hid (∀ w', Below w.heap.size w w' → Calls Try.prog 19 #[.pointer (some ⟨cb, 7, none⟩), .string k] w' fun r w2 => r = .returned (.tuple #[.pointer none, .bool false]) ∧ w2 = w') :=
    Lib.hid (fun w' hb => get_out (hC.below hb).c7 (hC.below hb).mp hno hkm)
  have HC := Lib.hid hC
  have HN := Lib.hid hN
  have HK := Lib.hid hK
  obtain ⟨b0, hb0⟩ : ∃ x, x = w.heap.size := ⟨_, rfl⟩
  obtain ⟨w1, hw1⟩ : ∃ x, x = w.alloc (.cells #[bp cb] 25) := ⟨_, rfl⟩
  have hbx : Below w.heap.size w w1 := by rw [hw1]; exact (Below.refl _ _).alloc (Nat.le_refl _) _
  have HG1 := Lib.hid (HG.out w1 hbx)
  have d0 : w1.cell? ⟨b0, 0, none⟩ = some (bp cb) := by rw [hw1, hb0]; simp
  have HW1 := Lib.hid hw1
  have HB1 := Lib.hid hbx
  have HB0 := Lib.hid hb0
  have hs1 : w1.heap.size = b0 + 1 := by rw [hw1, hb0]; simp
  have hb0c : col b0 = 0 := Classical.byContradiction fun hne => by have := hlo b0 hne; omega
  have hb1c : col w1.heap.size = 0 := Classical.byContradiction fun hne => by have := hlo _ hne; omega
  have hb2c : col (w1.heap.size + 1) = 0 := Classical.byContradiction fun hne => by have := hlo _ hne; omega
  obtain ⟨pw, hpw⟩ : ∃ x, x = pinw L := ⟨_, rfl⟩
  obtain ⟨wt, hwt⟩ : ∃ x, x = k.size + v.size := ⟨_, rfl⟩
  have hc2 : c 2 = pw := hN.p.trans hpw.symm
  have hpwn : pw + wt ≤ n := by rw [hpw, hwt]; exact hfit
  have HPW := Lib.hid hpw
  have HWT := Lib.hid hwt
  have HLO := Lib.hid hlo
  have HNO := Lib.hid hno
  have HW := Lib.hid hw
  have HC2 := Lib.hid hc2
  have hcnt : ∀ w, Calls Try.prog 21 #[.agg #[.string k, .string v, .int .i64 0]] w fun r w' => r = .returned (.int .i64 ((k.size + v.size : Nat) : Int)) ∧ Below w.heap.size w w' := fun w => counts_any k v 0 w (by omega) (by omega)
  rw [← hwt] at hcnt
  have CD := Lib.hid hcnt
  have HLTB : Hid (b0 < w1.heap.size) := Lib.hid (by rw [hs1]; omega)
  have HCOL : Hid (col b0 = 0 ∧ col w1.heap.size = 0 ∧ col (w1.heap.size + 1) = 0) := Lib.hid ⟨hb0c, hb1c, hb2c⟩
  have hc0 : c 0 = n := hN.n
  have HC0 := Lib.hid hc0
  clear hC hN hK hbx hw1 hlo hno hfit hw HG hb0 hs1 hb0c hb1c hb2c hpw hwt hc2 hcnt hc0
  go_enter Try.func10, Try.ntmps10
  go_upto_region 1 with fail
  rw [← HW1.out, ← HB0.out]
  go_upto_region 3 with (first
    | (go_at_call 19; with_reducible refine (HG1.out).mono ?_; rintro r wx ⟨rfl, hwx⟩; rw [hwx]; clear hwx wx))
  obtain ⟨b1, hb1⟩ : ∃ x, x = w1.heap.size := ⟨_, rfl⟩
  obtain ⟨w2, hw2⟩ : ∃ x, x = (w1.alloc (.cells #[Value.pointer none] 60)).alloc (.cells #[.string k, .string v, .int .i64 0] 57) := ⟨_, rfl⟩
  have hbel2 : Below w1.heap.size w1 w2 := by rw [hw2]; exact ((Below.refl _ _).alloc (Nat.le_refl _) _).alloc (by simp) _
  have hbelw : Below w.heap.size w w2 := below_on HB1.out hbel2 HB1.out.size
  have hl0 : w2.cell? ⟨b1, 0, none⟩ = some (.pointer none) := by rw [hw2, hb1, World.cell?_alloc_lt _ _ _ (by simp)]; simp
  have hx2 : ∀ i, w2.cell? ⟨b1 + 1, i, none⟩ = (#[Value.string k, Value.string v, Value.int .i64 0] : Array Value)[i]? := fun i => by
    rw [hw2, hb1]
    simp
  have hd0 : w2.cell? ⟨b0, 0, none⟩ = some (bp cb) := (hbel2.cell (block_lt_of_cell d0)).trans d0
  have ht2 : Thaw w2 (b1 + 1) := ⟨#[.string k, .string v, .int .i64 0], 57, by rw [hw2]; exact heap_alloc_at _ _ _ (by simp [hb1])⟩
  have ht1 : Thaw w2 b1 := ⟨#[.pointer none], 60, by rw [hw2, hb1]; exact blk_alloc (heap_alloc_new w1 _)⟩
  have HBX : Hid (Bx w2 col κ b0 (b1 + 1) b1 cb k v 0 (.pointer none)) := Lib.hid ⟨hd0, hx2 0, hx2 1, hx2 2, hl0, ⟨(by rw [HCOL.out.1]; exact hκ.symm), (by rw [hb1, HCOL.out.2.2]; exact hκ.symm), (by rw [hb1, HCOL.out.2.1]; exact hκ.symm)⟩, ht2, ht1⟩
  have HCB := Lib.hid (HC.out.below hbelw)
  have HB01 : Hid (b0 < b1 ∧ col b0 ≠ κ ∧ col b1 ≠ κ ∧ col (b1 + 1) ≠ κ ∧ w.heap.size ≤ b1) := Lib.hid ⟨by rw [hb1]; exact HLTB.out, by rw [HCOL.out.1]; exact hκ.symm, by rw [hb1, HCOL.out.2.1]; exact hκ.symm, by rw [hb1, HCOL.out.2.2]; exact hκ.symm, by rw [hb1]; exact HB1.out.size⟩
  have HBW := Lib.hid hbelw
  rw [← hw2, ← hb1]
  clear d0 hw2 hb1 hbel2 hbelw hl0 hx2 hd0 HC HG1 HB1 ht1 ht2
  have e2 : w2.cell? ⟨cb, 2, none⟩ = some (.int .i64 (pw : Int)) := by rw [← HC2.out]; exact HCB.out.c 2 (by decide)
  have e0 := HBX.out.c
  go_upto_region 6 with fail
  have HRC : Hid (∀ w', RB w w' col κ cb ob mb b0 (b1 + 1) b1 c L k v 0 (.pointer none) → w'.cell? ⟨b0, 0, none⟩ = some (bp cb) ∧ w'.cell? ⟨cb, 0, none⟩ = some (.int .i64 (n : Int)) ∧ w'.cell? ⟨b1 + 1, 0, none⟩ = some (.string k) ∧ w'.cell? ⟨b1 + 1, 1, none⟩ = some (.string v) ∧ w'.cell? ⟨b1 + 1, 2, none⟩ = some (.int .i64 0) ∧ RB w w' col κ cb ob mb b0 (b1 + 1) b1 c L k v 0 (.pointer none)) := Lib.hid (fun w' h =>
    ⟨h.2.1.c, (by rw [← HC0.out]; exact h.1.c 0 (by decide)), h.2.1.x0, h.2.1.x1, h.2.1.x2, h⟩)
  have HRB : Hid (RB w w2.drew col κ cb ob mb b0 (b1 + 1) b1 c L k v 0 (.pointer none)) := Lib.hid ⟨HCB.out.drew, HBX.out.only (only_drew' (Only.refl _ _ _)), HBW.out.drew⟩
  have HS := Lib.hid (HRC.out _ HRB.out)
  have hgt : ¬ ((n : Int) - (pw : Int) < (wt : Int)) := by omega
  have hwr : IntKind.i64.wrap ((n : Int) - (pw : Int)) = (n : Int) - (pw : Int) := IntWalk.i64_in _ (by omega)
  clear e2 e0
  go_region_held3 (fun w' => w'.cell? ⟨b0, 0, none⟩ = some (bp cb) ∧ w'.cell? ⟨cb, 0, none⟩ = some (.int .i64 (n : Int)) ∧ w'.cell? ⟨b1 + 1, 0, none⟩ = some (.string k) ∧ w'.cell? ⟨b1 + 1, 1, none⟩ = some (.string v) ∧ w'.cell? ⟨b1 + 1, 2, none⟩ = some (.int .i64 0) ∧ RB w w' col κ cb ob mb b0 (b1 + 1) b1 c L k v 0 (.pointer none)) (first | exact HS3.out | exact HS.out) (first
    | (go_at_call 21; with_reducible refine (CD.out _).mono ?_; rintro r w3 ⟨rfl, hb3⟩; have HB3 := Lib.hid (HRB.out.below hb3); have HS3 := Lib.hid (HRC.out w3 HB3.out); clear hb3))
  have HC3 := Lib.hid HB3.out.1
  have HX3 := Lib.hid HB3.out.2.1
  have HBW3 := Lib.hid HB3.out.2.2
  have e8 := HC3.out.c8
  have e0 := HX3.out.c
  have CR := Lib.hid (rising_any HC3.out HX3.out HK.out.nk (by omega) (by omega) HK.out.sz (by rw [HN.out.b, but_none HNO.out]) HN.out.k (by have := HW.out; omega) (by omega) (by rw [HN.out.o]; omega) (fun e he hk => absurd hk (HNO.out e he)) (.inl rfl))
  clear HCB HBX HBW HRB HS HS3 HB3 HRC
  go_upto_region 12 with (first
    | (go_at_call 22; with_reducible refine (CR.out).mono ?_; rintro r w4 ⟨rfl, hC4, hO4⟩; have HC4 := Lib.hid hC4; have HO4 := Lib.hid hO4; clear hC4 hO4))
  obtain ⟨R, hR⟩ : ∃ R, R = rest (c 0) (k.size + v.size) k L := ⟨_, rfl⟩
  have hC4 := HC4.out
  rw [← hR] at hC4
  have hX4 := HX3.out.only HO4.out
  have i0 := hX4.l
  have f0 := hX4.tl.f 0
  have HC5 := Lib.hid hC4
  have HX4 := Lib.hid hX4
  have HR := Lib.hid hR
  have HOW : Hid (Only col (fun k => k = κ) w w4) := Lib.hid ((only_of_below' HBW3.out).trans' HO4.out)
  clear hC4 hX4 hR HC4 HC3 HX3 HO4 e8 e0 CR HBW3 hgt hwr
  have hlt1 : b1 < w4.heap.size := block_lt_of_cell i0
  have i5 : (w4.alloc (.cells #[.string ⟨#[]⟩, .string ⟨#[]⟩, .int .i64 0, .pointer none, .pointer none] 65)).cell? ⟨b1, 0, none⟩ = some (.pointer none) := by rw [World.cell?_alloc_lt _ _ _ hlt1]; exact i0
  have f5 : (w4.alloc (.cells #[.string ⟨#[]⟩, .string ⟨#[]⟩, .int .i64 0, .pointer none, .pointer none] 65)).frozen? ⟨b1, 0, none⟩ = false := by rw [frozen_at (Below.heap_alloc w4 _ b1 hlt1)]; exact f0
  go_upto_region 15 with fail
  obtain ⟨w6, hw6⟩ : ∃ x, x = w4.setCell ⟨b1, 0, none⟩ (.pointer (some ⟨w4.heap.size, 0, none⟩)) := ⟨_, rfl⟩
  have hs6 : w6.heap.size = w4.heap.size := by rw [hw6]; simp [World.setCell]
  obtain ⟨lb, hlb⟩ : ∃ x, x = w4.heap.size := ⟨_, rfl⟩
  obtain ⟨w7, hw7⟩ : ∃ x, x = w6.alloc (.cells #[.string ⟨#[]⟩, .string ⟨#[]⟩, .int .i64 0, .pointer none, .pointer none] 65) := ⟨_, rfl⟩
  have hs7 : w7.heap.size = lb + 1 := by rw [hw7, hlb, ← hs6]; simp
  have hn7 : w7.heap[lb]? = some (.cells #[.string ⟨#[]⟩, .string ⟨#[]⟩, .int .i64 0, .pointer none, .pointer none] 65 (0, 0)) := by rw [hw7]; exact heap_alloc_at _ _ _ (by rw [hlb, hs6])
  have hk7 : ∀ g, g < w4.heap.size → g ≠ b1 → w7.heap[g]? = w4.heap[g]? := fun g hg hne => by
    rw [hw7, Below.heap_alloc w6 _ g (by rw [hs6]; exact hg), hw6]
    exact Below.heap_setCell w4 _ _ g hne
  have hl7 : w7.cell? ⟨b1, 0, none⟩ = some (bp lb) := by
    rw [hw7, World.cell?_alloc_lt _ _ _ (by show b1 < w6.heap.size; rw [hs6]; exact hlt1), hw6, hlb]
    exact cs_at _ i0
  have HO7 : Hid (Only col (fun g => g = κ) w w7) := Lib.hid (by rw [hw7, hw6]; exact only_laid (only_past HOW.out HB01.out.2.2.2.2 0 _) _)
  have hc7 : ∀ g, g < w4.heap.size → dye col lb κ g = col g := fun g hg => dye_old (by omega)
  have hC7 : CB w7 (dye col lb κ) κ cb ob mb (numC c k L R) R R := HC5.out.keep (fun g hg hgc => hk7 g hg (fun e => HB01.out.2.2.1 (by rw [← e]; exact hgc))) hc7
  have hX7 : Bx w7 (dye col lb κ) κ b0 (b1 + 1) b1 cb k v 0 (bp lb) := by
    have hx := HX4.out
    have l0 := block_lt_of_cell hx.c
    have l2 : b1 + 1 < w4.heap.size := block_lt_of_cell hx.x0
    have n0 := hk7 b0 l0 (by have := HB01.out.1; omega)
    have n2 := hk7 (b1 + 1) l2 (by omega)
    have ht7 : Thaw w7 b1 := by
      obtain ⟨cs, T, hcs⟩ := hx.tl.set ⟨b1, 0, none⟩ (.pointer (some ⟨w4.heap.size, 0, none⟩))
      exact ⟨cs, T, by rw [hw7]; exact blk_alloc (by rw [hw6]; exact hcs)⟩
    exact ⟨(cell_at n0 0).trans hx.c, (cell_at n2 0).trans hx.x0, (cell_at n2 1).trans hx.x1, (cell_at n2 2).trans hx.x2, hl7, by rw [hc7 _ l0, hc7 _ l2, hc7 _ hlt1]; exact hx.nc, hx.tx.at n2, ht7⟩
  have hE7 : EntAt w7 ⟨lb, ⟨#[]⟩, ⟨#[]⟩, 0⟩ := ⟨by rw [cell_of_row _ _ _ _ _ _ hn7]; rfl, by rw [cell_of_row _ _ _ _ _ _ hn7]; rfl, by rw [cell_of_row _ _ _ _ _ _ hn7]; rfl, ⟨_, by rw [cell_of_row _ _ _ _ _ _ hn7]; rfl⟩, ⟨_, by rw [cell_of_row _ _ _ _ _ _ hn7]; rfl⟩, ⟨_, _, hn7⟩⟩
  have hlbR : lb ∉ ob :: blks R := by
    intro hm
    rcases List.mem_cons.mp hm with hm | hm
    · obtain ⟨u, hu⟩ := HC5.out.ob_lt
      have := block_lt_of_cell hu
      simp at this
      omega
    · obtain ⟨q, hq, hqe⟩ := List.mem_map.mp hm
      have := (HC5.out.es q hq).lt
      omega
  have hlbc : lb ≠ cb := by
    have := block_lt_of_cell HC5.out.c8
    simp at this
    omega
  have HC7 := Lib.hid hC7
  have HX7 := Lib.hid hX7
  have HE7 := Lib.hid hE7
  have HLB : Hid (lb ∉ ob :: blks R ∧ lb ≠ cb ∧ dye col lb κ lb = κ) := Lib.hid ⟨hlbR, hlbc, dye_at _ _ _⟩
  have HCO : Hid (∀ g, g < w4.heap.size → dye col lb κ g = col g) := Lib.hid hc7
  have HLW : Hid (lb = w4.heap.size ∧ w7.heap.size = lb + 1) := Lib.hid ⟨hlb, hs7⟩
  rw [← hw6, ← hw7, ← hlb]
  clear hw6 hw7 hlb hs6 hs7 hn7 hk7 hl7 hc7 hC7 hX7 hE7 hlbR hlbc i0 f0 i5 f5 hlt1 HC5 HX4
  obtain ⟨col', hcol'⟩ : ∃ x, x = dye col lb κ := ⟨_, rfl⟩
  rw [← hcol'] at HC7 HX7 HLB HCO
  have HMP : Hid (MapOf w7.drew mb R) := Lib.hid HC7.out.drew.mp
  have HNR : Hid (∀ x ∈ R, x.key ≠ k) := Lib.hid (fun x hx => HNO.out x ((rest_sub _ _ _ _).subset (by rw [← HR.out]; exact hx)))
  have HLR : Hid (R.length < maxLen) := Lib.hid (by have := (rest_sub (c 0) (k.size + v.size) k L).length_le; rw [← HR.out] at this; simp only [maxLen]; omega)
  have j0 := HX7.out.c
  have j1 := HX7.out.l
  have j7 := HC7.out.c7
  go_still_tail 7, (by kernel_rfl)
  change wpList _ _ _ _ _ w7.drew
  go_upto_region 16 with (first
    | (at_mapUpdate; refine wpList_map_put ⟨lb, k, ⟨#[]⟩, 0⟩ rfl _ _ _ rfl rfl rfl rfl hkm HMP.out HLR.out HNR.out ?_; intro w8 hm8 ht8; have HC8 := Lib.hid (HC7.out.drew.table hm8 ht8); have HT8 := Lib.hid ht8; clear hm8 ht8))
  have hg8 := HT8.out.grown
  have hO8 : Only col' (fun g => g = κ) w7 w8 := (only_drew' (Only.refl _ _ _)).trans' (only_of_grown hg8 (fun g hg => by cases hg; exact HC7.out.cc.2.2.1))
  have hE8 := HE7.out.drew.at (hg8.block _ HE7.out.drew.lt (fun e' => not_map HC7.out.drew.mp HE7.out.drew.k (Option.some.inj e')))
  have hX8 := HX7.out.only hO8
  obtain ⟨rl, hrl⟩ : ∃ x, x = R.length := ⟨_, rfl⟩
  have hrb : rl ≤ 1099511627776 := by
    have := (rest_sub (c 0) (k.size + v.size) k L).length_le
    rw [← HR.out] at this
    omega
  have k6 : w8.cell? ⟨cb, 6, none⟩ = some (.int .i64 (rl : Int)) := by rw [hrl, ← numC_6 c k L R]; exact HC8.out.c 6 (by decide)
  have g6 := HC8.out.ct.f 6
  have hw6 : IntKind.i64.wrap ((rl : Int) + 1) = (rl : Int) + 1 := IntWalk.i64_in _ (by omega)
  have z0 := hX8.c
  have HX8 := Lib.hid hX8
  have HE8 := Lib.hid hE8
  have HO8 := Lib.hid hO8
  have HRL := Lib.hid hrl
  clear j0 j1 j7 hg8 hO8 hE8 hX8 hrl
  go_upto_region 17 with fail
  obtain ⟨w9, hw9⟩ : ∃ x, x = w8.setCell ⟨cb, 6, none⟩ (.int .i64 ((rl : Int) + 1)) := ⟨_, rfl⟩
  have hC9 : CB w9 col' κ cb ob mb (put1 (numC c k L R) 6 (rl + 1)) R (⟨lb, k, ⟨#[]⟩, 0⟩ :: R) := by rw [hw9]; exact HC8.out.num (j := 6) (by decide) (rl + 1)
  have hO9 : Only col' (fun g => g = κ) w7 w9 := by rw [hw9]; exact HO8.out.trans' (only_setCell' (p := ⟨cb, 6, none⟩) HC7.out.cc.1 _)
  have hE9 : EntAt w9 ⟨lb, ⟨#[]⟩, ⟨#[]⟩, 0⟩ := by rw [hw9]; exact HE8.out.set (.inl (fun e => HLB.out.2.1 e.symm)) _
  have hX9 : Bx w9 col' κ b0 (b1 + 1) b1 cb k v 0 (bp lb) := HX7.out.only hO9
  rw [← hw9]
  have z1 := hX9.l
  have z2 := hX9.x0
  have z3 := hX9.x1
  have z4 : w9.cell? ⟨b1 + 1, 2, none⟩ = some (.int .i64 0) := hX9.x2
  have z5 : w9.cell? ⟨lb, 0, none⟩ = some (.string ⟨#[]⟩) := hE9.k
  have z6 : w9.cell? ⟨lb, 1, none⟩ = some (.string ⟨#[]⟩) := hE9.v
  have z7 : w9.cell? ⟨lb, 2, none⟩ = some (.int .i64 0) := hE9.p
  have z8 : ∀ i, w9.frozen? ⟨lb, i, none⟩ = false := hE9.t.f
  have HC9 := Lib.hid hC9
  have HO9 := Lib.hid hO9
  have HE9 := Lib.hid hE9
  have HX9 := Lib.hid hX9
  clear hw9 hC9 hO9 hE9 hX9 k6 g6 hw6 z0
  go_upto_region 18 with fail
  obtain ⟨wA, hwA⟩ : ∃ x, x = ((w9.setCell ⟨lb, 0, none⟩ (.string k)).setCell ⟨lb, 1, none⟩ (.string v)).setCell ⟨lb, 2, none⟩ (.int .i64 0) := ⟨_, rfl⟩
  have hm9 : lb ≠ mb := not_map HC9.out.mp z5
  have hCA : CB wA col' κ cb ob mb (put1 (numC c k L R) 6 (rl + 1)) R (⟨lb, k, ⟨#[]⟩, 0⟩ :: R) := by
    rw [hwA]
    exact ((HC9.out.apart HLB.out.2.1 HLB.out.1 hm9 _ _).apart HLB.out.2.1 HLB.out.1 hm9 _ _).apart HLB.out.2.1 HLB.out.1 hm9 _ _
  have hEA : EntAt wA ⟨lb, k, v, 0⟩ := by
    rw [hwA]
    exact HE9.out.write k v 0 (.int .i64 0) rfl
  have hOA : Only col' (fun g => g = κ) w7 wA := by
    rw [hwA]
    exact ((HO9.out.trans' (only_setCell' (p := ⟨lb, 0, none⟩) HLB.out.2.2 _)).trans' (only_setCell' (p := ⟨lb, 1, none⟩) HLB.out.2.2 _)).trans' (only_setCell' (p := ⟨lb, 2, none⟩) HLB.out.2.2 _)
  have hXA : Bx wA col' κ b0 (b1 + 1) b1 cb k v 0 (bp lb) := HX7.out.only hOA
  rw [← hwA]
  have hCA' := hCA.map (hCA.mp.turn (L' := ⟨lb, k, v, 0⟩ :: R) rfl (fun e he => by
    rcases List.mem_cons.mp he with rfl | he
    · exact ⟨_, List.mem_cons_self .., rfl, rfl⟩
    · exact ⟨e, List.mem_cons_of_mem _ he, rfl, rfl⟩) (fun e he => by
    rcases List.mem_cons.mp he with rfl | he
    · exact ⟨_, List.mem_cons_self .., rfl⟩
    · exact ⟨e, List.mem_cons_of_mem _ he, rfl⟩))
  have CF : Hid (Calls Try.prog 26 #[bp ob, bp lb] wA.drew fun r w' => r = .returned (.tuple #[]) ∧ CB w' col' κ cb ob mb (put1 (numC c k L R) 6 (rl + 1)) (⟨lb, k, v, 0⟩ :: R) (⟨lb, k, v, 0⟩ :: R) ∧ Only col' (fun g => g = κ) wA.drew w') :=
    Lib.hid (first_any hCA'.drew hEA.drew HLB.out.2.2 HLB.out.1 HLB.out.2.1)
  have y0 := hXA.c
  have y1 := hXA.l
  have y8 := hCA.c8
  have HXA := Lib.hid hXA
  have HOA := Lib.hid hOA
  clear z1 z2 z3 z4 z5 z6 z7 z8 hm9 hCA hEA hOA hXA hwA hCA'
  go_still_tail 5, (by kernel_rfl)
  change wpList _ _ _ _ _ wA.drew
  go_upto_region 19 with (first
    | (go_at_call 26; with_reducible refine (CF.out).mono ?_; rintro r wB ⟨rfl, hCB, hOB⟩; have HCB := Lib.hid hCB; have HOB := Lib.hid hOB; clear hCB hOB))
  have hOC : Only col' (fun g => g = κ) w7 wB := (only_drew' HOA.out).trans' HOB.out
  have hXC : Bx wB col' κ b0 (b1 + 1) b1 cb k v 0 (bp lb) := HX7.out.only hOC
  obtain ⟨c2, hc2⟩ : ∃ x, x = put1 (numC c k L R) 6 (rl + 1) := ⟨_, rfl⟩
  obtain ⟨x1, hx1⟩ : ∃ x, x = c2 1 := ⟨_, rfl⟩
  have hx1e : x1 = wts R := by
    rw [hx1, hc2, put1_ne (by decide), numC_1, but_none HNR.out]
  have hxb : x1 ≤ 16777216 := by
    have := wts_sub (rest_sub (c 0) (k.size + v.size) k L)
    rw [← HR.out] at this
    have := HW.out
    omega
  have hCC := HCB.out
  rw [← hc2] at hCC
  have e0 := hXC.c
  have e1 : wB.cell? ⟨cb, 1, none⟩ = some (.int .i64 (x1 : Int)) := by rw [hx1]; exact hCC.c 1 (by decide)
  have e3 := hXC.x0
  have e4 := hXC.x1
  have e5 : wB.cell? ⟨b1 + 1, 2, none⟩ = some (.int .i64 0) := hXC.x2
  have e6 := hCC.ct.f 1
  have hw1 : IntKind.i64.wrap ((x1 : Int) + (wt : Int)) = (x1 : Int) + (wt : Int) := IntWalk.i64_in _ (by have := HWT.out; omega)
  have HCELL : Hid (∀ w3, Below wB.drew.heap.size wB.drew w3 → w3.cell? ⟨b0, 0, none⟩ = some (bp cb) ∧ w3.cell? ⟨cb, 1, none⟩ = some (.int .i64 (x1 : Int)) ∧ w3.cell? ⟨b1 + 1, 0, none⟩ = some (.string k) ∧ w3.cell? ⟨b1 + 1, 1, none⟩ = some (.string v) ∧ w3.cell? ⟨b1 + 1, 2, none⟩ = some (.int .i64 0) ∧ w3.frozen? ⟨cb, 1, none⟩ = false ∧ CB w3 col' κ cb ob mb c2 (⟨lb, k, v, 0⟩ :: R) (⟨lb, k, v, 0⟩ :: R) ∧ Only col' (fun g => g = κ) w7 w3) := Lib.hid (fun w3 hb3 => by
    have hC3 := hCC.drew.below hb3
    have hO3 : Only col' (fun g => g = κ) w7 w3 := (only_drew' hOC).trans' (only_of_below' hb3)
    have hX3 : Bx w3 col' κ b0 (b1 + 1) b1 cb k v 0 (bp lb) := HX7.out.only hO3
    exact ⟨hX3.c, (by rw [hx1]; exact hC3.c 1 (by decide)), hX3.x0, hX3.x1, hX3.x2, hC3.ct.f 1, hC3, hO3⟩)
  have HX1 := Lib.hid hx1e
  have HC2E := Lib.hid hc2
  have HFIN : Hid (∀ w', CB w' col' κ cb ob mb (put1 c2 1 (x1 + wt)) (⟨lb, k, v, 0⟩ :: R) (⟨lb, k, v, 0⟩ :: R) → Only col' (fun g => g = κ) w7 w' → PutPost w w' col κ cb n f m o k v L) := Lib.hid (fun w' hC hO => by
    have hput : lput n lb k v L = ⟨lb, k, v, 0⟩ :: R := by rw [lput_out HNO.out, HR.out, HC0.out]
    have hsl := rest_sub (c 0) (k.size + v.size) k L
    rw [← HR.out] at hsl
    have hR' : R = rest n (k.size + v.size) k L := by rw [HR.out, HC0.out]
    refine ⟨lb, col', ⟨HO7.out.trans hO (fun g hg => HCO.out g (Nat.lt_of_lt_of_le hg HOW.out.size)), fun g hg => HCO.out g (Nat.lt_of_lt_of_le hg HOW.out.size), fun g hg => ?_⟩, ?_⟩
    · rw [hcol'] at hg ⊢
      unfold dye at hg ⊢
      by_cases hgl : g = lb
      · rw [if_pos hgl]
        have h1 := HOW.out.size
        have h2 := hO.size
        have h3 := HLW.out
        exact ⟨by omega, by omega, rfl⟩
      · rw [if_neg hgl] at hg
        exact absurd rfl hg
    · refine ⟨ob, mb, put1 c2 1 (x1 + wt), by rw [hput]; exact hC, ⟨?_, ?_, ?_, ?_, ?_, ?_, ?_⟩, ?_⟩
      · rw [put1_ne (by decide), hc2, put1_ne (by decide), numC_o _ _ _ _ (by decide) (by decide) (by decide)]; exact HC0.out
      · rw [put1_at, hput, wts_cons, hx1e, HWT.out]; show _ = k.size + v.size + _; omega
      · rw [put1_ne (by decide), hc2, put1_ne (by decide), numC_o _ _ _ _ (by decide) (by decide) (by decide), hput, pinw_cons, if_neg (Nat.lt_irrefl _)]
        have := rest_pinw (c 0) (k.size + v.size) k L
        rw [← HR.out, but_none HNR.out, but_none HNO.out] at this
        rw [HN.out.p, this]; omega
      · rw [put1_ne (by decide), hc2, put1_ne (by decide), numC_o _ _ _ _ (by decide) (by decide) (by decide)]; exact HN.out.f
      · rw [put1_ne (by decide), hc2, put1_ne (by decide), numC_o _ _ _ _ (by decide) (by decide) (by decide)]; exact HN.out.m
      · rw [put1_ne (by decide), hc2, put1_ne (by decide), numC_5, HN.out.o, hR']
      · rw [put1_ne (by decide), hc2, put1_at, hput, HRL.out]; rfl
      · rw [hput]
        refine ⟨?_, fun e he => ?_⟩
        · rw [List.map_cons, List.nodup_cons]
          refine ⟨fun hm => ?_, HK.out.nk.sublist (hsl.map _)⟩
          obtain ⟨q, hq, hqe⟩ := List.mem_map.mp hm
          exact HNR.out q hq hqe
        · rcases List.mem_cons.mp he with rfl | he
          · exact ⟨by show k.size ≤ _; omega, by show v.size ≤ _; omega⟩
          · exact HK.out.sz e (hsl.subset he))
  clear hOC hXC hCC hx1 hx1e hc2 HCB HOB HOA HXA CF HO9 HE9 HX9 HC9 HX8 HE8 HO8 y0 y1 y8
  go_region_law (first
    | (go_simp; go_at_call 21; with_reducible refine (CD.out _).mono ?_; rintro r w3 ⟨rfl, hb3⟩; obtain ⟨g0, g1, g2, g3, g4, g5, hC3, hO3⟩ := HCELL.out _ hb3; have HC3 := Lib.hid hC3; have HO3 := Lib.hid hO3; clear hC3 hO3 hb3)
    | fail)
  all_goals (
    have hC4 := HC3.out.num (j := 1) (by decide) (x1 + wt)
    rw [show ((x1 + wt : Nat) : Int) = (x1 : Int) + (wt : Int) by omega] at hC4
    have hO4 : Only col' (fun g => g = κ) w7 (w3.setCell ⟨cb, 1, none⟩ (.int .i64 ((x1 : Int) + (wt : Int)))) := HO3.out.trans' (only_setCell' (p := ⟨cb, 1, none⟩) HC7.out.cc.1 _)
    have q2 : (w3.setCell ⟨cb, 1, none⟩ (.int .i64 ((x1 : Int) + (wt : Int)))).cell? ⟨b1 + 1, 2, none⟩ = some (.int .i64 0) := (HX7.out.only hO4).x2
    have HF := Lib.hid (HFIN.out _ hC4 hO4)
    clear hC4 hO4 e0 e1 e3 e4 e5 e6 g0 g1 g2 g3 g4 g5 hw1
    generalize w3.setCell ⟨cb, 1, none⟩ (.int .i64 ((x1 : Int) + (wt : Int))) = w4 at *
    go_wp2
    go_ret
    exact ⟨rfl, HF.out⟩)
end Go.Proofs.Ythaccjjkbbkehaa
