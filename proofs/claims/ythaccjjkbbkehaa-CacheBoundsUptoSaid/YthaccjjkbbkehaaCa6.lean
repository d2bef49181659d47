/- The cache's call 'gone'. -/
import Derived.Test.YthaccjjkbbkehaaCa5
import Derived.Deep.CutBlock
import Derived.StillTailTactics
namespace Go.Proofs.Ythaccjjkbbkehaa
open Go.RowKit Go.Scr Go.Maps
set_option linter.unusedVariables false

def goneC (c : Nat → Nat) (e : Ent) : Nat → Nat := put1 (put1 c 1 (c 1 - e.wt)) 6 (c 6 - 1)
theorem mid_mem {X Y : List Ent} {e : Ent} (nk : ((X ++ e :: Y).map Ent.key).Nodup) (x : Ent) : x ∈ X ++ Y ↔ x ∈ X ++ e :: Y ∧ x.key ≠ e.key := by
  rw [List.map_append, List.map_cons, List.nodup_append, List.nodup_cons] at nk
  obtain ⟨n1, ⟨n2, n3⟩, n4⟩ := nk
  simp only [List.mem_append, List.mem_cons]
  constructor
  · rintro (h | h)
    · exact ⟨.inl h, fun e' => n4 _ (List.mem_map_of_mem h) _ (List.mem_cons_self ..) e'⟩
    · exact ⟨.inr (.inr h), fun e' => n2 (by rw [← e']; exact List.mem_map_of_mem h)⟩
  · rintro ⟨h | rfl | h, hn⟩
    · exact .inl h
    · exact absurd rfl hn
    · exact .inr h
set_option maxRecDepth 100000 in
set_option maxHeartbeats 1000000 in
theorem gone_any {w : World} {col : Nat → Nat} {κ cb ob mb : Nat} {c : Nat → Nat} {X Y : List Ent} {e : Ent} (h : CB w col κ cb ob mb c (X ++ e :: Y) (X ++ e :: Y)) (nk : ((X ++ e :: Y).map Ent.key).Nodup)
    (hks : e.key.size ≤ 140737488355328) (hvs : e.val.size ≤ 140737488355328) (hb : e.wt ≤ c 1) (hb2 : c 1 ≤ 4611686018427387904) (hm : 1 ≤ c 6) (hm2 : c 6 ≤ 4611686018427387904) :
    Calls Try.prog 24 #[bp cb, bp e.blk] w fun r w' => r = .returned (.tuple #[]) ∧ CB w' col κ cb ob mb (goneC c e) (X ++ Y) (X ++ Y) ∧ Only col (fun k => k = κ) w w' := by
  have CT := Lib.hid (take_any h)
  have c8 := h.c8
  have HMEM : Hid (∀ x, x ∈ X ++ Y ↔ x ∈ X ++ e :: Y ∧ x.key ≠ e.key) := Lib.hid (mid_mem nk)
  have HE : Hid (e ∈ X ++ e :: Y) := Lib.hid (by simp)
  have HLEN : Hid ((X ++ Y).length + 1 = (X ++ e :: Y).length) := Lib.hid (by simp; omega)
  have HKS : Hid (e.key.size ≤ maxLen) := Lib.hid (by simp only [maxLen]; omega)
  have CC := Lib.hid fun w => counts_any e.key e.val e.pins w hks hvs
  have HCM : Hid (col mb = κ) := Lib.hid h.cc.2.2.1
  have HCB : Hid (col cb = κ) := Lib.hid h.cc.1
  obtain ⟨x1, hx1⟩ : ∃ x, x = c 1 := ⟨_, rfl⟩
  obtain ⟨x6, hx6⟩ : ∃ x, x = c 6 := ⟨_, rfl⟩
  obtain ⟨wt, hwt⟩ : ∃ x, x = e.key.size + e.val.size := ⟨_, rfl⟩
  have hwt' : e.wt = wt := hwt.symm
  rw [hwt', ← hx1] at hb
  rw [← hx1] at hb2
  rw [← hx6] at hm hm2
  have hcc := CC.out
  rw [← hwt] at hcc
  have CD := Lib.hid hcc
  obtain ⟨y1, hy1⟩ : ∃ x, x = x1 - wt := ⟨_, rfl⟩
  obtain ⟨y6, hy6⟩ : ∃ x, x = x6 - 1 := ⟨_, rfl⟩
  have hs1 : (x1 : Int) - (wt : Int) = (y1 : Int) := by omega
  have hs6 : (x6 : Int) - 1 = (y6 : Int) := by omega
  have hr1 : y1 ≤ 4611686018427387904 := by omega
  have hr6 : y6 ≤ 4611686018427387904 := by omega
  have hw1 : IntKind.i64.wrap (y1 : Int) = (y1 : Int) := IntWalk.i64_in _ (by omega)
  have HGC : Hid (put1 (put1 c 1 y1) 6 y6 = goneC c e) := Lib.hid (by unfold goneC; rw [hy1, hy6, hwt', hx1, hx6])
  have HX1 := Lib.hid hx1
  have HX6 := Lib.hid hx6
  have HWT := Lib.hid hwt
  have HWT' := Lib.hid hwt'
  clear h nk hks hvs hx1 hx6 hwt hwt' hcc CC hy1 hy6
  go_enter Try.func24, Try.ntmps24
  go_upto_region 1 with (first
    | (go_at_call 25; with_reducible refine (CT.out).mono ?_; rintro r w1 ⟨rfl, hC, hE, hn, hO⟩; have HC := Lib.hid hC; have HEA := Lib.hid hE; have HO := Lib.hid hO; clear hC hE hn hO c8))
  have d7 := HC.out.c7
  have dk := HEA.out.k
  have HM : Hid (MapOf w1.drew mb (X ++ e :: Y)) := Lib.hid HC.out.drew.mp
  go_still_tail 10, (by kernel_rfl)
  change wpList _ _ _ _ _ w1.drew
  go_upto_region 2 with (first
    | (at_delete; refine wpList_map_del e rfl _ _ rfl rfl rfl HKS.out HM.out HE.out HMEM.out HLEN.out ?_; intro w2 hm2' ht2; have HC2 := Lib.hid (HC.out.drew.table hm2' ht2); have HE2 := Lib.hid (HEA.out.drew.at (ht2.grown.block _ HEA.out.drew.lt fun e' => not_map HM.out dk (Option.some.inj e'))); have HO2 := Lib.hid ((only_drew' HO.out).trans' (only_of_grown ht2.grown fun g hg => by cases hg; exact HCM.out)); clear hm2' ht2))
  clear d7 dk
  have e1 : w2.cell? ⟨cb, 1, none⟩ = some (.int .i64 (x1 : Int)) := by rw [HX1.out]; exact HC2.out.c 1 (by decide)
  have f1 := HC2.out.ct.f 1
  have ek := HE2.out.k
  have ev := HE2.out.v
  have ep := HE2.out.p
  have HCELL : Hid (∀ w3, Below w2.drew.heap.size w2.drew w3 → w3.cell? ⟨cb, 1, none⟩ = some (.int .i64 (x1 : Int)) ∧ w3.frozen? ⟨cb, 1, none⟩ = false ∧ CB w3 col κ cb ob mb c (X ++ Y) (X ++ Y) ∧ Only col (fun k => k = κ) w w3) := Lib.hid (fun w3 hb3 => by
    have hC3 := HC2.out.drew.below hb3
    exact ⟨by rw [HX1.out]; exact hC3.c 1 (by decide), hC3.ct.f 1, hC3, (only_drew' HO2.out).trans' (only_of_below' hb3)⟩)
  go_region_law (first
    | (go_simp; go_at_call 21; with_reducible refine (CD.out _).mono ?_; rintro r w3 ⟨rfl, hb3⟩; obtain ⟨g1, g2, hC3, hO3⟩ := HCELL.out _ hb3; have HC3 := Lib.hid hC3; have HO3 := Lib.hid hO3; clear hC3 hO3 hb3)
    | fail)
  all_goals (
    have hC4 := HC3.out.num (j := 1) (by decide) y1
    have i6 : (w3.setCell ⟨cb, 1, none⟩ (.int .i64 (y1 : Int))).cell? ⟨cb, 6, none⟩ = some (.int .i64 (x6 : Int)) := by rw [HX6.out]; exact hC4.c 6 (by decide)
    have j6 := hC4.ct.f 6
    have HO4 : Hid (Only col (fun k => k = κ) w (w3.setCell ⟨cb, 1, none⟩ (.int .i64 (y1 : Int)))) := Lib.hid (HO3.out.trans' (only_setCell' (p := ⟨cb, 1, none⟩) HCB.out _))
    have HC4 := Lib.hid hC4
    clear hC4 e1 f1 ek ev ep g1 g2
    generalize w3.setCell ⟨cb, 1, none⟩ (.int .i64 (y1 : Int)) = w4 at *
    go_wp2
    go_end0
    have hC5 := HC4.out.num (j := 6) (by decide) y6
    rw [HGC.out] at hC5
    exact ⟨rfl, hC5, HO4.out.trans' (only_setCell' (p := ⟨cb, 6, none⟩) HCB.out _)⟩)
end Go.Proofs.Ythaccjjkbbkehaa
