/- The cache's small calls: a link taken out, put in; the table asked; what a thing counts. -/
import Derived.Test.YthaccjjkbbkehaaCa3
import Derived.WalkKit
import Derived.WalkSpells
import Derived.WalkLawsBesides
import Derived.Lib.Hide
import Derived.BigRegion
import Derived.RegionTactic
import Derived.Deep.QuietTactic
import Derived.Deep.RegionWith
import Derived.Deep.RegionLaw
namespace Go.Proofs.Ythaccjjkbbkehaa
open Go.RowKit Go.Scr Go.Maps
set_option linter.unusedVariables false

set_option maxRecDepth 100000 in
set_option maxHeartbeats 1000000 in
theorem take_any {w : World} {col : Nat → Nat} {κ cb ob mb : Nat} {c : Nat → Nat} {X Y M : List Ent} {e : Ent} (h : CB w col κ cb ob mb c (X ++ e :: Y) M) :
    Calls Try.prog 25 #[bp ob, bp e.blk] w fun r w' => r = .returned (.tuple #[]) ∧ CB w' col κ cb ob mb c (X ++ Y) M ∧ EntAt w' e ∧ e.blk ∉ ob :: blks (X ++ Y) ∧ Only col (fun k => k = κ) w w' := by
  obtain ⟨a, b, h3, h4, ⟨ua, ha⟩, ⟨ub, hb⟩, ta, tb, ca, cb', hC, hE, hn⟩ := h.take
  have hO : Only col (fun k => k = κ) w ((w.setCell ⟨a, 4, none⟩ (bp b)).setCell ⟨b, 3, none⟩ (bp a)) := (only_setCell' (p := ⟨a, 4, none⟩) ca _).trans' (only_setCell' (p := ⟨b, 3, none⟩) cb' _)
  have fa := ta.f 4
  have fb := tb.f 3
  have hb' : (w.setCell ⟨a, 4, none⟩ (bp b)).cell? ⟨b, 3, none⟩ = some ub := by rw [cs_ne _ (.inr (by decide))]; exact hb
  have HC := Lib.hid hC
  have HE := Lib.hid hE
  have HN := Lib.hid hn
  have HO := Lib.hid hO
  clear h hC hE hn hO ta tb ca cb'
  go_enter Try.func25, Try.ntmps25
  go_wp2
  go_region
  all_goals go_wp2
  all_goals go_end0
  all_goals exact ⟨rfl, HC.out.drew, HE.out.drew, HN.out, only_drew' HO.out⟩

set_option maxRecDepth 100000 in
set_option maxHeartbeats 1000000 in
theorem first_any {w : World} {col : Nat → Nat} {κ cb ob mb : Nat} {c : Nat → Nat} {L M : List Ent} {e : Ent} (h : CB w col κ cb ob mb c L M) (he : EntAt w e) (hce : col e.blk = κ) (hn : e.blk ∉ ob :: blks L) (hnc : e.blk ≠ cb) :
    Calls Try.prog 26 #[bp ob, bp e.blk] w fun r w' => r = .returned (.tuple #[]) ∧ CB w' col κ cb ob mb c (e :: L) M ∧ Only col (fun k => k = κ) w w' := by
  obtain ⟨q, h4, ⟨uq, hq⟩, tq, cq, hC⟩ := h.first he hce hn hnc
  have hob : col ob = κ := h.cc.2.1
  have hO : Only col (fun k => k = κ) w ((((w.setCell ⟨e.blk, 3, none⟩ (bp ob)).setCell ⟨e.blk, 4, none⟩ (bp q)).setCell ⟨ob, 4, none⟩ (bp e.blk)).setCell ⟨q, 3, none⟩ (bp e.blk)) :=
    (((only_setCell' (p := ⟨e.blk, 3, none⟩) hce _).trans' (only_setCell' (p := ⟨e.blk, 4, none⟩) hce _)).trans' (only_setCell' (p := ⟨ob, 4, none⟩) hob _)).trans' (only_setCell' (p := ⟨q, 3, none⟩) cq _)
  obtain ⟨u3, hu3⟩ := he.a
  obtain ⟨u4, hu4⟩ := he.n
  obtain ⟨b, hb⟩ : ∃ b, b = e.blk := ⟨_, rfl⟩
  rw [← hb] at hC hO hu3 hu4 hn
  have fb3 : w.frozen? ⟨b, 3, none⟩ = false := by rw [hb]; exact he.t.f 3
  have fb4 : w.frozen? ⟨b, 4, none⟩ = false := by rw [hb]; exact he.t.f 4
  have fo4 := h.ot.f 4
  have fq3 := tq.f 3
  have hbo : b ≠ ob := fun e' => hn (by simp [e'])
  have hbq : q ≠ b := by
    obtain ⟨q', B', hB, k1, _⟩ := h.rg.head
    rw [h4] at k1
    have : q = q' := by simpa using k1
    rintro rfl
    have : q ∈ blks L ++ [ob] := by rw [hB, this]; simp
    simp only [List.mem_append, List.mem_singleton] at this
    rcases this with h1 | h1
    · exact hn (List.mem_cons_of_mem _ h1)
    · exact hbo h1
  obtain ⟨w1, hw1⟩ : ∃ x, x = ((w.setCell ⟨b, 3, none⟩ (bp ob)).setCell ⟨b, 4, none⟩ (bp q)).drew := ⟨_, rfl⟩
  have hu4' : (w.setCell ⟨b, 3, none⟩ (bp ob)).cell? ⟨b, 4, none⟩ = some u4 := by rw [cs_ne _ (.inr (by decide))]; exact hu4
  have k3 : w1.cell? ⟨b, 3, none⟩ = some (bp ob) := by rw [hw1]; show ((w.setCell ⟨b, 3, none⟩ (bp ob)).setCell ⟨b, 4, none⟩ (bp q)).cell? _ = _; rw [cs_ne _ (.inr (by decide)), cs_at _ hu3]
  have k4 : w1.cell? ⟨b, 4, none⟩ = some (bp q) := by rw [hw1]; show ((w.setCell ⟨b, 3, none⟩ (bp ob)).setCell ⟨b, 4, none⟩ (bp q)).cell? _ = _; rw [cs_at _ hu4']
  have ko : w1.cell? ⟨ob, 4, none⟩ = some (bp q) := by rw [hw1]; show ((w.setCell ⟨b, 3, none⟩ (bp ob)).setCell ⟨b, 4, none⟩ (bp q)).cell? _ = _; rw [cs_ne _ (.inl hbo), cs_ne _ (.inl hbo)]; exact h4
  have kq : w1.cell? ⟨q, 3, none⟩ = some uq := by rw [hw1]; show ((w.setCell ⟨b, 3, none⟩ (bp ob)).setCell ⟨b, 4, none⟩ (bp q)).cell? _ = _; rw [cs_ne _ (.inl hbq.symm), cs_ne _ (.inl hbq.symm)]; exact hq
  have kq' : (w1.setCell ⟨ob, 4, none⟩ (bp b)).cell? ⟨q, 3, none⟩ = some uq := by rw [cs_ne _ (.inr (by decide))]; exact kq
  have go4 : w1.frozen? ⟨ob, 4, none⟩ = false := by rw [hw1]; show ((w.setCell ⟨b, 3, none⟩ (bp ob)).setCell ⟨b, 4, none⟩ (bp q)).frozen? _ = _; rw [frozen_set, frozen_set]; exact fo4
  have gq3 : w1.frozen? ⟨q, 3, none⟩ = false := by rw [hw1]; show ((w.setCell ⟨b, 3, none⟩ (bp ob)).setCell ⟨b, 4, none⟩ (bp q)).frozen? _ = _; rw [frozen_set, frozen_set]; exact fq3
  have HW1 := Lib.hid hw1
  have HC : Hid (CB ((w1.setCell ⟨ob, 4, none⟩ (bp b)).setCell ⟨q, 3, none⟩ (bp b)) col κ cb ob mb c (e :: L) M) := Lib.hid (by rw [hw1]; exact hC.drew)
  have HO : Hid (Only col (fun k => k = κ) w ((w1.setCell ⟨ob, 4, none⟩ (bp b)).setCell ⟨q, 3, none⟩ (bp b))) := Lib.hid (by rw [hw1]; exact only_drew' hO)
  rw [← hb]
  clear h he hce hn hnc hC hO tq cq hob hb hbo hbq hw1
  go_enter Try.func26, Try.ntmps26
  go_wp2
  go_region
  clear hu3 hu4 hu4' fb3 fb4 fo4 fq3 hq h4
  rw [← HW1.out]
  go_wp2
  go_region
  go_wp2
  go_end0
  exact ⟨rfl, HC.out.drew, only_drew' HO.out⟩
end Go.Proofs.Ythaccjjkbbkehaa
