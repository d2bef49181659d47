/- Is a node a complete subtree that is there? Its hash. -/
import Derived.Test.YtafookdllnhdaaaDoorMa25
namespace Go.Proofs.YtafookdllnhdaaaDoor
open Go.RowKit Go.Scr Go.ChangeMaps Go.MapKept
set_option linter.unusedVariables false
theorem cL_high {n l : Nat} (h : ¬ l < Lib.bitLen n) (hn : n ≤ 1048576) : cL n l = 0 := by
  unfold cL
  rcases Nat.eq_zero_or_pos n with e | e
  · rw [e]; simp
  · obtain ⟨k, q1, q2, q3⟩ := bitLen_spec n (by omega) (by omega)
    have : 2 ^ (k + 1) ≤ 2 ^ l := Nat.pow_le_pow_right (by decide) (by omega)
    exact Nat.div_eq_of_lt (by omega)
set_option maxRecDepth 100000 in
set_option maxHeartbeats 4000000 in
theorem complete_any {w : World} {tb h n l i : Nat} {c : Nat → Nat} {val : Nat → Nat → ByteArray} {col : Col} (t : TreeI w tb h n c val col) (hn : n ≤ 1048576) (hl : l ≤ 63) (hi40 : i ≤ 1099511627776) :
    Calls Tryd.prog 59 #[bpT tb, .agg #[.int .i64 (l : Int), .int .i64 (i : Int)]] w fun o w' => o = .returned (.bool (decide (i < cL n l))) ∧ Below w.heap.size w w' := by
  obtain ⟨mv, hb⟩ := t.box
  have h0 : (0 : Int) ≤ (l : Int) := by omega
  have h1 : (0 : Int) ≤ (i : Int) := by omega
  obtain ⟨w2, hw2⟩ : ∃ y, y = w.alloc (.cells #[.int .i64 (l : Int), .int .i64 (i : Int)] 62) := ⟨_, rfl⟩
  have HBE : Hid (Below w.heap.size w w2) := Lib.hid (by rw [hw2]; exact (Below.refl _ _).alloc (Nat.le_refl _) _)
  obtain ⟨sb, hsb⟩ : ∃ y, y = w.heap.size := ⟨_, rfl⟩
  have hbx : w2.heap[sb]? = some (.cells #[.int .i64 (l : Int), .int .i64 (i : Int)] 62 (0, 0)) := by rw [hw2, hsb]; exact heap_alloc_new w _
  have HSZ := Lib.hid hsb
  have HW2 := Lib.hid hw2
  have HS : Hid (∀ k, (w2.drewN k).cell? ⟨sb, 0, none⟩ = some (.int .i64 (l : Int)) ∧ (w2.drewN k).cell? ⟨sb, 1, none⟩ = some (.int .i64 (i : Int)) ∧ (w2.drewN k).cell? ⟨tb, 1, none⟩ = some (.int .i64 (n : Int))) := Lib.hid (fun k => ⟨cellB hbx rfl, cellB hbx rfl, by rw [hw2]; exact cellB (w := (w.alloc _).drewN k) (blk_alloc hb) rfl⟩)
  have c0 : w2.cell? ⟨sb, 0, none⟩ = some (.int .i64 (l : Int)) := (HS.out 0).1
  have c1 : w2.cell? ⟨sb, 1, none⟩ = some (.int .i64 (i : Int)) := (HS.out 0).2.1
  have c2 : w2.cell? ⟨tb, 1, none⟩ = some (.int .i64 (n : Int)) := (HS.out 0).2.2
  obtain ⟨b, hbl⟩ : ∃ b, b = Lib.bitLen n := ⟨_, rfl⟩
  have hb64 : b ≤ 64 := by rw [hbl]; exact Lib.bitLen_le n 64 (by omega) (by omega)
  have CL : Hid (∀ w3, Calls Tryd.prog 42 #[.int .u64 (n : Int)] w3 fun o w' => o = .returned (.int .i64 (b : Int)) ∧ w' = w3) := Lib.hid (fun w3 => by rw [hbl]; exact len_any n w3 (by omega))
  obtain ⟨p, hp⟩ : ∃ p, p = 2 ^ l := ⟨_, rfl⟩
  have hpI : (2 : Int) ^ l = (p : Int) := by rw [hp]; simp
  obtain ⟨q, hq⟩ : ∃ q, q = n / p := ⟨_, rfl⟩
  have hqI : (n : Int) / (p : Int) = (q : Int) := by rw [hq]; simp
  have hqn : q ≤ n := by rw [hq]; exact Nat.div_le_self _ _
  have hcl : cL n l = q := by unfold cL; rw [hq, hp]
  have HCL : Hid (cL n l = q ∧ (¬ l < b → q = 0)) := Lib.hid ⟨hcl, fun h => by rw [← hcl]; exact cL_high (by rw [← hbl]; exact h) hn⟩
  rw [hcl]
  clear t hb hbx hsb hw2 hbl hp hq hcl
  by_cases hlb : l < b
  · have hlbI : (l : Int) < (b : Int) := by omega
    clear hlb
    go_enter Tryd.func59, Tryd.ntmps59
    go_upto_region 1 with fail
    rw [← HW2.out, ← HSZ.out]
    go_quiet ((go_at_call 42; exact Calls.quiet_of_same (CL.out _)))
    go_wp2
    go_ret
    exact ⟨by simp, below_drewN HBE.out _⟩
  · have hlbI : ¬ (l : Int) < (b : Int) := by omega
    have hq0 := HCL.out.2 hlb
    rw [hq0]
    clear hlb hq0
    go_enter Tryd.func59, Tryd.ntmps59
    go_upto_region 1 with fail
    rw [← HW2.out, ← HSZ.out]
    go_quiet ((go_at_call 42; exact Calls.quiet_of_same (CL.out _)))
    go_wp2
    go_ret
    exact ⟨by simp, below_drewN HBE.out _⟩
def hashT (n : Nat) (val : Nat → Nat → ByteArray) (l i : Nat) : Value := if i < cL n l then .tuple #[.string (val l i), .int .i64 0] else .tuple #[.string ⟨#[]⟩, .int .i64 72]
set_option maxRecDepth 100000 in
set_option maxHeartbeats 4000000 in
theorem hash_at {w : World} {tb h n l i : Nat} {val : Nat → Nat → ByteArray} {col : Col} (t : TreeI w tb h n (cL n) val col) (hn : n ≤ 1048576) (hl : l ≤ 63) (hi40 : i ≤ 1099511627776) :
    Calls Tryd.prog 30 #[bpT tb, .agg #[.int .i64 (l : Int), .int .i64 (i : Int)]] w fun o w' => o = .returned (hashT n val l i) ∧ Below w.heap.size w w' := by
  obtain ⟨b, hb0⟩ : ∃ b, b = decide (i < cL n l) := ⟨_, rfl⟩
  have CC : Hid (∀ w3, Below w.heap.size w w3 → Calls Tryd.prog 59 #[bpT tb, .agg #[.int .i64 (l : Int), .int .i64 (i : Int)]] w3 fun o w' => o = .returned (.bool b) ∧ Below w3.heap.size w3 w') := Lib.hid (fun w3 hb3 => by rw [hb0]; exact complete_any (t.below hb3) hn hl hi40)
  obtain ⟨w2, hw2⟩ : ∃ y, y = w.alloc (.cells #[.int .i64 (l : Int), .int .i64 (i : Int)] 62) := ⟨_, rfl⟩
  have HBE : Hid (Below w.heap.size w w2) := Lib.hid (by rw [hw2]; exact (Below.refl _ _).alloc (Nat.le_refl _) _)
  obtain ⟨sb, hsb⟩ : ∃ y, y = w.heap.size := ⟨_, rfl⟩
  have hbx : w2.heap[sb]? = some (.cells #[.int .i64 (l : Int), .int .i64 (i : Int)] 62 (0, 0)) := by rw [hw2, hsb]; exact heap_alloc_new w _
  have HSZ := Lib.hid hsb
  have HW2 := Lib.hid hw2
  have HSB := Lib.hid hbx
  have c0 : w2.cell? ⟨sb, 0, none⟩ = some (.int .i64 (l : Int)) := cellB hbx rfl
  have c1 : w2.cell? ⟨sb, 1, none⟩ = some (.int .i64 (i : Int)) := cellB hbx rfl
  by_cases hlt : i < cL n l
  · obtain rfl : b = true := by rw [hb0]; simp [hlt]
    have CN : Hid (∀ w3, Below w.heap.size w w3 → Calls Tryd.prog 43 #[bpT tb, .agg #[.int .i64 (l : Int), .int .i64 (i : Int)]] w3 fun o w' => o = .returned (.string (val l i)) ∧ Below w3.heap.size w3 w') := Lib.hid (fun w3 hb3 => node_at (t.below hb3) (by omega) hi40 hlt)
    have HR : Hid (hashT n val l i = .tuple #[.string (val l i), .int .i64 0]) := Lib.hid (if_pos hlt)
    rw [HR.out]
    clear t hbx hsb hw2 hlt hb0
    go_enter Tryd.func30, Tryd.ntmps30
    go_upto_region 1 with fail
    rw [← HW2.out, ← HSZ.out]
    go_wp2_with (first
      | (go_at_call 59; refine (CC.out _ HBE.out).mono ?_; rintro o w3 ⟨rfl, hb3⟩; have HB3 : Hid (Below w.heap.size w w3) := Lib.hid (HBE.out.trans (hb3.mono HBE.out.size)); have k0 : w3.cell? ⟨sb, 0, none⟩ = some (.int .i64 (l : Int)) := cellB (blk_below HSB.out hb3 (blk_lt HSB.out)) rfl; have k1 : w3.cell? ⟨sb, 1, none⟩ = some (.int .i64 (i : Int)) := cellB (blk_below HSB.out hb3 (blk_lt HSB.out)) rfl; clear hb3 c0 c1)
      | (go_at_call 43; refine (CN.out _ HB3.out).mono ?_; rintro o w4 ⟨rfl, hb4⟩; have HB4 : Hid (Below w.heap.size w w4) := Lib.hid (HB3.out.trans (hb4.mono HB3.out.size)); clear hb4))
    go_ret2
    exact ⟨rfl, HB4.out⟩
  · obtain rfl : b = false := by rw [hb0]; simp [hlt]
    have HR : Hid (hashT n val l i = .tuple #[.string ⟨#[]⟩, .int .i64 72]) := Lib.hid (if_neg hlt)
    rw [HR.out]
    clear t hbx hsb hw2 hlt hb0
    go_enter Tryd.func30, Tryd.ntmps30
    go_upto_region 1 with fail
    rw [← HW2.out, ← HSZ.out]
    go_wp2_with (go_at_call 59; refine (CC.out _ HBE.out).mono ?_; rintro o w3 ⟨rfl, hb3⟩; have HB3 : Hid (Below w.heap.size w w3) := Lib.hid (HBE.out.trans (hb3.mono HBE.out.size)); clear hb3 c0 c1)
    go_ret2
    exact ⟨rfl, HB3.out⟩
end Go.Proofs.YtafookdllnhdaaaDoor
