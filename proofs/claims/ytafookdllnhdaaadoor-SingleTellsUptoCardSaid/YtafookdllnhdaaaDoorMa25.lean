/- A tree made; its size, its height; a complete subtree asked. -/
import Derived.Test.YtafookdllnhdaaaDoorMa23
import Derived.Test.YtafookdllnhdaaaDoorMa11
import Derived.Deep.RegionHeld3
namespace Go.Proofs.YtafookdllnhdaaaDoor
open Go.RowKit Go.Scr Go.ChangeMaps Go.MapKept
set_option linter.unusedVariables false
theorem cL_none (l : Nat) : cL 0 l = 0 := by unfold cL; simp
theorem tree_none {w : World} {tb r h : Nat} (hh : 1 ≤ h ∧ h ≤ 8) (hb : w.heap[tb]? = some (.cells #[.int .i64 (h : Int), .int .i64 ((0 : Nat) : Int), .map (some r)] 65 (0, 0))) (hr : w.heap[r]? = some (.map #[] 0)) :
    ∃ col : Col, TreeI w tb h 0 (cL 0) (valL []) col ∧ ∀ g, col g ≠ none → g = tb ∨ g = r := by
  have hne : r ≠ tb := fun e => by rw [e, hb] at hr; cases hr
  refine ⟨fun g => if g = tb then some (0, 0, 1000) else if g = r then some (0, 0, 1001) else none, ⟨r, fun _ _ => False, fun _ _ => 0, fun _ _ _ => .slice none 0 0, #[], 0, ⟨hb, hr, if_pos rfl, by rw [if_neg hne, if_pos rfl], fun e he => by simp at he, fun _ _ h => h.elim, by simp, fun _ _ h => h.elim, fun _ _ _ h => h.elim, fun g hg => ?_, cL_mono 0, hh, (fun e he => by simp at he), by simp⟩, fun lv ix => ?_⟩, fun g hg => ?_⟩
  · by_cases e : g = tb
    · rw [e]; exact blk_lt hb
    · by_cases e2 : g = r
      · rw [e2]; exact blk_lt hr
      · simp [e, e2] at hg
  · unfold exT
    rw [cL_none]
    simp
  · by_cases e : g = tb
    · exact .inl e
    · by_cases e2 : g = r
      · exact .inr e2
      · simp [e, e2] at hg
set_option maxRecDepth 100000 in
set_option maxHeartbeats 1000000 in
theorem tnew_any {w : World} {B h : Nat} (hB : B ≤ w.heap.size) (hh : 1 ≤ h ∧ h ≤ 8) :
    Calls Tryd.prog 6 #[.int .i64 (h : Int)] w fun o w' => ∃ tb col, o = .returned (.tuple #[bpT tb, .int .i64 0]) ∧ TreeU w' B tb h [] col ∧ Below w.heap.size w w' ∧ (∀ g, col g ≠ none → w.heap.size ≤ g) := by
  have h1 : ¬ (h : Int) < 1 := by omega
  have h8 : ¬ (8 : Int) < (h : Int) := by omega
  have HH := Lib.hid hh
  have hmk : (Instr.makeMap 63 none).run Tryd.prog w = .ok (.map (some w.heap.size)) (w.alloc (.map #[] 0)) := rfl
  clear hh
  go_enter Tryd.func6, Tryd.ntmps6
  go_wp2
  go_ret2
  have hr : ((w.alloc (.map #[] 0)).alloc (.cells #[.int .i64 (h : Int), .int .i64 0, .map (some w.heap.size)] 65)).heap[w.heap.size]? = some (.map #[] 0) := blk_alloc (heap_alloc_new w _)
  have hb : ((w.alloc (.map #[] 0)).alloc (.cells #[.int .i64 (h : Int), .int .i64 0, .map (some w.heap.size)] 65)).heap[w.heap.size + 1]? = some (.cells #[.int .i64 (h : Int), .int .i64 ((0 : Nat) : Int), .map (some w.heap.size)] 65 (0, 0)) := by
    have := heap_alloc_new (w.alloc (.map #[] 0)) (.cells #[.int .i64 (h : Int), .int .i64 0, .map (some w.heap.size)] 65)
    rwa [show (w.alloc (.map #[] 0)).heap.size = w.heap.size + 1 by simp] at this
  obtain ⟨col, ht, hc⟩ := tree_none HH.out hb hr
  have hl : ∀ g, col g ≠ none → w.heap.size ≤ g := fun g hg => by
    rcases hc g hg with e | e <;> omega
  exact ⟨w.heap.size + 1, rfl, col, ⟨ht, fun g hg => Nat.le_trans hB (hl g hg), (fun s hs => nomatch hs), Nat.zero_le _⟩, ((Below.refl _ _).alloc (Nat.le_refl _) _).alloc (by simp) _, hl⟩
set_option maxRecDepth 100000 in
theorem size_any {w : World} {tb h n : Nat} {c : Nat → Nat} {val : Nat → Nat → ByteArray} {col : Col} (t : TreeI w tb h n c val col) : Calls Tryd.prog 11 #[bpT tb] w fun o w' => o = .returned (.int .i64 (n : Int)) ∧ w' = w := by
  obtain ⟨mv, hb⟩ := t.box
  have c1 : w.cell? ⟨tb, 1, none⟩ = some (.int .i64 (n : Int)) := cellB hb rfl
  clear hb t
  go_enter Tryd.func11, Tryd.ntmps11
  go_wp2
  go_ret
  exact ⟨rfl, rfl⟩
set_option maxRecDepth 100000 in
theorem height_any {w : World} {tb h n : Nat} {c : Nat → Nat} {val : Nat → Nat → ByteArray} {col : Col} (t : TreeI w tb h n c val col) : Calls Tryd.prog 38 #[bpT tb] w fun o w' => o = .returned (.int .i64 (h : Int)) ∧ w' = w := by
  obtain ⟨mv, hb⟩ := t.box
  have c1 : w.cell? ⟨tb, 0, none⟩ = some (.int .i64 (h : Int)) := cellB hb rfl
  clear hb t
  go_enter Tryd.func38, Tryd.ntmps38
  go_wp2
  go_ret
  exact ⟨rfl, rfl⟩
end Go.Proofs.YtafookdllnhdaaaDoor
/- The hash of a span that is there. -/
namespace Go.Proofs.YtafookdllnhdaaaDoor
open Go.RowKit Go.Scr Go.ChangeMaps Go.MapKept
set_option linter.unusedVariables false
theorem TreeU.below {w w' : World} {B tb h : Nat} {L : List ByteArray} {col : Col} (t : TreeU w B tb h L col) (hb : Below w.heap.size w w') : TreeU w' B tb h L col := ⟨t.t.below hb, t.b, t.z, t.n⟩
theorem rootR_nil : rootR [] = hempty := by unfold rootR rootL; rfl
theorem spl_of {n i : Nat} (h1 : 2 ^ i < n) (h2 : n ≤ 2 ^ (i + 1)) : spl n = 2 ^ i := by
  have h0 := two_pos i
  obtain ⟨k, q1, q2, q3⟩ := spl_pow (show 2 ≤ n by omega)
  have h3 := (Nat.pow_lt_pow_iff_right (show 1 < 2 by decide)).1 (Nat.lt_of_lt_of_le h1 q3)
  have h4 := (Nat.pow_lt_pow_iff_right (show 1 < 2 by decide)).1 (Nat.lt_of_lt_of_le q2 h2)
  rw [q1, show k = i by omega]
def partL (L : List ByteArray) (b e : Nat) : ByteArray := rootR ((L.drop b).take (e - b))
theorem partL_node {L : List ByteArray} {b e k : Nat} (hd : e - b = 2 ^ k) (hm : b % 2 ^ k = 0) : partL L b e = valL L k (b / 2 ^ k) := by
  unfold partL valL
  have := idx_back b k
  rw [hd, show b / 2 ^ k * 2 ^ k = b by omega]
theorem partL_two {L : List ByteArray} {b e m : Nat} (h2 : 2 ≤ e - b) (he : e ≤ L.length) (hm : m = spl (e - b)) : partL L b e = nodeS (partL L b (b + m)) (partL L (b + m) e) := by
  have hl : ((L.drop b).take (e - b)).length = e - b := by rw [List.length_take, List.length_drop]; omega
  have hs := spl_lt h2
  unfold partL
  rw [rootR_split (by rw [hl]; exact h2), hl, ← hm, List.take_take, Nat.min_eq_left (by omega), show b + m - b = m by omega, List.drop_take, List.drop_drop, show e - b - m = e - (b + m) by omega]
theorem tlen_any (d k : Nat) (hk1 : 2 ^ k ≤ d) (hk2 : d < 2 ^ (k + 1)) (hd : d ≤ 1048576) (w : World) : Calls Tryd.prog 42 #[.int .u64 (d : Int)] w fun o w' => o = .returned (.int .i64 ((k : Int) + 1)) ∧ w' = w := by
  have hp := two_pos k
  obtain ⟨k2, q1, q2, q3⟩ := bitLen_spec d (by omega) (by omega)
  have h3 := (Nat.pow_lt_pow_iff_right (show 1 < 2 by decide)).1 (Nat.lt_of_le_of_lt hk1 q3)
  have h4 := (Nat.pow_lt_pow_iff_right (show 1 < 2 by decide)).1 (Nat.lt_of_le_of_lt q2 hk2)
  have := len_any d w (by omega)
  rw [q1, show k2 = k by omega] at this
  exact this
theorem pow_ex {d : Nat} (h : 1 ≤ d) (hd : d ≤ 1048576) : ∃ k, 2 ^ k ≤ d ∧ d < 2 ^ (k + 1) ∧ k ≤ 20 := by
  obtain ⟨k, _, q2, q3⟩ := bitLen_spec d (by omega) (by omega)
  refine ⟨k, q2, q3, ?_⟩
  apply Decidable.byContradiction
  intro hc
  have : 2 ^ 21 ≤ 2 ^ k := Nat.pow_le_pow_right (by decide) (by omega)
  omega
end Go.Proofs.YtafookdllnhdaaaDoor
/- The hash of a span that is there: walked. -/
namespace Go.Proofs.YtafookdllnhdaaaDoor
open Go.RowKit Go.Scr Go.ChangeMaps Go.MapKept
set_option linter.unusedVariables false
set_option maxRecDepth 100000 in
set_option maxHeartbeats 8000000 in
theorem part_any {B tb h : Nat} {L : List ByteArray} {col : Col} (d : Nat) : ∀ (b e : Nat) (w : World), e - b = d → b ≤ e → e ≤ L.length → TreeU w B tb h L col → Bas w B →
    Calls Tryd.prog 46 #[bpT tb, .agg #[.int .i64 (b : Int), .int .i64 (e : Int)]] w fun o w' => o = .returned (.string (partL L b e)) ∧ Below w.heap.size w w' := by
  induction d using Nat.strongRecOn with
  | ind d ih =>
  intro b e w hd hbe he t hB
  have IH := Lib.hid ih
  clear ih
  have hL := t.n
  have hb20 : b ≤ 1048576 := by omega
  have he20 : e ≤ 1048576 := by omega
  have hd20 : d ≤ 1048576 := by omega
  have hdi : (e : Int) - (b : Int) = (d : Int) := by omega
  have HD : Hid (e ≤ L.length ∧ d = e - b) := Lib.hid ⟨he, hd.symm⟩
  have HT := Lib.hid t
  have HB := Lib.hid hB
  obtain ⟨w2, hw2⟩ : ∃ y, y = w.alloc (.cells #[.int .i64 (b : Int), .int .i64 (e : Int)] 46) := ⟨_, rfl⟩
  have HBE : Hid (Below w.heap.size w w2) := Lib.hid (by rw [hw2]; exact (Below.refl _ _).alloc (Nat.le_refl _) _)
  obtain ⟨sb, hsb⟩ : ∃ y, y = w.heap.size := ⟨_, rfl⟩
  have hbx : w2.heap[sb]? = some (.cells #[.int .i64 (b : Int), .int .i64 (e : Int)] 46 (0, 0)) := by rw [hw2, hsb]; exact heap_alloc_new w _
  have HSB := Lib.hid hbx
  have HSZ := Lib.hid hsb
  have HW2 := Lib.hid hw2
  have c0 : w2.cell? ⟨sb, 0, none⟩ = some (.int .i64 (b : Int)) := cellB hbx rfl
  have c1 : w2.cell? ⟨sb, 1, none⟩ = some (.int .i64 (e : Int)) := cellB hbx rfl
  clear t hB he hd hL hbx hsb hw2
  by_cases hz : d = 0
  · have hzi : ((d : Int) == 0) = true := by simp [hz]
    have HE : Hid (∀ w3, Below w.heap.size w w3 → Calls Tryd.prog 41 #[] w3 fun e w' => e = .returned (.string hempty) ∧ Below w3.heap.size w3 w') := Lib.hid (fun w3 hb3 => dempty_any w3 (HB.out.tabs.below hb3))
    have HR : Hid (partL L b e = hempty) := Lib.hid (by unfold partL; rw [← HD.out.2, hz, List.take_zero]; exact rootR_nil)
    clear hz
    go_enter Tryd.func46, Tryd.ntmps46
    go_upto_region 1 with fail
    rw [← HW2.out, ← HSZ.out]
    go_wp2_with (go_at_call 41; refine (HE.out _ HBE.out).mono ?_; rintro o w3 ⟨rfl, hb3⟩; have HB3 := Lib.hid hb3; clear hb3)
    go_ret
    exact ⟨by rw [HR.out]; rfl, HBE.out.trans (HB3.out.mono HBE.out.size)⟩
  have hzi : ((d : Int) == 0) = false := by rw [beq_eq_false_iff_ne]; omega
  obtain ⟨k, hk1, hk2, hk20⟩ := pow_ex (d := d) (by omega) hd20
  have HK : Hid (2 ^ k ≤ d ∧ d < 2 ^ (k + 1)) := Lib.hid ⟨hk1, hk2⟩
  have HL1 : Hid (∀ w2, Calls Tryd.prog 42 #[.int .u64 (d : Int)] w2 fun o w' => o = .returned (.int .i64 ((k : Int) + 1)) ∧ w' = w2) := Lib.hid (fun w2 => tlen_any d k hk1 hk2 hd20 w2)
  obtain ⟨p, hp⟩ : ∃ y, y = 2 ^ k := ⟨_, rfl⟩
  have hpI : (2 : Int) ^ k = (p : Int) := by rw [hp]; simp
  have hp20 : p ≤ 1048576 := by omega
  have hp1 : 1 ≤ p := by rw [hp]; exact two_pos k
  by_cases hc : d = p ∧ b % p = 0
  · have hde : ((d : Int) == (p : Int)) = true := by simp [hc.1]
    have hand : bits .and .i64 (b : Int) ((d : Int) - 1) = 0 := by
      have := i64_andm b k (by omega)
      rw [← hp, hc.2] at this
      rw [show (0 : Int) = ((0 : Nat) : Int) from rfl, ← this]
      congr 1
      omega
    obtain ⟨i, hi⟩ : ∃ y, y = b / p := ⟨_, rfl⟩
    have hii : (b : Int) / (p : Int) = (i : Int) := by rw [hi]; simp
    have hib : i ≤ b := by rw [hi]; exact Nat.div_le_self _ _
    have HN : Hid (∀ w3, Below w.heap.size w w3 → Calls Tryd.prog 43 #[bpT tb, .agg #[.int .i64 (k : Int), .int .i64 (i : Int)]] w3 fun o w' => o = .returned (.string (partL L b e)) ∧ Below w3.heap.size w3 w') := Lib.hid (fun w3 hb3 => by
      rw [partL_node (k := k) (by rw [← hp, ← hc.1]; exact HD.out.2.symm) (by rw [← hp]; exact hc.2), ← hp, ← hi]
      refine node_at (HT.out.below hb3).t (by omega) (by omega) (cL_lt.2 ?_)
      rw [← hp, hi, Nat.add_mul, Nat.one_mul]
      have := Nat.div_mul_le_self b p
      have := HD.out
      omega)
    obtain ⟨s, hs⟩ : ∃ y, y = partL L b e := ⟨_, rfl⟩
    rw [← hs] at HN ⊢
    clear hp hi hc hz hk1 hk2 hs
    go_enter Tryd.func46, Tryd.ntmps46
    go_upto_region 1 with fail
    rw [← HW2.out, ← HSZ.out]
    go_wp2_with (first
      | (go_at_call 42; refine (HL1.out _).mono ?_; rintro o w' ⟨rfl, hww⟩; replace hww := hww.symm; subst hww)
      | (go_at_call 43; refine (HN.out _ HBE.out).mono ?_; rintro o w3 ⟨rfl, hb3⟩; have HB3 := Lib.hid hb3; clear hb3))
    go_ret
    exact ⟨rfl, HBE.out.trans (HB3.out.mono HBE.out.size)⟩
  have HNO : Hid (¬ (d = 2 ^ k ∧ b % 2 ^ k = 0)) := Lib.hid (by rw [← hp]; exact hc)
  have hd0 : 1 ≤ d := by omega
  by_cases hdp : d = p
  · have hde : ((d : Int) == (p : Int)) = true := by simp [hdp]
    have hand : bits .and .i64 (b : Int) ((d : Int) - 1) = ((b % p : Nat) : Int) := by
      have := i64_andm b k (by omega)
      rw [← hp] at this
      rw [← this]
      congr 1
      omega
    obtain ⟨bm, hbm⟩ : ∃ y, y = b % p := ⟨_, rfl⟩
    rw [← hbm] at hand
    have hbm0 : ((bm : Int) == 0) = false := by rw [beq_eq_false_iff_ne]; intro h; exact hc ⟨hdp, by rw [← hbm]; omega⟩
    clear hp hc hz hk1 hk2 hbm hdp
    go_enter Tryd.func46, Tryd.ntmps46
    go_upto_region 1 with fail
    rw [← HW2.out, ← HSZ.out]
    go_upto_region 7 with (go_at_call 42; refine (HL1.out _).mono ?_; rintro o w' ⟨rfl, hww⟩; replace hww := hww.symm; subst hww)

    have hd2 : 2 ≤ d := by
      rcases Nat.lt_or_ge d 2 with h1 | h1
      · exfalso
        have hd1 : d = 1 := by omega
        have hk0 : k = 0 := by
          rcases Nat.eq_zero_or_pos k with h | h
          · exact h
          · have : 2 ^ 1 ≤ 2 ^ k := Nat.pow_le_pow_right (by decide) h
            have := HK.out.1
            omega
        exact HNO.out (by rw [hk0, Nat.pow_zero]; exact ⟨hd1, Nat.mod_one b⟩)
      · exact h1
    obtain ⟨k2, hk21, hk22, hk220⟩ := pow_ex (d := d - 1) (by omega) (by omega)
    have hspl : spl d = 2 ^ k2 := spl_of (by omega) (by have := Nat.pow_succ 2 k2; omega)
    have hslt := spl_lt hd2
    obtain ⟨d1, hd1⟩ : ∃ y, y = d - 1 := ⟨_, rfl⟩
    have hd1i : (d : Int) - 1 = (d1 : Int) := by omega
    have HL2 : Hid (∀ w2, Calls Tryd.prog 42 #[.int .u64 (d1 : Int)] w2 fun o w' => o = .returned (.int .i64 ((k2 : Int) + 1)) ∧ w' = w2) := Lib.hid (fun w2 => tlen_any d1 k2 (by omega) (by omega) (by omega) w2)
    obtain ⟨p2, hp2⟩ : ∃ y, y = 2 ^ k2 := ⟨_, rfl⟩
    have hp2I : (2 : Int) ^ k2 = (p2 : Int) := by rw [hp2]; simp
    obtain ⟨m, hm⟩ : ∃ y, y = b + p2 := ⟨_, rfl⟩
    have hmi : (b : Int) + (p2 : Int) = (m : Int) := by omega
    have hpp : p2 < d := by rw [hp2, ← hspl]; exact hslt.2.1
    have hp0 : 0 < p2 := by rw [hp2]; exact two_pos k2
    have HP2 : Hid (partL L b e = nodeS (partL L b m) (partL L m e)) := Lib.hid (by rw [hm]; exact partL_two (by rw [← HD.out.2]; exact hd2) HD.out.1 (by rw [← HD.out.2, hspl, hp2]))
    have HI1 : Hid (∀ w2, Below w.heap.size w w2 → Calls Tryd.prog 46 #[bpT tb, .agg #[.int .i64 (b : Int), .int .i64 (m : Int)]] w2 fun o w' => o = .returned (.string (partL L b m)) ∧ Below w2.heap.size w2 w') := Lib.hid (fun w2 hb2 => IH.out p2 hpp b m w2 (by omega) (by omega) (by have := HD.out; omega) (HT.out.below hb2) (HB.out.below (hb2.mono HB.out.le)))
    have HI2 : Hid (∀ w2, Below w.heap.size w w2 → Calls Tryd.prog 46 #[bpT tb, .agg #[.int .i64 (m : Int), .int .i64 (e : Int)]] w2 fun o w' => o = .returned (.string (partL L m e)) ∧ Below w2.heap.size w2 w') := Lib.hid (fun w2 hb2 => IH.out (d - p2) (by omega) m e w2 (by have := HD.out; omega) (by have := HD.out; omega) HD.out.1 (HT.out.below hb2) (HB.out.below (hb2.mono HB.out.le)))
    have HPA : Hid (∀ l r w2, Below w.heap.size w w2 → Calls Tryd.prog 44 #[.string l, .string r] w2 fun o w' => o = .returned (.string (nodeS l r)) ∧ Below w2.heap.size w2 w') := Lib.hid (fun l r w2 hb2 => pair_any l r w2 (HB.out.tabs.below hb2))
    have hm20 : m ≤ 1048576 := by have := HD.out; have := HT.out.n; omega
    have hmw : IntKind.i64.wrap (m : Int) = (m : Int) := IntWalk.i64_in _ (by omega)
    obtain ⟨sl, hsl⟩ : ∃ y, y = partL L b m := ⟨_, rfl⟩
    obtain ⟨sr, hsr⟩ : ∃ y, y = partL L m e := ⟨_, rfl⟩
    rw [← hsl] at HI1 HP2
    rw [← hsr] at HI2 HP2
    clear hspl hslt hd1 hp2 hm hsl hsr hk21 hk22 hd2
    go_upto_region 8 with (go_at_call 42; refine (HL2.out _).mono ?_; rintro o w' ⟨rfl, hww⟩; replace hww := hww.symm; subst hww)
    have HS1 : Hid (w2.drew.cell? ⟨sb, 0, none⟩ = some (.int .i64 (b : Int)) ∧ w2.drew.cell? ⟨sb, 1, none⟩ = some (.int .i64 (e : Int))) := Lib.hid ⟨c0, c1⟩
    have HBD : Hid (Below w.heap.size w w2.drew) := Lib.hid HBE.out.drew
    have HSX : Hid (∀ w5, Below w2.heap.size w2.drew w5 → w5.cell? ⟨sb, 0, none⟩ = some (.int .i64 (b : Int)) ∧ w5.cell? ⟨sb, 1, none⟩ = some (.int .i64 (e : Int))) := Lib.hid (fun w5 hb5 => ⟨cellB (blk_below (blk_drew HSB.out) hb5 (blk_lt HSB.out)) rfl, cellB (blk_below (blk_drew HSB.out) hb5 (blk_lt HSB.out)) rfl⟩)
    have HB0 : Hid (Below w2.heap.size w2.drew w2.drew) := Lib.hid (Below.refl _ _)
    go_region_held3 (fun w' => w'.cell? ⟨sb, 0, none⟩ = some (.int .i64 (b : Int)) ∧ w'.cell? ⟨sb, 1, none⟩ = some (.int .i64 (e : Int))) (first | exact HS1.out | exact HS5.out) (first
      | (go_at_call_of 46 (Value.agg #[Value.int IntKind.i64 (b : Int), Value.int IntKind.i64 (m : Int)]); refine (HI1.out _ (by first | exact HBD.out | exact HBD5.out)).mono ?_; rintro o w5 ⟨rfl, hb5⟩; have HB5 : Hid (Below w2.heap.size w2.drew w5) := (by first | exact Lib.hid (HB5x.out.trans (hb5.mono HB5x.out.size)) | exact Lib.hid hb5); have HB5x := HB5; have HS5 := Lib.hid (HSX.out _ HB5.out); have HBD5 : Hid (Below w.heap.size w w5) := Lib.hid (HBD.out.trans (HB5.out.mono HBE.out.size)); clear hb5)
      | (go_at_call_of 46 (Value.agg #[Value.int IntKind.i64 (m : Int), Value.int IntKind.i64 (e : Int)]); refine (HI2.out _ (by first | exact HBD.out | exact HBD5.out)).mono ?_; rintro o w5 ⟨rfl, hb5⟩; have HB5 : Hid (Below w2.heap.size w2.drew w5) := (by first | exact Lib.hid (HB5x.out.trans (hb5.mono HB5x.out.size)) | exact Lib.hid hb5); have HB5x := HB5; have HS5 := Lib.hid (HSX.out _ HB5.out); have HBD5 : Hid (Below w.heap.size w w5) := Lib.hid (HBD.out.trans (HB5.out.mono HBE.out.size)); clear hb5)
      | (go_at_call 44; refine (HPA.out _ _ _ HBD5.out).mono ?_; rintro o w6 ⟨rfl, hb6⟩; have HS5 := Lib.hid (HSX.out _ (HB5x.out.trans (hb6.mono HB5x.out.size))); have HBD6 : Hid (Below w.heap.size w w6) := Lib.hid (HBD5.out.trans (hb6.mono HBD5.out.size)); clear hb6))
    all_goals go_wp2
    all_goals go_ret
    all_goals exact ⟨by rw [HP2.out]; rfl, HBD6.out⟩
  · have hde : ((d : Int) == (p : Int)) = false := by rw [beq_eq_false_iff_ne]; omega
    clear hp hc hz hk1 hk2 hdp
    go_enter Tryd.func46, Tryd.ntmps46
    go_upto_region 1 with fail
    rw [← HW2.out, ← HSZ.out]
    go_upto_region 7 with (go_at_call 42; refine (HL1.out _).mono ?_; rintro o w' ⟨rfl, hww⟩; replace hww := hww.symm; subst hww)

    have hd2 : 2 ≤ d := by
      rcases Nat.lt_or_ge d 2 with h1 | h1
      · exfalso
        have hd1 : d = 1 := by omega
        have hk0 : k = 0 := by
          rcases Nat.eq_zero_or_pos k with h | h
          · exact h
          · have : 2 ^ 1 ≤ 2 ^ k := Nat.pow_le_pow_right (by decide) h
            have := HK.out.1
            omega
        exact HNO.out (by rw [hk0, Nat.pow_zero]; exact ⟨hd1, Nat.mod_one b⟩)
      · exact h1
    obtain ⟨k2, hk21, hk22, hk220⟩ := pow_ex (d := d - 1) (by omega) (by omega)
    have hspl : spl d = 2 ^ k2 := spl_of (by omega) (by have := Nat.pow_succ 2 k2; omega)
    have hslt := spl_lt hd2
    obtain ⟨d1, hd1⟩ : ∃ y, y = d - 1 := ⟨_, rfl⟩
    have hd1i : (d : Int) - 1 = (d1 : Int) := by omega
    have HL2 : Hid (∀ w2, Calls Tryd.prog 42 #[.int .u64 (d1 : Int)] w2 fun o w' => o = .returned (.int .i64 ((k2 : Int) + 1)) ∧ w' = w2) := Lib.hid (fun w2 => tlen_any d1 k2 (by omega) (by omega) (by omega) w2)
    obtain ⟨p2, hp2⟩ : ∃ y, y = 2 ^ k2 := ⟨_, rfl⟩
    have hp2I : (2 : Int) ^ k2 = (p2 : Int) := by rw [hp2]; simp
    obtain ⟨m, hm⟩ : ∃ y, y = b + p2 := ⟨_, rfl⟩
    have hmi : (b : Int) + (p2 : Int) = (m : Int) := by omega
    have hpp : p2 < d := by rw [hp2, ← hspl]; exact hslt.2.1
    have hp0 : 0 < p2 := by rw [hp2]; exact two_pos k2
    have HP2 : Hid (partL L b e = nodeS (partL L b m) (partL L m e)) := Lib.hid (by rw [hm]; exact partL_two (by rw [← HD.out.2]; exact hd2) HD.out.1 (by rw [← HD.out.2, hspl, hp2]))
    have HI1 : Hid (∀ w2, Below w.heap.size w w2 → Calls Tryd.prog 46 #[bpT tb, .agg #[.int .i64 (b : Int), .int .i64 (m : Int)]] w2 fun o w' => o = .returned (.string (partL L b m)) ∧ Below w2.heap.size w2 w') := Lib.hid (fun w2 hb2 => IH.out p2 hpp b m w2 (by omega) (by omega) (by have := HD.out; omega) (HT.out.below hb2) (HB.out.below (hb2.mono HB.out.le)))
    have HI2 : Hid (∀ w2, Below w.heap.size w w2 → Calls Tryd.prog 46 #[bpT tb, .agg #[.int .i64 (m : Int), .int .i64 (e : Int)]] w2 fun o w' => o = .returned (.string (partL L m e)) ∧ Below w2.heap.size w2 w') := Lib.hid (fun w2 hb2 => IH.out (d - p2) (by omega) m e w2 (by have := HD.out; omega) (by have := HD.out; omega) HD.out.1 (HT.out.below hb2) (HB.out.below (hb2.mono HB.out.le)))
    have HPA : Hid (∀ l r w2, Below w.heap.size w w2 → Calls Tryd.prog 44 #[.string l, .string r] w2 fun o w' => o = .returned (.string (nodeS l r)) ∧ Below w2.heap.size w2 w') := Lib.hid (fun l r w2 hb2 => pair_any l r w2 (HB.out.tabs.below hb2))
    have hm20 : m ≤ 1048576 := by have := HD.out; have := HT.out.n; omega
    have hmw : IntKind.i64.wrap (m : Int) = (m : Int) := IntWalk.i64_in _ (by omega)
    obtain ⟨sl, hsl⟩ : ∃ y, y = partL L b m := ⟨_, rfl⟩
    obtain ⟨sr, hsr⟩ : ∃ y, y = partL L m e := ⟨_, rfl⟩
    rw [← hsl] at HI1 HP2
    rw [← hsr] at HI2 HP2
    clear hspl hslt hd1 hp2 hm hsl hsr hk21 hk22 hd2
    go_upto_region 8 with (go_at_call 42; refine (HL2.out _).mono ?_; rintro o w' ⟨rfl, hww⟩; replace hww := hww.symm; subst hww)
    have HS1 : Hid (w2.drew.cell? ⟨sb, 0, none⟩ = some (.int .i64 (b : Int)) ∧ w2.drew.cell? ⟨sb, 1, none⟩ = some (.int .i64 (e : Int))) := Lib.hid ⟨c0, c1⟩
    have HBD : Hid (Below w.heap.size w w2.drew) := Lib.hid HBE.out.drew
    have HSX : Hid (∀ w5, Below w2.heap.size w2.drew w5 → w5.cell? ⟨sb, 0, none⟩ = some (.int .i64 (b : Int)) ∧ w5.cell? ⟨sb, 1, none⟩ = some (.int .i64 (e : Int))) := Lib.hid (fun w5 hb5 => ⟨cellB (blk_below (blk_drew HSB.out) hb5 (blk_lt HSB.out)) rfl, cellB (blk_below (blk_drew HSB.out) hb5 (blk_lt HSB.out)) rfl⟩)
    have HB0 : Hid (Below w2.heap.size w2.drew w2.drew) := Lib.hid (Below.refl _ _)
    go_region_held3 (fun w' => w'.cell? ⟨sb, 0, none⟩ = some (.int .i64 (b : Int)) ∧ w'.cell? ⟨sb, 1, none⟩ = some (.int .i64 (e : Int))) (first | exact HS1.out | exact HS5.out) (first
      | (go_at_call_of 46 (Value.agg #[Value.int IntKind.i64 (b : Int), Value.int IntKind.i64 (m : Int)]); refine (HI1.out _ (by first | exact HBD.out | exact HBD5.out)).mono ?_; rintro o w5 ⟨rfl, hb5⟩; have HB5 : Hid (Below w2.heap.size w2.drew w5) := (by first | exact Lib.hid (HB5x.out.trans (hb5.mono HB5x.out.size)) | exact Lib.hid hb5); have HB5x := HB5; have HS5 := Lib.hid (HSX.out _ HB5.out); have HBD5 : Hid (Below w.heap.size w w5) := Lib.hid (HBD.out.trans (HB5.out.mono HBE.out.size)); clear hb5)
      | (go_at_call_of 46 (Value.agg #[Value.int IntKind.i64 (m : Int), Value.int IntKind.i64 (e : Int)]); refine (HI2.out _ (by first | exact HBD.out | exact HBD5.out)).mono ?_; rintro o w5 ⟨rfl, hb5⟩; have HB5 : Hid (Below w2.heap.size w2.drew w5) := (by first | exact Lib.hid (HB5x.out.trans (hb5.mono HB5x.out.size)) | exact Lib.hid hb5); have HB5x := HB5; have HS5 := Lib.hid (HSX.out _ HB5.out); have HBD5 : Hid (Below w.heap.size w w5) := Lib.hid (HBD.out.trans (HB5.out.mono HBE.out.size)); clear hb5)
      | (go_at_call 44; refine (HPA.out _ _ _ HBD5.out).mono ?_; rintro o w6 ⟨rfl, hb6⟩; have HS5 := Lib.hid (HSX.out _ (HB5x.out.trans (hb6.mono HB5x.out.size))); have HBD6 : Hid (Below w.heap.size w w6) := Lib.hid (HBD5.out.trans (hb6.mono HBD5.out.size)); clear hb6))
    all_goals go_wp2
    all_goals go_ret
    all_goals exact ⟨by rw [HP2.out]; rfl, HBD6.out⟩
end Go.Proofs.YtafookdllnhdaaaDoor
/- Part of a span that is there. -/
namespace Go.Proofs.YtafookdllnhdaaaDoor
open Go.RowKit Go.Scr Go.ChangeMaps Go.MapKept
set_option linter.unusedVariables false
set_option maxRecDepth 100000 in
set_option maxHeartbeats 2000000 in
theorem there_yes {w : World} {tb h n b e : Nat} {c : Nat → Nat} {val : Nat → Nat → ByteArray} {col : Col} (t : TreeI w tb h n c val col) (hbe : b ≤ e) (hen : e ≤ n) :
    Calls Tryd.prog 45 #[bpT tb, .agg #[.int .i64 (b : Int), .int .i64 (e : Int)]] w fun o w' => o = .returned (.bool true) ∧ Below w.heap.size w w' := by
  obtain ⟨mv, hb⟩ := t.box
  have HT := Lib.hid hb
  have h0 : (0 : Int) ≤ (b : Int) := by omega
  have h1 : (b : Int) ≤ (e : Int) := by omega
  have h2 : (e : Int) ≤ (n : Int) := by omega
  obtain ⟨w2, hw2⟩ : ∃ y, y = w.alloc (.cells #[.int .i64 (b : Int), .int .i64 (e : Int)] 46) := ⟨_, rfl⟩
  have HBE : Hid (Below w.heap.size w w2) := Lib.hid (by rw [hw2]; exact (Below.refl _ _).alloc (Nat.le_refl _) _)
  obtain ⟨sb, hsb⟩ : ∃ y, y = w.heap.size := ⟨_, rfl⟩
  have hbx : w2.heap[sb]? = some (.cells #[.int .i64 (b : Int), .int .i64 (e : Int)] 46 (0, 0)) := by rw [hw2, hsb]; exact heap_alloc_new w _
  have HSZ := Lib.hid hsb
  have HW2 := Lib.hid hw2
  have c0 : w2.cell? ⟨sb, 0, none⟩ = some (.int .i64 (b : Int)) := cellB hbx rfl
  have c1 : w2.cell? ⟨sb, 1, none⟩ = some (.int .i64 (e : Int)) := cellB hbx rfl
  have c2 : w2.cell? ⟨tb, 1, none⟩ = some (.int .i64 (n : Int)) := by rw [hw2]; exact cellB (blk_alloc hb) rfl
  clear t hb hbe hen hbx hsb hw2
  go_enter Tryd.func45, Tryd.ntmps45
  go_upto_region 1 with fail
  rw [← HW2.out, ← HSZ.out]
  go_quiet (fail)
  go_wp2
  go_ret
  exact ⟨rfl, below_drewN HBE.out _⟩
set_option maxRecDepth 100000 in
set_option maxHeartbeats 2000000 in
theorem tpart_any {w : World} {B tb h : Nat} {L : List ByteArray} {col : Col} (t : TreeU w B tb h L col) (hB : Bas w B) {b e : Nat} (hbe : b ≤ e) (he : e ≤ L.length) :
    Calls Tryd.prog 13 #[bpT tb, .agg #[.int .i64 (b : Int), .int .i64 (e : Int)]] w fun o w' => o = .returned (.tuple #[.string (partL L b e), .int .i64 0]) ∧ Below w.heap.size w w' := by
  have HT := Lib.hid t
  have HTH : Hid (∀ w3, Below w.heap.size w w3 → Calls Tryd.prog 45 #[bpT tb, .agg #[.int .i64 (b : Int), .int .i64 (e : Int)]] w3 fun o w' => o = .returned (.bool true) ∧ Below w3.heap.size w3 w') := Lib.hid (fun w3 hb3 => there_yes (HT.out.below hb3).t hbe he)
  have HPT : Hid (∀ w3, Below w.heap.size w w3 → Calls Tryd.prog 46 #[bpT tb, .agg #[.int .i64 (b : Int), .int .i64 (e : Int)]] w3 fun o w' => o = .returned (.string (partL L b e)) ∧ Below w3.heap.size w3 w') := Lib.hid (fun w3 hb3 => part_any _ b e w3 rfl hbe he (HT.out.below hb3) (hB.below (hb3.mono hB.le)))
  obtain ⟨w2, hw2⟩ : ∃ y, y = w.alloc (.cells #[.int .i64 (b : Int), .int .i64 (e : Int)] 46) := ⟨_, rfl⟩
  have HBE : Hid (Below w.heap.size w w2) := Lib.hid (by rw [hw2]; exact (Below.refl _ _).alloc (Nat.le_refl _) _)
  obtain ⟨sb, hsb⟩ : ∃ y, y = w.heap.size := ⟨_, rfl⟩
  have hbx : w2.heap[sb]? = some (.cells #[.int .i64 (b : Int), .int .i64 (e : Int)] 46 (0, 0)) := by rw [hw2, hsb]; exact heap_alloc_new w _
  have HSB := Lib.hid hbx
  have HSZ := Lib.hid hsb
  have HW2 := Lib.hid hw2
  have c0 : w2.cell? ⟨sb, 0, none⟩ = some (.int .i64 (b : Int)) := cellB hbx rfl
  have c1 : w2.cell? ⟨sb, 1, none⟩ = some (.int .i64 (e : Int)) := cellB hbx rfl
  obtain ⟨s, hs⟩ : ∃ y, y = partL L b e := ⟨_, rfl⟩
  rw [← hs] at HPT ⊢
  clear t hB hbe he hbx hsb hw2 hs
  go_enter Tryd.func13, Tryd.ntmps13
  go_upto_region 1 with fail
  rw [← HW2.out, ← HSZ.out]
  go_wp2_with (first
    | (go_at_call 45; refine (HTH.out _ HBE.out).mono ?_; rintro o w3 ⟨rfl, hb3⟩; have HB3 : Hid (Below w.heap.size w w3) := Lib.hid (HBE.out.trans (hb3.mono HBE.out.size)); have k0 : w3.cell? ⟨sb, 0, none⟩ = some (.int .i64 (b : Int)) := cellB (blk_below HSB.out hb3 (blk_lt HSB.out)) rfl; have k1 : w3.cell? ⟨sb, 1, none⟩ = some (.int .i64 (e : Int)) := cellB (blk_below HSB.out hb3 (blk_lt HSB.out)) rfl; clear hb3 c0 c1)
    | (go_at_call 46; refine (HPT.out _ HB3.out).mono ?_; rintro o w4 ⟨rfl, hb4⟩; have HB4 : Hid (Below w.heap.size w w4) := Lib.hid (HB3.out.trans (hb4.mono HB3.out.size)); clear hb4))
  go_ret2
  exact ⟨rfl, HB4.out⟩
end Go.Proofs.YtafookdllnhdaaaDoor
