/- Roots of the past by the bits of the size: plain. -/
import Derived.Test.YtafookdllnhdaaaDoorMa25
import Derived.Test.YtafookdllnhdaaaDoorMa27
namespace Go.Proofs.YtafookdllnhdaaaDoor
open Go.RowKit Go.Scr Go.ChangeMaps Go.MapKept
set_option linter.unusedVariables false
/-- the root of the last (n mod 2^l) of n leaves; nothing where there are none -/
def tailL (L : List ByteArray) (n l : Nat) : ByteArray := if n % 2 ^ l = 0 then ⟨#[]⟩ else partL L (n - n % 2 ^ l) n
theorem mod_up (n l : Nat) : n % 2 ^ (l + 1) = n % 2 ^ l + 2 ^ l * (n / 2 ^ l % 2) := by rw [Nat.pow_succ]; exact Nat.mod_mul
theorem tailL_even {L : List ByteArray} {n l : Nat} (h : n / 2 ^ l % 2 = 0) : tailL L n (l + 1) = tailL L n l := by
  unfold tailL
  rw [mod_up, h, Nat.mul_zero, Nat.add_zero]
theorem bit_parts {n l : Nat} (h : n / 2 ^ l % 2 = 1) : n = (n / 2 ^ l - 1) * 2 ^ l + 2 ^ l + n % 2 ^ l ∧ n % 2 ^ l < 2 ^ l := by
  have hp := two_pos l
  have hb := idx_back n l
  have hm := Nat.mod_lt n hp
  have hq : 1 ≤ n / 2 ^ l := by
    generalize n / 2 ^ l = q at h
    omega
  have e : n / 2 ^ l * 2 ^ l = (n / 2 ^ l - 1) * 2 ^ l + 2 ^ l := by rw [← Nat.succ_mul]; congr 1; generalize n / 2 ^ l = q at hq; omega
  rw [e] at hb
  exact ⟨hb.symm, hm⟩
theorem tailL_odd {L : List ByteArray} {n l : Nat} (h : n / 2 ^ l % 2 = 1) (h0 : n % 2 ^ l = 0) : tailL L n (l + 1) = valL L l (n / 2 ^ l - 1) := by
  obtain ⟨h1, h2⟩ := bit_parts h
  have hp := two_pos l
  unfold tailL
  rw [mod_up, h, h0, Nat.mul_one, Nat.zero_add, if_neg (by generalize 2 ^ l = p at hp; omega)]
  unfold partL valL
  rw [h0] at h1
  generalize (n / 2 ^ l - 1) * 2 ^ l = x at *
  generalize 2 ^ l = p at *
  rw [show n - p = x by omega, show n - x = p by omega]
theorem tailL_both {L : List ByteArray} {n l : Nat} (h : n / 2 ^ l % 2 = 1) (h0 : n % 2 ^ l ≠ 0) (hn : n ≤ L.length) : tailL L n (l + 1) = nodeS (valL L l (n / 2 ^ l - 1)) (tailL L n l) := by
  obtain ⟨h1, h2⟩ := bit_parts h
  have hp := two_pos l
  unfold tailL
  rw [mod_up, h, Nat.mul_one, if_neg (by generalize 2 ^ l = p at hp; omega), if_neg h0]
  have hs : spl (n - (n / 2 ^ l - 1) * 2 ^ l) = 2 ^ l := spl_of (by
    generalize (n / 2 ^ l - 1) * 2 ^ l = x at *
    generalize n % 2 ^ l = r at *
    generalize 2 ^ l = p at *
    omega) (by
    rw [Nat.pow_succ]
    generalize (n / 2 ^ l - 1) * 2 ^ l = x at *
    generalize n % 2 ^ l = r at *
    generalize 2 ^ l = p at *
    omega)
  unfold valL
  generalize (n / 2 ^ l - 1) * 2 ^ l = x at *
  generalize n % 2 ^ l = r at *
  generalize 2 ^ l = p at *
  rw [show n - (r + p) = x by omega, show n - r = x + p by omega, partL_two (m := p) (by omega) hn hs.symm]
  congr 1
  unfold partL
  rw [show x + p - x = p by omega]
theorem tailL_all {L : List ByteArray} {n l : Nat} (h : n < 2 ^ l) (h1 : 1 ≤ n) : tailL L n l = partL L 0 n := by
  unfold tailL
  rw [Nat.mod_eq_of_lt h, if_neg (by omega), Nat.sub_self]
theorem partL_size {L : List ByteArray} {b e : Nat} (hbe : b < e) (he : e ≤ L.length) (h32 : ∀ s ∈ L, s.size = 32) : (partL L b e).size = 32 :=
  rootR_size (e - b) _ (by rw [List.length_take, List.length_drop]; omega) (by omega) (fun s hs => h32 s (List.mem_of_mem_drop (List.mem_of_mem_take hs)))
theorem tailL_size {L : List ByteArray} {n l : Nat} (h0 : n % 2 ^ l ≠ 0) (hn : n ≤ L.length) (h32 : ∀ s ∈ L, s.size = 32) : (tailL L n l).size = 32 := by
  unfold tailL
  rw [if_neg h0]
  have := Nat.mod_le n (2 ^ l)
  exact partL_size (by omega) hn h32
theorem tailL_zero {L : List ByteArray} {n l : Nat} (h0 : n % 2 ^ l = 0) : tailL L n l = ⟨#[]⟩ := if_pos h0
theorem cL_bit {n m l : Nat} (h : n / 2 ^ l % 2 = 1) (hn : n ≤ m) : n / 2 ^ l - 1 < cL m l := by
  rw [cL_lt, Nat.succ_mul]
  obtain ⟨h1, h2⟩ := bit_parts h
  generalize (n / 2 ^ l - 1) * 2 ^ l = x at *
  generalize n % 2 ^ l = r at *
  generalize 2 ^ l = p at *
  omega
end Go.Proofs.YtafookdllnhdaaaDoor
/- Roots of the past: walked. -/
namespace Go.Proofs.YtafookdllnhdaaaDoor
open Go.RowKit Go.Scr Go.ChangeMaps Go.MapKept
set_option linter.unusedVariables false
theorem toList_some {s : ByteArray} (h : 0 < s.size) : (s.toList == ([] : List UInt8)) = false := by
  rw [beq_eq_false_iff_ne, ByteArray.toList_eq]
  intro e
  have h1 := congrArg List.length e
  rw [Array.length_toList, List.length_nil] at h1
  have h2 : s.size = s.data.size := rfl
  omega
set_option maxRecDepth 100000 in
set_option maxHeartbeats 4000000 in
theorem troot_any {w : World} {B tb h n : Nat} {L : List ByteArray} {col : Col} (t : TreeU w B tb h L col) (hB : Bas w B) (hn : n ≤ L.length) :
    Calls Tryd.prog 12 #[bpT tb, .int .i64 (n : Int)] w fun o w' => o = .returned (.tuple #[.string (partL L 0 n), .int .i64 0]) ∧ Below w.heap.size w w' := by
  obtain ⟨mv, hbox⟩ := t.t.box
  have c1 : w.cell? ⟨tb, 1, none⟩ = some (.int .i64 (L.length : Int)) := cellB hbox rfl
  have HT := Lib.hid t
  have HB := Lib.hid hB
  have hL := t.n
  have hn20 : n ≤ 1048576 := by omega
  have h0 : ¬ (n : Int) < 0 := by omega
  obtain ⟨m, hm⟩ : ∃ m, m = L.length := ⟨_, rfl⟩
  rw [← hm] at c1 hn hL
  have h1 : ¬ (m : Int) < (n : Int) := by omega
  have HM := Lib.hid hm
  have HN := Lib.hid hn
  by_cases hz : n = 0
  · have hz2 : ((n : Int) == 0) = true := by simp [hz]
    have HE : Hid (∀ w3, Below w.heap.size w w3 → Calls Tryd.prog 41 #[] w3 fun e w' => e = .returned (.string hempty) ∧ Below w3.heap.size w3 w') := Lib.hid (fun w3 hb3 => dempty_any w3 (HB.out.tabs.below hb3))
    have HR : Hid (partL L 0 n = hempty) := Lib.hid (by unfold partL; rw [hz, Nat.sub_zero, List.take_zero]; exact rootR_nil)
    clear t hB hbox hm hn hz hL
    go_enter Tryd.func12, Tryd.ntmps12
    go_wp2_with (go_at_call 41; refine (HE.out _ (Below.refl _ _)).mono ?_; rintro o w3 ⟨rfl, hb3⟩; have HB3 := Lib.hid hb3; clear hb3)
    go_ret2
    exact ⟨by rw [HR.out]; rfl, HB3.out⟩
  have hz2 : ((n : Int) == 0) = false := by rw [beq_eq_false_iff_ne]; omega
  obtain ⟨b0, hb1, hb2, hb20⟩ := pow_ex (d := n) (by omega) hn20
  have CL : Hid (∀ w2, Calls Tryd.prog 42 #[.int .u64 (n : Int)] w2 fun o w' => o = .returned (.int .i64 ((b0 : Int) + 1)) ∧ w' = w2) := Lib.hid (fun w2 => tlen_any n b0 hb1 hb2 hn20 w2)
  obtain ⟨b, hbb⟩ : ∃ b, b = b0 + 1 := ⟨_, rfl⟩
  have hbI : (b0 : Int) + 1 = (b : Int) := by omega
  rw [hbI] at CL
  have HF : Hid (n < 2 ^ b ∧ 1 ≤ n) := Lib.hid ⟨by rw [hbb]; exact hb2, by omega⟩
  have hb21 : b ≤ 21 := by omega
  have HS0 : Hid (Value.string ⟨#[]⟩ = Value.string (tailL L n 0)) := Lib.hid (by rw [tailL_zero (by rw [Nat.pow_zero]; exact Nat.mod_one n)])
  clear t hB hbox hm hn hz hL hb1 hb2 hb20 hbb hbI
  go_enter Tryd.func12, Tryd.ntmps12
  go_wp2_with (go_at_call 42; refine (CL.out _).mono ?_; rintro o w' ⟨rfl, hww⟩; replace hww := hww.symm; subst hww)
  go_loopw [6, 27] (fun v c wr => ∃ k : Nat, c = .int .i64 (k : Int) ∧ v = .string (tailL L n k) ∧ k ≤ b ∧ Hid (Below w.heap.size w wr)) (fun _ c _ => b - (intOf c).toNat)
  case atStart => exact ⟨0, rfl, HS0.out, Nat.zero_le _, Lib.hid (Below.refl _ _)⟩
  case round =>
    obtain ⟨k, rfl, rfl, hk, HI⟩ := hrel
    by_cases hlt : k < b
    · have hli : (k : Int) < (b : Int) := by omega
      obtain ⟨p, hp⟩ : ∃ p, p = 2 ^ k := ⟨_, rfl⟩
      have hpI : (2 : Int) ^ k = (p : Int) := by rw [hp]; simp
      obtain ⟨q, hq⟩ : ∃ q, q = n / p := ⟨_, rfl⟩
      have hqI : (n : Int) / (p : Int) = (q : Int) := by rw [hq]; simp
      have hqn : q ≤ n := by rw [hq]; exact Nat.div_le_self _ _
      have hand0 : bits .and .i64 (q : Int) 1 = ((q % 2 : Nat) : Int) := i64_andm q 1 (by omega)
      have hk63 : k ≤ 63 := by omega
      by_cases hbit : q % 2 = 0
      · have hand : bits .and .i64 (q : Int) 1 = 0 := by rw [hand0, hbit]; rfl
        have HR : Hid (tailL L n (k + 1) = tailL L n k) := Lib.hid (tailL_even (by rw [← hp, ← hq]; exact hbit))
        obtain ⟨s0, hs0⟩ : ∃ s, s = tailL L n k := ⟨_, rfl⟩
        rw [← hs0] at HR ⊢
        clear hp hq hand0 hbit hs0
        go_wp2_with fail
        exact ⟨⟨k + 1, by simp, by rw [HR.out], hlt, HI⟩, by show b - ((k : Int) + 1).toNat < b - (k : Int).toNat; omega⟩
      · have hbit1 : q % 2 = 1 := by omega
        have hand : bits .and .i64 (q : Int) 1 = 1 := by rw [hand0, hbit1]; rfl
        have hq1 : 1 ≤ q := by omega
        obtain ⟨i, hi⟩ : ∃ i, i = q - 1 := ⟨_, rfl⟩
        have hiI : (q : Int) - 1 = (i : Int) := by omega
        have hiq : i ≤ 1048576 := by omega
        obtain ⟨s1, hs1⟩ : ∃ s, s = valL L k i := ⟨_, rfl⟩
        have HNO : Hid (∀ w3, Below w.heap.size w w3 → Calls Tryd.prog 43 #[bpT tb, .agg #[.int .i64 (k : Int), .int .i64 (i : Int)]] w3 fun o w' => o = .returned (.string s1) ∧ Below w3.heap.size w3 w') := Lib.hid (fun w3 hb3 => by
          rw [hs1]
          refine node_at (HT.out.below hb3).t (by omega) (by omega) ?_
          rw [hi, hq, hp]
          exact cL_bit (by rw [← hp, ← hq]; exact hbit1) (by rw [← HM.out]; exact HN.out))
        by_cases hr : n % p = 0
        · have HR : Hid (tailL L n (k + 1) = s1) := Lib.hid (by rw [hs1, hi, hq, hp]; exact tailL_odd (by rw [← hp, ← hq]; exact hbit1) (by rw [← hp]; exact hr))
          have he : tailL L n k = ⟨#[]⟩ := tailL_zero (by rw [← hp]; exact hr)
          rw [he]
          clear hp hq hand0 hbit hbit1 hs1 hi hr he
          go_wp2_with (go_at_call 43; refine (HNO.out _ HI.out).mono ?_; rintro o w3 ⟨rfl, hb3⟩; have HB3 : Hid (Below w.heap.size w w3) := Lib.hid (HI.out.trans (hb3.mono HI.out.size)); clear hb3)
          exact ⟨⟨k + 1, by simp, by rw [HR.out], hlt, HB3⟩, by show b - ((k : Int) + 1).toNat < b - (k : Int).toNat; omega⟩
        · have hsz : (tailL L n k).size = 32 := tailL_size (by rw [← hp]; exact hr) (by rw [← HM.out]; exact HN.out) HT.out.z
          obtain ⟨s0, hs0⟩ : ∃ s, s = tailL L n k := ⟨_, rfl⟩
          have HR : Hid (tailL L n (k + 1) = nodeS s1 s0) := Lib.hid (by rw [hs1, hs0, hi, hq, hp]; exact tailL_both (by rw [← hp, ← hq]; exact hbit1) (by rw [← hp]; exact hr) (by rw [← HM.out]; exact HN.out))
          have HPA : Hid (∀ w3, Below w.heap.size w w3 → Calls Tryd.prog 44 #[.string s1, .string s0] w3 fun o w' => o = .returned (.string (nodeS s1 s0)) ∧ Below w3.heap.size w3 w') := Lib.hid (fun w3 hb3 => pair_any s1 s0 w3 (HB.out.tabs.below hb3))
          rw [← hs0] at hsz ⊢
          have hne : (s0.toList == []) = false := toList_some (by omega)
          obtain ⟨s2, hs2⟩ : ∃ s, s = nodeS s1 s0 := ⟨_, rfl⟩
          rw [← hs2] at HPA HR
          clear hp hq hand0 hbit hbit1 hs1 hi hr hs0 hs2 hsz
          go_wp2_with (first
            | (go_at_call 43; refine (HNO.out _ HI.out).mono ?_; rintro o w3 ⟨rfl, hb3⟩; have HB3 : Hid (Below w.heap.size w w3) := Lib.hid (HI.out.trans (hb3.mono HI.out.size)); clear hb3)
            | (go_at_call 44; refine (HPA.out _ HB3.out).mono ?_; rintro o w4 ⟨rfl, hb4⟩; have HB4 : Hid (Below w.heap.size w w4) := Lib.hid (HB3.out.trans (hb4.mono HB3.out.size)); clear hb4))
          exact ⟨⟨k + 1, by simp, by rw [HR.out], hlt, HB4⟩, by show b - ((k : Int) + 1).toNat < b - (k : Int).toNat; omega⟩
    · obtain rfl : k = b := by omega
      have hni : ¬ (k : Int) < (k : Int) := by omega
      have HR : Hid (tailL L n k = partL L 0 n) := Lib.hid (tailL_all HF.out.1 HF.out.2)
      obtain ⟨s0, hs0⟩ : ∃ s, s = tailL L n k := ⟨_, rfl⟩
      rw [← hs0] at HR ⊢
      clear hlt hs0
      go_wp2_with fail
      go_ret2
      exact ⟨by rw [HR.out]; rfl, HI.out⟩
end Go.Proofs.YtafookdllnhdaaaDoor
/- A tree that lies above a world. -/
namespace Go.Proofs.YtafookdllnhdaaaDoor
open Go.RowKit Go.Scr Go.ChangeMaps Go.MapKept
set_option linter.unusedVariables false
/-- a tree whose blocks lie above W -/
structure TrU (W w : World) (B tb h : Nat) (L : List ByteArray) : Prop where
  b : Below W.heap.size W w
  t : ∃ col, TreeU w B tb h L col ∧ ∀ g, col g ≠ none → W.heap.size ≤ g
theorem TrU.below {W w w' : World} {B tb h : Nat} {L : List ByteArray} (H : TrU W w B tb h L) (hb : Below w.heap.size w w') : TrU W w' B tb h L := by
  obtain ⟨hb0, col, t, hl⟩ := H
  exact ⟨hb0.trans (hb.mono hb0.size), col, t.below hb, hl⟩
theorem TrU.add {W w : World} {B tb h : Nat} {L : List ByteArray} (H : TrU W w B tb h L) (hB : Bas W B) {x : ByteArray} (hx : x.size = 32) (hn : L.length < 1048576) :
    Calls Tryd.prog 19 #[bpT tb, .string x] w fun o w' => o = .returned (.int .i64 0) ∧ TrU W w' B tb h (L ++ [x]) := by
  obtain ⟨hb, col, t, hl⟩ := H
  refine (add_any t (hB.below (hb.mono hB.le)) hx hn).mono ?_
  rintro o w' ⟨rfl, col', t', hc', hq'⟩
  exact ⟨rfl, hb.trans (hc'.low hl hb.size), col', t', low_of' hl hb.size hq'⟩
theorem TrU.size {W w : World} {B tb h : Nat} {L : List ByteArray} (H : TrU W w B tb h L) : Calls Tryd.prog 11 #[bpT tb] w fun o w' => o = .returned (.int .i64 (L.length : Int)) ∧ w' = w := by
  obtain ⟨hb, col, t, hl⟩ := H
  exact size_any t.t
theorem TrU.root {W w : World} {B tb h n : Nat} {L : List ByteArray} (H : TrU W w B tb h L) (hB : Bas W B) (hn : n ≤ L.length) :
    Calls Tryd.prog 12 #[bpT tb, .int .i64 (n : Int)] w fun o w' => o = .returned (.tuple #[.string (partL L 0 n), .int .i64 0]) ∧ Below w.heap.size w w' := by
  obtain ⟨hb, col, t, hl⟩ := H
  exact troot_any t (hB.below (hb.mono hB.le)) hn
theorem TrU.hash {W w : World} {B tb h l i : Nat} {L : List ByteArray} (H : TrU W w B tb h L) (hl : l ≤ 63) (hi : i ≤ 1099511627776) :
    Calls Tryd.prog 30 #[bpT tb, .agg #[.int .i64 (l : Int), .int .i64 (i : Int)]] w fun o w' => o = .returned (hashT L.length (valL L) l i) ∧ Below w.heap.size w w' := by
  obtain ⟨hb, col, t, _⟩ := H
  exact hash_at t.t t.n hl hi
theorem TrU.height {W w : World} {B tb h : Nat} {L : List ByteArray} (H : TrU W w B tb h L) : Calls Tryd.prog 38 #[bpT tb] w fun o w' => o = .returned (.int .i64 (h : Int)) ∧ w' = w := by
  obtain ⟨hb, col, t, hl⟩ := H
  exact height_any t.t
end Go.Proofs.YtafookdllnhdaaaDoor
