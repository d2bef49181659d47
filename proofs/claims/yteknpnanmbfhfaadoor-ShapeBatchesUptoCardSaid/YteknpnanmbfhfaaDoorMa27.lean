/- Layer 4, the document's lengths alone (for seats without the package verify): PathLen, ProofLen. -/
import Derived.Test.YteknpnanmbfhfaaDoorMa11
import Derived.Test.YteknpnanmbfhfaaDoorMa3
import Derived.BigQuiet
import Derived.StillTailTactics
import Derived.Test.YteknpnanmbfhfaaDoorMa26
namespace Go.Proofs.YteknpnanmbfhfaaDoor
open Go.RowKit Go.Scr
set_option linter.unusedVariables false

def badSize (s : Int) : Bool := decide (s < 1) || decide (s > 1099511627776)
def badIndex (s i : Int) : Bool := decide (i < 0) || decide (i ≥ s)
def pathLenS (s i : Int) : Int := if s < 1 ∨ 1099511627776 < s then 0 else if i < 0 ∨ s ≤ i then 0 else ((wayN s.toNat i.toNat : Nat) : Int)
def pathLenE (s i : Int) : Int := if s < 1 ∨ 1099511627776 < s then 41 else if i < 0 ∨ s ≤ i then 40 else 0
def proofLenS (f s : Int) : Int := if f < 1 ∨ s < f ∨ 1099511627776 < s then 0 else ((toldN f.toNat s.toNat true : Nat) : Int)
def proofLenE (f s : Int) : Int := if f < 1 ∨ s < f ∨ 1099511627776 < s then 41 else 0
theorem pathLenS_ok {n m : Nat} (h : m < n) (hn : n ≤ 1099511627776) : pathLenS n m = ((wayN n m : Nat) : Int) ∧ pathLenE n m = 0 := by
  unfold pathLenS pathLenE
  rw [if_neg (by omega), if_neg (by omega), if_neg (by omega), if_neg (by omega)]
  simp
theorem proofLenS_ok {f s : Nat} (h1 : 1 ≤ f) (h2 : f ≤ s) (h : s ≤ 1099511627776) : proofLenS f s = ((toldN f s true : Nat) : Int) ∧ proofLenE f s = 0 := by
  unfold proofLenS proofLenE
  rw [if_neg (by omega), if_neg (by omega)]
  simp
theorem wayN_le (n : Nat) : ∀ m, wayN n m ≤ n := by
  induction n using Nat.strongRecOn with
  | ind n ih =>
    intro m
    by_cases h : n ≤ 1
    · rw [wayN_one m h]; exact Nat.zero_le _
    · have hs := spl_lt (show 2 ≤ n by omega)
      by_cases h2 : m < spl n
      · rw [wayN_left (by omega) h2]; have := ih _ hs.2.1 m; omega
      · rw [wayN_right (by omega) h2]; have := ih (n - spl n) (by omega) (m - spl n); omega
theorem two_le (wB : World) (o : Obj) : wB.heap.size ≤ (wB.alloc o).heap.size := by simp
theorem stepL_way {n m : Nat} (h : m < n) : (stepL m (n - 1)).length = wayN n m := by rw [stepL_dn n m h]; rfl
theorem stepL_told {f s : Nat} (h1 : 1 ≤ f) (h2 : f < s) : (if (strip (f - 1) (s - 1)).1 == 0 then 0 else 1) + (stepL (strip (f - 1) (s - 1)).1 (strip (f - 1) (s - 1)).2).length = toldN f s true := by
  have := strip_fl s f h1 h2
  unfold toldN
  rw [this.1, this.2]
  omega
theorem strip_mono (a : Nat) : ∀ l, a ≤ l → (strip a l).1 ≤ (strip a l).2 := by
  induction a using Nat.strongRecOn with
  | ind a ih =>
    intro l h
    by_cases ho : a % 2 = 1
    · rw [strip_odd l ho]; exact ih (a / 2) (by omega) (l / 2) (by omega)
    · rw [strip_even l ho]; exact h

end Go.Proofs.YteknpnanmbfhfaaDoor
namespace Go.Proofs.YteknpnanmbfhfaaDoor
open Go.RowKit Go.Scr
set_option linter.unusedVariables false

set_option maxRecDepth 100000 in
set_option maxHeartbeats 400000 in
theorem split4_any (n : Nat) (w : World) (hn : n ≤ 1099511627776) :
    Calls Tryd.prog 94 #[.int .i64 n] w fun e w' => e = .returned (.int .i64 ((spl n : Nat) : Int)) ∧ w' = w := by
  obtain ⟨R, hR⟩ : ∃ R, R = spl n := ⟨_, rfl⟩
  rw [← hR]
  have HR := Lib.hid (show splF 1 n = R from hR.symm)
  clear hR
  go_enter Tryd.func94, Tryd.ntmps94
  go_wp2
  go_loop [3] (fun v => ∃ k : Nat, 0 < k ∧ k ≤ 2199023255552 ∧ v = .int .i64 k ∧ Hid (splF k n = R)) (fun v => 2199023255552 - (intOf v).toNat)
  case atStart => exact ⟨1, by decide, by decide, rfl, HR⟩
  case round =>
    obtain ⟨k, hk0, hkb, rfl, HS⟩ := hrel
    by_cases hlt : 2 * k < n
    · have h1 : 2 * (k : Int) < (n : Int) := by omega
      have HS2 := Lib.hid ((splF_spl hk0 hlt).trans HS.out)
      clear hlt
      go_wp2
      exact ⟨⟨2 * k, by omega, by omega, by go_num, HS2⟩, (by show 2199023255552 - (2 * (k : Int)).toNat < 2199023255552 - (k : Int).toNat; omega)⟩
    · have h1 : ¬ (2 * (k : Int) < (n : Int)) := by omega
      have HS2 := Lib.hid ((splF_end hlt).symm.trans HS.out)
      clear hlt
      go_wp2
      go_ret
      exact ⟨by rw [HS2.out]; rfl, rfl⟩

set_option maxRecDepth 100000 in
set_option maxHeartbeats 1000000 in
theorem way4_any (n m : Nat) (w : World) (hn : n ≤ 1099511627776) (hmn : m < n) :
    Calls Tryd.prog 66 #[.int .i64 n, .int .i64 m] w fun e w' => e = .returned (.int .i64 ((wayN n m : Nat) : Int)) ∧ w' = w := by
  obtain ⟨R, hR⟩ : ∃ R, R = wayN n m := ⟨_, rfl⟩
  have hRb : R ≤ 1099511627776 := by
    rw [hR]
    have := wayN_le n m
    omega
  rw [← hR]
  have HR := Lib.hid hR
  clear hR
  go_enter Tryd.func66, Tryd.ntmps66
  go_wp2
  go_loop [0, 1, 5] (fun a b d => ∃ x y c : Nat, y < x ∧ x ≤ 1099511627776 ∧ c ≤ R ∧ a = .int .i64 x ∧ b = .int .i64 y ∧ d = .int .i64 c ∧ Hid (c + wayN x y = R)) (fun a _ _ => (intOf a).toNat)
  case atStart => exact ⟨n, m, 0, hmn, hn, by omega, rfl, rfl, rfl, Lib.hid (by rw [HR.out]; omega)⟩
  case round =>
    obtain ⟨x, y, c, hyx, hx, hc, rfl, rfl, rfl, HS⟩ := hrel
    by_cases h1 : 1 < x
    · have h1i : (1 : Int) < (x : Int) := by omega
      have hsp := spl_lt h1
      obtain ⟨k, hk⟩ : ∃ k, k = spl x := ⟨_, rfl⟩
      have HSP := Lib.hid (fun w' => split4_any x w' hx)
      rw [← hk] at HSP hsp
      have HK := Lib.hid hk
      have hkx : ((x : Int) - (k : Int)) = ((x - k : Nat) : Int) := by omega
      by_cases h2 : y < k
      · have h2i : (y : Int) < (k : Int) := by omega
        have HW := Lib.hid (by have := wayN_left (n := x) (m := y) h1 (by rw [← hk]; exact h2); rw [← hk] at this; exact this : wayN x y = wayN k y + 1)
        clear hk
        go_wp2_with (go_at_call 94; with_reducible refine (HSP.out _).mono ?_; rintro e w2 ⟨rfl, rfl⟩)
        have hcr : c + 1 ≤ R := by have := HS.out; have := HW.out; omega
        exact ⟨⟨k, y, c + 1, by omega, by omega, hcr, rfl, rfl, rfl, Lib.hid (by have := HS.out; have := HW.out; omega)⟩, (by show (k : Int).toNat < (x : Int).toNat; omega)⟩
      · have h2i : ¬ ((y : Int) < (k : Int)) := by omega
        have HW := Lib.hid (by have := wayN_right (n := x) (m := y) h1 (by rw [← hk]; exact h2); rw [← hk] at this; exact this : wayN x y = wayN (x - k) (y - k) + 1)
        have hky : ((y : Int) - (k : Int)) = ((y - k : Nat) : Int) := by omega
        clear hk
        go_wp2_with (go_at_call 94; with_reducible refine (HSP.out _).mono ?_; rintro e w2 ⟨rfl, rfl⟩)
        have hcr : c + 1 ≤ R := by have := HS.out; have := HW.out; omega
        exact ⟨⟨x - k, y - k, c + 1, by omega, by omega, hcr, by go_num, by go_num, rfl, Lib.hid (by have := HS.out; have := HW.out; omega)⟩, (by show ((x - k : Nat) : Int).toNat < (x : Int).toNat; omega)⟩
    · have h1i : ¬ ((1 : Int) < (x : Int)) := by omega
      have HC := Lib.hid (by have := HS.out; rw [wayN_one y (by omega)] at this; omega : c = R)
      go_wp2
      go_ret
      exact ⟨by rw [← HC.out]; rfl, rfl⟩

set_option maxRecDepth 100000 in
set_option maxHeartbeats 1000000 in
theorem pathlen4_any (s i : Int) (w : World) :
    Calls Tryd.prog 32 #[.int .i64 s, .int .i64 i] w fun e w' => e = .returned (.tuple #[.int .i64 (pathLenS s i), .int .i64 (pathLenE s i)]) ∧ w' = w := by
  by_cases h1 : s < 1
  · have e1 : pathLenS s i = 0 := if_pos (Or.inl h1)
    have e2 : pathLenE s i = 41 := if_pos (Or.inl h1)
    rw [e1, e2]
    clear e1 e2
    go_enter Tryd.func32, Tryd.ntmps32
    go_wp2
    go_ret2
    exact ⟨rfl, rfl⟩
  · by_cases h2 : 1099511627776 < s
    · have e1 : pathLenS s i = 0 := if_pos (Or.inr h2)
      have e2 : pathLenE s i = 41 := if_pos (Or.inr h2)
      rw [e1, e2]
      clear e1 e2
      go_enter Tryd.func32, Tryd.ntmps32
      go_wp2
      go_ret2
      exact ⟨rfl, rfl⟩
    · have hs : ¬ (s < 1 ∨ 1099511627776 < s) := by omega
      by_cases h3 : i < 0
      · have e1 : pathLenS s i = 0 := by unfold pathLenS; rw [if_neg hs, if_pos (Or.inl h3)]
        have e2 : pathLenE s i = 40 := by unfold pathLenE; rw [if_neg hs, if_pos (Or.inl h3)]
        rw [e1, e2]
        clear e1 e2 hs
        go_enter Tryd.func32, Tryd.ntmps32
        go_wp2
        go_ret2
        exact ⟨rfl, rfl⟩
      · by_cases h4 : s ≤ i
        · have e1 : pathLenS s i = 0 := by unfold pathLenS; rw [if_neg hs, if_pos (Or.inr h4)]
          have e2 : pathLenE s i = 40 := by unfold pathLenE; rw [if_neg hs, if_pos (Or.inr h4)]
          rw [e1, e2]
          clear e1 e2 hs
          go_enter Tryd.func32, Tryd.ntmps32
          go_wp2
          go_ret2
          exact ⟨rfl, rfl⟩
        · obtain ⟨n, rfl⟩ : ∃ n : Nat, s = n := ⟨s.toNat, by omega⟩
          obtain ⟨m, rfl⟩ : ∃ m : Nat, i = m := ⟨i.toNat, by omega⟩
          have hmn : m < n := by omega
          have hn : n ≤ 1099511627776 := by omega
          obtain ⟨e1, e2⟩ := pathLenS_ok hmn hn
          rw [e1, e2]
          have HW := Lib.hid (fun w' => way4_any n m w' hn hmn)
          clear e1 e2 hs h1 h2 h3
          go_enter Tryd.func32, Tryd.ntmps32
          go_wp2_with (go_at_call 66; with_reducible refine (HW.out _).mono ?_; rintro e w2 ⟨rfl, rfl⟩)
          go_ret2
          exact ⟨rfl, rfl⟩

theorem toldN_le (s : Nat) : ∀ f whole, 1 ≤ f → f ≤ s → toldN f s whole ≤ s := by
  induction s using Nat.strongRecOn with
  | ind s ih =>
    intro f whole h1 h2
    by_cases h : f = s
    · subst h; rw [toldN_same]; split <;> omega
    · have hs := spl_lt (show 2 ≤ s by omega)
      by_cases hle : f ≤ spl s
      · rw [toldN_left whole h (by omega) hle]
        have := ih (spl s) hs.2.1 f whole h1 hle
        omega
      · rw [toldN_right whole h (by omega) hle]
        have := ih (s - spl s) (by omega) (f - spl s) false (by omega) (by omega)
        omega

set_option maxRecDepth 100000 in
set_option maxHeartbeats 1000000 in
theorem told4_any (s : Nat) : ∀ (f : Nat) (b : Bool) (w : World), 1 ≤ f → f ≤ s → s ≤ 1099511627776 →
    Calls Tryd.prog 67 #[.int .i64 f, .int .i64 s, .bool b] w fun e w' => e = .returned (.int .i64 ((toldN f s b : Nat) : Int)) ∧ w' = w := by
  induction s using Nat.strongRecOn with
  | ind s ih =>
    intro f b w h1 h2 h3
    have IH := Lib.hid ih
    clear ih
    by_cases heq : f = s
    · subst heq
      have e1 : toldN f f b = if b then 0 else 1 := toldN_same f b
      rw [e1]
      clear e1
      cases b with
      | true =>
        go_enter Tryd.func67, Tryd.ntmps67
        go_wp2
        go_ret
        exact ⟨rfl, rfl⟩
      | false =>
        go_enter Tryd.func67, Tryd.ntmps67
        go_wp2
        go_ret
        exact ⟨rfl, rfl⟩
    · have hs1 : 1 < s := by omega
      have hsp := spl_lt (show 2 ≤ s by omega)
      have hnb := toldN_le s f b h1 h2
      obtain ⟨k, hk⟩ : ∃ k, k = spl s := ⟨_, rfl⟩
      have HSP := Lib.hid (fun w' => split4_any s w' h3)
      rw [← hk] at HSP hsp
      have hne : ¬ ((f : Int) = (s : Int)) := by omega
      by_cases hle : f ≤ k
      · have e1 : toldN f s b = toldN f k b + 1 := by have := toldN_left b heq hs1 (by rw [← hk]; exact hle); rw [← hk] at this; exact this
        have HC := Lib.hid (fun w' => IH.out k hsp.2.1 f b w' h1 hle (by omega))
        obtain ⟨t, ht⟩ : ∃ t, t = toldN f k b := ⟨_, rfl⟩
        rw [← ht] at e1 HC
        rw [e1] at hnb ⊢
        have hlei : (f : Int) ≤ (k : Int) := by omega
        clear e1 ht hk heq
        go_enter Tryd.func67, Tryd.ntmps67
        go_wp2_with (first
          | (go_at_call 94; with_reducible refine (HSP.out _).mono ?_; rintro e w2 ⟨rfl, rfl⟩)
          | (go_at_call 67; with_reducible refine (HC.out _).mono ?_; rintro e w2 ⟨rfl, rfl⟩))
        go_ret
        refine ⟨?_, rfl⟩
        show Ending.returned (.int .i64 (1 + (t : Int))) = .returned (.int .i64 ((t + 1 : Nat) : Int))
        rw [show ((t + 1 : Nat) : Int) = 1 + (t : Int) by omega]
      · have e1 : toldN f s b = toldN (f - k) (s - k) false + 1 := by have := toldN_right b heq hs1 (by rw [← hk]; exact hle); rw [← hk] at this; exact this
        have HC := Lib.hid (fun w' => IH.out (s - k) (by omega) (f - k) false w' (by omega) (by omega) (by omega))
        obtain ⟨t, ht⟩ : ∃ t, t = toldN (f - k) (s - k) false := ⟨_, rfl⟩
        rw [← ht] at e1 HC
        rw [e1] at hnb ⊢
        have hlei : ¬ ((f : Int) ≤ (k : Int)) := by omega
        obtain ⟨fk, hfk⟩ : ∃ x, x = f - k := ⟨_, rfl⟩
        obtain ⟨sk, hsk⟩ : ∃ x, x = s - k := ⟨_, rfl⟩
        rw [← hfk, ← hsk] at HC
        have q1 : (f : Int) - (k : Int) = (fk : Int) := by omega
        have q2 : (s : Int) - (k : Int) = (sk : Int) := by omega
        have fkb : fk ≤ 1099511627776 := by omega
        have skb : sk ≤ 1099511627776 := by omega
        clear e1 ht hk heq hfk hsk
        go_enter Tryd.func67, Tryd.ntmps67
        go_wp2_with (first
          | (go_at_call 94; with_reducible refine (HSP.out _).mono ?_; rintro e w2 ⟨rfl, rfl⟩)
          | (go_at_call 67; with_reducible refine (HC.out _).mono ?_; rintro e w2 ⟨rfl, rfl⟩))
        go_ret
        refine ⟨?_, rfl⟩
        show Ending.returned (.int .i64 (1 + (t : Int))) = .returned (.int .i64 ((t + 1 : Nat) : Int))
        rw [show ((t + 1 : Nat) : Int) = 1 + (t : Int) by omega]

set_option maxRecDepth 100000 in
set_option maxHeartbeats 1000000 in
theorem prooflen4_any (f s : Int) (w : World) :
    Calls Tryd.prog 33 #[.int .i64 f, .int .i64 s] w fun e w' => e = .returned (.tuple #[.int .i64 (proofLenS f s), .int .i64 (proofLenE f s)]) ∧ w' = w := by
  by_cases hbad : f < 1 ∨ s < f ∨ 1099511627776 < s
  · have e1 : proofLenS f s = 0 := if_pos hbad
    have e2 : proofLenE f s = 41 := if_pos hbad
    rw [e1, e2]
    clear e1 e2
    by_cases h1 : f < 1
    · clear hbad
      go_enter Tryd.func33, Tryd.ntmps33
      go_wp2
      go_ret2
      exact ⟨rfl, rfl⟩
    · by_cases h2 : s < f
      · clear hbad
        go_enter Tryd.func33, Tryd.ntmps33
        go_wp2
        go_ret2
        exact ⟨rfl, rfl⟩
      · have h3 : 1099511627776 < s := by omega
        clear hbad
        go_enter Tryd.func33, Tryd.ntmps33
        go_wp2
        go_ret2
        exact ⟨rfl, rfl⟩
  · obtain ⟨n, rfl⟩ : ∃ n : Nat, f = n := ⟨f.toNat, by omega⟩
    obtain ⟨m, rfl⟩ : ∃ m : Nat, s = m := ⟨s.toNat, by omega⟩
    have hn : 1 ≤ n := by omega
    have hnm : n ≤ m := by omega
    have hm : m ≤ 1099511627776 := by omega
    obtain ⟨e1, e2⟩ := proofLenS_ok hn hnm hm
    rw [e1, e2]
    have HW := Lib.hid (fun w' => told4_any m n true w' hn hnm hm)
    clear e1 e2 hbad
    go_enter Tryd.func33, Tryd.ntmps33
    go_wp2_with (go_at_call 67; with_reducible refine (HW.out _).mono ?_; rintro e w2 ⟨rfl, rfl⟩)
    go_ret2
    exact ⟨rfl, rfl⟩

end Go.Proofs.YteknpnanmbfhfaaDoor
/- Law 8, walked: rising. -/
namespace Go.Proofs.YteknpnanmbfhfaaDoor
open Go.RowKit Go.Scr Go.Shelf
set_option linter.unusedVariables false
abbrev natV (R : List Nat) : List Value := R.map (fun x : Nat => Value.int .i64 (x : Int))
/-- numbers that rise, below n -/
def RisN (n : Nat) (R : List Nat) : Prop := R.Pairwise (· < ·) ∧ ∀ x ∈ R, x < n
theorem risN_snoc {R : List Nat} {a x : Nat} (h : RisN a R) (hx : a ≤ x) : RisN (x + 1) (R ++ [x]) := by
  refine ⟨?_, ?_⟩
  · rw [List.pairwise_append]
    exact ⟨h.1, by simp, fun y hy z hz => by rw [List.mem_singleton.1 hz]; have := h.2 y hy; omega⟩
  · intro y hy
    rcases List.mem_append.1 hy with hy | hy
    · have := h.2 y hy; omega
    · rw [List.mem_singleton.1 hy]; omega
theorem risN_le {R : List Nat} {a n : Nat} (h : RisN a R) (hn : a ≤ n) : RisN n R := ⟨h.1, fun x hx => by have := h.2 x hx; omega⟩
theorem info_intH : (Tryd.prog.info? 3).map (fun i => (i.zero, i.size, i.bytes)) = some (some (.int .i64 0), 1, 8) := by kernel_rfl
theorem natV_append (A B : List Nat) : natV (A ++ B) = natV A ++ natV B := by simp [natV]
/-- numbers stay in a world that has only grown -/
theorem ints_belowH {w w' : World} {B : Nat} {v : Value} {L : List Int} (h : Ints w v L) (hb : Below B w w') (hB : w.heap.size ≤ B) : Ints w' v L := by
  obtain ⟨p, c, h1, h2, h3, h4, h5⟩ := h
  exact ⟨p, c, h1, h2, h3, h4, fun j x hx => by
    obtain ⟨a, ha, hc⟩ := h5 j x hx
    exact ⟨a, ha, (hb.cell (Nat.lt_of_lt_of_le (block_lt_of_cell hc) hB)).trans hc⟩⟩
/-- an owned list of numbers -/
structure RiI (w wr : World) (a : Nat) (R : List Nat) (v : Value) : Prop where
  ris : RisN a R
  hd : Held wr 3 1 v R.length (natV R)
  ow : ∀ g, v.ownBlock = some g → w.heap.size ≤ g
  bel : Below w.heap.size w wr
theorem RiI.push {w wr w5 : World} {a x : Nat} {R : List Nat} {v v5 : Value} {o : Obj} (h : RiI w wr a R v) (hx : a ≤ x) (g : Grew 3 1 (wr.alloc o) v R.length 1 (natV R) [.int .i64 (x : Int)] v5 w5) : RiI w w5 (x + 1) (R ++ [x]) v5 := by
  have hgr := grown_alloc g.grown
  have hat := grew_own g
  refine ⟨risN_snoc h.ris hx, ?_, ?_, h.bel.grown hgr h.bel.size h.ow⟩
  · rw [List.length_append, natV_append]
    exact g.held
  · intro q hq
    rcases hat q hq with h3 | h3
    · exact h.ow q h3
    · have := h.bel.size; omega
/-- what comes out of rising -/
def RisP (w : World) (n most : Nat) (r : Ending) (w' : World) : Prop := ∃ v' R, r = .returned v' ∧ R ≠ [] ∧ R.length ≤ most ∧ RiI w w' n R v'
set_option maxRecDepth 100000 in
set_option maxHeartbeats 8000000 in
theorem rising_any (v : Value) (Z : List Int) (n most : Nat) (w : World) (hv : Ints w v Z) (h1 : 1 ≤ n) (h2 : n ≤ 1099511627776) (h3 : 1 ≤ most) (h4 : most ≤ 4096) :
    Calls Tryd.prog 24 #[v, .int .i64 (n : Int), .int .i64 (most : Int)] w (RisP w n most) := by
  obtain ⟨p, c, rfl, s1, s2, s3, s4⟩ := id hv
  obtain ⟨m, hm⟩ : ∃ m, m = Z.length := ⟨_, rfl⟩
  have HM := Lib.hid hm
  have HV := Lib.hid hv
  have CP := Lib.hid (fun (z : Int) (r : Nat) (w' : World) (h : 0 < r) (h' : r ≤ 9223372036854775807) (hz : -9223372036854775808 ≤ z ∧ z ≤ 9223372036854775807) => pick8_any z r w' h h' hz)
  have HN : Hid (1 ≤ n ∧ n ≤ 1099511627776 ∧ 1 ≤ most ∧ most ≤ 4096) := Lib.hid ⟨h1, h2, h3, h4⟩
  have HONE : Hid (∀ x : Int, ∀ u ∈ [Value.int .i64 x], u.oneCell' = true) := Lib.hid (fun x u hu => by rw [List.mem_singleton.1 hu]; rfl)
  have HI0 : Hid (RiI w w 0 [] (.slice none 0 0)) := Lib.hid ⟨⟨List.Pairwise.nil, by simp⟩, ⟨rfl, .inl ⟨rfl, rfl⟩⟩, (fun g hg => by cases hg), Below.refl _ _⟩
  rw [← hm] at s1 s2
  rw [← hm]
  clear hv s3 s4 hm h1 h2 h3 h4
  go_enter Tryd.func24, Tryd.ntmps24
  go_wp2_with fail
  go_loopw [7, 8, 9] (fun x y z wr => ∃ (a i : Nat) (R : List Nat), y = .int .i64 (a : Int) ∧ z = .int .i64 (i : Int) ∧ a ≤ 1099511627776 ∧ i ≤ 281474976710656 ∧ Hid (i ≤ m ∧ a ≤ n ∧ R.length ≤ most ∧ RiI w wr a R x)) (fun _ _ z _ => m - (intOf z).toNat)
  case atStart => exact ⟨0, 0, [], rfl, rfl, by omega, by omega, Lib.hid ⟨by omega, by omega, by simp, HI0.out⟩⟩
  case round =>
    clear HI0
    obtain ⟨a, i, R, rfl, rfl, ha, hi, HI⟩ := hrel
    obtain ⟨lp, lc, rfl, _⟩ := HI.out.2.2.2.hd.cells
    obtain ⟨k, hk⟩ : ∃ k, k = R.length := ⟨_, rfl⟩
    have HK := Lib.hid hk
    rw [← hk]
    have hk4 : k ≤ 4096 := by have := HI.out.2.2.1; have := HN.out; omega
    clear hk
    by_cases hgo : i < m ∧ k < most ∧ a < n
    · have g1 : (i : Int) < (m : Int) := by omega
      have g2 : (k : Int) < (most : Int) := by omega
      have g3 : (a : Int) < (n : Int) := by omega
      have gi0 : (0 : Int) ≤ (i : Int) := by omega
      obtain ⟨z, hz⟩ : ∃ z, Z[i]? = some z := ⟨Z[i]'(by have := HM.out; omega), List.getElem?_eq_getElem _⟩
      obtain ⟨p', c', hpe, _, _, hzb, hzc⟩ := ints_belowH HV.out HI.out.2.2.2.bel (Nat.le_refl _)
      cases hpe
      obtain ⟨ad, rfl, hcz⟩ := hzc i z hz
      have hzb := hzb z (List.mem_of_getElem? hz)
      obtain ⟨rm, hrm⟩ : ∃ x, x = n - a := ⟨_, rfl⟩
      have hsub : (n : Int) - (a : Int) = (rm : Int) := by omega
      have HG : Hid (i < m ∧ k < most ∧ a < n ∧ rm = n - a) := Lib.hid ⟨hgo.1, hgo.2.1, hgo.2.2, hrm⟩
      have hrb : rm ≤ 1099511627776 := by have := HN.out; omega
      have hp : i % 2 = 0 ∨ i % 2 = 1 := by omega
      have fin : Hid (∀ (pk : Nat) (v5 : Value) (w5 : World), pk < rm → Grew 3 1 (wr.alloc (.cells #[.int .i64 ((a : Int) + (pk : Int))] 3)) (.slice lp R.length lc) R.length 1 (natV R) [.int .i64 ((a : Int) + (pk : Int))] v5 w5 → RiI w w5 (a + pk + 1) (R ++ [a + pk]) v5) := Lib.hid (fun pk v5 w5 hpk hg => by
        have hh := HI.out.2.2.2.push (x := a + pk) (by omega) (by rw [show ((a + pk : Nat) : Int) = (a : Int) + (pk : Int) by omega]; exact hg)
        exact hh)
      clear hgo hz hzc hrm
      have hl1 : (k + 1) * 8 ≤ 140737488355328 := by omega
      have hl2 : k + 1 ≤ 140737488355328 := by omega
      have HHD : Hid (Held wr 3 1 (.slice lp k lc) k (natV R)) := Lib.hid (by rw [HK.out]; exact HI.out.2.2.2.hd)
      have roundTail : ∀ (pk : Nat) (v5 : Value) (w5 : World), pk < rm → Grew 3 1 (wr.alloc (.cells #[.int .i64 ((a : Int) + (pk : Int))] 3)) (.slice lp k lc) k 1 (natV R) [.int .i64 ((a : Int) + (pk : Int))] v5 w5 →
          (∃ (a' i' : Nat) (R' : List Nat), Value.int .i64 ((a : Int) + (pk : Int) + 1) = .int .i64 (a' : Int) ∧ Value.int .i64 ((i : Int) + 1) = .int .i64 (i' : Int) ∧ a' ≤ 1099511627776 ∧ i' ≤ 281474976710656 ∧ Hid (i' ≤ m ∧ a' ≤ n ∧ R'.length ≤ most ∧ RiI w w5 a' R' v5)) := fun pk v5 w5 hpk hg => by
        rw [HK.out] at hg
        have hh := fin.out pk v5 w5 hpk hg
        have h1 := HG.out
        have h2 := HN.out
        have h3 := HK.out
        exact ⟨a + pk + 1, i + 1, R ++ [a + pk], by simp, by simp, by omega, by omega, Lib.hid ⟨by omega, by omega, by rw [List.length_append, List.length_singleton]; omega, hh⟩⟩
      have HRT := Lib.hid roundTail
      clear roundTail
      have big : ∀ (q : Nat), 0 < q → q ≤ rm → ∃ pk : Nat, pk < rm ∧ pk ≤ 1099511627776 ∧ Hid (∀ w', Calls Tryd.prog 11 #[.int .i64 z, .int .i64 (q : Int)] w' fun e w2 => e = .returned (.int .i64 (pk : Int)) ∧ w2 = w') := fun q h0 hq => by
        have hlt := pickN_lt z h0
        exact ⟨pickN z q, by omega, by omega, Lib.hid (fun w' => CP.out z q w' h0 (by omega) hzb)⟩
      have HBIG := Lib.hid big
      clear big hzb
      rcases hp with hp | hp
      · have hpi : (i : Int).tmod 2 = 0 := by rw [Int.tmod_eq_emod_of_nonneg (Int.natCast_nonneg _)]; omega
        clear hp
        by_cases h40 : 40 < rm
        · have h40i : (40 : Int) < (rm : Int) := by omega
          obtain ⟨pk, hpk, hpb, CQ0⟩ := HBIG.out 40 (by omega) (by omega)
          have CQ : Hid (∀ w', Calls Tryd.prog 11 #[.int .i64 z, .int .i64 40] w' fun e w2 => e = .returned (.int .i64 (pk : Int)) ∧ w2 = w') := Lib.hid CQ0.out
          clear CQ0
          have HPK := Lib.hid hpk
          clear h40 hpk
          go_wp2_with (first
            | (go_at_call 11; with_reducible refine (CQ.out _).mono ?_; rintro r wx ⟨rfl, hwx⟩; rw [hwx]; clear hwx wx)
            | (at_builtin; refine wpList_grew (v := .slice lp k lc) (l := natV R) rfl _ _ rfl Tryd.underlying41 (.int .i64 0) 1 info_intH rfl (by decide) [.int .i64 ((a : Int) + (pk : Int))] 1 (by simp [Act.eval]) (by simp [Act.eval]) HHD.out rfl rfl (by decide) (HONE.out _) hl1 hl2 ?_; intro v5 w5 hg5; have HG5 := Lib.hid hg5; clear hg5))
          refine ⟨HRT.out pk _ _ HPK.out HG5.out, ?_⟩
          show m - ((i : Int) + 1).toNat < m - ((i : Int)).toNat
          have := HG.out
          omega
        · have h40i : ¬ (40 : Int) < (rm : Int) := by omega
          obtain ⟨pk, hpk, hpb, CQ⟩ := HBIG.out rm (by have := HG.out; omega) (by omega)
          have HPK := Lib.hid hpk
          clear h40 hpk
          go_wp2_with (first
            | (go_at_call 11; with_reducible refine (CQ.out _).mono ?_; rintro r wx ⟨rfl, hwx⟩; rw [hwx]; clear hwx wx)
            | (at_builtin; refine wpList_grew (v := .slice lp k lc) (l := natV R) rfl _ _ rfl Tryd.underlying41 (.int .i64 0) 1 info_intH rfl (by decide) [.int .i64 ((a : Int) + (pk : Int))] 1 (by simp [Act.eval]) (by simp [Act.eval]) HHD.out rfl rfl (by decide) (HONE.out _) hl1 hl2 ?_; intro v5 w5 hg5; have HG5 := Lib.hid hg5; clear hg5))
          refine ⟨HRT.out pk _ _ HPK.out HG5.out, ?_⟩
          show m - ((i : Int) + 1).toNat < m - ((i : Int)).toNat
          have := HG.out
          omega
      · have hpi : (i : Int).tmod 2 = 1 := by rw [Int.tmod_eq_emod_of_nonneg (Int.natCast_nonneg _)]; omega
        clear hp
        obtain ⟨pk, hpk, hpb, CQ⟩ := HBIG.out rm (by have := HG.out; omega) (by omega)
        have HPK := Lib.hid hpk
        clear hpk
        go_wp2_with (first
          | (go_at_call 11; with_reducible refine (CQ.out _).mono ?_; rintro r wx ⟨rfl, hwx⟩; rw [hwx]; clear hwx wx)
          | (at_builtin; refine wpList_grew (v := .slice lp k lc) (l := natV R) rfl _ _ rfl Tryd.underlying41 (.int .i64 0) 1 info_intH rfl (by decide) [.int .i64 ((a : Int) + (pk : Int))] 1 (by simp [Act.eval]) (by simp [Act.eval]) HHD.out rfl rfl (by decide) (HONE.out _) hl1 hl2 ?_; intro v5 w5 hg5; have HG5 := Lib.hid hg5; clear hg5))
        refine ⟨HRT.out pk _ _ HPK.out HG5.out, ?_⟩
        show m - ((i : Int) + 1).toNat < m - ((i : Int)).toNat
        have := HG.out
        omega
    · by_cases g1 : i < m
      · have g1i : (i : Int) < (m : Int) := by omega
        by_cases g2 : k < most
        · have g2i : (k : Int) < (most : Int) := by omega
          have g3i : ¬ (a : Int) < (n : Int) := by omega
          clear g1 g2 hgo
          by_cases h0 : k = 0
          · obtain rfl : k = 0 := by omega
            have hR : R = [] := List.eq_nil_of_length_eq_zero HK.out.symm
            have CQ : Hid (∀ w', Calls Tryd.prog 11 #[.int .i64 (n : Int), .int .i64 (n : Int)] w' fun e w2 => e = .returned (.int .i64 0) ∧ w2 = w') := Lib.hid (fun w' => by
              have h := CP.out (n : Int) n w' (by have := HN.out; omega) (by have := HN.out; omega) (by have := HN.out; omega)
              rw [show pickN (n : Int) n = 0 by unfold pickN; rw [if_neg (by omega)]; simp] at h
              exact h)
            have HHD : Hid (Held wr 3 1 (.slice lp 0 lc) 0 (natV R)) := Lib.hid (by rw [HK.out]; exact HI.out.2.2.2.hd)
            have HRE := Lib.hid hR
            clear hR
            go_wp2_with (first
              | (go_at_call 11; with_reducible refine (CQ.out _).mono ?_; rintro r wx ⟨rfl, hwx⟩; rw [hwx]; clear hwx wx)
              | (at_builtin; refine wpList_grew (v := .slice lp 0 lc) (l := natV R) rfl _ _ rfl Tryd.underlying41 (.int .i64 0) 1 info_intH rfl (by decide) [.int .i64 0] 1 (by simp [Act.eval]) (by simp [Act.eval]) HHD.out rfl rfl (by decide) (HONE.out _) (by decide) (by decide) ?_; intro v5 w5 hg5; have HG5 := Lib.hid hg5; clear hg5))
            go_ret
            have hg := HG5.out
            rw [HRE.out] at hg
            have h0 : RiI w wr 0 [] (.slice lp 0 lc) := ⟨⟨List.Pairwise.nil, by simp⟩, by have h := HHD.out; rw [HRE.out] at h; exact h, fun g hg => HI.out.2.2.2.ow g (by rw [← HK.out]; exact hg), HI.out.2.2.2.bel⟩
            have h5 := h0.push (x := 0) (Nat.le_refl _) hg
            exact ⟨v5, [0], rfl, by simp, by have := HN.out; simp; omega, ⟨risN_le h5.ris (by have := HN.out; omega), h5.hd, h5.ow, h5.bel⟩⟩
          · have hk0 : ((k : Int) == 0) = false := by rw [beq_eq_false_iff_ne]; omega
            go_wp2_with fail
            go_ret
            exact ⟨.slice lp k lc, R, rfl, fun e => by have := HK.out; rw [e] at this; simp at this; omega, HI.out.2.2.1, ⟨risN_le HI.out.2.2.2.ris HI.out.2.1, by have h := HI.out.2.2.2.hd; rw [← HK.out] at h ⊢; exact h, (fun g hg => HI.out.2.2.2.ow g (by rw [← HK.out]; exact hg)), HI.out.2.2.2.bel⟩⟩
        · have g2i : ¬ (k : Int) < (most : Int) := by omega
          have h0 : k ≠ 0 := by have := HN.out; omega
          clear g1 g2 hgo
          have hk0 : ((k : Int) == 0) = false := by rw [beq_eq_false_iff_ne]; omega
          go_wp2_with fail
          go_ret
          exact ⟨.slice lp k lc, R, rfl, fun e => by have := HK.out; rw [e] at this; simp at this; omega, HI.out.2.2.1, ⟨risN_le HI.out.2.2.2.ris HI.out.2.1, by have h := HI.out.2.2.2.hd; rw [← HK.out] at h ⊢; exact h, (fun g hg => HI.out.2.2.2.ow g (by rw [← HK.out]; exact hg)), HI.out.2.2.2.bel⟩⟩
      · have g1i : ¬ (i : Int) < (m : Int) := by omega
        clear g1 hgo
        by_cases h0 : k = 0
        · obtain rfl : k = 0 := by omega
          have hR : R = [] := List.eq_nil_of_length_eq_zero HK.out.symm
          have CQ : Hid (∀ w', Calls Tryd.prog 11 #[.int .i64 (n : Int), .int .i64 (n : Int)] w' fun e w2 => e = .returned (.int .i64 0) ∧ w2 = w') := Lib.hid (fun w' => by
            have h := CP.out (n : Int) n w' (by have := HN.out; omega) (by have := HN.out; omega) (by have := HN.out; omega)
            rw [show pickN (n : Int) n = 0 by unfold pickN; rw [if_neg (by omega)]; simp] at h
            exact h)
          have HHD : Hid (Held wr 3 1 (.slice lp 0 lc) 0 (natV R)) := Lib.hid (by rw [HK.out]; exact HI.out.2.2.2.hd)
          have HRE := Lib.hid hR
          clear hR
          go_wp2_with (first
            | (go_at_call 11; with_reducible refine (CQ.out _).mono ?_; rintro r wx ⟨rfl, hwx⟩; rw [hwx]; clear hwx wx)
            | (at_builtin; refine wpList_grew (v := .slice lp 0 lc) (l := natV R) rfl _ _ rfl Tryd.underlying41 (.int .i64 0) 1 info_intH rfl (by decide) [.int .i64 0] 1 (by simp [Act.eval]) (by simp [Act.eval]) HHD.out rfl rfl (by decide) (HONE.out _) (by decide) (by decide) ?_; intro v5 w5 hg5; have HG5 := Lib.hid hg5; clear hg5))
          go_ret
          have hg := HG5.out
          rw [HRE.out] at hg
          have h0 : RiI w wr 0 [] (.slice lp 0 lc) := ⟨⟨List.Pairwise.nil, by simp⟩, by have h := HHD.out; rw [HRE.out] at h; exact h, fun g hg => HI.out.2.2.2.ow g (by rw [← HK.out]; exact hg), HI.out.2.2.2.bel⟩
          have h5 := h0.push (x := 0) (Nat.le_refl _) hg
          exact ⟨v5, [0], rfl, by simp, by have := HN.out; simp; omega, ⟨risN_le h5.ris (by have := HN.out; omega), h5.hd, h5.ow, h5.bel⟩⟩
        · have hk0 : ((k : Int) == 0) = false := by rw [beq_eq_false_iff_ne]; omega
          go_wp2_with fail
          go_ret
          exact ⟨.slice lp k lc, R, rfl, fun e => by have := HK.out; rw [e] at this; simp at this; omega, HI.out.2.2.1, ⟨risN_le HI.out.2.2.2.ris HI.out.2.1, by have h := HI.out.2.2.2.hd; rw [← HK.out] at h ⊢; exact h, (fun g hg => HI.out.2.2.2.ow g (by rw [← HK.out]; exact hg)), HI.out.2.2.2.bel⟩⟩
end Go.Proofs.YteknpnanmbfhfaaDoor
/- The plain law of ShapeParts: spans beside some leaves, and these, are all leaves; how many there are. -/
namespace Go.Scr
set_option linter.unusedVariables false
/-- the leaves at a place, taken one by one -/
def skipT : List Nat → Nat → Nat × List Nat
  | [], a => (a, [])
  | x :: t, a => if x = a then skipT t (a + 1) else (a, x :: t)
def apartT (n : Nat) : List (Nat × Nat) → List Nat → Nat → Bool
  | [], R, a => decide ((skipT R a).1 = n) && decide ((skipT R a).2 = [])
  | x :: l, R, a => if x.1 ≠ (skipT R a).1 ∨ x.2 ≤ (skipT R a).1 then false else apartT n l (skipT R a).2 x.2
theorem apartT_skip (n : Nat) (l : List (Nat × Nat)) (a : Nat) (t : List Nat) : apartT n l (a :: t) a = apartT n l t (a + 1) := by
  cases l with
  | nil => unfold apartT; rw [skipT, if_pos rfl]
  | cons x l => unfold apartT; rw [skipT, if_pos rfl]
theorem skipT_none {R : List Nat} {a : Nat} (h : ∀ x ∈ R, a < x) : skipT R a = (a, R) := by
  cases R with
  | nil => rfl
  | cons x t =>
    have := h x (List.mem_cons_self ..)
    rw [skipT, if_neg (by omega)]
/-- those of a list from a place on -/
def fromT (R : List Nat) (a : Nat) : List Nat := R.filter (fun x => decide (a ≤ x))
theorem fromT_mem {R : List Nat} {a x : Nat} : x ∈ fromT R a ↔ x ∈ R ∧ a ≤ x := by simp [fromT]
theorem fromT_hit {R : List Nat} {a : Nat} (hs : R.Pairwise (· < ·)) (h : a ∈ R) : fromT R a = a :: fromT R (a + 1) := by
  induction R with
  | nil => cases h
  | cons x t ih =>
    have ht := List.pairwise_cons.1 hs
    unfold fromT at *
    rcases List.mem_cons.1 h with rfl | h
    · rw [List.filter_cons, if_pos (by simp), List.filter_cons, if_neg (by simp)]
      congr 1
      apply List.filter_congr
      intro y hy
      have := ht.1 y hy
      simp only [decide_eq_decide]
      omega
    · have := ht.1 a h
      rw [List.filter_cons, if_neg (by simp; omega), List.filter_cons, if_neg (by simp; omega)]
      exact ih ht.2 h
theorem fromT_same {R : List Nat} {a b : Nat} (hab : a ≤ b) (h : ∀ x ∈ R, ¬ (a ≤ x ∧ x < b)) : fromT R a = fromT R b := by
  unfold fromT
  apply List.filter_congr
  intro y hy
  have := h y hy
  simp only [decide_eq_decide]
  omega
theorem lookZ_cases {R : List Nat} {b e : Nat} (hbe : b < e) : (lookZ (R.map (fun x : Nat => (x : Int))) b e = 0 ∧ ∀ x ∈ R, ¬ (b ≤ x ∧ x < e)) ∨ (lookZ (R.map (fun x : Nat => (x : Int))) b e = (if e - b = 1 then 2 else 1) ∧ ∃ x ∈ R, b ≤ x ∧ x < e) := by
  by_cases h : ∃ x ∈ R, b ≤ x ∧ x < e
  · obtain ⟨x, hx, h1, h2⟩ := h
    exact .inr ⟨lookZ_some (List.mem_map.2 ⟨x, hx, rfl⟩) (by omega), x, hx, h1, h2⟩
  · refine .inl ⟨lookZ_none ?_, fun x hx hh => h ⟨x, hx, hh⟩⟩
    intro z hz
    obtain ⟨x, hx, rfl⟩ := List.mem_map.1 hz
    intro hh
    exact h ⟨x, hx, by omega, by omega⟩
theorem apartT_rest (N : Nat) {R : List Nat} (hs : R.Pairwise (· < ·)) (n : Nat) : ∀ (b : Nat) (l : List (Nat × Nat)), 1 ≤ n →
    apartT N (restT (lookZ (R.map (fun x : Nat => (x : Int)))) b n ++ l) (fromT R b) b = apartT N l (fromT R (b + n)) (b + n) := by
  induction n using Nat.strongRecOn with
  | ind n ih =>
    intro b l hn
    rcases lookZ_cases (R := R) (show b < b + n by omega) with ⟨h0, h1⟩ | ⟨h0, x, hx, h1, h2⟩
    · rw [restT_none h0, List.singleton_append]
      have e1 := fromT_same (show b ≤ b + n by omega) h1
      have e2 : skipT (fromT R b) b = (b, fromT R b) := skipT_none (fun y hy => by
        rw [e1, fromT_mem] at hy
        omega)
      unfold apartT
      rw [e2, if_neg (by simp; omega), ← e1]
      cases l <;> rfl
    · by_cases h : n ≤ 1
      · have hn1 : n = 1 := by omega
        subst hn1
        have hx2 : x = b := by omega
        subst hx2
        rw [restT_all (by rw [h0, if_pos (by omega)]), List.nil_append, fromT_hit hs hx, apartT_skip]
      · have hsp := spl_lt (show 2 ≤ n by omega)
        rw [restT_some (by rw [h0, if_neg (by omega)]; decide) (by rw [h0, if_neg (by omega)]; decide) (by omega), List.append_assoc, ih _ hsp.2.1 b _ hsp.1, ih (n - spl n) (by omega) (b + spl n) _ (by omega)]
        rw [show b + spl n + (n - spl n) = b + n by omega]
theorem apartT_batch {N : Nat} {R : List Nat} (hN : 1 ≤ N) (h : R.Pairwise (· < ·)) (hb : ∀ x ∈ R, x < N) : apartT N (restT (lookZ (R.map (fun x : Nat => (x : Int)))) 0 N) R 0 = true := by
  have h1 := apartT_rest N h N 0 [] hN
  rw [List.append_nil] at h1
  have e0 : fromT R 0 = R := by unfold fromT; rw [List.filter_eq_self]; intro x _; simp
  have eN : fromT R (0 + N) = [] := by unfold fromT; rw [List.filter_eq_nil_iff]; intro x hx; have := hb x hx; simp; omega
  rw [e0, eN, Nat.zero_add] at h1
  rw [h1]
  simp [apartT, skipT]
/-- how many leaves that are wanted a subtree has -/
def hasT (R : List Nat) (b n : Nat) : Nat := (R.filter (fun x => decide (b ≤ x ∧ x < b + n))).length
theorem hasT_split (R : List Nat) {b n k : Nat} (hk : k ≤ n) : hasT R b n = hasT R b k + hasT R (b + k) (n - k) := by
  unfold hasT
  induction R with
  | nil => rfl
  | cons x t ih =>
    simp only [List.filter_cons]
    by_cases h1 : b ≤ x ∧ x < b + k
    · rw [if_pos (by simp; omega), if_pos (by simp; omega), if_neg (by simp; omega), List.length_cons, List.length_cons, ih]; omega
    · by_cases h2 : b + k ≤ x ∧ x < b + k + (n - k)
      · rw [if_pos (by simp; omega), if_neg (by simp; omega), if_pos (by simp; omega), List.length_cons, List.length_cons, ih]; omega
      · rw [if_neg (by simp; omega), if_neg (by simp; omega), if_neg (by simp; omega), ih]
theorem hasT_none {R : List Nat} {b n : Nat} (h : ∀ x ∈ R, ¬ (b ≤ x ∧ x < b + n)) : hasT R b n = 0 := by
  unfold hasT
  rw [List.length_eq_zero_iff, List.filter_eq_nil_iff]
  intro x hx
  simpa using h x hx
theorem hasT_pos {R : List Nat} {b n x : Nat} (hx : x ∈ R) (h : b ≤ x ∧ x < b + n) : 1 ≤ hasT R b n := by
  unfold hasT
  exact List.length_pos_of_mem (List.mem_filter.2 ⟨hx, by simpa using h⟩)
theorem hasT_one {R : List Nat} (hs : R.Pairwise (· < ·)) (b : Nat) : hasT R b 1 ≤ 1 := by
  induction R with
  | nil => simp [hasT]
  | cons x t ih =>
    have ht := List.pairwise_cons.1 hs
    have := ih ht.2
    unfold hasT at *
    rw [List.filter_cons]
    split
    · rename_i hx
      simp at hx
      have : t.filter (fun x => decide (b ≤ x ∧ x < b + 1)) = [] := by
        rw [List.filter_eq_nil_iff]
        intro y hy
        have := ht.1 y hy
        simp
        omega
      rw [this]
      simp
    · exact this
theorem hasT_all {R : List Nat} {N : Nat} (h : ∀ x ∈ R, x < N) : hasT R 0 N = R.length := by
  unfold hasT
  congr 1
  rw [List.filter_eq_self]
  intro x hx
  have := h x hx
  simp
  omega
theorem rest_count {R : List Nat} (hs : R.Pairwise (· < ·)) (n : Nat) : ∀ b, 1 ≤ n → (restT (lookZ (R.map (fun x : Nat => (x : Int)))) b n).length + hasT R b n ≤ n := by
  induction n using Nat.strongRecOn with
  | ind n ih =>
    intro b hn
    rcases lookZ_cases (R := R) (show b < b + n by omega) with ⟨h0, h1⟩ | ⟨h0, x, hx, h1, h2⟩
    · rw [restT_none h0, hasT_none h1]; simpa using hn
    · by_cases h : n ≤ 1
      · have hn1 : n = 1 := by omega
        subst hn1
        rw [restT_all (by rw [h0, if_pos (by omega)])]
        have := hasT_one hs b
        simpa using this
      · have hsp := spl_lt (show 2 ≤ n by omega)
        rw [restT_some (by rw [h0, if_neg (by omega)]; decide) (by rw [h0, if_neg (by omega)]; decide) (by omega), List.length_append, hasT_split R (show spl n ≤ n by omega)]
        have := ih _ hsp.2.1 b hsp.1
        have := ih (n - spl n) (by omega) (b + spl n) (by omega)
        omega
/-- how deep a tree is -/
def dptT (n : Nat) : Nat := wayN n 0
theorem dptT_more {n : Nat} (h : 1 < n) : dptT n = dptT (spl n) + 1 := wayN_left h (by have := spl_lt (show 2 ≤ n by omega); omega)
theorem dptT_one {n : Nat} (h : n ≤ 1) : dptT n = 0 := wayN_one 0 h
theorem dptT_fits (n : Nat) : n ≤ 2 ^ dptT n := by
  induction n using Nat.strongRecOn with
  | ind n ih =>
    by_cases h : n ≤ 1
    · rw [dptT_one h]; simpa using h
    · have hsp := spl_lt (show 2 ≤ n by omega)
      have := ih _ hsp.2.1
      rw [dptT_more (by omega), Nat.pow_succ]
      omega
theorem dptT_le (n : Nat) : ∀ k, n ≤ 2 ^ k → dptT n ≤ k := by
  induction n using Nat.strongRecOn with
  | ind n ih =>
    intro k hk
    by_cases h : n ≤ 1
    · rw [dptT_one h]; exact Nat.zero_le _
    · have hsp := spl_lt (show 2 ≤ n by omega)
      obtain ⟨i, h1, h2, h3⟩ := spl_pow (show 2 ≤ n by omega)
      have hik : i < k := (Nat.pow_lt_pow_iff_right (show 1 < 2 by decide)).1 (Nat.lt_of_lt_of_le h2 hk)
      have := ih _ hsp.2.1 (k - 1) (by rw [h1]; exact Nat.pow_le_pow_right (by decide) (by omega))
      rw [dptT_more (by omega)]
      omega
theorem dptT_mono {m n : Nat} (h : m ≤ n) : dptT m ≤ dptT n := dptT_le m _ (Nat.le_trans h (dptT_fits n))
theorem rest_depth {R : List Nat} (n : Nat) : ∀ b, 1 ≤ n → 1 ≤ hasT R b n → (restT (lookZ (R.map (fun x : Nat => (x : Int)))) b n).length ≤ hasT R b n * dptT n := by
  induction n using Nat.strongRecOn with
  | ind n ih =>
    intro b hn hh
    rcases lookZ_cases (R := R) (show b < b + n by omega) with ⟨h0, h1⟩ | ⟨h0, x, hx, h1, h2⟩
    · rw [hasT_none h1] at hh; omega
    · by_cases h : n ≤ 1
      · have hn1 : n = 1 := by omega
        subst hn1
        rw [restT_all (by rw [h0, if_pos (by omega)])]
        simp
      · have hsp := spl_lt (show 2 ≤ n by omega)
        have hsplit := hasT_split R (b := b) (show spl n ≤ n by omega)
        rw [restT_some (by rw [h0, if_neg (by omega)]; decide) (by rw [h0, if_neg (by omega)]; decide) (by omega), List.length_append, dptT_more (by omega)]
        have hmono := dptT_mono (show n - spl n ≤ spl n by omega)
        have one : ∀ c k, hasT R c k = 0 → 1 ≤ k → (restT (lookZ (R.map (fun x : Nat => (x : Int)))) c k).length = 1 := fun c k hc hk => by
          rcases lookZ_cases (R := R) (show c < c + k by omega) with ⟨g0, _⟩ | ⟨_, y, hy, g1, g2⟩
          · rw [restT_none g0]; rfl
          · have := hasT_pos hy ⟨g1, g2⟩; omega
        obtain ⟨p, hp⟩ : ∃ p, p = hasT R b (spl n) := ⟨_, rfl⟩
        obtain ⟨q, hq⟩ : ∃ q, q = hasT R (b + spl n) (n - spl n) := ⟨_, rfl⟩
        obtain ⟨d, hd⟩ : ∃ d, d = dptT (spl n) := ⟨_, rfl⟩
        rw [hsplit, ← hp, ← hq] at hh ⊢
        rw [← hd] at hmono ⊢
        have i1 : 1 ≤ p → (restT (lookZ (R.map (fun x : Nat => (x : Int)))) b (spl n)).length ≤ p * d := fun g => by
          have := ih _ hsp.2.1 b hsp.1 (by omega)
          rwa [← hp, ← hd] at this
        have i2 : 1 ≤ q → (restT (lookZ (R.map (fun x : Nat => (x : Int)))) (b + spl n) (n - spl n)).length ≤ q * d := fun g => by
          have := ih (n - spl n) (by omega) (b + spl n) (by omega) (by omega)
          rw [← hq] at this
          exact Nat.le_trans this (Nat.mul_le_mul_left _ hmono)
        have e : (p + q) * (d + 1) = p * d + q * d + (p + q) := by rw [Nat.mul_add, Nat.add_mul, Nat.mul_one]
        rw [e]
        by_cases g1 : 1 ≤ p
        · by_cases g2 : 1 ≤ q
          · have := i1 g1; have := i2 g2; omega
          · have := i1 g1
            have := one (b + spl n) (n - spl n) (by omega) (by omega)
            omega
        · have := one b (spl n) (by omega) hsp.1
          have := i2 (by omega)
          omega
theorem path_length (n : Nat) : ∀ b m, m < n → (pathT b n m).length = wayN n m := by
  induction n using Nat.strongRecOn with
  | ind n ih =>
    intro b m hm
    by_cases h : n ≤ 1
    · rw [pathT_one b m h, wayN_one m h]; rfl
    · have hsp := spl_lt (show 2 ≤ n by omega)
      by_cases h2 : m < spl n
      · rw [pathT_left b (by omega) h2, wayN_left (by omega) h2, List.length_cons, ih _ hsp.2.1 b m h2]
      · rw [pathT_right b (by omega) h2, wayN_right (by omega) h2, List.length_cons, ih (n - spl n) (by omega) (b + spl n) (m - spl n) (by omega)]
theorem proof_length (n : Nat) : ∀ b m, 1 ≤ m → m ≤ n → (proofT b n m).length = toldN m n (decide (b = 0)) := by
  induction n using Nat.strongRecOn with
  | ind n ih =>
    intro b m h1 hm
    by_cases he : m = n
    · subst he
      rw [proofT_end, toldN_same]
      by_cases hb : b = 0
      · rw [if_pos hb, decide_eq_true hb]; rfl
      · rw [if_neg hb, decide_eq_false hb]; rfl
    · have hsp := spl_lt (show 2 ≤ n by omega)
      by_cases h2 : m ≤ spl n
      · rw [proofT_left b he (by omega) h2, toldN_left _ he (by omega) h2, List.length_cons, ih _ hsp.2.1 b m h1 h2]
      · rw [proofT_right b he (by omega) h2, toldN_right _ he (by omega) h2, List.length_cons, ih (n - spl n) (by omega) (b + spl n) (m - spl n) (by omega) (by omega), decide_eq_false (show ¬ b + spl n = 0 by omega)]
end Go.Scr
/- Law 8, walked: apart. -/
namespace Go.Scr
theorem apartT_more (N : Nat) {L : List (Nat × Nat)} {i : Nat} {x : Nat × Nat} (hx : L[i]? = some x) (R : List Nat) (a : Nat) : apartT N (L.drop i) R a = if x.1 ≠ (skipT R a).1 ∨ x.2 ≤ (skipT R a).1 then false else apartT N (L.drop (i + 1)) (skipT R a).2 x.2 := by
  obtain ⟨hi, rfl⟩ := List.getElem?_eq_some_iff.mp hx
  rw [List.drop_eq_getElem_cons hi]
  rfl
theorem apartT_end (N : Nat) {L : List (Nat × Nat)} {i : Nat} (hi : L.length ≤ i) (R : List Nat) (a : Nat) : apartT N (L.drop i) R a = (decide ((skipT R a).1 = N) && decide ((skipT R a).2 = [])) := by
  rw [List.drop_eq_nil_of_le hi]
  rfl
end Go.Scr
namespace Go.Proofs.YteknpnanmbfhfaaDoor
open Go.RowKit Go.Scr Go.Shelf
set_option linter.unusedVariables false
set_option maxRecDepth 100000 in
set_option maxHeartbeats 4000000 in
theorem apart_any (N : Nat) (v vr : Value) (L : List (Nat × Nat)) (R : List Nat) (w : World) (h1 : Held w 29 2 v L.length (prsV L)) (h2 : Held w 3 1 vr R.length (natV R)) (hL : ∀ x ∈ L, x.2 ≤ 1099511627776) (hR : ∀ x ∈ R, x ≤ 1099511627776) (hN : N ≤ 1099511627776) :
    Calls Tryd.prog 34 #[.int .i64 (N : Int), v, vr] w fun r w' => r = .returned (.bool (apartT N L R 0)) ∧ w' = w := by
  obtain ⟨p, c, rfl, hpc, hcm, _⟩ := h1.cells
  obtain ⟨q, d, rfl, hqd, hdm, _⟩ := h2.cells
  obtain ⟨n, hn⟩ : ∃ n, n = L.length := ⟨_, rfl⟩
  obtain ⟨m, hm⟩ : ∃ m, m = R.length := ⟨_, rfl⟩
  have hnb : n ≤ maxLen := by omega
  have hmb : m ≤ maxLen := by omega
  simp only [maxLen] at hnb hmb
  rw [← hn] at h1
  rw [← hm] at h2
  rw [← hn, ← hm]
  obtain ⟨T, hT⟩ : ∃ T, T = apartT N L R 0 := ⟨_, rfl⟩
  rw [← hT]
  have HTT := Lib.hid hT
  have HN := Lib.hid hn
  have HM := Lib.hid hm
  have HA := Lib.hid h1
  have HB := Lib.hid h2
  have HL := Lib.hid hL
  have HR := Lib.hid hR
  clear hpc hcm hqd hdm h1 h2 hn hm hL hR hT
  go_enter Tryd.func34, Tryd.ntmps34
  go_wp2_with fail
  go_loop [7, 8, 9] (fun x y z => ∃ a k i : Nat, x = .int .i64 (a : Int) ∧ y = .int .i64 (k : Int) ∧ z = .int .i64 (i : Int) ∧ a ≤ 1099511627777 ∧ k ≤ m ∧ i ≤ n ∧ Hid (T = apartT N (L.drop i) (R.drop k) a)) (fun _ _ z => n + 1 - (intOf z).toNat)
  case atStart => exact ⟨0, 0, 0, rfl, rfl, rfl, by omega, by omega, by omega, Lib.hid (by rw [HTT.out, List.drop_zero, List.drop_zero])⟩
  case round =>
    obtain ⟨a, k, i, rfl, rfl, rfl, ha, hk, hi, HI⟩ := hrel
    have hin : (i : Int) ≤ (n : Int) := by omega
    go_wp2_with fail
    go_loop [7, 8] (fun x y => ∃ a' k' : Nat, x = .int .i64 (a' : Int) ∧ y = .int .i64 (k' : Int) ∧ a' ≤ 1099511627777 ∧ k' ≤ m ∧ Hid (skipT (R.drop k) a = skipT (R.drop k') a')) (fun _ y => m - (intOf y).toNat)
    case atStart => exact ⟨a, k, rfl, rfl, ha, hk, Lib.hid rfl⟩
    case round =>
      clear ha hk
      obtain ⟨a, k, rfl, rfl, ha, hk, HJ⟩ := hrel
      by_cases hlt : k < m
      · have hlti : (k : Int) < (m : Int) := by omega
        have hk0 : (0 : Int) ≤ (k : Int) := by omega
        obtain ⟨x, hx⟩ : ∃ x, R[k]? = some x := ⟨R[k]'(by have := HM.out; omega), List.getElem?_eq_getElem _⟩
        obtain ⟨g, rfl, hg⟩ := held_cell HB.out (by omega)
        have kx : w.cell? ⟨g, k, none⟩ = some (.int .i64 (x : Int)) := hg k _ (by rw [List.getElem?_map, hx]; rfl)
        have hdrop : R.drop k = x :: R.drop (k + 1) := by
          obtain ⟨h3, rfl⟩ := List.getElem?_eq_some_iff.mp hx
          exact List.drop_eq_getElem_cons h3
        have HD := Lib.hid hdrop
        have HX : Hid (x ≤ 1099511627776) := Lib.hid (HR.out x (List.mem_of_getElem? hx))
        have HLT := Lib.hid hlt
        clear hlt hx hg hdrop
        by_cases hxa : x = a
        · subst hxa
          have HJ2 : Hid (skipT (R.drop k) x = skipT (R.drop (k + 1)) (x + 1)) := Lib.hid (by rw [HD.out, skipT, if_pos rfl])
          go_wp2_with fail
          refine ⟨⟨x + 1, k + 1, by simp, by simp, by have := HX.out; omega, by have := HLT.out; omega, Lib.hid (HJ.out.trans HJ2.out)⟩, ?_⟩
          show m - ((k : Int) + 1).toNat < m - ((k : Int)).toNat
          have := HLT.out
          omega
        · have hxi : ((x : Int) == (a : Int)) = false := by rw [beq_eq_false_iff_ne]; omega
          have HS : Hid (skipT (R.drop k) a = (a, R.drop k)) := Lib.hid (by rw [HD.out, skipT, if_neg hxa])
          clear hxa
          have HE := Lib.hid (HJ.out.trans HS.out)
          by_cases hin2 : i = n
          · subst hin2
            have hTT := HI.out
            rw [apartT_end N (by have := HN.out; omega), HE.out] at hTT
            have hde : decide (R.drop k = []) = decide (k = m) := by
              rw [decide_eq_decide, List.drop_eq_nil_iff]
              have := HM.out
              omega
            rw [hde] at hTT
            by_cases haN : a = N
            · subst haN
              rw [decide_eq_true (rfl : (a, R.drop k).1 = a), Bool.true_and] at hTT
              by_cases hkm : k = m
              · subst hkm
                rw [decide_eq_true rfl] at hTT
                subst hTT
                go_wp2_with fail
                go_ret
                exact ⟨rfl, rfl⟩
              · have hkmi : ((k : Int) == (m : Int)) = false := by rw [beq_eq_false_iff_ne]; omega
                rw [decide_eq_false hkm] at hTT
                subst hTT
                clear hkm
                go_wp2_with fail
                go_ret
                exact ⟨rfl, rfl⟩
            · have haNi : ((a : Int) == (N : Int)) = false := by rw [beq_eq_false_iff_ne]; omega
              rw [decide_eq_false (show ¬ (a, R.drop k).1 = N from haN), Bool.false_and] at hTT
              subst hTT
              clear haN
              go_wp2_with fail
              go_ret
              exact ⟨rfl, rfl⟩
          · have hini : ((i : Int) == (n : Int)) = false := by rw [beq_eq_false_iff_ne]; omega
            have hltn : (i : Int) < (n : Int) := by omega
            have hi0 : (0 : Int) ≤ (i : Int) := by omega
            obtain ⟨⟨xb, xe⟩, hx⟩ : ∃ x, L[i]? = some x := ⟨L[i]'(by have := HN.out; omega), List.getElem?_eq_getElem _⟩
            obtain ⟨q0, q1⟩ := prsV_get hx
            obtain ⟨g, rfl, hg⟩ := held_cell HA.out (by omega)
            have k0 := hg _ _ q0
            have k1 := hg _ _ q1
            have hTT := HI.out
            rw [apartT_more N hx, HE.out] at hTT
            have HX : Hid (xe ≤ 1099511627776 ∧ i < n) := Lib.hid ⟨HL.out _ (List.mem_of_getElem? hx), by omega⟩
            clear hx q0 q1 hg hin2
            by_cases hxb : xb = a
            · subst hxb
              by_cases hxe : xe ≤ xb
              · rw [if_pos (.inr hxe)] at hTT
                subst hTT
                have hxei : (xe : Int) ≤ (xb : Int) := by omega
                clear hxe
                go_wp2_with fail
                go_ret
                exact ⟨rfl, rfl⟩
              · rw [if_neg (by simp; omega)] at hTT
                have hxei : ¬ (xe : Int) ≤ (xb : Int) := by omega
                have HT2 := Lib.hid hTT
                clear hxe hTT
                go_wp2_with fail
                refine ⟨⟨xe, k, i + 1, rfl, rfl, by simp, by have := HX.out; omega, hk, by have := HX.out; omega, HT2⟩, ?_⟩
                show n + 1 - ((i : Int) + 1).toNat < n + 1 - ((i : Int)).toNat
                have := HX.out
                omega
            · have hxbi : ((xb : Int) != (a : Int)) = true := by rw [bne_iff_ne]; omega
              rw [if_pos (.inl hxb)] at hTT
              subst hTT
              clear hxb
              go_wp2_with fail
              go_ret
              exact ⟨rfl, rfl⟩
      · have hlti : ¬ (k : Int) < (m : Int) := by omega
        have HS : Hid (skipT (R.drop k) a = (a, R.drop k)) := Lib.hid (by rw [List.drop_eq_nil_of_le (by have := HM.out; omega)]; rfl)
        clear hlt
        have HE := Lib.hid (HJ.out.trans HS.out)
        by_cases hin2 : i = n
        · subst hin2
          have hTT := HI.out
          rw [apartT_end N (by have := HN.out; omega), HE.out] at hTT
          have hde : decide (R.drop k = []) = decide (k = m) := by
            rw [decide_eq_decide, List.drop_eq_nil_iff]
            have := HM.out
            omega
          rw [hde] at hTT
          by_cases haN : a = N
          · subst haN
            rw [decide_eq_true (rfl : (a, R.drop k).1 = a), Bool.true_and] at hTT
            by_cases hkm : k = m
            · subst hkm
              rw [decide_eq_true rfl] at hTT
              subst hTT
              go_wp2_with fail
              go_ret
              exact ⟨rfl, rfl⟩
            · have hkmi : ((k : Int) == (m : Int)) = false := by rw [beq_eq_false_iff_ne]; omega
              rw [decide_eq_false hkm] at hTT
              subst hTT
              clear hkm
              go_wp2_with fail
              go_ret
              exact ⟨rfl, rfl⟩
          · have haNi : ((a : Int) == (N : Int)) = false := by rw [beq_eq_false_iff_ne]; omega
            rw [decide_eq_false (show ¬ (a, R.drop k).1 = N from haN), Bool.false_and] at hTT
            subst hTT
            clear haN
            go_wp2_with fail
            go_ret
            exact ⟨rfl, rfl⟩
        · have hini : ((i : Int) == (n : Int)) = false := by rw [beq_eq_false_iff_ne]; omega
          have hltn : (i : Int) < (n : Int) := by omega
          have hi0 : (0 : Int) ≤ (i : Int) := by omega
          obtain ⟨⟨xb, xe⟩, hx⟩ : ∃ x, L[i]? = some x := ⟨L[i]'(by have := HN.out; omega), List.getElem?_eq_getElem _⟩
          obtain ⟨q0, q1⟩ := prsV_get hx
          obtain ⟨g, rfl, hg⟩ := held_cell HA.out (by omega)
          have k0 := hg _ _ q0
          have k1 := hg _ _ q1
          have hTT := HI.out
          rw [apartT_more N hx, HE.out] at hTT
          have HX : Hid (xe ≤ 1099511627776 ∧ i < n) := Lib.hid ⟨HL.out _ (List.mem_of_getElem? hx), by omega⟩
          clear hx q0 q1 hg hin2
          by_cases hxb : xb = a
          · subst hxb
            by_cases hxe : xe ≤ xb
            · rw [if_pos (.inr hxe)] at hTT
              subst hTT
              have hxei : (xe : Int) ≤ (xb : Int) := by omega
              clear hxe
              go_wp2_with fail
              go_ret
              exact ⟨rfl, rfl⟩
            · rw [if_neg (by simp; omega)] at hTT
              have hxei : ¬ (xe : Int) ≤ (xb : Int) := by omega
              have HT2 := Lib.hid hTT
              clear hxe hTT
              go_wp2_with fail
              refine ⟨⟨xe, k, i + 1, rfl, rfl, by simp, by have := HX.out; omega, hk, by have := HX.out; omega, HT2⟩, ?_⟩
              show n + 1 - ((i : Int) + 1).toNat < n + 1 - ((i : Int)).toNat
              have := HX.out
              omega
          · have hxbi : ((xb : Int) != (a : Int)) = true := by rw [bne_iff_ne]; omega
            rw [if_pos (.inl hxb)] at hTT
            subst hTT
            clear hxb
            go_wp2_with fail
            go_ret
            exact ⟨rfl, rfl⟩
end Go.Proofs.YteknpnanmbfhfaaDoor
/- Law 8, walked: ShapeParts. -/
namespace Go.Scr
/-- the spans beside a run, gone through -/
def nxtR (lo hi a : Nat) : Nat := if a = lo then hi else a
def chkR (n lo hi : Nat) : List (Nat × Nat) → Nat → Bool
  | [], a => decide (nxtR lo hi a = n)
  | x :: l, a => if x.1 ≠ nxtR lo hi a ∨ x.2 ≤ nxtR lo hi a then false else chkR n lo hi l x.2
def repR (lo hi a b : Nat) : Prop := (b ≤ lo ∧ a = b) ∨ (lo ≤ b ∧ b ≤ hi ∧ nxtR lo hi a = hi) ∨ (hi ≤ b ∧ a = b)
theorem chkR_rest (N : Nat) {lo hi : Nat} (hlh : lo < hi) (n : Nat) : ∀ (b a : Nat), 1 ≤ n → repR lo hi a b → ∃ a', repR lo hi a' (b + n) ∧ ∀ l, chkR N lo hi (restT (lookR lo hi) b n ++ l) a = chkR N lo hi l a' := by
  induction n using Nat.strongRecOn with
  | ind n ih =>
    intro b a hn hr
    by_cases h0 : b + n ≤ lo ∨ hi ≤ b
    · have e0 : lookR lo hi b (b + n) = 0 := by unfold lookR; rw [if_pos h0]
      have hx : nxtR lo hi a = b := by
        unfold repR nxtR at *
        split at hr <;> split <;> omega
      refine ⟨b + n, ?_, fun l => ?_⟩
      · unfold repR
        rcases h0 with h | h
        · exact .inl ⟨h, rfl⟩
        · exact .inr (.inr ⟨by omega, rfl⟩)
      · rw [restT_none e0, List.singleton_append]
        show (if _ then _ else _) = _
        rw [hx, if_neg (by simp; omega)]
    · by_cases h2 : lo ≤ b ∧ b + n ≤ hi
      · have e2 : lookR lo hi b (b + n) = 2 := by unfold lookR; rw [if_neg h0, if_pos h2]
        refine ⟨a, ?_, fun l => by rw [restT_all e2, List.nil_append]⟩
        unfold repR nxtR at *
        right; left
        refine ⟨by omega, by omega, ?_⟩
        split at hr <;> split <;> omega
      · have e1 : lookR lo hi b (b + n) = 1 := by unfold lookR; rw [if_neg h0, if_neg h2]
        have hn1 : 1 < n := by omega
        have hsp := spl_lt (show 2 ≤ n by omega)
        obtain ⟨a1, r1, q1⟩ := ih _ hsp.2.1 b a hsp.1 hr
        obtain ⟨a2, r2, q2⟩ := ih (n - spl n) (by omega) (b + spl n) a1 (by omega) r1
        refine ⟨a2, by rwa [show b + spl n + (n - spl n) = b + n by omega] at r2, fun l => ?_⟩
        rw [restT_some (by rw [e1]; decide) (by rw [e1]; decide) hn1, List.append_assoc, q1, q2]
theorem chkR_run {N lo hi : Nat} (hlh : lo < hi) (h : hi ≤ N) : chkR N lo hi (restT (lookR lo hi) 0 N) 0 = true := by
  have h0 : repR lo hi 0 0 := .inl ⟨Nat.zero_le _, rfl⟩
  obtain ⟨a, r, q⟩ := chkR_rest N hlh N 0 0 (by omega) h0
  have := q []
  rw [List.append_nil] at this
  rw [this]
  show decide (nxtR lo hi a = N) = true
  rw [decide_eq_true_eq]
  unfold repR nxtR at *
  split at r <;> split <;> omega
theorem chkR_more (N lo hi : Nat) {L : List (Nat × Nat)} {i : Nat} {x : Nat × Nat} (hx : L[i]? = some x) (a : Nat) : chkR N lo hi (L.drop i) a = if x.1 ≠ nxtR lo hi a ∨ x.2 ≤ nxtR lo hi a then false else chkR N lo hi (L.drop (i + 1)) x.2 := by
  obtain ⟨hi', rfl⟩ := List.getElem?_eq_some_iff.mp hx
  rw [List.drop_eq_getElem_cons hi']
  rfl
theorem chkR_end (N lo hi : Nat) {L : List (Nat × Nat)} {i : Nat} (h : L.length ≤ i) (a : Nat) : chkR N lo hi (L.drop i) a = decide (nxtR lo hi a = N) := by
  rw [List.drop_eq_nil_of_le h]
  rfl
theorem restT_fits (look : Nat → Nat → Nat) (n : Nat) : ∀ b, 1 ≤ n → ∀ x ∈ restT look b n, b ≤ x.1 ∧ x.1 < x.2 ∧ x.2 ≤ b + n := by
  induction n using Nat.strongRecOn with
  | ind n ih =>
    intro b hn x hx
    by_cases h0 : look b (b + n) = 0
    · rw [restT_none h0, List.mem_singleton] at hx
      subst hx
      exact ⟨Nat.le_refl _, by show b < b + n; omega, Nat.le_refl _⟩
    · by_cases h2 : look b (b + n) = 2
      · rw [restT_all h2] at hx; cases hx
      · by_cases h : n ≤ 1
        · rw [restT, if_neg h0, if_neg h2, dif_pos h] at hx; cases hx
        · have hs := spl_lt (show 2 ≤ n by omega)
          rw [restT_some h0 h2 (by omega)] at hx
          rcases List.mem_append.1 hx with hx | hx
          · have := ih _ hs.2.1 b hs.1 x hx; omega
          · have := ih (n - spl n) (by omega) (b + spl n) (by omega) x hx; omega
end Go.Scr
namespace Go.Proofs.YteknpnanmbfhfaaDoor
open Go.RowKit Go.Scr Go.Shelf
set_option linter.unusedVariables false
theorem batE_ok {N : Nat} {R : List Nat} (h1 : 1 ≤ N) (h2 : N ≤ 1099511627776) (h : RisN N R) (h0 : R ≠ []) (hl : R.length ≤ 256) : batE (N : Int) (R.map (fun x : Nat => (x : Int))) = 0 := by
  have hp : (R.map (fun x : Nat => (x : Int))).Pairwise (· < ·) := by
    rw [List.pairwise_map]
    exact h.1.imp (fun hh => by omega)
  have hlen : 0 < R.length := List.length_pos_iff.2 h0
  unfold batE
  rw [if_neg (by omega), if_neg (by rw [List.length_map]; omega), if_neg (fun hh => hh hp), if_neg ?_]
  rintro (⟨z, hz, hz2⟩ | ⟨z, hz, hz2⟩)
  · obtain ⟨x, _, rfl⟩ := List.mem_map.1 (List.mem_of_getElem? hz)
    omega
  · obtain ⟨x, hx, rfl⟩ := List.mem_map.1 (List.mem_of_getElem? hz)
    have := h.2 x hx
    omega
theorem ints_nat {w : World} {v : Value} {R : List Nat} (h : Held w 3 1 v R.length (natV R)) (hl : R.length ≤ 281474976710656) (hb : ∀ x ∈ R, x ≤ 9223372036854775807) : Ints w v (R.map (fun x : Nat => (x : Int))) := by
  obtain ⟨p, c, rfl, h1, h2, h3⟩ := h.cells
  refine ⟨p, c, by rw [List.length_map], by rw [List.length_map]; exact h1, by rw [List.length_map]; exact hl, ?_, ?_⟩
  · intro z hz
    obtain ⟨x, hx, rfl⟩ := List.mem_map.1 hz
    have := hb x hx
    omega
  · intro j z hz
    rw [List.getElem?_map] at hz
    obtain ⟨x, hx, rfl⟩ := Option.map_eq_some_iff.1 hz
    obtain ⟨a, ha, _, hc⟩ := h3 j (.int .i64 (x : Int)) (by rw [List.getElem?_map, hx]; rfl)
    exact ⟨a, ha, hc⟩
end Go.Proofs.YteknpnanmbfhfaaDoor
