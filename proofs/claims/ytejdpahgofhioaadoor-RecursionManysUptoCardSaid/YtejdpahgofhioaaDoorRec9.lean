/- Layer 3, walked: BinarySearch of numbers. -/
import Derived.Test.YtejdpahgofhioaaDoorRec8
namespace Go.Proofs.YtejdpahgofhioaaDoor
open Go.RowKit Go.Scr
set_option linter.unusedVariables false

theorem pair_lt {Z : List Int} (h : Z.Pairwise (· < ·)) {a b : Nat} {x y : Int} (hab : a < b) (hx : Z[a]? = some x) (hy : Z[b]? = some y) : x < y := by
  obtain ⟨h1, rfl⟩ := List.getElem?_eq_some_iff.mp hx
  obtain ⟨h2, rfl⟩ := List.getElem?_eq_some_iff.mp hy
  exact (List.pairwise_iff_getElem.mp h) a b h1 h2 hab
set_option maxRecDepth 100000 in
set_option maxHeartbeats 400000 in
theorem isnan_any (x : Int) (w : World) :
    Calls Tryd.prog 136 #[.int .i64 x] w fun e w' => e = .returned (.bool false) ∧ w' = w := by
  go_enter Tryd.func136, Tryd.ntmps136
  go_wp2
  go_ret
  exact ⟨rfl, rfl⟩
set_option maxRecDepth 100000 in
set_option maxHeartbeats 400000 in
theorem isnan2_any (x : Int) (w : World) :
    Calls Tryd.prog 118 #[.int .i64 x] w fun e w' => e = .returned (.bool false) ∧ w' = w := by
  go_enter Tryd.func118, Tryd.ntmps118
  go_wp2
  go_ret
  exact ⟨rfl, rfl⟩
set_option maxRecDepth 100000 in
set_option maxHeartbeats 400000 in
theorem less_any (x y : Int) (w : World) :
    Calls Tryd.prog 117 #[.int .i64 x, .int .i64 y] w fun e w' => e = .returned (.bool (decide (x < y))) ∧ w' = w := by
  have H1 := Lib.hid (fun w' => isnan_any x w')
  have H2 := Lib.hid (fun w' => isnan_any y w')
  go_enter Tryd.func117, Tryd.ntmps117
  go_wp2_with (first
    | (go_at_call 136; with_reducible refine (H1.out _).mono ?_; rintro r wx ⟨rfl, hw⟩; rw [hw]; clear hw wx)
    | (go_at_call 136; with_reducible refine (H2.out _).mono ?_; rintro r wx ⟨rfl, hw⟩; rw [hw]; clear hw wx))
  go_ret
  exact ⟨rfl, rfl⟩

/-- where a search ends: all before are less, all from there on are not -/
def binR (Z : List Int) (x : Int) (n : Nat) (e : Ending) : Prop := ∃ (at_ : Nat) (b : Bool), e = .returned (.tuple #[.int .i64 at_, .bool b]) ∧ at_ ≤ n ∧ (∀ j z, j < at_ → Z[j]? = some z → z < x) ∧ (∀ j z, at_ ≤ j → Z[j]? = some z → x ≤ z)

set_option maxRecDepth 100000 in
set_option maxHeartbeats 1000000 in
theorem binsearch_any (v : Value) (Z : List Int) (x : Int) (w : World) (hv : Ints w v Z) (hs : Z.Pairwise (· < ·)) (hl : Z.length ≤ 1048576) :
    Calls Tryd.prog 79 #[v, .int .i64 x] w fun e w' => binR Z x Z.length e ∧ w' = w := by
  obtain ⟨p, c, rfl, hv1, hv2, hv4, hv3⟩ := hv
  obtain ⟨n, hn⟩ : ∃ n, n = Z.length := ⟨_, rfl⟩
  rw [← hn] at hv1 hv2 hl ⊢
  have HN := Lib.hid hn
  have HV := Lib.hid hv3
  have HS := Lib.hid hs
  have HL := Lib.hid (fun a w' => less_any a x w')
  have HX := Lib.hid (fun w' => isnan2_any x w')
  have HY := Lib.hid (fun a w' => isnan2_any a w')
  clear hn hv3 hv4 hs hv2
  go_enter Tryd.func79, Tryd.ntmps79
  go_wp2
  go_loop [7, 8] (fun a b => ∃ i j : Nat, i ≤ j ∧ j ≤ n ∧ a = .int .i64 i ∧ b = .int .i64 j ∧ Hid ((∀ t z, t < i → Z[t]? = some z → z < x) ∧ (∀ t z, j ≤ t → Z[t]? = some z → x ≤ z))) (fun a b => (intOf b).toNat - (intOf a).toNat)
  case atStart => exact ⟨0, n, by omega, by omega, rfl, rfl, Lib.hid ⟨fun t z h => by omega, fun t z h hz => by rw [List.getElem?_eq_none (by have := HN.out; omega)] at hz; cases hz⟩⟩
  case round =>
    obtain ⟨i, j, hij, hjn, rfl, rfl, hinv⟩ := hrel
    by_cases hlt : i < j
    · have hlti : (i : Int) < (j : Int) := by omega
      obtain ⟨h, hh⟩ : ∃ h, h = (i + j) / 2 := ⟨_, rfl⟩
      have hhn : h < n := by omega
      obtain ⟨z, hz⟩ : ∃ z, Z[h]? = some z := ⟨Z[h]'(by have := HN.out; omega), List.getElem?_eq_getElem _⟩
      obtain ⟨a, rfl, hc⟩ := HV.out h z hz
      have hsum : ((i : Int) + (j : Int)) / 2 = (h : Int) := by omega
      have hhi : (h : Int) < (n : Int) := by omega
      have hh0 : (0 : Int) ≤ (h : Int) := by omega
      have hib : i ≤ 1048576 := by omega
      have hjb : j ≤ 1048576 := by omega
      have hhb : h ≤ 1048576 := by omega
      have HZ := Lib.hid hz
      have HH := Lib.hid hh
      have HLT := Lib.hid hlt
      clear hh hz hlt
      by_cases hzx : z < x
      · go_wp2_with (go_at_call 117; with_reducible refine (HL.out z _).mono ?_; rintro r wx ⟨rfl, hw⟩; rw [hw]; clear hw wx)
        refine ⟨⟨h + 1, j, by have := HH.out; have := HLT.out; omega, hjn, by go_num, rfl, Lib.hid ⟨fun t y ht hy => ?_, hinv.out.2⟩⟩, (by show (j : Int).toNat - ((h : Int) + 1).toNat < (j : Int).toNat - (i : Int).toNat; have := HH.out; have := HLT.out; omega)⟩
        rcases Nat.lt_or_ge t h with h1 | h1
        · have := pair_lt HS.out h1 hy HZ.out; omega
        · have : t = h := by omega
          subst this
          rw [HZ.out] at hy
          cases hy
          exact hzx
      · go_wp2_with (go_at_call 117; with_reducible refine (HL.out z _).mono ?_; rintro r wx ⟨rfl, hw⟩; rw [hw]; clear hw wx)
        refine ⟨⟨i, h, by have := HH.out; have := HLT.out; omega, by omega, rfl, rfl, Lib.hid ⟨hinv.out.1, fun t y ht hy => ?_⟩⟩, (by show (h : Int).toNat - (i : Int).toNat < (j : Int).toNat - (i : Int).toNat; have := HH.out; have := HLT.out; omega)⟩
        rcases Nat.lt_or_ge h t with h1 | h1
        · have := pair_lt HS.out h1 HZ.out hy; omega
        · have : t = h := by omega
          subst this
          rw [HZ.out] at hy
          cases hy
          omega
    · have hlti : ¬ ((i : Int) < (j : Int)) := by omega
      have hij2 : i = j := by omega
      subst hij2
      have HINV := Lib.hid hinv.out
      clear hlt hij
      by_cases hin : i < n
      · have hini : (i : Int) < (n : Int) := by omega
        have hi0 : (0 : Int) ≤ (i : Int) := by omega
        obtain ⟨z, hz⟩ : ∃ z, Z[i]? = some z := ⟨Z[i]'(by have := HN.out; omega), List.getElem?_eq_getElem _⟩
        obtain ⟨a, rfl, hc⟩ := HV.out i z hz
        clear hz hinv
        by_cases hzx : z = x
        · have e1 : (z == x) = true := beq_iff_eq.2 hzx
          clear hzx
          go_wp2_with (first
            | (go_at_call 118; with_reducible refine (HX.out _).mono ?_; rintro r wx ⟨rfl, hw⟩; rw [hw]; clear hw wx)
            | (go_at_call 118; with_reducible refine (HY.out z _).mono ?_; rintro r wx ⟨rfl, hw⟩; rw [hw]; clear hw wx))
          go_ret2
          exact ⟨⟨i, _, rfl, hjn, HINV.out.1, HINV.out.2⟩, rfl⟩
        · have e1 : (z == x) = false := beq_eq_false_iff_ne.2 hzx
          clear hzx
          go_wp2_with (first
            | (go_at_call 118; with_reducible refine (HX.out _).mono ?_; rintro r wx ⟨rfl, hw⟩; rw [hw]; clear hw wx)
            | (go_at_call 118; with_reducible refine (HY.out z _).mono ?_; rintro r wx ⟨rfl, hw⟩; rw [hw]; clear hw wx))
          go_ret2
          exact ⟨⟨i, _, rfl, hjn, HINV.out.1, HINV.out.2⟩, rfl⟩
      · have hini : ¬ ((i : Int) < (n : Int)) := by omega
        clear hinv
        go_wp2_with fail
        go_ret2
        exact ⟨⟨i, _, rfl, hjn, HINV.out.1, HINV.out.2⟩, rfl⟩
end Go.Proofs.YtejdpahgofhioaaDoor
