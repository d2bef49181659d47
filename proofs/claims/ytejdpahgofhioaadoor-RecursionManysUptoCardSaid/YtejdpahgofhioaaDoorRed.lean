/- Layer 3, walked: wrong (indices that may not be). -/
import Derived.Test.YtejdpahgofhioaaDoorReb
namespace Go.Proofs.YtejdpahgofhioaaDoor
open Go.RowKit Go.Scr
set_option linter.unusedVariables false

/-- do they rise, from last on, and stay below n? -/
def okZ (n : Nat) : Int → List Int → Bool
  | _, [] => true
  | last, z :: t => decide (last < z) && decide (z < (n : Int)) && okZ n z t
def wrongZ (n : Nat) (Z : List Int) : Bool := !(okZ n (-1) Z) || (decide (Z.length = 0) || decide (256 < Z.length))
theorem okZ_step {n : Nat} {last z : Int} {Z : List Int} {i : Nat} (hz : Z[i]? = some z) : okZ n last (Z.drop i) = (decide (last < z) && decide (z < (n : Int)) && okZ n z (Z.drop (i + 1))) := by
  obtain ⟨hi, rfl⟩ := List.getElem?_eq_some_iff.mp hz
  rw [List.drop_eq_getElem_cons hi]
  rfl
theorem okZ_bound {n : Nat} (Z : List Int) : ∀ last, okZ n last Z = true → ∀ z ∈ Z, last < z ∧ z < (n : Int) := by
  induction Z with
  | nil => intro _ _ z hz; cases hz
  | cons y t ih =>
    intro last h z hz
    simp only [okZ, Bool.and_eq_true, decide_eq_true_eq] at h
    rcases List.mem_cons.mp hz with rfl | hz
    · exact h.1
    · have := ih y h.2 z hz
      omega
theorem okZ_rises {n : Nat} (Z : List Int) : ∀ last, okZ n last Z = true → Z.Pairwise (· < ·) := by
  induction Z with
  | nil => intro _ _; exact List.Pairwise.nil
  | cons y t ih =>
    intro last h
    simp only [okZ, Bool.and_eq_true, decide_eq_true_eq] at h
    exact List.Pairwise.cons (fun z hz => (okZ_bound t y h.2 z hz).1) (ih y h.2)

set_option maxRecDepth 100000 in
set_option maxHeartbeats 1000000 in
theorem wrongm_any (p : Option Addr) (n c : Nat) (v : Value) (Z : List Int) (w : World) (hn : n ≤ 1048576) (hv : Ints w v Z) (hl : Z.length ≤ 1048576) :
    Calls Tryd.prog 77 #[.slice p n c, v] w fun e w' => e = .returned (.bool (wrongZ n Z)) ∧ w' = w := by
  obtain ⟨q, cq, rfl, hv1, hv2, hvb, hv3⟩ := hv
  obtain ⟨m, hm⟩ : ∃ m, m = Z.length := ⟨_, rfl⟩
  rw [← hm] at hv1 hl ⊢
  have HM := Lib.hid hm
  have HV := Lib.hid hv3
  have HVB := Lib.hid hvb
  clear hm hv1 hv2 hv3 hvb
  go_enter Tryd.func77, Tryd.ntmps77
  go_wp2
  go_loop [5, 10] (fun x y => ∃ (last : Int) (i : Nat), i ≤ m ∧ x = .int .i64 last ∧ y = .int .i64 i ∧ Hid (okZ n (-1) Z = okZ n last (Z.drop i))) (fun _ y => m - (intOf y).toNat)
  case atStart => exact ⟨-1, 0, by omega, rfl, rfl, Lib.hid (by rw [List.drop_zero])⟩
  case round =>
    obtain ⟨last, i, hi, rfl, rfl, hinv⟩ := hrel
    by_cases hlt : i < m
    · have hlti : (i : Int) < (m : Int) := by omega
      have hi0 : (0 : Int) ≤ (i : Int) := by omega
      obtain ⟨z, hz⟩ : ∃ z, Z[i]? = some z := ⟨Z[i]'(by have := HM.out; omega), List.getElem?_eq_getElem _⟩
      obtain ⟨a, rfl, hc⟩ := HV.out i z hz
      have hst := hinv.out.trans (okZ_step hz)
      have hib : i ≤ 1048576 := by omega
      have HLT := Lib.hid hlt
      clear hinv hz hlt
      by_cases h1 : z ≤ last
      · have hbad : wrongZ n Z = true := by
          unfold wrongZ
          rw [hst, decide_eq_false (show ¬ last < z by omega)]
          rfl
        have HBAD := Lib.hid hbad
        clear hst hbad
        go_wp2
        go_ret
        exact ⟨by rw [HBAD.out]; rfl, rfl⟩
      · by_cases h2 : (n : Int) ≤ z
        · have hbad : wrongZ n Z = true := by
            unfold wrongZ
            rw [hst, decide_eq_false (show ¬ z < (n : Int) by omega), Bool.and_false]
            rfl
          have HBAD := Lib.hid hbad
          clear hst hbad
          go_wp2
          go_ret
          exact ⟨by rw [HBAD.out]; rfl, rfl⟩
        · have hgo : okZ n (-1) Z = okZ n z (Z.drop (i + 1)) := by
            rw [hst, decide_eq_true (show last < z by omega), decide_eq_true (show z < (n : Int) by omega)]
            rfl
          have HGO := Lib.hid hgo
          clear hst hgo
          go_wp2
          exact ⟨⟨z, i + 1, by have := HLT.out; omega, rfl, rfl, Lib.hid HGO.out⟩, (by show m - ((i : Int) + 1).toNat < m - (i : Int).toNat; have := HLT.out; omega)⟩
    · have hlti : ¬ ((i : Int) < (m : Int)) := by omega
      have hok : okZ n (-1) Z = true := by
        rw [hinv.out, List.drop_eq_nil_of_le (by have := HM.out; omega)]
        rfl
      clear hinv
      by_cases h0 : m = 0
      · have hbad : wrongZ n Z = true := by
          unfold wrongZ
          rw [decide_eq_true (show Z.length = 0 by have := HM.out; omega)]
          simp
        have HBAD := Lib.hid hbad
        have hmi : ((m : Int) == 0) = true := beq_iff_eq.2 (by omega)
        clear hbad hok h0 hlt
        go_wp2
        go_ret
        exact ⟨by rw [HBAD.out]; rfl, rfl⟩
      · have hmi : ((m : Int) == 0) = false := beq_eq_false_iff_ne.2 (by omega)
        have hw : wrongZ n Z = decide (256 < m) := by
          unfold wrongZ
          rw [hok, ← HM.out, decide_eq_false h0]
          rfl
        have HW := Lib.hid hw
        clear hw hok h0 hlt
        by_cases h3 : 256 < m
        · have h3i : (256 : Int) < (m : Int) := by omega
          have HD := Lib.hid (decide_eq_true h3)
          clear h3
          go_wp2
          go_ret
          exact ⟨by rw [HW.out, HD.out]; rfl, rfl⟩
        · have h3i : ¬ ((256 : Int) < (m : Int)) := by omega
          have HD := Lib.hid (decide_eq_false h3)
          clear h3
          go_wp2
          go_ret
          exact ⟨by rw [HW.out, HD.out]; rfl, rfl⟩
end Go.Proofs.YtejdpahgofhioaaDoor
