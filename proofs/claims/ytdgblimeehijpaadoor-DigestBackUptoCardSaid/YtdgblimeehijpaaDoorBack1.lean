/- spoilt, walked: a text as long as the one that came. -/
import Derived.Test.YtdgblimeehijpaaDoorBack0
import Derived.Test.YtdgblimeehijpaaDoorSums2
namespace Go.Proofs.YtdgblimeehijpaaDoor
open Go.RowKit Go.Scr
set_option linter.unusedVariables false

theorem OwnM.frozen {w : World} {B T g N c : Nat} {l : List UInt8} (h : OwnM w B T (.slice (some ⟨g, 0, none⟩) N c) l) (j : Nat) (hj : j < l.length) : w.frozen? ⟨g, j, none⟩ = false := by
  rcases h with ⟨h1, _⟩ | ⟨g', cap, cur, fz, hv, hb, hg, h4, h5, h6, h7, h8⟩
  · cases h1
  · injection hv with hv
    injection hv with hv
    injection hv with hv
    subst hv
    obtain ⟨lo, hi⟩ := fz
    unfold World.frozen?
    simp only [hg]
    rcases h8 with h8 | h8
    · injection h8 with h8 h9
      subst h8 h9
      simp
    · have : ¬ lo ≤ j := by simp only at h8; omega
      simp [this]
theorem OwnM.set {w : World} {B T g N c : Nat} {l : List UInt8} (h : OwnM w B T (.slice (some ⟨g, 0, none⟩) N c) l) (j : Nat) (hj : j < l.length) (x : UInt8) : OwnM (w.setCell ⟨g, j, none⟩ (.int .u8 (x.toNat : Int))) B T (.slice (some ⟨g, 0, none⟩) N c) (l.set j x) := by
  rcases h with ⟨h1, _⟩ | ⟨g', cap, cur, fz, hv, hb, hg, h4, h5, h6, h7, h8⟩
  · cases h1
  · injection hv with hv hN hc
    injection hv with hv
    injection hv with hv
    subst hv hN hc
    refine .inr ⟨g, c, cur.setIfInBounds j (.int .u8 (x.toNat : Int)), fz, by rw [List.length_set], hb, ?_, by rw [List.length_set]; exact h4, h5, by simpa using h6, ?_, h8⟩
    · simp [World.setCell, Array.getElem?_modify, hg]
    · rw [List.length_set, Array.toList_setIfInBounds, List.take_set, h7]
      simp [bytesV, List.map_set]

set_option maxRecDepth 100000 in
set_option maxHeartbeats 1000000 in
theorem spoilt_any (s : ByteArray) (at_ by_ : Int) (w : World) (hs : s.size ≤ 1099511627776) (hat : -9223372036854775808 ≤ at_ ∧ at_ ≤ 9223372036854775807) (hby : -9223372036854775808 ≤ by_ ∧ by_ ≤ 9223372036854775807) :
    Calls Tryd.prog 27 #[.string s, .int .i64 at_, .int .i64 by_] w fun e w' => ∃ t : ByteArray, e = .returned (.string t) ∧ t.size = s.size ∧ Below w.heap.size w w' := by
  by_cases h0 : s.size = 0
  · have hz : (s.toList == ([] : List UInt8)) = true := by
      rw [ByteArray.toList_eq]
      have : s.data.toList.length = 0 := by simpa using h0
      rw [List.eq_nil_of_length_eq_zero this]
      rfl
    go_enter Tryd.func27, Tryd.ntmps27
    go_wp2
    go_ret
    exact ⟨s, rfl, rfl, Below.refl _ _⟩
  · have hz : (s.toList == ([] : List UInt8)) = false := by
      rw [ByteArray.toList_eq]
      cases hd : s.data.toList with
      | nil => exact absurd (by have := congrArg List.length hd; simpa using this) h0
      | cons a l => rfl
    obtain ⟨v0, w1, hcv, ⟨c0, rfl⟩, hown, hb1, hsz1⟩ := own_of_string (P := Tryd.prog) w 9 52 5 s bundS Tryd.underlying52 bund8 (by simp only [maxLen]; omega)
    obtain ⟨E, hE⟩ : ∃ E, E = w.heap.size := ⟨_, rfl⟩
    rw [← hE] at hcv hown
    obtain ⟨k, hk⟩ : ∃ k, k = pickN at_ s.size := ⟨_, rfl⟩
    have hkl : k < s.size := by rw [hk]; exact pickN_lt _ (by omega)
    have hpick := fun w' => pick1_any at_ s.size w' (by omega) (by omega) hat
    rw [← hk] at hpick
    have HPICK := Lib.hid hpick
    obtain ⟨x, hx⟩ : ∃ x : UInt8, (x.toNat : Int) = by_ % 256 := ⟨UInt8.ofNat (by_ % 256).toNat, by rw [UInt8.toNat_ofNat']; omega⟩
    have hxw : IntKind.u8.wrap by_ = (x.toNat : Int) := by rw [hx]; rfl
    have hkl2 : k < s.data.toList.length := by simpa using hkl
    obtain ⟨old, hcell⟩ : ∃ old, w1.cell? ⟨E, k, none⟩ = some old := ⟨_, hown.cell k hkl2⟩
    have hfz := OwnM.frozen hown k hkl2
    have hset := OwnM.set hown k hkl2 x
    have hcv2 := hset.string (P := Tryd.prog) (S := 52) (D := 9) Tryd.underlying52 bund8 bundS
    have hks : (k : Int) < (s.size : Int) := by omega
    have HBS := Lib.hid (hb1.setCell (p := ⟨E, k, none⟩) (by rw [hE]; exact Nat.le_refl _) (.int .u8 (x.toNat : Int)))
    obtain ⟨t, ht⟩ : ∃ t : ByteArray, t = ⟨(s.data.toList.set k x).toArray⟩ := ⟨_, rfl⟩
    rw [← ht] at hcv2
    have hts : t.size = s.size := by
      rw [ht]
      show (s.data.toList.set k x).toArray.size = _
      simp
    have HTS := Lib.hid hts
    clear hown hb1 hsz1 hE hk hpick hx hset ht hts hkl2
    go_enter Tryd.func27, Tryd.ntmps27
    go_wp2_with (go_at_call 28; refine (HPICK.out _).mono ?_; rintro r w2 ⟨rfl, hw2⟩; rw [hw2]; clear hw2 w2)
    go_ret
    exact ⟨t, rfl, HTS.out, HBS.out⟩
end Go.Proofs.YtdgblimeehijpaaDoor
