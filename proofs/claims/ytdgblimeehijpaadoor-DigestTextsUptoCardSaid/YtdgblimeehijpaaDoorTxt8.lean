/- The document's Hex, walked. -/
import Derived.Test.YtdgblimeehijpaaDoorTxt7
namespace Go.Proofs.YtdgblimeehijpaaDoor
open Go.RowKit Go.Scr
set_option linter.unusedVariables false

theorem u8_small (a : Nat) (h : a < 16) : IntKind.u8.wrap (a : Int) = (a : Int) := by
  have hall : ∀ x : Fin 16, IntKind.u8.wrap (x.val : Int) = (x.val : Int) := by decide +kernel
  exact hall ⟨a, h⟩
set_option maxRecDepth 100000 in
set_option maxHeartbeats 1000000 in
theorem rhex_any (s : ByteArray) (w : World) (hl : s.size ≤ 1099511627776) :
    Calls Tryd.prog 24 #[.string s] w fun e w' => e = .returned (.string (str (hexL s.data.toList))) ∧ Below w.heap.size w w' := by
  obtain ⟨c, hc⟩ : ∃ c, c = 2 * s.size := ⟨_, rfl⟩
  have hcc : 2 * (s.size : Int) = (c : Int) := by omega
  have hcb : c ≤ 2199023255552 := by omega
  have hmk := make_bytes (P := Tryd.prog) 52 5 Tryd.underlying52 bu8 0 c (by omega) (by omega) w
  rw [show (((0 : Nat)) : Int) = 0 from rfl] at hmk
  have HC := Lib.hid hc
  clear hc
  go_enter Tryd.func24, Tryd.ntmps24
  go_upto_region 2 with fail
  have hown0 := World.ownsRow_made (base := w.heap.size) (e := 5) (size := 1) w (madeCells #[Value.int .u8 0] c) c (Nat.le_refl _) (by simp only [maxLen]; omega) (by rw [size_madeCells]; simp)
  obtain ⟨B, hB⟩ : ∃ B, B = w.heap.size := ⟨_, rfl⟩
  have hb0 : Below w.heap.size w (w.alloc (.cells (madeCells #[Value.int .u8 0] c) 5)) := (Below.refl _ _).alloc (Nat.le_refl _) _
  rw [← hB] at hown0 ⊢
  have HBW := Lib.hid hB
  generalize w.alloc (.cells (madeCells #[Value.int .u8 0] c) 5) = w1 at hown0 hb0 ⊢
  have HO0 := Lib.hid hown0
  have HB0 := Lib.hid hb0
  clear hmk hB hcc hown0 hb0
  go_wp2_with fail
  go_loopw [3, 4] (fun v q wr => ∃ k n : Nat, k ≤ s.size ∧ Hid (n = 2 * k) ∧ q = .int .i64 k ∧ v = .slice (some ⟨B, 0, none⟩) n c ∧ wr.ownsRow B 5 1 (.slice (some ⟨B, 0, none⟩) n c) n (bytesV (hexL (s.data.toList.take k))) ∧ Below w.heap.size w wr) (fun _ q _ => s.size - (intOf q).toNat)
  case atStart => exact ⟨0, 0, by omega, rfl, rfl, rfl, HO0.out, HB0.out⟩
  case round =>
    clear HO0 HB0
    obtain ⟨k, n, hk, hn, rfl, rfl, hown, hbel⟩ := hrel
    have HN := Lib.hid hn.out
    have HOWN := Lib.hid hown
    have HBEL := Lib.hid hbel
    clear hn hown hbel
    by_cases hlt : k < s.size
    · obtain ⟨x, hx⟩ : ∃ x, s.data.toList[k]? = some x := ⟨s.data.toList[k]'(by simpa using hlt), List.getElem?_eq_getElem _⟩
      have hxi : ∀ (h : k < s.size), s[k] = x := fun h => by
        have := (List.getElem?_eq_some_iff.mp hx).2
        rw [← this]
        rfl
      have HXT := Lib.hid (hexL_take hx)
      obtain ⟨hi, hhi⟩ : ∃ hi, hi = x.toNat / 16 := ⟨_, rfl⟩
      obtain ⟨lo, hlo⟩ : ∃ lo, lo = x.toNat % 16 := ⟨_, rfl⟩
      have hz0 : (0 : Int) ≤ (x.toNat : Int) := Int.natCast_nonneg _
      have e1 : (x.toNat : Int).tdiv 16 = (hi : Int) := by rw [Int.tdiv_eq_ediv_of_nonneg hz0, hhi]; rfl
      have e2 : (x.toNat : Int).tmod 16 = (lo : Int) := by rw [Int.tmod_eq_emod_of_nonneg hz0, hlo]; rfl
      have hib : hi < 16 := by have := x.toNat_lt; omega
      have lob : lo < 16 := by omega
      have hib' : (hi : Int) < 16 := by omega
      have lob' : (lo : Int) < 16 := by omega
      have hks : (k : Int) < (s.size : Int) := by omega
      have HHI := Lib.hid hhi
      have HLO := Lib.hid hlo
      have g1 := hexs_at hi
      have g2 := hexs_at lo
      have hfit : n + 2 ≤ c := by have := HC.out; have := HN.out; omega
      clear hx hhi hlo hz0
      have hw8 := u8_small hi hib
      have hw9 := u8_small lo lob
      go_upto_region 5 with fail
      have HOWN1 : Hid (wr.drew.ownsRow B 5 1 (.slice (some ⟨B, 0, none⟩) n c) n (bytesV (hexL (s.data.toList.take k)))) := HOWN.out
      go_region_law (refine step_fitsV rfl (.tmp 15) (.tmp 26) rfl Tryd.underlying52 (.int .u8 0) 1 bu8 (bytesV [hx hi, hx lo]) 2 (n + 2) ⟨wr.drew.heap.size, 0, none⟩ (by simp [Act.eval, Act.put]) (by simp [Act.eval, Act.put]; rfl) (World.ownsRow.alloc HOWN1.out _) rfl cells_alloc (bytesV_one _) rfl hfit ?_; intro w' hown' hgr'; have HOWN' := Lib.hid hown'; have HG := Lib.hid hgr'; clear hown' hgr')
      all_goals
        go_wp2_with fail
        have HG2 : Hid (wr.drew.grownBy w' (some B)) := only_trans (only_alloc (only_refl _ _) _) HG.out
        refine ⟨⟨k + 1, n + 2, by omega, (by have := HN.out; show _ = _; omega), rfl, rfl, ?_, HBEL.out.drew.grown HG2.out (by have := HBEL.out.size; exact this) (fun q hq => by cases hq; have := HBW.out; omega)⟩, (by show s.size - ((k : Int) + 1).toNat < s.size - (k : Int).toNat; omega)⟩
        have h := HOWN'.out
        rw [show bytesV (hexL (s.data.toList.take (k + 1))) = bytesV (hexL (s.data.toList.take k)) ++ bytesV [hx hi, hx lo] by rw [HXT.out, HHI.out, HLO.out]; simp [bytesV]]
        exact h
    · have hks : ¬ ((k : Int) < (s.size : Int)) := by omega
      have hown := HOWN.out
      rw [List.take_of_length_le (by simp; omega)] at hown
      have hl2 : n = (hexL s.data.toList).length := by rw [hexL_length, HN.out]; simp; omega
      have hcv := own_string (P := Tryd.prog) (D := 9) (S := 52) (w := wr) (B := B) (g := B) (N := n) (c := c) (l := hexL s.data.toList) Tryd.underlying52 bund8 bundS (by unfold OwnB; rw [← hl2]; exact hown)
      clear hown hl2
      go_wp2
      go_ret
      exact ⟨rfl, HBEL.out⟩
end Go.Proofs.YtdgblimeehijpaaDoor
