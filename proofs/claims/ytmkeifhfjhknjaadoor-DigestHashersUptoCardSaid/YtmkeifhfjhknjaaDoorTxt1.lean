/- Hex of the program, walked. -/
import Derived.Test.YtmkeifhfjhknjaaDoorNod1
import Derived.Test.YtmkeifhfjhknjaaDoorRow
import Derived.BigQuiet
import Derived.Test.YtmkeifhfjhknjaaDoorWin1
namespace Go.Proofs.YtmkeifhfjhknjaaDoor
open Go.RowKit Go.Scr
set_option linter.unusedVariables false

def hexs : List UInt8 := [48, 49, 50, 51, 52, 53, 54, 55, 56, 57, 97, 98, 99, 100, 101, 102]
def hx (n : Nat) : UInt8 := hexs.getD n 0
def hexL (l : List UInt8) : List UInt8 := l.flatMap fun c => [hx (c.toNat / 16), hx (c.toNat % 16)]
theorem hexL_length (l : List UInt8) : (hexL l).length = 2 * l.length := by
  unfold hexL
  induction l with
  | nil => rfl
  | cons c l ih => rw [List.flatMap_cons, List.length_append, ih]; simp; omega
theorem hexL_take {d : List UInt8} {k : Nat} {c : UInt8} (h : d[k]? = some c) : hexL (d.take (k + 1)) = hexL (d.take k) ++ [hx (c.toNat / 16), hx (c.toNat % 16)] := by
  obtain ⟨hk, rfl⟩ := List.getElem?_eq_some_iff.mp h
  unfold hexL
  rw [List.take_succ_eq_append_getElem hk, List.flatMap_append]
  simp
theorem hexs_at (n : Nat) (h : n < (⟨#[48, 49, 50, 51, 52, 53, 54, 55, 56, 57, 97, 98, 99, 100, 101, 102]⟩ : ByteArray).size) : (⟨#[48, 49, 50, 51, 52, 53, 54, 55, 56, 57, 97, 98, 99, 100, 101, 102]⟩ : ByteArray)[n] = hx n := by
  have h' : n < 16 := h
  have hall : ∀ i : Fin 16, (⟨#[48, 49, 50, 51, 52, 53, 54, 55, 56, 57, 97, 98, 99, 100, 101, 102]⟩ : ByteArray)[i.val]'(show i.val < 16 from i.isLt) = hx i.val := by decide
  exact hall ⟨n, h'⟩
theorem bu8 : (Tryd.prog.info? 5).map (fun i => (i.zero, i.size, i.bytes)) = some (some (.int .u8 0), 1, 1) := by kernel_rfl
theorem bund8 : Tryd.prog.underlying 5 = some (.int .u8) := by kernel_rfl
theorem bundS : Tryd.prog.underlying 9 = some .string := by kernel_rfl

set_option maxRecDepth 100000 in
set_option maxHeartbeats 1000000 in
theorem dhex_any (s : ByteArray) (w : World) (hl : s.size ≤ 1099511627776) :
    Calls Tryd.prog 20 #[.string s] w fun e w' => e = .returned (.string (str (hexL s.data.toList))) ∧ Below w.heap.size w w' := by
  obtain ⟨c, hc⟩ : ∃ c, c = 2 * s.size := ⟨_, rfl⟩
  have hcc : 2 * (s.size : Int) = (c : Int) := by omega
  have hcb : c ≤ 2199023255552 := by omega
  have hmk := make_bytes (P := Tryd.prog) 41 5 Tryd.underlying41 bu8 0 c (by omega) (by omega) w
  have hc64 : c < 9223372036854775807 := by omega
  rw [show (((0 : Nat)) : Int) = 0 from rfl] at hmk
  have HC := Lib.hid hc
  clear hc
  go_enter Tryd.func20, Tryd.ntmps20
  go_upto_region 2 with fail
  have hown0 := World.ownsRow_made (base := w.heap.size) (e := 5) (size := 1) w (madeCells #[Value.int .u8 0] c) c (Nat.le_refl _) (by simp only [maxLen]; omega) (by rw [size_madeCells]; simp)
  obtain ⟨B, hB⟩ : ∃ B, B = w.heap.size := ⟨_, rfl⟩
  have hb0 : Below w.heap.size w (w.alloc (.cells (madeCells #[Value.int .u8 0] c) 5)) := (Below.refl _ _).alloc (Nat.le_refl _) _
  have hsz0 : B < (w.alloc (.cells (madeCells #[Value.int .u8 0] c) 5)).heap.size := by rw [hB]; simp
  rw [← hB] at hown0 ⊢
  have HBW := Lib.hid hB
  generalize w.alloc (.cells (madeCells #[Value.int .u8 0] c) 5) = w1 at hown0 hb0 hsz0 ⊢
  clear hmk hB
  obtain ⟨v0, w2, hcv, ⟨c0, rfl⟩, hob, hb2, hsz2⟩ := own_of_string (P := Tryd.prog) w1 9 41 5 s bundS Tryd.underlying41 bund8 (by simp only [maxLen]; omega)
  have HO0 : Hid (w2.ownsRow B 5 1 (.slice (some ⟨B, 0, none⟩) 0 c) 0 []) := owns_below hown0 hb2 (Nat.le_refl _)
  have HOB := Lib.hid hob
  have HB2 : Hid (Below w.heap.size w w2) := below_from hb0 hb2 hb0.size
  obtain ⟨E, hE⟩ : ∃ E, E = w1.heap.size := ⟨_, rfl⟩
  have HBE : Hid (B < E) := by show _ < _; omega
  rw [← hE] at HOB hcv
  clear hown0 hob hb0 hb2 hsz2 hsz0 hE
  go_wp2_with fail
  clear hcv
  go_loopw [3, 13] (fun v q wr => ∃ k : Nat, k ≤ s.size ∧ q = .int .i64 k ∧ v = .slice (some ⟨B, 0, none⟩) (2 * k) c ∧ wr.ownsRow B 5 1 (.slice (some ⟨B, 0, none⟩) (2 * k) c) (2 * k) (bytesV (hexL (s.data.toList.take k))) ∧ OwnM wr E 5 (.slice (some ⟨E, 0, none⟩) s.size c0) s.data.toList ∧ Below w.heap.size w wr) (fun _ q _ => s.size - (intOf q).toNat)
  case atStart => exact ⟨0, by omega, rfl, rfl, HO0.out, HOB.out, HB2.out⟩
  case round =>
    clear HO0 HOB HB2
    obtain ⟨k, hk, rfl, rfl, hown, hob, hbel⟩ := hrel
    have HOWN := Lib.hid hown
    have HOB := Lib.hid hob
    have HBEL := Lib.hid hbel
    clear hown hob hbel
    by_cases hlt : k < s.size
    · obtain ⟨x, hx⟩ : ∃ x, s.data.toList[k]? = some x := ⟨s.data.toList[k]'(by simpa using hlt), List.getElem?_eq_getElem _⟩
      have hkl : k < s.data.toList.length := (List.getElem?_eq_some_iff.mp hx).1
      have hcell : wr.cell? ⟨E, k, none⟩ = some (.int .u8 (x.toNat : Int)) := by
        rw [HOB.out.cell k hkl]
        rw [(List.getElem?_eq_some_iff.mp hx).2]
      have HXT := Lib.hid (hexL_take hx)
      obtain ⟨hi, hhi⟩ : ∃ hi, hi = x.toNat / 16 := ⟨_, rfl⟩
      obtain ⟨lo, hlo⟩ : ∃ lo, lo = x.toNat % 16 := ⟨_, rfl⟩
      have e1 : (x.toNat : Int) / 16 = (hi : Int) := by rw [hhi]; rfl
      have e2 : bits .and .u8 (x.toNat : Int) 15 = (lo : Int) := by rw [hlo]; exact u8_lo x
      have hib : hi < 16 := by have := x.toNat_lt; omega
      have lob : lo < 16 := by omega
      have hib' : (hi : Int) < 16 := by omega
      have lob' : (lo : Int) < 16 := by omega
      have hks : (k : Int) < (s.size : Int) := by omega
      have HHI := Lib.hid hhi
      have HLO := Lib.hid hlo
      have g1 := hexs_at hi
      have g2 := hexs_at lo
      clear hx hkl hhi hlo
      go_upto_region 5 with fail
      have HOWN1 : Hid (wr.drew.ownsRow B 5 1 (.slice (some ⟨B, 0, none⟩) (2 * k) c) (2 * k) (bytesV (hexL (s.data.toList.take k)))) := HOWN.out
      have hfit : 2 * k + 2 ≤ c := by have := HC.out; omega
      go_region_law (refine step_fitsV rfl (.tmp 17) (.tmp 24) rfl Tryd.underlying41 (.int .u8 0) 1 bu8 (bytesV [hx hi, hx lo]) 2 (2 * k + 2) ⟨wr.drew.heap.size, 0, none⟩ (by simp [Act.eval, Act.put]) (by simp [Act.eval, Act.put]; rfl) (World.ownsRow.alloc HOWN1.out _) rfl cells_alloc (bytesV_one _) rfl hfit ?_; intro w' hown' hgr'; have HOWN' := Lib.hid hown'; have HG := Lib.hid hgr'; clear hown' hgr')
      all_goals
        go_wp2_with fail
        have HG2 : Hid (wr.drew.grownBy w' (some B)) := only_trans (only_alloc (only_refl _ _) _) HG.out
        have HBE' := HBE.out
        have hbB : Below B wr.drew w' := (Below.refl B wr.drew).grown HG2.out (by have := World.ownsRow.lt HOWN1.out B rfl; omega) (fun q hq => by cases hq; exact Nat.le_refl _)
        have hOB' : OwnM w' E 5 (.slice (some ⟨E, 0, none⟩) s.size c0) s.data.toList := by
          have h0 : OwnM wr.drew E 5 (.slice (some ⟨E, 0, none⟩) s.size c0) s.data.toList := HOB.out
          rcases h0 with h0 | ⟨g, cap, cur, fz, h1, h2, h3, h4⟩
          · exact .inl h0
          · have hgE : g = E := by
              simp only [Value.slice.injEq, Option.some.injEq, Addr.mk.injEq] at h1
              exact h1.1.1.symm
            exact .inr ⟨g, cap, cur, fz, h1, h2, (HG2.out.block g (row_lt h3) (by rw [hgE]; intro h; cases h; omega)).trans h3, h4⟩
        refine ⟨⟨k + 1, by omega, rfl, rfl, ?_, hOB', HBEL.out.drew.grown HG2.out (by have := HBEL.out.size; exact this) (fun q hq => by cases hq; have := HBW.out; omega)⟩, (by show s.size - ((k : Int) + 1).toNat < s.size - (k : Int).toNat; omega)⟩
        have h := HOWN'.out
        rw [show bytesV (hexL (s.data.toList.take (k + 1))) = bytesV (hexL (s.data.toList.take k)) ++ bytesV [hx hi, hx lo] by rw [HXT.out, HHI.out, HLO.out]; simp [bytesV]]
        exact h
    · have hks : ¬ ((k : Int) < (s.size : Int)) := by omega
      have hkk : k = s.size := by omega
      have hown := HOWN.out
      rw [List.take_of_length_le (by simp; omega)] at hown
      have hl2 : 2 * k = (hexL s.data.toList).length := by rw [hexL_length]; simp; omega
      have hcv := own_string (P := Tryd.prog) (D := 9) (S := 41) (w := wr) (B := B) (g := B) (N := 2 * k) (c := c) (l := hexL s.data.toList) Tryd.underlying41 bund8 bundS (by unfold OwnB; rw [← hl2]; exact hown)
      have HCV := Lib.hid hcv
      clear hkk hown hl2
      go_wp2
      go_ret
      exact ⟨rfl, HBEL.out⟩
end Go.Proofs.YtmkeifhfjhknjaaDoor
