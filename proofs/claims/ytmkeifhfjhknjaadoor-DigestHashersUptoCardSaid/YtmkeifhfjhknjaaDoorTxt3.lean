/- Base64 of the program, walked. -/
import Derived.Test.YtmkeifhfjhknjaaDoorTxt2
namespace Go.Proofs.YtmkeifhfjhknjaaDoor
open Go.RowKit Go.Scr
set_option linter.unusedVariables false

def b64s : List UInt8 := [65, 66, 67, 68, 69, 70, 71, 72, 73, 74, 75, 76, 77, 78, 79, 80, 81, 82, 83, 84, 85, 86, 87, 88, 89, 90, 97, 98, 99, 100, 101, 102, 103, 104, 105, 106, 107, 108, 109, 110, 111, 112, 113, 114, 115, 116, 117, 118, 119, 120, 121, 122, 48, 49, 50, 51, 52, 53, 54, 55, 56, 57, 43, 47]
def sgn (n : Nat) : UInt8 := b64s.getD n 0
def byt (d : List UInt8) (j : Nat) : Nat := (d.getD j 0).toNat
def grp (d : List UInt8) (g : Nat) : Nat := 65536 * byt d (3 * g) + 256 * byt d (3 * g + 1) + byt d (3 * g + 2)
def b64c (d : List UInt8) (g k : Nat) : UInt8 := if min 3 (d.length - 3 * g) < k then 61 else sgn (grp d g / 2 ^ (18 - 6 * k) % 64)
def b64q (d : List UInt8) (g : Nat) : List UInt8 := (List.range 4).map (b64c d g)
def b64L (d : List UInt8) (n : Nat) : List UInt8 := (List.range n).flatMap (b64q d)
def b64 (d : List UInt8) : List UInt8 := b64L d ((d.length + 2) / 3)
theorem b64L_length (d : List UInt8) (n : Nat) : (b64L d n).length = 4 * n := by
  unfold b64L
  induction n with
  | zero => rfl
  | succ n ih => rw [List.range_succ, List.flatMap_append, List.length_append, ih]; simp [b64q]; omega
theorem b64L_succ (d : List UInt8) (n : Nat) : b64L d (n + 1) = b64L d n ++ b64q d n := by
  unfold b64L
  rw [List.range_succ, List.flatMap_append]
  simp
theorem byt_drop (d : List UInt8) (m j : Nat) : byt (d.drop m) j = byt d (m + j) := by
  unfold byt
  rw [List.getD_eq_getElem?_getD, List.getElem?_drop, ← List.getD_eq_getElem?_getD]
theorem byt_lt (d : List UInt8) (j : Nat) : byt d j < 256 := (d.getD j 0).toNat_lt
theorem byt_out (d : List UInt8) (j : Nat) (h : d.length ≤ j) : byt d j = 0 := by
  unfold byt
  rw [List.getD_eq_getElem?_getD, List.getElem?_eq_none h]
  rfl
/-- so many bytes, put together -/
def xi (d : List UInt8) : Nat → Nat
  | 0 => 0
  | i + 1 => xi d i * 256 + byt d i
theorem xi_lt (d : List UInt8) (i : Nat) (h : i ≤ 3) : xi d i < 16777216 ∧ (i ≤ 2 → xi d i < 65536) := by
  have b0 := byt_lt d 0
  have b1 := byt_lt d 1
  have b2 := byt_lt d 2
  match i, h with
  | 0, _ => simp [xi]
  | 1, _ => simp only [xi]; omega
  | 2, _ => simp only [xi]; omega
  | 3, _ => simp only [xi]; omega
theorem xi_three (d : List UInt8) (g : Nat) : xi (d.drop (3 * g)) 3 = grp d g := by
  simp only [xi, byt_drop, grp, Nat.add_zero]
  omega
theorem or_low (a b : Nat) (hb : b < 256) : (a * 256) ||| b = a * 256 + b := by
  have h := Nat.two_pow_add_eq_or_of_lt (i := 8) (b := b) (by omega) a
  rw [show 2 ^ 8 * a = a * 256 by omega] at h
  exact h.symm
theorem i64_or_low (a b : Nat) (ha : a < 16777216) (hb : b < 256) : bits .or .i64 ((a : Int) * 256) (b : Int) = ((a * 256 + b : Nat) : Int) := by
  have h := i64_orr (a * 256) b (by omega) (by omega)
  unfold orr at h
  rw [or_low a b hb] at h
  rw [← h]
  congr 1
theorem i64_63 (a : Nat) (h : a < 9223372036854775808) : bits .and .i64 (a : Int) 63 = ((a % 64 : Nat) : Int) := by
  have := i64_an a 63 h (by omega)
  rw [show ((63 : Nat) : Int) = 63 from rfl] at this
  rw [this]
  unfold an
  rw [show (63 : Nat) = 2 ^ 6 - 1 from rfl, Nat.and_two_pow_sub_one_eq_mod]
def b64B : ByteArray := ⟨#[65, 66, 67, 68, 69, 70, 71, 72, 73, 74, 75, 76, 77, 78, 79, 80, 81, 82, 83, 84, 85, 86, 87, 88, 89, 90, 97, 98, 99, 100, 101, 102, 103, 104, 105, 106, 107, 108, 109, 110, 111, 112, 113, 114, 115, 116, 117, 118, 119, 120, 121, 122, 48, 49, 50, 51, 52, 53, 54, 55, 56, 57, 43, 47]⟩
theorem b64_at (n : Nat) (h : n < (⟨#[65, 66, 67, 68, 69, 70, 71, 72, 73, 74, 75, 76, 77, 78, 79, 80, 81, 82, 83, 84, 85, 86, 87, 88, 89, 90, 97, 98, 99, 100, 101, 102, 103, 104, 105, 106, 107, 108, 109, 110, 111, 112, 113, 114, 115, 116, 117, 118, 119, 120, 121, 122, 48, 49, 50, 51, 52, 53, 54, 55, 56, 57, 43, 47]⟩ : ByteArray).size) :
    (⟨#[65, 66, 67, 68, 69, 70, 71, 72, 73, 74, 75, 76, 77, 78, 79, 80, 81, 82, 83, 84, 85, 86, 87, 88, 89, 90, 97, 98, 99, 100, 101, 102, 103, 104, 105, 106, 107, 108, 109, 110, 111, 112, 113, 114, 115, 116, 117, 118, 119, 120, 121, 122, 48, 49, 50, 51, 52, 53, 54, 55, 56, 57, 43, 47]⟩ : ByteArray)[n] = sgn n := by
  have h' : n < 64 := h
  have hall : ∀ i : Fin 64, (⟨#[65, 66, 67, 68, 69, 70, 71, 72, 73, 74, 75, 76, 77, 78, 79, 80, 81, 82, 83, 84, 85, 86, 87, 88, 89, 90, 97, 98, 99, 100, 101, 102, 103, 104, 105, 106, 107, 108, 109, 110, 111, 112, 113, 114, 115, 116, 117, 118, 119, 120, 121, 122, 48, 49, 50, 51, 52, 53, 54, 55, 56, 57, 43, 47]⟩ : ByteArray)[i.val]'(show i.val < 64 from i.isLt) = sgn i.val := by decide +kernel
  exact hall ⟨n, h'⟩

set_option maxRecDepth 100000 in
set_option maxHeartbeats 1000000 in
theorem db64_any (s : ByteArray) (w : World) (hl : s.size ≤ 1099511627776) :
    Calls Tryd.prog 24 #[.string s] w fun e w' => e = .returned (.string (str (b64 s.data.toList))) ∧ Below w.heap.size w w' := by
  obtain ⟨d, hd⟩ : ∃ d, d = s.data.toList := ⟨_, rfl⟩
  have hdl : d.length = s.size := by rw [hd]; simp
  have HD := Lib.hid hd
  have HDL := Lib.hid hdl
  rw [← hd]
  obtain ⟨G, hG⟩ : ∃ G, G = (s.size + 2) / 3 := ⟨_, rfl⟩
  obtain ⟨c, hc⟩ : ∃ c, c = 4 * G := ⟨_, rfl⟩
  have hz0 : (0 : Int) ≤ (s.size : Int) + 2 := by omega
  have hm1 : ((s.size : Int) + 2).tdiv 3 = (G : Int) := by rw [Int.tdiv_eq_ediv_of_nonneg hz0]; omega
  have hm2 : (G : Int) * 4 = (c : Int) := by omega
  have hGb : G ≤ 1099511627776 := by omega
  have hcb : c ≤ 4398046511104 := by omega
  have hmk := make_bytes (P := Tryd.prog) 41 5 Tryd.underlying41 bu8 0 c (by omega) (by omega) w
  rw [show (((0 : Nat)) : Int) = 0 from rfl] at hmk
  have HG := Lib.hid hG
  have HC := Lib.hid hc
  clear hd hdl hc hz0 hG
  go_enter Tryd.func24, Tryd.ntmps24
  go_wp2_with fail
  clear hm1 hm2
  have hown0 := World.ownsRow_made (base := w.heap.size) (e := 5) (size := 1) w (madeCells #[Value.int .u8 0] c) c (Nat.le_refl _) (by simp only [maxLen]; omega) (by rw [size_madeCells]; simp)
  obtain ⟨B, hB⟩ : ∃ B, B = w.heap.size := ⟨_, rfl⟩
  have hb0 : Below w.heap.size w (w.alloc (.cells (madeCells #[Value.int .u8 0] c) 5)) := (Below.refl _ _).alloc (Nat.le_refl _) _
  rw [← hB] at hown0 ⊢
  have HBW := Lib.hid hB
  generalize w.alloc (.cells (madeCells #[Value.int .u8 0] c) 5) = w1 at hown0 hb0 ⊢
  have HO0 := Lib.hid hown0
  have HB0 := Lib.hid hb0
  clear hmk hB hown0 hb0
  go_loopw [0, 3] (fun r v wr => ∃ (g n : Nat) (x : ByteArray), r = .string x ∧ x.data.toList = d.drop (3 * g) ∧ n = 4 * g ∧ g ≤ G ∧ v = .slice (some ⟨B, 0, none⟩) n c ∧ wr.ownsRow B 5 1 (.slice (some ⟨B, 0, none⟩) n c) n (bytesV (b64L d g)) ∧ Below w.heap.size w wr) (fun r _ _ => strLen r)
  case atStart => exact ⟨0, 0, s, rfl, by rw [HD.out]; rfl, rfl, by omega, rfl, HO0.out, HB0.out⟩
  case round =>
    clear HO0 HB0
    obtain ⟨g, n, x, rfl, hx, hn, hgG, rfl, hown, hbel⟩ := hrel
    have hxs : x.size = d.length - 3 * g := by
      have : x.size = x.data.toList.length := by simp
      rw [this, hx, List.length_drop]
    have HXL := Lib.hid hx
    have HN := Lib.hid hn
    have HOWN := Lib.hid hown
    have HBEL := Lib.hid hbel
    clear hx hn hown hbel
    by_cases hlt : 0 < x.size
    · obtain ⟨m, hm⟩ : ∃ m, m = min 3 x.size := ⟨_, rfl⟩
      have hm3 : m ≤ 3 := by omega
      have hmx : m ≤ x.size := by omega
      have hx0 : (0 : Int) < (x.size : Int) := by omega
      have hmi : min (3 : Int) (x.size : Int) = (m : Int) := by omega
      have HM := Lib.hid hm
      have HXS := Lib.hid hxs
      clear hm hxs
      have hM2 : m = min 3 x.size := HM.out
      go_wp2_with fail
      all_goals
        go_loopw [5, 20] (fun y q wy => ∃ i : Nat, i ≤ 3 ∧ q = .int .i64 i ∧ y = .int .i64 ((xi x.data.toList i : Nat) : Int) ∧ wy.ownsRow B 5 1 (.slice (some ⟨B, 0, none⟩) n c) n (bytesV (b64L d g)) ∧ Below w.heap.size w wy) (fun _ q _ => 3 - (intOf q).toNat)
        case atStart => exact ⟨0, by omega, rfl, rfl, HOWN.out, HBEL.out⟩
        case round =>
          clear HOWN HBEL
          obtain ⟨i, hi, rfl, rfl, hown, hbel⟩ := hrel
          have HOWN := Lib.hid hown
          have HBEL := Lib.hid hbel
          clear hown hbel
          obtain ⟨y, hy⟩ : ∃ y, y = xi x.data.toList i := ⟨_, rfl⟩
          have hyb := xi_lt x.data.toList i hi
          rw [← hy] at hyb ⊢
          have hyb1 := hyb.1
          have HY := Lib.hid hy
          clear hy
          by_cases hi3 : i < 3
          · have hyb2 := hyb.2 (by omega)
            clear hyb
            obtain ⟨b, hb⟩ : ∃ b, b = byt x.data.toList i := ⟨_, rfl⟩
            have hbb : b < 256 := by rw [hb]; exact byt_lt _ _
            have HB := Lib.hid hb
            clear hb
            have e1 := i64_or_low y b hyb1 hbb
            have a3 : (i : Int) < 3 := by omega
            by_cases him : i < m
            · have a1 : (i : Int) < (x.size : Int) := by omega
              have hxc : ∀ (h : i < x.size), (x[i].toNat : Int) = (b : Int) := fun h => by
                rw [HB.out]
                unfold byt
                rw [List.getD_eq_getElem?_getD, List.getElem?_eq_getElem (by simpa using h)]
                rfl
              go_wp2_with fail
              refine ⟨⟨i + 1, by omega, rfl, ?_, HOWN.out, HBEL.out⟩, (by show 3 - ((i : Int) + 1).toNat < 3 - (i : Int).toNat; omega)⟩
              rw [show xi x.data.toList (i + 1) = y * 256 + b by simp only [xi]; rw [HY.out, HB.out], Int.natCast_add, Int.natCast_mul]
              rfl
            · have a2 : ¬ ((i : Int) < (x.size : Int)) := by omega
              have hb0 : b = 0 := by rw [HB.out]; exact byt_out _ _ (by simp; omega)
              first
                | (exfalso; omega)
                | (go_wp2_with fail
                   refine ⟨⟨i + 1, by omega, rfl, ?_, HOWN.out, HBEL.out⟩, (by show 3 - ((i : Int) + 1).toNat < 3 - (i : Int).toNat; omega)⟩
                   rw [show xi x.data.toList (i + 1) = y * 256 by simp only [xi]; rw [HY.out, ← HB.out, hb0]; rfl]
                   rfl)
          · have a3 : ¬ ((i : Int) < 3) := by omega
            have HYG : Hid (y = grp d g) := by show _ = _; rw [HY.out, HXL.out, show i = 3 by omega]; exact xi_three d g
            clear hyb
            go_wp2_with fail
            clear a3
            go_loopw [3, 35] (fun v q wy => ∃ i r : Nat, i ≤ 4 ∧ Hid (r = n + i) ∧ q = .int .i64 i ∧ v = .slice (some ⟨B, 0, none⟩) r c ∧ wy.ownsRow B 5 1 (.slice (some ⟨B, 0, none⟩) r c) r (bytesV (b64L d g ++ (List.range i).map (b64c d g))) ∧ Below w.heap.size w wy) (fun _ q _ => 4 - (intOf q).toNat)
            case atStart => exact ⟨0, n, by omega, rfl, rfl, rfl, by simpa using HOWN.out, HBEL.out⟩
            case round =>
              clear HOWN HBEL
              obtain ⟨i, r, hi, hr, rfl, rfl, hown, hbel⟩ := hrel
              have HR := Lib.hid hr.out
              clear hr
              have HOWN := Lib.hid hown
              have HBEL := Lib.hid hbel
              clear hown hbel
              have hgd : 3 * g < d.length := by have := HXS.out; omega
              have hgG1 : n + 4 ≤ c := by have := HN.out; have := HC.out; have := HG.out; have := HDL.out; omega
              by_cases hi4 : i < 4
              · have a4 : (i : Int) < 4 := by omega
                have hfit : r + 1 ≤ c := by have := HR.out; omega
                by_cases hmi2 : m < i
                · have b1 : (x.size : Int) < (i : Int) := by omega
                  have e3 : b64c d g i = 61 := by unfold b64c; rw [if_pos (by have := HXS.out; omega)]
                  have HE3 := Lib.hid e3
                  clear e3
                  first
                    | (exfalso; omega)
                    | (go_wp2_with (at_builtin; refine wpList_fitsV rfl _ _ rfl Tryd.underlying41 (.int .u8 0) 1 bu8 (bytesV [61]) 1 (r + 1) rfl rfl HOWN.out rfl rfl (bytesV_one _) rfl hfit ?_; intro w' hown' hgr'; have HOWN' := Lib.hid hown'; have HG2 := Lib.hid hgr'; clear hown' hgr')
                       refine ⟨⟨i + 1, r + 1, by omega, (by have := HR.out; show _ = _; omega), rfl, rfl, ?_, HBEL.out.grown HG2.out HBEL.out.size (fun q hq => by cases hq; have := HBW.out; omega)⟩, (by show 4 - ((i : Int) + 1).toNat < 4 - (i : Int).toNat; omega)⟩
                       rw [show (List.range (i + 1)).map (b64c d g) = (List.range i).map (b64c d g) ++ [b64c d g i] by rw [List.range_succ, List.map_append]; rfl, ← List.append_assoc, HE3.out]
                       have := HOWN'.out
                       rw [← show bytesV (b64L d g ++ (List.range i).map (b64c d g) ++ [61]) = bytesV (b64L d g ++ (List.range i).map (b64c d g)) ++ bytesV [61] by simp [bytesV]] at this
                       exact this)
                · have b1 : ¬ ((x.size : Int) < (i : Int)) := by omega
                  have b2 : ¬ ((3 : Int) < (i : Int)) := by omega
                  obtain ⟨idx, hidx⟩ : ∃ idx, idx = y / 2 ^ (18 - 6 * i) % 64 := ⟨_, rfl⟩
                  have hxb : idx < 64 := by omega
                  have hxb' : (idx : Int) < 64 := by omega
                  have g1 := b64_at idx
                  have hcase : i = 0 ∨ i = 1 ∨ i = 2 ∨ i = 3 := by omega
                  rcases hcase with rfl | rfl | rfl | rfl
                  · first
                      | (exfalso; omega)
                      | (have e2 : bits .and .i64 ((y : Int) / 262144) 63 = (idx : Int) := by
                           rw [show (((y : Int) / 262144) : Int) = ((y / 2 ^ 18 : Nat) : Int) by omega, i64_63 _ (by omega), hidx]
                         have HIDX := Lib.hid hidx
                         clear hidx
                         go_wp2_with (at_builtin; refine wpList_fitsV rfl _ _ rfl Tryd.underlying41 (.int .u8 0) 1 bu8 (bytesV [sgn idx]) 1 (r + 1) rfl rfl HOWN.out rfl rfl (bytesV_one _) rfl hfit ?_; intro w' hown' hgr'; have HOWN' := Lib.hid hown'; have HG2 := Lib.hid hgr'; clear hown' hgr')
                         refine ⟨⟨1, r + 1, by omega, (by have := HR.out; show _ = _; omega), rfl, rfl, ?_, HBEL.out.grown HG2.out HBEL.out.size (fun q hq => by cases hq; have := HBW.out; omega)⟩, by decide⟩
                         have e3 : b64c d g 0 = sgn idx := by unfold b64c; rw [if_neg (by have := HXS.out; omega), HIDX.out, HYG.out]
                         rw [show (List.range 1).map (b64c d g) = (List.range 0).map (b64c d g) ++ [b64c d g 0] by rw [List.range_succ, List.map_append]; rfl, ← List.append_assoc, e3]
                         have := HOWN'.out
                         rw [← show bytesV (b64L d g ++ (List.range 0).map (b64c d g) ++ [sgn idx]) = bytesV (b64L d g ++ (List.range 0).map (b64c d g)) ++ bytesV [sgn idx] by simp [bytesV]] at this
                         exact this)
                  · first
                      | (exfalso; omega)
                      | (have e2 : bits .and .i64 ((y : Int) / 4096) 63 = (idx : Int) := by
                           rw [show (((y : Int) / 4096) : Int) = ((y / 2 ^ 12 : Nat) : Int) by omega, i64_63 _ (by omega), hidx]
                         have HIDX := Lib.hid hidx
                         clear hidx
                         go_wp2_with (at_builtin; refine wpList_fitsV rfl _ _ rfl Tryd.underlying41 (.int .u8 0) 1 bu8 (bytesV [sgn idx]) 1 (r + 1) rfl rfl HOWN.out rfl rfl (bytesV_one _) rfl hfit ?_; intro w' hown' hgr'; have HOWN' := Lib.hid hown'; have HG2 := Lib.hid hgr'; clear hown' hgr')
                         refine ⟨⟨2, r + 1, by omega, (by have := HR.out; show _ = _; omega), rfl, rfl, ?_, HBEL.out.grown HG2.out HBEL.out.size (fun q hq => by cases hq; have := HBW.out; omega)⟩, by decide⟩
                         have e3 : b64c d g 1 = sgn idx := by unfold b64c; rw [if_neg (by have := HXS.out; omega), HIDX.out, HYG.out]
                         rw [show (List.range 2).map (b64c d g) = (List.range 1).map (b64c d g) ++ [b64c d g 1] by rw [List.range_succ, List.map_append]; rfl, ← List.append_assoc, e3]
                         have := HOWN'.out
                         rw [← show bytesV (b64L d g ++ (List.range 1).map (b64c d g) ++ [sgn idx]) = bytesV (b64L d g ++ (List.range 1).map (b64c d g)) ++ bytesV [sgn idx] by simp [bytesV]] at this
                         exact this)
                  · first
                      | (exfalso; omega)
                      | (have e2 : bits .and .i64 ((y : Int) / 64) 63 = (idx : Int) := by
                           rw [show (((y : Int) / 64) : Int) = ((y / 2 ^ 6 : Nat) : Int) by omega, i64_63 _ (by omega), hidx]
                         have HIDX := Lib.hid hidx
                         clear hidx
                         go_wp2_with (at_builtin; refine wpList_fitsV rfl _ _ rfl Tryd.underlying41 (.int .u8 0) 1 bu8 (bytesV [sgn idx]) 1 (r + 1) rfl rfl HOWN.out rfl rfl (bytesV_one _) rfl hfit ?_; intro w' hown' hgr'; have HOWN' := Lib.hid hown'; have HG2 := Lib.hid hgr'; clear hown' hgr')
                         refine ⟨⟨3, r + 1, by omega, (by have := HR.out; show _ = _; omega), rfl, rfl, ?_, HBEL.out.grown HG2.out HBEL.out.size (fun q hq => by cases hq; have := HBW.out; omega)⟩, by decide⟩
                         have e3 : b64c d g 2 = sgn idx := by unfold b64c; rw [if_neg (by have := HXS.out; omega), HIDX.out, HYG.out]
                         rw [show (List.range 3).map (b64c d g) = (List.range 2).map (b64c d g) ++ [b64c d g 2] by rw [List.range_succ, List.map_append]; rfl, ← List.append_assoc, e3]
                         have := HOWN'.out
                         rw [← show bytesV (b64L d g ++ (List.range 2).map (b64c d g) ++ [sgn idx]) = bytesV (b64L d g ++ (List.range 2).map (b64c d g)) ++ bytesV [sgn idx] by simp [bytesV]] at this
                         exact this)
                  · first
                      | (exfalso; omega)
                      | (have e2 : bits .and .i64 ((y : Int)) 63 = (idx : Int) := by
                           rw [show (((y : Int)) : Int) = ((y / 2 ^ 0 : Nat) : Int) by omega, i64_63 _ (by omega), hidx]
                         have HIDX := Lib.hid hidx
                         clear hidx
                         go_wp2_with (at_builtin; refine wpList_fitsV rfl _ _ rfl Tryd.underlying41 (.int .u8 0) 1 bu8 (bytesV [sgn idx]) 1 (r + 1) rfl rfl HOWN.out rfl rfl (bytesV_one _) rfl hfit ?_; intro w' hown' hgr'; have HOWN' := Lib.hid hown'; have HG2 := Lib.hid hgr'; clear hown' hgr')
                         refine ⟨⟨4, r + 1, by omega, (by have := HR.out; show _ = _; omega), rfl, rfl, ?_, HBEL.out.grown HG2.out HBEL.out.size (fun q hq => by cases hq; have := HBW.out; omega)⟩, by decide⟩
                         have e3 : b64c d g 3 = sgn idx := by unfold b64c; rw [if_neg (by have := HXS.out; omega), HIDX.out, HYG.out]
                         rw [show (List.range 4).map (b64c d g) = (List.range 3).map (b64c d g) ++ [b64c d g 3] by rw [List.range_succ, List.map_append]; rfl, ← List.append_assoc, e3]
                         have := HOWN'.out
                         rw [← show bytesV (b64L d g ++ (List.range 3).map (b64c d g) ++ [sgn idx]) = bytesV (b64L d g ++ (List.range 3).map (b64c d g)) ++ bytesV [sgn idx] by simp [bytesV]] at this
                         exact this)
              · have a4 : ¬ ((i : Int) < 4) := by omega
                have hr4 : r = 4 * (g + 1) := by have := HR.out; have := HN.out; omega
                have hown := HOWN.out
                rw [show i = 4 by omega] at hown
                have HOWN2 : Hid (wr.ownsRow B 5 1 (.slice (some ⟨B, 0, none⟩) r c) r (bytesV (b64L d (g + 1)))) := by
                  show World.ownsRow _ _ _ _ _ _ _
                  rw [b64L_succ]
                  exact hown
                have HR4 := Lib.hid hr4
                have hmx1 : (m : Int) ≤ (x.size : Int) := by omega
                have hmx2 : (3 : Int) ≤ (x.size : Int) ∨ (x.size : Int) < 3 := by omega
                clear hown hr4 HOWN
                go_wp2_with fail
                have hgn : g + 1 ≤ G := by have := HG.out; have := HDL.out; omega
                first
                  | (refine ⟨⟨g + 1, r, ByteArray.empty, rfl, ?_, HR4.out, hgn, rfl, HOWN2.out, HBEL.out⟩, ?_⟩
                     · have := HXS.out
                       rw [List.drop_eq_nil_of_le (by omega)]
                       rfl
                     · show 0 < x.size
                       omega)
                  | (refine ⟨⟨g + 1, r, x.extract 3 x.size, rfl, ?_, HR4.out, hgn, rfl, HOWN2.out, HBEL.out⟩, ?_⟩
                     · rw [extract_tail, HXL.out, List.drop_drop]
                       congr 1
                     · show (x.extract 3 x.size).size < x.size
                       rw [ByteArray.size_extract]
                       omega)
    · have hgg : g = G := by have := HG.out; have := HDL.out; omega
      have hx0 : ¬ ((0 : Int) < (x.size : Int)) := by omega
      have hfin : b64L d g = b64 d := by unfold b64; rw [hgg, HG.out, HDL.out]
      have hown := HOWN.out
      rw [hfin] at hown
      have hl2 : n = (b64 d).length := by unfold b64; rw [b64L_length, HDL.out, ← HG.out, ← hgg, HN.out]
      have hcv := own_string (P := Tryd.prog) (D := 9) (S := 41) (w := wr) (B := B) (g := B) (N := n) (c := c) (l := b64 d) Tryd.underlying41 bund8 bundS (by unfold OwnB; rw [← hl2]; exact hown)
      clear hgg hfin hown hl2 hxs
      go_wp2
      go_ret
      exact ⟨rfl, HBEL.out⟩
end Go.Proofs.YtmkeifhfjhknjaaDoor
