/- A hasher's Write, walked. -/
import Derived.Test.YtmkeifhfjhknjaaDoorDig1
namespace Go.Proofs.YtmkeifhfjhknjaaDoor
open Go.RowKit Go.Scr
set_option linter.unusedVariables false

/-- block h is a hasher that has taken the bytes m -/
def Hm (w : World) (h : Nat) (m : List UInt8) : Prop :=
  ∃ rest : List UInt8, rest.length = 64 ∧ rest.take (m.length % 64) = m.drop (m.length / 64 * 64) ∧ w.heap[h]? = some (.cells (hcells (absorb m) rest m.length) 53 (0, 0))
/-- the package's tables, where they lie -/
def Tabs (w : World) : Prop :=
  (∀ j, j < 64 → w.cell? ⟨1, j, none⟩ = some (.int .u32 ((Ks.getD j 0 : Nat) : Int))) ∧
  (∀ j, j < 8 → w.cell? ⟨0, j, none⟩ = some (.int .u32 ((Hs.getD j 0 : Nat) : Int)))
theorem Tabs.below {w w' : World} (h : Tabs w) (hb : Below w.heap.size w w') : Tabs w' :=
  ⟨fun j hj => (hb.cell (block_lt_of_cell (h.1 j hj))).trans (h.1 j hj), fun j hj => (hb.cell (block_lt_of_cell (h.2 j hj))).trans (h.2 j hj)⟩
theorem Tabs.lt {w : World} (h : Tabs w) : 1 < w.heap.size ∧ 0 < w.heap.size :=
  ⟨block_lt_of_cell (h.1 0 (by omega)), block_lt_of_cell (h.2 0 (by omega))⟩
theorem Hm.below {w w' : World} {h B : Nat} {m : List UInt8} (hm : Hm w h m) (hb : Below B w w') (hh : h < B) : Hm w' h m := by
  obtain ⟨rest, h1, h2, h3⟩ := hm
  exact ⟨rest, h1, h2, blk_below h3 hb hh⟩
theorem Hm.st {w : World} {h : Nat} {m : List UInt8} (hm : Hm w h m) (j : Nat) (hj : j < 8) : w.cell? ⟨h, j, none⟩ = some (.int .u32 (((absorb m).getD j 0 : Nat) : Int)) := by
  obtain ⟨rest, h1, h2, h3⟩ := hm
  rw [cell_of_row w h j _ _ _ h3, hcells_st (absorb_St m).1 hj]
theorem Hm.lt {w : World} {h : Nat} {m : List UInt8} (hm : Hm w h m) : h < w.heap.size := by
  obtain ⟨rest, h1, h2, h3⟩ := hm
  exact blk_lt h3
def strLen : Value → Nat | .string s => s.size | _ => 0

theorem Hm_keep {w2 : World} {h L A n : Nat} {m1 x rest2 : List UInt8} (hL : L = m1.length) (hA : A = L % 64) (hx : x.length = n) (hr : rest2.length = 64)
    (hrt : rest2.take (A + n) = m1.drop (m1.length / 64 * 64) ++ x) (hb : w2.heap[h]? = some (.cells (hcells (absorb m1) rest2 m1.length) 53 (0, 0))) (hf : A + n < 64) :
    Hm (w2.setCell ⟨h, 72, none⟩ (.int .i64 ((L : Int) + (n : Int)))) h (m1 ++ x) := by
  subst hL hA hx
  refine ⟨rest2, hr, ?_, ?_⟩
  · rw [List.length_append, show (m1.length + x.length) % 64 = m1.length % 64 + x.length by omega, hrt, show (m1.length + x.length) / 64 = m1.length / 64 by omega, List.drop_append_of_le_length (by omega)]
  · rw [absorb_same m1 x hf, List.length_append]
    have := blk_set hb 72 (.int .i64 ((m1.length + x.length : Nat) : Int))
    rw [hcells_setn (absorb_St m1).1 hr] at this
    simpa using this
theorem Hm_full {w3 : World} {h L A n : Nat} {m1 x rest2 : List UInt8} (hL : L = m1.length) (hA : A = L % 64) (hx : x.length = n) (hr : rest2.length = 64)
    (hrt : rest2.take (A + n) = m1.drop (m1.length / 64 * 64) ++ x) (hf : A + n = 64) (hb : w3.heap[h]? = some (.cells (hcells (blockN (absorb m1) rest2) rest2 (L + n)) 53 (0, 0))) : Hm w3 h (m1 ++ x) := by
  subst hL hA hx
  refine ⟨rest2, hr, ?_, ?_⟩
  · rw [List.length_append, show (m1.length + x.length) % 64 = 0 by omega, show (m1.length + x.length) / 64 * 64 = m1.length + x.length by omega, List.drop_eq_nil_of_le (by simp), List.take_zero]
  · rw [hf, List.take_of_length_le (by omega)] at hrt
    rw [absorb_block m1 x hf, ← hrt, List.length_append]
    exact hb
theorem arr64 : Tryd.prog.underlying 51 = some (.array 64 5) := by kernel_rfl
theorem run_rest_from (w : World) (h A : Nat) (hA : A < 64) :
    (Instr.sliceAt 51 (.pointer (some ⟨h, 8, none⟩)) (some (.int .i64 (A : Int))) none none).run Tryd.prog w = .ok (.slice (some ⟨h, 8 + A, none⟩) (64 - A) (64 - A)) w := by
  have hl : Tryd.prog.arrayLen 51 = 64 := by kernel_rfl
  have he : Tryd.prog.elem 51 = 5 := by kernel_rfl
  have h1 := run_sliceAt_array_l (P := Tryd.prog) w 51 ⟨h, 8, none⟩ (by rw [hl, he]; exact arr64) .i64 (A : Int) (by omega) (by rw [hl]; omega)
  rw [h1, hl, he]
  have hs : (sizeOf 5).run Tryd.prog w = .ok 1 w := by kernel_rfl
  rw [hs]
  simp [slicedAt, show ¬ (64 = A) from by omega, Addr.add]
theorem size_bytes : (Tryd.prog.info? 5).map (·.size) = some 1 := by kernel_rfl
set_option maxRecDepth 100000 in
set_option maxHeartbeats 1000000 in
theorem write_any (h : Nat) (m : List UInt8) (s : ByteArray) (w : World) (hm : Hm w h m) (ht : Tabs w) (hl : m.length + s.size ≤ 1152921504606846976)
    (hne : h ≠ 1) (hne' : h ≠ 0) :
    Calls Tryd.prog 12 #[.pointer (some ⟨h, 0, none⟩), .string s] w fun e w' => e = .returned (.tuple #[]) ∧ Hm w' h (m ++ s.data.toList) ∧ w.grownBy w' (some h) := by
  have HM := Lib.hid hm
  have HT := Lib.hid ht
  clear hm ht
  go_enter Tryd.func12, Tryd.ntmps12
  go_wp2_with fail
  go_loopw [1] (fun v wr => ∃ (s1 : ByteArray) (m1 : List UInt8), v = .string s1 ∧ m1 ++ s1.data.toList = m ++ s.data.toList ∧ Hm wr h m1 ∧ w.grownBy wr (some h)) (fun v _ => strLen v)
  case atStart => exact ⟨s, m, rfl, rfl, HM.out, only_refl _ _⟩
  case round =>
    obtain ⟨s1, m1, rfl, heq, hm1, hgr⟩ := hrel
    have hlen : m1.length + s1.size = m.length + s.size := by
      have := congrArg List.length heq
      simpa using this
    have HEQ := Lib.hid heq
    have HG := Lib.hid hgr
    obtain ⟨rest, hr, htk, hblk⟩ := hm1
    clear heq hgr
    by_cases hpos : 0 < s1.size
    · obtain ⟨L, hL⟩ : ∃ L, L = m1.length := ⟨_, rfl⟩
      have hlt := blk_lt hblk
      have cn : wr.cell? ⟨h, 72, none⟩ = some (.int .i64 (L : Int)) := by rw [cell_of_row wr h 72 _ _ _ hblk, hcells_n (absorb_St m1).1 hr, hL]
      have hLb : L + s1.size ≤ 1152921504606846976 := by omega
      have hh := frozen_of_row wr h 72 _ _ hblk
      obtain ⟨A, hA⟩ : ∃ A, A = L % 64 := ⟨_, rfl⟩
      have hA1 : (L : Int) % 64 = (A : Int) := by omega
      have hA2 : A < 64 := by omega
      have hsl := run_rest_from wr h A hA2
      obtain ⟨n, hn⟩ : ∃ n, n = Nat.min s1.size (64 - A) := ⟨_, rfl⟩
      have hn0 : 0 < n := by rw [hn]; exact Nat.lt_min.2 ⟨hpos, by omega⟩
      have hn1 : n ≤ s1.size := hn ▸ Nat.min_le_left _ _
      have hn2 : n ≤ 64 - A := hn ▸ Nat.min_le_right _ _
      have hsz : (hcells (absorb m1) rest m1.length).size = 73 := by simp [hcells, (absorb_St m1).1, hr]
      have hcp := run_copy_str (P := Tryd.prog) wr 41 9 3 5 h (8 + A) (64 - A) (64 - A) s1 _ _ n Tryd.underlying41 size_bytes hblk hn (by rw [hsz]; omega)
      have hxl : (s1.data.toList.take n).length = n := by simp; omega
      have hrow := hcells_copy (st := absorb m1) (rest := rest) (n := m1.length) (at_ := A) (x := s1.data.toList.take n) (absorb_St m1).1 hr (by omega)
      have hrl : (fillIn rest A (s1.data.toList.take n)).length = 64 := fillIn_length hr (by omega)
      have hrt : (fillIn rest A (s1.data.toList.take n)).take (A + n) = rest.take A ++ s1.data.toList.take n := by
        have := fillIn_take (rest := rest) (at_ := A) (x := s1.data.toList.take n) hr (by omega)
        rwa [hxl] at this
      rw [hxl] at hrow
      rw [show bytesV (s1.data.toList.take n) = (s1.data.toList.take n).map (fun c => Value.int .u8 (c.toNat : Int)) from rfl, hrow] at hcp
      obtain ⟨w2, hw2⟩ : ∃ w2, w2 = wr.setRow h (hcells (absorb m1) (fillIn rest A (s1.data.toList.take n)) m1.length) := ⟨_, rfl⟩
      rw [← hw2] at hcp
      have hb2 : w2.heap[h]? = some (.cells (hcells (absorb m1) (fillIn rest A (s1.data.toList.take n)) m1.length) 53 (0, 0)) := by rw [hw2]; exact blk_row hblk _
      have hg2 : w.grownBy w2 (some h) := by rw [hw2]; exact only_setRow HG.out _
      have HS := Lib.hid (show (m1 ++ s1.data.toList.take n) ++ s1.data.toList.drop n = m ++ s.data.toList by rw [List.append_assoc, List.take_append_drop]; exact HEQ.out)
      have htkA : rest.take A = m1.drop (m1.length / 64 * 64) := by rw [hA, hL]; exact htk
      rw [htkA] at hrt
      have HRT := Lib.hid hrt
      clear hrow hw2 hrt htk htkA
      obtain ⟨x, hx⟩ : ∃ x, x = s1.data.toList.take n := ⟨_, rfl⟩
      rw [← hx] at hxl HS HRT hrl hb2
      generalize fillIn rest A x = rest2 at hrl HRT hb2
      have c2 : w2.cell? ⟨h, 72, none⟩ = some (.int .i64 (L : Int)) := by rw [cell_of_row w2 h 72 _ _ _ hb2, hcells_n (absorb_St m1).1 hrl, hL]
      have z2 := frozen_of_row w2 h 72 _ _ hb2
      have HL := Lib.hid hL
      have HA := Lib.hid hA
      have HN := Lib.hid hn
      have HX := Lib.hid hx
      have HXL := Lib.hid hxl
      have HRL := Lib.hid hrl
      have HLEN := Lib.hid hlen
      have HB2 := Lib.hid hb2
      have HG2 := Lib.hid hg2
      clear hL hA hn hx hxl hrl hsz hlen hblk hb2 hg2 hr HG HEQ HM hh
      by_cases hf : A + n < 64
      · go_wp2
        go_roundw
        case rel =>
          refine ⟨_, m1 ++ x, rfl, ?_, Hm_keep HL.out HA.out HXL.out HRL.out HRT.out HB2.out hf, only_setCell HG2.out (.inl rfl) _⟩
          rw [← HS.out]
          rw [extract_tail]
        case measure => simp [strLen]; omega
      · have hf' : 64 ≤ A + n := by omega
        clear hf
        go_wp2_with fail
        have hb3 : (w2.setCell ⟨h, 72, none⟩ (.int .i64 ((L : Int) + (n : Int)))).heap[h]? = some (.cells (hcells (absorb m1) rest2 (L + n)) 53 (0, 0)) := by
          have := blk_set HB2.out 72 (.int .i64 ((L + n : Nat) : Int))
          rw [hcells_setn (absorb_St m1).1 HRL.out] at this
          simpa using this
        have hg3 := only_setCell (p := ⟨h, 72, none⟩) HG2.out (.inl rfl) (.int .i64 ((L : Int) + (n : Int)))
        generalize w2.setCell ⟨h, 72, none⟩ (.int .i64 ((L : Int) + (n : Int))) = w3 at hb3 hg3 ⊢
        have HB3 := Lib.hid hb3
        have HG3 := Lib.hid hg3
        clear hb3 hg3 hsl hcp c2 z2 cn HB2 HG2
        go_still_tail 6, (by kernel_rfl)
        change wpList _ _ _ _ _ w3.drew
        have hnum : ∀ j, j < 64 → w3.drew.cell? ⟨1, j, none⟩ = some (.int .u32 ((Ks.getD j 0 : Nat) : Int)) := fun j hj =>
          (World.cell?_of_block (w := w) (HG3.out.block _ (block_lt_of_cell (HT.out.1 j hj)) (by simpa using Ne.symm hne))).trans (HT.out.1 j hj)
        have HNUM := Lib.hid hnum
        clear hnum
        have HB4 := Lib.hid (show w3.drew.heap[h]? = some (.cells (hcells (absorb m1) rest2 (L + n)) 53 (0, 0)) from HB3.out)
        have HG4 := Lib.hid (only_drew HG3.out)
        generalize w3.drew = w4 at HB4 HG4 HNUM ⊢
        clear HB3 HG3
        go_wp2_with fail
        refine (block_any h (absorb m1) rest2 (L + n) w4 (absorb_St m1) HRL.out HB4.out HNUM.out).mono ?_
        rintro e w5 ⟨rfl, hb5, hg5⟩
        have HB5 := Lib.hid hb5
        have HG5 := Lib.hid hg5
        clear hb5 hg5
        go_wp2
        go_roundw
        case rel =>
          refine ⟨_, m1 ++ x, rfl, ?_, Hm_full HL.out HA.out HXL.out HRL.out HRT.out (by omega) HB5.out, only_trans HG4.out HG5.out⟩
          rw [← HS.out]
          rw [extract_tail]
        case measure => simp [strLen]; omega
    · have hz : s1.size = 0 := by omega
      have hnil : s1.data.toList = [] := List.eq_nil_of_length_eq_zero (by simpa using hz)
      have hm' : m1 = m ++ s.data.toList := by
        have := HEQ.out
        rw [hnil, List.append_nil] at this
        exact this
      have HF : Hid (Hm wr h (m ++ s.data.toList)) := by
        show Hm wr h (m ++ s.data.toList)
        rw [← hm']
        exact ⟨rest, hr, htk, hblk⟩
      clear hz hnil hm' hr htk hblk hlen HEQ
      go_wp2
      go_end0
      exact ⟨rfl, HF.out, HG.out⟩
end Go.Proofs.YtmkeifhfjhknjaaDoor
