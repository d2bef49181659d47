/- A hasher's Write, walked. -/
import Derived.Test.YtafookdllnhdaaaDoorMa5
namespace Go.Proofs.YtafookdllnhdaaaDoor
open Go.RowKit Go.Scr
set_option linter.unusedVariables false

/-- block h is a hasher that has taken the bytes m -/
def Hm (w : World) (h : Nat) (m : List UInt8) : Prop :=
  ∃ rest : List UInt8, rest.length = 64 ∧ rest.take (m.length % 64) = m.drop (m.length / 64 * 64) ∧ w.heap[h]? = some (.cells (hcells (absorb m) rest m.length) 127 (0, 0))
/-- the package's tables, where they lie -/
def Tabs (w : World) : Prop :=
  (∀ j, j < 64 → w.cell? ⟨3, j, none⟩ = some (.int .u32 ((Ks.getD j 0 : Nat) : Int))) ∧
  (∀ j, j < 8 → w.cell? ⟨2, j, none⟩ = some (.int .u32 ((Hs.getD j 0 : Nat) : Int)))
theorem Tabs.below {w w' : World} (h : Tabs w) (hb : Below w.heap.size w w') : Tabs w' :=
  ⟨fun j hj => (hb.cell (block_lt_of_cell (h.1 j hj))).trans (h.1 j hj), fun j hj => (hb.cell (block_lt_of_cell (h.2 j hj))).trans (h.2 j hj)⟩
theorem Tabs.lt {w : World} (h : Tabs w) : 3 < w.heap.size ∧ 2 < w.heap.size :=
  ⟨block_lt_of_cell (h.1 0 (by omega)), block_lt_of_cell (h.2 0 (by omega))⟩
theorem Hm.below {w w' : World} {h B : Nat} {m : List UInt8} (hm : Hm w h m) (hb : Below B w w') (hh : h < B) : Hm w' h m := by
  obtain ⟨rest, h1, h2, h3⟩ := hm
  exact ⟨rest, h1, h2, blk_below h3 hb hh⟩
theorem Hm.st {w : World} {h : Nat} {m : List UInt8} (hm : Hm w h m) (j : Nat) (hj : j < 8) : w.cell? ⟨h, j, none⟩ = some (.int .u32 (((absorb m).getD j 0 : Nat) : Int)) := by
  obtain ⟨rest, h1, h2, h3⟩ := hm
  rw [cell_of_row w h j _ _ _ h3, hcells_st (absorb_St m).1 hj]
theorem Hm.lt {w : World} {h : Nat} {m : List UInt8} (hm : Hm w h m) : h < w.heap.size := by
  obtain ⟨rest, h1, h2, h3⟩ := hm
  exact blk_lt h3
def strLen : Value → Nat | .string s => s.size | _ => 0

theorem Hm_keep {w2 : World} {h L A n : Nat} {m1 x rest2 : List UInt8} (hL : L = m1.length) (hA : A = L % 64) (hx : x.length = n) (hr : rest2.length = 64)
    (hrt : rest2.take (A + n) = m1.drop (m1.length / 64 * 64) ++ x) (hb : w2.heap[h]? = some (.cells (hcells (absorb m1) rest2 m1.length) 127 (0, 0))) (hf : A + n < 64) :
    Hm (w2.setCell ⟨h, 72, none⟩ (.int .i64 ((L : Int) + (n : Int)))) h (m1 ++ x) := by
  subst hL hA hx
  refine ⟨rest2, hr, ?_, ?_⟩
  · rw [List.length_append, show (m1.length + x.length) % 64 = m1.length % 64 + x.length by omega, hrt, show (m1.length + x.length) / 64 = m1.length / 64 by omega, List.drop_append_of_le_length (by omega)]
  · rw [absorb_same m1 x hf, List.length_append]
    have := blk_set hb 72 (.int .i64 ((m1.length + x.length : Nat) : Int))
    rw [hcells_setn (absorb_St m1).1 hr] at this
    simpa using this
theorem Hm_full {w3 : World} {h L A n : Nat} {m1 x rest2 : List UInt8} (hL : L = m1.length) (hA : A = L % 64) (hx : x.length = n) (hr : rest2.length = 64)
    (hrt : rest2.take (A + n) = m1.drop (m1.length / 64 * 64) ++ x) (hf : A + n = 64) (hb : w3.heap[h]? = some (.cells (hcells (blockN (absorb m1) rest2) rest2 (L + n)) 127 (0, 0))) : Hm w3 h (m1 ++ x) := by
  subst hL hA hx
  refine ⟨rest2, hr, ?_, ?_⟩
  · rw [List.length_append, show (m1.length + x.length) % 64 = 0 by omega, show (m1.length + x.length) / 64 * 64 = m1.length + x.length by omega, List.drop_eq_nil_of_le (by simp), List.take_zero]
  · rw [hf, List.take_of_length_le (by omega)] at hrt
    rw [absorb_block m1 x hf, ← hrt, List.length_append]
    exact hb
theorem arr64 : Tryd.prog.underlying 121 = some (.array 64 5) := by kernel_rfl
theorem run_rest_from (w : World) (h A : Nat) (hA : A < 64) :
    (Instr.sliceAt 121 (.pointer (some ⟨h, 8, none⟩)) (some (.int .i64 (A : Int))) none none).run Tryd.prog w = .ok (.slice (some ⟨h, 8 + A, none⟩) (64 - A) (64 - A)) w := by
  have hl : Tryd.prog.arrayLen 121 = 64 := by kernel_rfl
  have he : Tryd.prog.elem 121 = 5 := by kernel_rfl
  have h1 := run_sliceAt_array_l (P := Tryd.prog) w 121 ⟨h, 8, none⟩ (by rw [hl, he]; exact arr64) .i64 (A : Int) (by omega) (by rw [hl]; omega)
  rw [h1, hl, he]
  have hs : (sizeOf 5).run Tryd.prog w = .ok 1 w := by kernel_rfl
  rw [hs]
  simp [slicedAt, show ¬ (64 = A) from by omega, Addr.add]
theorem size_bytes : (Tryd.prog.info? 5).map (·.size) = some 1 := by kernel_rfl
set_option maxRecDepth 100000 in
set_option maxHeartbeats 1000000 in
theorem write_any (h : Nat) (m : List UInt8) (s : ByteArray) (w : World) (hm : Hm w h m) (ht : Tabs w) (hl : m.length + s.size ≤ 1152921504606846976)
    (hne : h ≠ 3) (hne' : h ≠ 2) :
    Calls Tryd.prog 82 #[.pointer (some ⟨h, 0, none⟩), .string s] w fun e w' => e = .returned (.tuple #[]) ∧ Hm w' h (m ++ s.data.toList) ∧ w.grownBy w' (some h) := by
  have HM := Lib.hid hm
  have HT := Lib.hid ht
  clear hm ht
  go_enter Tryd.func82, Tryd.ntmps82
  go_wp2_with fail
  go_loopw [1] (fun v wr => ∃ (s1 : ByteArray) (m1 : List UInt8), v = .string s1 ∧ m1 ++ s1.data.toList = m ++ s.data.toList ∧ Hm wr h m1 ∧ w.grownBy wr (some h)) (fun v _ => strLen v)
  case atStart => exact ⟨s, m, rfl, rfl, HM.out, only_refl _ _⟩
  case round =>
    obtain ⟨s1, m1, rfl, heq, hm1, hgr⟩ := hrel
    have hlen : m1.length + s1.size = m.length + s.size := by
      have := congrArg List.length heq
      simpa using this
    have HEQ := Lib.hid heq
    have HG := Lib.hid hgr
    obtain ⟨rest, hr, htk, hblk⟩ := hm1
    clear heq hgr
    by_cases hpos : 0 < s1.size
    · obtain ⟨L, hL⟩ : ∃ L, L = m1.length := ⟨_, rfl⟩
      have hlt := blk_lt hblk
      have cn : wr.cell? ⟨h, 72, none⟩ = some (.int .i64 (L : Int)) := by rw [cell_of_row wr h 72 _ _ _ hblk, hcells_n (absorb_St m1).1 hr, hL]
      have hLb : L + s1.size ≤ 1152921504606846976 := by omega
      have hh := frozen_of_row wr h 72 _ _ hblk
      obtain ⟨A, hA⟩ : ∃ A, A = L % 64 := ⟨_, rfl⟩
      have hA1 : (L : Int) % 64 = (A : Int) := by omega
      have hA2 : A < 64 := by omega
      have hsl := run_rest_from wr h A hA2
      obtain ⟨n, hn⟩ : ∃ n, n = Nat.min s1.size (64 - A) := ⟨_, rfl⟩
      have hn0 : 0 < n := by rw [hn]; exact Nat.lt_min.2 ⟨hpos, by omega⟩
      have hn1 : n ≤ s1.size := hn ▸ Nat.min_le_left _ _
      have hn2 : n ≤ 64 - A := hn ▸ Nat.min_le_right _ _
      have hsz : (hcells (absorb m1) rest m1.length).size = 73 := by simp [hcells, (absorb_St m1).1, hr]
      have hcp := run_copy_str (P := Tryd.prog) wr 82 9 3 5 h (8 + A) (64 - A) (64 - A) s1 _ _ n Tryd.underlying82 size_bytes hblk hn (by rw [hsz]; omega)
      have hxl : (s1.data.toList.take n).length = n := by simp; omega
      have hrow := hcells_copy (st := absorb m1) (rest := rest) (n := m1.length) (at_ := A) (x := s1.data.toList.take n) (absorb_St m1).1 hr (by omega)
      have hrl : (fillIn rest A (s1.data.toList.take n)).length = 64 := fillIn_length hr (by omega)
      have hrt : (fillIn rest A (s1.data.toList.take n)).take (A + n) = rest.take A ++ s1.data.toList.take n := by
        have := fillIn_take (rest := rest) (at_ := A) (x := s1.data.toList.take n) hr (by omega)
        rwa [hxl] at this
      rw [hxl] at hrow
      rw [show bytesV (s1.data.toList.take n) = (s1.data.toList.take n).map (fun c => Value.int .u8 (c.toNat : Int)) from rfl, hrow] at hcp
      obtain ⟨w2, hw2⟩ : ∃ w2, w2 = wr.setRow h (hcells (absorb m1) (fillIn rest A (s1.data.toList.take n)) m1.length) := ⟨_, rfl⟩
      rw [← hw2] at hcp
      have hb2 : w2.heap[h]? = some (.cells (hcells (absorb m1) (fillIn rest A (s1.data.toList.take n)) m1.length) 127 (0, 0)) := by rw [hw2]; exact blk_row hblk _
      have hg2 : w.grownBy w2 (some h) := by rw [hw2]; exact only_setRow HG.out _
      have HS := Lib.hid (show (m1 ++ s1.data.toList.take n) ++ s1.data.toList.drop n = m ++ s.data.toList by rw [List.append_assoc, List.take_append_drop]; exact HEQ.out)
      have htkA : rest.take A = m1.drop (m1.length / 64 * 64) := by rw [hA, hL]; exact htk
      rw [htkA] at hrt
      have HRT := Lib.hid hrt
      clear hrow hw2 hrt htk htkA
      obtain ⟨x, hx⟩ : ∃ x, x = s1.data.toList.take n := ⟨_, rfl⟩
      rw [← hx] at hxl HS HRT hrl hb2
      generalize fillIn rest A x = rest2 at hrl HRT hb2
      have c2 : w2.cell? ⟨h, 72, none⟩ = some (.int .i64 (L : Int)) := by rw [cell_of_row w2 h 72 _ _ _ hb2, hcells_n (absorb_St m1).1 hrl, hL]
      have z2 := frozen_of_row w2 h 72 _ _ hb2
      have HL := Lib.hid hL
      have HA := Lib.hid hA
      have HN := Lib.hid hn
      have HX := Lib.hid hx
      have HXL := Lib.hid hxl
      have HRL := Lib.hid hrl
      have HLEN := Lib.hid hlen
      have HB2 := Lib.hid hb2
      have HG2 := Lib.hid hg2
      clear hL hA hn hx hxl hrl hsz hlen hblk hb2 hg2 hr HG HEQ HM hh
      by_cases hf : A + n < 64
      · go_wp2
        go_roundw
        case rel =>
          refine ⟨_, m1 ++ x, rfl, ?_, Hm_keep HL.out HA.out HXL.out HRL.out HRT.out HB2.out hf, only_setCell HG2.out (.inl rfl) _⟩
          rw [← HS.out]
          rw [extract_tail]
        case measure => simp [strLen]; omega
      · have hf' : 64 ≤ A + n := by omega
        clear hf
        go_wp2_with fail
        have hb3 : (w2.setCell ⟨h, 72, none⟩ (.int .i64 ((L : Int) + (n : Int)))).heap[h]? = some (.cells (hcells (absorb m1) rest2 (L + n)) 127 (0, 0)) := by
          have := blk_set HB2.out 72 (.int .i64 ((L + n : Nat) : Int))
          rw [hcells_setn (absorb_St m1).1 HRL.out] at this
          simpa using this
        have hg3 := only_setCell (p := ⟨h, 72, none⟩) HG2.out (.inl rfl) (.int .i64 ((L : Int) + (n : Int)))
        generalize w2.setCell ⟨h, 72, none⟩ (.int .i64 ((L : Int) + (n : Int))) = w3 at hb3 hg3 ⊢
        have HB3 := Lib.hid hb3
        have HG3 := Lib.hid hg3
        clear hb3 hg3 hsl hcp c2 z2 cn HB2 HG2
        go_still_tail 6, (by kernel_rfl)
        change wpList _ _ _ _ _ w3.drew
        have hnum : ∀ j, j < 64 → w3.drew.cell? ⟨3, j, none⟩ = some (.int .u32 ((Ks.getD j 0 : Nat) : Int)) := fun j hj =>
          (World.cell?_of_block (w := w) (HG3.out.block _ (block_lt_of_cell (HT.out.1 j hj)) (by simpa using Ne.symm hne))).trans (HT.out.1 j hj)
        have HNUM := Lib.hid hnum
        clear hnum
        have HB4 := Lib.hid (show w3.drew.heap[h]? = some (.cells (hcells (absorb m1) rest2 (L + n)) 127 (0, 0)) from HB3.out)
        have HG4 := Lib.hid (only_drew HG3.out)
        generalize w3.drew = w4 at HB4 HG4 HNUM ⊢
        clear HB3 HG3
        go_wp2_with fail
        refine (block_any h (absorb m1) rest2 (L + n) w4 (absorb_St m1) HRL.out HB4.out HNUM.out).mono ?_
        rintro e w5 ⟨rfl, hb5, hg5⟩
        have HB5 := Lib.hid hb5
        have HG5 := Lib.hid hg5
        clear hb5 hg5
        go_wp2
        go_roundw
        case rel =>
          refine ⟨_, m1 ++ x, rfl, ?_, Hm_full HL.out HA.out HXL.out HRL.out HRT.out (by omega) HB5.out, only_trans HG4.out HG5.out⟩
          rw [← HS.out]
          rw [extract_tail]
        case measure => simp [strLen]; omega
    · have hz : s1.size = 0 := by omega
      have hnil : s1.data.toList = [] := List.eq_nil_of_length_eq_zero (by simpa using hz)
      have hm' : m1 = m ++ s.data.toList := by
        have := HEQ.out
        rw [hnil, List.append_nil] at this
        exact this
      have HF : Hid (Hm wr h (m ++ s.data.toList)) := by
        show Hm wr h (m ++ s.data.toList)
        rw [← hm']
        exact ⟨rest, hr, htk, hblk⟩
      clear hz hnil hm' hr htk hblk hlen HEQ
      go_wp2
      go_end0
      exact ⟨rfl, HF.out, HG.out⟩
end Go.Proofs.YtafookdllnhdaaaDoor
/- A hasher's Sum, walked. -/
namespace Go.Proofs.YtafookdllnhdaaaDoor
open Go.RowKit Go.Scr
set_option linter.unusedVariables false

theorem info_u8 : (Tryd.prog.info? 5).map (fun i => (i.zero, i.size, i.bytes)) = some (some (.int .u8 0), 1, 1) := by kernel_rfl
theorem info_hasher : (Tryd.prog.info? 127).map (·.size) = some 73 := by kernel_rfl

theorem und_u8 : Tryd.prog.underlying 5 = some (.int .u8) := by kernel_rfl
theorem und_string : Tryd.prog.underlying 9 = some .string := by kernel_rfl
theorem index8 (w : World) (a b c d e f g i k : Nat) (hk : k < 8) :
    (Instr.index 125 (.agg #[.int .u32 (a : Int), .int .u32 (b : Int), .int .u32 (c : Int), .int .u32 (d : Int), .int .u32 (e : Int), .int .u32 (f : Int), .int .u32 (g : Int), .int .u32 (i : Int)]) (.int .i64 (k : Int))).run Tryd.prog w =
      .ok (.int .u32 (([a, b, c, d, e, f, g, i].getD k 0 : Nat) : Int)) w := by
  have i0 : (Instr.index 125 (.agg #[.int .u32 (a : Int), .int .u32 (b : Int), .int .u32 (c : Int), .int .u32 (d : Int), .int .u32 (e : Int), .int .u32 (f : Int), .int .u32 (g : Int), .int .u32 (i : Int)]) (.int .i64 ((0 : Nat) : Int))).run Tryd.prog w = .ok (.int .u32 (a : Int)) w := by kernel_rfl
  have i1 : (Instr.index 125 (.agg #[.int .u32 (a : Int), .int .u32 (b : Int), .int .u32 (c : Int), .int .u32 (d : Int), .int .u32 (e : Int), .int .u32 (f : Int), .int .u32 (g : Int), .int .u32 (i : Int)]) (.int .i64 ((1 : Nat) : Int))).run Tryd.prog w = .ok (.int .u32 (b : Int)) w := by kernel_rfl
  have i2 : (Instr.index 125 (.agg #[.int .u32 (a : Int), .int .u32 (b : Int), .int .u32 (c : Int), .int .u32 (d : Int), .int .u32 (e : Int), .int .u32 (f : Int), .int .u32 (g : Int), .int .u32 (i : Int)]) (.int .i64 ((2 : Nat) : Int))).run Tryd.prog w = .ok (.int .u32 (c : Int)) w := by kernel_rfl
  have i3 : (Instr.index 125 (.agg #[.int .u32 (a : Int), .int .u32 (b : Int), .int .u32 (c : Int), .int .u32 (d : Int), .int .u32 (e : Int), .int .u32 (f : Int), .int .u32 (g : Int), .int .u32 (i : Int)]) (.int .i64 ((3 : Nat) : Int))).run Tryd.prog w = .ok (.int .u32 (d : Int)) w := by kernel_rfl
  have i4 : (Instr.index 125 (.agg #[.int .u32 (a : Int), .int .u32 (b : Int), .int .u32 (c : Int), .int .u32 (d : Int), .int .u32 (e : Int), .int .u32 (f : Int), .int .u32 (g : Int), .int .u32 (i : Int)]) (.int .i64 ((4 : Nat) : Int))).run Tryd.prog w = .ok (.int .u32 (e : Int)) w := by kernel_rfl
  have i5 : (Instr.index 125 (.agg #[.int .u32 (a : Int), .int .u32 (b : Int), .int .u32 (c : Int), .int .u32 (d : Int), .int .u32 (e : Int), .int .u32 (f : Int), .int .u32 (g : Int), .int .u32 (i : Int)]) (.int .i64 ((5 : Nat) : Int))).run Tryd.prog w = .ok (.int .u32 (f : Int)) w := by kernel_rfl
  have i6 : (Instr.index 125 (.agg #[.int .u32 (a : Int), .int .u32 (b : Int), .int .u32 (c : Int), .int .u32 (d : Int), .int .u32 (e : Int), .int .u32 (f : Int), .int .u32 (g : Int), .int .u32 (i : Int)]) (.int .i64 ((6 : Nat) : Int))).run Tryd.prog w = .ok (.int .u32 (g : Int)) w := by kernel_rfl
  have i7 : (Instr.index 125 (.agg #[.int .u32 (a : Int), .int .u32 (b : Int), .int .u32 (c : Int), .int .u32 (d : Int), .int .u32 (e : Int), .int .u32 (f : Int), .int .u32 (g : Int), .int .u32 (i : Int)]) (.int .i64 ((7 : Nat) : Int))).run Tryd.prog w = .ok (.int .u32 (i : Int)) w := by kernel_rfl
  have h : k = 0 ∨ k = 1 ∨ k = 2 ∨ k = 3 ∨ k = 4 ∨ k = 5 ∨ k = 6 ∨ k = 7 := by omega
  rcases h with rfl | rfl | rfl | rfl | rfl | rfl | rfl | rfl
  · exact i0
  · exact i1
  · exact i2
  · exact i3
  · exact i4
  · exact i5
  · exact i6
  · exact i7
theorem be4_cells (x : Nat) : #[Value.int .u8 ((x : Int) / 16777216 % 256), Value.int .u8 ((x : Int) / 65536 % 256), Value.int .u8 ((x : Int) / 256 % 256), Value.int .u8 ((x : Int) % 256)] = (bytesV (be4 x)).toArray := by
  simp only [be4, bytesV, List.map_cons, List.map_nil, ← byte_cell]
  simp
theorem flat_step (S : List Nat) (n : Nat) (h : n < S.length) : (S.take (n + 1)).flatMap be4 = (S.take n).flatMap be4 ++ be4 (S.getD n 0) := by
  rw [List.take_succ_eq_append_getElem h, List.flatMap_append]
  simp [List.getD_eq_getElem?_getD, h]
theorem flat_length (S : List Nat) : (S.flatMap be4).length = 4 * S.length := by
  induction S with
  | nil => rfl
  | cons a S ih => rw [List.flatMap_cons, List.length_append, ih]; simp [be4]; omega
def made32 : Array Value := madeCells #[.int .u8 0] 32
def made128 : Array Value := madeCells #[.int .u8 0] 128
def hzero : Array Value := hcells (List.replicate 8 0) (List.replicate 64 0) 0
theorem zero_hasher (w : World) : (zeroValue 127).run Tryd.prog w = .ok (.agg hzero) w := by kernel_rfl
theorem hzero_size : hzero.size = 73 := rfl

set_option maxRecDepth 100000 in
set_option maxHeartbeats 1000000 in
theorem hsum_any (h : Nat) (m : List UInt8) (w : World) (hm : Hm w h m) (ht : Tabs w) (hl : m.length ≤ 1000000000000000000) :
    Calls Tryd.prog 83 #[.pointer (some ⟨h, 0, none⟩)] w fun e w' => e = .returned (.string ⟨(sha m).toArray⟩) ∧ Below w.heap.size w w' := by
  have HT := Lib.hid ht
  obtain ⟨rest, hr, htk, hblk⟩ := hm
  have hsz : (hcells (absorb m) rest m.length).size = 73 := by simp [hcells, (absorb_St m).1, hr]
  have hlt := blk_lt hblk
  have hall : (hcells (absorb m) rest m.length).all (·.oneCell') = true := by
    rw [Array.all_eq_true_iff_forall_mem]
    intro v hv
    simp only [hcells, List.mem_toArray, List.mem_append, List.mem_map, List.mem_singleton] at hv
    rcases hv with ⟨_, _, rfl⟩ | ⟨_, _, rfl⟩ | rfl <;> rfl
  obtain ⟨L, hL⟩ : ∃ L, L = m.length := ⟨_, rfl⟩
  have cn : w.cell? ⟨h, 72, none⟩ = some (.int .i64 (L : Int)) := by rw [cell_of_row w h 72 _ _ _ hblk, hcells_n (absorb_St m).1 hr, hL]
  have hm : Hm w h m := ⟨rest, hr, htk, hblk⟩
  obtain ⟨cs, hcs⟩ : ∃ cs, cs = hcells (absorb m) rest m.length := ⟨_, rfl⟩
  rw [← hcs] at hsz hall hblk
  have HCS := Lib.hid hcs
  have HM := Lib.hid hm
  have HB := Lib.hid hblk
  have HSZ := Lib.hid hsz
  have HALL := Lib.hid hall
  have HL := Lib.hid hL
  have HR := Lib.hid hr
  have HTK := Lib.hid htk
  clear hm ht hblk hsz hall hcs hr htk hL
  have hB : h < w.heap.size := hlt
  have hz := zero_hasher
  have hmk : ∀ w, (Instr.makeSlice 82 (.int .i64 1) (.int .i64 128)).run Tryd.prog w = .ok (.slice (some ⟨w.heap.size, 0, none⟩) 1 128) (w.alloc (.cells made128 5)) :=
    make_bytes 82 5 Tryd.underlying82 info_u8 1 128 (by omega) (by omega)
  have hmz : made128.size = 128 := size_madeCells _ _
  go_enter Tryd.func83, Tryd.ntmps83
  go_wp2_with (first
    | (refine wpList_load_row rfl 127 (.tmp 10) rfl h rfl 127 cs (0, 0) _ HB.out Tryd.underlying127 rfl (by rw [HSZ.out]; exact info_hasher) ?_)
    | (refine wpList_store_row rfl 127 (.tmp 3) (.tmp 11) rfl w.heap.size cs rfl rfl 127 _ (heap_alloc_new w _) (by rw [HSZ.out]; exact info_hasher) (by rw [HSZ.out]; exact hzero_size) HALL.out ?_
       rw [setRow_alloc]))
  have e128 : made128.setIfInBounds 0 (.int .u8 128) = (bytesV (128 :: List.replicate 127 0)).toArray := by
    unfold made128
    rw [madeCells_bytes, List.setIfInBounds_toArray]
    rfl
  rw [e128]
  obtain ⟨w2, hw2⟩ : ∃ w2, w2 = (w.alloc (.cells cs 127)).alloc (.cells (bytesV (128 :: List.replicate 127 0)).toArray 5) := ⟨_, rfl⟩
  have hm2 : Hm w2 w.heap.size m := by
    refine ⟨rest, HR.out, HTK.out, ?_⟩
    rw [hw2]
    exact blk_alloc (by rw [heap_alloc_new, HCS.out])
  have ho2 : OwnB w2 (w.heap.size + 1) 5 (.slice (some ⟨w.heap.size + 1, 0, none⟩) 1 128) [128] := by
    have := own_made (w.alloc (.cells cs 127)) (w.heap.size + 1) 5 1 128 (128 :: List.replicate 127 0) (by simp) (by simp) (by omega) (by omega)
    rw [hw2]
    simpa using this
  have hb2 : Below w.heap.size w w2 := by
    rw [hw2]
    exact ((Below.refl _ _).alloc (Nat.le_refl _) _).alloc (by simp) _
  rw [← hw2]
  have hs2 : w2.heap.size = w.heap.size + 2 := by rw [hw2]; simp
  obtain ⟨B, hBB⟩ : ∃ B, B = w.heap.size := ⟨_, rfl⟩
  rw [← hBB] at hm2 ho2 hb2 hs2 ⊢
  have HM2 := Lib.hid hm2
  have HO2 := Lib.hid ho2
  have HB2 := Lib.hid hb2
  have HS2 := Lib.hid hs2
  have HBB := Lib.hid hBB
  clear hw2 e128 hz hmk hmz hm2 ho2 hb2 hs2 hBB
  obtain ⟨Z, hZ⟩ : ∃ Z, Z = zer L := ⟨_, rfl⟩
  have hZ64 : Z < 64 := hZ ▸ zer_lt L
  have HZ := Lib.hid hZ
  clear hZ
  go_loopw [4] (fun v wr => ∃ k g c : Nat, k ≤ Z ∧ v = .slice (some ⟨g, 0, none⟩) (k + 1) c ∧ OwnB wr (B + 1) 5 v (128 :: List.replicate k 0) ∧ Below (B + 1) w2 wr) (fun v _ => 64 - (match v with | .slice _ n _ => n | _ => 0))
  case atStart => exact ⟨0, B + 1, 128, Nat.zero_le _, rfl, HO2.out, Below.refl _ _⟩
  case round =>
    obtain ⟨k, g, c, hk, rfl, hown, hbel⟩ := hrel
    have cn' : wr.cell? ⟨h, 72, none⟩ = some (.int .i64 (L : Int)) := by
      rw [hbel.cell (p := ⟨h, 72, none⟩) (by have := HBB.out; show h < B + 1; omega), HB2.out.cell (p := ⟨h, 72, none⟩) (by have := HBB.out; show h < B; omega)]
      exact cn
    have hsz : B + 1 ≤ wr.heap.size := by have := hbel.size; have := HS2.out; omega
    have hLb : L ≤ 1000000000000000000 := by have := HL.out; omega
    by_cases hkz : k < Z
    · have hd := zer_more L k (by rw [← HZ.out]; exact hkz)
      have HOWN := Lib.hid hown
      have HBEL := Lib.hid hbel
      clear hown hbel
      go_wp2_with (at_builtin; refine wpList_appendB rfl _ _ rfl Tryd.underlying82 info_u8 [0] (k + 1 + 1) rfl rfl HOWN.out rfl rfl HBEL.out (Nat.le_refl _) hsz (by simp) (by omega) (by omega) ?_; intro g' c' w' hown' hb' hsz'; have HOWN' := Lib.hid hown'; have HB' := Lib.hid hb'; clear hown' hb')
      go_roundw
      case rel =>
        refine ⟨k + 1, g', c', by omega, rfl, ?_, HB'.out⟩
        rw [List.replicate_succ']
        exact HOWN'.out
      case measure => simp; omega
    · have HK := Lib.hid (show k = Z by omega)
      have hd1 : (L + k + 1) % 64 ≤ 56 := by have := zer_done L; have := HZ.out; have := HK.out; subst_vars; omega
      have hd2 : 56 ≤ (L + k + 1) % 64 := by have := zer_done L; have := HZ.out; have := HK.out; subst_vars; omega
      have HOWN := Lib.hid hown
      have HBEL := Lib.hid hbel
      clear hown hbel
      have hdb : (((L : Int) + ((k : Int) + 1)) % 64 != 56) = false := by simp; omega
      go_wp2_with fail
      obtain ⟨w3, rfl⟩ : ∃ w3 : World, w3 = wr := ⟨_, rfl⟩
      go_loopw [4, 5] (fun v s wr => ∃ j g c : Nat, j ≤ 8 ∧ s = .int .i64 (56 - 8 * (j : Int)) ∧ v = .slice (some ⟨g, 0, none⟩) (k + 1 + j) c ∧ OwnB wr (B + 1) 5 v ((128 :: List.replicate k 0) ++ (be8 (8 * L)).take j) ∧ Below (B + 1) w2 wr) (fun _ s _ => (intOf s + 8).toNat)
      case atStart => exact ⟨0, g, c, by omega, rfl, rfl, by simpa using HOWN.out, HBEL.out⟩
      case round =>
        clear HOWN HBEL hsz
        obtain ⟨j, g, c, hj, rfl, rfl, hown, hbel⟩ := hrel
        have cn'' : wr.cell? ⟨h, 72, none⟩ = some (.int .i64 (L : Int)) := by
          rw [hbel.cell (p := ⟨h, 72, none⟩) (by have := HBB.out; show h < B + 1; omega), HB2.out.cell (p := ⟨h, 72, none⟩) (by have := HBB.out; show h < B; omega)]
          exact cn
        have hsz : B + 1 ≤ wr.heap.size := by have := hbel.size; have := HS2.out; omega
        by_cases h8 : j < 8
        · have HOWN := Lib.hid hown
          have HBEL := Lib.hid hbel
          clear hown hbel cn'
          have hcell : #[Value.int .u8 (8 * (L : Int) / 2 ^ (56 - 8 * j) % 256)] = (bytesV [UInt8.ofNat (8 * L / 2 ^ (56 - 8 * j))]).toArray := by
            simp only [bytesV, List.map_cons, List.map_nil, ← byte_cell]
            simp
          have HCELL := Lib.hid hcell
          clear hcell
          have HLen : Hid (k + 1 + j + 1 = (128 :: List.replicate k 0 ++ (be8 (8 * L)).take j).length + [UInt8.ofNat (8 * L / 2 ^ (56 - 8 * j))].length) := by
            show _ = _
            simp [be8_length]; omega
          go_wp2_with (at_builtin; refine wpList_appendB rfl _ _ rfl Tryd.underlying82 info_u8 [UInt8.ofNat (8 * L / 2 ^ (56 - 8 * j))] (k + 1 + j + 1) rfl rfl HOWN.out HCELL.out rfl HBEL.out (Nat.le_refl _) hsz HLen.out (by omega) (by omega) ?_; intro g' c' w' hown' hb' hsz'; have HOWN' := Lib.hid hown'; have HB' := Lib.hid hb'; clear hown' hb')
          go_roundw
          case rel =>
            refine ⟨j + 1, g', c', by omega, ?_, rfl, ?_, HB'.out⟩
            · congr 1; omega
            · rw [be8_take _ _ h8, ← List.append_assoc]
              exact HOWN'.out
          case measure => simp [intOf]; omega
        · have hj8 : j = 8 := by omega
          have hneg : 56 - 8 * (j : Int) < 0 := by omega
          have hdec : decide (8 * (j : Int) ≤ 56) = false := by simp; omega
          have hfl : 128 :: List.replicate k 0 ++ (be8 (8 * L)).take j = filling m.length := by
            unfold filling
            rw [← HL.out, HK.out, HZ.out, hj8, List.take_of_length_le (Nat.le_of_eq (be8_length _))]
          rw [hfl] at hown
          have hcv := own_string (P := Tryd.prog) Tryd.underlying82 und_u8 und_string hown
          have hbw : Below B w wr := HB2.out.trans (hbel.mono (by omega))
          have hm5 : Hm wr B m := HM2.out.below hbel (by omega)
          have ht5 : Tabs wr := HT.out.below (by rw [← HBB.out]; exact hbw)
          have hBt := HT.out.lt
          have hBB := HBB.out
          have HM5 := Lib.hid hm5
          have HT5 := Lib.hid ht5
          have HBW := Lib.hid hbw
          have HFL := Lib.hid (show (filling m.length).length < 100 by rw [filling_length]; have := zer_lt m.length; omega)
          clear hown hbel hfl hj8 cn' cn'' hbw hm5 ht5
          have hne1 : B ≠ 3 := by omega
          have hne0 : B ≠ 2 := by omega
          clear hBt hBB
          go_wp2_with fail
          refine (write_any B m _ wr HM5.out HT5.out (by have := HFL.out; have := HL.out; show m.length + (filling m.length).toArray.size ≤ _; rw [List.size_toArray]; omega) hne1 hne0).mono ?_
          rintro e w5 ⟨rfl, hm6, hg6⟩
          have hb6 : Below B w w5 := below_only HBW.out hg6 (by omega) (Nat.le_refl _)
          have hst := absorb_St (m ++ filling m.length)
          have hcell := fun j hj => hm6.st j hj
          obtain ⟨s0, s1, s2, s3, s4, s5, s6, s7, hst8, l1, l2, l3, l4, l5, l6, l7, l8⟩ := hst.open_
          rw [hst8] at hcell
          have c0 := hcell 0 (by omega)
          have c1 := hcell 1 (by omega)
          have c2 := hcell 2 (by omega)
          have c3 := hcell 3 (by omega)
          have c4 := hcell 4 (by omega)
          have c5 := hcell 5 (by omega)
          have c6 := hcell 6 (by omega)
          have c7 := hcell 7 (by omega)
          simp only [List.getD_cons_zero, List.getD_cons_succ] at c0 c1 c2 c3 c4 c5 c6 c7
          have hlt6 := hm6.lt
          have HB6 := Lib.hid hb6
          have HST8 := Lib.hid hst8
          clear hcell hst hst8 hm6 hg6 hb6 hcv
          have hmk : ∀ w, (Instr.makeSlice 82 (.int .i64 0) (.int .i64 32)).run Tryd.prog w = .ok (.slice (some ⟨w.heap.size, 0, none⟩) 0 32) (w.alloc (.cells made32 5)) :=
            make_bytes 82 5 Tryd.underlying82 info_u8 0 32 (by omega) (by omega)
          go_wp2_with fail
          have ho0 : OwnB (w5.alloc (.cells made32 5)) (B + 1) 5 (.slice (some ⟨w5.heap.size, 0, none⟩) 0 32) [] := by
            have := own_made w5 (B + 1) 5 0 32 (List.replicate 32 0) (by simp) (by omega) (by omega) (by omega)
            unfold made32
            rw [madeCells_bytes]
            simpa using this
          have hb0 : Below B w (w5.alloc (.cells made32 5)) := HB6.out.alloc (by omega) _
          have hsz0 : B + 1 ≤ (w5.alloc (.cells made32 5)).heap.size := by simp; omega
          have hout := w5.heap.size
          obtain ⟨g9, hg9⟩ : ∃ g9, g9 = w5.heap.size := ⟨_, rfl⟩
          rw [← hg9] at ho0 ⊢
          generalize w5.alloc (.cells made32 5) = w6 at ho0 hb0 hsz0 ⊢
          have HO0 := Lib.hid ho0
          have HB0 := Lib.hid hb0
          clear ho0 hb0 hg9 hmk c0 c1 c2 c3 c4 c5 c6 c7
          go_loopw [6, 48] (fun v s wr => ∃ n g c : Nat, n ≤ 8 ∧ s = .int .i64 n ∧ v = .slice (some ⟨g, 0, none⟩) (4 * n) c ∧ OwnB wr (B + 1) 5 v (([s0, s1, s2, s3, s4, s5, s6, s7].take n).flatMap be4) ∧ Below B w wr ∧ B + 1 ≤ wr.heap.size) (fun _ s _ => 8 - (intOf s).toNat)
          case atStart => exact ⟨0, g9, 32, by omega, rfl, rfl, by simpa using HO0.out, HB0.out, hsz0⟩
          case round =>
            clear HO0 HB0 hsz hsz0
            obtain ⟨n, g, c, hn, rfl, rfl, hown, hbel, hsz⟩ := hrel
            have HOWN := Lib.hid hown
            have HBEL := Lib.hid hbel
            clear hown hbel
            by_cases hn8 : n < 8
            · have hix := fun w => index8 w s0 s1 s2 s3 s4 s5 s6 s7 n hn8
              obtain ⟨x, hx⟩ : ∃ x, x = [s0, s1, s2, s3, s4, s5, s6, s7].getD n 0 := ⟨_, rfl⟩
              rw [← hx] at hix
              have HX := Lib.hid hx
              clear hx
              have HC := Lib.hid (be4_cells x)
              have HLen : Hid (4 * n + 4 = (([s0, s1, s2, s3, s4, s5, s6, s7].take n).flatMap be4).length + (be4 x).length) := by
                show _ = _
                rw [flat_length]; simp [be4]; omega
              go_wp2_with (at_builtin; refine wpList_appendB rfl _ _ rfl Tryd.underlying82 info_u8 (be4 x) (4 * n + 4) rfl rfl HOWN.out HC.out rfl HBEL.out (Nat.le_of_lt (Nat.lt_succ_of_le (by have := HBB.out; omega))) hsz HLen.out (by omega) (by omega) ?_; intro g' c' w' hown' hb' hsz'; have HOWN' := Lib.hid hown'; have HB' := Lib.hid hb'; clear hown' hb')
              go_roundw
              case rel =>
                refine ⟨n + 1, g', c', by omega, by go_num, by congr 1, ?_, HB'.out, by omega⟩
                rw [flat_step _ _ (by simpa using hn8), ← HX.out]
                exact HOWN'.out
              case measure => simp [intOf]; omega
            · have hn8' : n = 8 := by omega
              have hown := HOWN.out
              rw [show [s0, s1, s2, s3, s4, s5, s6, s7].take n = [s0, s1, s2, s3, s4, s5, s6, s7] from by rw [hn8']; rfl] at hown
              have hcv := own_string (P := Tryd.prog) Tryd.underlying82 und_u8 und_string hown
              have HFIN : Hid ([s0, s1, s2, s3, s4, s5, s6, s7].flatMap be4 = sha m) := by
                show _ = _
                unfold sha
                rw [HST8.out]
              rw [HFIN.out] at hcv
              clear hown hn8' HOWN
              go_wp2
              go_ret
              exact ⟨rfl, by rw [← HBB.out]; exact HBEL.out⟩
end Go.Proofs.YtafookdllnhdaaaDoor
