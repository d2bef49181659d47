/- WinternitzDigits, walked. -/
import Derived.Test.YtmkeifhfjhknjaaDoorWs0
import Derived.Deep.CutBlock
namespace Go.Proofs.YtmkeifhfjhknjaaDoor
open Go.RowKit Go.Scr
set_option linter.unusedVariables false

def dgs (s : ByteArray) : List Int := (digs (dig s)).map fun n => ((n : Nat) : Int)
theorem dgs_numV (s : ByteArray) : (dgs s).map (Value.int .i64) = numV (digs (dig s)) := by
  unfold dgs numV
  rw [List.map_map]
  rfl
theorem dgs_length (s : ByteArray) : (dgs s).length = 67 := by unfold dgs; rw [List.length_map]; exact digs_length _ (dig_length s)
theorem dgs_range (s : ByteArray) : ∀ z ∈ dgs s, 0 ≤ z ∧ z ≤ 16 := by
  intro z hz
  obtain ⟨n, hn, rfl⟩ := List.mem_map.mp hz
  have := digs_lt (dig_length s) n hn
  omega
theorem int_oneW (z : Int) : ∀ u ∈ [Value.int .i64 z], u.oneCell' = true := by
  intro u hu; simp only [List.mem_singleton] at hu; rw [hu]; rfl
theorem slice_oneW (p : Option Addr) (n c : Nat) : ∀ u ∈ [Value.slice p n c], u.oneCell' = true := by
  intro u hu; simp only [List.mem_singleton] at hu; rw [hu]; rfl
theorem own_atW {w : World} {B T sz n : Nat} {v : Value} {l : List Value} (h : w.ownsRow B T sz v n l) : ∀ g, v.ownBlock = some g → B ≤ g ∧ g < w.heap.size := fun g hg => by
  refine ⟨?_, (held_of_owns h).lt hg⟩
  rcases h.2 with ⟨rfl, _⟩ | ⟨g', cap, cur, rfl, hB, _⟩
  · cases hg
  · cases hg; exact hB
theorem set_sameW {α : Type} {l : List α} {i : Nat} {x : α} (h : l[i]? = some x) : l.set i x = l := by
  apply List.ext_getElem?
  intro j
  rw [List.getElem?_set]
  by_cases hij : i = j
  · subst hij
    rw [if_pos rfl, if_pos (List.getElem?_eq_some_iff.mp h).1, h]
  · rw [if_neg hij]
theorem rep_setW {α : Type} {s : α} {pl : List α} {k : Nat} (hk : k < pl.length) : (List.replicate k s ++ pl.drop k).set k s = List.replicate (k + 1) s ++ pl.drop (k + 1) := by
  rw [List.set_append_right _ _ (by simp), List.length_replicate, Nat.sub_self, List.drop_eq_getElem_cons hk, List.set_cons_zero, List.replicate_succ', List.append_assoc]
  rfl
theorem rep_lenW {α : Type} {s : α} {pl : List α} {k : Nat} (hk : k ≤ pl.length) : (List.replicate k s ++ pl.drop k).length = pl.length := by
  rw [List.length_append, List.length_replicate, List.length_drop]; omega
theorem ds_set {ls : List (Value × List Int)} {i : Nat} {pv : Value} (h : DS ls i) (hil : i < ls.length) : DS (ls.set i (pv, List.replicate 67 (-1 - (i : Int)))) (i + 1) := by
  intro j p hp
  rw [List.getElem?_set] at hp
  by_cases hij : i = j
  · subst hij
    rw [if_pos rfl, if_pos hil] at hp
    cases hp
    exact ⟨by simp, fun _ => rfl⟩
  · rw [if_neg hij] at hp
    exact ⟨(h j p hp).1, fun hj => (h j p hp).2 (by omega)⟩
/-- the first lists came out -/
def L1 (A : List ByteArray) (ls : List (Value × List Int)) : Prop := ∀ (j : Nat) (p : Value × List Int), ls[j]? = some p → ∃ s, A[j]? = some s ∧ p.2 = dgs s
/-- what was grown -/
def GC (gr : List (Value × Nat)) : Prop := ∀ (j : Nat) (p : Value × Nat), gr[j]? = some p → p.2 = j / 40 ∧ ∃ q n c, p.1 = Value.slice q n c ∧ n ≤ 107
theorem rep_marks (n i : Nat) : (List.replicate n (-1 - (i : Int))).map (Value.int .i64) = marks (mkI i) n := by
  unfold marks mkI
  rw [List.map_replicate]
  induction n with
  | zero => rfl
  | succ n ih => rw [List.replicate_succ, List.replicate_succ, List.flatten_cons, ← ih]; rfl
theorem gc_snoc {gr : List (Value × Nat)} (h : GC gr) {px : Option Addr} {n cx i : Nat} (hi : gr.length / 40 = i) (hn : n ≤ 107) : GC (gr ++ [(.slice px n cx, i)]) := by
  intro j p hp
  by_cases hj : j < gr.length
  · rw [List.getElem?_append_left hj] at hp; exact h j p hp
  · rw [List.getElem?_append_right (by omega)] at hp
    obtain ⟨hj2, rfl⟩ := List.getElem?_eq_some_iff.mp hp
    have hji : j = gr.length := by simp at hj2; omega
    subst hji
    exact ⟨by simp [hi], px, n, cx, by simp, hn⟩

set_option maxRecDepth 100000 in
set_option maxHeartbeats 4000000 in
theorem wdigs_law (s0 s1 : ByteArray) (w : World) (ht : Tabs w) (hl0 : s0.size ≤ 140737488355199) (hl1 : s1.size ≤ 140737488355199) :
    Calls Tryd.prog 3 #[.string s0, .string s1] w fun e w' => e = .returned (.bool true) ∧ Below w.heap.size w w' := by
  have HT := Lib.hid ht
  have CK := Lib.hid (wknown_any w ht)
  obtain ⟨A, hA⟩ : ∃ A : List ByteArray, A = [s0, s0, s1, s0] := ⟨_, rfl⟩
  have HAL : Hid (A.length = 4) := Lib.hid (by rw [hA]; rfl)
  have HAB : Hid (∀ s ∈ A, s.size ≤ 140737488355199) := Lib.hid (by
    intro s hs
    rw [hA] at hs
    simp only [List.mem_cons, List.not_mem_nil, or_false] at hs
    rcases hs with rfl | rfl | rfl | rfl <;> assumption)
  have HA := Lib.hid hA
  clear ht hA hl0 hl1
  go_enter Tryd.func3, Tryd.ntmps3
  go_upto_region 3 with (go_at_call 5; with_reducible refine (CK.out).mono ?_; rintro r w1 ⟨rfl, hb⟩; have HB1 := Lib.hid hb; clear hb CK)
  obtain ⟨ga, hga⟩ : ∃ x, x = w1.heap.size := ⟨_, rfl⟩
  have hrow : SRowW (w1.alloc (.cells #[.string s0, .string s0, .string s1, .string s0] 9)) ga A := by
    rw [HA.out, hga]
    exact heap_alloc_new w1 _
  have hb2 : Below w.heap.size w (w1.alloc (.cells #[.string s0, .string s0, .string s1, .string s0] 9)) := HB1.out.alloc HB1.out.size _
  rw [← hga]
  generalize w1.alloc (.cells #[.string s0, .string s0, .string s1, .string s0] 9) = w2 at hrow hb2 ⊢
  have HWS := Lib.hid (WS.begin w2 hrow)
  have HB2 := Lib.hid hb2
  clear hrow hb2 hga HB1 HA
  go_wp2_with fail
  go_loopw [7, 8] (fun x q wr => ∃ (i : Nat) (pl : Option Addr) (cl : Nat), i ≤ 4 ∧ q = .int .i64 i ∧ x = .slice pl i cl ∧ Hid (∃ col ls, WS ga A w2 wr col (.slice pl i cl) (.slice none 0 0) ls [] ∧ ls.length = i ∧ L1 A ls)) (fun _ q _ => 4 - (intOf q).toNat)
  case atStart => exact ⟨0, none, 0, by omega, rfl, rfl, Lib.hid ⟨_, [], HWS.out, rfl, fun j p h => by simp at h⟩⟩
  case round =>
    clear HWS
    obtain ⟨i, pl, cl, hi, rfl, rfl, hinv⟩ := hrel
    obtain ⟨col, ls, hws, hll, hl1⟩ := hinv.out
    have HW := Lib.hid hws
    have HLL := Lib.hid hll
    have HL1 := Lib.hid hl1
    clear hinv hws hll hl1
    by_cases hlt : i < 4
    · have hlti : (i : Int) < 4 := by omega
      have hi0 : (0 : Int) ≤ (i : Int) := by omega
      obtain ⟨s, hs⟩ : ∃ s, A[i]? = some s := ⟨A[i]'(by have := HAL.out; omega), List.getElem?_eq_getElem _⟩
      have hcs := HW.out.ask.cell hs
      have CD := Lib.hid (wdigits_any s wr (HT.out.below (below_from HB2.out HW.out.bl HB2.out.size)) (HAB.out s (List.mem_of_getElem? hs)))
      have HS := Lib.hid hs
      have hb1 : (i + 1) * 24 ≤ 140737488355328 := by omega
      have hb2 : i + 1 ≤ 140737488355328 := by omega
      clear hs
      go_wp2_with (first
        | (go_at_call 6; with_reducible refine (CD.out).mono ?_; rintro r w3 ⟨g, c, rfl, hown, hb⟩; have HOW := Lib.hid hown; have HX := Lib.hid ((HW.out.dye hb (.slice (some ⟨g, 0, none⟩) 67 c) (8 + i) (own_atW hown)).1); clear hown hb)
        | (at_builtin; refine wpList_grew (v := .slice pl i cl) (l := ls.map (·.1)) rfl _ _ rfl Tryd.underlying24 (.slice none 0 0) 1 info_ints rfl (by decide) [Value.slice (some ⟨g, 0, none⟩) 67 c] 1 (by simp [Act.eval]) (by simp [Act.eval]) (by rw [← HLL.out]; have h := HX.out.lr; rw [HLL.out] at h ⊢; exact h) rfl rfl (by decide) (slice_oneW _ _ _) hb1 hb2 ?_; intro v4 w4 hg4; obtain ⟨p4, c4, rfl, _⟩ := hg4.held.cells; have HG4 := Lib.hid hg4; clear hg4))
      have hfin := (HX.out.below ((Below.refl _ w3).alloc (Nat.le_refl _) (.cells #[.slice (some ⟨g, 0, none⟩) 67 c] 25))).addL (v := .slice (some ⟨g, 0, none⟩) 67 c) (L := dgs s) (n := i) HLL.out.symm (by rw [dgs_length, dgs_numV]; exact (held_of_owns HOW.out).below ((Below.refl _ w3).alloc (Nat.le_refl _) _)) (by rw [dgs_length]; decide) (fun g' hg' => dyeV_at hg') HG4.out
      exact ⟨⟨i + 1, p4, c4, by omega, rfl, rfl, Lib.hid ⟨_, _, hfin, by rw [List.length_append, HLL.out]; rfl, fun j p hp => (by
        by_cases hj : j < ls.length
        · rw [List.getElem?_append_left hj] at hp; exact HL1.out j p hp
        · rw [List.getElem?_append_right (by omega)] at hp
          obtain ⟨hj2, rfl⟩ := List.getElem?_eq_some_iff.mp hp
          have hji : j = i := by have := HLL.out; simp at hj2; omega
          obtain rfl : j = i := hji
          exact ⟨s, HS.out, by simp⟩)⟩⟩, (by show 4 - ((i : Int) + 1).toNat < 4 - (i : Int).toNat; omega)⟩
    · have hlti : ¬ ((i : Int) < 4) := by omega
      have hie : i = 4 := by omega
      subst hie
      obtain ⟨w5, rfl⟩ : ∃ x, x = wr := ⟨_, rfl⟩
      clear hlt
      go_upto_block 2 with fail
      go_cut [9, 10, 11] from 40 to 76 (fun _ _ _ wx => Hid (WS ga A w2 wx col (.slice pl 4 cl) (.slice none 0 0) ls []))
      case first =>
        go_wp2_with fail
        go_loopw [9, 10, 11] (fun q _ _ wr => ∃ i : Nat, i ≤ 4 ∧ q = .int .i64 i ∧ Hid (WS ga A w2 wr col (.slice pl 4 cl) (.slice none 0 0) ls [])) (fun q _ _ _ => 4 - (intOf q).toNat)
        case atStart => exact ⟨0, by omega, rfl, Lib.hid HW.out⟩
        case round =>
          obtain ⟨i, hi, rfl, hinv⟩ := hrel
          have HV := Lib.hid hinv.out
          clear hinv
          by_cases hlt : i < 4
          · have hlti : (i : Int) < 4 := by omega
            have hi0 : (0 : Int) ≤ (i : Int) := by omega
            obtain ⟨s, hs⟩ : ∃ s, A[i]? = some s := ⟨A[i]'(by have := HAL.out; omega), List.getElem?_eq_getElem _⟩
            have hcs := HV.out.ask.cell hs
            obtain ⟨⟨pv, pD⟩, hp⟩ : ∃ p, ls[i]? = some p := ⟨ls[i]'(by have := HLL.out; omega), List.getElem?_eq_getElem _⟩
            obtain ⟨s', hs', hD⟩ := HL1.out i _ hp
            have hss : s' = s := by rw [hs] at hs'; cases hs'; rfl
            have hD : pD = dgs s := by rw [← hss]; exact hD
            obtain ⟨p', c', he, hle, hr⟩ := HV.out.row
            simp only [Value.slice.injEq] at he
            obtain ⟨rfl, hx4, rfl⟩ := he
            clear hx4
            obtain ⟨⟨a, rfl, ha⟩, hh⟩ := hr i _ hp
            have ha : wr.cell? (a.add i) = some pv := ha
            have h67 : pD.length = 67 := by rw [hD, dgs_length]
            have h2 : Held wr 3 1 pv pD.length (pD.map (Value.int .i64)) := hh
            rw [h67, hD] at h2
            clear hh h67
            have hh : Held wr 3 1 pv 67 ((dgs s).map (Value.int .i64)) := h2
            clear h2
            obtain ⟨q', cq, rfl, _⟩ := hh.cells
            have HH := Lib.hid hh
            have CD := Lib.hid (rdigits_any s wr (HAB.out s (List.mem_of_getElem? hs)))
            have HS := Lib.hid hs
            have HLT := Lib.hid hlt
            clear hs hs' hss hD hr hh hp hle hlt
            go_upto_region 12 with (go_at_call 7; with_reducible refine (CD.out).mono ?_; rintro r w3 ⟨g, c, rfl, hown, hb⟩; have HOW := Lib.hid hown; have HB3 := Lib.hid hb; clear hown hb)
            have hcs3 := (HB3.out.cell (block_lt_of_cell ha)).trans ha
            have HH3 := Lib.hid (HH.out.below HB3.out)
            have HV3 := Lib.hid (HV.out.below HB3.out)
            clear ha hcs
            go_wp2_with fail
            go_loopw [11] (fun q wr => ∃ n : Nat, n ≤ 67 ∧ q = .int .i64 n ∧ Hid (Below w3.heap.size w3 wr)) (fun q _ => 67 - (intOf q).toNat)
            case atStart => exact ⟨0, by omega, rfl, Lib.hid (Below.refl _ _)⟩
            case round =>
              obtain ⟨n, hn, rfl, hinv⟩ := hrel
              have HB4 := Lib.hid hinv.out
              clear hinv
              by_cases hn67 : n < 67
              · have hni : (n : Int) < 67 := by omega
                have hn0 : (0 : Int) ≤ (n : Int) := by omega
                obtain ⟨z, hz⟩ : ∃ z, (dgs s)[n]? = some z := ⟨(dgs s)[n]'(by rw [dgs_length]; exact hn67), List.getElem?_eq_getElem _⟩
                have hzr := dgs_range s z (List.mem_of_getElem? hz)
                have hcr := (HB4.out.cell (block_lt_of_cell hcs3)).trans hcs3
                obtain ⟨q2, cq2, hq2, _, _, hcells⟩ := (HH3.out.below HB4.out).cells
                simp only [Value.slice.injEq] at hq2
                obtain ⟨rfl, hx6, rfl⟩ := hq2
                clear hx6
                obtain ⟨a2, rfl, _, hca⟩ := hcells n (.int .i64 z) (by rw [List.getElem?_map, hz]; rfl)
                have hcw0 : w3.cell? ⟨g, n, none⟩ = some (.int .i64 z) := by
                  rw [owns_cell HOW.out hn67, ← dgs_numV, List.getElem?_map, hz]
                  rfl
                have hcw := (HB4.out.cell (block_lt_of_cell hcw0)).trans hcw0
                have hzz : (z != z) = false := by simp
                clear hz hcells hcw0
                go_upto_region 17 with fail
                go_quiet (fail)
                have HB5 : Hid (Below w3.heap.size w3 (wr.drewN nq)) := Lib.hid (below_drewN HB4.out nq)
                generalize wr.drewN nq = wx at HB5 ⊢
                clear hcw hca hcr
                go_wp2_with fail
                exact ⟨⟨n + 1, by omega, rfl, Lib.hid HB5.out⟩, (by show 67 - ((n : Int) + 1).toNat < 67 - (n : Int).toNat; omega)⟩
              · have hni : ¬ ((n : Int) < 67) := by omega
                clear hn67
                have HV6 := Lib.hid (HV3.out.below HB4.out)
                go_wp2_with fail
                exact ⟨⟨i + 1, by have := HLT.out; omega, rfl, Lib.hid HV6.out⟩, (by show 4 - ((i : Int) + 1).toNat < 4 - (i : Int).toNat; have := HLT.out; omega)⟩
          · have hlti : ¬ ((i : Int) < 4) := by omega
            clear hlt
            go_wp2_with fail
            go_meet
            exact Lib.hid HV.out
      case rest =>
        have HW2 := Lib.hid hcut.out
        have HDS : Hid (DS ls 0) := Lib.hid (fun j p hp => by
          obtain ⟨s, _, hD⟩ := HL1.out j p hp
          exact ⟨by rw [hD, dgs_length], fun h => by omega⟩)
        obtain ⟨w6, rfl⟩ : ∃ x, x = wc := ⟨_, rfl⟩
        clear hcut HW
        go_upto_block 6 with fail
        go_cut [12, 13] from 77 to 99 (fun _ _ wx => Hid (∃ l2, WS ga A w2 wx col (.slice pl 4 cl) (.slice none 0 0) l2 [] ∧ l2.length = 4 ∧ DS l2 4))
        case first =>
          go_wp2_with fail
          go_loopw [12, 13] (fun q _ wr => ∃ i : Nat, i ≤ 4 ∧ q = .int .i64 i ∧ Hid (∃ l2, WS ga A w2 wr col (.slice pl 4 cl) (.slice none 0 0) l2 [] ∧ l2.length = 4 ∧ DS l2 i)) (fun q _ _ => 4 - (intOf q).toNat)
          case atStart => exact ⟨0, by omega, rfl, Lib.hid ⟨ls, HW2.out, HLL.out, HDS.out⟩⟩
          case round =>
            obtain ⟨i, hi, rfl, hinv⟩ := hrel
            obtain ⟨l2, hv1, hv2, hv3⟩ := hinv.out
            have HV := Lib.hid hv1
            have HV2 := Lib.hid hv2
            have HV3 := Lib.hid hv3
            clear hinv hv1 hv2 hv3
            by_cases hlt : i < 4
            · have hlti : (i : Int) < 4 := by omega
              have hi0 : (0 : Int) ≤ (i : Int) := by omega
              obtain ⟨⟨pv, pD⟩, hp⟩ : ∃ p, l2[i]? = some p := ⟨l2[i]'(by have := HV2.out; omega), List.getElem?_eq_getElem _⟩
              have h67 : pD.length = 67 := (HV3.out i _ hp).1
              obtain ⟨mk, hmk⟩ : ∃ z : Int, z = -1 - (i : Int) := ⟨_, rfl⟩
              have hmk2 := hmk.symm
              have hmr : -5 ≤ mk ∧ mk ≤ -1 := by omega
              have HP := Lib.hid hp
              have HLT := Lib.hid hlt
              have H67 := Lib.hid h67
              have HMK := Lib.hid hmk
              clear hp hlt h67 hmk
              obtain ⟨w8, rfl⟩ : ∃ x, x = wr := ⟨_, rfl⟩
              go_wp2_with fail
              go_loopw [13] (fun q wr => ∃ k : Nat, k ≤ 67 ∧ q = .int .i64 k ∧ Hid (WS ga A w2 wr col (.slice pl 4 cl) (.slice none 0 0) (l2.set i (pv, List.replicate k mk ++ pD.drop k)) [])) (fun q _ => 67 - (intOf q).toNat)
              case atStart => exact ⟨0, by omega, rfl, Lib.hid (by rw [List.replicate_zero, List.nil_append, List.drop_zero, set_sameW HP.out]; exact HV.out)⟩
              case round =>
                obtain ⟨k, hk, rfl, hinv⟩ := hrel
                obtain ⟨l3, hl3⟩ : ∃ x, x = l2.set i (pv, List.replicate k mk ++ pD.drop k) := ⟨_, rfl⟩
                have hv := hinv.out
                rw [← hl3] at hv
                have HV4 := Lib.hid hv
                have HL3 := Lib.hid hl3
                have hp3 : l3[i]? = some (pv, List.replicate k mk ++ pD.drop k) := by rw [hl3, List.getElem?_set_self (by have := HV2.out; have := HLT.out; omega)]
                have hl3l : l3.length = 4 := by rw [hl3, List.length_set]; exact HV2.out
                obtain ⟨p', c', he, hle, hr⟩ := hv.row
                simp only [Value.slice.injEq] at he
                obtain ⟨rfl, hx4, rfl⟩ := he
                obtain ⟨⟨a, rfl, ha⟩, hh⟩ := hr i _ hp3
                have ha : wr.cell? (a.add i) = some pv := ha
                have kl : (List.replicate k mk ++ pD.drop k).length = 67 := by rw [rep_lenW (by have := H67.out; omega)]; exact H67.out
                have hh : Held wr 3 1 pv 67 ((List.replicate k mk ++ pD.drop k).map (Value.int .i64)) := by rw [← kl]; exact hh
                obtain ⟨g, cap, cur, rfl, hgb, hcap, hcur, _⟩ := hh.block (by omega)
                have HP3 := Lib.hid hp3
                clear hinv hv hl3 hr hp3 hl3l hx4 hle kl
                have hlti9 := HLT.out
                by_cases hk67 : k < 67
                · have hki : (k : Int) < 67 := by omega
                  have hk0 : (0 : Int) ≤ (k : Int) := by omega
                  have hcell : ∃ u, wr.cell? ⟨g, k, none⟩ = some u := ⟨cur[k]'(by omega), by rw [cell_of_row wr g k _ _ _ hgb]; exact Array.getElem?_eq_getElem _⟩
                  obtain ⟨uu, hcell⟩ := hcell
                  have hfz := frozen_of_row wr g k _ _ hgb
                  have HEQ : Hid (l3.set i (.slice (some ⟨g, 0, none⟩) 67 cap, (List.replicate k mk ++ pD.drop k).set k mk) = l2.set i (.slice (some ⟨g, 0, none⟩) 67 cap, List.replicate (k + 1) mk ++ pD.drop (k + 1))) := Lib.hid (by
                    rw [HL3.out, List.set_set, rep_setW (by have := H67.out; omega)])
                  have HSET := Lib.hid (HV4.out.mark HP3.out (g := g) rfl k mk)
                  clear hgb hh hcur hcap
                  go_wp2_with fail
                  exact ⟨⟨k + 1, by omega, rfl, Lib.hid (by rw [← HEQ.out]; exact HSET.out)⟩, (by show 67 - ((k : Int) + 1).toNat < 67 - (k : Int).toNat; omega)⟩
                · have hki : ¬ ((k : Int) < 67) := by omega
                  have hk67' : k = 67 := by omega
                  have HEQ : Hid (l3 = l2.set i (.slice (some ⟨g, 0, none⟩) 67 cap, List.replicate 67 (-1 - (i : Int)))) := Lib.hid (by
                    rw [HL3.out, hk67', List.drop_eq_nil_of_le (by have := H67.out; omega), List.append_nil, HMK.out])
                  clear hk67 hk67' hgb hh hcur hcap
                  go_wp2_with fail
                  exact ⟨⟨i + 1, by omega, rfl, Lib.hid ⟨l3, HV4.out, by rw [HEQ.out, List.length_set]; exact HV2.out, by rw [HEQ.out]; exact ds_set HV3.out (by have := HV2.out; omega)⟩⟩, (by show 4 - ((i : Int) + 1).toNat < 4 - (i : Int).toNat; omega)⟩
            · have hlti : ¬ ((i : Int) < 4) := by omega
              have hie : i = 4 := by omega
              subst hie
              clear hlt
              go_wp2_with fail
              go_meet
              exact Lib.hid ⟨l2, HV.out, HV2.out, HV3.out⟩
        case rest =>
          obtain ⟨l2, hv1, hv2, hv3⟩ := hcut.out
          have HV := Lib.hid hv1
          have HV2 := Lib.hid hv2
          have HV3 := Lib.hid hv3
          obtain ⟨w7, rfl⟩ : ∃ x, x = wc := ⟨_, rfl⟩
          clear hcut hv1 hv2 hv3 HW2 HDS HL1 HLL
          go_upto_block 10 with fail
          go_cut [14, 15, 16, 17] from 100 to 122 (fun all _ _ _ wx => ∃ (pa : Option Addr) (ca : Nat), all = .slice pa 160 ca ∧ Hid (∃ col gr, WS ga A w2 wx col (.slice pl 4 cl) (.slice pa 160 ca) l2 gr ∧ gr.length = 160 ∧ GC gr))
          case first =>
            go_wp2_with fail
            go_loopw [14, 15, 16, 17] (fun all q _ _ wr => ∃ (i : Nat) (pa : Option Addr) (ca : Nat), i ≤ 4 ∧ q = .int .i64 i ∧ all = .slice pa (40 * i) ca ∧ Hid (∃ col gr, WS ga A w2 wr col (.slice pl 4 cl) (.slice pa (40 * i) ca) l2 gr ∧ gr.length = 40 * i ∧ GC gr)) (fun _ q _ _ _ => 4 - (intOf q).toNat)
            case atStart => exact ⟨0, none, 0, by omega, rfl, rfl, Lib.hid ⟨_, [], HV.out, rfl, fun j p h => by simp at h⟩⟩
            case round =>
              obtain ⟨i, pa, ca, hi, rfl, rfl, hinv⟩ := hrel
              obtain ⟨co2, gr, hw1, hw2, hw3⟩ := hinv.out
              have HU := Lib.hid hw1
              have HU2 := Lib.hid hw2
              have HU3 := Lib.hid hw3
              clear hinv hw1 hw2 hw3
              by_cases hlt : i < 4
              · have hlti : (i : Int) < 4 := by omega
                have hi0 : (0 : Int) ≤ (i : Int) := by omega
                obtain ⟨⟨pv, pD⟩, hp⟩ : ∃ p, l2[i]? = some p := ⟨l2[i]'(by have := HV2.out; omega), List.getElem?_eq_getElem _⟩
                have hdd : pD = List.replicate 67 (-1 - (i : Int)) := (HV3.out i _ hp).2 hlt
                obtain ⟨b1, b2, b3⟩ := HU.out.li i _ hp
                have h6 : Held wr 3 1 pv pD.length (pD.map (Value.int .i64)) := b1
                rw [hdd, List.length_replicate, rep_marks] at h6
                obtain ⟨p', c', he, hle, hr⟩ := HU.out.row
                simp only [Value.slice.injEq] at he
                obtain ⟨rfl, hx4, rfl⟩ := he
                obtain ⟨⟨a, rfl, ha0⟩, hq0⟩ := hr i _ hp
                have ha : wr.cell? (a.add i) = some pv := ha0
                clear hq0 ha0
                obtain ⟨px, cx, rfl, hq1, hq2, hq3⟩ := h6.cells
                clear hq1 hq2 hq3
                have HX0 : Hid (Held wr 3 1 (.slice px 67 cx) 67 (marks (mkI i) 67)) := Lib.hid h6
                have HC0 : Hid (∀ g, (Value.slice px 67 cx).ownBlock = some g → co2 g = 8 + i) := Lib.hid b3
                obtain ⟨mk, hmk⟩ : ∃ z : Int, z = -1 - (i : Int) := ⟨_, rfl⟩
                have hmk2 := hmk.symm
                have hmr : -5 ≤ mk ∧ mk ≤ -1 := by omega
                have HMK : Hid (mkI i = [Value.int .i64 mk]) := Lib.hid (by rw [hmk]; rfl)
                have HLT := Lib.hid hlt
                clear hp hlt hdd b1 b2 b3 h6 hx4 hle hr hmk
                obtain ⟨w8, rfl⟩ : ∃ x, x = wr := ⟨_, rfl⟩
                go_wp2_with fail
                go_loopw [14, 16, 17] (fun all x q wr => ∃ (k : Nat) (pa : Option Addr) (ca : Nat) (px : Option Addr) (cx : Nat), k ≤ 40 ∧ q = .int .i64 k ∧ all = .slice pa (40 * i + k) ca ∧ x = .slice px (67 + k) cx ∧ Hid (∃ col gr, WS ga A w2 wr col (.slice (some a) 4 cl) (.slice pa (40 * i + k) ca) l2 gr ∧ gr.length = 40 * i + k ∧ GC gr ∧ Held wr 3 1 (.slice px (67 + k) cx) (67 + k) (marks (mkI i) (67 + k)) ∧ ∀ g, (Value.slice px (67 + k) cx).ownBlock = some g → col g = 8 + i)) (fun _ _ q _ => 40 - (intOf q).toNat)
                case atStart => exact ⟨0, pa, ca, px, cx, by omega, rfl, rfl, rfl, Lib.hid ⟨co2, gr, HU.out, HU2.out, HU3.out, HX0.out, HC0.out⟩⟩
                case round =>
                  clear HU HU2 HU3 HX0 HC0 ha
                  obtain ⟨k, pa, ca, px, cx, hk, rfl, rfl, rfl, hinv⟩ := hrel
                  obtain ⟨co2, gr, hw1, hw2, hw3, hw4, hw5⟩ := hinv.out
                  have HU := Lib.hid hw1
                  have HU2 := Lib.hid hw2
                  have HU3 := Lib.hid hw3
                  have HX0 := Lib.hid hw4
                  have HC0 := Lib.hid hw5
                  clear hinv hw1 hw2 hw3 hw4 hw5
                  by_cases hk40 : k < 40
                  · have hki : (k : Int) < 40 := by omega
                    have hk0 : (0 : Int) ≤ (k : Int) := by omega
                    have hb1 : (40 * i + k + 1) * 24 ≤ 140737488355328 := by omega
                    have hb2 : 40 * i + k + 1 ≤ 140737488355328 := by omega
                    have hb3 : (67 + k + 1) * 8 ≤ 140737488355328 := by omega
                    have hb4 : 67 + k + 1 ≤ 140737488355328 := by omega
                    go_wp2_with (first
                      | (at_builtin; refine wpList_grew (v := .slice pa (40 * i + k) ca) (l := gr.map (·.1)) rfl _ _ rfl Tryd.underlying24 (.slice none 0 0) 1 info_ints rfl (by decide) [Value.slice px (67 + k) cx] 1 (by simp [Act.eval]) (by simp [Act.eval]) (by rw [← HU2.out]; have h := HU.out.ar; rw [HU2.out] at h ⊢; exact h) rfl rfl (by decide) (slice_oneW _ _ _) hb1 hb2 ?_; intro v4 w4 hg4; obtain ⟨p4, c4, rfl, _⟩ := hg4.held.cells; have HZ := Lib.hid ((HU.out.below ((Below.refl _ wr).alloc (Nat.le_refl _) _)).addA HU2.out.symm (HX0.out.below ((Below.refl _ wr).alloc (Nat.le_refl _) _)) HC0.out hg4); clear hg4)
                      | (at_builtin; refine wpList_grew (v := .slice px (67 + k) cx) (l := marks (mkI i) (67 + k)) rfl _ _ rfl Tryd.underlying25 (.int .i64 0) 1 info_intw rfl (by decide) [Value.int .i64 mk] 1 (by simp [Act.eval]) (by simp [Act.eval]) HZ.out.2.1 rfl rfl (by decide) (int_oneW _) hb3 hb4 ?_; intro v5 w5 hg5; obtain ⟨p5, c5, rfl, _⟩ := hg5.held.cells; have HG5 := Lib.hid hg5; clear hg5))
                    obtain ⟨z1, z2, z3⟩ := HZ.out
                    have hg6 := HG5.out
                    rw [← HMK.out] at hg6
                    obtain ⟨y1, y2, y3⟩ := (z1.below ((Below.refl _ w4).alloc (Nat.le_refl _) (.cells (mkI i).toArray 3))).grow (by rw [HV2.out]; exact HV3.out) z3 hg6
                    exact ⟨⟨k + 1, p4, c4, p5, c5, by omega, rfl, rfl, rfl, Lib.hid ⟨_, _, y1, by rw [List.length_append, HU2.out]; rfl, gc_snoc HU3.out (by rw [HU2.out]; omega) (by omega), y2, y3⟩⟩, (by show 40 - ((k : Int) + 1).toNat < 40 - (k : Int).toNat; omega)⟩
                  · have hki : ¬ ((k : Int) < 40) := by omega
                    have HK : Hid (k = 40) := Lib.hid (by omega)
                    clear hk40 hk
                    go_wp2_with fail
                    exact ⟨⟨i + 1, pa, ca, by have := HLT.out; omega, rfl, (by rw [HK.out]; rfl), Lib.hid ⟨co2, gr, (by have h := HU.out; rw [HK.out] at h; exact h), (by rw [HU2.out, HK.out]; rfl), HU3.out⟩⟩, (by show 4 - ((i : Int) + 1).toNat < 4 - (i : Int).toNat; have := HLT.out; omega)⟩
              · have hlti : ¬ ((i : Int) < 4) := by omega
                have hie : i = 4 := by omega
                subst hie
                clear hlt
                go_wp2_with fail
                go_meet
                exact ⟨pa, ca, rfl, Lib.hid ⟨co2, gr, HU.out, HU2.out, HU3.out⟩⟩
          case rest =>
            obtain ⟨pa, ca, rfl, hinv⟩ := hcut
            obtain ⟨co2, gr, hw1, hw2, hw3⟩ := hinv.out
            have HU := Lib.hid hw1
            have HU2 := Lib.hid hw2
            have HU3 := Lib.hid hw3
            obtain ⟨w9, rfl⟩ : ∃ x, x = wc := ⟨_, rfl⟩
            clear hinv hw1 hw2 hw3 HV HV2 HV3
            go_upto_block 14 with fail
            go_wp2_with fail
            go_loop [18, 19] (fun q _ => ∃ i : Nat, i ≤ 160 ∧ q = .int .i64 i) (fun q _ => 160 - (intOf q).toNat)
            case atStart => exact ⟨0, by omega, rfl⟩
            case round =>
              obtain ⟨i, hi, rfl⟩ := hrel
              by_cases hlt : i < 160
              · have hlti : (i : Int) < 160 := by omega
                have hi0 : (0 : Int) ≤ (i : Int) := by omega
                obtain ⟨⟨xv, xc⟩, hp⟩ : ∃ p, gr[i]? = some p := ⟨gr[i]'(by have := HU2.out; omega), List.getElem?_eq_getElem _⟩
                obtain ⟨hc40, q, n, cx, hxv, hn⟩ := HU3.out i _ hp
                have hc41 : xc = i / 40 := hc40
                have hxw : xv = .slice q n cx := hxv
                clear hc40 hxv
                subst hxw
                obtain ⟨p', c', he, hle, hr⟩ := HU.out.all
                simp only [Value.slice.injEq] at he
                obtain ⟨rfl, hx4, rfl⟩ := he
                obtain ⟨⟨a, rfl, ha⟩, hfull⟩ := hr i _ hp
                have ha : w9.cell? (a.add i) = some (.slice q n cx) := ha
                obtain ⟨n', hheld⟩ := full_held (M := mkI xc) hfull
                obtain ⟨q2, c2, he2, hn2, hn3, hcells⟩ := hheld.cells
                simp only [Value.slice.injEq] at he2
                obtain ⟨rfl, rfl, rfl⟩ := he2
                obtain ⟨mk, hmk⟩ : ∃ z : Int, z = -1 - (xc : Int) := ⟨_, rfl⟩
                have hquo : (i : Int).tdiv 40 = (xc : Int) := by rw [hc41]; rfl
                have hmk2 := hmk.symm
                have hxr : (xc : Int) ≤ 3 := by omega
                have hxr0 : (0 : Int) ≤ (xc : Int) := by omega
                have HC : Hid (∀ j, j < n → ∃ a, q = some a ∧ w9.cell? (a.add j) = some (.int .i64 mk)) := Lib.hid fun j hj => by
                  obtain ⟨b, b1, b2, b3⟩ := hcells j (.int .i64 mk) (by
                    rw [marks_get _ _ _ (by show j < n * 1; omega), hmk]
                    show [Value.int .i64 (-1 - (xc : Int))][j % 1]? = _
                    rw [Nat.mod_one]; rfl)
                  exact ⟨b, b1, b3⟩
                have HLT := Lib.hid hlt
                clear hp hc41 hle hr hx4 hfull hheld hn2 hn3 hcells hmk hlt
                go_wp2_with fail
                go_loop [19] (fun q => ∃ k : Nat, k ≤ n ∧ q = .int .i64 k) (fun q => n - (intOf q).toNat)
                case atStart => exact ⟨0, by omega, rfl⟩
                case round =>
                  obtain ⟨k, hk, rfl⟩ := hrel
                  by_cases hkn : k < n
                  · have hki : (k : Int) < (n : Int) := by omega
                    have hk0 : (0 : Int) ≤ (k : Int) := by omega
                    obtain ⟨b, rfl, hb⟩ := HC.out k hkn
                    have hzz : (mk != mk) = false := by simp
                    go_wp2_with fail
                    go_round
                    case rel => exact ⟨k + 1, by omega, rfl⟩
                    case measure => show n - ((k : Int) + 1).toNat < n - (k : Int).toNat; omega
                  · have hki : ¬ ((k : Int) < (n : Int)) := by omega
                    go_wp2_with fail
                    go_round
                    case rel => exact ⟨i + 1, by have := HLT.out; omega, rfl⟩
                    case measure => show 160 - ((i : Int) + 1).toNat < 160 - (i : Int).toNat; have := HLT.out; omega
              · have hlti : ¬ ((i : Int) < 160) := by omega
                go_wp2_with fail
                go_ret
                exact ⟨rfl, below_from HB2.out HU.out.bl HB2.out.size⟩
end Go.Proofs.YtmkeifhfjhknjaaDoor
