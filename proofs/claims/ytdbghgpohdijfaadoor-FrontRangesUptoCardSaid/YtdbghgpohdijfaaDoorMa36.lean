/- Law 5: FrontGoesOn, walked. -/
import Derived.Test.YtdbghgpohdijfaaDoorMa35
import Derived.Deep.CutBlock
namespace Go.Proofs.YtdbghgpohdijfaaDoor
open Go.RowKit Go.Scr Go.ChangeMaps Go.MapKept
set_option linter.unusedVariables false
theorem ints_belowF {w w' : World} {B : Nat} {v : Value} {L : List Int} (h : Ints w v L) (hb : Below B w w') (hB : w.heap.size ≤ B) : Ints w' v L := by
  obtain ⟨p, c, h1, h2, h3, h4, h5⟩ := h
  exact ⟨p, c, h1, h2, h3, h4, fun j x hx => by
    obtain ⟨a, ha, hc⟩ := h5 j x hx
    exact ⟨a, ha, (hb.cell (Nat.lt_of_lt_of_le (block_lt_of_cell hc) hB)).trans hc⟩⟩
theorem held_txtsF {w : World} {T n : Nat} {v : Value} {L : List ByteArray} (h : Held w T 1 v n (L.map Value.string)) (hl : L.length ≤ 4194304) : Txts w v L := by
  have hn : n = L.length := by have := h.1; simpa using this.symm
  obtain ⟨p, c, rfl, h1, _, h2⟩ := h.cells
  refine ⟨p, c, by rw [hn], by omega, by omega, fun j s hs => ?_⟩
  obtain ⟨a, ha, _, hc⟩ := h2 j (.string s) (by rw [List.getElem?_map, hs]; rfl)
  exact ⟨a, ha, hc⟩
theorem partL_allF (L : List ByteArray) : partL L 0 L.length = rootR L := by unfold partL; simp
theorem root_there {L : List ByteArray} (hz : ∀ s ∈ L, s.size = 32) (hn : L.length ≤ 4096) : refusedE L = 0 ∧ rootT L = rootR L := by
  have hre : refusedE L = 0 := by unfold refusedE; rw [if_neg (by omega), if_neg (by rw [show ok32 L = true by unfold ok32; rw [List.all_eq_true]; intro s hs; simpa using hz s hs]; decide)]
  exact ⟨hre, by unfold rootT; rw [if_pos hre]⟩
theorem lf_cat {wr z5 : World} {v5 : Value} {i : Nat} {L : List ByteArray} (hh : Held z5 9 1 v5 (0 + i) ([] ++ L.map Value.string)) (hg : (wr.alloc (.cells #[] 9)).grownBy z5 (Value.slice (some ⟨wr.heap.size, 0, none⟩) 0 0).ownBlock)
    (ho : v5.ownBlock = (Value.slice (some ⟨wr.heap.size, 0, none⟩) 0 0).ownBlock ∨ v5.ownBlock = some (wr.alloc (.cells #[] 9)).heap.size) : LfI wr z5 v5 i L := by
  refine ⟨((Below.refl wr.heap.size wr).alloc (Nat.le_refl _) _).grown hg (by simp) (fun k hk => by have := Option.some.inj (show some wr.heap.size = some k from hk); omega), ?_, fun q hq => ?_⟩
  · rwa [List.nil_append, Nat.zero_add] at hh
  · rcases ho with h | h
    · rw [h] at hq
      have := Option.some.inj (show some wr.heap.size = some q from hq)
      omega
    · rw [h] at hq
      have := Option.some.inj hq
      simp at this
      omega
set_option maxRecDepth 100000 in
set_option maxHeartbeats 8000000 in
theorem frontgoeson_any {W : World} {s2 : Int} {v0 v1 : Value} {Z Y : List Int} (hB : Bas W W.heap.size) (hz : Ints W v0 Z) (hy : Ints W v1 Y) :
    Calls Tryd.prog 8 #[v0, v1, .int .i64 s2] W fun o w' => o = .returned (.bool true) ∧ Below W.heap.size W w' := by
  have CK := Lib.hid (known5_any hB)
  obtain ⟨n, hn⟩ : ∃ n, n = min 150 Z.length := ⟨_, rfl⟩
  obtain ⟨m, hm⟩ : ∃ m, m = min 100 Y.length := ⟨_, rfl⟩
  obtain ⟨L, hL⟩ : ∃ L, L = numT Z n := ⟨_, rfl⟩
  obtain ⟨M, hM⟩ : ∃ M, M = numT Y m := ⟨_, rfl⟩
  have HL : Hid (L.length = n ∧ ∀ s ∈ L, s.size = 32) := Lib.hid ⟨by rw [hL, numT_len]; omega, fun s hs => numT_32 (by rw [← hL]; exact hs)⟩
  have HM : Hid (M.length = m ∧ ∀ s ∈ M, s.size = 32) := Lib.hid ⟨by rw [hM, numT_len]; omega, fun s hs => numT_32 (by rw [← hM]; exact hs)⟩
  have C1 : Hid (∀ w, Below W.heap.size W w → Calls Tryd.prog 42 #[v0, .int .i64 150] w fun o w' => ∃ u, o = .returned u ∧ LfI w w' u n L) := Lib.hid (fun w hb => by
    have := numbered_any (mx := 150) (ints_belowF hz hb (Nat.le_refl _)) (by decide)
    rw [← hn, ← hL] at this
    exact this)
  have C2 : Hid (∀ w, Below W.heap.size W w → Calls Tryd.prog 42 #[v1, .int .i64 100] w fun o w' => ∃ u, o = .returned u ∧ LfI w w' u m M) := Lib.hid (fun w hb => by
    have := numbered_any (mx := 100) (ints_belowF hy hb (Nat.le_refl _)) (by decide)
    rw [← hm, ← hM] at this
    exact this)
  have hn1 : n ≤ 150 := by omega
  have hm1 : m ≤ 100 := by omega
  have HB := Lib.hid hB
  obtain ⟨s, hs⟩ : ∃ s, s = leafSU s2 := ⟨_, rfl⟩
  have HS : Hid (s.size = 32) := Lib.hid (by rw [hs]; exact leafSU_size s2)
  have CL : Hid (∀ w3, Calls Tryd.prog 48 #[.int .i64 s2] w3 fun e w' => e = .returned (.string s) ∧ Below w3.heap.size w3 w') := Lib.hid (fun w3 => by rw [hs]; exact leafU_any s2 w3)
  clear hB hz hy hn hm hL hM hs
  go_enter Tryd.func8, Tryd.ntmps8
  go_upto_region 5 with (first
    | (go_at_call 21; with_reducible refine CK.out.mono ?_; rintro o w0 ⟨rfl, h⟩; have HW0 := Lib.hid h; clear h)
    | (go_at_call 42; with_reducible refine (C1.out _ HW0.out).mono ?_; rintro o w1 ⟨u1, rfl, h⟩; obtain ⟨pl, cl, rfl, _⟩ := h.h.cells; have HL1 := Lib.hid h; have HW1 : Hid (Below W.heap.size W w1) := Lib.hid (HW0.out.trans (h.b.mono HW0.out.size)); clear h)
    | (go_at_call 42; with_reducible refine (C2.out _ HW1.out).mono ?_; rintro o w2 ⟨u2, rfl, h⟩; obtain ⟨pm, cm, rfl, _⟩ := h.h.cells; have HL2 := Lib.hid (HL1.out.below h.b); have HM2 := Lib.hid h; have HW2 : Hid (Below W.heap.size W w2) := Lib.hid (HW1.out.trans (h.b.mono HW1.out.size)); clear h)
    | (go_at_call 43; with_reducible refine (fnew_any (Below.refl _ w2)).mono ?_; rintro o w3 ⟨eb, rfl, h⟩; have HE3 := Lib.hid h; clear h))
  have HB2 : Hid (Bas w2 w2.heap.size) := Lib.hid (by
    have hb := HB.out.below HW2.out
    exact ⟨hb.tabs, hb.tz, ⟨Nat.lt_of_lt_of_le hb.lt.1 hb.le, Nat.lt_of_lt_of_le hb.lt.2.1 hb.le, Nat.lt_of_lt_of_le hb.lt.2.2 hb.le⟩, Nat.le_refl _⟩)
  have HTL : Hid (∀ w, Below w2.heap.size w2 w → Txts w (.slice pl n cl) L ∧ Txts w (.slice pm m cm) M) := Lib.hid (fun w hb => ⟨held_txtsF (HL2.out.below hb).h (by have := HL.out; omega), held_txtsF (HM2.out.below hb).h (by have := HM.out; omega)⟩)
  have HI0 : Hid (EdU w2 w3 eb (L.take 0)) := Lib.hid (by rw [List.take_zero]; exact HE3.out)
  clear CK C1 C2 HE3
  go_wp2_with fail
  go_loopw [11] (fun k wr => ∃ i : Nat, k = .int .i64 (i : Int) ∧ i ≤ n ∧ Hid (EdU w2 wr eb (L.take i))) (fun k _ => n - (intOf k).toNat)
  case atStart => exact ⟨0, rfl, Nat.zero_le _, HI0⟩
  case round =>
    clear HI0
    obtain ⟨i, rfl, hi, HI⟩ := hrel
    by_cases hlt : i < n
    · have hli : (i : Int) < (n : Int) := by omega
      have hi0 : (0 : Int) ≤ (i : Int) := by omega
      obtain ⟨x, hx⟩ : ∃ x, L[i]? = some x := ⟨L[i]'(by have := HL.out; omega), List.getElem?_eq_getElem _⟩
      obtain ⟨a, rfl, hac⟩ := txts_cellF (HTL.out w2 (Below.refl _ _)).1 hx
      have hcell := hac wr HI.out.b
      have CA : Hid (Calls Tryd.prog 44 #[.pointer (some ⟨eb, 0, none⟩), .string x] wr fun o w' => o = .returned (.int .i64 0) ∧ EdU w2 w' eb (L.take (i + 1))) := Lib.hid (by
        rw [show L.take (i + 1) = L.take i ++ [x] by rw [List.take_add_one, hx]; rfl]
        exact HI.out.add HB2.out (HL.out.2 x (List.mem_of_getElem? hx)) (by rw [List.length_take]; omega))
      have HLT := Lib.hid hlt
      clear hlt hx hac
      go_wp2_with (go_at_call 44; with_reducible refine CA.out.mono ?_; rintro o w4 ⟨rfl, h⟩; have H4 := Lib.hid h; clear h)
      exact ⟨⟨i + 1, by simp, HLT.out, H4⟩, by show n - ((i : Int) + 1).toNat < n - (i : Int).toNat; have := HLT.out; omega⟩
    · obtain rfl : i = n := by omega
      have hli : ¬ (i : Int) < (i : Int) := by omega
      have HE : Hid (EdU w2 wr eb L) := Lib.hid (by have := HI.out; rwa [List.take_of_length_le (by have := HL.out.1; omega)] at this)
      have HLl := HL.out.1
      obtain ⟨K, hK⟩ : ∃ K, K = nodesA (valF L 0) 0 L.length := ⟨_, rfl⟩
      have hKl : K.length ≤ 4096 := by rw [hK]; have := nodesA_le L; omega
      have CSz : Hid (∀ w', Below wr.heap.size wr w' → Calls Tryd.prog 46 #[.pointer (some ⟨eb, 0, none⟩)] w' fun o x => o = .returned (.int .i64 (i : Int)) ∧ x = w') := Lib.hid (fun w' hb => by
        have := fsize_any (HE.out.below hb)
        rwa [HLl] at this)
      have CNo : Hid (∀ w', Below wr.heap.size wr w' → Calls Tryd.prog 24 #[rowP eb] w' fun o x => ∃ v, o = .returned v ∧ Txts x v K ∧ Below w'.heap.size w' x) := Lib.hid (fun w' hb => (fnodes_any (HE.out.below hb)).mono (by
        rintro o x ⟨v, rfl, h⟩
        exact ⟨v, rfl, by rw [hK]; exact held_txtsF h.h (by rw [← hK]; omega), h.b⟩))
      have CLo : Hid (∀ w' v, Below wr.heap.size wr w' → Txts w' v K → Calls Tryd.prog 45 #[.int .i64 (i : Int), v] w' fun o x => ∃ gb, o = .returned (.tuple #[.pointer (some ⟨gb, 0, none⟩), .int .i64 0]) ∧ EdU w' x gb L) := Lib.hid (fun w' v hb hv => by
        have := fload_any (B := w2.heap.size) (HB2.out.below (HE.out.below hb).b) (by omega) HL.out.2 (by rw [← hK]; exact hv)
        rwa [HLl] at this)
      have HBA : Hid (Below wr.heap.size wr wr.drew) := Lib.hid (Below.refl _ _).drew
      clear hlt hi HI hK hKl HLl
      go_upto_region 13 with fail
      go_cut [13, 14] from 49 to 58 (fun x y wx => ∃ gb, x = .pointer (some ⟨gb, 0, none⟩) ∧ y = .int .i64 0 ∧ Hid (∃ wN, EdU w2 wN eb L ∧ EdU wN wx gb L))
      case first =>
        go_region_law (first
          | (go_simp; go_at_call 46; first
            | (with_reducible refine (CSz.out _ HB5.out).mono ?_; rintro o x ⟨rfl, hx⟩; replace hx := hx.symm; subst hx)
            | (with_reducible refine (CSz.out _ HBA.out).mono ?_; rintro o x ⟨rfl, hx⟩; rw [hx]; clear hx x))
          | (go_simp; go_at_call 24; with_reducible refine (CNo.out _ HBA.out).mono ?_; rintro o w5 ⟨v5, rfl, ht, hb⟩; have HT5 := Lib.hid ht; have HB5 : Hid (Below wr.heap.size wr w5) := Lib.hid (HBA.out.trans (hb.mono HBA.out.size)); clear ht hb)
          | (go_simp; go_at_call 45; with_reducible refine (CLo.out _ _ HB5.out HT5.out).mono ?_; rintro o w6 ⟨gb, rfl, h⟩; have H6 := Lib.hid h; clear h)
          | fail)
        all_goals
          go_wp2_with fail
          go_meet
          exact ⟨gb, rfl, rfl, Lib.hid ⟨w5, HE.out.below HB5.out, H6.out⟩⟩
      case rest =>
        obtain ⟨gb, rfl, rfl, HG⟩ := hcut
        have CCl : Hid (Calls Tryd.prog 47 #[.pointer (some ⟨eb, 0, none⟩)] wc fun o w' => ∃ cb, o = .returned (.pointer (some ⟨cb, 0, none⟩)) ∧ E3 w2 w' eb L gb L cb L) := Lib.hid (by
          obtain ⟨wN, h1, h2⟩ := HG.out
          refine (fclone_any (h1.below h2.b)).mono ?_
          rintro o w' ⟨cb, rfl, h3⟩
          exact ⟨cb, rfl, E3.make h1 h2 h3⟩)
        obtain ⟨ro, hro⟩ : ∃ s, s = partL L 0 L.length := ⟨_, rfl⟩
        have CRe : Hid (∀ w' c Lc, E3 w2 w' eb L gb L c Lc → Calls Tryd.prog 27 #[rowP eb] w' fun o x => o = .returned (.string ro) ∧ Below w'.heap.size w' x) := Lib.hid (fun w' c Lc h => by rw [hro]; exact h.fst.root (HB2.out.below h.b).tabs)
        have CRg : Hid (∀ w' c Lc, E3 w2 w' eb L gb L c Lc → Calls Tryd.prog 27 #[rowP gb] w' fun o x => o = .returned (.string ro) ∧ Below w'.heap.size w' x) := Lib.hid (fun w' c Lc h => by rw [hro]; exact h.turn.fst.root (HB2.out.below h.b).tabs)
        have CAc : Hid (∀ w' c, E3 w2 w' eb L gb L c L → Calls Tryd.prog 44 #[.pointer (some ⟨c, 0, none⟩), .string s] w' fun o x => o = .returned (.int .i64 0) ∧ E3 w2 x eb L gb L c (L ++ [s])) := Lib.hid (fun w' c h => (h.turn.turn.add HB2.out HS.out (by have := HL.out.1; omega)).mono (by
          rintro o x ⟨rfl, h2⟩
          exact ⟨rfl, h2.turn⟩))
        obtain ⟨n1, hn1'⟩ : ∃ x, x = i + 1 := ⟨_, rfl⟩
        have hn1I : (i : Int) + 1 = (n1 : Int) := by omega
        have CSc : Hid (∀ w' c Le Lg, E3 w2 w' eb Le gb Lg c (L ++ [s]) → Calls Tryd.prog 46 #[.pointer (some ⟨c, 0, none⟩)] w' fun o x => o = .returned (.int .i64 (n1 : Int)) ∧ x = w') := Lib.hid (fun w' c Le Lg h => by
          have := fsize_any h.turn.turn.fst
          rwa [show (L ++ [s]).length = n1 by rw [List.length_append, HL.out.1, hn1']; rfl] at this)
        clear CSz CNo CLo hro hn1'
        go_upto_region 21 with (first
          | (go_at_call 47; with_reducible refine CCl.out.mono ?_; rintro o x1 ⟨cb, rfl, h⟩; have H1 := Lib.hid h; clear h)
          | (go_at_call 27; with_reducible refine (CRe.out _ _ _ H1.out).mono ?_; rintro o x2 ⟨rfl, h⟩; have H2 := Lib.hid (H1.out.below h); clear h)
          | (go_at_call 48; with_reducible refine (CL.out _).mono ?_; rintro o x3 ⟨rfl, h⟩; have H3 := Lib.hid (H2.out.below h); clear h)
          | (go_at_call 44; with_reducible refine (CAc.out _ _ H3.out).mono ?_; rintro o x4 ⟨rfl, h⟩; have H4 := Lib.hid h; clear h)
          | (go_at_call 27; with_reducible refine (CRe.out _ _ _ H4.out).mono ?_; rintro o x5 ⟨rfl, h⟩; have H5 := Lib.hid (H4.out.below h); clear h)
          | (go_at_call 27; with_reducible refine (CRg.out _ _ _ H5.out).mono ?_; rintro o x6 ⟨rfl, h⟩; have H6 := Lib.hid (H5.out.below h); clear h)
          | (go_at_call 46; with_reducible refine (CSc.out _ _ _ _ H6.out).mono ?_; rintro o x ⟨rfl, hx⟩; replace hx := hx.symm; subst hx))
        have HJ0 : Hid (E3 w2 x6 eb (L ++ M.take 0) gb (L ++ M.take 0) cb (L ++ [s])) := Lib.hid (by rw [List.take_zero, List.append_nil]; exact H6.out)
        clear CCl CRe CRg CAc H1 H2 H3 H4 H5 H6 HG
        go_wp2_with fail
        go_loopw [17] (fun k wr => ∃ j : Nat, k = .int .i64 (j : Int) ∧ j ≤ m ∧ Hid (E3 w2 wr eb (L ++ M.take j) gb (L ++ M.take j) cb (L ++ [s]))) (fun k _ => m - (intOf k).toNat)
        case atStart => exact ⟨0, rfl, Nat.zero_le _, HJ0⟩
        case round =>
          clear HJ0
          obtain ⟨j, rfl, hj, HJ⟩ := hrel
          by_cases hlt : j < m
          · have hji : (j : Int) < (m : Int) := by omega
            have hj0 : (0 : Int) ≤ (j : Int) := by omega
            obtain ⟨x, hx⟩ : ∃ x, M[j]? = some x := ⟨M[j]'(by have := HM.out; omega), List.getElem?_eq_getElem _⟩
            obtain ⟨a, rfl, hac⟩ := txts_cellF (HTL.out w2 (Below.refl _ _)).2 hx
            have HAC := Lib.hid hac
            have hcell := hac _ HJ.out.b
            obtain ⟨N, hN⟩ : ∃ N, N = L ++ M.take (j + 1) := ⟨_, rfl⟩
            have hNN : N = L ++ M.take j ++ [x] := by rw [hN, List.take_add_one, hx, List.append_assoc]; rfl
            have hx32 := HM.out.2 x (List.mem_of_getElem? hx)
            have hlj : (L ++ M.take j).length ≤ 300 := by rw [List.length_append, List.length_take]; have := HL.out.1; omega
            have HN : Hid (N = L ++ M.take (j + 1) ∧ N.length ≤ 400) := Lib.hid ⟨hN, by rw [hNN, List.length_append]; show _ + 1 ≤ 400; omega⟩
            have CAe : Hid (∀ w', E3 w2 w' eb (L ++ M.take j) gb (L ++ M.take j) cb (L ++ [s]) → Calls Tryd.prog 44 #[.pointer (some ⟨eb, 0, none⟩), .string x] w' fun o z => o = .returned (.int .i64 0) ∧ E3 w2 z eb N gb (L ++ M.take j) cb (L ++ [s])) := Lib.hid (fun w' h => by rw [hNN]; exact h.add HB2.out hx32 (by omega))
            have CAg : Hid (∀ w', E3 w2 w' eb N gb (L ++ M.take j) cb (L ++ [s]) → Calls Tryd.prog 44 #[.pointer (some ⟨gb, 0, none⟩), .string x] w' fun o z => o = .returned (.int .i64 0) ∧ E3 w2 z eb N gb N cb (L ++ [s])) := Lib.hid (fun w' h => (h.turn.add HB2.out hx32 (by omega)).mono (by
              rintro o z ⟨rfl, h2⟩
              rw [← hNN] at h2
              exact ⟨rfl, h2.turn.turn⟩))
            have HLT := Lib.hid hlt
            clear hlt hx hac hN hNN hx32 hlj
            go_upto_region 25 with (go_at_call 44; with_reducible refine (CAe.out _ HJ.out).mono ?_; rintro o y1 ⟨rfl, h⟩; have H1 := Lib.hid h; clear h hcell)
            have hcell := HAC.out _ H1.out.b
            go_upto_region 26 with (go_at_call 44; with_reducible refine (CAg.out _ H1.out).mono ?_; rintro o y2 ⟨rfl, h⟩; have H2 := Lib.hid h; clear h hcell)
            obtain ⟨K, hK⟩ : ∃ K, K = nodesA (valF N 0) 0 N.length := ⟨_, rfl⟩
            have hKl : K.length ≤ 4096 := by rw [hK]; have := nodesA_le N; have := HN.out.2; omega
            have CNe : Hid (∀ w', Below y2.heap.size y2 w' → Calls Tryd.prog 24 #[rowP eb] w' fun o z => ∃ v, o = .returned v ∧ Txts z v K ∧ Below w'.heap.size w' z) := Lib.hid (fun w' hb => (fnodes_any (H2.out.below hb).fst).mono (by
              rintro o z ⟨v, rfl, h⟩
              exact ⟨v, rfl, by rw [hK]; exact held_txtsF h.h (by rw [← hK]; omega), h.b⟩))
            have CNg : Hid (∀ w', Below y2.heap.size y2 w' → Calls Tryd.prog 24 #[rowP gb] w' fun o z => ∃ v, o = .returned v ∧ Txts z v K ∧ Below w'.heap.size w' z) := Lib.hid (fun w' hb => (fnodes_any (H2.out.below hb).turn.fst).mono (by
              rintro o z ⟨v, rfl, h⟩
              exact ⟨v, rfl, by rw [hK]; exact held_txtsF h.h (by rw [← hK]; omega), h.b⟩))
            have CSM : Hid (∀ w' u v, Txts w' u K → Txts w' v K → Calls Tryd.prog 25 #[u, v] w' fun o z => o = .returned (.bool true) ∧ Below w'.heap.size w' z) := Lib.hid (fun w' u v hu hv => by
              have h1 := sameW_any u v K K w' hu hv (by omega) (by omega)
              rwa [show decide (K = K) = true from decide_eq_true rfl] at h1)
            have HBA : Hid (Below y2.heap.size y2 y2.drew) := Lib.hid (Below.refl _ _).drew
            clear CAe CAg H1 hK hKl
            go_cut [20] from 119 to 127 (fun x wx => x = .bool true ∧ Hid (Below y2.heap.size y2 wx))
            case first =>
              go_region_law (first
                | (go_simp; go_at_call 24; first
                  | (with_reducible refine (CNe.out _ HXg.out).mono ?_; rintro o xe ⟨ve, rfl, ht, hb⟩; have HTe := Lib.hid ht; have HTg2 := Lib.hid (HTg.out.below hb (Nat.le_refl _)); have HXe : Hid (Below y2.heap.size y2 xe) := Lib.hid (HXg.out.trans (hb.mono HXg.out.size)); clear ht hb)
                  | (with_reducible refine (CNg.out _ HXe.out).mono ?_; rintro o xg ⟨vg, rfl, ht, hb⟩; have HTg := Lib.hid ht; have HTe2 := Lib.hid (HTe.out.below hb (Nat.le_refl _)); have HXg : Hid (Below y2.heap.size y2 xg) := Lib.hid (HXe.out.trans (hb.mono HXe.out.size)); clear ht hb)
                  | (with_reducible refine (CNe.out _ HBA.out).mono ?_; rintro o xe ⟨ve, rfl, ht, hb⟩; have HTe := Lib.hid ht; have HXe : Hid (Below y2.heap.size y2 xe) := Lib.hid (HBA.out.trans (hb.mono HBA.out.size)); clear ht hb)
                  | (with_reducible refine (CNg.out _ HBA.out).mono ?_; rintro o xg ⟨vg, rfl, ht, hb⟩; have HTg := Lib.hid ht; have HXg : Hid (Below y2.heap.size y2 xg) := Lib.hid (HBA.out.trans (hb.mono HBA.out.size)); clear ht hb))
                | (go_simp; go_at_call 25; first
                  | (with_reducible refine (CSM.out _ _ _ HTe2.out HTg.out).mono ?_; rintro o z ⟨rfl, hb⟩; have HZ : Hid (Below y2.heap.size y2 z) := Lib.hid (HXg.out.trans (hb.mono HXg.out.size)); clear hb)
                  | (with_reducible refine (CSM.out _ _ _ HTe.out HTg2.out).mono ?_; rintro o z ⟨rfl, hb⟩; have HZ : Hid (Below y2.heap.size y2 z) := Lib.hid (HXe.out.trans (hb.mono HXe.out.size)); clear hb))
                | fail)
              all_goals
                go_wp2_with fail
                go_meet
                exact ⟨rfl, HZ⟩
            case rest =>
              obtain ⟨rfl, HZ⟩ := hcut
              have H3 : Hid (E3 w2 wc eb N gb N cb (L ++ [s])) := Lib.hid (H2.out.below HZ.out)
              obtain ⟨re, hre⟩ : ∃ s, s = partL N 0 N.length := ⟨_, rfl⟩
              obtain ⟨nn, hnn⟩ : ∃ n, n = N.length := ⟨_, rfl⟩
              have CRe : Hid (∀ w', Below wc.heap.size wc w' → Calls Tryd.prog 27 #[rowP eb] w' fun o z => o = .returned (.string re) ∧ Below w'.heap.size w' z) := Lib.hid (fun w' hb => by rw [hre]; exact (H3.out.below hb).fst.root (HB2.out.below (H3.out.below hb).b).tabs)
              have CRg : Hid (∀ w', Below wc.heap.size wc w' → Calls Tryd.prog 27 #[rowP gb] w' fun o z => o = .returned (.string re) ∧ Below w'.heap.size w' z) := Lib.hid (fun w' hb => by rw [hre]; exact (H3.out.below hb).turn.fst.root (HB2.out.below (H3.out.below hb).b).tabs)
              have CSe : Hid (∀ w', Below wc.heap.size wc w' → Calls Tryd.prog 46 #[.pointer (some ⟨eb, 0, none⟩)] w' fun o z => o = .returned (.int .i64 (nn : Int)) ∧ z = w') := Lib.hid (fun w' hb => by rw [hnn]; exact fsize_any (H3.out.below hb).fst)
              have CSg : Hid (∀ w', Below wc.heap.size wc w' → Calls Tryd.prog 46 #[.pointer (some ⟨gb, 0, none⟩)] w' fun o z => o = .returned (.int .i64 (nn : Int)) ∧ z = w') := Lib.hid (fun w' hb => by rw [hnn]; exact fsize_any (H3.out.below hb).turn.fst)
              have HBC : Hid (Below wc.heap.size wc wc.drew) := Lib.hid (Below.refl _ _).drew
              clear CNe CNg CSM hre hnn HZ HBA
              go_upto_region 27 with fail
              go_cut [155] from 128 to 155 (fun x wx => x = .bool false ∧ Hid (Below wc.heap.size wc wx))
              case first =>
                go_region_held3 (fun w' => Below wc.heap.size wc w') (first | exact HXX.out | exact HXe.out | exact HXg.out | exact HBC.out) (first
                  | (go_at_call 27; first
                    | (with_reducible refine (CRe.out _ HXg.out).mono ?_; rintro o xe ⟨rfl, hb⟩; have HXX : Hid (Below wc.heap.size wc xe) := Lib.hid (HXg.out.trans (hb.mono HXg.out.size)); clear hb)
                    | (with_reducible refine (CRg.out _ HXe.out).mono ?_; rintro o xg ⟨rfl, hb⟩; have HXX : Hid (Below wc.heap.size wc xg) := Lib.hid (HXe.out.trans (hb.mono HXe.out.size)); clear hb)
                    | (with_reducible refine (CRe.out _ HBC.out).mono ?_; rintro o xe ⟨rfl, hb⟩; have HXe : Hid (Below wc.heap.size wc xe) := Lib.hid (HBC.out.trans (hb.mono HBC.out.size)); clear hb)
                    | (with_reducible refine (CRg.out _ HBC.out).mono ?_; rintro o xg ⟨rfl, hb⟩; have HXg : Hid (Below wc.heap.size wc xg) := Lib.hid (HBC.out.trans (hb.mono HBC.out.size)); clear hb))
                  | (go_at_call 46; first
                    | (with_reducible refine (CSe.out _ HXX.out).mono ?_; rintro o z ⟨rfl, hx⟩; rw [hx]; clear hx z)
                    | (with_reducible refine (CSg.out _ HXX.out).mono ?_; rintro o z ⟨rfl, hx⟩; rw [hx]; clear hx z)))
                all_goals
                  go_wp2_with fail
                  go_meet
                  exact ⟨rfl, HXX⟩
              case rest =>
                obtain ⟨rfl, HXX⟩ := hcut
                have HJ2 : Hid (E3 w2 wc eb (L ++ M.take (j + 1)) gb (L ++ M.take (j + 1)) cb (L ++ [s])) := Lib.hid (by have := H3.out.below HXX.out; rwa [HN.out.1] at this)
                go_wp2_with fail
                exact ⟨⟨j + 1, by simp, HLT.out, HJ2⟩, by show m - ((j : Int) + 1).toNat < m - (j : Int).toNat; have := HLT.out; omega⟩
          · obtain rfl : j = m := by omega
            have hji : ¬ (j : Int) < (j : Int) := by omega
            have hls : (L ++ [s]).length ≤ 4096 := by rw [List.length_append, HL.out.1]; show i + 1 ≤ 4096; omega
            have h32 : ∀ x ∈ L ++ [s], x.size = 32 := fun x hx => by
              rcases List.mem_append.1 hx with h1 | h1
              · exact HL.out.2 x h1
              · rw [List.mem_singleton.1 h1]; exact HS.out
            obtain ⟨rt, hrt⟩ : ∃ s', s' = rootR (L ++ [s]) := ⟨_, rfl⟩
            have CRT : Hid (∀ w' v, Below w2.heap.size w2 w' → Txts w' v (L ++ [s]) → Calls Tryd.prog 16 #[v] w' fun o z => o = .returned (.tuple #[.string rt, .int .i64 0]) ∧ Below w'.heap.size w' z) := Lib.hid (fun w' v hb hv => by
              have h1 := Root_any v (L ++ [s]) w' (HB2.out.below hb).tabs hv
              obtain ⟨q1, q2⟩ := root_there h32 hls
              rwa [q1, q2, ← hrt] at h1)
            have CRc : Hid (∀ w', Below wr.heap.size wr w' → Calls Tryd.prog 27 #[rowP cb] w' fun o z => o = .returned (.string rt) ∧ Below w'.heap.size w' z) := Lib.hid (fun w' hb => by
              have h1 := (HJ.out.below hb).turn.turn.fst.root (HB2.out.below (HJ.out.below hb).b).tabs
              rwa [partL_allF, ← hrt] at h1)
            have HL3 : Hid (Held (wr.alloc (.cells #[] 9)) 9 1 (.slice pl i cl) i (L.map Value.string)) := Lib.hid ((HL2.out.below HJ.out.b).h.below ((Below.refl _ _).alloc (Nat.le_refl _) _))
            have HNO := Lib.hid (held_nothing wr 9)
            have HONL : Hid (∀ u ∈ L.map Value.string, u.oneCell' = true) := Lib.hid (fun u hu => by obtain ⟨s, _, rfl⟩ := List.mem_map.1 hu; rfl)
            have HONE : Hid (∀ u ∈ [Value.string s], u.oneCell' = true) := Lib.hid (fun u hu => by rw [List.mem_singleton.1 hu]; rfl)
            have hl1 : (0 + i) * 16 ≤ 140737488355328 := by omega
            have hl2 : 0 + i ≤ 140737488355328 := by omega
            have hl3 : (i + 1) * 16 ≤ 140737488355328 := by omega
            have hl4 : i + 1 ≤ 140737488355328 := by omega
            have HLS : Hid ((L ++ [s]).length ≤ 4194304) := Lib.hid (Nat.le_trans hls (by decide))
            clear hlt hls h32 hrt
            go_wp2_with (first
              | (at_builtin; refine wpList_cat (v := .slice (some ⟨wr.heap.size, 0, none⟩) 0 0) (u := .slice pl i cl) rfl _ _ rfl Tryd.underlying22 (.string ⟨#[]⟩) 1 info_strT rfl (by decide) [] (L.map Value.string) (by simp [Act.eval]) (by simp [Act.eval]) HNO.out HL3.out HONL.out hl1 hl2 ?_; intro v5 z5 hh hg ho; have HI5 := Lib.hid (lf_cat hh hg ho); clear hh hg ho)
              | (go_at_call 48; with_reducible refine (CL.out _).mono ?_; rintro o z6 ⟨rfl, h⟩; have HI6 := Lib.hid (HI5.out.below h); have HHD := Lib.hid HI6.out.h; clear h)
              | (at_builtin; refine wpList_grew (v := v5) rfl _ _ rfl Tryd.underlying22 (.string ⟨#[]⟩) 1 info_strT rfl (by decide) [.string s] 1 (by simp [Act.eval]) (by simp [Act.eval]) HHD.out rfl rfl (by decide) HONE.out hl3 hl4 ?_; intro v7 z7 hg7; have HI7 := Lib.hid (HI6.out.push hg7); have HT7 := Lib.hid (held_txtsF HI7.out.h HLS.out); clear hg7)
              | (go_at_call 16; with_reducible refine (CRT.out _ _ (HJ.out.b.trans (HI7.out.b.mono HJ.out.b.size)) HT7.out).mono ?_; rintro o z8 ⟨rfl, h⟩; have HI8 : Hid (Below wr.heap.size wr z8) := Lib.hid (HI7.out.b.trans (h.mono HI7.out.b.size)); clear h)
              | (go_at_call 27; with_reducible refine (CRc.out _ HI8.out).mono ?_; rintro o z9 ⟨rfl, h⟩; have HI9 : Hid (Below wr.heap.size wr z9) := Lib.hid (HI8.out.trans (h.mono HI8.out.size)); clear h))
            go_ret
            exact ⟨by simp, HW2.out.trans ((HJ.out.b.trans (HI9.out.mono HJ.out.b.size)).mono HW2.out.size)⟩
end Go.Proofs.YtdbghgpohdijfaaDoor
