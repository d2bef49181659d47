/- Law 7: TileClones, walked. -/
import Derived.Test.YtblacbfkaamdgaaDoorMa37
import Derived.Test.YtblacbfkaamdgaaDoorMa36
import Derived.Deep.CutBlock
namespace Go.Proofs.YtblacbfkaamdgaaDoor
open Go.RowKit Go.Scr Go.ChangeMaps Go.MapKept
set_option linter.unusedVariables false
theorem held_txtsV {w : World} {T n : Nat} {v : Value} {L : List ByteArray} (h : Held w T 1 v n (L.map Value.string)) (hl : L.length ≤ 4194304) : Txts w v L := by
  have hn : n = L.length := by have := h.1; simpa using this.symm
  obtain ⟨p, c, rfl, h1, _, h2⟩ := h.cells
  refine ⟨p, c, by rw [hn], by omega, by omega, fun j s hs => ?_⟩
  obtain ⟨a, ha, _, hc⟩ := h2 j (.string s) (by rw [List.getElem?_map, hs]; rfl)
  exact ⟨a, ha, hc⟩
theorem ints_cellV {w : World} {p : Option Addr} {n c : Nat} {Z : List Int} (h : Ints w (.slice p n c) Z) {i : Nat} {z : Int} (hz : Z[i]? = some z) : ∃ a, p = some a ∧ ∀ w', Below w.heap.size w w' → w'.cell? (a.add i) = some (.int .i64 z) := by
  obtain ⟨p', c', hpe, _, _, _, hq⟩ := h
  obtain rfl : p = p' := by cases hpe; rfl
  obtain ⟨a, ha, hcell⟩ := hq i z hz
  exact ⟨a, ha, fun w' hb => (hb.cell (block_lt_of_cell hcell)).trans hcell⟩
theorem all32_ofV {L : List ByteArray} (h : ∀ s ∈ L, s.size = 32) : ok32 L = true := by
  unfold ok32
  rw [List.all_eq_true]
  intro s hs
  simpa using h s hs
def behT (L : List ByteArray) (Y : List Int) (i : Nat) : List ByteArray := L ++ (Y.take i).map leafSU
theorem behT_next {L : List ByteArray} {Y : List Int} {i : Nat} {y : Int} (h : Y[i]? = some y) : behT L Y (i + 1) = behT L Y i ++ [leafSU y] := by
  unfold behT
  rw [List.take_add_one, h, List.map_append, ← List.append_assoc]
  rfl
theorem behT_stay {L : List ByteArray} {Y : List Int} {i : Nat} (h : ¬ i < Y.length) : behT L Y (i + 1) = behT L Y i := by
  unfold behT
  rw [List.take_of_length_le (by omega), List.take_of_length_le (by omega)]
theorem behT_len (L : List ByteArray) (Y : List Int) (i : Nat) : (behT L Y i).length ≤ L.length + i := by
  unfold behT
  rw [List.length_append, List.length_map, List.length_take]
  omega
theorem behT_zero (L : List ByteArray) (Y : List Int) : behT L Y 0 = L := by unfold behT; simp
theorem behT_pre (L : List ByteArray) (Y : List Int) (i : Nat) : partL (behT L Y i) 0 L.length = partL L 0 L.length := by
  unfold partL behT
  rw [List.drop_zero, List.drop_zero, Nat.sub_zero, List.take_append_of_le_length (Nat.le_refl _)]
theorem partL_all (L : List ByteArray) : partL L 0 L.length = rootR L := by unfold partL; simp
set_option maxRecDepth 100000 in
set_option maxHeartbeats 8000000 in
theorem tileclones_any {W : World} {s0 : Int} {v1 v2 v3 : Value} {Z Y X : List Int} (hB : Bas W W.heap.size) (hz : Ints W v1 Z) (hy : Ints W v2 Y) (hx : Ints W v3 X) (h0 : -9223372036854775808 ≤ s0 ∧ s0 ≤ 9223372036854775807) :
    Calls Tryd.prog 5 #[.int .i64 s0, v1, v2, v3] W fun o w' => o = .returned (.bool true) ∧ Below W.heap.size W w' := by
  have CK := Lib.hid (knownT_any hB)
  obtain ⟨M, hM⟩ : ∃ M, M = min Z.length 100 := ⟨_, rfl⟩
  have hM1 : M ≤ 100 := by omega
  obtain ⟨L, hL⟩ : ∃ L, L = (Z.take M).map leafSU := ⟨_, rfl⟩
  have hLM : L.length = M := by rw [hL, List.length_map, List.length_take]; omega
  have CF : Hid (∀ w2, Below W.heap.size W w2 → Calls Tryd.prog 10 #[.int .i64 s0, v1, .int .i64 100] w2 fun o w' => ∃ ta, o = .returned (bpT ta) ∧ TrU w2 w' W.heap.size ta (1 + pickN s0 8) L) := Lib.hid (fun w2 hb2 => (filledU_any (mx := 100) (by decide) (hB.below hb2) (ints_belowHK hz hb2 (Nat.le_refl _)) h0).mono (by
    rintro o w' ⟨tb, rfl, hf⟩
    refine ⟨tb, rfl, ?_⟩
    rw [← hM] at hf
    rw [hL]
    exact ⟨hf.b, hf.t⟩))
  have HLM : Hid (L.length = M ∧ M ≤ Z.length ∧ ∀ i z, Z[i]? = some z → i < M → L[i]? = some (leafSU z)) := Lib.hid ⟨hLM, by omega, fun i z hz hi => by rw [hL, List.getElem?_map, List.getElem?_take_of_lt hi, hz]; rfl⟩
  have HB := Lib.hid hB
  have HZ := Lib.hid hz
  have HY := Lib.hid hy
  have HX := Lib.hid hx
  obtain ⟨pz, cz, rfl, hz1, hz2, _, _⟩ := hz
  obtain ⟨py, cy, rfl, hy1, hy2, _, _⟩ := hy
  obtain ⟨px, cx, rfl, hx1, hx2, _, _⟩ := hx
  obtain ⟨nz, hnz⟩ : ∃ n, n = Z.length := ⟨_, rfl⟩
  obtain ⟨ny, hny⟩ : ∃ n, n = Y.length := ⟨_, rfl⟩
  obtain ⟨nx, hnx⟩ : ∃ n, n = X.length := ⟨_, rfl⟩
  rw [← hnz] at HZ CF hz1 hz2 ⊢
  rw [← hny] at HY hy1 hy2 ⊢
  rw [← hnx] at HX hx1 hx2 ⊢
  have HNN : Hid (nz = Z.length ∧ ny = Y.length ∧ nx = X.length) := Lib.hid ⟨hnz, hny, hnx⟩
  clear hB h0 hM hL hLM hz1 hy1 hx1 hnz hny hnx
  go_enter Tryd.func5, Tryd.ntmps5
  go_upto_region 3 with (first
    | (go_at_call 9; with_reducible refine CK.out.mono ?_; rintro o w0 ⟨rfl, h⟩; have HW0 := Lib.hid h; clear h)
    | (go_at_call 10; with_reducible refine (CF.out _ HW0.out).mono ?_; rintro o w1 ⟨ta, rfl, h⟩; have HA1 := Lib.hid h; have HW1 : Hid (Below W.heap.size W w1) := Lib.hid (HW0.out.trans (h.b.mono HW0.out.size)); clear h))
  obtain ⟨h, hh⟩ : ∃ h, h = 1 + pickN s0 8 := ⟨_, rfl⟩
  rw [← hh] at HA1
  clear hh
  have CS0 : Hid (Calls Tryd.prog 12 #[bpT ta] w1 fun o w' => o = .returned (.int .i64 (M : Int)) ∧ w' = w1) := Lib.hid (by have := HA1.out.size; rwa [HLM.out.1] at this)
  obtain ⟨ro, hro⟩ : ∃ s, s = partL L 0 M := ⟨_, rfl⟩
  have CR0 : Hid (Calls Tryd.prog 21 #[bpT ta, .int .i64 (M : Int)] w1 fun o w' => o = .returned (.tuple #[.string ro, .int .i64 0]) ∧ Below w1.heap.size w1 w') := Lib.hid (by rw [hro]; exact HA1.out.root (HB.out.below HW0.out) (by rw [HLM.out.1]; exact Nat.le_refl _))
  have CC0 : Hid (∀ w2, Below w1.heap.size w1 w2 → Calls Tryd.prog 24 #[bpT ta] w2 fun o w' => ∃ tb, o = .returned (bpT tb) ∧ ∃ ca cb, CT W w' W.heap.size ta tb h L L [] [] (.slice none 0 0) (.slice none 0 0) ca cb) := Lib.hid (fun w2 hb2 => by
    obtain ⟨_, ca, t, hl⟩ := HA1.out
    have hw2 := HW1.out.trans (hb2.mono HW1.out.size)
    refine ((t.below hb2).clone hw2.size).mono ?_
    rintro o w' ⟨tb, cb, rfl, t2, hl2, hb⟩
    refine ⟨tb, rfl, ca, cb, hw2.trans (hb.mono hw2.size), (t.below hb2).below hb, t2, fun g => ?_, fun g hg => Nat.le_trans HW0.out.size (hl g hg), fun g hg => Nat.le_trans hw2.size (hl2 g hg), ⟨rfl, .inl ⟨rfl, rfl⟩⟩, (fun g hg => nomatch hg), ⟨rfl, .inl ⟨rfl, rfl⟩⟩, (fun g hg => nomatch hg), fun g hg => nomatch hg⟩
    by_cases e : cb g = none
    · exact .inr e
    · exact .inl ((t.below hb2).t.far (hl2 g e)))
  have HRO := Lib.hid hro
  clear hro
  go_wp2_with (first
    | (go_at_call 12; with_reducible refine CS0.out.mono ?_; rintro o w' ⟨rfl, hww⟩; replace hww := hww.symm; subst hww)
    | (go_at_call 21; with_reducible refine CR0.out.mono ?_; rintro o w2 ⟨rfl, hb2⟩; have HB2 := Lib.hid hb2; clear hb2)
    | (go_at_call 24; with_reducible refine (CC0.out _ HB2.out).mono ?_; rintro o w3 ⟨tb, rfl, hct⟩; have HC3 := Lib.hid hct; clear hct))
  have HI0 : Hid (∃ ca cb, CT W w3 W.heap.size ta tb h L L (L.take 0) (L.take 0) (.slice none 0 0) (.slice none 0 0) ca cb) := Lib.hid (by rw [List.take_zero]; exact HC3.out)
  clear CK CF CS0 CR0 CC0 HW0 HA1 HW1 HB2 HC3
  go_loopw [15, 16, 17] (fun l m k wr => ∃ (i : Nat) (pl : Option Addr) (cl : Nat) (pm : Option Addr) (cm : Nat), k = .int .i64 (i : Int) ∧ l = .slice pl i cl ∧ m = .slice pm i cm ∧ i ≤ M ∧ Hid (∃ ca cb, CT W wr W.heap.size ta tb h L L (L.take i) (L.take i) (.slice pl i cl) (.slice pm i cm) ca cb)) (fun _ _ k _ => M - (intOf k).toNat)
  case atStart => exact ⟨0, none, 0, none, 0, rfl, rfl, rfl, Nat.zero_le _, HI0⟩
  case round =>
    clear HI0
    obtain ⟨i, pl, cl, pm, cm, rfl, rfl, rfl, hi, HI⟩ := hrel
    by_cases hlt : i < M
    · have hli : (i : Int) < (M : Int) := by omega
      have hlz : (i : Int) < (nz : Int) := by have := HLM.out; have := HNN.out; omega
      have hi0 : (0 : Int) ≤ (i : Int) := by omega
      obtain ⟨z, hzi⟩ : ∃ z, Z[i]? = some z := ⟨Z[i]'(by have := HLM.out; omega), List.getElem?_eq_getElem _⟩
      have hBr : Below W.heap.size W wr := by obtain ⟨_, _, H⟩ := HI.out; exact H.b
      obtain ⟨a, rfl, hac⟩ := ints_cellV HZ.out hzi
      have HAC := Lib.hid hac
      have hcell := hac _ hBr
      have HXI : Hid (L[i]? = some (leafSU z)) := Lib.hid (HLM.out.2.2 i z hzi hlt)
      obtain ⟨s, hs⟩ : ∃ s, s = leafSU z := ⟨_, rfl⟩
      have CL : Hid (∀ w3, Calls Tryd.prog 25 #[.int .i64 z] w3 fun e w' => e = .returned (.string s) ∧ Below w3.heap.size w3 w') := Lib.hid (fun w3 => by rw [hs]; exact leafU_any z w3)
      rw [← hs] at HXI
      have HTK : Hid (L.take (i + 1) = L.take i ++ [s] ∧ (L.take i).length = i) := Lib.hid ⟨by rw [List.take_add_one, HXI.out]; rfl, by rw [List.length_take]; have := HLM.out; omega⟩
      have HONE : Hid (∀ u ∈ [Value.string s], u.oneCell' = true) := Lib.hid (fun u hu => by rw [List.mem_singleton.1 hu]; rfl)
      have hl1 : (i + 1) * 16 ≤ 140737488355328 := by omega
      have hl2 : i + 1 ≤ 140737488355328 := by omega
      have HLT := Lib.hid hlt
      clear hlt hs hzi hac hBr
      go_upto_region 16 with (first
        | (go_at_call 25; with_reducible refine (CL.out _).mono ?_; rintro o w4 ⟨rfl, hb4⟩; have HI4 : Hid (∃ ca cb, CT W w4 W.heap.size ta tb h L L (L.take i) (L.take i) (.slice pl i cl) (.slice pm i cm) ca cb) := Lib.hid (by obtain ⟨ca, cb, H⟩ := HI.out; exact ⟨ca, cb, H.below hb4⟩); have HHD : Hid (Held w4 9 1 (.slice pl i cl) i ((L.take i).map Value.string)) := Lib.hid (by obtain ⟨ca, cb, H⟩ := HI4.out; have := H.ha; rwa [HTK.out.2] at this); clear hb4 hcell)
        | (at_builtin; refine wpList_grew (v := .slice pl i cl) rfl _ _ rfl Tryd.underlying33 (.string ⟨#[]⟩) 1 info_strT rfl (by decide) [.string s] 1 (by simp [Act.eval]) (by simp [Act.eval]) HHD.out rfl rfl (by decide) HONE.out hl1 hl2 ?_; intro v5 w5 hg5; obtain ⟨p5, c5, rfl, _⟩ := hg5.held.cells; have HI5 : Hid (∃ ca cb, CT W w5 W.heap.size ta tb h L L (L.take (i + 1)) (L.take i) (.slice p5 (i + 1) c5) (.slice pm i cm) ca cb) := Lib.hid (by obtain ⟨ca, cb, H⟩ := HI4.out; rw [HTK.out.1]; exact ⟨ca, cb, H.pushA HTK.out.2.symm hg5⟩); clear hg5))
      have hcell5 : w5.cell? (a.add i) = some (.int .i64 z) := HAC.out _ (by obtain ⟨_, _, H⟩ := HI5.out; exact H.b)
      go_wp2_with (first
        | (go_at_call 25; with_reducible refine (CL.out _).mono ?_; rintro o w6 ⟨rfl, hb6⟩; have HI6 : Hid (∃ ca cb, CT W w6 W.heap.size ta tb h L L (L.take (i + 1)) (L.take i) (.slice p5 (i + 1) c5) (.slice pm i cm) ca cb) := Lib.hid (by obtain ⟨ca, cb, H⟩ := HI5.out; exact ⟨ca, cb, H.below hb6⟩); have HHE : Hid (Held w6 9 1 (.slice pm i cm) i ((L.take i).map Value.string)) := Lib.hid (by obtain ⟨ca, cb, H⟩ := HI6.out; have := H.hc; rwa [HTK.out.2] at this); clear hb6 hcell5)
        | (at_builtin; refine wpList_grew (v := .slice pm i cm) rfl _ _ rfl Tryd.underlying33 (.string ⟨#[]⟩) 1 info_strT rfl (by decide) [.string s] 1 (by simp [Act.eval]) (by simp [Act.eval]) HHE.out rfl rfl (by decide) HONE.out hl1 hl2 ?_; intro v7 w7 hg7; obtain ⟨p7, c7, rfl, _⟩ := hg7.held.cells; have HI7 : Hid (∃ ca cb, CT W w7 W.heap.size ta tb h L L (L.take (i + 1)) (L.take (i + 1)) (.slice p5 (i + 1) c5) (.slice p7 (i + 1) c7) ca cb) := Lib.hid (by obtain ⟨ca, cb, H⟩ := HI6.out; have h9 := H.pushC HTK.out.2.symm hg7; rw [← HTK.out.1] at h9; exact ⟨ca, cb, h9⟩); clear hg7))
      exact ⟨⟨i + 1, p5, c5, p7, c7, by simp, rfl, rfl, HLT.out, HI7⟩, by show M - ((i : Int) + 1).toNat < M - (i : Int).toNat; have := HLT.out; omega⟩
    · obtain rfl : i = M := by omega
      have hni : ¬ (i : Int) < (i : Int) := by omega
      have HI1 : Hid (∃ ca cb, CT W wr W.heap.size ta tb h (behT L Y 0) (behT L X 0) (behT L Y 0) (behT L X 0) (.slice pl i cl) (.slice pm i cm) ca cb) := Lib.hid (by
        obtain ⟨ca, cb, H⟩ := HI.out
        rw [List.take_of_length_le (by have := HLM.out; omega)] at H
        rw [behT_zero, behT_zero]
        exact ⟨ca, cb, H⟩)
      have HL0 : Hid (i = (behT L Y 0).length ∧ i = (behT L X 0).length) := Lib.hid (by rw [behT_zero, behT_zero]; exact ⟨HLM.out.1.symm, HLM.out.1.symm⟩)
      clear hlt HI hi
      go_wp2_with fail
      clear hni
      go_loopw [15, 16, 18] (fun l m k wr => ∃ (j : Nat) (pl : Option Addr) (nl cl : Nat) (pm : Option Addr) (nm cm : Nat), k = .int .i64 (j : Int) ∧ l = .slice pl nl cl ∧ m = .slice pm nm cm ∧ j ≤ 100 ∧ Hid (nl = (behT L Y j).length ∧ nm = (behT L X j).length) ∧ Hid (∃ ca cb, CT W wr W.heap.size ta tb h (behT L Y j) (behT L X j) (behT L Y j) (behT L X j) (.slice pl nl cl) (.slice pm nm cm) ca cb)) (fun _ _ k _ => 100 - (intOf k).toNat)
      case atStart => exact ⟨0, pl, i, cl, pm, i, cm, rfl, rfl, rfl, Nat.zero_le _, HL0, HI1⟩
      case round =>
        clear HI1 HL0
        obtain ⟨j, pl, nl, cl, pm, nm, cm, rfl, rfl, rfl, hj, HN, HI⟩ := hrel
        have hnl : nl ≤ 200 := by have h1 := HN.out.1; have h2 := behT_len L Y j; have := HLM.out; omega
        have hnm : nm ≤ 200 := by have h1 := HN.out.2; have h2 := behT_len L X j; have := HLM.out; omega
        by_cases hlt : j < 100
        · have hli : (j : Int) < 100 := by omega
          have hj0 : (0 : Int) ≤ (j : Int) := by omega
          have HLT := Lib.hid hlt
          clear hlt
          by_cases hA : j < ny
          · have hAi : (j : Int) < (ny : Int) := by omega
            obtain ⟨qy, qhy⟩ : ∃ z, Y[j]? = some z := ⟨Y[j]'(by have := HNN.out; omega), List.getElem?_eq_getElem _⟩
            obtain ⟨qa, rfl, qhac⟩ := ints_cellV HY.out qhy
            have qHAC := Lib.hid qhac
            have qhcell := qhac wr (by obtain ⟨_, _, H⟩ := HI.out; exact H.b)
            obtain ⟨qs, qhs⟩ : ∃ s, s = leafSU qy := ⟨_, rfl⟩
            have qCL : Hid (∀ w3, Calls Tryd.prog 25 #[.int .i64 qy] w3 fun e w' => e = .returned (.string qs) ∧ Below w3.heap.size w3 w') := Lib.hid (fun w3 => by rw [qhs]; exact leafU_any qy w3)
            have qHNX : Hid (behT L Y (j + 1) = behT L Y j ++ [qs]) := Lib.hid (by rw [qhs]; exact behT_next qhy)
            have qHSZ : Hid (qs.size = 32) := Lib.hid (by rw [qhs]; exact leafSU_size qy)
            have qHONE : Hid (∀ u ∈ [Value.string qs], u.oneCell' = true) := Lib.hid (fun u hu => by rw [List.mem_singleton.1 hu]; rfl)
            have qCA : Hid (∀ w3, (∃ ca cb, CT W w3 W.heap.size ta tb h (behT L Y j) (behT L X j) (behT L Y j) (behT L X j) (.slice pl nl cl) (.slice pm nm cm) ca cb) → Calls Tryd.prog 26 #[bpT ta, .string qs] w3 fun o w' => o = .returned (.int .i64 0) ∧ ∃ ca cb, CT W w' W.heap.size ta tb h (behT L Y (j + 1)) (behT L X j) (behT L Y j) (behT L X j) (.slice pl nl cl) (.slice pm nm cm) ca cb) := Lib.hid (fun w3 ⟨ca, cb, H⟩ => by
              refine (H.addA HB.out qHSZ.out (by have h1 := behT_len L Y j; have := HLM.out; have := HLT.out; omega)).mono ?_
              rintro o w' ⟨rfl, c9, H9⟩
              rw [qHNX.out]
              exact ⟨rfl, c9, cb, H9⟩)
            have qhl1 : (nl + 1) * 16 ≤ 140737488355328 := by omega
            have qhl2 : nl + 1 ≤ 140737488355328 := by omega
            clear qhy qhs qhac
            go_upto_region 22 with (first
              | (go_at_call 25; with_reducible refine (qCL.out _).mono ?_; rintro o qw1 ⟨rfl, hb⟩; have qH1 : Hid (∃ ca cb, CT W qw1 W.heap.size ta tb h (behT L Y j) (behT L X j) (behT L Y j) (behT L X j) (.slice pl nl cl) (.slice pm nm cm) ca cb) := Lib.hid (by obtain ⟨ca, cb, H⟩ := HI.out; exact ⟨ca, cb, H.below hb⟩); clear hb qhcell)
              | (go_at_call 26; with_reducible refine (qCA.out _ qH1.out).mono ?_; rintro o qw2 ⟨rfl, hct⟩; have qH2 := Lib.hid hct; clear hct))
            have qhcell2 := qHAC.out qw2 (by obtain ⟨_, _, H⟩ := qH2.out; exact H.b)
            go_upto_region 23 with (first
              | (go_at_call 25; with_reducible refine (qCL.out _).mono ?_; rintro o qw3 ⟨rfl, hb⟩; have qH3 : Hid (∃ ca cb, CT W qw3 W.heap.size ta tb h (behT L Y (j + 1)) (behT L X j) (behT L Y j) (behT L X j) (.slice pl nl cl) (.slice pm nm cm) ca cb) := Lib.hid (by obtain ⟨ca, cb, H⟩ := qH2.out; exact ⟨ca, cb, H.below hb⟩); have qHH : Hid (Held qw3 9 1 (.slice pl nl cl) nl ((behT L Y j).map Value.string)) := Lib.hid (by obtain ⟨ca, cb, H⟩ := qH3.out; have := H.ha; rwa [← HN.out.1] at this); clear hb qhcell2)
              | (at_builtin; refine wpList_grew (v := .slice pl nl cl) rfl _ _ rfl Tryd.underlying33 (.string ⟨#[]⟩) 1 info_strT rfl (by decide) [.string qs] 1 (by simp [Act.eval]) (by simp [Act.eval]) qHH.out rfl rfl (by decide) qHONE.out qhl1 qhl2 ?_; intro v5 qw4 hg5; obtain ⟨qp, qc, rfl, _⟩ := hg5.held.cells; have qH4 : Hid (∃ ca cb, CT W qw4 W.heap.size ta tb h (behT L Y (j + 1)) (behT L X j) (behT L Y (j + 1)) (behT L X j) (.slice qp (nl + 1) qc) (.slice pm nm cm) ca cb) := Lib.hid (by obtain ⟨ca, cb, H⟩ := qH3.out; have h9 := H.pushA HN.out.1 hg5; rw [← qHNX.out] at h9; exact ⟨ca, cb, h9⟩); clear hg5))
            have qHNN : Hid (nl + 1 = (behT L Y (j + 1)).length) := Lib.hid (by rw [qHNX.out, List.length_append, ← HN.out.1]; rfl)
            clear hA
            by_cases hB : j < nx
            · have hBi : (j : Int) < (nx : Int) := by omega
              obtain ⟨ky, khy⟩ : ∃ z, X[j]? = some z := ⟨X[j]'(by have := HNN.out; omega), List.getElem?_eq_getElem _⟩
              obtain ⟨ka, rfl, khac⟩ := ints_cellV HX.out khy
              have kHAC := Lib.hid khac
              have khcell := khac qw4 (by obtain ⟨_, _, H⟩ := qH4.out; exact H.b)
              obtain ⟨ks, khs⟩ : ∃ s, s = leafSU ky := ⟨_, rfl⟩
              have kCL : Hid (∀ w3, Calls Tryd.prog 25 #[.int .i64 ky] w3 fun e w' => e = .returned (.string ks) ∧ Below w3.heap.size w3 w') := Lib.hid (fun w3 => by rw [khs]; exact leafU_any ky w3)
              have kHNX : Hid (behT L X (j + 1) = behT L X j ++ [ks]) := Lib.hid (by rw [khs]; exact behT_next khy)
              have kHSZ : Hid (ks.size = 32) := Lib.hid (by rw [khs]; exact leafSU_size ky)
              have kHONE : Hid (∀ u ∈ [Value.string ks], u.oneCell' = true) := Lib.hid (fun u hu => by rw [List.mem_singleton.1 hu]; rfl)
              have kCA : Hid (∀ w3, (∃ ca cb, CT W w3 W.heap.size ta tb h (behT L Y (j + 1)) (behT L X j) (behT L Y (j + 1)) (behT L X j) (.slice qp (nl + 1) qc) (.slice pm nm cm) ca cb) → Calls Tryd.prog 26 #[bpT tb, .string ks] w3 fun o w' => o = .returned (.int .i64 0) ∧ ∃ ca cb, CT W w' W.heap.size ta tb h (behT L Y (j + 1)) (behT L X (j + 1)) (behT L Y (j + 1)) (behT L X j) (.slice qp (nl + 1) qc) (.slice pm nm cm) ca cb) := Lib.hid (fun w3 ⟨ca, cb, H⟩ => by
                refine (H.addB HB.out kHSZ.out (by have h1 := behT_len L X j; have := HLM.out; have := HLT.out; omega)).mono ?_
                rintro o w' ⟨rfl, c9, H9⟩
                rw [kHNX.out]
                exact ⟨rfl, ca, c9, H9⟩)
              have khl1 : (nm + 1) * 16 ≤ 140737488355328 := by omega
              have khl2 : nm + 1 ≤ 140737488355328 := by omega
              clear khy khs khac
              go_upto_region 25 with (first
                | (go_at_call 25; with_reducible refine (kCL.out _).mono ?_; rintro o kw1 ⟨rfl, hb⟩; have kH1 : Hid (∃ ca cb, CT W kw1 W.heap.size ta tb h (behT L Y (j + 1)) (behT L X j) (behT L Y (j + 1)) (behT L X j) (.slice qp (nl + 1) qc) (.slice pm nm cm) ca cb) := Lib.hid (by obtain ⟨ca, cb, H⟩ := qH4.out; exact ⟨ca, cb, H.below hb⟩); clear hb khcell)
                | (go_at_call 26; with_reducible refine (kCA.out _ kH1.out).mono ?_; rintro o kw2 ⟨rfl, hct⟩; have kH2 := Lib.hid hct; clear hct))
              have khcell2 := kHAC.out kw2 (by obtain ⟨_, _, H⟩ := kH2.out; exact H.b)
              go_wp2_with (first
                | (go_at_call 25; with_reducible refine (kCL.out _).mono ?_; rintro o kw3 ⟨rfl, hb⟩; have kH3 : Hid (∃ ca cb, CT W kw3 W.heap.size ta tb h (behT L Y (j + 1)) (behT L X (j + 1)) (behT L Y (j + 1)) (behT L X j) (.slice qp (nl + 1) qc) (.slice pm nm cm) ca cb) := Lib.hid (by obtain ⟨ca, cb, H⟩ := kH2.out; exact ⟨ca, cb, H.below hb⟩); have kHH : Hid (Held kw3 9 1 (.slice pm nm cm) nm ((behT L X j).map Value.string)) := Lib.hid (by obtain ⟨ca, cb, H⟩ := kH3.out; have := H.hc; rwa [← HN.out.2] at this); clear hb khcell2)
                | (at_builtin; refine wpList_grew (v := .slice pm nm cm) rfl _ _ rfl Tryd.underlying33 (.string ⟨#[]⟩) 1 info_strT rfl (by decide) [.string ks] 1 (by simp [Act.eval]) (by simp [Act.eval]) kHH.out rfl rfl (by decide) kHONE.out khl1 khl2 ?_; intro v5 kw4 hg5; obtain ⟨kp, kc, rfl, _⟩ := hg5.held.cells; have kH4 : Hid (∃ ca cb, CT W kw4 W.heap.size ta tb h (behT L Y (j + 1)) (behT L X (j + 1)) (behT L Y (j + 1)) (behT L X (j + 1)) (.slice qp (nl + 1) qc) (.slice kp (nm + 1) kc) ca cb) := Lib.hid (by obtain ⟨ca, cb, H⟩ := kH3.out; have h9 := H.pushC HN.out.2 hg5; rw [← kHNX.out] at h9; exact ⟨ca, cb, h9⟩); clear hg5))
              have kHNN : Hid (nm + 1 = (behT L X (j + 1)).length) := Lib.hid (by rw [kHNX.out, List.length_append, ← HN.out.2]; rfl)
              exact ⟨⟨j + 1, qp, nl + 1, qc, kp, nm + 1, kc, by simp, rfl, rfl, HLT.out, Lib.hid ⟨qHNN.out, kHNN.out⟩, kH4⟩, by show 100 - ((j : Int) + 1).toNat < 100 - (j : Int).toNat; have := HLT.out; omega⟩
            · have hBi : ¬ (j : Int) < (nx : Int) := by omega
              have HT2 : Hid (behT L X (j + 1) = behT L X j) := Lib.hid (behT_stay (by have := HNN.out; omega))
              have HK : Hid (∃ ca cb, CT W qw4 W.heap.size ta tb h (behT L Y (j + 1)) (behT L X (j + 1)) (behT L Y (j + 1)) (behT L X (j + 1)) (.slice qp (nl + 1) qc) (.slice pm nm cm) ca cb) := Lib.hid (by rw [HT2.out]; exact qH4.out)
              go_wp2_with fail
              exact ⟨⟨j + 1, qp, nl + 1, qc, pm, nm, cm, by simp, rfl, rfl, HLT.out, Lib.hid ⟨qHNN.out, by rw [HT2.out]; exact HN.out.2⟩, HK⟩, by show 100 - ((j : Int) + 1).toNat < 100 - (j : Int).toNat; have := HLT.out; omega⟩
          · have hAi : ¬ (j : Int) < (ny : Int) := by omega
            have HS : Hid (behT L Y (j + 1) = behT L Y j) := Lib.hid (behT_stay (by have := HNN.out; omega))
            have HJ : Hid (∃ ca cb, CT W wr W.heap.size ta tb h (behT L Y (j + 1)) (behT L X j) (behT L Y (j + 1)) (behT L X j) (.slice pl nl cl) (.slice pm nm cm) ca cb) := Lib.hid (by rw [HS.out]; exact HI.out)
            go_upto_region 23 with fail
            clear hA
            by_cases hB : j < nx
            · have hBi : (j : Int) < (nx : Int) := by omega
              obtain ⟨ky, khy⟩ : ∃ z, X[j]? = some z := ⟨X[j]'(by have := HNN.out; omega), List.getElem?_eq_getElem _⟩
              obtain ⟨ka, rfl, khac⟩ := ints_cellV HX.out khy
              have kHAC := Lib.hid khac
              have khcell := khac wr (by obtain ⟨_, _, H⟩ := HJ.out; exact H.b)
              obtain ⟨ks, khs⟩ : ∃ s, s = leafSU ky := ⟨_, rfl⟩
              have kCL : Hid (∀ w3, Calls Tryd.prog 25 #[.int .i64 ky] w3 fun e w' => e = .returned (.string ks) ∧ Below w3.heap.size w3 w') := Lib.hid (fun w3 => by rw [khs]; exact leafU_any ky w3)
              have kHNX : Hid (behT L X (j + 1) = behT L X j ++ [ks]) := Lib.hid (by rw [khs]; exact behT_next khy)
              have kHSZ : Hid (ks.size = 32) := Lib.hid (by rw [khs]; exact leafSU_size ky)
              have kHONE : Hid (∀ u ∈ [Value.string ks], u.oneCell' = true) := Lib.hid (fun u hu => by rw [List.mem_singleton.1 hu]; rfl)
              have kCA : Hid (∀ w3, (∃ ca cb, CT W w3 W.heap.size ta tb h (behT L Y (j + 1)) (behT L X j) (behT L Y (j + 1)) (behT L X j) (.slice pl nl cl) (.slice pm nm cm) ca cb) → Calls Tryd.prog 26 #[bpT tb, .string ks] w3 fun o w' => o = .returned (.int .i64 0) ∧ ∃ ca cb, CT W w' W.heap.size ta tb h (behT L Y (j + 1)) (behT L X (j + 1)) (behT L Y (j + 1)) (behT L X j) (.slice pl nl cl) (.slice pm nm cm) ca cb) := Lib.hid (fun w3 ⟨ca, cb, H⟩ => by
                refine (H.addB HB.out kHSZ.out (by have h1 := behT_len L X j; have := HLM.out; have := HLT.out; omega)).mono ?_
                rintro o w' ⟨rfl, c9, H9⟩
                rw [kHNX.out]
                exact ⟨rfl, ca, c9, H9⟩)
              have khl1 : (nm + 1) * 16 ≤ 140737488355328 := by omega
              have khl2 : nm + 1 ≤ 140737488355328 := by omega
              clear khy khs khac
              go_upto_region 25 with (first
                | (go_at_call 25; with_reducible refine (kCL.out _).mono ?_; rintro o kw1 ⟨rfl, hb⟩; have kH1 : Hid (∃ ca cb, CT W kw1 W.heap.size ta tb h (behT L Y (j + 1)) (behT L X j) (behT L Y (j + 1)) (behT L X j) (.slice pl nl cl) (.slice pm nm cm) ca cb) := Lib.hid (by obtain ⟨ca, cb, H⟩ := HJ.out; exact ⟨ca, cb, H.below hb⟩); clear hb khcell)
                | (go_at_call 26; with_reducible refine (kCA.out _ kH1.out).mono ?_; rintro o kw2 ⟨rfl, hct⟩; have kH2 := Lib.hid hct; clear hct))
              have khcell2 := kHAC.out kw2 (by obtain ⟨_, _, H⟩ := kH2.out; exact H.b)
              go_wp2_with (first
                | (go_at_call 25; with_reducible refine (kCL.out _).mono ?_; rintro o kw3 ⟨rfl, hb⟩; have kH3 : Hid (∃ ca cb, CT W kw3 W.heap.size ta tb h (behT L Y (j + 1)) (behT L X (j + 1)) (behT L Y (j + 1)) (behT L X j) (.slice pl nl cl) (.slice pm nm cm) ca cb) := Lib.hid (by obtain ⟨ca, cb, H⟩ := kH2.out; exact ⟨ca, cb, H.below hb⟩); have kHH : Hid (Held kw3 9 1 (.slice pm nm cm) nm ((behT L X j).map Value.string)) := Lib.hid (by obtain ⟨ca, cb, H⟩ := kH3.out; have := H.hc; rwa [← HN.out.2] at this); clear hb khcell2)
                | (at_builtin; refine wpList_grew (v := .slice pm nm cm) rfl _ _ rfl Tryd.underlying33 (.string ⟨#[]⟩) 1 info_strT rfl (by decide) [.string ks] 1 (by simp [Act.eval]) (by simp [Act.eval]) kHH.out rfl rfl (by decide) kHONE.out khl1 khl2 ?_; intro v5 kw4 hg5; obtain ⟨kp, kc, rfl, _⟩ := hg5.held.cells; have kH4 : Hid (∃ ca cb, CT W kw4 W.heap.size ta tb h (behT L Y (j + 1)) (behT L X (j + 1)) (behT L Y (j + 1)) (behT L X (j + 1)) (.slice pl nl cl) (.slice kp (nm + 1) kc) ca cb) := Lib.hid (by obtain ⟨ca, cb, H⟩ := kH3.out; have h9 := H.pushC HN.out.2 hg5; rw [← kHNX.out] at h9; exact ⟨ca, cb, h9⟩); clear hg5))
              have kHNN : Hid (nm + 1 = (behT L X (j + 1)).length) := Lib.hid (by rw [kHNX.out, List.length_append, ← HN.out.2]; rfl)
              exact ⟨⟨j + 1, pl, nl, cl, kp, nm + 1, kc, by simp, rfl, rfl, HLT.out, Lib.hid ⟨(by rw [HS.out]; exact HN.out.1), kHNN.out⟩, kH4⟩, by show 100 - ((j : Int) + 1).toNat < 100 - (j : Int).toNat; have := HLT.out; omega⟩
            · have hBi : ¬ (j : Int) < (nx : Int) := by omega
              have HT2 : Hid (behT L X (j + 1) = behT L X j) := Lib.hid (behT_stay (by have := HNN.out; omega))
              have HK : Hid (∃ ca cb, CT W wr W.heap.size ta tb h (behT L Y (j + 1)) (behT L X (j + 1)) (behT L Y (j + 1)) (behT L X (j + 1)) (.slice pl nl cl) (.slice pm nm cm) ca cb) := Lib.hid (by rw [HT2.out]; exact HJ.out)
              go_wp2_with fail
              exact ⟨⟨j + 1, pl, nl, cl, pm, nm, cm, by simp, rfl, rfl, HLT.out, Lib.hid ⟨(by rw [HS.out]; exact HN.out.1), by rw [HT2.out]; exact HN.out.2⟩, HK⟩, by show 100 - ((j : Int) + 1).toNat < 100 - (j : Int).toNat; have := HLT.out; omega⟩
        · obtain rfl : j = 100 := by omega
          obtain ⟨A, hA⟩ : ∃ A, A = behT L Y 100 := ⟨_, rfl⟩
          obtain ⟨C, hC⟩ : ∃ C, C = behT L X 100 := ⟨_, rfl⟩
          have hpA : partL A 0 i = ro := by rw [hA, HRO.out, ← HLM.out.1]; exact behT_pre L Y 100
          have hpC : partL C 0 i = ro := by rw [hC, HRO.out, ← HLM.out.1]; exact behT_pre L X 100
          have hiA : i ≤ A.length := by rw [hA, ← HLM.out.1]; unfold behT; rw [List.length_append]; omega
          have hiC : i ≤ C.length := by rw [hC, ← HLM.out.1]; unfold behT; rw [List.length_append]; omega
          rw [← hA, ← hC] at HI HN
          have hnA := HN.out.1
          have hnC := HN.out.2
          have h32 : (∀ s ∈ A, s.size = 32) ∧ (∀ s ∈ C, s.size = 32) := by obtain ⟨_, _, H⟩ := HI.out; exact ⟨H.ta.z, H.tb.z⟩
          have HCT : Hid (∀ w3, Below wr.heap.size wr w3 → TrU W w3 W.heap.size ta h A ∧ TrU W w3 W.heap.size tb h C ∧ Txts w3 (.slice pl nl cl) A ∧ Txts w3 (.slice pm nm cm) C ∧ Tabs w3 ∧ Below W.heap.size W w3) := Lib.hid (fun w3 hb3 => by
            obtain ⟨ca, cb, H⟩ := HI.out
            have H3 := H.below hb3
            exact ⟨H3.trA, H3.trB, held_txtsV H3.ha (by omega), held_txtsV H3.hc (by omega), (HB.out.below H3.b).tabs, H3.b⟩)
          obtain ⟨ra, hra⟩ : ∃ s, s = rootR A := ⟨_, rfl⟩
          obtain ⟨rc, hrc⟩ : ∃ s, s = rootR C := ⟨_, rfl⟩
          have hreA : refusedE A = 0 := by unfold refusedE; rw [if_neg (by omega), if_neg (by rw [all32_ofV h32.1]; decide)]
          have hreC : refusedE C = 0 := by unfold refusedE; rw [if_neg (by omega), if_neg (by rw [all32_ofV h32.2]; decide)]
          have CRA : Hid (∀ w3, Below wr.heap.size wr w3 → Calls Tryd.prog 21 #[bpT ta, .int .i64 (nl : Int)] w3 fun o w' => o = .returned (.tuple #[.string ra, .int .i64 0]) ∧ Below w3.heap.size w3 w') := Lib.hid (fun w3 hb3 => by
            have := (HCT.out w3 hb3).1.root (n := nl) HB.out (by omega)
            rwa [hnA, partL_all, ← hra, ← hnA] at this)
          have CRC : Hid (∀ w3, Below wr.heap.size wr w3 → Calls Tryd.prog 21 #[bpT tb, .int .i64 (nm : Int)] w3 fun o w' => o = .returned (.tuple #[.string rc, .int .i64 0]) ∧ Below w3.heap.size w3 w') := Lib.hid (fun w3 hb3 => by
            have := (HCT.out w3 hb3).2.1.root (n := nm) HB.out (by omega)
            rwa [hnC, partL_all, ← hrc, ← hnC] at this)
          have CXA : Hid (∀ w3, Below wr.heap.size wr w3 → Calls Tryd.prog 27 #[.slice pl nl cl] w3 fun o w' => o = .returned (.tuple #[.string ra, .int .i64 0]) ∧ Below w3.heap.size w3 w') := Lib.hid (fun w3 hb3 => by
            have := Root_any _ A w3 (HCT.out w3 hb3).2.2.2.2.1 (HCT.out w3 hb3).2.2.1
            rwa [hreA, show rootT A = ra by unfold rootT; rw [if_pos hreA, hra]] at this)
          have CXC : Hid (∀ w3, Below wr.heap.size wr w3 → Calls Tryd.prog 27 #[.slice pm nm cm] w3 fun o w' => o = .returned (.tuple #[.string rc, .int .i64 0]) ∧ Below w3.heap.size w3 w') := Lib.hid (fun w3 hb3 => by
            have := Root_any _ C w3 (HCT.out w3 hb3).2.2.2.2.1 (HCT.out w3 hb3).2.2.2.1
            rwa [hreC, show rootT C = rc by unfold rootT; rw [if_pos hreC, hrc]] at this)
          have CPA : Hid (∀ w3, Below wr.heap.size wr w3 → Calls Tryd.prog 21 #[bpT ta, .int .i64 (i : Int)] w3 fun o w' => o = .returned (.tuple #[.string ro, .int .i64 0]) ∧ Below w3.heap.size w3 w') := Lib.hid (fun w3 hb3 => by
            have := (HCT.out w3 hb3).1.root (n := i) HB.out hiA
            rwa [hpA] at this)
          have CPC : Hid (∀ w3, Below wr.heap.size wr w3 → Calls Tryd.prog 21 #[bpT tb, .int .i64 (i : Int)] w3 fun o w' => o = .returned (.tuple #[.string ro, .int .i64 0]) ∧ Below w3.heap.size w3 w') := Lib.hid (fun w3 hb3 => by
            have := (HCT.out w3 hb3).2.1.root (n := i) HB.out hiC
            rwa [hpC] at this)
          have CSA : Hid (∀ w3, Below wr.heap.size wr w3 → Calls Tryd.prog 12 #[bpT ta] w3 fun o w' => o = .returned (.int .i64 (nl : Int)) ∧ w' = w3) := Lib.hid (fun w3 hb3 => by
            have := (HCT.out w3 hb3).1.size
            rwa [← hnA] at this)
          have CSC : Hid (∀ w3, Below wr.heap.size wr w3 → Calls Tryd.prog 12 #[bpT tb] w3 fun o w' => o = .returned (.int .i64 (nm : Int)) ∧ w' = w3) := Lib.hid (fun w3 hb3 => by
            have := (HCT.out w3 hb3).2.1.size
            rwa [← hnC] at this)
          have HX0 : Hid (Below wr.heap.size wr wr) := Lib.hid (Below.refl _ _)
          clear hA hC hpA hpC hiA hiC hnA hnC h32 hra hrc hreA hreC hlt hj
          go_upto_region 28 with (first
            | (go_at_call 21; with_reducible refine (CRA.out _ HX0.out).mono ?_; rintro o x1 ⟨rfl, hb⟩; have HX1 : Hid (Below wr.heap.size wr x1) := Lib.hid hb; clear hb)
            | (go_at_call 21; with_reducible refine (CRC.out _ HX1.out).mono ?_; rintro o x2 ⟨rfl, hb⟩; have HX2 : Hid (Below wr.heap.size wr x2) := Lib.hid (HX1.out.trans (hb.mono HX1.out.size)); clear hb))
          go_wp2_with (first
            | (go_at_call 27; with_reducible refine (CXA.out _ HX2.out).mono ?_; rintro o x3 ⟨rfl, hb⟩; have HX3 : Hid (Below wr.heap.size wr x3) := Lib.hid (HX2.out.trans (hb.mono HX2.out.size)); clear hb)
            | (go_at_call 27; with_reducible refine (CXC.out _ HX3.out).mono ?_; rintro o x4 ⟨rfl, hb⟩; have HX4 : Hid (Below wr.heap.size wr x4) := Lib.hid (HX3.out.trans (hb.mono HX3.out.size)); clear hb)
            | (go_at_call 21; with_reducible refine (CPA.out _ HX4.out).mono ?_; rintro o x5 ⟨rfl, hb⟩; have HX5 : Hid (Below wr.heap.size wr x5) := Lib.hid (HX4.out.trans (hb.mono HX4.out.size)); clear hb)
            | (go_at_call 21; with_reducible refine (CPC.out _ HX5.out).mono ?_; rintro o x6 ⟨rfl, hb⟩; have HX6 : Hid (Below wr.heap.size wr x6) := Lib.hid (HX5.out.trans (hb.mono HX5.out.size)); clear hb)
            | (go_at_call 12; with_reducible refine (CSA.out _ HX6.out).mono ?_; rintro o w' ⟨rfl, hww⟩; replace hww := hww.symm; subst hww)
            | (go_at_call 12; with_reducible refine (CSC.out _ HX6.out).mono ?_; rintro o w' ⟨rfl, hww⟩; replace hww := hww.symm; subst hww))
          go_ret
          exact ⟨by simp, (HCT.out _ HX6.out).2.2.2.2.2⟩
end Go.Proofs.YtblacbfkaamdgaaDoor
