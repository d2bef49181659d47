/- Layer 3, walked: the closure of Many. -/
import Derived.Test.YtejdpahgofhioaaDoorRea
import Derived.Deep.RegionLaw
namespace Go.Proofs.YtejdpahgofhioaaDoor
open Go.RowKit Go.Scr
set_option linter.unusedVariables false

/-- what stands while the closure of Many goes through the tree -/
structure MV (W : World) (pi po pm C : Nat) (zv ov : Value) (O : List ByteArray) (w : World) : Prop where
  zi : w.heap[pi]? = some (.cells #[zv] 36 (0, 0))
  self : ∃ T, w.heap[pm]? = some (.cells #[.func (.func 78) #[] #[.pointer (some ⟨pi, 0, none⟩), .pointer (some ⟨po, 0, none⟩), .pointer (some ⟨pm, 0, none⟩)]] T (0, 0))
  out : w.heap[po]? = some (.cells #[ov] 25 (0, 0))
  own : w.ownsRow C 9 1 ov O.length (O.map Value.string)
  b : Below W.heap.size W w
  lt : W.heap.size ≤ pi ∧ W.heap.size ≤ po ∧ W.heap.size ≤ pm ∧ pi ≠ po ∧ pi ≠ pm ∧ po ≠ pm ∧ pi < C ∧ po < C ∧ pm < C ∧ C ≤ w.heap.size
theorem MV.below {W w w' : World} {pi po pm C : Nat} {zv ov : Value} {O : List ByteArray} (h : MV W pi po pm C zv ov O w) (hb : Below w.heap.size w w') : MV W pi po pm C zv ov O w' := by
  obtain ⟨h1, ⟨T2, h2⟩, h3, h4, h5, h6⟩ := h
  exact ⟨blk_below h1 hb (blk_lt h1), ⟨T2, blk_below h2 hb (blk_lt h2)⟩, blk_below h3 hb (blk_lt h3), owns_below h4 hb (Nat.le_refl _), below_from h5 hb h5.size, by have := hb.size; omega⟩
theorem own_far {w : World} {C T sz n : Nat} {v : Value} {l : List Value} {ov : Value} (h : w.ownsRow C T sz v n l) {k : Nat} (hk : v.ownBlock = some k) : C ≤ k := by
  rcases h.2 with ⟨rfl, _⟩ | ⟨g, cap, cur, rfl, hg, _⟩
  · cases hk
  · cases hk; exact hg
theorem MV.push {W w3 w4 w5 : World} {pi po pm C : Nat} {zv ov : Value} {O : List ByteArray} (h : MV W pi po pm C zv ov O w3) (hb : Below w3.heap.size w3 w4) {g c N : Nat} {R : ByteArray}
    (hown : w5.ownsRow C 9 1 (.slice (some ⟨g, 0, none⟩) N c) N (O.map Value.string ++ [Value.string R])) (hN : N = O.length + 1) (hgr : w4.grownBy w5 ov.ownBlock) :
    w5.heap[po]? = some (.cells #[ov] 25 (0, 0)) ∧ MV W pi po pm C zv (.slice (some ⟨g, 0, none⟩) N c) (O ++ [R]) (w5.setCell ⟨po, 0, none⟩ (.slice (some ⟨g, 0, none⟩) N c)) := by
  obtain ⟨h1, ⟨T2, h2⟩, h3, h4, h5, e1, e2, e3, e4, e5, e6, e7, e8, e9, e10⟩ := h.below hb
  have hne : ∀ q, q < C → some q ≠ ov.ownBlock := fun q hq he => by have := own_far (ov := ov) h4 he.symm; omega
  have hp := blk_only h3 hgr (hne po e8)
  refine ⟨hp, ⟨blk_far (blk_only h1 hgr (hne pi e7)) (p := ⟨po, 0, none⟩) e4 _, ⟨T2, blk_far (blk_only h2 hgr (hne pm e9)) (p := ⟨po, 0, none⟩) (fun e => e6 e.symm) _⟩, blk_set hp 0 _, ?_, ?_, e1, e2, e3, e4, e5, e6, e7, e8, e9, ?_⟩⟩
  · have hl : (O ++ [R]).length = N := by rw [hN]; simp
    rw [hl, List.map_append, List.map_cons, List.map_nil]
    rcases hown.2 with ⟨h0, _⟩ | ⟨g', cap', cur, hv, hbg, hg, hr⟩
    · cases h0
    · refine ⟨hown.1, .inr ⟨g', cap', cur, hv, hbg, blk_far hg (p := ⟨po, 0, none⟩) (fun e => ?_) _, hr⟩⟩
      have : g' = po := e
      omega
  · exact (h5.grown hgr (by omega) (fun k hk => by have := own_far (ov := ov) h4 hk; omega)).setCell (p := ⟨po, 0, none⟩) e2 _
  · have := hgr.size
    have := ((Below.refl 0 w5).setCell (p := ⟨po, 0, none⟩) (Nat.zero_le _) (.slice (some ⟨g, 0, none⟩) N c)).size
    omega
theorem ints_below {w w' : World} {B : Nat} {v : Value} {L : List Int} (h : Ints w v L) (hb : Below B w w') (hB : w.heap.size ≤ B) : Ints w' v L := by
  obtain ⟨p, c, h1, h2, h3, h4, h5⟩ := h
  exact ⟨p, c, h1, h2, h3, h4, fun j x hx => by
    obtain ⟨a, ha, hc⟩ := h5 j x hx
    exact ⟨a, ha, (hb.cell (Nat.lt_of_lt_of_le (block_lt_of_cell hc) hB)).trans hc⟩⟩

theorem one_cells (w : World) (R : ByteArray) : ∀ j u, [Value.string R][j]? = some u → (w.alloc (.cells #[Value.string R] 9)).cell? ((⟨w.heap.size, 0, none⟩ : Addr).add j) = some u := by
  intro j u hu
  have hadd : (⟨w.heap.size, 0, none⟩ : Addr).add j = ⟨w.heap.size, j, none⟩ := by unfold Addr.add; split <;> simp_all
  rw [hadd, World.cell?_alloc_at _ _ _ _ rfl]
  simpa using hu
set_option maxRecDepth 100000 in
set_option maxHeartbeats 4000000 in
theorem many1_any (W : World) (pi po pm C : Nat) (pz : Option Addr) (nz cz : Nat) (Z : List Int) (ht : Tabs W) (hz : Ints W (.slice pz nz cz) Z) (hs : Z.Pairwise (· < ·)) (hzl : Z.length ≤ 1048576) (n : Nat) :
    ∀ (b : Nat) (L : List ByteArray) (p : Option Addr) (c : Nat) (ov : Value) (O : List ByteArray) (w : World), Txts W (.slice p n c) L → L.length = n → 1 ≤ n → b + n ≤ 1048576 → O.length + n ≤ 1048576 → MV W pi po pm C (.slice pz nz cz) ov O w →
    Calls Tryd.prog 78 #[.int .i64 b, .slice p n c, .pointer (some ⟨pi, 0, none⟩), .pointer (some ⟨po, 0, none⟩), .pointer (some ⟨pm, 0, none⟩)] w fun e w' => e = .returned (.tuple #[]) ∧ ∃ ov', MV W pi po pm C (.slice pz nz cz) ov' (O ++ manyZ b L Z) w' := by
  induction n using Nat.strongRecOn with
  | ind n ih =>
    intro b L p c ov O w hv hL h1 hbn hO hm
    have IH := Lib.hid ih
    have HT := Lib.hid ht
    have HV := Lib.hid hv
    have HM := Lib.hid hm
    have HB := Lib.hid (fun w' (h : Below W.heap.size W w') => binsearch_any (.slice pz nz cz) Z b w' (ints_below hz h (Nat.le_refl _)) hs hzl)
    have HR := Lib.hid (fun w' (h : Below W.heap.size W w') => root_any p n c L w' (ht.below h) (hv.below h (Nat.le_refl _)) hL (by omega))
    obtain ⟨N1, hN1⟩ : ∃ N1, N1 = O.length + 1 := ⟨_, rfl⟩
    have HN1 := Lib.hid hN1
    have hpos : 0 < N1 := by omega
    have hbd1 : N1 * 16 ≤ 140737488355328 := by omega
    have hbd2 : N1 ≤ 140737488355328 := by omega
    clear hN1
    have hci := cell_of_one hm.zi
    obtain ⟨hnz, hzc⟩ : nz = Z.length ∧ ∀ j z, Z[j]? = some z → ∃ a, pz = some a ∧ w.cell? (a.add j) = some (.int .i64 z) := by
      obtain ⟨q, c', he, h1, h2, h3, h4⟩ := ints_below hz hm.b (Nat.le_refl _)
      cases he
      exact ⟨rfl, h4⟩
    have HZC := Lib.hid hzc
    have HNZ := Lib.hid hnz
    have HS := Lib.hid hs
    have HL := Lib.hid hL
    clear ih ht hv hm hz hzc hs hL hnz
    go_enter Tryd.func78, Tryd.ntmps78
    go_upto_region 1 with (go_at_call 79; with_reducible refine (HB.out w HM.out.b).mono ?_; rintro r wx ⟨hbr, hw⟩; unfold binR at hbr; obtain ⟨at_, fb, rfl, hat, ha1, ha2⟩ := hbr; rw [hw]; clear hw wx)
    have HIN := Lib.hid (inZ_search (n := n) ha1 ha2 HS.out)
    clear ha1 ha2
    have hatz : at_ ≤ nz := by have := HNZ.out; omega
    have hnzb : nz ≤ 1048576 := by have := HNZ.out; omega
    clear hat hzl
    rcases Nat.lt_or_ge at_ nz with hlt | hge
    · obtain ⟨z, hzz⟩ : ∃ z, Z[at_]? = some z := ⟨Z[at_]'(by have := HNZ.out; omega), List.getElem?_eq_getElem _⟩
      obtain ⟨a, rfl, hcz⟩ := HZC.out at_ z hzz
      have e1 : ((at_ : Int) == (nz : Int)) = false := beq_eq_false_iff_ne.2 (by omega)
      have hai : (at_ : Int) < (nz : Int) := by omega
      have ha0 : (0 : Int) ≤ (at_ : Int) := by omega
      by_cases hzb : z < (b : Int) + (n : Int)
      · have hin : inZ b L.length Z = true := by
          have h := HIN.out
          rw [hzz] at h
          rw [HL.out, h]
          exact decide_eq_true hzb
        have hnb : ¬ ((b : Int) + (n : Int) ≤ z) := by omega
        have HINT := Lib.hid hin
        clear hin hzz hlt HIN hatz
        by_cases hn2 : 2 ≤ n
        · obtain ⟨k, hk⟩ : ∃ k, k = spl n := ⟨_, rfl⟩
          have hsp := spl_lt hn2
          rw [← hk] at hsp
          obtain ⟨m, hmm⟩ : ∃ m, m = n - k := ⟨_, rfl⟩
          obtain ⟨bk, hbk⟩ : ∃ x, x = b + k := ⟨_, rfl⟩
          have hnc : n ≤ c := by obtain ⟨_, _, he, h2, _⟩ := HV.out; cases he; rw [HL.out] at *; omega
          have hpt := fun w' => parts_any p n c w' hn2 hnc (by omega)
          rw [← hk, ← hmm] at hpt
          have HPT := Lib.hid hpt
          have hlk : (L.take k).length = k := by rw [List.length_take, HL.out]; omega
          have hlm : (L.drop k).length = m := by rw [List.length_drop, HL.out, hmm]
          have hml := manyZ_len k b (L.take k) Z hlk (by omega)
          have iha := fun w' h => IH.out k (by omega) b (L.take k) p k ov O w' (HV.out.left (by omega)) hlk (by omega) (by omega) (by omega) h
          have ihb := fun ov' w' h => IH.out m (by omega) bk (L.drop k) (p.map (·.add k)) m ov' (O ++ manyZ b (L.take k) Z) w' (by have := HV.out.right (k := k) (by omega); rw [← hmm] at this; exact this) hlm (by omega) (by omega) (by rw [List.length_append]; omega) h
          have htwo : O ++ manyZ b L Z = (O ++ manyZ b (L.take k) Z) ++ manyZ bk (L.drop k) Z := by rw [manyZ_two (k := k) (by rw [HL.out, hk]) HINT.out (by rw [HL.out]; exact hn2), List.append_assoc, hbk]
          have HTWO := Lib.hid htwo
          have IHA := Lib.hid iha
          have IHB := Lib.hid ihb
          have hbki : (b : Int) + (k : Int) = (bk : Int) := by omega
          have hn2i : (1 : Int) < (n : Int) := by omega
          have hkb : k ≤ 1048576 := by omega
          have hmb : m ≤ 1048576 := by omega
          have hbkb : bk ≤ 1048576 := by omega
          clear hsp hk hmm hbk hnc hpt hlk hlm hml iha ihb htwo hn2 IH HZC HS HB HR hpos hbd1 hbd2
          generalize O ++ manyZ b (L.take k) Z = O1 at IHA IHB HTWO
          go_upto_region 5 with (go_at_call 73; with_reducible refine (HPT.out w).mono ?_; rintro r w2 ⟨rfl, hb⟩; have HM2 := Lib.hid (HM.out.below hb); clear hb)
          obtain ⟨T2, hself2⟩ := HM2.out.self
          have hcs2 := cell_of_one hself2
          clear hself2
          go_wp2_with (first
            | (go_at_call 78; with_reducible refine (IHA.out w2 HM2.out).mono ?_; rintro r w3 ⟨rfl, ov3, hm3⟩; have HM3 := Lib.hid hm3; obtain ⟨T3, hself3⟩ := HM3.out.self; have hcs3 := cell_of_one hself3; clear hm3 hself3)
            | (go_at_call 78; with_reducible refine (IHB.out ov3 w3 HM3.out).mono ?_; rintro r w4 ⟨rfl, ov4, hm4⟩; have HM4 := Lib.hid hm4; clear hm4))
          go_end0
          exact ⟨rfl, _, by rw [HTWO.out]; exact HM4.out⟩
        · have hn1 : n = 1 := by omega
          have hone : manyZ b L Z = [] := manyZ_one HINT.out (by rw [HL.out]; omega)
          have HOUT := Lib.hid hone
          have hn2i : ¬ ((1 : Int) < (n : Int)) := by omega
          clear hone hn1 hn2
          go_wp2_with fail
          go_end0
          exact ⟨rfl, _, by rw [HOUT.out, List.append_nil]; exact HM.out⟩
      · have hout : manyZ b L Z = [rootR L] := manyZ_out (by
          have h := HIN.out
          rw [hzz] at h
          rw [HL.out, h]
          exact decide_eq_false hzb)
        obtain ⟨R, hR⟩ : ∃ R, R = rootR L := ⟨_, rfl⟩
        rw [← hR] at HR hout
        have HOUT := Lib.hid hout
        have hge2 : (b : Int) + (n : Int) ≤ z := by omega
        have HONE : Hid (∀ u ∈ [Value.string R], u.oneCell' = true) := Lib.hid (by intro u hu; simp only [List.mem_singleton] at hu; rw [hu]; rfl)
        clear hout hzz hlt hatz hzb hR
        clear HZC HIN HS IH HNZ HB
        go_upto_region 2 with fail
        have HMd : Hid (MV W pi po pm C _ ov O w.drew) := Lib.hid (HM.out.below (Below.refl _ _).drew)
        have hcd := cell_of_one HMd.out.out
        go_region_law (first
          | (refine step_appendV rfl (.tmp 33) (.tmp 36) rfl Tryd.underlying25 (.string ⟨#[]⟩) 1 info_str rfl (by decide) [Value.string R] 1 N1 ⟨w3.heap.size, 0, none⟩ rfl rfl (HM3.out.own.alloc _) rfl HC4.out HONE.out HC5.out HN1.out hpos hbd1 hbd2 ?_; intro g cg w5 hg hown hgr; obtain ⟨hpo5, hm6⟩ := HM3.out.push ((Below.refl _ _).alloc (Nat.le_refl _) _) hown HN1.out hgr; have hc5 := cell_of_one hpo5; have hf5 := free_of_one hpo5; have HM6 := Lib.hid hm6; clear hg hown hgr hpo5 hm6)
          | (go_simp; go_at_call 69; with_reducible refine (HR.out w.drew HMd.out.b).mono ?_; rintro r w3 ⟨rfl, hb⟩; have HM3 := Lib.hid (HMd.out.below hb); have hc3 := cell_of_one HM3.out.out; have hc4 := cell_of_one (blk_alloc (o' := .cells #[.string R] 9) HM3.out.out); have HC4 := Lib.hid (one_cells w3 R); have HC5 : Hid (C ≤ (w3.alloc (.cells #[.string R] 9)).heap.size) := Lib.hid (by have := HM3.out.lt; simp; omega); clear hb))
        all_goals
          go_wp2_with fail
          go_end0
          exact ⟨rfl, _, by rw [HOUT.out]; exact HM6.out⟩
    · have hateq : at_ = nz := by omega
      have hout : manyZ b L Z = [rootR L] := manyZ_out (by
        have h := HIN.out
        rw [List.getElem?_eq_none (by have := HNZ.out; omega)] at h
        rw [HL.out, h])
      obtain ⟨R, hR⟩ : ∃ R, R = rootR L := ⟨_, rfl⟩
      rw [← hR] at HR hout
      have HOUT := Lib.hid hout
      have e1 : ((at_ : Int) == (nz : Int)) = true := beq_iff_eq.2 (by omega)
      have HONE : Hid (∀ u ∈ [Value.string R], u.oneCell' = true) := Lib.hid (by intro u hu; simp only [List.mem_singleton] at hu; rw [hu]; rfl)
      clear hout hge hatz hR hateq
      clear HZC HIN HS IH HNZ HB
      go_upto_region 2 with fail
      have HMd : Hid (MV W pi po pm C _ ov O w.drew) := Lib.hid (HM.out.below (Below.refl _ _).drew)
      have hcd := cell_of_one HMd.out.out
      go_region_law (first
        | (refine step_appendV rfl (.tmp 33) (.tmp 36) rfl Tryd.underlying25 (.string ⟨#[]⟩) 1 info_str rfl (by decide) [Value.string R] 1 N1 ⟨w3.heap.size, 0, none⟩ rfl rfl (HM3.out.own.alloc _) rfl HC4.out HONE.out HC5.out HN1.out hpos hbd1 hbd2 ?_; intro g cg w5 hg hown hgr; obtain ⟨hpo5, hm6⟩ := HM3.out.push ((Below.refl _ _).alloc (Nat.le_refl _) _) hown HN1.out hgr; have hc5 := cell_of_one hpo5; have hf5 := free_of_one hpo5; have HM6 := Lib.hid hm6; clear hg hown hgr hpo5 hm6)
        | (go_simp; go_at_call 69; with_reducible refine (HR.out w.drew HMd.out.b).mono ?_; rintro r w3 ⟨rfl, hb⟩; have HM3 := Lib.hid (HMd.out.below hb); have hc3 := cell_of_one HM3.out.out; have hc4 := cell_of_one (blk_alloc (o' := .cells #[.string R] 9) HM3.out.out); have HC4 := Lib.hid (one_cells w3 R); have HC5 : Hid (C ≤ (w3.alloc (.cells #[.string R] 9)).heap.size) := Lib.hid (by have := HM3.out.lt; simp; omega); clear hb))
      all_goals
        go_wp2_with fail
        go_end0
        exact ⟨rfl, _, by rw [HOUT.out]; exact HM6.out⟩
end Go.Proofs.YtejdpahgofhioaaDoor
