/- Layer 4, walked: RootsOf's closure. -/
import Derived.Test.YtdbghgpohdijfaaGreatDoorMa25
import Derived.Test.YtdbghgpohdijfaaGreatDoorMa2
namespace Go.Proofs.YtdbghgpohdijfaaGreatDoor
open Go.RowKit Go.Scr
set_option linter.unusedVariables false

def joinB (b : Bool) (s : ByteArray) (r : ByteArray × ByteArray) : ByteArray × ByteArray := if b then (nodeS s r.1, nodeS s r.2) else (r.1, nodeS r.2 s)
/-- where two ways up stand -/
structure Up2 (L : List ByteArray) (pl pa pb g gc k : Nat) (r : ByteArray × ByteArray) (w : World) : Prop where
  l : ∃ a, BoxL w pl a (L.length - k) (L.length - k) ∧ (k < L.length → a = some ⟨g, k, none⟩)
  a : BoxS w pa r.1
  b : BoxS w pb r.2
  row : SRow w g L
  lt : gc < w.heap.size
/-- one joined hash stored into a box: what stays -/
theorem Up2.only {L : List ByteArray} {pl pa pb g gc k : Nat} {r : ByteArray × ByteArray} {w w' : World} (h : Up2 L pl pa pb g gc k r w) (hg : w.grownBy w' (some gc)) (h1 : pl ≠ gc) (h2 : pa ≠ gc) (h4 : pb ≠ gc) (h3 : g ≠ gc) : Up2 L pl pa pb g gc k r w' := by
  obtain ⟨⟨a, ha, hb⟩, h5, h6, h7, h8⟩ := h
  exact ⟨⟨a, blk_only ha hg (by simpa using h1), hb⟩, blk_only h5 hg (by simpa using h2), blk_only h6 hg (by simpa using h4), blk_only h7 hg (by simpa using h3), Nat.lt_of_lt_of_le h8 hg.size⟩
theorem Up2.below {L : List ByteArray} {pl pa pb g gc k : Nat} {r : ByteArray × ByteArray} {w w' : World} (h : Up2 L pl pa pb g gc k r w) (hb : Below w.heap.size w w') : Up2 L pl pa pb g gc k r w' := by
  obtain ⟨⟨a, ha, hba⟩, h5, h6, h7, h8⟩ := h
  exact ⟨⟨a, blk_below ha hb (blk_lt ha), hba⟩, blk_below h5 hb (blk_lt h5), blk_below h6 hb (blk_lt h6), blk_below h7 hb (blk_lt h7), Nat.lt_of_lt_of_le h8 hb.size⟩
theorem Up2.seta {L : List ByteArray} {pl pa pb g gc k : Nat} {r : ByteArray × ByteArray} {w : World} (h : Up2 L pl pa pb g gc k r w) (h1 : pl ≠ pa) (h2 : pb ≠ pa) (h3 : g ≠ pa) (x : ByteArray) : Up2 L pl pa pb g gc k (x, r.2) (w.setCell ⟨pa, 0, none⟩ (.string x)) := by
  obtain ⟨⟨a, ha, hba⟩, h5, h6, h7, h8⟩ := h
  exact ⟨⟨a, blk_far (p := ⟨pa, 0, none⟩) ha h1 _, hba⟩, h5.set x, blk_far (p := ⟨pa, 0, none⟩) h6 h2 _, blk_far (p := ⟨pa, 0, none⟩) h7 h3 _, by simpa using h8⟩
theorem Up2.setb {L : List ByteArray} {pl pa pb g gc k : Nat} {r : ByteArray × ByteArray} {w : World} (h : Up2 L pl pa pb g gc k r w) (h1 : pl ≠ pb) (h2 : pa ≠ pb) (h3 : g ≠ pb) (x : ByteArray) : Up2 L pl pa pb g gc k (r.1, x) (w.setCell ⟨pb, 0, none⟩ (.string x)) := by
  obtain ⟨⟨a, ha, hba⟩, h5, h6, h7, h8⟩ := h
  exact ⟨⟨a, blk_far (p := ⟨pb, 0, none⟩) ha h1 _, hba⟩, blk_far (p := ⟨pb, 0, none⟩) h5 h2 _, h6.set x, blk_far (p := ⟨pb, 0, none⟩) h7 h3 _, by simpa using h8⟩
theorem Up2.box {L : List ByteArray} {pl pa pb g gc k : Nat} {r : ByteArray × ByteArray} {w : World} (h : Up2 L pl pa pb g gc k r w) (hk : k < L.length) : BoxL w pl (some ⟨g, k, none⟩) (L.length - k) (L.length - k) := by
  obtain ⟨a, ha, hb⟩ := h.l
  rw [hb hk] at ha
  exact ha
theorem Up2.setl0 {L : List ByteArray} {pl pa pb g gc k n : Nat} {r : ByteArray × ByteArray} {w : World} (h : Up2 L pl pa pb g gc k r w) (hk : k < L.length) (hn : L.length - k = 0 + 1) (h1 : pa ≠ pl) (h2 : pb ≠ pl) (h3 : g ≠ pl) : Up2 L pl pa pb g gc (k + 1) r (w.setCell ⟨pl, 0, none⟩ (.slice (some ⟨g, k, none⟩) 0 0)) := by
  obtain ⟨⟨a, ha, hba⟩, h5, h6, h7, h8⟩ := h
  refine ⟨⟨_, by have := BoxL.set ha (some ⟨g, k, none⟩) 0 0; rwa [show L.length - (k + 1) = 0 by omega], fun h => by omega⟩, blk_far (p := ⟨pl, 0, none⟩) h5 h1 _, blk_far (p := ⟨pl, 0, none⟩) h6 h2 _, blk_far (p := ⟨pl, 0, none⟩) h7 h3 _, by simpa using h8⟩
theorem Up2.setl {L : List ByteArray} {pl pa pb g gc k m : Nat} {r : ByteArray × ByteArray} {w : World} (h : Up2 L pl pa pb g gc k r w) (hk : k < L.length) (hn : L.length - k = m + 1) (h1 : pa ≠ pl) (h2 : pb ≠ pl) (h3 : g ≠ pl) : Up2 L pl pa pb g gc (k + 1) r (w.setCell ⟨pl, 0, none⟩ (.slice (some ⟨g, k + 1, none⟩) m m)) := by
  obtain ⟨⟨a, ha, hba⟩, h5, h6, h7, h8⟩ := h
  refine ⟨⟨_, by have := BoxL.set ha (some ⟨g, k + 1, none⟩) m m; rwa [show L.length - (k + 1) = m by omega], fun h => rfl⟩, blk_far (p := ⟨pl, 0, none⟩) h5 h1 _, blk_far (p := ⟨pl, 0, none⟩) h6 h2 _, blk_far (p := ⟨pl, 0, none⟩) h7 h3 _, by simpa using h8⟩

set_option maxRecDepth 100000 in
set_option maxHeartbeats 2000000 in
theorem rootsof1_any (b : Bool) (L : List ByteArray) (pl pa pb g gc k : Nat) (s : ByteArray) (r : ByteArray × ByteArray) (w : World) (h : Up2 L pl pa pb g gc k r w) (hk : L[k]? = some s) (hl : L.length ≤ 1048576)
    (h1 : pl ≠ pa) (h2 : pl ≠ pb) (h3 : pa ≠ pb) (h4 : g ≠ pl) (h5 : g ≠ pa) (h6 : g ≠ pb) (h7 : gc ≠ pl) (h8 : gc ≠ pa) (h9 : gc ≠ pb) (B : Nat) (hB1 : B ≤ pl) (hB2 : B ≤ pa) (hB3 : B ≤ pb) (hBw : B ≤ w.heap.size) (ht : Tabs w)
    (htb : ∀ w', Below B w w' → Tabs w') :
    Calls Tryz.prog 90 #[.bool b, .pointer (some ⟨pl, 0, none⟩), .pointer (some ⟨pa, 0, none⟩), .pointer (some ⟨pb, 0, none⟩)] w fun e w' => e = .returned (.tuple #[]) ∧ Up2 L pl pa pb g gc (k + 1) (joinB b s r) w' ∧ Below B w w' ∧ w'.heap[gc]? = w.heap[gc]? := by
  obtain ⟨ra, rb⟩ := r
  have hkl : k < L.length := (List.getElem?_eq_some_iff.mp hk).1
  obtain ⟨n, hn⟩ : ∃ n, n = L.length - k := ⟨_, rfl⟩
  obtain ⟨m, hm⟩ : ∃ m, m = n - 1 := ⟨_, rfl⟩
  have hn0 : (0 : Int) < (n : Int) := by omega
  have hn1 : (1 : Int) ≤ (n : Int) := by omega
  have hnm : n = m + 1 := by omega
  have HJ := Lib.hid (fun b r w' (ht : Tabs w') => joined_any b s r w' ht)
  have HTB := Lib.hid htb
  have HN := Lib.hid hn
  -- what any later world tells of the boxes
  have HX := Lib.hid (fun (w' : World) (x : ByteArray × ByteArray) (hu : Up2 L pl pa pb g gc k x w') => (⟨by rw [hn]; exact (hu.box hkl).c, (hu.box hkl).k, hu.a.c, hu.a.k, hu.b.c, hu.b.k, hu.row.cell hk⟩ :
    w'.cell? ⟨pl, 0, none⟩ = some (.slice (some ⟨g, k, none⟩) n n) ∧ w'.frozen? ⟨pl, 0, none⟩ = false ∧ w'.cell? ⟨pa, 0, none⟩ = some (.string x.1) ∧ w'.frozen? ⟨pa, 0, none⟩ = false ∧ w'.cell? ⟨pb, 0, none⟩ = some (.string x.2) ∧ w'.frozen? ⟨pb, 0, none⟩ = false ∧ w'.cell? ⟨g, k, none⟩ = some (.string s)))
  have H := Lib.hid h
  have HT := Lib.hid ht
  clear h ht hn hm htb
  -- the end: the list is one shorter
  cases b with
  | false =>
    obtain ⟨c0, k0, c1, k1, c2, k2, c3⟩ := HX.out w _ H.out
    go_enter Tryz.func90, Tryz.ntmps90
    go_upto_region 2 with fail
    go_still_tail 5, (by kernel_rfl)
    change wpList _ _ _ _ _ w.drew
    have HU : Hid (Up2 L pl pa pb g gc k (ra, rb) w.drew) := Lib.hid ⟨H.out.l, H.out.a, H.out.b, H.out.row, H.out.lt⟩
    have HB0 : Hid (Below B w w.drew) := Lib.hid (Below.refl B w).drew
    have HZ0 : Hid (B ≤ w.drew.heap.size) := Lib.hid hBw
    have HG0 : Hid (w.drew.heap[gc]? = w.heap[gc]?) := Lib.hid rfl
    generalize w.drew = wd at HU HB0 HZ0 HG0 ⊢
    clear c0 k0 c1 k1 c2 k2 c3
    go_upto_region 3 with (go_at_call 73; with_reducible refine (HJ.out false rb wd (HTB.out wd HB0.out)).mono ?_; rintro e w2 ⟨rfl, hb⟩; have HB := Lib.hid hb; have HU2 := Lib.hid (HU.out.below hb); clear hb; have c4 := BoxS.c (HU2.out.b); have k4 := BoxS.k (HU2.out.b))
    have HU3 : Hid (Up2 L pl pa pb g gc k (ra, nodeS rb s) (w2.setCell ⟨pb, 0, none⟩ (.string (nodeS rb s)))) := Lib.hid (HU2.out.setb h2 h3 h6 _)
    have HB3 : Hid (Below B w (w2.setCell ⟨pb, 0, none⟩ (.string (nodeS rb s)))) := Lib.hid ((below_from HB0.out HB.out HZ0.out).trans (step_below _ hB3 (Nat.le_trans HZ0.out HB.out.size)))
    have HG3 : Hid ((w2.setCell ⟨pb, 0, none⟩ (.string (nodeS rb s))).heap[gc]? = w.heap[gc]?) := Lib.hid ((Below.heap_setCell w2 ⟨pb, 0, none⟩ _ gc h9).trans ((HB.out.block gc HU.out.lt).trans HG0.out))
    have HZ3 : Hid (B ≤ (w2.setCell ⟨pb, 0, none⟩ (.string (nodeS rb s))).heap.size) := Lib.hid (by have := HB.out.size; have := HZ0.out; simp; omega)
    generalize w2.setCell ⟨pb, 0, none⟩ (.string (nodeS rb s)) = w3 at HU3 HB3 HG3 HZ3 ⊢
    clear HU HB0 HZ0 HG0 HB HU2 c4 k4
    have hnk : L.length - k = m + 1 := by have := HN.out; omega
    have HNK := Lib.hid hnk
    clear hnk
    obtain ⟨c5, k5, _, _, _, _, _⟩ := HX.out w3 _ HU3.out
    have HBK : Hid (∀ x, Below B w (w3.setCell ⟨pl, 0, none⟩ x)) := Lib.hid fun x => HB3.out.trans (step_below _ hB1 HZ3.out)
    have HGK : Hid (∀ x, (w3.setCell ⟨pl, 0, none⟩ x).heap[gc]? = w.heap[gc]?) := Lib.hid fun x => (Below.heap_setCell w3 ⟨pl, 0, none⟩ x gc h7).trans HG3.out
    rcases Nat.eq_zero_or_pos m with hm0 | hm0
    · subst hm0
      go_wp2
      go_end0
      exact ⟨rfl, HU3.out.setl0 (n := 0) hkl HNK.out h1.symm h2.symm h4, HBK.out _, HGK.out _⟩
    · have hm1 : ¬ (m = 0) := by omega
      go_wp2
      go_end0
      exact ⟨rfl, HU3.out.setl hkl HNK.out h1.symm h2.symm h4, HBK.out _, HGK.out _⟩
  | true =>
    obtain ⟨c0, k0, c1, k1, c2, k2, c3⟩ := HX.out w _ H.out
    go_enter Tryz.func90, Tryz.ntmps90
    go_upto_region 1 with fail
    go_still_tail 4, (by kernel_rfl)
    change wpList _ _ _ _ _ w.drew
    have HU : Hid (Up2 L pl pa pb g gc k (ra, rb) w.drew) := Lib.hid ⟨H.out.l, H.out.a, H.out.b, H.out.row, H.out.lt⟩
    have HB0 : Hid (Below B w w.drew) := Lib.hid (Below.refl B w).drew
    have HZ0 : Hid (B ≤ w.drew.heap.size) := Lib.hid hBw
    have HG0 : Hid (w.drew.heap[gc]? = w.heap[gc]?) := Lib.hid rfl
    generalize w.drew = wd at HU HB0 HZ0 HG0 ⊢
    clear c0 k0 c1 k1 c2 k2 c3
    go_upto_region 2 with (go_at_call 73; with_reducible refine (HJ.out true ra wd (HTB.out wd HB0.out)).mono ?_; rintro e w2 ⟨rfl, hb⟩; have HB := Lib.hid hb; have HU2 := Lib.hid (HU.out.below hb); clear hb; have c4 := BoxS.c (HU2.out.a); have k4 := BoxS.k (HU2.out.a))
    have HU3 : Hid (Up2 L pl pa pb g gc k (nodeS s ra, rb) (w2.setCell ⟨pa, 0, none⟩ (.string (nodeS s ra)))) := Lib.hid (HU2.out.seta h1 h3.symm h5 _)
    have HB3 : Hid (Below B w (w2.setCell ⟨pa, 0, none⟩ (.string (nodeS s ra)))) := Lib.hid ((below_from HB0.out HB.out HZ0.out).trans (step_below _ hB2 (Nat.le_trans HZ0.out HB.out.size)))
    have HG3 : Hid ((w2.setCell ⟨pa, 0, none⟩ (.string (nodeS s ra))).heap[gc]? = w.heap[gc]?) := Lib.hid ((Below.heap_setCell w2 ⟨pa, 0, none⟩ _ gc h8).trans ((HB.out.block gc HU.out.lt).trans HG0.out))
    have HZ3 : Hid (B ≤ (w2.setCell ⟨pa, 0, none⟩ (.string (nodeS s ra))).heap.size) := Lib.hid (by have := HB.out.size; have := HZ0.out; simp; omega)
    generalize w2.setCell ⟨pa, 0, none⟩ (.string (nodeS s ra)) = w3 at HU3 HB3 HG3 HZ3 ⊢
    clear HU HB0 HZ0 HG0 HB HU2 c4 k4
    obtain ⟨c0, k0, c1, k1, c2, k2, c3⟩ := HX.out w3 _ HU3.out
    go_still_tail 5, (by kernel_rfl)
    change wpList _ _ _ _ _ w3.drew
    have HU : Hid (Up2 L pl pa pb g gc k (nodeS s ra, rb) w3.drew) := Lib.hid ⟨HU3.out.l, HU3.out.a, HU3.out.b, HU3.out.row, HU3.out.lt⟩
    have HB0 : Hid (Below B w w3.drew) := Lib.hid HB3.out.drew
    have HZ0 : Hid (B ≤ w3.drew.heap.size) := HZ3
    have HG0 : Hid (w3.drew.heap[gc]? = w.heap[gc]?) := HG3
    generalize w3.drew = wd at HU HB0 HZ0 HG0 ⊢
    clear c0 k0 c1 k1 c2 k2 c3 HU3 HB3 HG3 HZ3
    go_upto_region 3 with (go_at_call 73; with_reducible refine (HJ.out true rb wd (HTB.out wd HB0.out)).mono ?_; rintro e w2 ⟨rfl, hb⟩; have HB := Lib.hid hb; have HU2 := Lib.hid (HU.out.below hb); clear hb; have c4 := BoxS.c (HU2.out.b); have k4 := BoxS.k (HU2.out.b))
    have HU3 : Hid (Up2 L pl pa pb g gc k (nodeS s ra, nodeS s rb) (w2.setCell ⟨pb, 0, none⟩ (.string (nodeS s rb)))) := Lib.hid (HU2.out.setb h2 h3 h6 _)
    have HB3 : Hid (Below B w (w2.setCell ⟨pb, 0, none⟩ (.string (nodeS s rb)))) := Lib.hid ((below_from HB0.out HB.out HZ0.out).trans (step_below _ hB3 (Nat.le_trans HZ0.out HB.out.size)))
    have HG3 : Hid ((w2.setCell ⟨pb, 0, none⟩ (.string (nodeS s rb))).heap[gc]? = w.heap[gc]?) := Lib.hid ((Below.heap_setCell w2 ⟨pb, 0, none⟩ _ gc h9).trans ((HB.out.block gc HU.out.lt).trans HG0.out))
    have HZ3 : Hid (B ≤ (w2.setCell ⟨pb, 0, none⟩ (.string (nodeS s rb))).heap.size) := Lib.hid (by have := HB.out.size; have := HZ0.out; simp; omega)
    generalize w2.setCell ⟨pb, 0, none⟩ (.string (nodeS s rb)) = w3 at HU3 HB3 HG3 HZ3 ⊢
    clear HU HB0 HZ0 HG0 HB HU2 c4 k4
    have hnk : L.length - k = m + 1 := by have := HN.out; omega
    have HNK := Lib.hid hnk
    clear hnk
    obtain ⟨c5, k5, _, _, _, _, _⟩ := HX.out w3 _ HU3.out
    have HBK : Hid (∀ x, Below B w (w3.setCell ⟨pl, 0, none⟩ x)) := Lib.hid fun x => HB3.out.trans (step_below _ hB1 HZ3.out)
    have HGK : Hid (∀ x, (w3.setCell ⟨pl, 0, none⟩ x).heap[gc]? = w.heap[gc]?) := Lib.hid fun x => (Below.heap_setCell w3 ⟨pl, 0, none⟩ x gc h7).trans HG3.out
    rcases Nat.eq_zero_or_pos m with hm0 | hm0
    · subst hm0
      go_wp2
      go_end0
      exact ⟨rfl, HU3.out.setl0 (n := 0) hkl HNK.out h1.symm h2.symm h4, HBK.out _, HGK.out _⟩
    · have hm1 : ¬ (m = 0) := by omega
      go_wp2
      go_end0
      exact ⟨rfl, HU3.out.setl hkl HNK.out h1.symm h2.symm h4, HBK.out _, HGK.out _⟩
end Go.Proofs.YtdbghgpohdijfaaGreatDoor
/- Layer 4, walked: RootsOf. -/
namespace Go.Proofs.YtdbghgpohdijfaaGreatDoor
open Go.RowKit Go.Scr
set_option linter.unusedVariables false

theorem climbB_next {D : List Bool} {L : List ByteArray} {r0 : ByteArray × ByteArray} {k : Nat} {b : Bool} {s : ByteArray} (hb : D[k]? = some b) (hs : L[k]? = some s) :
    joinB b s (climbB nodeS (D.take k) (L.take k) r0) = climbB nodeS (D.take k ++ [b]) (L.take (k + 1)) r0 := by
  obtain ⟨h1, h2⟩ := List.getElem?_eq_some_iff.mp hs
  obtain ⟨h3, h4⟩ := List.getElem?_eq_some_iff.mp hb
  rw [List.take_succ_eq_append_getElem h1, h2, climbB_snoc _ _ _ _ _ _ (by rw [List.length_take, List.length_take]; omega)]
  rfl
theorem up2_steps (W w : World) (L : List ByteArray) (r0 : ByteArray × ByteArray) (pl pa pb g gc k0 a l : Nat) (hb : Below W.heap.size W w) (ht : Tabs W) (hpl : W.heap.size ≤ pl) (hpa : W.heap.size ≤ pa) (hpb : W.heap.size ≤ pb) (hgc : W.heap.size ≤ gc)
    (h1 : pl ≠ pa) (h2 : pl ≠ pb) (h3 : pa ≠ pb) (h4 : g ≠ pl) (h5 : g ≠ pa) (h6 : g ≠ pb) (h7 : gc ≠ pl) (h8 : gc ≠ pa) (h9 : gc ≠ pb) (h10 : g ≠ gc)
    (hU : Up2 L pl pa pb g gc k0 r0 w) (hc : Climb w gc a l) (hal : a ≤ l) (hl : l ≤ 1099511627776) (hlen : (stepL a l).length + k0 = L.length) (hL : L.length ≤ 1048576) :
    Calls Tryz.prog 71 #[.pointer (some ⟨gc, 0, none⟩), .func (.func 90) #[] #[.pointer (some ⟨pl, 0, none⟩), .pointer (some ⟨pa, 0, none⟩), .pointer (some ⟨pb, 0, none⟩)]] w fun e w' => e = .returned (.tuple #[]) ∧ BoxS w' pa (climbB nodeS (stepL a l) (L.drop k0) r0).1 ∧ BoxS w' pb (climbB nodeS (stepL a l) (L.drop k0) r0).2 ∧ Below W.heap.size W w' := by
  refine (steps_rootsof gc W.heap.size pl pa pb (fun D w' => Up2 L pl pa pb g gc (k0 + D.length) (climbB nodeS D ((L.drop k0).take D.length) r0) w') hgc (fun D w w' h hg => h.only hg h7.symm h8.symm h9.symm h10) a l hal hl w hc hb.size (by exact hU) ?_).mono ?_
  · intro k b w' hk hI hbw
    obtain ⟨hkl, hkb⟩ := List.getElem?_eq_some_iff.mp hk
    have hlk : ((stepL a l).take k).length = k := by rw [List.length_take]; omega
    rw [hlk] at hI
    obtain ⟨s, hs⟩ : ∃ s, L[k0 + k]? = some s := ⟨L[k0 + k]'(by omega), List.getElem?_eq_getElem _⟩
    refine (rootsof1_any b L pl pa pb g gc (k0 + k) s _ w' hI hs hL h1 h2 h3 h4 h5 h6 h7 h8 h9 W.heap.size hpl hpa hpb (Nat.le_trans hb.size hbw.size) (ht.below (hb.trans hbw)) (fun w'' h => ht.below ((hb.trans hbw).trans h))).mono ?_
    rintro e w'' ⟨he, hu, hbb, hgg⟩
    rw [climbB_next hk (by rw [List.getElem?_drop]; exact hs)] at hu
    refine ⟨he, ?_, hbb, hgg⟩
    rw [List.length_append, hlk]
    exact hu
  · rintro e w' ⟨he, hu, hbb⟩
    have ha := hu.a
    have hb2 := hu.b
    rw [List.take_of_length_le (by rw [List.length_drop]; omega)] at ha hb2
    exact ⟨he, ha, hb2, hb.trans hbb⟩

structure Begun (w w3 wB w5 : World) (L : List ByteArray) (q x y : Nat) (old : ByteArray) (g : Nat) : Prop where
  l : BoxL w5 w3.heap.size (some ⟨g, 0, none⟩) q q
  a : BoxS w5 (wB.heap.size + 1) old
  row : SRow w5 g L
  c : Climb w5 wB.heap.size x y
  b : Below w.heap.size w w5
  lt : w.heap.size ≤ w3.heap.size ∧ w.heap.size ≤ g ∧ g < w3.heap.size ∧ w3.heap.size < wB.heap.size ∧ w5.heap.size = wB.heap.size + 1 + 1
theorem begun_of (w : World) (L : List ByteArray) (q x y : Nat) (old : ByteArray) {w3 wB : World} {g : Nat} (hb : Below w.heap.size w w3) (hg : w.heap.size ≤ g) (hr : SRow w3 g L)
    (hbB : Below (w3.alloc (.cells #[.slice (some ⟨g, 0, none⟩) q q] 22)).heap.size (w3.alloc (.cells #[.slice (some ⟨g, 0, none⟩) q q] 22)) wB) :
    Begun w w3 wB ((wB.alloc (.cells #[.int .i64 x, .int .i64 y] 90)).alloc (.cells #[.string old] 9)) L q x y old g := by
  have hz : (w3.alloc (.cells #[.slice (some ⟨g, 0, none⟩) q q] 22)).heap.size = w3.heap.size + 1 := by simp
  have hlt := hbB.size
  have hrl := hr.lt
  have hbs := hb.size
  have hWB : Below w.heap.size w wB := (hb.alloc hb.size _).trans (below_from (Below.refl _ _) hbB (by omega))
  refine ⟨blk_alloc (blk_alloc (blk_below (heap_alloc_new w3 _) hbB (by omega))), heap_alloc2_new wB _ _, ((SRow.below (hr.alloc _) hbB (by omega)).alloc _).alloc _, blk_alloc (heap_alloc_new wB _), (hWB.alloc (by omega) _).alloc (by simp; omega) _, by omega, hg, hrl, by omega, by simp⟩
theorem steps_true {w : World} {L : List ByteArray} {q x y : Nat} {old : ByteArray} (ht : Tabs w) (hq : q = L.length) (hl : q ≤ 1048576) (hxy : x ≤ y) (hyb : y ≤ 1099511627776) (hlen : (stepL x y).length = L.length) {w3 wB : World} {g : Nat} (hb : Below w.heap.size w w3) (hg : w.heap.size ≤ g) (hr : SRow w3 g L)
    (hbB : Below (w3.alloc (.cells #[.slice (some ⟨g, 0, none⟩) q q] 22)).heap.size (w3.alloc (.cells #[.slice (some ⟨g, 0, none⟩) q q] 22)) wB) :
    Calls Tryz.prog 71 #[.pointer (some ⟨wB.heap.size, 0, none⟩), .func (.func 90) #[] #[.pointer (some ⟨w3.heap.size, 0, none⟩), .pointer (some ⟨wB.heap.size + 1, 0, none⟩), .pointer (some ⟨wB.heap.size + 1 + 1, 0, none⟩)]] (((wB.alloc (.cells #[.int .i64 x, .int .i64 y] 90)).alloc (.cells #[.string old] 9)).alloc (.cells #[.string old] 9)) fun e w' => e = .returned (.tuple #[]) ∧ BoxS w' (wB.heap.size + 1) (climbB nodeS (stepL x y) (L.drop 0) (old, old)).1 ∧ BoxS w' (wB.heap.size + 1 + 1) (climbB nodeS (stepL x y) (L.drop 0) (old, old)).2 ∧ Below w.heap.size w w' := by
  have h := begun_of w L q x y old hb hg hr hbB
  obtain ⟨hl1, hl2, hl3, hl4, hl5⟩ := h.lt
  exact up2_steps w _ L (old, old) w3.heap.size (wB.heap.size + 1) (wB.heap.size + 1 + 1) g wB.heap.size 0 x y (h.b.alloc h.b.size _) ht (by omega) (by omega) (by omega) (by omega) (by omega) (by omega) (by omega) (by omega) (by omega) (by omega) (by omega) (by omega) (by omega) (by omega)
    ⟨⟨_, by rw [Nat.sub_zero, ← hq]; exact blk_alloc h.l, fun _ => rfl⟩, blk_alloc h.a, heap_alloc_at _ _ _ (by omega), h.row.alloc _, by simp; omega⟩ (blk_alloc h.c) hxy hyb (by omega) (by omega)
structure Begun2 (w w3 wB w6 : World) (L : List ByteArray) (x y : Nat) (s0 : ByteArray) (g : Nat) : Prop where
  l : ∃ a, BoxL w6 w3.heap.size a (L.length - 1) (L.length - 1) ∧ (1 < L.length → a = some ⟨g, 1, none⟩)
  a : BoxS w6 (wB.heap.size + 1) s0
  row : SRow w6 g L
  c : Climb w6 wB.heap.size x y
  b : Below w.heap.size w w6
  lt : w.heap.size ≤ w3.heap.size ∧ w.heap.size ≤ g ∧ g < w3.heap.size ∧ w3.heap.size < wB.heap.size ∧ w6.heap.size = wB.heap.size + 1 + 1
theorem Begun.after {w w3 wB w5 : World} {L : List ByteArray} {q x y : Nat} {old s0 : ByteArray} {g : Nat} (h : Begun w w3 wB w5 L q x y old g) {a : Option Addr} {n : Nat} (hn : n = L.length - 1) (ha : 1 < L.length → a = some ⟨g, 1, none⟩) :
    Begun2 w w3 wB (((w5.setCell ⟨wB.heap.size + 1, 0, none⟩ (.string s0)).setCell ⟨w3.heap.size, 0, none⟩ (.slice a n n)).drew) L x y s0 g := by
  obtain ⟨hl1, hl2, hl3, hl4, hl5⟩ := h.lt
  have b1 : BoxL (w5.setCell ⟨wB.heap.size + 1, 0, none⟩ (.string s0)) w3.heap.size (some ⟨g, 0, none⟩) q q := blk_far (p := ⟨wB.heap.size + 1, 0, none⟩) h.l (by show w3.heap.size ≠ wB.heap.size + 1; omega) _
  have b2 := h.a.set s0
  have b3 : Climb (w5.setCell ⟨wB.heap.size + 1, 0, none⟩ (.string s0)) wB.heap.size x y := blk_far (p := ⟨wB.heap.size + 1, 0, none⟩) h.c (by show wB.heap.size ≠ wB.heap.size + 1; omega) _
  have b4 := h.row.far (p := ⟨wB.heap.size + 1, 0, none⟩) (by show g ≠ wB.heap.size + 1; omega) (.string s0)
  refine ⟨⟨a, by rw [← hn]; exact b1.set a n n, ha⟩, ?_, ?_, ?_, ?_, ?_⟩
  · exact blk_far (p := ⟨w3.heap.size, 0, none⟩) b2 (by show wB.heap.size + 1 ≠ w3.heap.size; omega) _
  · exact b4.far (p := ⟨w3.heap.size, 0, none⟩) (by show g ≠ w3.heap.size; omega) _
  · exact blk_far (p := ⟨w3.heap.size, 0, none⟩) b3 (by show wB.heap.size ≠ w3.heap.size; omega) _
  · exact ((h.b.trans (step_below _ (by omega) h.b.size)).trans (step_below _ (by omega) (by have := h.b.size; simp; omega))).drew
  · refine ⟨hl1, hl2, hl3, hl4, ?_⟩
    show (((w5.setCell ⟨wB.heap.size + 1, 0, none⟩ (.string s0)).setCell ⟨w3.heap.size, 0, none⟩ (.slice a n n))).heap.size = _
    simp [hl5]
theorem Begun2.steps {w w3 wB w6 : World} {L : List ByteArray} {x y : Nat} {s0 : ByteArray} {g : Nat} (h : Begun2 w w3 wB w6 L x y s0 g) (ht : Tabs w) (hl : L.length ≤ 1048576) (hxy : x ≤ y) (hyb : y ≤ 1099511627776) (hlen : (stepL x y).length + 1 = L.length) :
    Calls Tryz.prog 71 #[.pointer (some ⟨wB.heap.size, 0, none⟩), .func (.func 90) #[] #[.pointer (some ⟨w3.heap.size, 0, none⟩), .pointer (some ⟨wB.heap.size + 1, 0, none⟩), .pointer (some ⟨w6.heap.size, 0, none⟩)]] (w6.alloc (.cells #[.string s0] 9)) fun e w' => e = .returned (.tuple #[]) ∧ BoxS w' (wB.heap.size + 1) (climbB nodeS (stepL x y) (L.drop 1) (s0, s0)).1 ∧ BoxS w' w6.heap.size (climbB nodeS (stepL x y) (L.drop 1) (s0, s0)).2 ∧ Below w.heap.size w w' := by
  obtain ⟨hl1, hl2, hl3, hl4, hl5⟩ := h.lt
  obtain ⟨a, hla, hlb⟩ := h.l
  exact up2_steps w _ L (s0, s0) w3.heap.size (wB.heap.size + 1) w6.heap.size g wB.heap.size 1 x y (h.b.alloc h.b.size _) ht (by omega) (by omega) (by omega) (by omega) (by omega) (by omega) (by omega) (by omega) (by omega) (by omega) (by omega) (by omega) (by omega) (by omega)
    ⟨⟨a, blk_alloc hla, hlb⟩, blk_alloc h.a, heap_alloc_new w6 _, h.row.alloc _, by simp; omega⟩ (blk_alloc h.c) hxy hyb (by omega) hl
def rootsOfE (f s : Int) (old : ByteArray) (L : List ByteArray) : Int := if proofLenE f s ≠ 0 then proofLenE f s else if old.size ≠ 32 ∨ all32 L = false then 42 else if (L.length : Int) ≠ proofLenS f s then 43 else 0
def rootsOfS (f s : Int) (old : ByteArray) (L : List ByteArray) : ByteArray × ByteArray := if rootsOfE f s old L = 0 then climbB nodeS (fl f.toNat s.toNat) (restL (wh f.toNat s.toNat true) L) (seedL (wh f.toNat s.toNat true) old L, seedL (wh f.toNat s.toNat true) old L) else (⟨#[]⟩, ⟨#[]⟩)

set_option maxRecDepth 100000 in
set_option maxHeartbeats 4000000 in
theorem rootsof_any (f s : Int) (old : ByteArray) (v : Value) (L : List ByteArray) (w : World) (ht : Tabs w) (hv : Txts w v L) (hl : L.length ≤ 1048576) :
    Calls Tryz.prog 63 #[.int .i64 f, .int .i64 s, .string old, v] w fun e w' => e = .returned (.tuple #[.string (rootsOfS f s old L).1, .string (rootsOfS f s old L).2, .int .i64 (rootsOfE f s old L)]) ∧ Below w.heap.size w w' := by
  have HT := Lib.hid ht
  have HV := Lib.hid hv
  obtain ⟨p, c, rfl, hv1, hv2, hv3⟩ := hv
  obtain ⟨q, hq⟩ : ∃ q, q = L.length := ⟨_, rfl⟩
  rw [← hq] at hv1 HV hl ⊢
  have HQ := Lib.hid hq
  have hpl := prooflen_any f s w
  obtain ⟨E, hE⟩ : ∃ E, E = proofLenE f s := ⟨_, rfl⟩
  obtain ⟨PL, hPL⟩ : ∃ PL, PL = proofLenS f s := ⟨_, rfl⟩
  rw [← hE, ← hPL] at hpl
  have HPL := Lib.hid hpl
  have HE := Lib.hid hE
  have HPLS := Lib.hid hPL
  clear ht hv1 hv2 hv3 hq hpl hE hPL
  have HH := Lib.hid (fun w' (h : Txts w' (.slice p q c) L) => hashes_any _ L w' h)
  have HH1 := Lib.hid (fun (w1 : World) => hashes_any (.slice (some ⟨w1.heap.size, 0, none⟩) 1 1) [old] (w1.alloc (.cells #[.string old] 9)) (txts_one w1 old))
  by_cases hE0 : E = 0
  · subst hE0
    by_cases hold : old.size = 32
    · have ha1 : all32 [old] = true := by simp [all32, hold]
      rw [ha1] at HH1
      by_cases hall : all32 L = true
      · rw [hall] at HH
        by_cases hlen : (q : Int) = PL
        · obtain ⟨hf1, hfs, hs1⟩ : ¬ f < 1 ∧ ¬ s < f ∧ ¬ 1099511627776 < s := by
            have := HE.out
            unfold proofLenE at this
            refine ⟨fun h => ?_, fun h => ?_, fun h => ?_⟩
            · rw [if_pos (Or.inl h)] at this; cases this
            · rw [if_pos (Or.inr (Or.inl h))] at this; cases this
            · rw [if_pos (Or.inr (Or.inr h))] at this; cases this
          have e1 : rootsOfE f s old L = 0 := by unfold rootsOfE; rw [← HE.out, ← HPLS.out, ← HQ.out, if_neg (by simp), if_neg (by simp [hold, hall]), if_neg (by simp [hlen])]
          have e2 : rootsOfS f s old L = climbB nodeS (fl f.toNat s.toNat) (restL (wh f.toNat s.toNat true) L) (seedL (wh f.toNat s.toNat true) old L, seedL (wh f.toNat s.toNat true) old L) := by unfold rootsOfS; rw [e1]; rfl
          rw [e1, e2]
          clear e1 e2
          obtain ⟨n, rfl⟩ : ∃ n : Nat, f = n := ⟨f.toNat, by omega⟩
          obtain ⟨m, rfl⟩ : ∃ m : Nat, s = m := ⟨s.toNat, by omega⟩
          have hn : 1 ≤ n := by omega
          have hnm : n ≤ m := by omega
          have hm : m ≤ 1099511627776 := by omega
          rw [Int.toNat_natCast, Int.toNat_natCast]
          clear ha1 hold hall hf1 hfs hs1
          by_cases heq : n = m
          · subst heq
            have e3 : fl n n = [] := by rw [fl, dif_pos (Or.inl rfl)]
            have e4 : wh n n true = true := by rw [wh, dif_pos (Or.inl rfl)]
            rw [e3, e4]
            have e5 : climbB nodeS [] (restL true L) (seedL true old L, seedL true old L) = (old, old) := by simp [climbB, seedL]
            rw [e5]
            clear e3 e4 e5
            go_enter Tryz.func63, Tryz.ntmps63
            go_wp2_with (first
              | (go_at_call 88; with_reducible refine (HPL.out).mono ?_; rintro e w1 ⟨rfl, hb⟩; have HB1 := Lib.hid hb; clear hb)
              | (go_at_call 50; with_reducible refine (HH1.out w1).mono ?_; rintro e w2 ⟨rfl, rfl⟩)
              | (go_at_call 50; with_reducible refine (HH.out _ (HV.out.below (HB1.out.alloc HB1.out.size _) (Nat.le_refl _))).mono ?_; rintro e w2 ⟨rfl, rfl⟩))
            go_ret3
            exact ⟨rfl, HB1.out.alloc HB1.out.size _⟩
          · have hlt : n < m := by omega
            have hbg := fun w' => begin_any n m w' hn hnm hm
            obtain ⟨hfl, hwh⟩ := strip_fl m n hn hlt
            have htl := stepL_told hn hlt
            have hst := strip_le (n - 1) (m - 1)
            have hsm := strip_mono (n - 1) (m - 1) (by omega)
            rw [← hfl, ← hwh]
            obtain ⟨x, hx⟩ : ∃ x, x = (strip (n - 1) (m - 1)).1 := ⟨_, rfl⟩
            obtain ⟨y, hy⟩ : ∃ y, y = (strip (n - 1) (m - 1)).2 := ⟨_, rfl⟩
            rw [← hx, ← hy] at hst hsm htl ⊢
            simp only [← hx, ← hy] at hbg
            have hyb : y ≤ 1099511627776 := by omega
            have hqt : q = (if x == 0 then 0 else 1) + (stepL x y).length := by
              have h1 := HPLS.out
              rw [(proofLenS_ok hn hnm hm).1, ← htl] at h1
              omega
            obtain ⟨wl, hwl⟩ : ∃ b, b = (x == 0) := ⟨_, rfl⟩
            rw [← hwl] at hqt ⊢
            simp only [← hwl] at hbg
            have HBG := Lib.hid hbg
            have hne : ¬ ((n : Int) = (m : Int)) := by omega
            have HOWN := Lib.hid (fun w' (h : Txts w' (.slice p q c) L) => own_any _ L w' h (by rw [← HQ.out]; exact hl))
            rw [← HQ.out] at HOWN
            clear hx hy hbg hwl hst hfl hwh htl heq hn hnm hm hlt
            have HST0 := Lib.hid (fun (w3 wB : World) (g : Nat) (hb : Below w.heap.size w w3) (hg : w.heap.size ≤ g) (hr : SRow w3 g L) (hbB : Below (w3.alloc (.cells #[.slice (some ⟨g, 0, none⟩) q q] 22)).heap.size (w3.alloc (.cells #[.slice (some ⟨g, 0, none⟩) q q] 22)) wB) => begun_of w L q x y old hb hg hr hbB)
            cases wl with
            | true =>
              have e6 : climbB nodeS (stepL x y) (restL true L) (seedL true old L, seedL true old L) = climbB nodeS (stepL x y) (L.drop 0) (old, old) := by simp [restL, seedL]
              rw [e6]
              clear e6
              have HST := Lib.hid (fun (w3 wB : World) (g : Nat) (hb : Below w.heap.size w w3) (hg : w.heap.size ≤ g) (hr : SRow w3 g L) (hbB : Below (w3.alloc (.cells #[.slice (some ⟨g, 0, none⟩) q q] 22)).heap.size (w3.alloc (.cells #[.slice (some ⟨g, 0, none⟩) q q] 22)) wB) => steps_true HT.out HQ.out hl hsm hyb (by rw [← HQ.out]; simpa using hqt.symm) hb hg hr hbB (old := old))
              have hqt0 : (stepL x y).length + 0 = L.length := by rw [← HQ.out]; simp at hqt; omega
              clear hqt hqt0
              go_enter Tryz.func63, Tryz.ntmps63
              go_wp2_with (first
                | (go_at_call 88; with_reducible refine (HPL.out).mono ?_; rintro e w1 ⟨rfl, hb⟩; have HB1 := Lib.hid hb; clear hb)
                | (go_at_call 50; with_reducible refine (HH1.out w1).mono ?_; rintro e w2 ⟨rfl, rfl⟩)
                | (go_at_call 50; with_reducible refine (HH.out _ (HV.out.below (HB1.out.alloc HB1.out.size _) (Nat.le_refl _))).mono ?_; rintro e w2 ⟨rfl, rfl⟩)
                | (go_at_call 70; with_reducible refine (HOWN.out _ (HV.out.below (HB1.out.alloc HB1.out.size _) (Nat.le_refl _))).mono ?_; rintro e w3 ⟨g, rfl, hg, hr, hb⟩; have HB3 := Lib.hid (below_from (HB1.out.alloc HB1.out.size _) hb (HB1.out.alloc HB1.out.size _).size); have HG := Lib.hid (Nat.le_trans (HB1.out.alloc HB1.out.size _).size hg); have HR := Lib.hid hr; clear hg hr hb)
                | (go_at_call 89; with_reducible refine (HBG.out _).mono ?_; rintro e wB ⟨rfl, hbB⟩; have HBB := Lib.hid hbB; clear hbB)
                | (go_at_call 71; (with_reducible refine (HST.out w3 wB g HB3.out HG.out HR.out HBB.out).mono ?_; rintro e w4 ⟨rfl, hs4, hs5, hb4⟩; have c4 := BoxS.c hs4; have c5 := BoxS.c hs5; have HB4 := Lib.hid hb4; clear hs4 hs5 hb4)))
              go_quiet (fail)
              go_wp2_with fail
              go_ret3
              exact ⟨rfl, below_drewN HB4.out _⟩
            | false =>
              have hqt1 : (stepL x y).length + 1 = L.length := by rw [← HQ.out]; simp at hqt; omega
              obtain ⟨s0, hs0⟩ : ∃ s0, L[0]? = some s0 := ⟨L[0]'(by omega), List.getElem?_eq_getElem _⟩
              have e6 : climbB nodeS (stepL x y) (restL false L) (seedL false old L, seedL false old L) = climbB nodeS (stepL x y) (L.drop 1) (s0, s0) := by
                cases L with
                | nil => simp at hs0
                | cons a t => simp at hs0; simp [restL, seedL, hs0]
              rw [e6]
              clear e6
              obtain ⟨RR, hRR⟩ : ∃ R, R = climbB nodeS (stepL x y) (L.drop 1) (s0, s0) := ⟨_, rfl⟩
              rw [← hRR]
              have HRR := Lib.hid hRR
              clear hRR
              obtain ⟨m', hm'⟩ : ∃ m', q = m' + 1 := ⟨q - 1, by simp at hqt; omega⟩
              have HS0 := Lib.hid hs0
              have HQT1 := Lib.hid hqt1
              clear hqt hqt1 hs0
              subst hm'
              have hm1 : (1 : Int) ≤ (m' : Int) + 1 := by omega
              have hm0 : (0 : Int) < (m' : Int) + 1 := by omega
              have hlen2 : (m' : Int) + 1 = PL := by omega
              clear hlen
              go_enter Tryz.func63, Tryz.ntmps63
              go_upto_region 14 with (first
                | (go_at_call 88; with_reducible refine (HPL.out).mono ?_; rintro e w1 ⟨rfl, hb⟩; have HB1 := Lib.hid hb; clear hb)
                | (go_at_call 50; with_reducible refine (HH1.out w1).mono ?_; rintro e w2 ⟨rfl, rfl⟩)
                | (go_at_call 50; with_reducible refine (HH.out _ (HV.out.below (HB1.out.alloc HB1.out.size _) (Nat.le_refl _))).mono ?_; rintro e w2 ⟨rfl, rfl⟩)
                | (go_at_call 70; with_reducible refine (HOWN.out _ (HV.out.below (HB1.out.alloc HB1.out.size _) (Nat.le_refl _))).mono ?_; rintro e w3 ⟨g, rfl, hg, hr, hb⟩; have HB3 := Lib.hid (below_from (HB1.out.alloc HB1.out.size _) hb (HB1.out.alloc HB1.out.size _).size); have HG := Lib.hid (Nat.le_trans (HB1.out.alloc HB1.out.size _).size hg); have HR := Lib.hid hr; clear hg hr hb)
                | (go_at_call 89; with_reducible refine (HBG.out _).mono ?_; rintro e wB ⟨rfl, hbB⟩; have HBB := Lib.hid hbB; clear hbB))
              have HBN := Lib.hid (HST0.out w3 wB g HB3.out HG.out HR.out HBB.out)
              generalize (wB.alloc (.cells #[.int .i64 x, .int .i64 y] 90)).alloc (.cells #[.string old] 9) = w5 at HBN ⊢
              have c0 := HBN.out.l.c
              have k0 := HBN.out.l.k
              have c1 := HBN.out.a.c
              have k1 := HBN.out.a.k
              have c2 := HBN.out.row.cell HS0.out
              have hd1 : ¬ (w3.heap.size = wB.heap.size + 1) := by have := HBN.out.lt; omega
              have hd2 : ¬ (wB.heap.size + 1 = w3.heap.size) := by have := HBN.out.lt; omega
              have hd3 : ¬ (g = wB.heap.size + 1) := by have := HBN.out.lt; omega
              have hd4 : ¬ (g = w3.heap.size) := by have := HBN.out.lt; omega
              rcases Nat.eq_zero_or_pos m' with hm00 | hm00
              · subst hm00
                go_region
                have HW6 := Lib.hid (HBN.out.after (L := L) (s0 := s0) (a := (some ⟨g, 0, none⟩)) (n := 0) (by have := HQ.out; omega) (by intro h; exact absurd h (by have := HQ.out; omega)))
                generalize ((w5.setCell ⟨wB.heap.size + 1, 0, none⟩ (.string s0)).setCell ⟨w3.heap.size, 0, none⟩ (.slice (some ⟨g, 0, none⟩) 0 0)).drew = w6 at HW6 ⊢
                clear HBN c0 k0 c1 k1 c2 hd1 hd2 hd3 hd4
                have c1 := HW6.out.a.c
                have hst := HW6.out.steps HT.out (by rw [← HQ.out]; exact hl) hsm hyb HQT1.out
                rw [← HRR.out] at hst
                have HST := Lib.hid hst
                clear hst
                go_wp2_with (go_at_call 71; (with_reducible refine (HST.out).mono ?_; rintro e w4 ⟨rfl, hs4, hs5, hb4⟩; have c4 := BoxS.c hs4; have c5 := BoxS.c hs5; have HB4 := Lib.hid hb4; clear hs4 hs5 hb4))
                go_quiet (fail)
                go_wp2_with fail
                go_ret3
                exact ⟨rfl, below_drewN HB4.out _⟩
              · have hmne : ¬ (m' = 0) := by omega
                go_region
                have HW6 := Lib.hid (HBN.out.after (L := L) (s0 := s0) (a := (some ⟨g, 1, none⟩)) (n := m') (by have := HQ.out; omega) (by intro h; rfl))
                generalize ((w5.setCell ⟨wB.heap.size + 1, 0, none⟩ (.string s0)).setCell ⟨w3.heap.size, 0, none⟩ (.slice (some ⟨g, 1, none⟩) m' m')).drew = w6 at HW6 ⊢
                clear HBN c0 k0 c1 k1 c2 hd1 hd2 hd3 hd4
                have c1 := HW6.out.a.c
                have hst := HW6.out.steps HT.out (by rw [← HQ.out]; exact hl) hsm hyb HQT1.out
                rw [← HRR.out] at hst
                have HST := Lib.hid hst
                clear hst
                go_wp2_with (go_at_call 71; (with_reducible refine (HST.out).mono ?_; rintro e w4 ⟨rfl, hs4, hs5, hb4⟩; have c4 := BoxS.c hs4; have c5 := BoxS.c hs5; have HB4 := Lib.hid hb4; clear hs4 hs5 hb4))
                go_quiet (fail)
                go_wp2_with fail
                go_ret3
                exact ⟨rfl, below_drewN HB4.out _⟩
        · have e1 : rootsOfE f s old L = 43 := by unfold rootsOfE; rw [← HE.out, ← HPLS.out, ← HQ.out, if_neg (by simp), if_neg (by simp [hold, hall]), if_pos hlen]
          have e2 : rootsOfS f s old L = (⟨#[]⟩, ⟨#[]⟩) := by unfold rootsOfS; rw [e1]; rfl
          rw [e1, e2]
          clear e1 e2 hall ha1 hold
          go_enter Tryz.func63, Tryz.ntmps63
          go_wp2_with (first
            | (go_at_call 88; with_reducible refine (HPL.out).mono ?_; rintro e w1 ⟨rfl, hb⟩; have HB1 := Lib.hid hb; clear hb)
            | (go_at_call 50; with_reducible refine (HH1.out w1).mono ?_; rintro e w2 ⟨rfl, rfl⟩)
            | (go_at_call 50; with_reducible refine (HH.out _ (HV.out.below (HB1.out.alloc HB1.out.size _) (Nat.le_refl _))).mono ?_; rintro e w2 ⟨rfl, rfl⟩))
          go_ret3
          exact ⟨rfl, HB1.out.alloc HB1.out.size _⟩
      · have hall' : all32 L = false := by simpa using hall
        rw [hall'] at HH
        have e1 : rootsOfE f s old L = 42 := by unfold rootsOfE; rw [← HE.out, if_neg (by simp), if_pos (Or.inr hall')]
        have e2 : rootsOfS f s old L = (⟨#[]⟩, ⟨#[]⟩) := by unfold rootsOfS; rw [e1]; rfl
        rw [e1, e2]
        clear e1 e2 hall hall' ha1 hold
        go_enter Tryz.func63, Tryz.ntmps63
        go_wp2_with (first
          | (go_at_call 88; with_reducible refine (HPL.out).mono ?_; rintro e w1 ⟨rfl, hb⟩; have HB1 := Lib.hid hb; clear hb)
          | (go_at_call 50; with_reducible refine (HH1.out w1).mono ?_; rintro e w2 ⟨rfl, rfl⟩)
          | (go_at_call 50; with_reducible refine (HH.out _ (HV.out.below (HB1.out.alloc HB1.out.size _) (Nat.le_refl _))).mono ?_; rintro e w2 ⟨rfl, rfl⟩))
        go_ret3
        exact ⟨rfl, HB1.out.alloc HB1.out.size _⟩
    · have ha1 : all32 [old] = false := by simp [all32, hold]
      rw [ha1] at HH1
      have e1 : rootsOfE f s old L = 42 := by unfold rootsOfE; rw [← HE.out, if_neg (by simp), if_pos (Or.inl hold)]
      have e2 : rootsOfS f s old L = (⟨#[]⟩, ⟨#[]⟩) := by unfold rootsOfS; rw [e1]; rfl
      rw [e1, e2]
      clear e1 e2 ha1 hold
      go_enter Tryz.func63, Tryz.ntmps63
      go_wp2_with (first
        | (go_at_call 88; with_reducible refine (HPL.out).mono ?_; rintro e w1 ⟨rfl, hb⟩; have HB1 := Lib.hid hb; clear hb)
        | (go_at_call 50; with_reducible refine (HH1.out w1).mono ?_; rintro e w2 ⟨rfl, rfl⟩)
        | (go_at_call 50; with_reducible refine (HH.out _ (HV.out.below (HB1.out.alloc HB1.out.size _) (Nat.le_refl _))).mono ?_; rintro e w2 ⟨rfl, rfl⟩))
      go_ret3
      exact ⟨rfl, HB1.out.alloc HB1.out.size _⟩
  · have e1 : rootsOfE f s old L = E := by unfold rootsOfE; rw [← HE.out, if_pos hE0]
    have e2 : rootsOfS f s old L = (⟨#[]⟩, ⟨#[]⟩) := by unfold rootsOfS; rw [e1, if_neg hE0]
    rw [e1, e2]
    clear e1 e2
    go_enter Tryz.func63, Tryz.ntmps63
    go_wp2_with (first
      | (go_at_call 88; with_reducible refine (HPL.out).mono ?_; rintro e w1 ⟨rfl, hb⟩; have HB1 := Lib.hid hb; clear hb)
      | (go_at_call 50; with_reducible refine (HH1.out w1).mono ?_; rintro e w2 ⟨rfl, rfl⟩)
      | (go_at_call 50; with_reducible refine (HH.out _ (HV.out.below (HB1.out.alloc HB1.out.size _) (Nat.le_refl _))).mono ?_; rintro e w2 ⟨rfl, rfl⟩))
    go_ret3
    exact ⟨rfl, HB1.out⟩
end Go.Proofs.YtdbghgpohdijfaaGreatDoor
/- Layer 4, walked: Consistency. -/
namespace Go.Proofs.YtdbghgpohdijfaaGreatDoor
open Go.RowKit Go.Scr
set_option linter.unusedVariables false

def consS (f s : Int) (old now : ByteArray) (L : List ByteArray) : Int := if rootsOfE f s old L ≠ 0 then rootsOfE f s old L else if now.size ≠ 32 then 42 else if (rootsOfS f s old L).1 ≠ old ∨ (rootsOfS f s old L).2 ≠ now then 44 else 0
theorem toList_same (a : ByteArray) : (a.toList == a.toList) = true := by simp

set_option maxRecDepth 100000 in
set_option maxHeartbeats 1000000 in
theorem consistency_any (f s : Int) (old now : ByteArray) (v : Value) (L : List ByteArray) (w : World) (ht : Tabs w) (hv : Txts w v L) (hl : L.length ≤ 1048576) :
    Calls Tryz.prog 39 #[.int .i64 f, .int .i64 s, .string old, .string now, v] w fun e w' => e = .returned (.int .i64 (consS f s old now L)) ∧ Below w.heap.size w w' := by
  have hr := rootsof_any f s old v L w ht hv hl
  obtain ⟨E, hE⟩ : ∃ E, E = rootsOfE f s old L := ⟨_, rfl⟩
  obtain ⟨R, hR⟩ : ∃ R, R = rootsOfS f s old L := ⟨_, rfl⟩
  unfold consS
  rw [← hE, ← hR] at hr ⊢
  obtain ⟨R1, R2⟩ := R
  have HRT := Lib.hid hr
  have HH1 := Lib.hid (fun (w1 : World) => hashes_any (.slice (some ⟨w1.heap.size, 0, none⟩) 1 1) [now] (w1.alloc (.cells #[.string now] 9)) (txts_one w1 now))
  clear ht hv hr hE hR
  by_cases hE0 : E = 0
  · rw [if_neg (by simp [hE0])]
    subst hE0
    by_cases hroot : now.size = 32
    · rw [if_neg (by simp [hroot])]
      have ha1 : all32 [now] = true := by simp [all32, hroot]
      rw [ha1] at HH1
      by_cases h1 : R1 = old
      · have q1 : (R1.toList == old.toList) = true := by rw [h1]; exact toList_same _
        by_cases h2 : R2 = now
        · have q2 : (R2.toList == now.toList) = true := by rw [h2]; exact toList_same _
          rw [if_neg (by simp [h1, h2])]
          clear hroot ha1 h1 h2
          go_enter Tryz.func39, Tryz.ntmps39
          go_wp2_with (first
            | (go_at_call 63; with_reducible refine (HRT.out).mono ?_; rintro e w1 ⟨rfl, hb⟩; have HB1 := Lib.hid hb; clear hb)
            | (go_at_call 50; with_reducible refine (HH1.out w1).mono ?_; rintro e w2 ⟨rfl, rfl⟩))
          go_ret
          exact ⟨rfl, HB1.out.alloc HB1.out.size _⟩
        · have q2 := toList_ne h2
          rw [if_pos (Or.inr h2)]
          clear hroot ha1 h1 h2
          go_enter Tryz.func39, Tryz.ntmps39
          go_wp2_with (first
            | (go_at_call 63; with_reducible refine (HRT.out).mono ?_; rintro e w1 ⟨rfl, hb⟩; have HB1 := Lib.hid hb; clear hb)
            | (go_at_call 50; with_reducible refine (HH1.out w1).mono ?_; rintro e w2 ⟨rfl, rfl⟩))
          go_ret
          exact ⟨rfl, HB1.out.alloc HB1.out.size _⟩
      · have q1 := toList_ne h1
        rw [if_pos (Or.inl h1)]
        clear hroot ha1 h1
        go_enter Tryz.func39, Tryz.ntmps39
        go_wp2_with (first
          | (go_at_call 63; with_reducible refine (HRT.out).mono ?_; rintro e w1 ⟨rfl, hb⟩; have HB1 := Lib.hid hb; clear hb)
          | (go_at_call 50; with_reducible refine (HH1.out w1).mono ?_; rintro e w2 ⟨rfl, rfl⟩))
        go_ret
        exact ⟨rfl, HB1.out.alloc HB1.out.size _⟩
    · rw [if_pos hroot]
      have ha1 : all32 [now] = false := by simp [all32, hroot]
      rw [ha1] at HH1
      clear hroot ha1
      go_enter Tryz.func39, Tryz.ntmps39
      go_wp2_with (first
        | (go_at_call 63; with_reducible refine (HRT.out).mono ?_; rintro e w1 ⟨rfl, hb⟩; have HB1 := Lib.hid hb; clear hb)
        | (go_at_call 50; with_reducible refine (HH1.out w1).mono ?_; rintro e w2 ⟨rfl, rfl⟩))
      go_ret
      exact ⟨rfl, HB1.out.alloc HB1.out.size _⟩
  · rw [if_pos hE0]
    go_enter Tryz.func39, Tryz.ntmps39
    go_wp2_with (first
      | (go_at_call 63; with_reducible refine (HRT.out).mono ?_; rintro e w1 ⟨rfl, hb⟩; have HB1 := Lib.hid hb; clear hb)
      | (go_at_call 50; with_reducible refine (HH1.out w1).mono ?_; rintro e w2 ⟨rfl, rfl⟩))
    go_ret
    exact ⟨rfl, HB1.out⟩
end Go.Proofs.YtdbghgpohdijfaaGreatDoor
