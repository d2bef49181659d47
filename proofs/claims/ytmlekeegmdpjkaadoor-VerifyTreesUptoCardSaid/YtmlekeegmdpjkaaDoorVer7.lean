/- Layer 4, walked: RootsOf's closure. -/
import Derived.Test.YtmlekeegmdpjkaaDoorVer6
import Derived.Test.YtmlekeegmdpjkaaDoorRec0
namespace Go.Proofs.YtmlekeegmdpjkaaDoor
open Go.RowKit Go.Scr
set_option linter.unusedVariables false

def joinB (b : Bool) (s : ByteArray) (r : ByteArray × ByteArray) : ByteArray × ByteArray := if b then (nodeS s r.1, nodeS s r.2) else (r.1, nodeS r.2 s)
/-- where two ways up stand -/
structure Up2 (L : List ByteArray) (pl pa pb g gc k : Nat) (r : ByteArray × ByteArray) (w : World) : Prop where
  l : ∃ a, BoxL w pl a (L.length - k) (L.length - k) ∧ (k < L.length → a = some ⟨g, k, none⟩)
  a : BoxS w pa r.1
  b : BoxS w pb r.2
  row : SRow w g L
  lt : gc < w.heap.size
/-- one joined hash stored into a box: what stays -/
theorem Up2.only {L : List ByteArray} {pl pa pb g gc k : Nat} {r : ByteArray × ByteArray} {w w' : World} (h : Up2 L pl pa pb g gc k r w) (hg : w.grownBy w' (some gc)) (h1 : pl ≠ gc) (h2 : pa ≠ gc) (h4 : pb ≠ gc) (h3 : g ≠ gc) : Up2 L pl pa pb g gc k r w' := by
  obtain ⟨⟨a, ha, hb⟩, h5, h6, h7, h8⟩ := h
  exact ⟨⟨a, blk_only ha hg (by simpa using h1), hb⟩, blk_only h5 hg (by simpa using h2), blk_only h6 hg (by simpa using h4), blk_only h7 hg (by simpa using h3), Nat.lt_of_lt_of_le h8 hg.size⟩
theorem Up2.below {L : List ByteArray} {pl pa pb g gc k : Nat} {r : ByteArray × ByteArray} {w w' : World} (h : Up2 L pl pa pb g gc k r w) (hb : Below w.heap.size w w') : Up2 L pl pa pb g gc k r w' := by
  obtain ⟨⟨a, ha, hba⟩, h5, h6, h7, h8⟩ := h
  exact ⟨⟨a, blk_below ha hb (blk_lt ha), hba⟩, blk_below h5 hb (blk_lt h5), blk_below h6 hb (blk_lt h6), blk_below h7 hb (blk_lt h7), Nat.lt_of_lt_of_le h8 hb.size⟩
theorem Up2.seta {L : List ByteArray} {pl pa pb g gc k : Nat} {r : ByteArray × ByteArray} {w : World} (h : Up2 L pl pa pb g gc k r w) (h1 : pl ≠ pa) (h2 : pb ≠ pa) (h3 : g ≠ pa) (x : ByteArray) : Up2 L pl pa pb g gc k (x, r.2) (w.setCell ⟨pa, 0, none⟩ (.string x)) := by
  obtain ⟨⟨a, ha, hba⟩, h5, h6, h7, h8⟩ := h
  exact ⟨⟨a, blk_far (p := ⟨pa, 0, none⟩) ha h1 _, hba⟩, h5.set x, blk_far (p := ⟨pa, 0, none⟩) h6 h2 _, blk_far (p := ⟨pa, 0, none⟩) h7 h3 _, by simpa using h8⟩
theorem Up2.setb {L : List ByteArray} {pl pa pb g gc k : Nat} {r : ByteArray × ByteArray} {w : World} (h : Up2 L pl pa pb g gc k r w) (h1 : pl ≠ pb) (h2 : pa ≠ pb) (h3 : g ≠ pb) (x : ByteArray) : Up2 L pl pa pb g gc k (r.1, x) (w.setCell ⟨pb, 0, none⟩ (.string x)) := by
  obtain ⟨⟨a, ha, hba⟩, h5, h6, h7, h8⟩ := h
  exact ⟨⟨a, blk_far (p := ⟨pb, 0, none⟩) ha h1 _, hba⟩, blk_far (p := ⟨pb, 0, none⟩) h5 h2 _, h6.set x, blk_far (p := ⟨pb, 0, none⟩) h7 h3 _, by simpa using h8⟩
theorem Up2.box {L : List ByteArray} {pl pa pb g gc k : Nat} {r : ByteArray × ByteArray} {w : World} (h : Up2 L pl pa pb g gc k r w) (hk : k < L.length) : BoxL w pl (some ⟨g, k, none⟩) (L.length - k) (L.length - k) := by
  obtain ⟨a, ha, hb⟩ := h.l
  rw [hb hk] at ha
  exact ha
theorem Up2.setl0 {L : List ByteArray} {pl pa pb g gc k n : Nat} {r : ByteArray × ByteArray} {w : World} (h : Up2 L pl pa pb g gc k r w) (hk : k < L.length) (hn : L.length - k = 0 + 1) (h1 : pa ≠ pl) (h2 : pb ≠ pl) (h3 : g ≠ pl) : Up2 L pl pa pb g gc (k + 1) r (w.setCell ⟨pl, 0, none⟩ (.slice (some ⟨g, k, none⟩) 0 0)) := by
  obtain ⟨⟨a, ha, hba⟩, h5, h6, h7, h8⟩ := h
  refine ⟨⟨_, by have := BoxL.set ha (some ⟨g, k, none⟩) 0 0; rwa [show L.length - (k + 1) = 0 by omega], fun h => by omega⟩, blk_far (p := ⟨pl, 0, none⟩) h5 h1 _, blk_far (p := ⟨pl, 0, none⟩) h6 h2 _, blk_far (p := ⟨pl, 0, none⟩) h7 h3 _, by simpa using h8⟩
theorem Up2.setl {L : List ByteArray} {pl pa pb g gc k m : Nat} {r : ByteArray × ByteArray} {w : World} (h : Up2 L pl pa pb g gc k r w) (hk : k < L.length) (hn : L.length - k = m + 1) (h1 : pa ≠ pl) (h2 : pb ≠ pl) (h3 : g ≠ pl) : Up2 L pl pa pb g gc (k + 1) r (w.setCell ⟨pl, 0, none⟩ (.slice (some ⟨g, k + 1, none⟩) m m)) := by
  obtain ⟨⟨a, ha, hba⟩, h5, h6, h7, h8⟩ := h
  refine ⟨⟨_, by have := BoxL.set ha (some ⟨g, k + 1, none⟩) m m; rwa [show L.length - (k + 1) = m by omega], fun h => rfl⟩, blk_far (p := ⟨pl, 0, none⟩) h5 h1 _, blk_far (p := ⟨pl, 0, none⟩) h6 h2 _, blk_far (p := ⟨pl, 0, none⟩) h7 h3 _, by simpa using h8⟩

set_option maxRecDepth 100000 in
set_option maxHeartbeats 2000000 in
theorem rootsof1_any (b : Bool) (L : List ByteArray) (pl pa pb g gc k : Nat) (s : ByteArray) (r : ByteArray × ByteArray) (w : World) (h : Up2 L pl pa pb g gc k r w) (hk : L[k]? = some s) (hl : L.length ≤ 1048576)
    (h1 : pl ≠ pa) (h2 : pl ≠ pb) (h3 : pa ≠ pb) (h4 : g ≠ pl) (h5 : g ≠ pa) (h6 : g ≠ pb) (h7 : gc ≠ pl) (h8 : gc ≠ pa) (h9 : gc ≠ pb) (B : Nat) (hB1 : B ≤ pl) (hB2 : B ≤ pa) (hB3 : B ≤ pb) (hBw : B ≤ w.heap.size) (ht : Tabs w)
    (htb : ∀ w', Below B w w' → Tabs w') :
    Calls Tryd.prog 79 #[.bool b, .pointer (some ⟨pl, 0, none⟩), .pointer (some ⟨pa, 0, none⟩), .pointer (some ⟨pb, 0, none⟩)] w fun e w' => e = .returned (.tuple #[]) ∧ Up2 L pl pa pb g gc (k + 1) (joinB b s r) w' ∧ Below B w w' ∧ w'.heap[gc]? = w.heap[gc]? := by
  obtain ⟨ra, rb⟩ := r
  have hkl : k < L.length := (List.getElem?_eq_some_iff.mp hk).1
  obtain ⟨n, hn⟩ : ∃ n, n = L.length - k := ⟨_, rfl⟩
  obtain ⟨m, hm⟩ : ∃ m, m = n - 1 := ⟨_, rfl⟩
  have hn0 : (0 : Int) < (n : Int) := by omega
  have hn1 : (1 : Int) ≤ (n : Int) := by omega
  have hnm : n = m + 1 := by omega
  have HJ := Lib.hid (fun b r w' (ht : Tabs w') => joined_any b s r w' ht)
  have HTB := Lib.hid htb
  have HN := Lib.hid hn
  -- what any later world tells of the boxes
  have HX := Lib.hid (fun (w' : World) (x : ByteArray × ByteArray) (hu : Up2 L pl pa pb g gc k x w') => (⟨by rw [hn]; exact (hu.box hkl).c, (hu.box hkl).k, hu.a.c, hu.a.k, hu.b.c, hu.b.k, hu.row.cell hk⟩ :
    w'.cell? ⟨pl, 0, none⟩ = some (.slice (some ⟨g, k, none⟩) n n) ∧ w'.frozen? ⟨pl, 0, none⟩ = false ∧ w'.cell? ⟨pa, 0, none⟩ = some (.string x.1) ∧ w'.frozen? ⟨pa, 0, none⟩ = false ∧ w'.cell? ⟨pb, 0, none⟩ = some (.string x.2) ∧ w'.frozen? ⟨pb, 0, none⟩ = false ∧ w'.cell? ⟨g, k, none⟩ = some (.string s)))
  have H := Lib.hid h
  have HT := Lib.hid ht
  clear h ht hn hm htb
  -- the end: the list is one shorter
  cases b with
  | false =>
    obtain ⟨c0, k0, c1, k1, c2, k2, c3⟩ := HX.out w _ H.out
    go_enter Tryd.func79, Tryd.ntmps79
    go_upto_region 2 with fail
    go_still_tail 5, (by kernel_rfl)
    change wpList _ _ _ _ _ w.drew
    have HU : Hid (Up2 L pl pa pb g gc k (ra, rb) w.drew) := Lib.hid ⟨H.out.l, H.out.a, H.out.b, H.out.row, H.out.lt⟩
    have HB0 : Hid (Below B w w.drew) := Lib.hid (Below.refl B w).drew
    have HZ0 : Hid (B ≤ w.drew.heap.size) := Lib.hid hBw
    have HG0 : Hid (w.drew.heap[gc]? = w.heap[gc]?) := Lib.hid rfl
    generalize w.drew = wd at HU HB0 HZ0 HG0 ⊢
    clear c0 k0 c1 k1 c2 k2 c3
    go_upto_region 3 with (go_at_call 73; with_reducible refine (HJ.out false rb wd (HTB.out wd HB0.out)).mono ?_; rintro e w2 ⟨rfl, hb⟩; have HB := Lib.hid hb; have HU2 := Lib.hid (HU.out.below hb); clear hb; have c4 := BoxS.c (HU2.out.b); have k4 := BoxS.k (HU2.out.b))
    have HU3 : Hid (Up2 L pl pa pb g gc k (ra, nodeS rb s) (w2.setCell ⟨pb, 0, none⟩ (.string (nodeS rb s)))) := Lib.hid (HU2.out.setb h2 h3 h6 _)
    have HB3 : Hid (Below B w (w2.setCell ⟨pb, 0, none⟩ (.string (nodeS rb s)))) := Lib.hid ((below_from HB0.out HB.out HZ0.out).trans (step_below _ hB3 (Nat.le_trans HZ0.out HB.out.size)))
    have HG3 : Hid ((w2.setCell ⟨pb, 0, none⟩ (.string (nodeS rb s))).heap[gc]? = w.heap[gc]?) := Lib.hid ((Below.heap_setCell w2 ⟨pb, 0, none⟩ _ gc h9).trans ((HB.out.block gc HU.out.lt).trans HG0.out))
    have HZ3 : Hid (B ≤ (w2.setCell ⟨pb, 0, none⟩ (.string (nodeS rb s))).heap.size) := Lib.hid (by have := HB.out.size; have := HZ0.out; simp; omega)
    generalize w2.setCell ⟨pb, 0, none⟩ (.string (nodeS rb s)) = w3 at HU3 HB3 HG3 HZ3 ⊢
    clear HU HB0 HZ0 HG0 HB HU2 c4 k4
    have hnk : L.length - k = m + 1 := by have := HN.out; omega
    have HNK := Lib.hid hnk
    clear hnk
    obtain ⟨c5, k5, _, _, _, _, _⟩ := HX.out w3 _ HU3.out
    have HBK : Hid (∀ x, Below B w (w3.setCell ⟨pl, 0, none⟩ x)) := Lib.hid fun x => HB3.out.trans (step_below _ hB1 HZ3.out)
    have HGK : Hid (∀ x, (w3.setCell ⟨pl, 0, none⟩ x).heap[gc]? = w.heap[gc]?) := Lib.hid fun x => (Below.heap_setCell w3 ⟨pl, 0, none⟩ x gc h7).trans HG3.out
    rcases Nat.eq_zero_or_pos m with hm0 | hm0
    · subst hm0
      go_wp2
      go_end0
      exact ⟨rfl, HU3.out.setl0 (n := 0) hkl HNK.out h1.symm h2.symm h4, HBK.out _, HGK.out _⟩
    · have hm1 : ¬ (m = 0) := by omega
      go_wp2
      go_end0
      exact ⟨rfl, HU3.out.setl hkl HNK.out h1.symm h2.symm h4, HBK.out _, HGK.out _⟩
  | true =>
    obtain ⟨c0, k0, c1, k1, c2, k2, c3⟩ := HX.out w _ H.out
    go_enter Tryd.func79, Tryd.ntmps79
    go_upto_region 1 with fail
    go_still_tail 4, (by kernel_rfl)
    change wpList _ _ _ _ _ w.drew
    have HU : Hid (Up2 L pl pa pb g gc k (ra, rb) w.drew) := Lib.hid ⟨H.out.l, H.out.a, H.out.b, H.out.row, H.out.lt⟩
    have HB0 : Hid (Below B w w.drew) := Lib.hid (Below.refl B w).drew
    have HZ0 : Hid (B ≤ w.drew.heap.size) := Lib.hid hBw
    have HG0 : Hid (w.drew.heap[gc]? = w.heap[gc]?) := Lib.hid rfl
    generalize w.drew = wd at HU HB0 HZ0 HG0 ⊢
    clear c0 k0 c1 k1 c2 k2 c3
    go_upto_region 2 with (go_at_call 73; with_reducible refine (HJ.out true ra wd (HTB.out wd HB0.out)).mono ?_; rintro e w2 ⟨rfl, hb⟩; have HB := Lib.hid hb; have HU2 := Lib.hid (HU.out.below hb); clear hb; have c4 := BoxS.c (HU2.out.a); have k4 := BoxS.k (HU2.out.a))
    have HU3 : Hid (Up2 L pl pa pb g gc k (nodeS s ra, rb) (w2.setCell ⟨pa, 0, none⟩ (.string (nodeS s ra)))) := Lib.hid (HU2.out.seta h1 h3.symm h5 _)
    have HB3 : Hid (Below B w (w2.setCell ⟨pa, 0, none⟩ (.string (nodeS s ra)))) := Lib.hid ((below_from HB0.out HB.out HZ0.out).trans (step_below _ hB2 (Nat.le_trans HZ0.out HB.out.size)))
    have HG3 : Hid ((w2.setCell ⟨pa, 0, none⟩ (.string (nodeS s ra))).heap[gc]? = w.heap[gc]?) := Lib.hid ((Below.heap_setCell w2 ⟨pa, 0, none⟩ _ gc h8).trans ((HB.out.block gc HU.out.lt).trans HG0.out))
    have HZ3 : Hid (B ≤ (w2.setCell ⟨pa, 0, none⟩ (.string (nodeS s ra))).heap.size) := Lib.hid (by have := HB.out.size; have := HZ0.out; simp; omega)
    generalize w2.setCell ⟨pa, 0, none⟩ (.string (nodeS s ra)) = w3 at HU3 HB3 HG3 HZ3 ⊢
    clear HU HB0 HZ0 HG0 HB HU2 c4 k4
    obtain ⟨c0, k0, c1, k1, c2, k2, c3⟩ := HX.out w3 _ HU3.out
    go_still_tail 5, (by kernel_rfl)
    change wpList _ _ _ _ _ w3.drew
    have HU : Hid (Up2 L pl pa pb g gc k (nodeS s ra, rb) w3.drew) := Lib.hid ⟨HU3.out.l, HU3.out.a, HU3.out.b, HU3.out.row, HU3.out.lt⟩
    have HB0 : Hid (Below B w w3.drew) := Lib.hid HB3.out.drew
    have HZ0 : Hid (B ≤ w3.drew.heap.size) := HZ3
    have HG0 : Hid (w3.drew.heap[gc]? = w.heap[gc]?) := HG3
    generalize w3.drew = wd at HU HB0 HZ0 HG0 ⊢
    clear c0 k0 c1 k1 c2 k2 c3 HU3 HB3 HG3 HZ3
    go_upto_region 3 with (go_at_call 73; with_reducible refine (HJ.out true rb wd (HTB.out wd HB0.out)).mono ?_; rintro e w2 ⟨rfl, hb⟩; have HB := Lib.hid hb; have HU2 := Lib.hid (HU.out.below hb); clear hb; have c4 := BoxS.c (HU2.out.b); have k4 := BoxS.k (HU2.out.b))
    have HU3 : Hid (Up2 L pl pa pb g gc k (nodeS s ra, nodeS s rb) (w2.setCell ⟨pb, 0, none⟩ (.string (nodeS s rb)))) := Lib.hid (HU2.out.setb h2 h3 h6 _)
    have HB3 : Hid (Below B w (w2.setCell ⟨pb, 0, none⟩ (.string (nodeS s rb)))) := Lib.hid ((below_from HB0.out HB.out HZ0.out).trans (step_below _ hB3 (Nat.le_trans HZ0.out HB.out.size)))
    have HG3 : Hid ((w2.setCell ⟨pb, 0, none⟩ (.string (nodeS s rb))).heap[gc]? = w.heap[gc]?) := Lib.hid ((Below.heap_setCell w2 ⟨pb, 0, none⟩ _ gc h9).trans ((HB.out.block gc HU.out.lt).trans HG0.out))
    have HZ3 : Hid (B ≤ (w2.setCell ⟨pb, 0, none⟩ (.string (nodeS s rb))).heap.size) := Lib.hid (by have := HB.out.size; have := HZ0.out; simp; omega)
    generalize w2.setCell ⟨pb, 0, none⟩ (.string (nodeS s rb)) = w3 at HU3 HB3 HG3 HZ3 ⊢
    clear HU HB0 HZ0 HG0 HB HU2 c4 k4
    have hnk : L.length - k = m + 1 := by have := HN.out; omega
    have HNK := Lib.hid hnk
    clear hnk
    obtain ⟨c5, k5, _, _, _, _, _⟩ := HX.out w3 _ HU3.out
    have HBK : Hid (∀ x, Below B w (w3.setCell ⟨pl, 0, none⟩ x)) := Lib.hid fun x => HB3.out.trans (step_below _ hB1 HZ3.out)
    have HGK : Hid (∀ x, (w3.setCell ⟨pl, 0, none⟩ x).heap[gc]? = w.heap[gc]?) := Lib.hid fun x => (Below.heap_setCell w3 ⟨pl, 0, none⟩ x gc h7).trans HG3.out
    rcases Nat.eq_zero_or_pos m with hm0 | hm0
    · subst hm0
      go_wp2
      go_end0
      exact ⟨rfl, HU3.out.setl0 (n := 0) hkl HNK.out h1.symm h2.symm h4, HBK.out _, HGK.out _⟩
    · have hm1 : ¬ (m = 0) := by omega
      go_wp2
      go_end0
      exact ⟨rfl, HU3.out.setl hkl HNK.out h1.symm h2.symm h4, HBK.out _, HGK.out _⟩
end Go.Proofs.YtmlekeegmdpjkaaDoor
