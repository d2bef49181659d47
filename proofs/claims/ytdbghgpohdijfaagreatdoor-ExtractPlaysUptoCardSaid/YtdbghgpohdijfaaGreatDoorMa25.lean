/- Layer 4, walked: RootOf, Inclusion. -/
import Derived.Test.YtdbghgpohdijfaaGreatDoorMa24
import Derived.StillTailTactics
namespace Go.Proofs.YtdbghgpohdijfaaGreatDoor
open Go.RowKit Go.Scr
set_option linter.unusedVariables false

theorem txts_one (w : World) (s : ByteArray) : Txts (w.alloc (.cells #[.string s] 9)) (.slice (some ⟨w.heap.size, 0, none⟩) 1 1) [s] := txts_alloc w 9 [s] (by simp)
def joinS (b : Bool) (s r : ByteArray) : ByteArray := if b then nodeS s r else nodeS r s
/-- where a way up stands: its list, k of it gone, in a box; its hash in another one -/
structure Up (L : List ByteArray) (pl ps g gc k : Nat) (r : ByteArray) (w : World) : Prop where
  l : ∃ a, BoxL w pl a (L.length - k) (L.length - k) ∧ (k < L.length → a = some ⟨g, k, none⟩)
  s : BoxS w ps r
  row : SRow w g L
  lt : gc < w.heap.size

set_option maxRecDepth 100000 in
set_option maxHeartbeats 1000000 in
theorem rootof1_any (b : Bool) (L : List ByteArray) (pl ps g gc k : Nat) (s r : ByteArray) (w : World) (h : Up L pl ps g gc k r w) (hk : L[k]? = some s) (hl : L.length ≤ 1048576)
    (h1 : pl ≠ ps) (h2 : pl ≠ g) (h3 : ps ≠ g) (h4 : gc ≠ pl) (h5 : gc ≠ ps) (B : Nat) (hB1 : B ≤ pl) (hB2 : B ≤ ps) (hBw : B ≤ w.heap.size) (ht : Tabs w) :
    Calls Tryz.prog 72 #[.bool b, .pointer (some ⟨pl, 0, none⟩), .pointer (some ⟨ps, 0, none⟩)] w fun e w' => e = .returned (.tuple #[]) ∧ Up L pl ps g gc (k + 1) (joinS b s r) w' ∧ Below B w w' ∧ w'.heap[gc]? = w.heap[gc]? := by
  have H := Lib.hid h
  have hkl : k < L.length := (List.getElem?_eq_some_iff.mp hk).1
  have HL : Hid (BoxL w pl (some ⟨g, k, none⟩) (L.length - k) (L.length - k)) := by
    obtain ⟨a, ha, hb⟩ := h.l
    rw [hb hkl] at ha
    exact Lib.hid ha
  have c0 := HL.out.c
  have c1 := h.s.c
  have c2 := h.row.cell hk
  have k1 := h.s.k
  obtain ⟨n, hn⟩ : ∃ n, n = L.length - k := ⟨_, rfl⟩
  obtain ⟨m, hm⟩ : ∃ m, m = n - 1 := ⟨_, rfl⟩
  rw [← hn] at c0
  have hn0 : (0 : Int) < (n : Int) := by omega
  have hn1 : (1 : Int) ≤ (n : Int) := by omega
  have hj := fun w' (ht : Tabs w') => joined_any b s r w' ht
  have HJ := Lib.hid hj
  have HT := Lib.hid ht
  have HN := Lib.hid hn
  have HM := Lib.hid hm
  have hnm : n = m + 1 := by omega
  clear h hj hn hm
  go_enter Tryz.func72, Tryz.ntmps72
  go_upto_region 0 with fail
  go_still_tail 5, (by kernel_rfl)
  change wpList _ _ _ _ _ w.drew
  have HU : Hid (∀ w2, Below w.drew.heap.size w.drew w2 → BoxL w2 pl (some ⟨g, k, none⟩) (L.length - k) (L.length - k) ∧ BoxS w2 ps r ∧ SRow w2 g L ∧ gc < w2.heap.size) := Lib.hid fun w2 hb => ⟨blk_below (w := w.drew) HL.out hb (blk_lt HL.out), blk_below (w := w.drew) H.out.s hb (blk_lt H.out.s), blk_below (w := w.drew) H.out.row hb (blk_lt H.out.row), Nat.lt_of_lt_of_le H.out.lt hb.size⟩
  have HTd : Hid (Tabs w.drew) := HT
  go_upto_region 1 with (go_at_call 73; with_reducible refine (HJ.out w.drew HTd.out).mono ?_; rintro e w2 ⟨rfl, hb⟩; have HB := Lib.hid hb; have HU2 := Lib.hid (HU.out w2 hb); clear hb; have c3 := BoxS.c (HU2.out.2.1); have k3 := BoxS.k (HU2.out.2.1))
  obtain ⟨v, hv⟩ : ∃ v, v = joinS b s r := ⟨_, rfl⟩
  have HVV := Lib.hid hv
  have hv2 : (if b = true then nodeS s r else nodeS r s) = v := hv.symm
  rw [hv2]
  clear hv hv2 c3 k3 c0 c1 c2 k1
  have d0 : BoxL (w2.setCell ⟨ps, 0, none⟩ (.string v)) pl (some ⟨g, k, none⟩) n n := by rw [HN.out]; exact blk_far (p := ⟨ps, 0, none⟩) HU2.out.1 h1 _
  have HS3 : Hid (BoxS (w2.setCell ⟨ps, 0, none⟩ (.string v)) ps v) := Lib.hid (HU2.out.2.1.set v)
  have HR3 : Hid (SRow (w2.setCell ⟨ps, 0, none⟩ (.string v)) g L) := Lib.hid (HU2.out.2.2.1.far (p := ⟨ps, 0, none⟩) h3.symm _)
  have HB3 : Hid (Below B w (w2.setCell ⟨ps, 0, none⟩ (.string v))) := Lib.hid ((below_from (Below.refl B w).drew HB.out hBw).trans (step_below _ hB2 (Nat.le_trans hBw HB.out.size)))
  have HG3 : Hid ((w2.setCell ⟨ps, 0, none⟩ (.string v)).heap[gc]? = w.heap[gc]?) := Lib.hid ((Below.heap_setCell w2 ⟨ps, 0, none⟩ _ gc h5).trans (HB.out.block gc H.out.lt))
  have HZ3 : Hid (gc < (w2.setCell ⟨ps, 0, none⟩ (.string v)).heap.size ∧ B ≤ (w2.setCell ⟨ps, 0, none⟩ (.string v)).heap.size) := Lib.hid (by have := HU2.out.2.2.2; have := HB.out.size; have h0 : w.drew.heap.size = w.heap.size := rfl; simp; omega)
  generalize w2.setCell ⟨ps, 0, none⟩ (.string v) = w3 at d0 HS3 HR3 HB3 HG3 HZ3 ⊢
  have HD0 := Lib.hid d0
  have c0 := d0.c
  have k0 := d0.k
  clear d0 HU HU2 HB HTd
  have HBK : Hid (∀ x, Below B w (w3.setCell ⟨pl, 0, none⟩ x)) := Lib.hid fun x => HB3.out.trans (step_below _ hB1 HZ3.out.2)
  have HGK : Hid (∀ x, (w3.setCell ⟨pl, 0, none⟩ x).heap[gc]? = w.heap[gc]?) := Lib.hid fun x => (Below.heap_setCell w3 ⟨pl, 0, none⟩ x gc h4).trans HG3.out
  have HSK : Hid (∀ x, BoxS (w3.setCell ⟨pl, 0, none⟩ x) ps v ∧ SRow (w3.setCell ⟨pl, 0, none⟩ x) g L ∧ gc < (w3.setCell ⟨pl, 0, none⟩ x).heap.size) := Lib.hid fun x => ⟨blk_far (p := ⟨pl, 0, none⟩) HS3.out h1.symm x, HR3.out.far (p := ⟨pl, 0, none⟩) h2.symm x, by have := HZ3.out.1; simpa using this⟩
  go_wp2
  · go_end0
    refine ⟨rfl, ⟨⟨_, by have := HD0.out.set (some ⟨g, k, none⟩) 0 0; rwa [show L.length - (k + 1) = 0 by have := HN.out; omega], fun h => by have := HN.out; omega⟩, by rw [← HVV.out]; exact (HSK.out _).1, (HSK.out _).2.1, (HSK.out _).2.2⟩, HBK.out _, HGK.out _⟩
  · go_end0
    refine ⟨rfl, ⟨⟨_, by have := HD0.out.set (some ⟨g, k + 1, none⟩) m m; rwa [show L.length - (k + 1) = m by have := HN.out; omega], fun h => rfl⟩, by rw [← HVV.out]; exact (HSK.out _).1, (HSK.out _).2.1, (HSK.out _).2.2⟩, HBK.out _, HGK.out _⟩

theorem Up.only {L : List ByteArray} {pl ps g gc k : Nat} {r : ByteArray} {w w' : World} (h : Up L pl ps g gc k r w) (hg : w.grownBy w' (some gc)) (h1 : pl ≠ gc) (h2 : ps ≠ gc) (h3 : g ≠ gc) : Up L pl ps g gc k r w' := by
  obtain ⟨⟨a, ha, hb⟩, h5, h6, h7⟩ := h
  exact ⟨⟨a, blk_only ha hg (by simpa using h1), hb⟩, blk_only h5 hg (by simpa using h2), blk_only h6 hg (by simpa using h3), Nat.lt_of_lt_of_le h7 hg.size⟩
theorem climb_next {D : List Bool} {L : List ByteArray} {leaf : ByteArray} {k : Nat} {b : Bool} {s : ByteArray} (hb : D[k]? = some b) (hs : L[k]? = some s) :
    joinS b s (climbF nodeS (D.take k) (L.take k) leaf) = climbF nodeS (D.take k ++ [b]) (L.take (k + 1)) leaf := by
  obtain ⟨h1, h2⟩ := List.getElem?_eq_some_iff.mp hs
  obtain ⟨h3, h4⟩ := List.getElem?_eq_some_iff.mp hb
  rw [List.take_succ_eq_append_getElem h1, h2, climbF_snoc _ _ _ _ _ _ (by rw [List.length_take, List.length_take]; omega)]
  rfl
theorem up_steps (W w : World) (L : List ByteArray) (leaf : ByteArray) (pl ps g gc a l : Nat) (hb : Below W.heap.size W w) (ht : Tabs W) (hpl : W.heap.size ≤ pl) (hps : W.heap.size ≤ ps) (hgc : W.heap.size ≤ gc)
    (h1 : pl ≠ ps) (h2 : pl ≠ g) (h3 : ps ≠ g) (h4 : gc ≠ pl) (h5 : gc ≠ ps) (h6 : g ≠ gc) (hU : Up L pl ps g gc 0 leaf w) (hc : Climb w gc a l) (hal : a ≤ l) (hl : l ≤ 1099511627776) (hlen : (stepL a l).length = L.length) (hL : L.length ≤ 1048576) :
    Calls Tryz.prog 71 #[.pointer (some ⟨gc, 0, none⟩), .func (.func 72) #[] #[.pointer (some ⟨pl, 0, none⟩), .pointer (some ⟨ps, 0, none⟩)]] w fun e w' => e = .returned (.tuple #[]) ∧ BoxS w' ps (climbF nodeS (stepL a l) L leaf) ∧ Below W.heap.size W w' := by
  refine (steps_rootof gc W.heap.size pl ps (fun D w' => Up L pl ps g gc D.length (climbF nodeS D (L.take D.length) leaf) w') hgc (fun D w w' h hg => h.only hg (fun h => h4 h.symm) (fun h => h5 h.symm) h6) a l hal hl w hc hb.size (by exact hU) ?_).mono ?_
  · intro k b w' hk hI hbw
    obtain ⟨hkl, hkb⟩ := List.getElem?_eq_some_iff.mp hk
    have hlk : ((stepL a l).take k).length = k := by rw [List.length_take]; omega
    rw [hlk] at hI
    obtain ⟨s, hs⟩ : ∃ s, L[k]? = some s := ⟨L[k]'(by omega), List.getElem?_eq_getElem _⟩
    refine (rootof1_any b L pl ps g gc k s _ w' hI hs hL h1 h2 h3 h4 h5 W.heap.size hpl hps (Nat.le_trans hb.size hbw.size) (ht.below (hb.trans hbw))).mono ?_
    rintro e w'' ⟨he, hu, hbb, hgg⟩
    rw [climb_next hk hs] at hu
    refine ⟨he, ?_, hbb, hgg⟩
    rw [List.length_append, hlk]
    exact hu
  · rintro e w' ⟨he, hu, hbb⟩
    have := hu.s
    rw [List.take_of_length_le (by omega)] at this
    exact ⟨he, this, hb.trans hbb⟩

theorem three_below {W w3 : World} (hb : Below W.heap.size W w3) (a b c : Obj) : Below W.heap.size W (((w3.alloc a).alloc b).alloc c) := ((hb.alloc hb.size a).alloc (hb.alloc hb.size a).size b).alloc ((hb.alloc hb.size a).alloc (hb.alloc hb.size a).size b).size c
theorem three_lt (w : World) (a b c : Obj) : w.heap.size + 1 + 1 < (((w.alloc a).alloc b).alloc c).heap.size := by simp
def rootOfE (s i : Int) (leaf : ByteArray) (L : List ByteArray) : Int := if pathLenE s i ≠ 0 then pathLenE s i else if leaf.size ≠ 32 ∨ all32 L = false then 42 else if (L.length : Int) ≠ pathLenS s i then 43 else 0
def rootOfS (s i : Int) (leaf : ByteArray) (L : List ByteArray) : ByteArray := if rootOfE s i leaf L = 0 then climbF nodeS (dn s.toNat i.toNat) L leaf else ⟨#[]⟩

set_option maxRecDepth 100000 in
set_option maxHeartbeats 2000000 in
theorem rootof_any (s i : Int) (leaf : ByteArray) (v : Value) (L : List ByteArray) (w : World) (ht : Tabs w) (hv : Txts w v L) (hl : L.length ≤ 1048576) :
    Calls Tryz.prog 49 #[.int .i64 s, .int .i64 i, .string leaf, v] w fun e w' => e = .returned (.tuple #[.string (rootOfS s i leaf L), .int .i64 (rootOfE s i leaf L)]) ∧ Below w.heap.size w w' := by
  have HT := Lib.hid ht
  have HV := Lib.hid hv
  obtain ⟨p, c, rfl, hv1, hv2, hv3⟩ := hv
  obtain ⟨q, hq⟩ : ∃ q, q = L.length := ⟨_, rfl⟩
  rw [← hq] at hv1 HV hl ⊢
  have HQ := Lib.hid hq
  have hpl := pathlen_any s i w
  obtain ⟨E, hE⟩ : ∃ E, E = pathLenE s i := ⟨_, rfl⟩
  obtain ⟨PL, hPL⟩ : ∃ PL, PL = pathLenS s i := ⟨_, rfl⟩
  rw [← hE, ← hPL] at hpl
  have HPL := Lib.hid hpl
  have HE := Lib.hid hE
  have HPLS := Lib.hid hPL
  clear ht hv1 hv2 hv3 hq hpl hE hPL
  have HH := Lib.hid (fun w' (h : Txts w' (.slice p q c) L) => hashes_any _ L w' h)
  have HH1 := Lib.hid (fun (w1 : World) => hashes_any (.slice (some ⟨w1.heap.size, 0, none⟩) 1 1) [leaf] (w1.alloc (.cells #[.string leaf] 9)) (txts_one w1 leaf))
  by_cases hE0 : E = 0
  · subst hE0
    by_cases hleaf : leaf.size = 32
    · have ha1 : all32 [leaf] = true := by simp [all32, hleaf]
      rw [ha1] at HH1
      by_cases hall : all32 L = true
      · rw [hall] at HH
        by_cases hlen : (q : Int) = PL
        · obtain ⟨hsn, hin⟩ : (¬ (s < 1 ∨ 1099511627776 < s)) ∧ ¬ (i < 0 ∨ s ≤ i) := by
            have := HE.out
            unfold pathLenE at this
            constructor
            · intro h; rw [if_pos h] at this; cases this
            · intro h
              by_cases h0 : s < 1 ∨ 1099511627776 < s
              · rw [if_pos h0] at this; cases this
              · rw [if_neg h0, if_pos h] at this; cases this
          have e1 : rootOfE s i leaf L = 0 := by unfold rootOfE; rw [← HE.out, ← HPLS.out, ← HQ.out, if_neg (by simp), if_neg (by simp [hleaf, hall]), if_neg (by simp [hlen])]
          have e2 : rootOfS s i leaf L = climbF nodeS (dn s.toNat i.toNat) L leaf := by unfold rootOfS; rw [e1]; rfl
          rw [e1, e2]
          clear e1 e2
          obtain ⟨n, rfl⟩ : ∃ n : Nat, s = n := ⟨s.toNat, by omega⟩
          obtain ⟨m, rfl⟩ : ∃ m : Nat, i = m := ⟨i.toNat, by omega⟩
          have hmn : m < n := by omega
          have hn : n ≤ 1099511627776 := by omega
          obtain ⟨l, hl2⟩ : ∃ l, l = n - 1 := ⟨_, rfl⟩
          have hD : stepL m l = dn n m := by rw [hl2]; exact stepL_dn n m hmn
          have hql : (stepL m l).length = L.length := by
            have h1 := HPLS.out
            rw [(pathLenS_ok hmn hn).1] at h1
            rw [hD, ← HQ.out]
            unfold wayN at h1
            omega
          have hli : (n : Int) - 1 = (l : Int) := by omega
          have hml : m ≤ l := by omega
          have hlb : l ≤ 1099511627776 := by omega
          rw [Int.toNat_natCast, Int.toNat_natCast, ← hD]
          have HOWN := Lib.hid (fun w' (h : Txts w' (.slice p q c) L) => own_any _ L w' h (by rw [← HQ.out]; exact hl))
          rw [← HQ.out] at HOWN
          have HST := Lib.hid (fun (w3 : World) (g : Nat) (hb : Below w.heap.size w w3) (hg : w.heap.size ≤ g) (hr : SRow w3 g L) => up_steps w (((w3.alloc (.cells #[.slice (some ⟨g, 0, none⟩) q q] 22)).alloc (.cells #[.string leaf] 9)).alloc (.cells #[.int .i64 m, .int .i64 l] 90)) L leaf w3.heap.size (w3.heap.size + 1) g (w3.heap.size + 1 + 1) m l
            (three_below hb _ _ _) HT.out hb.size (Nat.le_trans hb.size (Nat.le_succ _)) (Nat.le_trans hb.size (by omega)) (by omega) (by have := hr.lt; omega) (by have := hr.lt; omega) (by omega) (by omega) (by have := hr.lt; omega)
            ⟨⟨_, by rw [Nat.sub_zero, ← HQ.out]; exact blk_alloc (blk_alloc (heap_alloc_new w3 _)), fun _ => rfl⟩, blk_alloc (heap_alloc2_new w3 _ _), (hr.alloc _).alloc _ |>.alloc _, three_lt _ _ _ _⟩ (heap_alloc_at _ _ _ (by simp)) hml hlb hql (by rw [← HQ.out]; exact hl))
          clear hsn hin hmn hl2 hD hql hall ha1 hleaf
          go_enter Tryz.func49, Tryz.ntmps49
          go_wp2_with (first
            | (go_at_call 69; with_reducible refine (HPL.out).mono ?_; rintro e w1 ⟨rfl, hb⟩; have HB1 := Lib.hid hb; clear hb)
            | (go_at_call 50; with_reducible refine (HH1.out w1).mono ?_; rintro e w2 ⟨rfl, rfl⟩)
            | (go_at_call 50; with_reducible refine (HH.out _ (HV.out.below (HB1.out.alloc HB1.out.size _) (Nat.le_refl _))).mono ?_; rintro e w2 ⟨rfl, rfl⟩)
            | (go_at_call 70; with_reducible refine (HOWN.out _ (HV.out.below (HB1.out.alloc HB1.out.size _) (Nat.le_refl _))).mono ?_; rintro e w3 ⟨g, rfl, hg, hr, hb⟩; have HB3 := Lib.hid (below_from (HB1.out.alloc HB1.out.size _) hb (HB1.out.alloc HB1.out.size _).size); have HG := Lib.hid (Nat.le_trans (HB1.out.alloc HB1.out.size _).size hg); have HR := Lib.hid hr; clear hg hr hb)
            | (go_at_call 71; (with_reducible refine (HST.out w3 g HB3.out HG.out HR.out).mono ?_; rintro e w4 ⟨rfl, hs4, hb4⟩; have c4 := BoxS.c hs4; have HB4 := Lib.hid hb4; clear hs4 hb4)))
          go_ret2
          exact ⟨rfl, HB4.out⟩
        · have e1 : rootOfE s i leaf L = 43 := by unfold rootOfE; rw [← HE.out, ← HPLS.out, ← HQ.out, if_neg (by simp), if_neg (by simp [hleaf, hall]), if_pos hlen]
          have e2 : rootOfS s i leaf L = ⟨#[]⟩ := by unfold rootOfS; rw [e1]; rfl
          rw [e1, e2]
          clear e1 e2 hall ha1 hleaf
          go_enter Tryz.func49, Tryz.ntmps49
          go_wp2_with (first
            | (go_at_call 69; with_reducible refine (HPL.out).mono ?_; rintro e w1 ⟨rfl, hb⟩; have HB1 := Lib.hid hb; clear hb)
            | (go_at_call 50; with_reducible refine (HH1.out w1).mono ?_; rintro e w2 ⟨rfl, rfl⟩)
            | (go_at_call 50; with_reducible refine (HH.out _ (HV.out.below (HB1.out.alloc HB1.out.size _) (Nat.le_refl _))).mono ?_; rintro e w2 ⟨rfl, rfl⟩))
          go_ret2
          exact ⟨rfl, HB1.out.alloc HB1.out.size _⟩
      · have hall' : all32 L = false := by simpa using hall
        rw [hall'] at HH
        have e1 : rootOfE s i leaf L = 42 := by unfold rootOfE; rw [← HE.out, if_neg (by simp), if_pos (Or.inr hall')]
        have e2 : rootOfS s i leaf L = ⟨#[]⟩ := by unfold rootOfS; rw [e1]; rfl
        rw [e1, e2]
        clear e1 e2 hall hall' ha1 hleaf
        go_enter Tryz.func49, Tryz.ntmps49
        go_wp2_with (first
          | (go_at_call 69; with_reducible refine (HPL.out).mono ?_; rintro e w1 ⟨rfl, hb⟩; have HB1 := Lib.hid hb; clear hb)
          | (go_at_call 50; with_reducible refine (HH1.out w1).mono ?_; rintro e w2 ⟨rfl, rfl⟩)
          | (go_at_call 50; with_reducible refine (HH.out _ (HV.out.below (HB1.out.alloc HB1.out.size _) (Nat.le_refl _))).mono ?_; rintro e w2 ⟨rfl, rfl⟩))
        go_ret2
        exact ⟨rfl, HB1.out.alloc HB1.out.size _⟩
    · have ha1 : all32 [leaf] = false := by simp [all32, hleaf]
      rw [ha1] at HH1
      have e1 : rootOfE s i leaf L = 42 := by unfold rootOfE; rw [← HE.out, if_neg (by simp), if_pos (Or.inl hleaf)]
      have e2 : rootOfS s i leaf L = ⟨#[]⟩ := by unfold rootOfS; rw [e1]; rfl
      rw [e1, e2]
      clear e1 e2 ha1 hleaf
      go_enter Tryz.func49, Tryz.ntmps49
      go_wp2_with (first
        | (go_at_call 69; with_reducible refine (HPL.out).mono ?_; rintro e w1 ⟨rfl, hb⟩; have HB1 := Lib.hid hb; clear hb)
        | (go_at_call 50; with_reducible refine (HH1.out w1).mono ?_; rintro e w2 ⟨rfl, rfl⟩)
        | (go_at_call 50; with_reducible refine (HH.out _ (HV.out.below (HB1.out.alloc HB1.out.size _) (Nat.le_refl _))).mono ?_; rintro e w2 ⟨rfl, rfl⟩))
      go_ret2
      exact ⟨rfl, HB1.out.alloc HB1.out.size _⟩
  · have e1 : rootOfE s i leaf L = E := by unfold rootOfE; rw [← HE.out, if_pos hE0]
    have e2 : rootOfS s i leaf L = ⟨#[]⟩ := by unfold rootOfS; rw [e1, if_neg hE0]
    rw [e1, e2]
    clear e1 e2
    go_enter Tryz.func49, Tryz.ntmps49
    go_wp2_with (first
      | (go_at_call 69; with_reducible refine (HPL.out).mono ?_; rintro e w1 ⟨rfl, hb⟩; have HB1 := Lib.hid hb; clear hb)
      | (go_at_call 50; with_reducible refine (HH1.out w1).mono ?_; rintro e w2 ⟨rfl, rfl⟩)
      | (go_at_call 50; with_reducible refine (HH.out _ (HV.out.below (HB1.out.alloc HB1.out.size _) (Nat.le_refl _))).mono ?_; rintro e w2 ⟨rfl, rfl⟩))
    go_ret2
    exact ⟨rfl, HB1.out⟩
end Go.Proofs.YtdbghgpohdijfaaGreatDoor
/- Layer 4, walked: Inclusion. -/
namespace Go.Proofs.YtdbghgpohdijfaaGreatDoor
open Go.RowKit Go.Scr
set_option linter.unusedVariables false

def inclS (s i : Int) (leaf : ByteArray) (L : List ByteArray) (root : ByteArray) : Int := if rootOfE s i leaf L ≠ 0 then rootOfE s i leaf L else if root.size ≠ 32 then 42 else if rootOfS s i leaf L ≠ root then 44 else 0
theorem toList_ne {a b : ByteArray} (h : a ≠ b) : (a.toList == b.toList) = false := by
  rw [beq_eq_false_iff_ne]
  intro h2
  apply h
  rw [ByteArray.toList_eq, ByteArray.toList_eq] at h2
  exact ByteArray.ext (Array.ext' h2)

set_option maxRecDepth 100000 in
set_option maxHeartbeats 1000000 in
theorem inclusion_any (s i : Int) (leaf : ByteArray) (v : Value) (L : List ByteArray) (root : ByteArray) (w : World) (ht : Tabs w) (hv : Txts w v L) (hl : L.length ≤ 1048576) :
    Calls Tryz.prog 19 #[.int .i64 s, .int .i64 i, .string leaf, v, .string root] w fun e w' => e = .returned (.int .i64 (inclS s i leaf L root)) ∧ Below w.heap.size w w' := by
  have hr := rootof_any s i leaf v L w ht hv hl
  obtain ⟨E, hE⟩ : ∃ E, E = rootOfE s i leaf L := ⟨_, rfl⟩
  obtain ⟨R, hR⟩ : ∃ R, R = rootOfS s i leaf L := ⟨_, rfl⟩
  unfold inclS
  rw [← hE, ← hR] at hr ⊢
  have HRT := Lib.hid hr
  have HH1 := Lib.hid (fun (w1 : World) => hashes_any (.slice (some ⟨w1.heap.size, 0, none⟩) 1 1) [root] (w1.alloc (.cells #[.string root] 9)) (txts_one w1 root))
  clear ht hv hr hE hR
  by_cases hE0 : E = 0
  · rw [if_neg (by simp [hE0])]
    subst hE0
    by_cases hroot : root.size = 32
    · rw [if_neg (by simp [hroot])]
      have ha1 : all32 [root] = true := by simp [all32, hroot]
      rw [ha1] at HH1
      by_cases hRr : R = root
      · rw [if_neg (by simp [hRr])]
        subst hRr
        clear hroot ha1
        go_enter Tryz.func19, Tryz.ntmps19
        go_wp2_with (first
          | (go_at_call 49; with_reducible refine (HRT.out).mono ?_; rintro e w1 ⟨rfl, hb⟩; have HB1 := Lib.hid hb; clear hb)
          | (go_at_call 50; with_reducible refine (HH1.out w1).mono ?_; rintro e w2 ⟨rfl, rfl⟩))
        go_ret
        exact ⟨rfl, HB1.out.alloc HB1.out.size _⟩
      · rw [if_pos hRr]
        have hne := toList_ne hRr
        clear hroot ha1 hRr
        go_enter Tryz.func19, Tryz.ntmps19
        go_wp2_with (first
          | (go_at_call 49; with_reducible refine (HRT.out).mono ?_; rintro e w1 ⟨rfl, hb⟩; have HB1 := Lib.hid hb; clear hb)
          | (go_at_call 50; with_reducible refine (HH1.out w1).mono ?_; rintro e w2 ⟨rfl, rfl⟩))
        go_ret
        exact ⟨rfl, HB1.out.alloc HB1.out.size _⟩
    · rw [if_pos hroot]
      have ha1 : all32 [root] = false := by simp [all32, hroot]
      rw [ha1] at HH1
      clear hroot ha1
      go_enter Tryz.func19, Tryz.ntmps19
      go_wp2_with (first
        | (go_at_call 49; with_reducible refine (HRT.out).mono ?_; rintro e w1 ⟨rfl, hb⟩; have HB1 := Lib.hid hb; clear hb)
        | (go_at_call 50; with_reducible refine (HH1.out w1).mono ?_; rintro e w2 ⟨rfl, rfl⟩))
      go_ret
      exact ⟨rfl, HB1.out.alloc HB1.out.size _⟩
  · rw [if_pos hE0]
    go_enter Tryz.func19, Tryz.ntmps19
    go_wp2_with (first
      | (go_at_call 49; with_reducible refine (HRT.out).mono ?_; rintro e w1 ⟨rfl, hb⟩; have HB1 := Lib.hid hb; clear hb)
      | (go_at_call 50; with_reducible refine (HH1.out w1).mono ?_; rintro e w2 ⟨rfl, rfl⟩))
    go_ret
    exact ⟨rfl, HB1.out⟩
end Go.Proofs.YtdbghgpohdijfaaGreatDoor
