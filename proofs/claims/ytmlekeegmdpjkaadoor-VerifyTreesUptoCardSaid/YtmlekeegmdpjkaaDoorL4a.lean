/- The law 4's first calls, walked. -/
import Derived.Test.YtmlekeegmdpjkaaDoorVre
namespace Go.Proofs.YtmlekeegmdpjkaaDoor
open Go.RowKit Go.Scr
set_option linter.unusedVariables false

def hashS (s : ByteArray) : ByteArray := str (sha s.data.toList)
theorem hashS_size (s : ByteArray) : (hashS s).size = 32 := by unfold hashS; rw [str_size, sha_length]
theorem nodeS_size {l r : ByteArray} (hl : l.size = 32) (hr : r.size = 32) : (nodeS l r).size = 32 := by unfold nodeS; rw [if_pos ⟨hl, hr⟩]; unfold hnode; rw [str_size, sha_length]
theorem rootOf_ok {n m : Nat} {leaf : ByteArray} {L : List ByteArray} (h : m < n) (hn : n ≤ 1099511627776) (hl : leaf.size = 32) (ha : all32 L = true) (hL : L.length = wayN n m) :
    rootOfE n m leaf L = 0 ∧ rootOfS n m leaf L = climbF nodeS (dn n m) L leaf := by
  have h0 : rootOfE n m leaf L = 0 := by
    unfold rootOfE
    rw [(pathLenS_ok h hn).1, (pathLenS_ok h hn).2, if_neg (by simp), if_neg (by simp [hl, ha]), if_neg (by simp [hL])]
  refine ⟨h0, ?_⟩
  unfold rootOfS
  rw [h0, if_pos rfl, Int.toNat_natCast, Int.toNat_natCast]
theorem rootsOf_ok {f s : Nat} {old : ByteArray} {L : List ByteArray} (h1 : 1 ≤ f) (h2 : f ≤ s) (hs : s ≤ 1099511627776) (hl : old.size = 32) (ha : all32 L = true) (hL : L.length = toldN f s true) :
    rootsOfE f s old L = 0 ∧ rootsOfS f s old L = bothS f s true old L := by
  have h0 : rootsOfE f s old L = 0 := by
    unfold rootsOfE
    rw [(proofLenS_ok h1 h2 hs).1, (proofLenS_ok h1 h2 hs).2, if_neg (by simp), if_neg (by simp [hl, ha]), if_neg (by simp [hL])]
  refine ⟨h0, ?_⟩
  unfold rootsOfS
  rw [h0, if_pos rfl, Int.toNat_natCast, Int.toNat_natCast]
  rfl
theorem spl2 : spl 2 = 1 := spl_two 0 (by decide) (by decide)
theorem spl4 : spl 4 = 2 := spl_two 1 (by decide) (by decide)
theorem spl5 : spl 5 = 4 := spl_two 2 (by decide) (by decide)
theorem way50 : wayN 5 0 = 3 := by
  rw [wayN_left (by decide) (by rw [spl5]; decide), spl5, wayN_left (by decide) (by rw [spl4]; decide), spl4, wayN_left (by decide) (by rw [spl2]; decide), spl2, wayN_one _ (by decide)]
theorem told35 : toldN 3 5 true = 4 := by
  rw [toldN_left _ (by decide) (by decide) (by rw [spl5]; decide), spl5, toldN_right _ (by decide) (by decide) (by rw [spl4]; decide), spl4, toldN_left _ (by decide) (by decide) (by rw [spl2]; decide), spl2, toldN_same]
  rfl
theorem dn21 : dn 2 1 = [true] := by rw [dn_right (by decide) (by rw [spl2]; decide), spl2, dn_one _ (by decide)]; rfl
theorem way21 : wayN 2 1 = 1 := by unfold wayN; rw [dn21]; rfl
theorem told12 : toldN 1 2 true = 1 := by rw [toldN_left _ (by decide) (by decide) (by rw [spl2]; decide), spl2, toldN_same]; rfl
theorem fl12 : fl 1 2 = [false] := by rw [fl, dif_neg (by decide), if_pos (by rw [spl2]; decide), spl2, fl, dif_pos (Or.inl rfl)]; rfl
theorem wh12 : wh 1 2 true = true := by rw [wh, dif_neg (by decide), if_pos (by rw [spl2]; decide), spl2, wh, dif_pos (Or.inl rfl)]
theorem sha_pl : sha (1 :: (sha [112] ++ sha [108])) ≠ sha [108] := by decide +kernel
theorem sha_lp : sha (1 :: (sha [108] ++ sha [112])) ≠ sha [112] := by decide +kernel

set_option maxRecDepth 100000 in
set_option maxHeartbeats 400000 in
theorem hash4_any (s : ByteArray) (w : World) (hs : s.size ≤ 140737488355199) :
    Calls Tryd.prog 22 #[.string s] w fun e w' => e = .returned (.string (hashS s)) ∧ Below w.heap.size w w' := by
  have h := Lib.hid (fun w' => rsum_any s w' (by omega))
  go_enter Tryd.func22, Tryd.ntmps22
  go_wp2_with (go_at_call 67; with_reducible refine (h.out _).mono ?_; rintro e w2 ⟨rfl, hb⟩; have HB := Lib.hid hb; clear hb)
  go_ret
  exact ⟨rfl, HB.out⟩

set_option maxRecDepth 100000 in
set_option maxHeartbeats 400000 in
theorem lnode4_any (l r : ByteArray) (w : World) :
    Calls Tryd.prog 55 #[.string l, .string r] w fun e w' => e = .returned (.string (nodeS l r)) ∧ Below w.heap.size w w' := by
  go_enter Tryd.func55, Tryd.ntmps55
  go_wp2_with (go_at_call 94; with_reducible refine (rnode_any l r _).mono ?_; rintro e w2 ⟨rfl, hb⟩; have HB := Lib.hid hb; clear hb)
  go_ret
  exact ⟨rfl, HB.out⟩

set_option maxRecDepth 100000 in
set_option maxHeartbeats 2000000 in
theorem known4_any (w : World) (ht : Tabs w) :
    Calls Tryd.prog 14 #[] w fun e w' => e = .returned (.bool true) ∧ Below w.heap.size w w' := by
  have HT := Lib.hid ht
  have HB0 := Lib.hid (Below.refl w.heap.size w)
  have c1 := fun w => hash4_any ⟨#[108]⟩ w (by decide)
  have c2 := fun w => hash4_any ⟨#[112]⟩ w (by decide)
  obtain ⟨l, hl⟩ : ∃ l, l = hashS ⟨#[108]⟩ := ⟨_, rfl⟩
  obtain ⟨p, hp⟩ : ∃ p, p = hashS ⟨#[112]⟩ := ⟨_, rfl⟩
  rw [← hl] at c1
  rw [← hp] at c2
  have hls : l.size = 32 := by rw [hl]; exact hashS_size _
  have hps : p.size = 32 := by rw [hp]; exact hashS_size _
  have hap : all32 [p] = true := by simp [all32, hps]
  obtain ⟨n1, hn1⟩ : ∃ n, n = nodeS p l := ⟨_, rfl⟩
  obtain ⟨n2, hn2⟩ : ∃ n, n = nodeS l p := ⟨_, rfl⟩
  have hne1 : n1 ≠ l := by
    intro h
    have h2 : sha (1 :: (sha [112] ++ sha [108])) = sha [108] := by
      have h3 : n1 = str (sha (1 :: (sha [112] ++ sha [108]))) := by
        rw [hn1]
        unfold nodeS
        rw [if_pos ⟨hps, hls⟩]
        unfold hnode
        rw [hp, hl]
        simp [hashS, str]
      rw [h3, hl] at h
      have := congrArg (fun b : ByteArray => b.data.toList) h
      simpa [hashS, str] using this
    exact sha_pl h2
  have hne2 : n2 ≠ p := by
    intro h
    have h2 : sha (1 :: (sha [108] ++ sha [112])) = sha [112] := by
      have h3 : n2 = str (sha (1 :: (sha [108] ++ sha [112]))) := by
        rw [hn2]
        unfold nodeS
        rw [if_pos ⟨hls, hps⟩]
        unfold hnode
        rw [hp, hl]
        simp [hashS, str]
      rw [h3, hp] at h
      have := congrArg (fun b : ByteArray => b.data.toList) h
      simpa [hashS, str] using this
    exact sha_lp h2
  have r1 := rootOf_ok (n := 2) (m := 1) (leaf := l) (L := [p]) (by decide) (by decide) hls hap (by rw [way21]; rfl)
  have r2 := rootsOf_ok (f := 1) (s := 2) (old := l) (L := [p]) (by decide) (by decide) (by decide) hls hap (by rw [told12]; rfl)
  rw [dn21] at r1
  have r1b : climbF nodeS [true] [p] l = n1 := hn1.symm
  have r2b : bothS 1 2 true l [p] = (l, n2) := by unfold bothS; rw [fl12, wh12, hn2]; rfl
  rw [r1b] at r1
  rw [r2b] at r2
  have c3 := fun w => pathlen_any 5 0 w
  rw [show pathLenS 5 0 = 3 by have := (pathLenS_ok (n := 5) (m := 0) (by decide) (by decide)).1; rw [way50] at this; exact this, show pathLenE 5 0 = 0 from (pathLenS_ok (n := 5) (m := 0) (by decide) (by decide)).2] at c3
  have c4 := fun w => pathlen_any 0 0 w
  rw [show pathLenS 0 0 = 0 from rfl, show pathLenE 0 0 = 41 from rfl] at c4
  have c5 := fun w => prooflen_any 3 5 w
  rw [show proofLenS 3 5 = 4 by have := (proofLenS_ok (f := 3) (s := 5) (by decide) (by decide) (by decide)).1; rw [told35] at this; exact this, show proofLenE 3 5 = 0 from (proofLenS_ok (f := 3) (s := 5) (by decide) (by decide) (by decide)).2] at c5
  have c6 := fun w (ht : Tabs w) => rootof_any 2 1 l (.slice (some ⟨w.heap.size, 0, none⟩) 1 1) [p] (w.alloc (.cells #[.string p] 9)) (ht.below ((Below.refl _ _).alloc (Nat.le_refl _) _)) (txts_one w p) (by show 1 ≤ 1048576; decide)
  have r1' : rootOfE 2 1 l [p] = 0 ∧ rootOfS 2 1 l [p] = n1 := r1
  rw [r1'.1, r1'.2] at c6
  have c7 := fun w (ht : Tabs w) => rootof_any 2 1 l (.slice none 0 0) [] w ht (txts_none w) (by decide)
  have r3 : rootOfE 2 1 l [] = 43 ∧ rootOfS 2 1 l [] = ⟨#[]⟩ := by
    have h0 : rootOfE 2 1 l [] = 43 := by
      unfold rootOfE
      have h1 : pathLenS 2 1 = 1 := by have := (pathLenS_ok (n := 2) (m := 1) (by decide) (by decide)).1; rw [way21] at this; exact this
      have h2 : pathLenE 2 1 = 0 := (pathLenS_ok (n := 2) (m := 1) (by decide) (by decide)).2
      rw [h1, h2, if_neg (by simp), if_neg (by simp [hls, all32]), if_pos (by simp)]
    exact ⟨h0, by unfold rootOfS; rw [h0]; rfl⟩
  rw [r3.1, r3.2] at c7
  have c8 := fun w (ht : Tabs w) => rootsof_any 1 2 l (.slice (some ⟨w.heap.size, 0, none⟩) 1 1) [p] (w.alloc (.cells #[.string p] 9)) (ht.below ((Below.refl _ _).alloc (Nat.le_refl _) _)) (txts_one w p) (by show 1 ≤ 1048576; decide)
  have r2' : rootsOfE 1 2 l [p] = 0 ∧ rootsOfS 1 2 l [p] = (l, n2) := r2
  rw [r2'.1, r2'.2] at c8
  have c9 := fun w => lnode4_any p l w
  have c10 := fun w => lnode4_any l p w
  rw [← hn1] at c9
  rw [← hn2] at c10
  have c11 := fun w (ht : Tabs w) => inclusion_any 2 1 l (.slice (some ⟨w.heap.size, 0, none⟩) 1 1) [p] l (w.alloc (.cells #[.string p] 9)) (ht.below ((Below.refl _ _).alloc (Nat.le_refl _) _)) (txts_one w p) (by show 1 ≤ 1048576; decide)
  rw [show inclS 2 1 l [p] l = 44 by unfold inclS; rw [r1'.1, r1'.2, if_neg (by simp), if_neg (by simp [hls]), if_pos hne1]] at c11
  have c12 := fun w (ht : Tabs w) => consistency_any 1 2 l p (.slice (some ⟨w.heap.size, 0, none⟩) 1 1) [p] (w.alloc (.cells #[.string p] 9)) (ht.below ((Below.refl _ _).alloc (Nat.le_refl _) _)) (txts_one w p) (by show 1 ≤ 1048576; decide)
  rw [show consS 1 2 l p [p] = 44 by unfold consS; rw [r2'.1, r2'.2, if_neg (by simp), if_neg (by simp [hps]), if_pos (Or.inr hne2)]] at c12
  have C1 := Lib.hid c1
  have C2 := Lib.hid c2
  have C3 := Lib.hid c3
  have C4 := Lib.hid c4
  have C5 := Lib.hid c5
  have C6 := Lib.hid c6
  have C7 := Lib.hid c7
  have C8 := Lib.hid c8
  have C9 := Lib.hid c9
  have C10 := Lib.hid c10
  have C11 := Lib.hid c11
  have C12 := Lib.hid c12
  clear c1 c2 c3 c4 c5 c6 c7 c8 c9 c10 c11 c12 r1 r1' r1b r2 r2' r2b r3 hl hp hls hps hap hn1 hn2 hne1 hne2 ht
  go_enter Tryd.func14, Tryd.ntmps14
  go_wp2_with (first
    | (go_at_call 22; with_reducible refine (C1.out w).mono ?_; rintro r w1 ⟨rfl, hb⟩; have HB1 := Lib.hid (below_from HB0.out hb HB0.out.size); clear hb)
    | (go_at_call 22; with_reducible refine (C2.out w1).mono ?_; rintro r w2 ⟨rfl, hb⟩; have HB2 := Lib.hid (below_from HB1.out hb HB1.out.size); clear hb)
    | (go_at_call 15; with_reducible refine (C3.out w2).mono ?_; rintro r w3 ⟨rfl, hb⟩; have HB3 := Lib.hid (below_from HB2.out hb HB2.out.size); clear hb)
    | (go_at_call 15; with_reducible refine (C4.out w3).mono ?_; rintro r w4 ⟨rfl, hb⟩; have HB4 := Lib.hid (below_from HB3.out hb HB3.out.size); clear hb)
    | (go_at_call 17; with_reducible refine (C5.out w4).mono ?_; rintro r w5 ⟨rfl, hb⟩; have HB5 := Lib.hid (below_from HB4.out hb HB4.out.size); clear hb)
    | (go_at_call 24; with_reducible refine (C6.out w5 (HT.out.below HB5.out)).mono ?_; rintro r w6 ⟨rfl, hb⟩; have HB6 := Lib.hid (below_from HB5.out (below_from ((Below.refl _ _).alloc (Nat.le_refl _) _) hb (by simp)) HB5.out.size); clear hb)
    | (go_at_call 24; with_reducible refine (C7.out w6 (HT.out.below HB6.out)).mono ?_; rintro r w7 ⟨rfl, hb⟩; have HB7 := Lib.hid (below_from HB6.out hb HB6.out.size); clear hb)
    | (go_at_call 29; with_reducible refine (C8.out w7 (HT.out.below HB7.out)).mono ?_; rintro r w8 ⟨rfl, hb⟩; have HB8 := Lib.hid (below_from HB7.out (below_from ((Below.refl _ _).alloc (Nat.le_refl _) _) hb (by simp)) HB7.out.size); clear hb)
    | (go_at_call 55; with_reducible refine (C9.out w8).mono ?_; rintro r w9 ⟨rfl, hb⟩; have HB9 := Lib.hid (below_from HB8.out hb HB8.out.size); clear hb)
    | (go_at_call 55; with_reducible refine (C10.out w9).mono ?_; rintro r w10 ⟨rfl, hb⟩; have HB10 := Lib.hid (below_from HB9.out hb HB9.out.size); clear hb)
    | (go_at_call 25; with_reducible refine (C11.out w10 (HT.out.below HB10.out)).mono ?_; rintro r w11 ⟨rfl, hb⟩; have HB11 := Lib.hid (below_from HB10.out (below_from ((Below.refl _ _).alloc (Nat.le_refl _) _) hb (by simp)) HB10.out.size); clear hb)
    | (go_at_call 30; with_reducible refine (C12.out w11 (HT.out.below HB11.out)).mono ?_; rintro r w12 ⟨rfl, hb⟩; have HB12 := Lib.hid (below_from HB11.out (below_from ((Below.refl _ _).alloc (Nat.le_refl _) _) hb (by simp)) HB11.out.size); clear hb))
  go_ret
  exact ⟨rfl, HB12.out⟩
end Go.Proofs.YtmlekeegmdpjkaaDoor
