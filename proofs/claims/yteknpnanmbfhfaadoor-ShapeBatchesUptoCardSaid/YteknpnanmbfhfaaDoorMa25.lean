/- Law 8, walked: known. -/
import Derived.Test.YteknpnanmbfhfaaDoorMa24
import Derived.Test.YteknpnanmbfhfaaDoorMa11
namespace Go.Proofs.YteknpnanmbfhfaaDoor
open Go.RowKit Go.Scr Go.Shelf
set_option linter.unusedVariables false

def hashS (s : ByteArray) : ByteArray := str (sha s.data.toList)
theorem hashS_size (s : ByteArray) : (hashS s).size = 32 := by unfold hashS; rw [str_size, sha_length]
theorem hash8_any (s : ByteArray) (w : World) (hs : s.size ≤ 140737488355199) :
    Calls Tryd.prog 30 #[.string s] w fun e w' => e = .returned (.string (hashS s)) ∧ Below w.heap.size w w' := by
  have H := Lib.hid (rsum_any s w (by omega))
  clear hs
  go_enter Tryd.func30, Tryd.ntmps30
  go_wp2_with (go_at_call 63; with_reducible refine H.out.mono ?_; rintro e w2 ⟨rfl, hb⟩; have HB := Lib.hid hb; clear hb)
  go_ret
  exact ⟨rfl, HB.out⟩
theorem held_lit (w : World) (T n : Nat) (xs : List Value) (hx : xs.length = n * 2) (hn : n ≤ 1024) : Held (w.alloc (.cells xs.toArray T)) T 2 (.slice (some ⟨w.heap.size, 0, none⟩) n n) n xs :=
  ⟨hx, .inr ⟨w.heap.size, n, xs.toArray, rfl, heap_alloc_new w _, Nat.le_refl _, by simp only [maxLen]; omega, by simp [hx], by rw [← hx]; simp⟩⟩
theorem batE_known : batE 5 [0, 3] = 0 := by
  unfold batE
  rw [if_neg (by omega), if_neg (by simp), if_neg (by simp), if_neg (by simp)]
set_option maxRecDepth 100000 in
set_option maxHeartbeats 4000000 in
theorem known8_any (w : World) (ht : Tabs w) :
    Calls Tryd.prog 10 #[] w fun e w' => e = .returned (.bool true) ∧ Below w.heap.size w w' := by
  have C1 : Hid (∀ w, Calls Tryd.prog 12 #[.agg #[.int .i64 1, .int .i64 7]] w fun r w' => (∃ p c, r = .returned (.tuple #[.slice p 4 c, .int .i64 0]) ∧ Held w' 72 2 (.slice p 4 c) 4 (prsV [(0,1),(1,1),(1,2),(0,6)])) ∧ Below w.heap.size w w') := Lib.hid (fun w => by
    refine (cover_yes 1 7 w (by decide) (by decide)).mono ?_
    rintro r w' ⟨⟨p, c, h1, h2, _⟩, h3⟩
    rw [show coverT 1 7 = [(0,1),(1,1),(1,2),(0,6)] by decide +kernel] at h1 h2
    exact ⟨⟨p, c, h1, h2⟩, h3⟩)
  have C2 : Hid (∀ w, Calls Tryd.prog 19 #[.int .i64 5, .int .i64 0] w fun r w' => (∃ p c, r = .returned (.tuple #[.slice p 3 c, .int .i64 0]) ∧ Held w' 29 2 (.slice p 3 c) 3 (prsV [(1,2),(2,4),(4,5)])) ∧ Below w.heap.size w w') := Lib.hid (fun w => by
    refine (path_yes 5 0 w (by decide) (by decide)).mono ?_
    rintro r w' ⟨⟨p, c, h1, h2, _⟩, h3⟩
    rw [show (Go.Scr.pathT 0 5 0).length = 3 by decide +kernel] at h1 h2
    rw [show (Go.Scr.pathT 0 5 0).reverse = [(1,2),(2,4),(4,5)] by decide +kernel] at h2
    exact ⟨⟨p, c, h1, h2⟩, h3⟩)
  have C3 : Hid (∀ w, Calls Tryd.prog 21 #[.int .i64 3, .int .i64 5] w fun r w' => (∃ p c, r = .returned (.tuple #[.slice p 4 c, .int .i64 0]) ∧ Held w' 29 2 (.slice p 4 c) 4 (prsV [(2,3),(3,4),(0,2),(4,5)])) ∧ Below w.heap.size w w') := Lib.hid (fun w => by
    refine (proof_yes 3 5 w (by decide) (by decide) (by decide)).mono ?_
    rintro r w' ⟨⟨p, c, h1, h2, _⟩, h3⟩
    rw [show (Go.Scr.proofT 0 5 3).length = 4 by decide +kernel] at h1 h2
    rw [show (Go.Scr.proofT 0 5 3).reverse = [(2,3),(3,4),(0,2),(4,5)] by decide +kernel] at h2
    exact ⟨⟨p, c, h1, h2⟩, h3⟩)
  have C4 : Hid (∀ w, Calls Tryd.prog 31 #[.int .i64 5, .slice (some ⟨w.heap.size, 0, none⟩) 2 2] (w.alloc (.cells #[.int .i64 0, .int .i64 3] 3)) fun r w' => (∃ p c, r = .returned (.tuple #[.slice p 3 c, .int .i64 0]) ∧ Held w' 29 2 (.slice p 3 c) 3 (prsV [(1,2),(2,3),(4,5)])) ∧ Below w.heap.size w w') := Lib.hid (fun w => by
    have hb : Below w.heap.size w (w.alloc (.cells #[.int .i64 0, .int .i64 3] 3)) := (Below.refl _ _).alloc (Nat.le_refl _) _
    refine (batch_any 5 (.slice (some ⟨w.heap.size, 0, none⟩) 2 2) [0, 3] _ ?_).mono ?_
    · refine ⟨_, 2, rfl, by simp, by simp, by simp, fun j z hj => ⟨_, rfl, ?_⟩⟩
      have hadd : (⟨w.heap.size, 0, none⟩ : Addr).add j = ⟨w.heap.size, j, none⟩ := by unfold Addr.add; split <;> simp_all
      rw [hadd, World.cell?_alloc_at _ _ _ _ rfl]
      rcases j with _ | _ | j
      · simp at hj; subst hj; rfl
      · simp at hj; subst hj; rfl
      · simp at hj
    · rintro r w' ⟨_, h2, h3⟩
      obtain ⟨p, c, h1, h4, _⟩ := h2 batE_known
      have e : restT (lookZ [0, 3]) 0 (5 : Int).toNat = [(1,2),(2,3),(4,5)] := by decide +kernel
      rw [e] at h1 h4
      exact ⟨⟨p, c, h1, h4⟩, below_onS hb h3 hb.size⟩)
  have C5 : Hid (∀ w, Calls Tryd.prog 26 #[.int .i64 5, .agg #[.int .i64 1, .int .i64 4]] w fun r w' => (∃ p c, r = .returned (.tuple #[.slice p 2 c, .int .i64 0]) ∧ Held w' 29 2 (.slice p 2 c) 2 (prsV [(0,1),(4,5)])) ∧ Below w.heap.size w w') := Lib.hid (fun w => by
    refine (run_yes 5 1 4 w (by decide) (by decide) (by decide)).mono ?_
    rintro r w' ⟨⟨p, c, h1, h2, _⟩, h3⟩
    rw [show restT (lookR 1 4) 0 5 = [(0,1),(4,5)] by decide +kernel] at h1 h2
    exact ⟨⟨p, c, h1, h2⟩, h3⟩)
  have CS : Hid (∀ (w : World) (p : Option Addr) (n c : Nat) (L : List (Nat × Nat)) (xs : Array Value), Held w 29 2 (.slice p n c) n (prsV L) → L.length = n → n ≤ 1024 → xs = (prsV L).toArray → Calls Tryd.prog 43 #[.slice p n c, .slice (some ⟨w.heap.size, 0, none⟩) n n] (w.alloc (.cells xs 29)) fun r w' => r = .returned (.bool true) ∧ Below w.heap.size w w') := Lib.hid (fun w p n c L xs h hn h8 hxs => by
    subst hn
    subst hxs
    have hb : Below w.heap.size w (w.alloc (.cells (prsV L).toArray 29)) := (Below.refl _ _).alloc (Nat.le_refl _) _
    refine (spans_any _ _ L L _ (h.below hb) (held_lit w 29 L.length (prsV L) (by rw [prsV_length]; omega) h8)).mono ?_
    rintro r w' ⟨rfl, h3⟩
    exact ⟨by rw [decide_eq_true rfl], below_onS hb h3 hb.size⟩)
  have CN : Hid (∀ (w : World) (p : Option Addr) (n c : Nat) (L : List (Nat × Nat)) (xs : Array Value), Held w 72 2 (.slice p n c) n (prsV L) → L.length = n → n ≤ 1024 → xs = (prsV L).toArray → Calls Tryd.prog 42 #[.slice p n c, .slice (some ⟨w.heap.size, 0, none⟩) n n] (w.alloc (.cells xs 72)) fun r w' => r = .returned (.bool true) ∧ Below w.heap.size w w') := Lib.hid (fun w p n c L xs h hn h8 hxs => by
    subst hn
    subst hxs
    have hb : Below w.heap.size w (w.alloc (.cells (prsV L).toArray 72)) := (Below.refl _ _).alloc (Nat.le_refl _) _
    refine (nodes_any _ _ L L _ (h.below hb) (held_lit w 72 L.length (prsV L) (by rw [prsV_length]; omega) h8)).mono ?_
    rintro r w' ⟨rfl, h3⟩
    exact ⟨by rw [decide_eq_true rfl], below_onS hb h3 hb.size⟩)
  have CX := Lib.hid (fun w => hash8_any ⟨#[120]⟩ w (by decide))
  have CY := Lib.hid (fun w => hash8_any ⟨#[121]⟩ w (by decide))
  obtain ⟨x, hx⟩ : ∃ x, x = hashS ⟨#[120]⟩ := ⟨_, rfl⟩
  obtain ⟨y, hy⟩ : ∃ y, y = hashS ⟨#[121]⟩ := ⟨_, rfl⟩
  rw [← hx] at CX
  rw [← hy] at CY
  have hx32 : x.size = 32 := by rw [hx]; exact hashS_size _
  have hy32 : y.size = 32 := by rw [hy]; exact hashS_size _
  obtain ⟨z, hz⟩ : ∃ z, z = nodeS x y := ⟨_, rfl⟩
  obtain ⟨ze, hze⟩ : ∃ z, z = nodeE x y := ⟨_, rfl⟩
  have CR : Hid (∀ w, Calls Tryd.prog 44 #[.string x, .string y] w fun e w' => e = .returned (.tuple #[.string z, .int .i64 ze]) ∧ Below w.heap.size w w') := Lib.hid (fun w => by rw [hz, hze]; exact rnode_any x y w)
  have CF : Hid (∀ (w : World) (W : World) (g1 g2 : Nat), Tabs W → W.heap[g1]? = some (.cells #[.int .i64 0, .int .i64 4, .int .i64 4, .int .i64 5] 29 (0, 0)) → W.heap[g2]? = some (.cells #[.string x, .string y] 9 (0, 0)) → Calls Tryd.prog 41 #[.int .i64 5, .slice (some ⟨g1, 0, none⟩) 2 2, .slice (some ⟨g2, 0, none⟩) 2 2, .agg #[.int .i64 0, .int .i64 5]] W fun r w' => r = .returned (.tuple #[.string z, .int .i64 0]) ∧ Below W.heap.size W w') := Lib.hid (fun w W g1 g2 h1 h2 h3 => by
    refine (foldW_any 5 0 5 _ _ [(0, 4), (4, 5)] [x, y] W ?_ ?_ h1).mono ?_
    · refine ⟨_, 2, rfl, by simp, by simp, by simp, fun j q hj => ⟨g1, 0, rfl, ?_⟩⟩
      rcases j with _ | _ | j
      · simp at hj; subst hj
        exact ⟨cell_of_row _ _ _ _ _ _ h2, cell_of_row _ _ _ _ _ _ h2⟩
      · simp at hj; subst hj
        exact ⟨cell_of_row _ _ _ _ _ _ h2, cell_of_row _ _ _ _ _ _ h2⟩
      · simp at hj
    · refine ⟨_, 2, rfl, by simp, by simp, fun j q hj => ⟨_, rfl, ?_⟩⟩
      have hadd : (⟨g2, 0, none⟩ : Addr).add j = ⟨g2, j, none⟩ := by unfold Addr.add; split <;> simp_all
      rw [hadd]
      rcases j with _ | _ | j
      · simp at hj; subst hj
        exact cell_of_row _ _ _ _ _ _ h3
      · simp at hj; subst hj
        exact cell_of_row _ _ _ _ _ _ h3
      · simp at hj
    · rintro r w' ⟨rfl, hb⟩
      refine ⟨?_, hb⟩
      have e : foldP 5 [(0, 4), (4, 5)] [x, y] 0 5 = (z, 0) := by
        unfold foldP
        rw [if_neg (by omega), if_neg (by simp), if_neg (by simp [ok32, hx32, hy32]), if_neg (by decide +kernel)]
        have hk : knK 0 5 [(0, 4), (4, 5)] [x, y] = [(0, 4, x), (4, 5, y)] := by simp [knK]
        have hs : spl 5 = 4 := by decide +kernel
        rw [hk]
        have h1 : foldT 5 0 [(0, 4, x), (4, 5, y)] = some (nodeS x y) := by
          rw [foldT_go (by simp [hitK]) (by simp), hs]
          rw [show ([(0, 4, x), (4, 5, y)] : List Kn).filter (inK 0 (0 + 4)) = [(0, 4, x)] by simp [inK], show ([(0, 4, x), (4, 5, y)] : List Kn).filter (inK (0 + 4) (0 + 5)) = [(4, 5, y)] by simp [inK]]
          rw [foldT_hit (x := (0, 4, x)) (by simp [hitK]), foldT_hit (x := (4, 5, y)) (by simp [hitK])]
        rw [show ((5 : Int) - 0).toNat = 5 from rfl, show (0 : Int).toNat = 0 from rfl, h1, hz]
        rfl
      rw [e]; rfl)
  have CI : Hid (∀ w, Calls Tryd.prog 15 #[.int .i64 5, .agg #[.int .i64 0, .int .i64 4]] w fun r w' => r = .returned (.bool true) ∧ Below w.heap.size w w') := Lib.hid (fun w => by
    have h := inside_any 5 0 4 w
    rw [show insideZ 5 0 4 = true by decide +kernel] at h
    exact h)
  have HT := Lib.hid ht
  have HB0 := Lib.hid (Below.refl w.heap.size w)
  clear ht hx hy hx32 hy32 hz hze
  go_enter Tryd.func10, Tryd.ntmps10
  go_upto_region 2 with (go_at_call 12; refine (C1.out _).mono ?_; rintro r w1 ⟨⟨p1, c1, rfl, hh⟩, hb⟩; have HL1 := Lib.hid hh; have HB1 := Lib.hid (below_onS HB0.out hb HB0.out.size); have HW1 := Lib.hid hb; clear hh hb)
  go_upto_region 3 with (go_at_call 19; refine (C2.out _).mono ?_; rintro r w2 ⟨⟨p2, c2, rfl, hh⟩, hb⟩; have HL2 := Lib.hid hh; have HB2 := Lib.hid (below_onS HB1.out hb HB1.out.size); have HW2 := Lib.hid hb; clear hh hb)
  go_upto_region 4 with (go_at_call 21; refine (C3.out _).mono ?_; rintro r w3 ⟨⟨p3, c3, rfl, hh⟩, hb⟩; have HL3 := Lib.hid hh; have HB3 := Lib.hid (below_onS HB2.out hb HB2.out.size); have HW3 := Lib.hid hb; clear hh hb)
  go_upto_region 5 with (go_at_call 31; refine (C4.out w3).mono ?_; rintro r w4 ⟨⟨p4, c4, rfl, hh⟩, hb⟩; have HL4 := Lib.hid hh; have HB4 := Lib.hid (below_onS HB3.out hb HB3.out.size); have HW4 := Lib.hid hb; clear hh hb)
  go_upto_region 6 with (go_at_call 26; refine (C5.out _).mono ?_; rintro r w5 ⟨⟨p5, c5, rfl, hh⟩, hb⟩; have HL5 := Lib.hid hh; have HB5 := Lib.hid (below_onS HB4.out hb HB4.out.size); have HW5 := Lib.hid hb; clear hh hb)
  have hh1 := ((((HL1.out.below HW2.out).below HW3.out).below HW4.out).below HW5.out)
  have hh2 := (((HL2.out.below HW3.out).below HW4.out).below HW5.out)
  have hh3 := ((HL3.out.below HW4.out).below HW5.out)
  have hh4 := (HL4.out.below HW5.out)
  have HH1 := Lib.hid hh1
  have HH2 := Lib.hid hh2
  have HH3 := Lib.hid hh3
  have HH4 := Lib.hid hh4
  clear hh1 hh2 hh3 hh4
  go_upto_region 7 with (go_at_call 42; refine (CN.out _ _ 4 _ [(0,1),(1,1),(1,2),(0,6)] _ HH1.out (by decide) (by decide) (by simp [prsV, prV])).mono ?_; rintro r w6 ⟨rfl, hb⟩; have HB6 := Lib.hid (below_onS HB5.out hb HB5.out.size); have HW6 := Lib.hid hb; clear hb)
  go_upto_region 8 with (go_at_call 43; refine (CS.out _ _ 3 _ [(1,2),(2,4),(4,5)] _ (HH2.out.below HW6.out) (by decide) (by decide) (by simp [prsV, prV])).mono ?_; rintro r w7 ⟨rfl, hb⟩; have HB7 := Lib.hid (below_onS HB6.out hb HB6.out.size); have HW7 := Lib.hid hb; clear hb)
  go_upto_region 9 with (go_at_call 43; refine (CS.out _ _ 4 _ [(2,3),(3,4),(0,2),(4,5)] _ ((HH3.out.below HW6.out).below HW7.out) (by decide) (by decide) (by simp [prsV, prV])).mono ?_; rintro r w8 ⟨rfl, hb⟩; have HB8 := Lib.hid (below_onS HB7.out hb HB7.out.size); have HW8 := Lib.hid hb; clear hb)
  go_upto_region 10 with (go_at_call 43; refine (CS.out _ _ 3 _ [(1,2),(2,3),(4,5)] _ (((HH4.out.below HW6.out).below HW7.out).below HW8.out) (by decide) (by decide) (by simp [prsV, prV])).mono ?_; rintro r w9 ⟨rfl, hb⟩; have HB9 := Lib.hid (below_onS HB8.out hb HB8.out.size); have HW9 := Lib.hid hb; clear hb)
  go_upto_region 11 with (go_at_call 43; refine (CS.out _ _ 2 _ [(0,1),(4,5)] _ ((((HL5.out.below HW6.out).below HW7.out).below HW8.out).below HW9.out) (by decide) (by decide) (by simp [prsV, prV])).mono ?_; rintro r w10 ⟨rfl, hb⟩; have HB10 := Lib.hid (below_onS HB9.out hb HB9.out.size); have HW10 := Lib.hid hb; clear hb)
  have HT10 := Lib.hid (HT.out.below HB10.out)
  go_upto_region 12 with (first
    | (go_at_call 30; with_reducible refine (CX.out _).mono ?_; rintro r wa ⟨rfl, hb⟩; have HBA := Lib.hid hb; clear hb)
    | (go_at_call 30; with_reducible refine (CY.out _).mono ?_; rintro r wb ⟨rfl, hb⟩; have HBB := Lib.hid hb; clear hb)
    | (go_at_call 41; have hba : Below w10.heap.size w10 (w10.alloc (.cells #[.int .i64 0, .int .i64 4, .int .i64 4, .int .i64 5] 29)) := (Below.refl _ _).alloc (Nat.le_refl _) _; have hbb := below_onS (below_onS hba HBA.out hba.size) HBB.out (below_onS hba HBA.out hba.size).size; have hbc := hbb.alloc (o := .cells #[.string x, .string y] 9) hbb.size; refine (CF.out w10 _ w10.heap.size wb.heap.size (HT10.out.below hbc) ((blk_alloc ((HBB.out.block _ (Nat.lt_of_lt_of_le (by simp) HBA.out.size)).trans ((HBA.out.block _ (by simp)).trans (heap_alloc_new w10 _))))) (heap_alloc_new wb _)).mono ?_; rintro r w11 ⟨rfl, hb⟩; have HB11 := Lib.hid hb; clear hb))
  have HB11a := Lib.hid (below_onS HB10.out (below_onS hbc HB11.out hbc.size) HB10.out.size)
  clear hba hbb hbc
  go_wp2_with (first
    | (go_at_call 30; with_reducible refine (CX.out _).mono ?_; rintro r wc ⟨rfl, hb⟩; have HBC := Lib.hid hb; clear hb)
    | (go_at_call 30; with_reducible refine (CY.out _).mono ?_; rintro r wd ⟨rfl, hb⟩; have HBD := Lib.hid hb; clear hb)
    | (go_at_call 44; with_reducible refine (CR.out _).mono ?_; rintro r we ⟨rfl, hb⟩; have HBE := Lib.hid hb; clear hb)
    | (go_at_call 15; with_reducible refine (CI.out _).mono ?_; rintro r wf ⟨rfl, hb⟩; have HBF := Lib.hid hb; clear hb))
  go_ret
  have h1 := below_onS HB11a.out HBC.out HB11a.out.size
  have h2 := below_onS h1 HBD.out h1.size
  have h3 := below_onS h2 HBE.out h2.size
  exact ⟨rfl, below_onS h3 HBF.out h3.size⟩
end Go.Proofs.YteknpnanmbfhfaaDoor
/- Law 8, walked: pick, below; the document's Middle; the law of subtrees. -/
namespace Go.Scr
/-- a subtree of a tree of N leaves -/
inductive SubT (N : Nat) : Nat → Nat → Prop
  | root : SubT N 0 N
  | left {b n : Nat} : SubT N b n → 1 < n → SubT N b (spl n)
  | right {b n : Nat} : SubT N b n → 1 < n → SubT N (b + spl n) (n - spl n)
theorem SubT.fits {N b n : Nat} (h : SubT N b n) (hN : 1 ≤ N) : 1 ≤ n ∧ b + n ≤ N := by
  induction h with
  | root => omega
  | left h h1 ih => have := spl_lt (show 2 ≤ _ from h1); omega
  | right h h1 ih => have := spl_lt (show 2 ≤ _ from h1); omega
theorem SubT.way {N b n : Nat} (h : SubT N b n) : ∀ lo hi x, b ≤ lo → hi ≤ b + n → lo < hi → x ∈ wayT b n lo hi → x ∈ wayT 0 N lo hi := by
  induction h with
  | root => intro lo hi x _ _ _ hx; exact hx
  | left h h1 ih =>
    intro lo hi x h2 h3 h4 hx
    have := spl_lt (show 2 ≤ _ from h1)
    refine ih lo hi x h2 (by omega) h4 ?_
    rw [wayT_left h1 h3]
    exact List.mem_cons_of_mem _ hx
  | right h h1 ih =>
    intro lo hi x h2 h3 h4 hx
    have := spl_lt (show 2 ≤ _ from h1)
    refine ih lo hi x (by omega) (by omega) h4 ?_
    rw [wayT_right h1 (by omega) h2]
    exact List.mem_cons_of_mem _ hx
theorem SubT.mem {N b n : Nat} (h : SubT N b n) (hn : 1 ≤ n) : (b, b + n) ∈ wayT 0 N b (b + n) := by
  refine h.way b (b + n) _ (Nat.le_refl _) (Nat.le_refl _) (by omega) ?_
  rw [wayT]
  exact List.mem_cons_self ..
theorem subT_of_mem {N lo hi : Nat} (n : Nat) : ∀ (b : Nat) (x : Nat × Nat), SubT N b n → x ∈ wayT b n lo hi → SubT N x.1 (x.2 - x.1) := by
  induction n using Nat.strongRecOn with
  | ind n ih =>
    intro b x h hx
    have h0 : SubT N (b, b + n).1 ((b, b + n).2 - (b, b + n).1) := by
      show SubT N b (b + n - b)
      rw [Nat.add_sub_cancel_left]
      exact h
    by_cases hn : n ≤ 1
    · rw [wayT_one lo hi hn, List.mem_singleton] at hx
      subst hx
      exact h0
    · have h1 : 1 < n := by omega
      have hs := spl_lt (show 2 ≤ n by omega)
      by_cases h2 : hi ≤ b + spl n
      · rw [wayT_left h1 h2] at hx
        rcases List.mem_cons.1 hx with rfl | hx
        · exact h0
        · exact ih _ hs.2.1 b x (h.left h1) hx
      · by_cases h3 : b + spl n ≤ lo
        · rw [wayT_right h1 h2 h3] at hx
          rcases List.mem_cons.1 hx with rfl | hx
          · exact h0
          · exact ih (n - spl n) (by omega) (b + spl n) x (h.right h1) hx
        · rw [wayT_stop h1 h2 h3, List.mem_singleton] at hx
          subst hx
          exact h0
/-- of what power a subtree's begin is a multiple -/
def alT (n : Nat) : Nat := if n ≤ 1 then 1 else 2 * spl n
theorem alT_pow {m i : Nat} (h : m ≤ 2 ^ i) : alT m ∣ 2 ^ i := by
  unfold alT
  split
  · exact Nat.one_dvd _
  · obtain ⟨k, h1, h2, h3⟩ := spl_pow (show 2 ≤ m by omega)
    rw [h1]
    have hk : k < i := (Nat.pow_lt_pow_iff_right (show 1 < 2 by decide)).1 (Nat.lt_of_lt_of_le h2 h)
    rw [show 2 * 2 ^ k = 2 ^ (k + 1) by rw [Nat.pow_succ]; omega]
    exact Nat.pow_dvd_pow 2 hk
theorem SubT.al {N b n : Nat} (h : SubT N b n) : alT n ∣ b := by
  induction h with
  | root => exact Nat.dvd_zero _
  | @left b n h h1 ih =>
    obtain ⟨k, g1, g2, g3⟩ := spl_pow (show 2 ≤ n by omega)
    have e : alT n = 2 * 2 ^ k := by unfold alT; rw [if_neg (by omega), g1]
    rw [e] at ih
    rw [g1]
    exact Nat.dvd_trans (alT_pow (Nat.le_refl _)) (Nat.dvd_trans ⟨2, by omega⟩ ih)
  | @right b n h h1 ih =>
    obtain ⟨k, g1, g2, g3⟩ := spl_pow (show 2 ≤ n by omega)
    have e : alT n = 2 * 2 ^ k := by unfold alT; rw [if_neg (by omega), g1]
    rw [e] at ih
    rw [g1]
    have hk : alT (n - 2 ^ k) ∣ 2 ^ k := alT_pow (by have : 2 ^ (k + 1) = 2 * 2 ^ k := by rw [Nat.pow_succ]; omega
                                                     omega)
    exact (Nat.dvd_add_right (Nat.dvd_trans hk (Nat.dvd_trans ⟨2, by omega⟩ ih))).2 hk
theorem subT_beside {N b n : Nat} (h : SubT N b n) (hn : 2 < n) : ¬ SubT N (b + 1) n := by
  intro h2
  have h1 := (Nat.dvd_add_right h.al).1 h2.al
  have hs := spl_lt (show 2 ≤ n by omega)
  have e : alT n = 2 * spl n := by unfold alT; rw [if_neg (by omega)]
  have := Nat.le_of_dvd (by decide) h1
  omega
end Go.Scr
namespace Go.Proofs.YteknpnanmbfhfaaDoor
open Go.RowKit Go.Scr Go.Shelf
set_option linter.unusedVariables false
set_option maxRecDepth 100000 in
set_option maxHeartbeats 400000 in
theorem pick8_any (c : Int) (n : Nat) (w : World) (hn : 0 < n) (hn2 : n ≤ 9223372036854775807) (hc : -9223372036854775808 ≤ c ∧ c ≤ 9223372036854775807) :
    Calls Tryd.prog 11 #[.int .i64 c, .int .i64 n] w fun e w' => e = .returned (.int .i64 ((pickN c n : Nat) : Int)) ∧ w' = w := by
  have hn0 : ¬ ((n : Int) = 0) := by omega
  obtain ⟨m, hm⟩ : ∃ m, m = pickN c n := ⟨_, rfl⟩
  rw [← hm]
  by_cases h : c < 0
  · obtain ⟨k, hk⟩ : ∃ k : Nat, (k : Int) = -(c + 1) := ⟨(-(c + 1)).toNat, by omega⟩
    have e1 : -(c + 1) = (k : Int) := hk.symm
    have hkm : m = k % n := by rw [hm]; unfold pickN; rw [if_pos h, ← hk]; rfl
    have e2 : (k : Int).tmod (n : Int) = (m : Int) := by rw [Int.tmod_eq_emod_of_nonneg (Int.natCast_nonneg _), hkm]; rfl
    have hk2 : k ≤ 9223372036854775807 := by omega
    clear hm hk hkm
    go_enter Tryd.func11, Tryd.ntmps11
    go_wp2
    go_ret
    exact ⟨rfl, rfl⟩
  · obtain ⟨k, hk⟩ : ∃ k : Nat, (k : Int) = c := ⟨c.toNat, by omega⟩
    have hkm : m = k % n := by rw [hm]; unfold pickN; rw [if_neg h, ← hk]; rfl
    subst hk
    have e2 : (k : Int).tmod (n : Int) = (m : Int) := by rw [Int.tmod_eq_emod_of_nonneg (Int.natCast_nonneg _), hkm]; rfl
    have h' : ¬ ((k : Int) < 0) := by omega
    clear hm hkm
    go_enter Tryd.func11, Tryd.ntmps11
    go_wp2
    go_ret
    exact ⟨rfl, rfl⟩


set_option maxRecDepth 100000 in
set_option maxHeartbeats 1000000 in
theorem rmiddle_any (b e : Nat) (w : World) (h : b ≤ e) (he : e ≤ 4398046511104) :
    Calls Tryd.prog 48 #[spV b e] w fun r w' => r = .returned (.int .i64 ((b + spl (e - b) : Nat) : Int)) ∧ Below w.heap.size w w' := by
  obtain ⟨n, hn⟩ : ∃ n, n = e - b := ⟨_, rfl⟩
  obtain ⟨R, hR⟩ : ∃ R, R = spl n := ⟨_, rfl⟩
  rw [← hn, ← hR]
  have HR := Lib.hid (show splF 1 n = R from hR.symm)
  have hsub : (e : Int) - (b : Int) = (n : Int) := by omega
  have hn2 : n ≤ 4398046511104 := by omega
  have hb2 : b ≤ 4398046511104 := by omega
  obtain ⟨w1, hw1⟩ : ∃ x, x = w.alloc (.cells #[.int .i64 (b : Int), .int .i64 (e : Int)] 29) := ⟨_, rfl⟩
  obtain ⟨bb, hbb⟩ : ∃ x, x = w.heap.size := ⟨_, rfl⟩
  have hrow : w1.heap[bb]? = some (.cells #[.int .i64 (b : Int), .int .i64 (e : Int)] 29 (0, 0)) := by rw [hw1, hbb]; exact heap_alloc_new w _
  have d0 : w1.cell? ⟨bb, 0, none⟩ = some (.int .i64 (b : Int)) := cell_of_row _ _ _ _ _ _ hrow
  have d1 : w1.cell? ⟨bb, 1, none⟩ = some (.int .i64 (e : Int)) := cell_of_row _ _ _ _ _ _ hrow
  have HBEL : Hid (Below w.heap.size w w1) := Lib.hid (by rw [hw1]; exact (Below.refl _ _).alloc (Nat.le_refl _) _)
  have HW := Lib.hid hw1
  have HB := Lib.hid hbb
  clear hn hR h he hw1 hbb hrow
  go_enter Tryd.func48, Tryd.ntmps48
  go_upto_region 1 with fail
  rw [← HW.out, ← HB.out]
  go_wp2_with fail
  clear d1 hsub
  go_loop [4] (fun v => ∃ k : Nat, 0 < k ∧ k ≤ 4398046511104 ∧ v = .int .i64 k ∧ Hid (splF k n = R)) (fun v => 4398046511104 - (intOf v).toNat)
  case atStart => exact ⟨1, by decide, by omega, rfl, HR⟩
  case round =>
    obtain ⟨k, hk0, hkn, rfl, HS⟩ := hrel
    by_cases hlt : 2 * k < n
    · have h1 : 2 * (k : Int) < (n : Int) := by omega
      have HS2 := Lib.hid ((splF_spl hk0 hlt).trans HS.out)
      obtain ⟨k2, hk2⟩ : ∃ k2, k2 = 2 * k := ⟨_, rfl⟩
      have hk2i : 2 * (k : Int) = (k2 : Int) := by omega
      have hk2b : k2 ≤ 4398046511104 := by omega
      rw [← hk2] at HS2
      have hkk : k < k2 := by omega
      have h1' : (k2 : Int) < (n : Int) := by omega
      clear hlt hk2 h1
      go_wp2
      exact ⟨⟨k2, by omega, hk2b, rfl, HS2⟩, (by show 4398046511104 - (k2 : Int).toNat < 4398046511104 - (k : Int).toNat; omega)⟩
    · have h1 : ¬ (2 * (k : Int) < (n : Int)) := by omega
      have HS2 := Lib.hid ((splF_end hlt).symm.trans HS.out)
      clear hlt
      go_wp2
      go_ret
      exact ⟨by rw [← HS2.out]; exact (ret_intS rfl), HBEL.out⟩
end Go.Proofs.YteknpnanmbfhfaaDoor
/- Law 8, walked: below. -/
namespace Go.Proofs.YteknpnanmbfhfaaDoor
open Go.RowKit Go.Scr Go.Shelf
set_option linter.unusedVariables false
set_option maxRecDepth 100000 in
set_option maxHeartbeats 4000000 in
theorem below_any (N : Nat) (way : Int) (w : World) (h1 : 1 ≤ N) (h2 : N ≤ 1099511627776) (hw : -9223372036854775808 ≤ way ∧ way ≤ 9223372036854775807) :
    Calls Tryd.prog 18 #[.int .i64 (N : Int), .int .i64 way] w fun r w' => (∃ b n, r = .returned (spV b (b + n)) ∧ SubT N b n) ∧ Below w.heap.size w w' := by
  obtain ⟨B, hB⟩ : ∃ x, x = w.heap.size := ⟨_, rfl⟩
  obtain ⟨w1, hw1⟩ : ∃ x, x = (w.alloc (.cells #[.int .i64 0, .int .i64 0] 29)).alloc (.cells #[.int .i64 0, .int .i64 (N : Int)] 29) := ⟨_, rfl⟩
  have hbel : Below w.heap.size w w1 := by rw [hw1]; exact ((Below.refl _ _).alloc (Nat.le_refl _) _).alloc (by simp) _
  have r0 : spRow w1 B 0 0 := by rw [hw1, hB]; exact blk_alloc (heap_alloc_new w _)
  have r1 : spRow w1 (B + 1) 0 N := by rw [hw1, hB]; exact heap_alloc_at _ _ _ (by simp)
  have HS : Hid (SubT N 0 N ∧ spRow w1 B 0 0 ∧ spRow w1 (B + 1) 0 (0 + N) ∧ Below w.heap.size w w1) := Lib.hid ⟨.root, r0, by rw [Nat.zero_add]; exact r1, hbel⟩
  have HN : Hid (1 ≤ N ∧ N ≤ 1099511627776) := Lib.hid ⟨h1, h2⟩
  have HW := Lib.hid hw1
  have HB := Lib.hid hB
  have hw0 := hw.1
  have hw2 := hw.2
  clear hw1 hB hbel r0 r1 h1 h2 hw
  go_enter Tryd.func18, Tryd.ntmps18
  go_wp2_with fail
  rw [← HW.out, ← HB.out]
  go_loopw [1] (fun x wr => ∃ (z : Int) (b n : Nat), x = .int .i64 z ∧ -9223372036854775808 ≤ z ∧ z ≤ 9223372036854775807 ∧ Hid (SubT N b n ∧ spRow wr B 0 0 ∧ spRow wr (B + 1) b (b + n) ∧ Below w.heap.size w wr)) (fun x _ => (intOf x).toNat)
  case atStart => exact ⟨way, 0, N, rfl, hw0, hw2, HS⟩
  case round =>
    clear HS
    obtain ⟨z, b, n, rfl, hz0, hz2, HI⟩ := hrel
    obtain ⟨e, he⟩ : ∃ e, e = b + n := ⟨_, rfl⟩
    have hr1 := HI.out.2.2.1
    rw [← he] at hr1
    obtain ⟨d0, d1, df⟩ := hr1.at
    have hfit := HI.out.1.fits HN.out.1
    have hsub : (e : Int) - (b : Int) = (n : Int) := by omega
    have hnb : n ≤ 1099511627776 := by have := HN.out; omega
    have HF : Hid (1 ≤ n ∧ b + n ≤ N ∧ e = b + n ∧ spRow wr (B + 1) b e) := Lib.hid ⟨hfit.1, hfit.2, he, hr1⟩
    obtain ⟨q0, q1, qf⟩ := HI.out.2.1.at
    have hend : Hid (∀ wz, wz = (wr.setCell ⟨B, 0, none⟩ (.int .i64 (b : Int))).setCell ⟨B, 1, none⟩ (.int .i64 (e : Int)) → spRow wz B b e ∧ Below w.heap.size w wz) := Lib.hid (fun wz hz => by
      rw [hz]
      exact ⟨HI.out.2.1.set b e, (HI.out.2.2.2.setCell (p := ⟨B, 0, none⟩) (by show w.heap.size ≤ B; exact Nat.le_of_eq HB.out.symm) _).setCell (p := ⟨B, 1, none⟩) (by show w.heap.size ≤ B; exact Nat.le_of_eq HB.out.symm) _⟩)
    clear hfit he hr1
    by_cases hz : 1 < z
    · by_cases hn : 1 < n
      · have hni : (1 : Int) < (n : Int) := by omega
        obtain ⟨k, rfl⟩ : ∃ k : Nat, z = (k : Int) := ⟨z.toNat, by omega⟩
        have hk1 : (k : Int).tdiv 2 = ((k / 2 : Nat) : Int) := by rw [Int.tdiv_eq_ediv_of_nonneg (Int.natCast_nonneg _)]; rfl
        obtain ⟨k2, hk2⟩ : ∃ x, x = k / 2 := ⟨_, rfl⟩
        rw [← hk2] at hk1
        have hk3 : k2 ≤ k := by omega
        obtain ⟨md, hmd⟩ : ∃ x, x = b + spl n := ⟨_, rfl⟩
        have hsp := spl_lt (show 2 ≤ n by omega)
        have CM : Hid (Calls Tryd.prog 48 #[.agg #[.int .i64 (b : Int), .int .i64 (e : Int)]] wr fun r w' => r = .returned (.int .i64 (md : Int)) ∧ Below wr.heap.size wr w') := Lib.hid (by
          have := rmiddle_any b e wr (by have := HF.out; omega) (by have := HF.out; have := HN.out; omega)
          rwa [show e - b = n by have := HF.out; omega, ← hmd] at this)
        have HM : Hid (md = b + spl n ∧ 1 < n ∧ 1 < k ∧ k2 = k / 2 ∧ spl n < n) := Lib.hid ⟨hmd, hn, by omega, hk2, hsp.2.1⟩
        have hp : k % 2 = 0 ∨ k % 2 = 1 := by omega
        clear hn hk2 hmd hsp hend q0 q1 qf
        rcases hp with hp | hp
        · have hpi : (k : Int).tmod 2 = 0 := by rw [Int.tmod_eq_emod_of_nonneg (Int.natCast_nonneg _)]; omega
          clear hp
          go_upto_region 4 with (go_at_call 48; with_reducible refine CM.out.mono ?_; rintro r w2 ⟨rfl, hb2⟩; have HB2 := Lib.hid hb2; clear hb2)
          clear d0 d1 df
          have hk := HF.out.2.2.2.keep (HB2.out.block _ HF.out.2.2.2.lt)
          obtain ⟨d0, d1, df⟩ := hk.at
          have HK := Lib.hid hk
          clear hk
          go_wp2_with fail
          refine ⟨⟨(k2 : Int), b, spl n, rfl, by omega, by omega, Lib.hid ⟨HI.out.1.left HM.out.2.1, ?_, ?_, ?_⟩⟩, ?_⟩
          · exact HI.out.2.1.keep ((Below.heap_setCell _ _ _ _ (by show B ≠ B + 1; omega)).trans (HB2.out.block _ HI.out.2.1.lt))
          · rw [← HM.out.1]
            exact blk_set HK.out 1 (.int .i64 (md : Int))
          · exact (below_onS HI.out.2.2.2 HB2.out HI.out.2.2.2.size).setCell (p := ⟨B + 1, 1, none⟩) (by show w.heap.size ≤ B + 1; rw [HB.out]; omega) _
          · show ((k2 : Int)).toNat < ((k : Int)).toNat
            have := HM.out
            omega
        · have hpi : (k : Int).tmod 2 = 1 := by rw [Int.tmod_eq_emod_of_nonneg (Int.natCast_nonneg _)]; omega
          clear hp
          go_upto_region 4 with (go_at_call 48; with_reducible refine CM.out.mono ?_; rintro r w2 ⟨rfl, hb2⟩; have HB2 := Lib.hid hb2; clear hb2)
          clear d0 d1 df
          have hk := HF.out.2.2.2.keep (HB2.out.block _ HF.out.2.2.2.lt)
          obtain ⟨d0, d1, df⟩ := hk.at
          have HK := Lib.hid hk
          clear hk
          go_wp2_with fail
          refine ⟨⟨(k2 : Int), b + spl n, n - spl n, rfl, by omega, by omega, Lib.hid ⟨HI.out.1.right HM.out.2.1, ?_, ?_, ?_⟩⟩, ?_⟩
          · exact HI.out.2.1.keep ((Below.heap_setCell _ _ _ _ (by show B ≠ B + 1; omega)).trans (HB2.out.block _ HI.out.2.1.lt))
          · rw [show b + spl n + (n - spl n) = e by have := HM.out; have := HF.out; omega, ← HM.out.1]
            exact blk_set HK.out 0 (.int .i64 (md : Int))
          · exact (below_onS HI.out.2.2.2 HB2.out HI.out.2.2.2.size).setCell (p := ⟨B + 1, 0, none⟩) (by show w.heap.size ≤ B + 1; rw [HB.out]; omega) _
          · show ((k2 : Int)).toNat < ((k : Int)).toNat
            have := HM.out
            omega
      · have hni : ¬ (1 : Int) < (n : Int) := by omega
        clear hn
        go_wp2_with fail
        obtain ⟨hr5, hb5⟩ := hend.out _ rfl
        obtain ⟨c0, c1, _⟩ := hr5.at
        refine bodyPost_ret (v := spV b e) (by simp [results, Tryd.results18, go_sem, c0, c1]) rfl ⟨⟨b, n, by rw [HF.out.2.2.1], HI.out.1⟩, hb5⟩
    · go_wp2_with fail
      obtain ⟨hr5, hb5⟩ := hend.out _ rfl
      obtain ⟨c0, c1, _⟩ := hr5.at
      refine bodyPost_ret (v := spV b e) (by simp [results, Tryd.results18, go_sem, c0, c1]) rfl ⟨⟨b, n, by rw [HF.out.2.2.1], HI.out.1⟩, hb5⟩
end Go.Proofs.YteknpnanmbfhfaaDoor
