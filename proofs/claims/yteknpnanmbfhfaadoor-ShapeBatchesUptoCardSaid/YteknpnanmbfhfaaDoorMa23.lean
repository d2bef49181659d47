/- Shape, walked: fold. -/
import Derived.Test.YteknpnanmbfhfaaDoorMa22
import Derived.Test.YteknpnanmbfhfaaDoorMa11
namespace Go.Scr
def inK (lo hi : Nat) (x : Kn) : Bool := decide (lo ≤ x.1 ∧ x.2.1 ≤ hi)
theorem take_filter {K : List Kn} {i : Nat} {x : Kn} (h : K[i]? = some x) (p : Kn → Bool) : (K.take (i + 1)).filter p = (K.take i).filter p ++ if p x then [x] else [] := by
  rw [List.take_add_one, List.filter_append, h]
  simp only [Option.toList, List.filter_cons, List.filter_nil]
end Go.Scr
namespace Go.Proofs.YteknpnanmbfhfaaDoor
open Go.RowKit Go.Scr Go.Shelf
set_option linter.unusedVariables false
/-- the hash of a span, out of known ones -/
def foldT (n b : Nat) (K : List Kn) : Option ByteArray :=
  match K.find? (hitK b (b + n)) with
  | some x => some x.2.2
  | none => if h : K = [] ∨ n ≤ 1 then none else
    match foldT (spl n) b (K.filter (inK b (b + spl n))) with
    | none => none
    | some x => match foldT (n - spl n) (b + spl n) (K.filter (inK (b + spl n) (b + n))) with
      | none => none
      | some y => some (nodeS x y)
termination_by n
decreasing_by
  · have := spl_lt (show 2 ≤ n by omega); omega
  · have := spl_lt (show 2 ≤ n by omega); omega
def foldV : Option ByteArray → Value
  | none => .tuple #[.string ⟨#[]⟩, .bool false]
  | some h => .tuple #[.string h, .bool true]
theorem find_of_idx {K : List Kn} {lo hi : Nat} : (idxK K lo hi = -1 ∧ K.find? (hitK lo hi) = none) ∨ ∃ (i : Nat) (x : Kn), idxK K lo hi = (i : Int) ∧ K[i]? = some x ∧ K.find? (hitK lo hi) = some x := by
  cases h : K.findIdx? (hitK lo hi) with
  | none =>
    refine .inl ⟨by unfold idxK; rw [h], ?_⟩
    rw [List.findIdx?_eq_none_iff] at h
    rw [List.find?_eq_none]
    intro x hx
    simpa using h x hx
  | some i =>
    refine .inr ?_
    rw [List.findIdx?_eq_some_iff_getElem] at h
    obtain ⟨hi', h1, h2⟩ := h
    refine ⟨i, K[i], ?_, List.getElem?_eq_getElem _, ?_⟩
    · unfold idxK
      rw [List.findIdx?_eq_some_iff_getElem.2 ⟨hi', h1, h2⟩]
    · rw [List.find?_eq_some_iff_getElem]
      exact ⟨h1, i, hi', rfl, fun j hj => by simpa using h2 j hj⟩
theorem foldT_hit {n b : Nat} {K : List Kn} {x : Kn} (h : K.find? (hitK b (b + n)) = some x) : foldT n b K = some x.2.2 := by rw [foldT, h]
theorem foldT_end {n b : Nat} {K : List Kn} (h : K.find? (hitK b (b + n)) = none) (h2 : K = [] ∨ n ≤ 1) : foldT n b K = none := by rw [foldT, h]; simp only []; rw [dif_pos h2]
theorem foldT_go {n b : Nat} {K : List Kn} (h : K.find? (hitK b (b + n)) = none) (h2 : ¬ (K = [] ∨ n ≤ 1)) : foldT n b K = match foldT (spl n) b (K.filter (inK b (b + spl n))) with
    | none => none
    | some x => match foldT (n - spl n) (b + spl n) (K.filter (inK (b + spl n) (b + n))) with
      | none => none
      | some y => some (nodeS x y) := by rw [foldT, h]; simp only []; rw [dif_neg h2]
/-- what stands at the head of fold's loop: A is the world ahead of it -/
structure FoI (A wr : World) (K : List Kn) (b md e i : Nat) (vl vr : Value) : Prop where
  hl : Held wr 109 3 vl ((K.take i).filter (inK b md)).length (knV ((K.take i).filter (inK b md)))
  hr : Held wr 109 3 vr ((K.take i).filter (inK md e)).length (knV ((K.take i).filter (inK md e)))
  ol : ∀ g, vl.ownBlock = some g → A.heap.size ≤ g ∧ vr.ownBlock ≠ some g
  orr : ∀ g, vr.ownBlock = some g → A.heap.size ≤ g
  bel : Below A.heap.size A wr
theorem below_le {A w : World} (h : Below A.heap.size A w) : A.heap.size ≤ w.heap.size := h.size
theorem grew_own {T sz : Nat} {w w' : World} {o : Obj} {v v' : Value} {n m : Nat} {xs news : List Value} (g : Grew T sz (w.alloc o) v n m xs news v' w') : ∀ q, v'.ownBlock = some q → v.ownBlock = some q ∨ w.heap.size ≤ q := fun q hq => by
  rcases g.at with ⟨e, _⟩ | ⟨e, _⟩
  · exact .inl (by rw [← e]; exact hq)
  · rw [hq] at e
    have h1 := Option.some.inj e
    simp at h1
    exact .inr (by omega)
theorem FoI.left {A wr w5 : World} {K : List Kn} {b md e i : Nat} {vl vr v5 : Value} {o o2 : Obj} {x : Kn} (h : FoI A wr K b md e i vl vr) (hx : K[i]? = some x) (h1 : inK b md x = true) (h2 : inK md e x = false)
    (g : Grew 109 3 ((wr.alloc o).alloc o2) vl ((K.take i).filter (inK b md)).length 1 (knV ((K.take i).filter (inK b md))) [.int .i64 (x.1 : Int), .int .i64 (x.2.1 : Int), .string x.2.2] v5 w5) : FoI A w5 K b md e (i + 1) v5 vr := by
  have hgr := grown_alloc (grown_alloc g.grown)
  have hat := grew_own g
  have hsz : (wr.alloc o).heap.size = wr.heap.size + 1 := by simp
  have hs := h.bel.size
  have e1 := take_filter hx (inK b md)
  have e2 := take_filter hx (inK md e)
  rw [h1] at e1
  rw [h2] at e2
  refine ⟨?_, ?_, ?_, h.orr, h.bel.grown hgr h.bel.size (fun q hq => (h.ol q hq).1)⟩
  · rw [e1, if_pos rfl, List.length_append, knV_append]
    exact g.held
  · rw [e2, if_neg (by decide), List.append_nil]
    exact h.hr.keep (fun q hq => hgr.block q (h.hr.lt hq) (fun e => (h.ol q e.symm).2 hq))
  · intro q hq
    rcases hat q hq with h3 | h3
    · exact h.ol q h3
    · refine ⟨by omega, fun e => ?_⟩
      have := h.hr.lt e
      omega
theorem FoI.right {A wr w5 : World} {K : List Kn} {b md e i : Nat} {vl vr v5 : Value} {o o2 : Obj} {x : Kn} (h : FoI A wr K b md e i vl vr) (hx : K[i]? = some x) (h1 : inK b md x = false) (h2 : inK md e x = true)
    (g : Grew 109 3 ((wr.alloc o).alloc o2) vr ((K.take i).filter (inK md e)).length 1 (knV ((K.take i).filter (inK md e))) [.int .i64 (x.1 : Int), .int .i64 (x.2.1 : Int), .string x.2.2] v5 w5) : FoI A w5 K b md e (i + 1) vl v5 := by
  have hgr := grown_alloc (grown_alloc g.grown)
  have hat := grew_own g
  have hsz : (wr.alloc o).heap.size = wr.heap.size + 1 := by simp
  have hs := h.bel.size
  have e1 := take_filter hx (inK b md)
  have e2 := take_filter hx (inK md e)
  rw [h1] at e1
  rw [h2] at e2
  refine ⟨?_, ?_, ?_, ?_, h.bel.grown hgr h.bel.size (fun q hq => h.orr q hq)⟩
  · rw [e1, if_neg (by decide), List.append_nil]
    exact h.hl.keep (fun q hq => hgr.block q (h.hl.lt hq) (fun e => (h.ol q hq).2 e.symm))
  · rw [e2, if_pos rfl, List.length_append, knV_append]
    exact g.held
  · intro q hq
    refine ⟨(h.ol q hq).1, fun e => ?_⟩
    rcases hat q e with h3 | h3
    · exact (h.ol q hq).2 h3
    · have := h.hl.lt hq
      omega
  · intro q hq
    rcases hat q hq with h3 | h3
    · exact h.orr q h3
    · omega
theorem FoI.none {A wr : World} {K : List Kn} {b md e i : Nat} {vl vr : Value} {o : Obj} {x : Kn} (h : FoI A wr K b md e i vl vr) (hx : K[i]? = some x) (h1 : inK b md x = false) (h2 : inK md e x = false) : FoI A (wr.alloc o) K b md e (i + 1) vl vr := by
  have e1 := take_filter hx (inK b md)
  have e2 := take_filter hx (inK md e)
  rw [h1] at e1
  rw [h2] at e2
  have hb : Below wr.heap.size wr (wr.alloc o) := (Below.refl _ _).alloc (Nat.le_refl _) _
  refine ⟨?_, ?_, h.ol, h.orr, below_onS h.bel hb h.bel.size⟩
  · rw [e1, if_neg (by decide), List.append_nil]
    exact h.hl.below hb
  · rw [e2, if_neg (by decide), List.append_nil]
    exact h.hr.below hb
end Go.Proofs.YteknpnanmbfhfaaDoor
/- Shape, walked: fold, whole. -/
namespace Go.Proofs.YteknpnanmbfhfaaDoor
open Go.RowKit Go.Scr Go.Shelf
set_option linter.unusedVariables false
theorem below_tabs {w w' : World} (h : Tabs w) (hb : Below w.heap.size w w') : Tabs w' := h.below hb
set_option maxRecDepth 100000 in
set_option maxHeartbeats 8000000 in
theorem fold_any (n : Nat) : ∀ (b : Nat) (v : Value) (K : List Kn) (w : World), 1 ≤ n → b + n ≤ 1099511627776 → Held w 109 3 v K.length (knV K) → K.length ≤ 4096 → (∀ x ∈ K, x.1 < x.2.1) → Tabs w →
    Calls Tryd.prog 79 #[spV b (b + n), v] w fun r w' => r = .returned (foldV (foldT n b K)) ∧ Below w.heap.size w w' := by
  induction n using Nat.strongRecOn with
  | ind n ih =>
    intro b v K w hn hbn hk hkl hks ht
    obtain ⟨p, c, rfl, hnc, hcm, _⟩ := hk.cells
    obtain ⟨e, he⟩ : ∃ e, e = b + n := ⟨_, rfl⟩
    obtain ⟨m, hm⟩ : ∃ m, m = K.length := ⟨_, rfl⟩
    obtain ⟨bs, hbs⟩ : ∃ x, x = w.heap.size := ⟨_, rfl⟩
    obtain ⟨w1, hw1⟩ : ∃ x, x = w.alloc (.cells #[.int .i64 (b : Int), .int .i64 (e : Int)] 29) := ⟨_, rfl⟩
    have hb1 : Below w.heap.size w w1 := by rw [hw1]; exact (Below.refl _ _).alloc (Nat.le_refl _) _
    have hs1 : spRow w1 bs b e := by rw [hw1, hbs]; exact heap_alloc_new w _
    have hk1 := hk.below hb1
    have CI := Lib.hid (index_any K b e bs (.slice p K.length c) w1 hk1 hs1 (by omega))
    obtain ⟨T, hT⟩ : ∃ T, T = foldT n b K := ⟨_, rfl⟩
    have hfi := find_of_idx (K := K) (lo := b) (hi := e)
    have HR : Hid ((K.find? (hitK b e) = none → (K = [] ∨ n ≤ 1) → T = none) ∧ (∀ x, K.find? (hitK b e) = some x → T = some x.2.2) ∧ (K.find? (hitK b e) = none → ¬ (K = [] ∨ n ≤ 1) → T = match foldT (spl n) b (K.filter (inK b (b + spl n))) with
      | none => none
      | some x => match foldT (n - spl n) (b + spl n) (K.filter (inK (b + spl n) e)) with
        | none => none
        | some y => some (nodeS x y))) := Lib.hid (by
      rw [he, hT]
      exact ⟨foldT_end, fun x hx => foldT_hit hx, foldT_go⟩)
    have HF : Hid (1 ≤ n ∧ e = b + n ∧ e ≤ 1099511627776 ∧ m = K.length ∧ m ≤ 4096 ∧ (∀ x ∈ K, x.1 < x.2.1) ∧ w.heap.size ≤ bs) := Lib.hid ⟨hn, he, by omega, hm, by omega, hks, by omega⟩
    have HST : Hid (∀ w2, Below w1.heap.size w1 w2 → Below w.heap.size w w2 ∧ Tabs w2 ∧ Held w2 109 3 (.slice p K.length c) K.length (knV K) ∧ spRow w2 bs b e) := Lib.hid (fun w2 h2 => by
      have hb2 := below_onS hb1 h2 hb1.size
      exact ⟨hb2, ht.below hb2, hk.below hb2, hs1.keep (h2.block _ hs1.lt)⟩)
    have HW := Lib.hid hw1
    have HB := Lib.hid hbs
    have HIH := Lib.hid ih
    have hm4 : m ≤ 4096 := by omega
    have he4 : e ≤ 1099511627776 := by omega
    rw [← he, ← hT]
    rw [← hm] at CI HST hnc ⊢
    obtain ⟨d0, d1, _⟩ := hs1.at
    clear ih hn hbn hk hkl hks ht he hm hbs hw1 hb1 hs1 hk1 hT
    rcases hfi with ⟨f1, f2⟩ | ⟨i, x, f1, f2, f3⟩
    · rw [f1] at CI
      have HN := Lib.hid f2
      clear f1 f2
      by_cases hm0 : m = 0
      · have hT : T = none := HR.out.1 HN.out (.inl (List.eq_nil_of_length_eq_zero (by have := HF.out; omega)))
        subst hT
        subst hm0
        go_enter Tryd.func79, Tryd.ntmps79
        go_upto_region 1 with fail
        rw [← HW.out, ← HB.out]
        go_wp2_with (go_at_call 101; with_reducible refine CI.out.mono ?_; rintro r w2 ⟨rfl, hb2⟩; have HB2 := Lib.hid hb2; clear hb2)
        go_ret2
        exact ⟨rfl, (HST.out _ HB2.out).1⟩
      · have hmi : ((m : Int) == 0) = false := by rw [beq_eq_false_iff_ne]; omega
        by_cases hn1 : n ≤ 1
        · have hT : T = none := HR.out.1 HN.out (.inr hn1)
          subst hT
          have hsub : (e : Int) - (b : Int) = 1 := by have := HF.out; omega
          clear hm0 hn1
          go_enter Tryd.func79, Tryd.ntmps79
          go_upto_region 1 with fail
          rw [← HW.out, ← HB.out]
          go_upto_region 2 with (go_at_call 101; with_reducible refine CI.out.mono ?_; rintro r w2 ⟨rfl, hb2⟩; have HB2 := Lib.hid hb2; clear hb2)
          obtain ⟨t0, t1, _⟩ := (HST.out _ HB2.out).2.2.2.at
          go_wp2
          go_ret2
          exact ⟨rfl, (HST.out _ HB2.out).1⟩
        · have hnn : ¬ (K = [] ∨ n ≤ 1) := by
            rintro (h | h)
            · rw [h] at HF; have := HF.out.2.2.2.1; simp at this; omega
            · omega
          have hT := HR.out.2.2 HN.out hnn
          obtain ⟨md, hmd⟩ : ∃ x, x = b + spl n := ⟨_, rfl⟩
          have hsp := spl_lt (show 2 ≤ n by omega)
          have CH : Hid (∀ w', Calls Tryd.prog 51 #[.agg #[.int .i64 (b : Int), .int .i64 (e : Int)]] w' fun r w2 => r = .returned (.tuple #[spV b md, spV md e]) ∧ Below w'.heap.size w' w2) := Lib.hid (fun w' => by
            have := halves_any b e w' (by have := HF.out; omega) (by have := HF.out; omega)
            rwa [show e - b = n by have := HF.out; omega, ← hmd] at this)
          rw [← hmd] at hT
          obtain ⟨K1, hK1⟩ : ∃ x, x = K.filter (inK b md) := ⟨_, rfl⟩
          obtain ⟨K2, hK2⟩ : ∃ x, x = K.filter (inK md e) := ⟨_, rfl⟩
          rw [← hK1, ← hK2] at hT
          obtain ⟨T1, hT1⟩ : ∃ x, x = foldT (spl n) b K1 := ⟨_, rfl⟩
          obtain ⟨T2, hT2⟩ : ∃ x, x = foldT (n - spl n) md K2 := ⟨_, rfl⟩
          rw [← hT1, ← hT2] at hT
          have hkl : K1.length ≤ 4096 ∧ K2.length ≤ 4096 ∧ (∀ x ∈ K1, x.1 < x.2.1) ∧ ∀ x ∈ K2, x.1 < x.2.1 := by
            have h1 := List.length_filter_le (inK b md) K
            have h2 := List.length_filter_le (inK md e) K
            have h3 := HF.out
            exact ⟨by rw [hK1]; omega, by rw [hK2]; omega, fun x hx => h3.2.2.2.2.2.1 x (by rw [hK1] at hx; exact (List.mem_filter.1 hx).1), fun x hx => h3.2.2.2.2.2.1 x (by rw [hK2] at hx; exact (List.mem_filter.1 hx).1)⟩
          have C1 : Hid (∀ (v : Value) (W : World), Held W 109 3 v K1.length (knV K1) → Tabs W → Calls Tryd.prog 79 #[spV b md, v] W fun r w' => r = .returned (foldV T1) ∧ Below W.heap.size W w') := Lib.hid (fun v W h h2 => by
            have := HIH.out (spl n) (by omega) b v K1 W (by omega) (by have := HF.out; omega) h hkl.1 hkl.2.2.1 h2
            rwa [← hmd, ← hT1] at this)
          have C2 : Hid (∀ (v : Value) (W : World), Held W 109 3 v K2.length (knV K2) → Tabs W → Calls Tryd.prog 79 #[spV md e, v] W fun r w' => r = .returned (foldV T2) ∧ Below W.heap.size W w') := Lib.hid (fun v W h h2 => by
            have := HIH.out (n - spl n) (by omega) md v K2 W (by omega) (by have := HF.out; omega) h hkl.2.1 hkl.2.2.2 h2
            rwa [show md + (n - spl n) = e by have := HF.out; omega, ← hT2] at this)
          have HMD : Hid (b < md ∧ md < e ∧ K1 = K.filter (inK b md) ∧ K2 = K.filter (inK md e)) := Lib.hid ⟨by omega, by have := HF.out; omega, hK1, hK2⟩
          have HTT := Lib.hid hT
          obtain ⟨ln, hln⟩ : ∃ x, x = e - b := ⟨_, rfl⟩
          have hsub : (e : Int) - (b : Int) = (ln : Int) := by have := HF.out; omega
          have hl1 : ((ln : Int) == 1) = false := by have := HF.out; rw [beq_eq_false_iff_ne]; omega
          have hlb : ln ≤ 1099511627776 := by omega
          clear hm0 hn1 hnn hT hmd hsp hK1 hK2 hT1 hT2 hkl hln HIH
          go_enter Tryd.func79, Tryd.ntmps79
          go_upto_region 1 with fail
          rw [← HW.out, ← HB.out]
          go_upto_region 7 with (first
            | (go_at_call 101; with_reducible refine CI.out.mono ?_; rintro r w2 ⟨rfl, hb2⟩; obtain ⟨t0, t1, _⟩ := (HST.out _ hb2).2.2.2.at; have HB2 := Lib.hid hb2; clear hb2)
            | (go_at_call 51; with_reducible refine (CH.out _).mono ?_; rintro r w3 ⟨rfl, hb3⟩; have HB3 := Lib.hid hb3; clear hb3))
          clear t0 t1 d0 d1
          obtain ⟨A, hA⟩ : ∃ x, x = ((w3.alloc (.cells #[.int .i64 (b : Int), .int .i64 (md : Int)] 29)).alloc (.cells #[.int .i64 (md : Int), .int .i64 (e : Int)] 29)) := ⟨_, rfl⟩
          obtain ⟨bh, hbh⟩ : ∃ x, x = w3.heap.size := ⟨_, rfl⟩
          have hbA : Below w1.heap.size w1 A := by
            rw [hA]
            have h3 := below_onS HB2.out HB3.out HB2.out.size
            exact (h3.alloc h3.size _).alloc (by have := h3.size; simp; omega) _
          have r0 : spRow A bh b md := by rw [hA, hbh]; exact blk_alloc (heap_alloc_new w3 _)
          have r1 : spRow A (bh + 1) md e := by rw [hA, hbh]; exact heap_alloc_at _ _ _ (by simp)
          rw [← hbh, ← hA]
          have HA : Hid (Below w.heap.size w A ∧ Tabs A ∧ Held A 109 3 (.slice p m c) m (knV K) ∧ spRow A bh b md ∧ spRow A (bh + 1) md e) := Lib.hid ⟨(HST.out _ hbA).1, (HST.out _ hbA).2.1, (HST.out _ hbA).2.2.1, r0, r1⟩
          have HONE : Hid (∀ kb ke : Int, ∀ kh : ByteArray, ∀ u ∈ [Value.int .i64 kb, .int .i64 ke, .string kh], u.oneCell' = true) := Lib.hid (fun kb ke kh u hu => by
            rcases List.mem_cons.1 hu with rfl | hu
            · rfl
            · rcases List.mem_cons.1 hu with rfl | hu
              · rfl
              · rw [List.mem_singleton.1 hu]; rfl)
          clear hA hbh hbA r0 r1
          go_wp2_with fail
          go_loopw [9, 10, 48] (fun x y z wr => ∃ i : Nat, z = .int .i64 (i : Int) ∧ Hid (i ≤ m ∧ FoI A wr K b md e i x y)) (fun _ _ z _ => m - (intOf z).toNat)
          case atStart => exact ⟨0, rfl, Lib.hid ⟨Nat.zero_le _, ⟨rfl, .inl ⟨rfl, rfl⟩⟩, ⟨rfl, .inl ⟨rfl, rfl⟩⟩, (fun g hg => by cases hg), (fun g hg => by cases hg), Below.refl _ _⟩⟩
          case round =>
            obtain ⟨i, rfl, HI⟩ := hrel
            by_cases hlt : i < m
            · have hlti : (i : Int) < (m : Int) := by omega
              have hi0 : (0 : Int) ≤ (i : Int) := by omega
              obtain ⟨lp, lc, rfl, _⟩ := HI.out.2.hl.cells
              obtain ⟨rp, rc, rfl, _⟩ := HI.out.2.hr.cells
              have HFO : Hid (FoI A wr K b md e i (.slice lp ((K.take i).filter (inK b md)).length lc) (.slice rp ((K.take i).filter (inK md e)).length rc)) := Lib.hid HI.out.2
              clear HI
              obtain ⟨⟨kb, ke, kh⟩, hx⟩ : ∃ x, K[i]? = some x := ⟨K[i]'(by have := HF.out; omega), List.getElem?_eq_getElem _⟩
              obtain ⟨q0, q1, q2⟩ := knV_get hx
              have hne : kb < ke := HF.out.2.2.2.2.2.1 _ (List.mem_of_getElem? hx)
              have hhd := HA.out.2.2.1.below HFO.out.bel
              obtain ⟨p', c', hpe, _, _, hce⟩ := hhd.cells
              cases hpe
              obtain ⟨g, rfl⟩ : ∃ g, p = some ⟨g, 0, none⟩ := by
                rcases hhd.2 with ⟨e, h0⟩ | ⟨g, _, _, e, _⟩
                · omega
                · exact ⟨g, by cases e; rfl⟩
              have hcg : ∀ k u, (knV K)[k]? = some u → wr.cell? ⟨g, k, none⟩ = some u := fun k u hk => by
                obtain ⟨a, ha, _, hc⟩ := hce k u hk
                cases ha
                have hadd : (⟨g, 0, none⟩ : Addr).add k = ⟨g, k, none⟩ := by unfold Addr.add; split <;> simp_all
                rw [hadd] at hc
                exact hc
              have k0 := hcg _ _ q0
              have k1 := hcg _ _ q1
              have k2 := hcg _ _ q2
              have HX : Hid (K[i]? = some (kb, ke, kh) ∧ i < m) := Lib.hid ⟨hx, hlt⟩
              have hmd1 := HMD.out.1
              have hmd2 := HMD.out.2.1
              have hbh : bh + 1 < wr.heap.size := Nat.lt_of_lt_of_le HA.out.2.2.2.2.lt HFO.out.bel.size
              have m0 : ∀ o, (wr.alloc o).cell? ⟨bh, 0, none⟩ = some (.int .i64 (b : Int)) := fun o => (HA.out.2.2.2.1.keep ((Below.heap_alloc wr o bh (by omega)).trans (HFO.out.bel.block _ HA.out.2.2.2.1.lt))).at.1
              have m1 : ∀ o, (wr.alloc o).cell? ⟨bh, 1, none⟩ = some (.int .i64 (md : Int)) := fun o => (HA.out.2.2.2.1.keep ((Below.heap_alloc wr o bh (by omega)).trans (HFO.out.bel.block _ HA.out.2.2.2.1.lt))).at.2.1
              have m2 : ∀ o, (wr.alloc o).cell? ⟨bh + 1, 0, none⟩ = some (.int .i64 (md : Int)) := fun o => (HA.out.2.2.2.2.keep ((Below.heap_alloc wr o (bh + 1) (by omega)).trans (HFO.out.bel.block _ HA.out.2.2.2.2.lt))).at.1
              have m3 : ∀ o, (wr.alloc o).cell? ⟨bh + 1, 1, none⟩ = some (.int .i64 (e : Int)) := fun o => (HA.out.2.2.2.2.keep ((Below.heap_alloc wr o (bh + 1) (by omega)).trans (HFO.out.bel.block _ HA.out.2.2.2.2.lt))).at.2.1
              have hf1 := List.length_filter_le (inK b md) (K.take i)
              have hf2 := List.length_filter_le (inK md e) (K.take i)
              rw [List.length_take] at hf1 hf2
              have hl1 : (((K.take i).filter (inK b md)).length + 1) * 32 ≤ 140737488355328 := by omega
              have hl2 : ((K.take i).filter (inK b md)).length + 1 ≤ 140737488355328 := by omega
              have hr1 : (((K.take i).filter (inK md e)).length + 1) * 32 ≤ 140737488355328 := by omega
              have hr2 : ((K.take i).filter (inK md e)).length + 1 ≤ 140737488355328 := by omega
              have HL : Hid (Held (wr.alloc (.cells #[.int .i64 (kb : Int), .int .i64 (ke : Int), .string kh] 109)) 109 3 (.slice lp ((K.take i).filter (inK b md)).length lc) ((K.take i).filter (inK b md)).length (knV ((K.take i).filter (inK b md)))) := Lib.hid (HFO.out.hl.below ((Below.refl _ _).alloc (Nat.le_refl _) _))
              have HR2 : Hid (Held (wr.alloc (.cells #[.int .i64 (kb : Int), .int .i64 (ke : Int), .string kh] 109)) 109 3 (.slice rp ((K.take i).filter (inK md e)).length rc) ((K.take i).filter (inK md e)).length (knV ((K.take i).filter (inK md e)))) := Lib.hid (HFO.out.hr.below ((Below.refl _ _).alloc (Nat.le_refl _) _))
              have HONE := Lib.hid (HONE.out kb ke kh)
              clear hlt hx q0 q1 q2 hhd hce hcg hbh hf1 hf2
              by_cases a1 : b ≤ kb
              · have a1i : (b : Int) ≤ (kb : Int) := by omega
                by_cases a2 : ke ≤ md
                · have a2i : (ke : Int) ≤ (md : Int) := by omega
                  have h1 : inK b md (kb, ke, kh) = true := decide_eq_true (by show b ≤ kb ∧ ke ≤ md; omega)
                  have h2 : inK md e (kb, ke, kh) = false := decide_eq_false (by show ¬ (md ≤ kb ∧ ke ≤ e); omega)
                  have H1 := Lib.hid h1
                  have H2 := Lib.hid h2
                  clear h1 h2 hne hmd1 hmd2
                  clear a1 a2
                  go_wp2_with (first
                    | (at_builtin; refine wpList_grew (v := (.slice lp ((K.take i).filter (inK b md)).length lc)) (l := knV ((K.take i).filter (inK b md))) rfl _ _ rfl Tryd.underlying107 (.agg #[.int .i64 0, .int .i64 0, .string ⟨#[]⟩]) 3 info_kn rfl (by decide) [.int .i64 (kb : Int), .int .i64 (ke : Int), .string kh] 1 (by simp [Act.eval]) (by simp [Act.eval]) HL.out rfl rfl (by decide) HONE.out hl1 hl2 ?_; intro v5 w5 hg5; have HG5 := Lib.hid hg5; clear hg5))
                  refine ⟨⟨i + 1, by simp, Lib.hid ⟨by have := HX.out.2; omega, HFO.out.left HX.out.1 H1.out H2.out HG5.out⟩⟩, ?_⟩
                  show m - ((i : Int) + 1).toNat < m - ((i : Int)).toNat
                  have := HX.out.2
                  omega
                · have a2i : ¬ (ke : Int) ≤ (md : Int) := by omega
                  by_cases a3 : md ≤ kb
                  · have a3i : (md : Int) ≤ (kb : Int) := by omega
                    by_cases a4 : ke ≤ e
                    · have a4i : (ke : Int) ≤ (e : Int) := by omega
                      have h1 : inK b md (kb, ke, kh) = false := decide_eq_false (by show ¬ (b ≤ kb ∧ ke ≤ md); omega)
                      have h2 : inK md e (kb, ke, kh) = true := decide_eq_true (by show md ≤ kb ∧ ke ≤ e; omega)
                      have H1 := Lib.hid h1
                      have H2 := Lib.hid h2
                      clear h1 h2 hne hmd1 hmd2
                      clear a1 a2 a3 a4
                      go_wp2_with (first
                        | (at_builtin; refine wpList_grew (v := (.slice rp ((K.take i).filter (inK md e)).length rc)) (l := knV ((K.take i).filter (inK md e))) rfl _ _ rfl Tryd.underlying107 (.agg #[.int .i64 0, .int .i64 0, .string ⟨#[]⟩]) 3 info_kn rfl (by decide) [.int .i64 (kb : Int), .int .i64 (ke : Int), .string kh] 1 (by simp [Act.eval]) (by simp [Act.eval]) HR2.out rfl rfl (by decide) HONE.out hr1 hr2 ?_; intro v5 w5 hg5; have HG5 := Lib.hid hg5; clear hg5))
                      refine ⟨⟨i + 1, by simp, Lib.hid ⟨by have := HX.out.2; omega, HFO.out.right HX.out.1 H1.out H2.out HG5.out⟩⟩, ?_⟩
                      show m - ((i : Int) + 1).toNat < m - ((i : Int)).toNat
                      have := HX.out.2
                      omega
                    · have a4i : ¬ (ke : Int) ≤ (e : Int) := by omega
                      have h1 : inK b md (kb, ke, kh) = false := decide_eq_false (by show ¬ (b ≤ kb ∧ ke ≤ md); omega)
                      have h2 : inK md e (kb, ke, kh) = false := decide_eq_false (by show ¬ (md ≤ kb ∧ ke ≤ e); omega)
                      have H1 := Lib.hid h1
                      have H2 := Lib.hid h2
                      clear h1 h2 hne hmd1 hmd2
                      clear a1 a2 a3 a4
                      go_wp2_with fail
                      refine ⟨⟨i + 1, by simp, Lib.hid ⟨by have := HX.out.2; omega, HFO.out.none HX.out.1 H1.out H2.out⟩⟩, ?_⟩
                      show m - ((i : Int) + 1).toNat < m - ((i : Int)).toNat
                      have := HX.out.2
                      omega
                  · have a3i : ¬ (md : Int) ≤ (kb : Int) := by omega
                    have h1 : inK b md (kb, ke, kh) = false := decide_eq_false (by show ¬ (b ≤ kb ∧ ke ≤ md); omega)
                    have h2 : inK md e (kb, ke, kh) = false := decide_eq_false (by show ¬ (md ≤ kb ∧ ke ≤ e); omega)
                    have H1 := Lib.hid h1
                    have H2 := Lib.hid h2
                    clear h1 h2 hne hmd1 hmd2
                    clear a1 a2 a3
                    go_wp2_with fail
                    refine ⟨⟨i + 1, by simp, Lib.hid ⟨by have := HX.out.2; omega, HFO.out.none HX.out.1 H1.out H2.out⟩⟩, ?_⟩
                    show m - ((i : Int) + 1).toNat < m - ((i : Int)).toNat
                    have := HX.out.2
                    omega
              · have a1i : ¬ (b : Int) ≤ (kb : Int) := by omega
                have a3i : ¬ (md : Int) ≤ (kb : Int) := by omega
                have h1 : inK b md (kb, ke, kh) = false := decide_eq_false (by show ¬ (b ≤ kb ∧ ke ≤ md); omega)
                have h2 : inK md e (kb, ke, kh) = false := decide_eq_false (by show ¬ (md ≤ kb ∧ ke ≤ e); omega)
                have H1 := Lib.hid h1
                have H2 := Lib.hid h2
                clear h1 h2 hne hmd1 hmd2
                clear a1
                go_wp2_with fail
                refine ⟨⟨i + 1, by simp, Lib.hid ⟨by have := HX.out.2; omega, HFO.out.none HX.out.1 H1.out H2.out⟩⟩, ?_⟩
                show m - ((i : Int) + 1).toNat < m - ((i : Int)).toNat
                have := HX.out.2
                omega
            · have hlti : ¬ (i : Int) < (m : Int) := by omega
              obtain ⟨lp, lc, rfl, _⟩ := HI.out.2.hl.cells
              obtain ⟨rp, rc, rfl, _⟩ := HI.out.2.hr.cells
              have htk : K.take i = K := List.take_of_length_le (by have := HF.out; omega)
              have hl := HI.out.2.hl
              have hr := HI.out.2.hr
              have hbel := HI.out.2.bel
              rw [htk, ← HMD.out.2.2.1] at hl
              rw [htk, ← HMD.out.2.2.2] at hr
              rw [htk, ← HMD.out.2.2.1, ← HMD.out.2.2.2]
              have HBL : Hid (Below w.heap.size w wr ∧ Tabs wr) := Lib.hid ⟨below_onS HA.out.1 hbel HA.out.1.size, HA.out.2.1.below hbel⟩
              have HC1 := Lib.hid (C1.out _ wr hl HBL.out.2)
              have HHR := Lib.hid hr
              have HROWS : Hid (spRow wr bh b md ∧ spRow wr (bh + 1) md e) := Lib.hid ⟨HA.out.2.2.2.1.keep (hbel.block _ HA.out.2.2.2.1.lt), HA.out.2.2.2.2.keep (hbel.block _ HA.out.2.2.2.2.lt)⟩
              obtain ⟨x0, x1, _⟩ := HROWS.out.1.at
              clear HI hlt htk hl hr hbel
              cases T1 with
              | none =>
                have hT : T = none := HTT.out
                have HC1 := Lib.hid (show Calls Tryd.prog 79 _ wr (fun r w' => r = .returned (.tuple #[.string ⟨#[]⟩, .bool false]) ∧ Below wr.heap.size wr w') from HC1.out)
                subst hT
                go_wp2_with (go_at_call 79; with_reducible refine HC1.out.mono ?_; rintro r w5 ⟨rfl, hb5⟩; have HB5 := Lib.hid hb5; clear hb5)
                go_ret2
                exact ⟨rfl, below_onS HBL.out.1 HB5.out HBL.out.1.size⟩
              | some h1 =>
                have HC1 := Lib.hid (show Calls Tryd.prog 79 _ wr (fun r w' => r = .returned (.tuple #[.string h1, .bool true]) ∧ Below wr.heap.size wr w') from HC1.out)
                cases T2 with
                | none =>
                  have hT : T = none := HTT.out
                  have C2 := Lib.hid (show ∀ (v : Value) (W : World), _ → _ → Calls Tryd.prog 79 _ W (fun r w' => r = .returned (.tuple #[.string ⟨#[]⟩, .bool false]) ∧ Below W.heap.size W w') from C2.out)
                  subst hT
                  go_wp2_with (first
                    | (go_at_call 79; with_reducible refine HC1.out.mono ?_; rintro r w5 ⟨rfl, hb5⟩; have HC2 := Lib.hid (C2.out _ w5 (HHR.out.below hb5) (HBL.out.2.below hb5)); obtain ⟨y0, y1, _⟩ := (HROWS.out.2.keep (hb5.block _ HROWS.out.2.lt)).at; have HB5 := Lib.hid hb5; clear hb5)
                    | (go_at_call 79; with_reducible refine HC2.out.mono ?_; rintro r w6 ⟨rfl, hb6⟩; have HB6 := Lib.hid hb6; clear hb6))
                  go_ret2
                  have hb5 := below_onS HBL.out.1 HB5.out HBL.out.1.size
                  exact ⟨rfl, below_onS hb5 HB6.out hb5.size⟩
                | some h2 =>
                  have C2 := Lib.hid (show ∀ (v : Value) (W : World), _ → _ → Calls Tryd.prog 79 _ W (fun r w' => r = .returned (.tuple #[.string h2, .bool true]) ∧ Below W.heap.size W w') from C2.out)
                  have hT : T = some (nodeS h1 h2) := HTT.out
                  subst hT
                  go_wp2_with (first
                    | (go_at_call 79; with_reducible refine HC1.out.mono ?_; rintro r w5 ⟨rfl, hb5⟩; have HC2 := Lib.hid (C2.out _ w5 (HHR.out.below hb5) (HBL.out.2.below hb5)); obtain ⟨y0, y1, _⟩ := (HROWS.out.2.keep (hb5.block _ HROWS.out.2.lt)).at; have HT5 := Lib.hid (HBL.out.2.below hb5); have HB5 := Lib.hid hb5; clear hb5)
                    | (go_at_call 79; with_reducible refine HC2.out.mono ?_; rintro r w6 ⟨rfl, hb6⟩; have HN6 := Lib.hid (dnode_any h1 h2 w6 (HT5.out.below hb6)); have HB6 := Lib.hid hb6; clear hb6)
                    | (go_at_call 98; with_reducible refine HN6.out.mono ?_; rintro r w7 ⟨rfl, hb7⟩; have HB7 := Lib.hid hb7; clear hb7))
                  go_ret2
                  have hb5 := below_onS HBL.out.1 HB5.out HBL.out.1.size
                  have hb6 := below_onS hb5 HB6.out hb5.size
                  exact ⟨rfl, below_onS hb6 HB7.out hb6.size⟩
    · rw [f1] at CI
      have hT : T = some x.2.2 := HR.out.2.1 x f3
      subst hT
      obtain ⟨kb, ke, kh⟩ := x
      obtain ⟨q0, q1, q2⟩ := knV_get f2
      have him : i < m := by have := (List.getElem?_eq_some_iff.mp f2).1; have := HF.out; omega
      have himi : (i : Int) < (m : Int) := by omega
      have hi0 : (0 : Int) ≤ (i : Int) := by omega
      have HQ := Lib.hid q2
      have HIM := Lib.hid him
      clear f1 f2 f3 q0 q1 q2 him
      go_enter Tryd.func79, Tryd.ntmps79
      go_upto_region 1 with fail
      rw [← HW.out, ← HB.out]
      go_upto_region 2 with (go_at_call 101; with_reducible refine CI.out.mono ?_; rintro r w2 ⟨rfl, hb2⟩; have HB2 := Lib.hid hb2; clear hb2)
      have hcell : ∃ g, p = some ⟨g, 0, none⟩ ∧ w2.cell? ⟨g, i * 3 + 2, none⟩ = some (.string kh) := by
        have hhd := (HST.out _ HB2.out).2.2.1
        obtain ⟨p', c', hpe, _, _, hce⟩ := hhd.cells
        cases hpe
        obtain ⟨g, rfl⟩ : ∃ g, p = some ⟨g, 0, none⟩ := by
          rcases hhd.2 with ⟨e, h0⟩ | ⟨g, _, _, e, _⟩
          · have := HIM.out; omega
          · exact ⟨g, by cases e; rfl⟩
        refine ⟨g, rfl, ?_⟩
        obtain ⟨a, ha, _, hc⟩ := hce _ _ HQ.out
        cases ha
        have hadd : (⟨g, 0, none⟩ : Addr).add (i * 3 + 1 + 1) = ⟨g, i * 3 + 2, none⟩ := by unfold Addr.add; split <;> simp_all
        rw [hadd] at hc
        exact hc
      obtain ⟨g, rfl, hc2⟩ := hcell
      go_wp2
      go_ret2
      exact ⟨rfl, (HST.out _ HB2.out).1⟩
end Go.Proofs.YteknpnanmbfhfaaDoor
