/- Shape, walked: rest's iterator. -/
import Derived.Test.YteknpnanmbfhfaaDoorMa18
import Derived.Laws.EntriesVeiled
namespace Go.Proofs.YteknpnanmbfhfaaDoor
open Go.RowKit Go.Scr Go.Shelf
set_option linter.unusedVariables false
attribute [local go_sem] Oper.semAt_some

set_option maxRecDepth 100000 in
set_option maxHeartbeats 4000000 in
theorem rest_seq {F bc : Nat} {look : Nat → Nat → Nat} {N : Nat} {LOK : World → Prop} {capl : Nat → Prop} (LK : LookF F bc look N LOK capl) (hN : N ≤ 1099511627776) (n : Nat) (hn1 : 1 ≤ n) (bl bs b m : Nat) (W : World)
    (hbl : W.heap[bl]? = some (.cells #[.func (.func F) #[] #[ptr0 bc]] 80 (0, 0))) (hbs : spRow W bs b (b + m)) (hm : 1 ≤ m) (hbm : b + m ≤ N) (hlok : LOK W) :
    SeqU Fence.wide n Tryd.prog 83 #[ptr0 bl, ptr0 bs] (fun x : Nat × Nat => #[spV x.1 x.2]) (fun xs => xs = restT look b m) (fun pre => pre <+: restT look b m) (fun pre x => (pre ++ [x]) <+: restT look b m) (fun i => i = bl ∨ i = bs ∨ capl i) W := by
  intro l J Jx U0 hJ hJx hY h0 hU0
  obtain ⟨B, hB⟩ : ∃ B, B = W.heap.size := ⟨_, rfl⟩
  obtain ⟨e, he⟩ : ∃ e, e = b + m := ⟨_, rfl⟩
  rw [← he] at hbs
  obtain ⟨w2, hw2⟩ : ∃ x, x = (W.alloc (.cells #[.func (.yield l) #[] #[]] 112)).alloc (.cells #[.nilFunc] 112) := ⟨_, rfl⟩
  obtain ⟨w3, hw3⟩ : ∃ x, x = w2.setCell ⟨B + 1, 0, none⟩ (.func (.func 84) #[] #[ptr0 bl, ptr0 B, ptr0 (B + 1)]) := ⟨_, rfl⟩
  have hb2 : Below W.heap.size W w2 := by rw [hw2]; exact ((Below.refl _ _).alloc (Nat.le_refl _) _).alloc (by simp) _
  have r0 : w2.heap[B]? = some (.cells #[.func (.yield l) #[] #[]] 112 (0, 0)) := by rw [hw2, hB]; exact blk_alloc (heap_alloc_new W _)
  have r1 : w2.heap[B + 1]? = some (.cells #[.nilFunc] 112 (0, 0)) := by rw [hw2, hB]; exact heap_alloc_at _ _ _ (by simp)
  have hsz2 : w2.heap.size = B + 2 := by rw [hw2, hB]; simp
  have hb3 : Below W.heap.size W w3 := by rw [hw3]; exact hb2.setCell (p := ⟨B + 1, 0, none⟩) (by show W.heap.size ≤ B + 1; omega) _
  have hrw : RW F bc LOK capl l B bl w3 U0 := by
    have ltl := (Array.getElem?_eq_some_iff.mp hbl).1
    have hk : Kq (fun i => ¬ U0 i) W w3 := kq_below hb3
    refine ⟨(hb3.block _ ltl).trans hbl, ?_, ?_, LK.keep _ _ hlok ⟨hb3.size, fun i hi _ => hb3.block i hi⟩, ⟨fun h => (hU0 _ h).2 (.inl rfl), fun h => by have := (hU0 _ h).1; omega, fun h => by have := (hU0 _ h).1; omega, fun i hc h => (hU0 _ h).2 (.inr (.inr hc))⟩, fun i hi => Nat.lt_of_lt_of_le (hU0 i hi).1 hb3.size, ?_⟩
    · rw [hw3]; exact (Below.heap_setCell _ _ _ _ (by show B ≠ B + 1; omega)).trans r0
    · rw [hw3]; exact blk_set r1 0 _
    · rw [hw3]; simp [World.setCell]; omega
  have hj3 : J [] U0 w3 := hJ _ _ _ _ h0 (Chg.of_below hb3)
  have hs3 : spRow w3 bs b e := hbs.keep (hb3.block _ hbs.lt)
  have HC : Hid (Calls Tryd.prog 84 #[spV b e, ptr0 bl, ptr0 B, ptr0 (B + 1)] w3 (WPost J Jx (restT look b m) [] (restT look b m) U0 w3)) := Lib.hid (by
    rw [he]
    exact restw_any LK hN l B bl (restT look b m) J Jx (by rw [hB]; exact hJ) (fun pre x U W1 a1 a2 a3 a4 => YieldAt.deep (hY pre x U W1 a1 a2 (by rw [← hB]; exact a3) a4)) m b [] U0 w3 hm hbm (by simp) hj3 hrw)
  obtain ⟨z0, z1, z2⟩ := hrw.at
  obtain ⟨t0, t1, _⟩ := hs3.at
  have f1 : w2.frozen? ⟨B + 1, 0, none⟩ = false := frozen_of_row w2 (B + 1) 0 _ _ r1
  have c1 : w2.cell? ⟨B + 1, 0, none⟩ = some .nilFunc := cell_of_row _ _ _ _ _ _ r1
  have HW2 := Lib.hid hw2
  have HW3 := Lib.hid hw3
  have HB := Lib.hid hB
  clear hJ hJx hY h0 hU0 hB he hbl hbs hw2 hw3 hb2 hb3 r0 r1 hsz2 hrw hj3 hs3 hlok hm hbm LK
  refine callsIn_of_wp Tryd.func83 rfl trivial ?_ rfl
  simp only [Tryd.ntmps83, List.size_toArray, List.length_cons, List.length_nil, Nat.reduceAdd, Nat.reduceSub, Array.replicate_succ, Array.replicate_zero, List.push_toArray, List.append_toArray, List.nil_append, List.cons_append]
  gi_upto_region 2 with fail
  rw [← HB.out, ← HW2.out]
  gi_upto_region 3 with fail
  change Code.wpIn _ _ _ _ _ _ (w2.setCell ⟨B + 1, 0, none⟩ (.func (.func 84) #[] #[ptr0 bl, ptr0 B, ptr0 (B + 1)]))
  rw [← HW3.out]
  clear f1 c1
  gi_wp2_with (first
    | (refine ⟨trivial, ?_⟩; gi_at_call 84; (with_reducible refine (callsIn_wide.2 HC.out).mono ?_); rintro r w5 hp; obtain ⟨U1, halt, hk5, hu5⟩ := show WPost J Jx (restT look b m) [] (restT look b m) U0 w3 r w5 from hp; rcases halt with ⟨rfl, hj5⟩ | ⟨rfl, q, hq, hjx5⟩))
  · go_end0
    exact ⟨⟨_, rfl⟩, .inl ⟨_, U1, rfl, hj5⟩⟩
  · go_end0
    exact ⟨⟨_, rfl⟩, .inr ⟨q, U1, hq, hjx5⟩⟩
end Go.Proofs.YteknpnanmbfhfaaDoor
/- Shape, walked: slices.AppendSeq and Collect of spans. -/
namespace Go.Proofs.YteknpnanmbfhfaaDoor
open Go.RowKit Go.Scr Go.Shelf
set_option linter.unusedVariables false
attribute [local go_sem] Oper.semAt_some

/-- what stands between the rounds: the list so far -/
def ApI (w0 : World) (b0 D : Nat) (pre : List (Nat × Nat)) (U : Nat → Prop) (W : World) : Prop :=
  ∃ v, W.heap[b0]? = some (.cells #[v] 31 (0, 0)) ∧ Held W 29 2 v pre.length (prsV pre) ∧ (∀ i, U i ↔ (i = b0 ∨ v.ownBlock = some i)) ∧ (∀ g, v.ownBlock = some g → D + 2 ≤ g) ∧ Below w0.heap.size w0 W
theorem ApI.chg {w0 a c : World} {b0 D : Nat} {pre : List (Nat × Nat)} {U : Nat → Prop} (h : ApI w0 b0 D pre U a) (hw : w0.heap.size ≤ D) (hc : Chg (fun i => D ≤ i ∧ ¬ U i) a c) : ApI w0 b0 D pre U c := by
  obtain ⟨v, h1, h2, h3, h4, h5⟩ := h
  have lt := (Array.getElem?_eq_some_iff.mp h1).1
  exact ⟨v, (hc.same _ lt (fun e => e.2 ((h3 b0).2 (.inl rfl)))).trans h1, h2.keep (fun g hg => hc.same g (h2.lt hg) (fun e => e.2 ((h3 g).2 (.inr hg)))), h3, h4, below_chg h5 hc (fun j hj => by omega) h5.size⟩
theorem ApI.push {w0 A w5 : World} {b0 D : Nat} {pre : List (Nat × Nat)} {x : Nat × Nat} {v v5 : Value} {o : Obj} (p1 : A.heap[b0]? = some (.cells #[v] 31 (0, 0))) (hown : ∀ g, v.ownBlock = some g → D + 2 ≤ g) (hbD : b0 < D) (hw0 : w0.heap.size ≤ b0) (hDA : D + 2 ≤ A.heap.size) (hb : Below w0.heap.size w0 A)
    (g : Grew 29 2 (A.alloc o) v pre.length 1 (prsV pre) [.int .i64 (x.1 : Int), .int .i64 (x.2 : Int)] v5 w5) :
    w5.cell? ⟨b0, 0, none⟩ = some v ∧ w5.frozen? ⟨b0, 0, none⟩ = false ∧ ApI w0 b0 D (pre ++ [x]) (fun i => i = b0 ∨ v5.ownBlock = some i) (w5.setCell ⟨b0, 0, none⟩ v5) ∧
      (∀ i, i < A.heap.size → i ≠ b0 → v.ownBlock ≠ some i → (w5.setCell ⟨b0, 0, none⟩ v5).heap[i]? = A.heap[i]?) ∧ A.heap.size ≤ (w5.setCell ⟨b0, 0, none⟩ v5).heap.size ∧ ∀ q, v5.ownBlock = some q → q < (w5.setCell ⟨b0, 0, none⟩ v5).heap.size ∧ (v.ownBlock = some q ∨ A.heap.size ≤ q) := by
  have hgr := grown_alloc g.grown
  have lt := (Array.getElem?_eq_some_iff.mp p1).1
  have k1 := (hgr.block b0 lt (fun e => by have := hown _ e.symm; omega)).trans p1
  have hsz : (w5.setCell ⟨b0, 0, none⟩ v5).heap.size = w5.heap.size := by simp [World.setCell]
  have hat : ∀ q, v5.ownBlock = some q → v.ownBlock = some q ∨ A.heap.size ≤ q := fun q hq => by
    rcases g.at with ⟨e, _⟩ | ⟨e, _⟩
    · exact .inl (by rw [← e]; exact hq)
    · rw [hq] at e
      have h1 := Option.some.inj e
      simp at h1
      exact .inr (by omega)
  have hown5 : ∀ q, v5.ownBlock = some q → D + 2 ≤ q := fun q hq => by
    rcases hat q hq with h | h
    · exact hown q h
    · omega
  have hb5 : Below w0.heap.size w0 w5 := hb.grown hgr hb.size (fun q e => by have := hown q e; omega)
  refine ⟨cell_of_row _ _ _ _ _ _ k1, frozen_of_row w5 b0 0 _ _ k1, ⟨v5, blk_set k1 0 v5, ?_, fun i => Iff.rfl, hown5, hb5.setCell (p := ⟨b0, 0, none⟩) hw0 _⟩, ?_, by rw [hsz]; exact hgr.size, ?_⟩
  · have hh := g.held
    rw [prsV_append, List.length_append]
    exact hh.keep (fun q hq => Below.heap_setCell _ _ _ q (by have := hown5 q hq; show q ≠ b0; omega))
  · intro i hi hn hne
    exact (Below.heap_setCell _ _ _ i hn).trans (hgr.block i hi (fun e => hne e.symm))
  · intro q hq
    rw [hsz]
    exact ⟨g.held.lt hq, hat q hq⟩
set_option maxRecDepth 100000 in
set_option maxHeartbeats 4000000 in
theorem appseq_any (L : List (Nat × Nat)) (bl bs : Nat) (cap : Nat → Prop) (w : World) (hl : L.length ≤ 1099511627776) (hcap : ∀ i, cap i → i < w.heap.size)
    (hseq : ∀ W, Below w.heap.size w W → SeqU Fence.wide 2 Tryd.prog 83 #[ptr0 bl, ptr0 bs] (fun x : Nat × Nat => #[spV x.1 x.2]) (fun xs => xs = L) (fun pre => pre <+: L) (fun pre x => (pre ++ [x]) <+: L) cap W) :
    Calls Tryd.prog 82 #[.slice none 0 0, .func (.func 83) #[] #[ptr0 bl, ptr0 bs]] w fun r w' => (∃ p c, r = .returned (.slice p L.length c) ∧ L.length ≤ c ∧ Held w' 29 2 (.slice p L.length c) L.length (prsV L) ∧ ∀ g, (Value.slice p L.length c).ownBlock = some g → w.heap.size ≤ g) ∧ Below w.heap.size w w' := by
  refine (callsIn_wide (n := 3)).1 ?_
  obtain ⟨b0, hb0⟩ : ∃ x, x = w.heap.size := ⟨_, rfl⟩
  obtain ⟨w1, hw1⟩ : ∃ x, x = w.alloc (.cells #[.slice none 0 0] 31) := ⟨_, rfl⟩
  have hsz : w1.heap.size = b0 + 1 := by rw [hw1, hb0]; simp
  have hbel : Below w.heap.size w w1 := by rw [hw1]; exact (Below.refl _ _).alloc (Nat.le_refl _) _
  have r0 : w1.heap[b0]? = some (.cells #[.slice none 0 0] 31 (0, 0)) := by rw [hw1, hb0]; exact heap_alloc_new w _
  have HAP : Hid (ApI w b0 w1.heap.size [] (fun i => i = b0) w1) := Lib.hid ⟨_, r0, ⟨rfl, .inl ⟨rfl, rfl⟩⟩, (fun i => by simp [Value.ownBlock]), (fun g hg => by cases hg), hbel⟩
  have HSEQ : Hid (∀ W, Below w1.heap.size w1 W → SeqU Fence.wide 2 Tryd.prog 83 #[ptr0 bl, ptr0 bs] (fun x : Nat × Nat => #[spV x.1 x.2]) (fun xs => xs = L) (fun pre => pre <+: L) (fun pre x => (pre ++ [x]) <+: L) cap W) := Lib.hid (fun W hb => hseq W (below_onS hbel hb hbel.size))
  have HONE : Hid (∀ x y : Int, ∀ u ∈ [Value.int .i64 x, Value.int .i64 y], u.oneCell' = true) := Lib.hid (fun x y u hu => by
    rcases List.mem_cons.1 hu with rfl | hu
    · rfl
    · rw [List.mem_singleton.1 hu]; rfl)
  have HF : Hid (w1.heap.size = b0 + 1 ∧ w.heap.size = b0 ∧ (∀ i, cap i → i < b0) ∧ L.length ≤ 1099511627776) := Lib.hid ⟨hsz, hb0.symm, fun i hi => by have := hcap i hi; omega, hl⟩
  have HW := Lib.hid hw1
  have HB := Lib.hid hb0
  clear hw1 hb0 hbel r0 hsz hseq hcap hl
  refine callsIn_of_wp_marks Tryd.func82 rfl trivial ?_ rfl
  simp only [Tryd.ntmps82, List.size_toArray, List.length_cons, List.length_nil, Nat.reduceAdd, Nat.reduceSub, Array.replicate_succ, Array.replicate_zero, List.push_toArray, List.append_toArray, List.nil_append, List.cons_append]
  have hn1 : 1 ≤ 3 := by decide
  gi_wp2
  rw [← HW.out, ← HB.out]
  refine wpIn_rangeU (α := Nat × Nat) rfl hn1 (gf := 83) (lb := #[ptr0 bl, ptr0 bs]) rfl trivial (enters_of Tryd.func83 (by kernel_rfl) rfl)
    (encs := fun x => #[spV x.1 x.2]) (S := fun xs => xs = L) (Sp := fun pre => pre <+: L) (Ok := fun pre x => (pre ++ [x]) <+: L) (cap := cap) (fun j hj => by have := HF.out.2.2.1 j hj; have := HF.out.1; omega)
    (fun W hb hs => HSEQ.out W hb) (fun _ => rfl)
    (fun pre U W => ApI w b0 w1.heap.size pre U W)
    (fun c pre U W => False)
    (fun i => i = b0)
    (fun s U A C h hc => h.chg (by have := HF.out; omega) hc)
    (fun c s U A C h hc => h)
    HAP.out (fun i hi => ⟨by have := HF.out; omega, fun hc => by have := HF.out.2.2.1 i hc; omega⟩) ?round ?done ?stop
  case round =>
    rintro l pre ⟨xb, xe⟩ U W hap hU hsW hlen
    obtain ⟨v, q1, q2, q3, q4, q5⟩ := hap
    obtain ⟨vp, vc, rfl, _⟩ := q2.cells
    have hlt0 : b0 < W.heap.size := (Array.getElem?_eq_some_iff.mp q1).1
    have hln : pre.length + 1 ≤ 1099511627776 := by
      have h := hlen.length_le
      rw [List.length_append, List.length_singleton] at h
      have := HF.out
      omega
    have hl1 : (pre.length + 1) * 16 ≤ 140737488355328 := by omega
    have hl2 : pre.length + 1 ≤ 140737488355328 := by omega
    have HQ := Lib.hid (And.intro q1 (And.intro q2 (And.intro q3 (And.intro q4 q5))))
    have HU := Lib.hid hU
    have HSW := Lib.hid hsW
    clear q1 q2 q3 q4 q5 hU hsW hlen hln
    gi_wp2
    refine ⟨Kq.of_chg (Chg.alloc (fun _ => False) _ _) (fun _ _ h => h), ?_⟩
    intro w2 hc hs2
    obtain ⟨xb0, hxb0⟩ : ∃ x, x = W.heap.size := ⟨_, rfl⟩
    have hszA : (W.alloc (.cells #[.int .i64 (xb : Int), .int .i64 (xe : Int)] 29)).heap.size = W.heap.size + 1 := by simp
    have hbA : Below W.heap.size W (W.alloc (.cells #[.int .i64 (xb : Int), .int .i64 (xe : Int)] 29)) := (Below.refl _ _).alloc (Nat.le_refl _) _
    have hsame : ∀ i, i < W.heap.size → i ≠ w1.heap.size + 1 → w2.heap[i]? = W.heap[i]? := fun i hi hne => (hc.same i (by omega) hne).trans (hbA.block i hi)
    have g2 : spRow w2 xb0 xb xe := by
      have : spRow (W.alloc (.cells #[.int .i64 (xb : Int), .int .i64 (xe : Int)] 29)) xb0 xb xe := by rw [hxb0]; exact heap_alloc_new W _
      exact this.keep (hc.same _ (by rw [hszA]; omega) (by have := HSW.out; omega))
    have g1 : w2.heap[b0]? = some (.cells #[.slice vp pre.length vc] 31 (0, 0)) := (hsame b0 hlt0 (by have := HF.out; omega)).trans HQ.out.1
    have g3 : Held w2 29 2 (.slice vp pre.length vc) pre.length (prsV pre) := HQ.out.2.1.keep (fun g hg => hsame g (HQ.out.2.1.lt hg) (by have := HQ.out.2.2.2.1 g hg; omega))
    have g5 : Below w.heap.size w w2 := below_chg (HQ.out.2.2.2.2.alloc HQ.out.2.2.2.2.size _) hc (fun i hi => by have := HF.out; omega) (by rw [hszA]; have := HQ.out.2.2.2.2.size; omega)
    rw [← hxb0]
    obtain ⟨x0, x1, _⟩ := g2.at
    have c0 : w2.cell? ⟨b0, 0, none⟩ = some (.slice vp pre.length vc) := cell_of_row _ _ _ _ _ _ g1
    have HG := Lib.hid (And.intro g1 (And.intro g3 (And.intro g5 (And.intro hsame (And.intro hs2 hszA)))))
    have HX : Hid (xb0 = W.heap.size ∧ b0 < W.heap.size) := Lib.hid ⟨hxb0, hlt0⟩
    clear hc hs2 hxb0 hszA hbA hsame g1 g2 g3 g5 hlt0
    have HL : Hid (b0 < w1.heap.size ∧ w.heap.size ≤ b0 ∧ w1.heap.size + 2 ≤ w2.heap.size ∧ w2.heap.size = W.heap.size + 1) := Lib.hid (by have h1 := HF.out; have h2 := HSW.out; have h3 := HG.out.2.2.2.2.1; have h4 := HG.out.2.2.2.2.2; exact ⟨by omega, by omega, by omega, by omega⟩)
    gi_wp2_with (first
      | (gi_at_builtin; refine wpListIn_grew (v := .slice vp pre.length vc) (l := prsV pre) rfl _ _ rfl Tryd.underlying31 (.agg #[.int .i64 0, .int .i64 0]) 2 info_spanP rfl (by decide) [.int .i64 (xb : Int), .int .i64 (xe : Int)] 1 (by simp [Act.eval]) (by simp [Act.eval]) HG.out.2.1 rfl rfl (by decide) (HONE.out _ _) hl1 hl2 ?_; intro v5 w5 hg5; obtain ⟨p5, c5, rfl, _⟩ := hg5.held.cells; obtain ⟨k2, k3, k4, k5, k6, k7⟩ := ApI.push (x := (xb, xe)) (D := w1.heap.size) HG.out.1 HQ.out.2.2.2.1 HL.out.1 HL.out.2.1 HL.out.2.2.1 HG.out.2.2.1 hg5; have HK := Lib.hid (And.intro k4 (And.intro k5 (And.intro k6 k7))); clear hg5 k4 k5 k6 k7))
    have hl := HL.out
    have hx0 := HX.out.1
    refine ⟨_, ⟨by have := HK.out.2.2.1; omega, fun i hi hn => HK.out.2.1 i hi (fun e => hn.2 ((HQ.out.2.2.1 i).2 (.inl e))) (fun e => hn.2 ((HQ.out.2.2.1 i).2 (.inr e)))⟩, ?_, HK.out.1⟩
    intro i hi
    rcases hi with rfl | hi
    · exact ⟨by have := HK.out.2.2.1; omega, .inl ((HQ.out.2.2.1 _).2 (.inl rfl))⟩
    · obtain ⟨q1, q2⟩ := HK.out.2.2.2 i hi
      exact ⟨q1, q2.imp (fun e => (HQ.out.2.2.1 _).2 (.inr e)) (fun e => by omega)⟩
  case done =>
    rintro D xs U W rfl rfl ⟨v, q1, q2, q3, q4, q5⟩ hU hK
    obtain ⟨vp, vc, rfl, hvc, _⟩ := q2.cells
    have c0 : W.cell? ⟨b0, 0, none⟩ = some (.slice vp xs.length vc) := cell_of_row _ _ _ _ _ _ q1
    obtain ⟨m, hm⟩ : ∃ m, m = xs.length := ⟨_, rfl⟩
    rw [← hm] at c0
    have HQ := Lib.hid (And.intro q1 (And.intro q2 (And.intro q3 (And.intro q4 (And.intro q5 (And.intro hvc (And.intro hm hK)))))))
    clear q1 q2 q3 q4 q5 hvc hU hK hm
    gi_wp2
    refine ⟨by simp, .inl ⟨_, _, rfl, run_takeDeferred HQ.out.2.2.2.2.2.2.2, ?_⟩⟩
    have hm := HQ.out.2.2.2.2.2.2.1
    have hch : Chg (fun j => w1.heap.size ≤ j) W (W.putObj w1.heap.size (.deferred none)) := Chg.put _ _ (.deferred none) (Nat.le_refl _)
    refine ⟨.slice vp m vc, ?_, ⟨⟨vp, vc, by rw [hm], HQ.out.2.2.2.2.2.1, HQ.out.2.1.keep (fun g e => World.putObj_heap_other (by have := HQ.out.2.2.2.1 _ e; omega)), fun g hg => by have := HQ.out.2.2.2.1 _ hg; have := HF.out; omega⟩, below_chg HQ.out.2.2.2.2.1 hch (fun j hj => by have := HF.out; omega) HQ.out.2.2.2.2.1.size⟩⟩
    simp [results, Tryd.f82, go_sem]
  case stop =>
    rintro D c pre U W rfl hpre h
    exact h.elim
set_option maxRecDepth 100000 in
set_option maxHeartbeats 1000000 in
theorem collect_any (L : List (Nat × Nat)) (bl bs : Nat) (cap : Nat → Prop) (w : World) (hl : L.length ≤ 1099511627776) (hcap : ∀ i, cap i → i < w.heap.size)
    (hseq : ∀ W, Below w.heap.size w W → SeqU Fence.wide 2 Tryd.prog 83 #[ptr0 bl, ptr0 bs] (fun x : Nat × Nat => #[spV x.1 x.2]) (fun xs => xs = L) (fun pre => pre <+: L) (fun pre x => (pre ++ [x]) <+: L) cap W) :
    Calls Tryd.prog 57 #[.func (.func 83) #[] #[ptr0 bl, ptr0 bs]] w fun r w' => (∃ p c, r = .returned (.slice p L.length c) ∧ L.length ≤ c ∧ Held w' 29 2 (.slice p L.length c) L.length (prsV L) ∧ ∀ g, (Value.slice p L.length c).ownBlock = some g → w.heap.size ≤ g) ∧ Below w.heap.size w w' := by
  have HC := Lib.hid (appseq_any L bl bs cap w hl hcap hseq)
  clear hl hcap hseq
  go_enter Tryd.func57, Tryd.ntmps57
  go_wp2_with (go_at_call 82; refine HC.out.mono ?_; rintro r w1 ⟨⟨p, c, rfl, h1⟩, h2⟩; have HR := Lib.hid (And.intro h1 h2); clear h1 h2)
  go_ret
  exact ⟨⟨p, c, rfl, HR.out.1⟩, HR.out.2⟩
end Go.Proofs.YteknpnanmbfhfaaDoor
/- Shape, walked: Run. -/
namespace Go.Scr
theorem lookR_one (lo hi b : Nat) : lookR lo hi b (b + 1) = 0 ∨ lookR lo hi b (b + 1) = 2 := by
  unfold lookR
  split
  · exact .inl rfl
  · rw [if_pos (by omega)]; exact .inr rfl
theorem restT_length (look : Nat → Nat → Nat) (n : Nat) : ∀ b, 1 ≤ n → (restT look b n).length ≤ n := by
  induction n using Nat.strongRecOn with
  | ind n ih =>
    intro b hn
    by_cases h0 : look b (b + n) = 0
    · rw [restT_none h0]; simpa using hn
    · by_cases h2 : look b (b + n) = 2
      · rw [restT_all h2]; simp
      · by_cases h : n ≤ 1
        · rw [restT, if_neg h0, if_neg h2, dif_pos h]; simp
        · have hs := spl_lt (show 2 ≤ n by omega)
          rw [restT_some h0 h2 (by omega), List.length_append]
          have := ih _ hs.2.1 b hs.1
          have := ih (n - spl n) (by omega) (b + spl n) (by omega)
          omega
end Go.Scr
namespace Go.Proofs.YteknpnanmbfhfaaDoor
open Go.RowKit Go.Scr Go.Shelf
set_option linter.unusedVariables false
set_option maxRecDepth 100000 in
set_option maxHeartbeats 1000000 in
theorem run1_any (lo hi bc : Nat) (W : World) (b e : Nat) (hr : spRow W bc lo hi) :
    Calls Tryd.prog 59 #[spV b e, ptr0 bc] W fun r w' => r = .returned (.int .i64 ((lookR lo hi b e : Nat) : Int)) ∧ Below W.heap.size W w' := by
  obtain ⟨b0, hb0⟩ : ∃ x, x = W.heap.size := ⟨_, rfl⟩
  obtain ⟨w1, hw1⟩ : ∃ x, x = W.alloc (.cells #[.int .i64 (b : Int), .int .i64 (e : Int)] 29) := ⟨_, rfl⟩
  have hbel : Below W.heap.size W w1 := by rw [hw1]; exact (Below.refl _ _).alloc (Nat.le_refl _) _
  have r0 : spRow w1 b0 b e := by rw [hw1, hb0]; exact heap_alloc_new W _
  have r1 : spRow w1 bc lo hi := hr.keep (hbel.block _ hr.lt)
  obtain ⟨d0, d1, _⟩ := r0.at
  obtain ⟨c0, c1, _⟩ := r1.at
  have HW := Lib.hid hw1
  have HB := Lib.hid hb0
  have HBEL := Lib.hid hbel
  clear hw1 hb0 hbel r0 r1 hr
  by_cases h1 : e ≤ lo
  · have a1 : (e : Int) ≤ (lo : Int) := by omega
    have hv : lookR lo hi b e = 0 := by unfold lookR; rw [if_pos (by omega)]
    rw [hv]
    clear hv h1
    go_enter Tryd.func59, Tryd.ntmps59
    go_upto_region 1 with fail
    rw [← HW.out, ← HB.out]
    go_wp2
    go_ret
    exact ⟨rfl, HBEL.out⟩
  · by_cases h2 : hi ≤ b
    · have a1 : ¬ (e : Int) ≤ (lo : Int) := by omega
      have a2 : (hi : Int) ≤ (b : Int) := by omega
      have hv : lookR lo hi b e = 0 := by unfold lookR; rw [if_pos (by omega)]
      rw [hv]
      clear hv h1 h2
      go_enter Tryd.func59, Tryd.ntmps59
      go_upto_region 1 with fail
      rw [← HW.out, ← HB.out]
      go_wp2
      go_ret
      exact ⟨rfl, HBEL.out⟩
    · by_cases h3 : lo ≤ b
      · by_cases h4 : e ≤ hi
        · have a1 : ¬ (e : Int) ≤ (lo : Int) := by omega
          have a2 : ¬ (hi : Int) ≤ (b : Int) := by omega
          have a3 : (lo : Int) ≤ (b : Int) := by omega
          have a4 : (e : Int) ≤ (hi : Int) := by omega
          have hv : lookR lo hi b e = 2 := by unfold lookR; rw [if_neg (by omega), if_pos (by omega)]
          rw [hv]
          clear hv h1 h2 h3 h4
          go_enter Tryd.func59, Tryd.ntmps59
          go_upto_region 1 with fail
          rw [← HW.out, ← HB.out]
          go_wp2
          go_ret
          exact ⟨rfl, HBEL.out⟩
        · have a1 : ¬ (e : Int) ≤ (lo : Int) := by omega
          have a2 : ¬ (hi : Int) ≤ (b : Int) := by omega
          have a3 : (lo : Int) ≤ (b : Int) := by omega
          have a4 : ¬ (e : Int) ≤ (hi : Int) := by omega
          have hv : lookR lo hi b e = 1 := by unfold lookR; rw [if_neg (by omega), if_neg (by omega)]
          rw [hv]
          clear hv h1 h2 h3 h4
          go_enter Tryd.func59, Tryd.ntmps59
          go_upto_region 1 with fail
          rw [← HW.out, ← HB.out]
          go_wp2
          go_ret
          exact ⟨rfl, HBEL.out⟩
      · have a1 : ¬ (e : Int) ≤ (lo : Int) := by omega
        have a2 : ¬ (hi : Int) ≤ (b : Int) := by omega
        have a3 : ¬ (lo : Int) ≤ (b : Int) := by omega
        have hv : lookR lo hi b e = 1 := by unfold lookR; rw [if_neg (by omega), if_neg (by omega)]
        rw [hv]
        clear hv h1 h2 h3
        go_enter Tryd.func59, Tryd.ntmps59
        go_upto_region 1 with fail
        rw [← HW.out, ← HB.out]
        go_wp2
        go_ret
        exact ⟨rfl, HBEL.out⟩
theorem run_look (lo hi bc N : Nat) : LookF 59 bc (lookR lo hi) N (fun W => spRow W bc lo hi) (fun i => i = bc) where
  enter := enters_of Tryd.func59 (by kernel_rfl) rfl
  call := fun W b e h _ _ => run1_any lo hi bc W b e h
  keep := fun a c h hk => h.keep (hk.same _ h.lt rfl)
  lt := fun W h i hi => by rw [hi]; exact h.lt
  one := lookR_one lo hi
set_option maxRecDepth 100000 in
set_option maxHeartbeats 400000 in
theorem rest_any (b e : Int) (F bc : Nat) (w : World) :
    Calls Tryd.prog 58 #[.agg #[.int .i64 b, .int .i64 e], .func (.func F) #[] #[ptr0 bc]] w fun r w' => r = .returned (.func (.func 83) #[] #[ptr0 (w.heap.size + 1), ptr0 w.heap.size]) ∧ w' = (w.alloc (.cells #[.int .i64 b, .int .i64 e] 29)).alloc (.cells #[.func (.func F) #[] #[ptr0 bc]] 80) := by
  go_enter Tryd.func58, Tryd.ntmps58
  go_wp2
  go_ret
  exact ⟨rfl, rfl⟩
/-- what rest's list is, collected: of a look, of the spans below n -/
theorem collect_rest {F bc : Nat} {look : Nat → Nat → Nat} {N : Nat} {LOK : World → Prop} {capl : Nat → Prop} (LK : LookF F bc look N LOK capl) (hN : N ≤ 1099511627776) (n : Nat) (h1 : 1 ≤ n) (h2 : n ≤ N) (w : World) (h : LOK w) :
    Calls Tryd.prog 57 #[.func (.func 83) #[] #[ptr0 (w.heap.size + 1), ptr0 w.heap.size]] ((w.alloc (.cells #[.int .i64 0, .int .i64 (n : Int)] 29)).alloc (.cells #[.func (.func F) #[] #[ptr0 bc]] 80)) fun r w' =>
      (∃ p c, r = .returned (.slice p (restT look 0 n).length c) ∧ (restT look 0 n).length ≤ c ∧ Held w' 29 2 (.slice p (restT look 0 n).length c) (restT look 0 n).length (prsV (restT look 0 n)) ∧ ∀ g, (Value.slice p (restT look 0 n).length c).ownBlock = some g → w.heap.size ≤ g) ∧ Below w.heap.size w w' := by
  obtain ⟨W, hW⟩ : ∃ x, x = (w.alloc (.cells #[.int .i64 0, .int .i64 (n : Int)] 29)).alloc (.cells #[.func (.func F) #[] #[ptr0 bc]] 80) := ⟨_, rfl⟩
  have hb : Below w.heap.size w W := by rw [hW]; exact ((Below.refl _ _).alloc (Nat.le_refl _) _).alloc (by simp) _
  have hs : spRow W w.heap.size 0 n := by rw [hW]; exact blk_alloc (heap_alloc_new w _)
  have hl : W.heap[w.heap.size + 1]? = some (.cells #[.func (.func F) #[] #[ptr0 bc]] 80 (0, 0)) := by rw [hW]; exact heap_alloc_at _ _ _ (by simp)
  have hk : LOK W := LK.keep _ _ h (kq_below hb)
  rw [← hW]
  refine (collect_any (restT look 0 n) (w.heap.size + 1) w.heap.size (fun i => i = w.heap.size + 1 ∨ i = w.heap.size ∨ capl i) W (by have := restT_length look n 0 h1; omega) ?_ ?_).mono ?_
  · intro i hi
    rcases hi with rfl | rfl | hi
    · exact (Array.getElem?_eq_some_iff.mp hl).1
    · exact hs.lt
    · exact LK.lt _ hk i hi
  · intro W2 hb2
    have := rest_seq LK hN 2 (by decide) (w.heap.size + 1) w.heap.size 0 n W2 ((hb2.block _ (Array.getElem?_eq_some_iff.mp hl).1).trans hl) (by rw [Nat.zero_add]; exact hs.keep (hb2.block _ hs.lt)) h1 (by omega) (LK.keep _ _ hk (kq_below hb2))
    exact this
  · rintro r w' ⟨⟨p, c, rfl, g1, g2, g3⟩, g4⟩
    exact ⟨⟨p, c, rfl, g1, g2, fun g hg => Nat.le_trans hb.size (g3 g hg)⟩, below_onS hb g4 hb.size⟩
end Go.Proofs.YteknpnanmbfhfaaDoor
/- Shape, walked: Run, whole. -/
namespace Go.Proofs.YteknpnanmbfhfaaDoor
open Go.RowKit Go.Scr Go.Shelf
set_option linter.unusedVariables false
set_option maxRecDepth 100000 in
set_option maxHeartbeats 1000000 in
theorem run_noS (n b e : Int) (w : World) (h : n < 1 ∨ 1099511627776 < n) :
    Calls Tryd.prog 26 #[.int .i64 n, .agg #[.int .i64 b, .int .i64 e]] w fun r w' => r = .returned (.tuple #[.slice none 0 0, .int .i64 81]) ∧ Below w.heap.size w w' := by
  have CS := Lib.hid (fun w' => size_no n w' h)
  clear h
  go_enter Tryd.func26, Tryd.ntmps26
  go_wp2_with (go_at_call 46; with_reducible refine (CS.out _).mono ?_; rintro r wx ⟨rfl, hwx⟩; rw [hwx]; clear hwx wx)
  go_ret2
  exact ⟨rfl, (Below.refl _ _).alloc (Nat.le_refl _) _⟩
set_option maxRecDepth 100000 in
set_option maxHeartbeats 1000000 in
theorem run_noB (n b e : Int) (w : World) (h1 : 1 ≤ n) (h2 : n ≤ 1099511627776) (h : b < 0) :
    Calls Tryd.prog 26 #[.int .i64 n, .agg #[.int .i64 b, .int .i64 e]] w fun r w' => r = .returned (.tuple #[.slice none 0 0, .int .i64 80]) ∧ Below w.heap.size w w' := by
  have CS := Lib.hid (fun w' => size_yes n w' h1 h2)
  obtain ⟨b0, hb0⟩ : ∃ x, x = w.heap.size := ⟨_, rfl⟩
  obtain ⟨w1, hw1⟩ : ∃ x, x = w.alloc (.cells #[.int .i64 b, .int .i64 e] 29) := ⟨_, rfl⟩
  have hbel : Below w.heap.size w w1 := by rw [hw1]; exact (Below.refl _ _).alloc (Nat.le_refl _) _
  have r0 : w1.heap[b0]? = some (.cells #[.int .i64 b, .int .i64 e] 29 (0, 0)) := by rw [hw1, hb0]; exact heap_alloc_new w _
  have d0 : w1.cell? ⟨b0, 0, none⟩ = some (.int .i64 b) := cell_of_row _ _ _ _ _ _ r0
  have d1 : w1.cell? ⟨b0, 1, none⟩ = some (.int .i64 e) := cell_of_row _ _ _ _ _ _ r0
  have HW := Lib.hid hw1
  have HB := Lib.hid hb0
  have HBEL := Lib.hid hbel
  clear h1 h2 hw1 hb0 hbel r0
  go_enter Tryd.func26, Tryd.ntmps26
  go_upto_region 1 with fail
  rw [← HW.out, ← HB.out]
  go_wp2_with (go_at_call 46; with_reducible refine (CS.out _).mono ?_; rintro r wx ⟨rfl, hwx⟩; rw [hwx]; clear hwx wx)
  go_ret2
  exact ⟨rfl, HBEL.out⟩
set_option maxRecDepth 100000 in
set_option maxHeartbeats 1000000 in
theorem run_noE (n b e : Int) (w : World) (h1 : 1 ≤ n) (h2 : n ≤ 1099511627776) (hb : 0 ≤ b) (h : e ≤ b) :
    Calls Tryd.prog 26 #[.int .i64 n, .agg #[.int .i64 b, .int .i64 e]] w fun r w' => r = .returned (.tuple #[.slice none 0 0, .int .i64 80]) ∧ Below w.heap.size w w' := by
  have CS := Lib.hid (fun w' => size_yes n w' h1 h2)
  obtain ⟨b0, hb0⟩ : ∃ x, x = w.heap.size := ⟨_, rfl⟩
  obtain ⟨w1, hw1⟩ : ∃ x, x = w.alloc (.cells #[.int .i64 b, .int .i64 e] 29) := ⟨_, rfl⟩
  have hbel : Below w.heap.size w w1 := by rw [hw1]; exact (Below.refl _ _).alloc (Nat.le_refl _) _
  have r0 : w1.heap[b0]? = some (.cells #[.int .i64 b, .int .i64 e] 29 (0, 0)) := by rw [hw1, hb0]; exact heap_alloc_new w _
  have d0 : w1.cell? ⟨b0, 0, none⟩ = some (.int .i64 b) := cell_of_row _ _ _ _ _ _ r0
  have d1 : w1.cell? ⟨b0, 1, none⟩ = some (.int .i64 e) := cell_of_row _ _ _ _ _ _ r0
  have HW := Lib.hid hw1
  have HB := Lib.hid hb0
  have HBEL := Lib.hid hbel
  have hb2 : ¬ b < 0 := by omega
  clear h1 h2 hw1 hb0 hbel r0
  go_enter Tryd.func26, Tryd.ntmps26
  go_upto_region 1 with fail
  rw [← HW.out, ← HB.out]
  go_wp2_with (go_at_call 46; with_reducible refine (CS.out _).mono ?_; rintro r wx ⟨rfl, hwx⟩; rw [hwx]; clear hwx wx)
  go_ret2
  exact ⟨rfl, HBEL.out⟩
set_option maxRecDepth 100000 in
set_option maxHeartbeats 1000000 in
theorem run_noN (n b e : Int) (w : World) (h1 : 1 ≤ n) (h2 : n ≤ 1099511627776) (hb : 0 ≤ b) (he : b < e) (h : n < e) :
    Calls Tryd.prog 26 #[.int .i64 n, .agg #[.int .i64 b, .int .i64 e]] w fun r w' => r = .returned (.tuple #[.slice none 0 0, .int .i64 80]) ∧ Below w.heap.size w w' := by
  have CS := Lib.hid (fun w' => size_yes n w' h1 h2)
  obtain ⟨b0, hb0⟩ : ∃ x, x = w.heap.size := ⟨_, rfl⟩
  obtain ⟨w1, hw1⟩ : ∃ x, x = w.alloc (.cells #[.int .i64 b, .int .i64 e] 29) := ⟨_, rfl⟩
  have hbel : Below w.heap.size w w1 := by rw [hw1]; exact (Below.refl _ _).alloc (Nat.le_refl _) _
  have r0 : w1.heap[b0]? = some (.cells #[.int .i64 b, .int .i64 e] 29 (0, 0)) := by rw [hw1, hb0]; exact heap_alloc_new w _
  have d0 : w1.cell? ⟨b0, 0, none⟩ = some (.int .i64 b) := cell_of_row _ _ _ _ _ _ r0
  have d1 : w1.cell? ⟨b0, 1, none⟩ = some (.int .i64 e) := cell_of_row _ _ _ _ _ _ r0
  have HW := Lib.hid hw1
  have HB := Lib.hid hb0
  have HBEL := Lib.hid hbel
  have hb2 : ¬ b < 0 := by omega
  have he2 : ¬ e ≤ b := by omega
  clear h1 h2 hw1 hb0 hbel r0
  go_enter Tryd.func26, Tryd.ntmps26
  go_upto_region 1 with fail
  rw [← HW.out, ← HB.out]
  go_wp2_with (go_at_call 46; with_reducible refine (CS.out _).mono ?_; rintro r wx ⟨rfl, hwx⟩; rw [hwx]; clear hwx wx)
  go_ret2
  exact ⟨rfl, HBEL.out⟩
set_option maxRecDepth 100000 in
set_option maxHeartbeats 4000000 in
theorem run_yes (n lo hi : Nat) (w : World) (h1 : lo < hi) (h2 : hi ≤ n) (h3 : n ≤ 1099511627776) :
    Calls Tryd.prog 26 #[.int .i64 (n : Int), spV lo hi] w fun r w' => (∃ p c, r = .returned (.tuple #[.slice p (restT (lookR lo hi) 0 n).length c, .int .i64 0]) ∧ Held w' 29 2 (.slice p (restT (lookR lo hi) 0 n).length c) (restT (lookR lo hi) 0 n).length (prsV (restT (lookR lo hi) 0 n)) ∧ ∀ g, (Value.slice p (restT (lookR lo hi) 0 n).length c).ownBlock = some g → w.heap.size ≤ g) ∧ Below w.heap.size w w' := by
  have CS := Lib.hid (fun w' => size_yes (n : Int) w' (by omega) (by omega))
  obtain ⟨b0, hb0⟩ : ∃ x, x = w.heap.size := ⟨_, rfl⟩
  obtain ⟨w1, hw1⟩ : ∃ x, x = w.alloc (.cells #[.int .i64 (lo : Int), .int .i64 (hi : Int)] 29) := ⟨_, rfl⟩
  have hbel : Below w.heap.size w w1 := by rw [hw1]; exact (Below.refl _ _).alloc (Nat.le_refl _) _
  have r0 : spRow w1 b0 lo hi := by rw [hw1, hb0]; exact heap_alloc_new w _
  obtain ⟨d0, d1, _⟩ := r0.at
  have a1 : ¬ (lo : Int) < 0 := by omega
  have a2 : ¬ (hi : Int) ≤ (lo : Int) := by omega
  have a3 : ¬ (n : Int) < (hi : Int) := by omega
  have CR := Lib.hid (rest_any 0 (n : Int) 59 b0 w1)
  have CC := Lib.hid (collect_rest (run_look lo hi b0 n) h3 n (by omega) (Nat.le_refl _) w1 r0)
  obtain ⟨L, hL⟩ : ∃ L, L = restT (lookR lo hi) 0 n := ⟨_, rfl⟩
  rw [← hL] at CC
  have HW := Lib.hid hw1
  have HB := Lib.hid hb0
  have HBEL := Lib.hid hbel
  have HL := Lib.hid hL
  clear hw1 hb0 hbel r0 hL h1 h2 h3
  rw [← HL.out]
  go_enter Tryd.func26, Tryd.ntmps26
  go_upto_region 1 with fail
  rw [← HW.out, ← HB.out]
  go_wp2_with (first
    | (go_at_call 46; with_reducible refine (CS.out _).mono ?_; rintro r wx ⟨rfl, hwx⟩; rw [hwx]; clear hwx wx)
    | (go_at_call 58; with_reducible refine CR.out.mono ?_; rintro r wx ⟨rfl, hwx⟩; rw [hwx]; clear hwx wx)
    | (go_at_call 57; refine CC.out.mono ?_; rintro r w6 ⟨⟨p, c, rfl, hc, hh, ho⟩, hb⟩; have HR := Lib.hid (And.intro hh (And.intro ho hb)); have HCL := Lib.hid (fun w' => clipS_any p L.length c w' hc); clear hc hh ho hb)
    | (go_at_call 53; with_reducible refine (HCL.out _).mono ?_; rintro r wx ⟨rfl, hwx⟩; rw [hwx]; clear hwx wx))
  go_ret2
  have hbb := below_onS HBEL.out HR.out.2.2 HBEL.out.size
  refine ⟨⟨p, L.length, rfl, HR.out.1.clip, ?_⟩, hbb⟩
  intro g hg
  cases p with
  | none => cases hg
  | some a => exact Nat.le_trans HBEL.out.size (HR.out.2.1 g hg)
end Go.Proofs.YteknpnanmbfhfaaDoor
