/- Shape, walked: Cover. -/
import Derived.Test.YteknpnanmbfhfaaDoorMa17
import Derived.BigQuiet
import Derived.Test.YteknpnanmbfhfaaDoorMa14
import Derived.Sort.CutIn
namespace Go.Scr
theorem i64_wrap_small (x : Nat) (h : x ≤ 9223372036854775807) : IntKind.i64.wrap (x : Int) = (x : Int) := IntWalk.i64_in _ (by omega)
theorem i64_and1 (q : Nat) : bits .and .i64 (q : Int) 1 = ((q % 2 : Nat) : Int) := by
  have h1 : (BitVec.ofInt 64 1).toNat = 2 ^ 1 - 1 := by decide
  have key : (BitVec.ofInt 64 (q : Int) &&& BitVec.ofInt 64 1).toNat = ((q : Int) % ((2 ^ 64 : Nat) : Int)).toNat % 2 ^ 1 := by
    rw [BitVec.toNat_and, BitVec.toNat_ofInt, h1, Nat.and_two_pow_sub_one_eq_mod]
  show IntKind.i64.wrap ((BitVec.ofInt 64 (q : Int) &&& BitVec.ofInt 64 1).toNat : Nat) = _
  rw [key, i64_wrap_small _ (by omega)]
  omega
theorem i64_shr (x l : Nat) (h : l ≤ 64) : Op.shift .shr .i64 (x : Int) .i64 (l : Int) = pure (.int .i64 ((x / 2 ^ l : Nat) : Int)) := by
  rw [shift_shr .i64 .i64 _ _ (by omega) (by show (l : Int) ≤ 64; omega)]
  simp
theorem i64_shl (x l : Nat) (h : l ≤ 64) (hx : x * 2 ^ l ≤ 9223372036854775807) : Op.shift .shl .i64 (x : Int) .i64 (l : Int) = pure (.int .i64 ((x * 2 ^ l : Nat) : Int)) := by
  rw [shift_shl .i64 .i64 _ _ (by omega) (by show (l : Int) ≤ 64; omega), Int.toNat_natCast]
  have : (x : Int) * 2 ^ l = ((x * 2 ^ l : Nat) : Int) := by simp
  rw [this, i64_wrap_small _ hx]
theorem pow_le_of {l k N : Nat} (h : 2 ^ l ≤ N) (hN : N < 2 ^ (k + 1)) : l ≤ k := by
  apply Nat.le_of_not_lt
  intro hl
  have := Nat.pow_le_pow_right (show 0 < 2 by decide) (show k + 1 ≤ l from hl)
  omega
end Go.Scr
namespace Go.Proofs.YteknpnanmbfhfaaDoor
open Go.RowKit Go.Scr Go.Shelf
set_option linter.unusedVariables false
theorem clipN_any (p : Option Addr) (n c : Nat) (w : World) (h : n ≤ c) :
    Calls Tryd.prog 45 #[.slice p n c] w fun e w' => e = .returned (.slice p n n) ∧ w' = w := by
  obtain ⟨nv, hnv⟩ : ∃ x, x = n := ⟨_, rfl⟩
  go_enter Tryd.func45, Tryd.ntmps45
  go_wp2
  go_ret
  exact ⟨rfl, rfl⟩
theorem info_nodeP : (Tryd.prog.info? 72).map (fun i => (i.zero, i.size, i.bytes)) = some (some (.agg #[.int .i64 0, .int .i64 0]), 2, 16) := by kernel_rfl
set_option maxRecDepth 100000 in
set_option maxHeartbeats 1000000 in
theorem cover_noB (b e : Int) (w : World) (h : b < 0 ∨ e < b ∨ 1099511627776 < e) :
    Calls Tryd.prog 12 #[.agg #[.int .i64 b, .int .i64 e]] w fun r w' => r = .returned (.tuple #[.slice none 0 0, .int .i64 80]) ∧ Below w.heap.size w w' := by
  obtain ⟨b0, hb0⟩ : ∃ x, x = w.heap.size := ⟨_, rfl⟩
  obtain ⟨w1, hw1⟩ : ∃ x, x = w.alloc (.cells #[.int .i64 b, .int .i64 e] 29) := ⟨_, rfl⟩
  have hbel : Below w.heap.size w w1 := by rw [hw1]; exact (Below.refl _ _).alloc (Nat.le_refl _) _
  have r0 : w1.heap[b0]? = some (.cells #[.int .i64 b, .int .i64 e] 29 (0, 0)) := by rw [hw1, hb0]; exact heap_alloc_new w _
  have d0 : w1.cell? ⟨b0, 0, none⟩ = some (.int .i64 b) := cell_of_row _ _ _ _ _ _ r0
  have d1 : w1.cell? ⟨b0, 1, none⟩ = some (.int .i64 e) := cell_of_row _ _ _ _ _ _ r0
  have HW := Lib.hid hw1
  have HB := Lib.hid hb0
  have HBEL := Lib.hid hbel
  clear hw1 hb0 hbel r0
  by_cases h1 : b < 0
  · clear h
    go_enter Tryd.func12, Tryd.ntmps12
    go_upto_region 1 with fail
    rw [← HW.out, ← HB.out]
    go_wp2
    go_ret2
    exact ⟨rfl, HBEL.out⟩
  · by_cases h2 : e < b
    · clear h
      go_enter Tryd.func12, Tryd.ntmps12
      go_upto_region 1 with fail
      rw [← HW.out, ← HB.out]
      go_wp2
      go_ret2
      exact ⟨rfl, HBEL.out⟩
    · have h3 : 1099511627776 < e := by omega
      clear h
      go_enter Tryd.func12, Tryd.ntmps12
      go_upto_region 1 with fail
      rw [← HW.out, ← HB.out]
      go_wp2
      go_ret2
      exact ⟨rfl, HBEL.out⟩
/-- what stands at the head of Cover's loops -/
structure CvI (w wr : World) (bx b e b' : Nat) (L : List (Nat × Nat)) (v : Value) : Prop where
  q1 : b ≤ b' ∧ b' ≤ e ∧ L.length + b ≤ b'
  q2 : coverT b e = L ++ coverT b' e
  q3 : spRow wr bx b e
  q4 : Held wr 72 2 v L.length (prsV L)
  q5 : Below w.heap.size w wr
  q6 : w.heap.size ≤ bx ∧ ∀ g, v.ownBlock = some g → g ≠ bx ∧ w.heap.size ≤ g
theorem CvI.drewN {w wr : World} {bx b e b' : Nat} {L : List (Nat × Nat)} {v : Value} (h : CvI w wr bx b e b' L v) (k : Nat) : CvI w (wr.drewN k) bx b e b' L v :=
  ⟨h.q1, h.q2, h.q3, h.q4.keep (fun _ _ => rfl), ⟨h.q5.os, h.q5.tape, h.q5.output, h.q5.size, h.q5.block⟩, h.q6⟩
theorem CvI.push {w wr w5 : World} {bx b e b' l p1 : Nat} {L : List (Nat × Nat)} {v v5 : Value} {o : Obj} (h : CvI w wr bx b e b' L v) (hbe : b' < e) (hl : l = lvlF 0 b' e) (hp : p1 = 2 ^ l) (hf : b' + p1 ≤ e)
    (g : Grew 72 2 (wr.alloc o) v L.length 1 (prsV L) [.int .i64 (l : Int), .int .i64 ((b' : Int) / (p1 : Int))] v5 w5) : CvI w w5 bx b e (b' + p1) (L ++ [(l, b' / p1)]) v5 := by
  have hgr := grown_alloc g.grown
  have hpos : 0 < p1 := by rw [hp]; exact Nat.pos_of_ne_zero (by simp)
  have hown : ∀ q, v5.ownBlock = some q → q ≠ bx ∧ w.heap.size ≤ q := fun q hq => by
    rcases g.at with ⟨e, _⟩ | ⟨e, _⟩
    · exact h.q6.2 q (by rw [← e]; exact hq)
    · rw [hq] at e
      have h1 := Option.some.inj e
      have h3 := h.q5.size
      have h4 := h.q3.lt
      simp at h1
      omega
  have hdiv : (b' : Int) / (p1 : Int) = ((b' / p1 : Nat) : Int) := by simp
  refine ⟨⟨by have := h.q1; omega, hf, by have := h.q1; rw [List.length_append, List.length_singleton]; omega⟩, ?_, h.q3.keep (hgr.block bx h.q3.lt (fun e => (h.q6.2 _ e.symm).1 rfl)), ?_, h.q5.grown hgr h.q5.size (fun q e => (h.q6.2 q e).2), h.q6.1, hown⟩
  · rw [h.q2, coverT_more hbe, List.append_assoc, List.singleton_append, ← hl, ← hp]
  · have hh := g.held
    rw [hdiv] at hh
    rw [prsV_append, List.length_append]
    exact hh
set_option maxRecDepth 100000 in
set_option maxHeartbeats 4000000 in
theorem cover_yes (b e : Nat) (w : World) (h1 : b ≤ e) (h2 : e ≤ 1099511627776) :
    Calls Tryd.prog 12 #[spV b e] w fun r w' => (∃ p c, r = .returned (.tuple #[.slice p (coverT b e).length c, .int .i64 0]) ∧ Held w' 72 2 (.slice p (coverT b e).length c) (coverT b e).length (prsV (coverT b e)) ∧ ∀ g, (Value.slice p (coverT b e).length c).ownBlock = some g → w.heap.size ≤ g) ∧ Below w.heap.size w w' := by
  have e1 : ¬ (b : Int) < 0 := by omega
  have e2 : ¬ (e : Int) < (b : Int) := by omega
  have e3 : ¬ (1099511627776 : Int) < (e : Int) := by omega
  obtain ⟨bx, hbx⟩ : ∃ x, x = w.heap.size := ⟨_, rfl⟩
  obtain ⟨w1, hw1⟩ : ∃ x, x = w.alloc (.cells #[.int .i64 (b : Int), .int .i64 (e : Int)] 29) := ⟨_, rfl⟩
  have hbel : Below w.heap.size w w1 := by rw [hw1]; exact (Below.refl _ _).alloc (Nat.le_refl _) _
  have r0 : spRow w1 bx b e := by rw [hw1, hbx]; exact heap_alloc_new w _
  obtain ⟨d0, d1, _⟩ := r0.at
  have HS0 : Hid (CvI w w1 bx b e b [] (.slice none 0 0)) := Lib.hid ⟨⟨Nat.le_refl _, h1, by simp⟩, rfl, r0, ⟨rfl, .inl ⟨rfl, rfl⟩⟩, hbel, Nat.le_of_eq hbx.symm, fun g hg => by cases hg⟩
  have HE : Hid (e ≤ 1099511627776) := Lib.hid h2
  have HW := Lib.hid hw1
  have HB := Lib.hid hbx
  have HONE : Hid (∀ x y : Int, ∀ u ∈ [Value.int .i64 x, Value.int .i64 y], u.oneCell' = true) := Lib.hid (fun x y u hu => by
    rcases List.mem_cons.1 hu with rfl | hu
    · rfl
    · rw [List.mem_singleton.1 hu]; rfl)
  clear hw1 hbx hbel r0 h1 h2
  go_enter Tryd.func12, Tryd.ntmps12
  go_upto_region 1 with fail
  rw [← HW.out, ← HB.out]
  go_wp2
  clear d0 d1
  go_loopw [4, 5] (fun v a wr => ∃ b' L, a = .int .i64 ((b' : Nat) : Int) ∧ Hid (CvI w wr bx b e b' L v)) (fun _ a _ => e - (intOf a).toNat)
  case atStart => exact ⟨b, [], rfl, HS0⟩
  case round =>
    obtain ⟨b', L, rfl, HI⟩ := hrel
    obtain ⟨vp, vc, rfl, hvc, _⟩ := HI.out.q4.cells
    obtain ⟨d0, d1, _⟩ := HI.out.q3.at
    obtain ⟨g1, g2, g3⟩ := HI.out.q1
    by_cases hbe : b' < e
    · have hi : (b' : Int) < (e : Int) := by omega
      have HBE : Hid (b ≤ b' ∧ b' < e ∧ L.length + b ≤ b') := Lib.hid ⟨g1, hbe, g3⟩
      clear g1 g2 g3 hbe hvc
      go_wp2_with fail
      clear d0 d1
      go_loopw [6] (fun lv wr2 => ∃ l : Nat, lv = .int .i64 (l : Int) ∧ Hid (b' + 2 ^ l ≤ e ∧ 2 ^ l ∣ b' ∧ lvlF 0 b' e = lvlF l b' e) ∧ Hid (CvI w wr2 bx b e b' L (.slice vp L.length vc))) (fun lv _ => 64 - (intOf lv).toNat)
      case atStart => exact ⟨0, rfl, Lib.hid ⟨by have := HBE.out; omega, by simp, rfl⟩, HI⟩
      case round =>
        clear HI
        obtain ⟨l, rfl, HL, HI⟩ := hrel
        obtain ⟨d0, d1, _⟩ := HI.out.q3.at
        have hl40 : l ≤ 40 := pow_le_of (k := 40) (N := 1099511627776) (by have := HL.out.1; have := HE.out; omega) (by decide)
        obtain ⟨p1, hp1⟩ : ∃ x, x = 2 ^ l := ⟨_, rfl⟩
        have hp40 : p1 ≤ 1099511627776 := by have := HL.out.1; have := HE.out; omega
        have hp : (2 : Int) ^ l = (p1 : Int) := by rw [hp1]; simp
        have hdiv : (b' : Int) / (p1 : Int) = ((b' / p1 : Nat) : Int) := by simp
        have hba : bits .and .i64 ((b' : Int) / (p1 : Int)) 1 = ((b' / p1 % 2 : Nat) : Int) := by rw [hdiv]; exact i64_and1 _
        have hb40 : b' ≤ 1099511627776 := by have := HBE.out; have := HE.out; omega
        have HP := Lib.hid hp1
        clear hp1 hdiv
        have hr2 : b' / p1 % 2 = 0 ∨ b' / p1 % 2 = 1 := by omega
        rcases hr2 with hr0 | hr0
        · rw [hr0] at hba
          have hba : bits .and .i64 ((b' : Int) / (p1 : Int)) 1 = 0 := hba
          have HR0 := Lib.hid hr0
          clear hr0
          by_cases hle : b' + 2 * p1 ≤ e
          · have hlei : (b' : Int) + 2 * (p1 : Int) ≤ (e : Int) := by omega
            have HLE := Lib.hid hle
            clear hle
            go_wp2_with fail
            go_quiet (fail)
            go_wp2_with fail
            refine ⟨⟨l + 1, by simp, Lib.hid ?_, Lib.hid (HI.out.drewN nq)⟩, ?_⟩
            · have h2 : 2 ^ (l + 1) = 2 * p1 := by rw [Nat.pow_succ, HP.out]; omega
              have hd := HR0.out
              have hle := HLE.out
              rw [HP.out] at hd hle
              have hm := lvlF_more (l := l) (b := b') (e := e) ⟨hd, hle⟩
              refine ⟨by rw [h2]; exact HLE.out, ?_, by rw [HL.out.2.2, hm]⟩
              obtain ⟨c, hc⟩ := HL.out.2.1
              rw [hc, Nat.mul_div_cancel_left _ (Nat.pos_of_ne_zero (by simp))] at hd
              obtain ⟨d, hd⟩ := Nat.dvd_of_mod_eq_zero hd
              exact ⟨d, by rw [hc, hd, Nat.pow_succ, Nat.mul_assoc]⟩
            · show 64 - ((l : Int) + 1).toNat < 64 - ((l : Int)).toNat
              omega
          · have hlei : ¬ (b' : Int) + 2 * (p1 : Int) ≤ (e : Int) := by omega
            have HNF := Lib.hid hle
            clear hle
            have hle : lvlF l b' e = l := lvlF_end (by have := HP.out; rw [← this]; have := HNF.out; omega)
            have HLE := Lib.hid hle
            have HFIT : Hid (b' + p1 ≤ e) := Lib.hid (by rw [HP.out]; exact HL.out.1)
            clear hle
            have hl1 : (L.length + 1) * 16 ≤ 140737488355328 := by have := HBE.out; omega
            have hl2 : L.length + 1 ≤ 140737488355328 := by omega
            go_wp2_with fail
            go_quiet (fail)
            have HID := Lib.hid (HI.out.drewN nq)
            have HHD := Lib.hid HID.out.q4
            go_wp2_with (first
              | (at_builtin; refine wpList_grew (v := .slice vp L.length vc) (l := prsV L) rfl _ _ rfl Tryd.underlying32 (.agg #[.int .i64 0, .int .i64 0]) 2 info_nodeP rfl (by decide) [.int .i64 (l : Int), .int .i64 ((b' : Int) / (p1 : Int))] 1 (by simp [Act.eval]) (by simp [Act.eval]) HHD.out rfl rfl (by decide) (HONE.out _ _) hl1 hl2 ?_; intro v5 w5 hg5; have HG5 := Lib.hid hg5; clear hg5))
            have hfin := HID.out.push HBE.out.2.1 (HLE.out.symm.trans HL.out.2.2.symm) HP.out HFIT.out HG5.out
            have hpos : 0 < p1 := by rw [HP.out]; exact Nat.pos_of_ne_zero (by simp)
            refine ⟨⟨b' + p1, L ++ [(l, b' / p1)], by simp, Lib.hid hfin⟩, ?_⟩
            show e - ((b' : Int) + (p1 : Int)).toNat < e - ((b' : Int)).toNat
            have := HBE.out
            have := HFIT.out
            omega
        · rw [hr0] at hba
          have hba : bits .and .i64 ((b' : Int) / (p1 : Int)) 1 = 1 := hba
          have HR0 := Lib.hid hr0
          clear hr0
          have hle : lvlF l b' e = l := lvlF_end (by have := HP.out; rw [← this]; have := HR0.out; omega)
          have HLE := Lib.hid hle
          have HFIT : Hid (b' + p1 ≤ e) := Lib.hid (by rw [HP.out]; exact HL.out.1)
          clear hle
          have hl1 : (L.length + 1) * 16 ≤ 140737488355328 := by have := HBE.out; omega
          have hl2 : L.length + 1 ≤ 140737488355328 := by omega
          go_wp2_with fail
          go_quiet (fail)
          have HID := Lib.hid (HI.out.drewN nq)
          have HHD := Lib.hid HID.out.q4
          go_wp2_with (first
            | (at_builtin; refine wpList_grew (v := .slice vp L.length vc) (l := prsV L) rfl _ _ rfl Tryd.underlying32 (.agg #[.int .i64 0, .int .i64 0]) 2 info_nodeP rfl (by decide) [.int .i64 (l : Int), .int .i64 ((b' : Int) / (p1 : Int))] 1 (by simp [Act.eval]) (by simp [Act.eval]) HHD.out rfl rfl (by decide) (HONE.out _ _) hl1 hl2 ?_; intro v5 w5 hg5; have HG5 := Lib.hid hg5; clear hg5))
          have hfin := HID.out.push HBE.out.2.1 (HLE.out.symm.trans HL.out.2.2.symm) HP.out HFIT.out HG5.out
          have hpos : 0 < p1 := by rw [HP.out]; exact Nat.pos_of_ne_zero (by simp)
          refine ⟨⟨b' + p1, L ++ [(l, b' / p1)], by simp, Lib.hid hfin⟩, ?_⟩
          show e - ((b' : Int) + (p1 : Int)).toNat < e - ((b' : Int)).toNat
          have := HBE.out
          have := HFIT.out
          omega
    · have hi : ¬ (b' : Int) < (e : Int) := by omega
      have hq2 := HI.out.q2
      rw [coverT_end hbe, List.append_nil] at hq2
      have HQ2 := Lib.hid hq2
      have HCL : Hid (∀ w', Calls Tryd.prog 45 #[.slice vp L.length vc] w' fun e w2 => e = .returned (.slice vp L.length L.length) ∧ w2 = w') := Lib.hid (fun w' => clipN_any vp _ _ w' hvc)
      clear g1 g2 g3 hbe hvc hq2
      go_wp2_with (first
        | (go_at_call 45; with_reducible refine (HCL.out _).mono ?_; rintro r wx ⟨rfl, hwx⟩; rw [hwx]; clear hwx wx))
      go_ret2
      refine ⟨⟨vp, L.length, by rw [HQ2.out]; rfl, ?_, ?_⟩, HI.out.q5⟩
      · rw [HQ2.out]
        exact HI.out.q4.clip
      · rw [HQ2.out]
        intro g hg
        cases vp with
        | none => cases hg
        | some a => exact (HI.out.q6.2 g hg).2
end Go.Proofs.YteknpnanmbfhfaaDoor
/- Shape, walked: the inner function of rest, which calls itself. -/
namespace Go.Proofs.YteknpnanmbfhfaaDoor
open Go.RowKit Go.Scr Go.Shelf
set_option linter.unusedVariables false
attribute [local go_sem] Oper.semAt_some

/-- what a look at a span is: function F with one captured variable (block bc) -/
structure LookF (F bc : Nat) (look : Nat → Nat → Nat) (N : Nat) (LOK : World → Prop) (capl : Nat → Prop) : Prop where
  enter : ∀ args w, (callFunc F args).run Tryd.prog w = .ok (.enter F args) w
  call : ∀ W b e, LOK W → b < e → e ≤ N → Calls Tryd.prog F #[spV b e, .pointer (some ⟨bc, 0, none⟩)] W fun r w' => r = .returned (.int .i64 ((look b e : Nat) : Int)) ∧ Below W.heap.size W w'
  keep : ∀ a c, LOK a → Kq capl a c → LOK c
  lt : ∀ W, LOK W → ∀ i, capl i → i < W.heap.size
  one : ∀ b, look b (b + 1) = 0 ∨ look b (b + 1) = 2
abbrev ptr0 (b : Nat) : Value := .pointer (some ⟨b, 0, none⟩)
/-- what stands while rest walks -/
structure RW (F bc : Nat) (LOK : World → Prop) (capl : Nat → Prop) (l B bl : Nat) (W : World) (U : Nat → Prop) : Prop where
  hl : W.heap[bl]? = some (.cells #[.func (.func F) #[] #[ptr0 bc]] 80 (0, 0))
  by_ : W.heap[B]? = some (.cells #[.func (.yield l) #[] #[]] 112 (0, 0))
  bw : W.heap[B + 1]? = some (.cells #[.func (.func 84) #[] #[ptr0 bl, ptr0 B, ptr0 (B + 1)]] 112 (0, 0))
  lok : LOK W
  nu : ¬ U bl ∧ ¬ U B ∧ ¬ U (B + 1) ∧ ∀ i, capl i → ¬ U i
  ult : ∀ i, U i → i < W.heap.size
  sz : B + 2 ≤ W.heap.size
theorem RW.step {F bc : Nat} {look : Nat → Nat → Nat} {N : Nat} {LOK : World → Prop} {capl : Nat → Prop} (LK : LookF F bc look N LOK capl) {l B bl : Nat} {W W' : World} {U U' : Nat → Prop} (h : RW F bc LOK capl l B bl W U) (hk : Kq (fun i => ¬ U i) W W') (hu : ∀ i, U' i → i < W'.heap.size ∧ (U i ∨ W.heap.size ≤ i)) : RW F bc LOK capl l B bl W' U' := by
  have lt1 := (Array.getElem?_eq_some_iff.mp h.hl).1
  have lt2 := (Array.getElem?_eq_some_iff.mp h.by_).1
  have lt3 := (Array.getElem?_eq_some_iff.mp h.bw).1
  have nn : ∀ i, i < W.heap.size → ¬ U i → ¬ U' i := fun i hi hn hu' => by
    rcases (hu i hu').2 with q | q
    · exact hn q
    · omega
  refine ⟨(hk.same _ lt1 h.nu.1).trans h.hl, (hk.same _ lt2 h.nu.2.1).trans h.by_, (hk.same _ lt3 h.nu.2.2.1).trans h.bw, LK.keep _ _ h.lok ⟨hk.size, fun i hi hc => hk.same i hi (h.nu.2.2.2 i hc)⟩, ⟨nn _ lt1 h.nu.1, nn _ lt2 h.nu.2.1, nn _ lt3 h.nu.2.2.1, fun i hc => nn _ (LK.lt _ h.lok i hc) (h.nu.2.2.2 i hc)⟩, fun i hi => (hu i hi).1, Nat.le_trans h.sz hk.size⟩
theorem kq_below {K : Nat → Prop} {W W' : World} (h : Below W.heap.size W W') : Kq K W W' := ⟨h.size, fun i hi _ => h.block i hi⟩
theorem RW.below {F bc : Nat} {look : Nat → Nat → Nat} {N : Nat} {LOK : World → Prop} {capl : Nat → Prop} (LK : LookF F bc look N LOK capl) {l B bl : Nat} {W W' : World} {U : Nat → Prop} (h : RW F bc LOK capl l B bl W U) (hb : Below W.heap.size W W') : RW F bc LOK capl l B bl W' U :=
  h.step LK (kq_below hb) (fun i hi => ⟨Nat.lt_of_lt_of_le (h.ult i hi) hb.size, .inl hi⟩)
theorem RW.at {F bc : Nat} {LOK : World → Prop} {capl : Nat → Prop} {l B bl : Nat} {W : World} {U : Nat → Prop} (h : RW F bc LOK capl l B bl W U) :
    W.cell? ⟨bl, 0, none⟩ = some (.func (.func F) #[] #[ptr0 bc]) ∧ W.cell? ⟨B, 0, none⟩ = some (.func (.yield l) #[] #[]) ∧ W.cell? ⟨B + 1, 0, none⟩ = some (.func (.func 84) #[] #[ptr0 bl, ptr0 B, ptr0 (B + 1)]) :=
  ⟨cell_of_row _ _ _ _ _ _ h.hl, cell_of_row _ _ _ _ _ _ h.by_, cell_of_row _ _ _ _ _ _ h.bw⟩
/-- what such a walk leaves -/
def WPost (J Jx : List (Nat × Nat) → (Nat → Prop) → World → Prop) (T pre L : List (Nat × Nat)) (U : Nat → Prop) (W : World) (e : Ending) (W' : World) : Prop :=
  ∃ U', ((e = .returned (.bool true) ∧ J (pre ++ L) U' W') ∨ (e = .returned (.bool false) ∧ ∃ q, q <+: T ∧ Jx q U' W')) ∧ Kq (fun i => ¬ U i) W W' ∧ ∀ i, U' i → i < W'.heap.size ∧ (U i ∨ W.heap.size ≤ i)
theorem kq_comp {U U1 : Nat → Prop} {a b c : World} (h : Kq (fun i => ¬ U i) a b) (hu : ∀ i, U1 i → i < b.heap.size ∧ (U i ∨ a.heap.size ≤ i)) (g : Kq (fun i => ¬ U1 i) b c) : Kq (fun i => ¬ U i) a c :=
  ⟨Nat.le_trans h.size g.size, fun i hi hn => (g.same i (Nat.lt_of_lt_of_le hi h.size) (fun h1 => by
    rcases (hu i h1).2 with q | q
    · exact hn q
    · omega)).trans (h.same i hi hn)⟩
theorem hu_comp {U U1 U2 : Nat → Prop} {a b c : World} (h : Kq (fun i => ¬ U i) a b) (hu : ∀ i, U1 i → i < b.heap.size ∧ (U i ∨ a.heap.size ≤ i)) (hv : ∀ i, U2 i → i < c.heap.size ∧ (U1 i ∨ b.heap.size ≤ i)) : ∀ i, U2 i → i < c.heap.size ∧ (U i ∨ a.heap.size ≤ i) := fun i hi => by
  refine ⟨(hv i hi).1, ?_⟩
  rcases (hv i hi).2 with q | q
  · exact (hu i q).2
  · exact .inr (Nat.le_trans h.size q)
set_option maxRecDepth 100000 in
set_option maxHeartbeats 4000000 in
theorem restw_any {F bc : Nat} {look : Nat → Nat → Nat} {N : Nat} {LOK : World → Prop} {capl : Nat → Prop} (LK : LookF F bc look N LOK capl) (hN : N ≤ 1099511627776) (l B bl : Nat) (T : List (Nat × Nat)) (J Jx : List (Nat × Nat) → (Nat → Prop) → World → Prop)
    (hJ : ∀ s U a c, J s U a → Chg (fun i => B ≤ i ∧ ¬ U i) a c → J s U c)
    (hY : ∀ pre x U W1, J pre U W1 → (∀ i, U i → i < W1.heap.size) → B ≤ W1.heap.size → (pre ++ [x]) <+: T → YieldAt Fence.wide 0 Tryd.prog l #[spV x.1 x.2] W1 fun e W' => RndU J Jx (pre ++ [x]) U W1 e W') (n : Nat) :
    ∀ (b : Nat) (pre : List (Nat × Nat)) (U : Nat → Prop) (W : World), 1 ≤ n → b + n ≤ N → (pre ++ restT look b n) <+: T → J pre U W → RW F bc LOK capl l B bl W U →
      Calls Tryd.prog 84 #[spV b (b + n), ptr0 bl, ptr0 B, ptr0 (B + 1)] W (WPost J Jx T pre (restT look b n) U W) := by
  induction n using Nat.strongRecOn with
  | ind n ih =>
    intro b pre U W hn hbn hT hj hrw
    obtain ⟨e, he⟩ : ∃ e, e = b + n := ⟨_, rfl⟩
    obtain ⟨bs, hbs⟩ : ∃ x, x = W.heap.size := ⟨_, rfl⟩
    obtain ⟨W1, hW1⟩ : ∃ x, x = W.alloc (.cells #[.int .i64 (b : Int), .int .i64 (e : Int)] 29) := ⟨_, rfl⟩
    have hb1 : Below W.heap.size W W1 := by rw [hW1]; exact (Below.refl _ _).alloc (Nat.le_refl _) _
    have hs1 : spRow W1 bs b e := by rw [hW1, hbs]; exact heap_alloc_new W _
    have hrw1 := hrw.below LK hb1
    have hj1 : J pre U W1 := hJ _ _ _ _ hj (Chg.of_below hb1)
    rw [← he]
    have heg := LK.enter
    obtain ⟨a0, a1, a2⟩ := hrw1.at
    obtain ⟨s0, s1, _⟩ := hs1.at
    have HLK : Hid (Calls Tryd.prog F #[spV b e, ptr0 bc] W1 fun r w' => r = .returned (.int .i64 ((look b e : Nat) : Int)) ∧ Below W1.heap.size W1 w') := Lib.hid (LK.call W1 b e hrw1.lok (by omega) (by omega))
    have hW := Lib.hid hW1
    have hB := Lib.hid hbs
    have HNU : Hid (bs < W1.heap.size ∧ ¬ U bs ∧ bs = W.heap.size) := Lib.hid ⟨hs1.lt, fun h => by have := hrw.ult _ h; omega, hbs⟩
    have HST : Hid (∀ W2, Below W1.heap.size W1 W2 → RW F bc LOK capl l B bl W2 U ∧ J pre U W2 ∧ spRow W2 bs b e ∧ Kq (fun i => ¬ U i) W W2 ∧ W.heap.size ≤ W2.heap.size) := Lib.hid (fun W2 h => by
      have hb2 : Below W.heap.size W W2 := below_onS hb1 h hb1.size
      exact ⟨hrw1.below LK h, hJ _ _ _ _ hj1 (Chg.of_below h), hs1.keep (h.block _ hs1.lt), kq_below hb2, hb2.size⟩)
    obtain ⟨lk, hlk⟩ : ∃ x, x = look b e := ⟨_, rfl⟩
    rw [← hlk] at HLK
    have HN : Hid (1 ≤ n ∧ b + n ≤ N ∧ e = b + n ∧ lk = look b (b + n)) := Lib.hid ⟨hn, hbn, he, by rw [hlk, he]⟩
    have HT := Lib.hid hT
    have HIH := Lib.hid ih
    have HJ := Lib.hid hJ
    have HY := Lib.hid hY
    clear ih hn hbn hT hj hrw he hbs hb1 hs1 hrw1 hj1 hlk hW1 hJ hY
    refine (callsIn_wide (n := 3)).1 ?_
    refine callsIn_of_wp Tryd.func84 rfl trivial ?_ rfl
    simp only [Tryd.ntmps84, List.size_toArray, List.length_cons, List.length_nil, Nat.reduceAdd, Nat.reduceSub, Array.replicate_succ, Array.replicate_zero, List.push_toArray, List.append_toArray, List.nil_append, List.cons_append]
    have hn1 : 1 ≤ 3 := by decide
    by_cases h0 : lk = 0
    · subst h0
      have HR := Lib.hid (restT_none (look := look) (b := b) (n := n) HN.out.2.2.2.symm)
      gi_upto_region 1 with fail
      rw [← hW.out, ← hB.out]
      gi_upto_region 3 with (first
        | (refine ⟨trivial, ?_⟩; with_reducible refine (callsIn_wide.2 HLK.out).mono ?_; rintro r w2 ⟨rfl, hb2⟩; have HB2 := Lib.hid hb2; clear hb2))
      clear a0 a1 a2 s0 s1
      obtain ⟨g1, g2, g3, g4, g5⟩ := HST.out _ HB2.out
      obtain ⟨z0, z1, z2⟩ := g1.at
      obtain ⟨t0, t1, _⟩ := g3.at
      have hT2 : (pre ++ [(b, e)]) <+: T := by have := HT.out; rw [HR.out, ← HN.out.2.2.1] at this; exact this
      obtain ⟨fn, tmps, assign, body, hy, hR⟩ := YieldAt.deep (m := 2) (HY.out pre (b, e) U w2 g2 g1.ult (Nat.le_trans (by omega) g1.sz) hT2)
      have HR2 := Lib.hid hR
      have HT2 := Lib.hid hT2
      have HG : Hid (Kq (fun i => ¬ U i) W w2 ∧ W.heap.size ≤ w2.heap.size) := Lib.hid ⟨g4, g5⟩
      clear g1 g2 g3 g4 g5 hT2 hR
      gi_wp2
      refine HR2.out.mono ?_
      rintro r w3 ⟨U', (⟨rfl, hj3⟩ | ⟨rfl, hjx3⟩), hk3, hu3⟩
      · have HF : Hid (J (pre ++ [(b, e)]) U' w3 ∧ Kq (fun i => ¬ U i) w2 w3 ∧ ∀ i, U' i → i < w3.heap.size ∧ (U i ∨ w2.heap.size ≤ i)) := Lib.hid ⟨hj3, hk3, hu3⟩
        clear hj3 hk3 hu3
        gi_wp2
        go_ret
        refine ⟨U', .inl ⟨rfl, ?_⟩, HG.out.1.trans HF.out.2.1, fun i hi => ⟨(HF.out.2.2 i hi).1, (HF.out.2.2 i hi).2.imp id (fun q => Nat.le_trans HG.out.2 q)⟩⟩
        rw [HR.out, ← HN.out.2.2.1]
        exact HF.out.1
      · have HF : Hid (Jx (pre ++ [(b, e)]) U' w3 ∧ Kq (fun i => ¬ U i) w2 w3 ∧ ∀ i, U' i → i < w3.heap.size ∧ (U i ∨ w2.heap.size ≤ i)) := Lib.hid ⟨hjx3, hk3, hu3⟩
        clear hjx3 hk3 hu3
        gi_wp2
        go_ret
        exact ⟨U', .inr ⟨rfl, _, HT2.out, HF.out.1⟩, HG.out.1.trans HF.out.2.1, fun i hi => ⟨(HF.out.2.2 i hi).1, (HF.out.2.2 i hi).2.imp id (fun q => Nat.le_trans HG.out.2 q)⟩⟩
    · have h0i : ((lk : Int) == 0) = false := by rw [beq_eq_false_iff_ne]; omega
      by_cases h2 : lk = 2
      · subst h2
        have HR := Lib.hid (restT_all (look := look) (b := b) (n := n) HN.out.2.2.2.symm)
        clear h0 h0i
        gi_upto_region 1 with fail
        rw [← hW.out, ← hB.out]
        gi_wp2_with (first
          | (refine ⟨trivial, ?_⟩; with_reducible refine (callsIn_wide.2 HLK.out).mono ?_; rintro r w2 ⟨rfl, hb2⟩; have HB2 := Lib.hid hb2; clear hb2))
        go_ret
        obtain ⟨g1, g2, g3, g4, g5⟩ := HST.out _ HB2.out
        refine ⟨U, .inl ⟨rfl, ?_⟩, g4, fun i hi => ⟨g1.ult i hi, .inl hi⟩⟩
        rw [HR.out, List.append_nil]
        exact g2
      · have h2i : ((lk : Int) == 2) = false := by rw [beq_eq_false_iff_ne]; omega
        have hn2 : 1 < n := by
          apply Nat.lt_of_not_le
          intro h
          have h1 : n = 1 := by have := HN.out.1; omega
          have hl := HN.out.2.2.2
          rw [h1] at hl
          rcases LK.one b with q | q <;> omega
        have hsp := spl_lt (show 2 ≤ n by omega)
        have HR := Lib.hid (restT_some (look := look) (b := b) (n := n) (by rw [← HN.out.2.2.2]; exact h0) (by rw [← HN.out.2.2.2]; exact h2) hn2)
        obtain ⟨md, hmd⟩ : ∃ x, x = b + spl n := ⟨_, rfl⟩
        have CH : Hid (∀ w', Calls Tryd.prog 51 #[.agg #[.int .i64 (b : Int), .int .i64 (e : Int)]] w' fun r w2 => r = .returned (.tuple #[spV b md, spV md e]) ∧ Below w'.heap.size w' w2) := Lib.hid (fun w' => by
          have := halves_any b e w' (by have := HN.out; omega) (by have := HN.out; omega)
          rwa [show e - b = n by have := HN.out; omega, ← hmd] at this)
        have HS : Hid (md = b + spl n ∧ 1 ≤ spl n ∧ spl n < n ∧ 1 ≤ n - spl n) := Lib.hid ⟨hmd, by omega, by omega, by omega⟩
        clear h0 h2 hn2 hsp hmd
        gi_upto_region 1 with fail
        rw [← hW.out, ← hB.out]
        gi_upto_region 7 with (first
          | (refine ⟨trivial, ?_⟩; gi_at_call 51; refine (callsIn_wide.2 (CH.out _)).mono ?_; rintro r w3 ⟨rfl, hb3⟩; have HB3 := Lib.hid hb3; clear hb3)
          | (refine ⟨trivial, ?_⟩; with_reducible refine (callsIn_wide.2 HLK.out).mono ?_; rintro r w2 ⟨rfl, hb2⟩; obtain ⟨t0, t1, _⟩ := (HST.out _ hb2).2.2.1.at; have HB2 := Lib.hid hb2; clear hb2))
        clear a0 a1 a2 s0 s1 t0 t1
        obtain ⟨A, hA⟩ : ∃ x, x = ((w3.alloc (.cells #[.int .i64 (b : Int), .int .i64 (md : Int)] 29)).alloc (.cells #[.int .i64 (md : Int), .int .i64 (e : Int)] 29)) := ⟨_, rfl⟩
        obtain ⟨bh, hbh⟩ : ∃ x, x = w3.heap.size := ⟨_, rfl⟩
        have hbA : Below W1.heap.size W1 A := by
          rw [hA]
          have h3 := below_onS HB2.out HB3.out HB2.out.size
          exact (h3.alloc h3.size _).alloc (by have := h3.size; simp; omega) _
        have r0 : spRow A bh b md := by rw [hA, hbh]; exact blk_alloc (heap_alloc_new w3 _)
        have r1 : spRow A (bh + 1) md e := by rw [hA, hbh]; exact heap_alloc_at _ _ _ (by simp)
        obtain ⟨g1, g2, g3, g4, g5⟩ := HST.out _ hbA
        have hbU : W.heap.size ≤ bh := by
          rw [hbh]
          have := (HST.out _ (below_onS HB2.out HB3.out HB2.out.size)).2.2.2.2
          exact this
        obtain ⟨z0, z1, z2⟩ := g1.at
        obtain ⟨x0, x1, _⟩ := r0.at
        obtain ⟨y0, y1, _⟩ := r1.at
        rw [← hbh, ← hA]
        have HC1 : Hid (Calls Tryd.prog 84 #[spV b md, ptr0 bl, ptr0 B, ptr0 (B + 1)] A (WPost J Jx T pre (restT look b (spl n)) U A)) := Lib.hid (by
          have hs := HS.out
          rw [hs.1]
          refine HIH.out (spl n) hs.2.2.1 b pre U A hs.2.1 (by have := HN.out; omega) ?_ g2 g1
          have ht := HT.out
          rw [HR.out] at ht
          exact List.IsPrefix.trans (List.prefix_append_right_inj _ |>.mpr ⟨_, rfl⟩) ht)
        have HC2 : Hid (∀ U1 W5, J (pre ++ restT look b (spl n)) U1 W5 → RW F bc LOK capl l B bl W5 U1 → Calls Tryd.prog 84 #[spV md e, ptr0 bl, ptr0 B, ptr0 (B + 1)] W5 (WPost J Jx T (pre ++ restT look b (spl n)) (restT look md (n - spl n)) U1 W5)) := Lib.hid (fun U1 W5 hj5 hr5 => by
          have hs := HS.out
          have ht := HT.out
          have hn := HN.out
          rw [HR.out, ← hs.1, ← List.append_assoc] at ht
          have := HIH.out (n - spl n) (by omega) md (pre ++ restT look b (spl n)) U1 W5 hs.2.2.2 (by omega) ht hj5 hr5
          rwa [show md + (n - spl n) = e by omega] at this)
        have HSTEP : Hid (∀ U1 W5, Kq (fun i => ¬ U i) A W5 → (∀ i, U1 i → i < W5.heap.size ∧ (U i ∨ A.heap.size ≤ i)) → RW F bc LOK capl l B bl W5 U1 ∧ spRow W5 (bh + 1) md e) := Lib.hid (fun U1 W5 hk hu => ⟨g1.step LK hk hu, r1.keep (hk.same _ r1.lt (fun h => by
          have h1 := HNU.out.1
          have h2 := (HST.out _ (Below.refl _ _)).1.ult _ h
          have h3 := HB2.out.size
          have h4 := HB3.out.size
          omega))⟩)
        have HG : Hid (Kq (fun i => ¬ U i) W A ∧ W.heap.size ≤ A.heap.size ∧ (∀ i, U i → i < A.heap.size)) := Lib.hid ⟨g4, g5, g1.ult⟩
        clear hA hbh hbA r0 r1 g1 g2 g3 g4 g5 hbU
        gi_wp2_with (first
          | (refine ⟨trivial, ?_⟩; gi_at_call 84; (with_reducible refine (callsIn_wide.2 HC1.out).mono ?_); rintro r w5 hp; obtain ⟨U1, halt, hk5, hu5⟩ := show WPost J Jx T pre (restT look b (spl n)) U A r w5 from hp; rcases halt with ⟨rfl, hj5⟩ | ⟨rfl, q, hq, hjx5⟩; obtain ⟨hr5, hs5⟩ := HSTEP.out _ _ hk5 hu5; obtain ⟨x0, x1, _⟩ := hs5.at; obtain ⟨z0, z1, z2⟩ := hr5.at; have HF := Lib.hid (And.intro hj5 (And.intro hk5 (And.intro hu5 hr5))); clear hp hj5 hk5 hu5 hr5 hs5)
          | (refine ⟨trivial, ?_⟩; gi_at_call 84; (with_reducible refine (callsIn_wide.2 (HC2.out _ _ HF.out.1 HF.out.2.2.2)).mono ?_); rintro r w6 hp6; obtain ⟨U2, halt6, hk6, hu6⟩ := show WPost J Jx T (pre ++ restT look b (spl n)) (restT look md (n - spl n)) U1 w5 r w6 from hp6; rcases halt6 with ⟨rfl, hj6⟩ | ⟨rfl, q6, hq6, hjx6⟩))
        · go_ret
          refine ⟨U2, .inl ⟨rfl, ?_⟩, ?_, ?_⟩
          · rw [HR.out, ← List.append_assoc, ← HS.out.1]
            exact hj6
          · exact HG.out.1.trans (kq_comp HF.out.2.1 HF.out.2.2.1 hk6)
          · exact fun i hi => ⟨(hu_comp HF.out.2.1 HF.out.2.2.1 hu6 i hi).1, (hu_comp HF.out.2.1 HF.out.2.2.1 hu6 i hi).2.imp id (fun q => Nat.le_trans HG.out.2.1 q)⟩
        · go_ret
          refine ⟨U2, .inr ⟨rfl, q6, hq6, hjx6⟩, HG.out.1.trans (kq_comp HF.out.2.1 HF.out.2.2.1 hk6), ?_⟩
          exact fun i hi => ⟨(hu_comp HF.out.2.1 HF.out.2.2.1 hu6 i hi).1, (hu_comp HF.out.2.1 HF.out.2.2.1 hu6 i hi).2.imp id (fun q => Nat.le_trans HG.out.2.1 q)⟩
        · refine ⟨by simp, ?_⟩
          gi_wp2
          go_ret
          exact ⟨U1, .inr ⟨rfl, q, hq, hjx5⟩, HG.out.1.trans hk5, fun i hi => ⟨(hu5 i hi).1, (hu5 i hi).2.imp id (fun q => Nat.le_trans HG.out.2.1 q)⟩⟩
end Go.Proofs.YteknpnanmbfhfaaDoor
