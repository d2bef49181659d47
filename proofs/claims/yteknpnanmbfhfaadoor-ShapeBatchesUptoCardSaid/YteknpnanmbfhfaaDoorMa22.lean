/- Shape, walked: Batch's look. -/
import Derived.Test.YteknpnanmbfhfaaDoorMa19
import Derived.Test.YteknpnanmbfhfaaDoorMa21
namespace Go.Scr
/-- what Batch's look says, of indices that rise -/
def lookZ (Z : List Int) (b e : Nat) : Nat := if Z.any (fun z => decide ((b : Int) ≤ z ∧ z < (e : Int))) then (if e - b = 1 then 2 else 1) else 0
theorem lookZ_one (Z : List Int) (b : Nat) : lookZ Z b (b + 1) = 0 ∨ lookZ Z b (b + 1) = 2 := by
  unfold lookZ
  split
  · rw [if_pos (by omega)]; exact .inr rfl
  · exact .inl rfl
theorem lookZ_none {Z : List Int} {b e : Nat} (h : ∀ z ∈ Z, ¬ ((b : Int) ≤ z ∧ z < (e : Int))) : lookZ Z b e = 0 := by
  unfold lookZ
  rw [if_neg]
  intro ha
  obtain ⟨z, hz, hd⟩ := List.any_eq_true.1 ha
  exact h z hz (of_decide_eq_true hd)
theorem lookZ_some {Z : List Int} {b e : Nat} {z : Int} (hz : z ∈ Z) (h : (b : Int) ≤ z ∧ z < (e : Int)) : lookZ Z b e = if e - b = 1 then 2 else 1 := by
  unfold lookZ
  rw [if_pos (List.any_eq_true.2 ⟨z, hz, decide_eq_true h⟩)]
end Go.Scr
namespace Go.Proofs.YteknpnanmbfhfaaDoor
open Go.RowKit Go.Scr Go.Shelf
set_option linter.unusedVariables false
/-- what Batch's look reads -/
structure IdxB (W : World) (bc : Nat) (p : Option Addr) (c : Nat) (Z : List Int) : Prop where
  box : W.heap[bc]? = some (.cells #[.slice p Z.length c] 41 (0, 0))
  ints : Ints W (.slice p Z.length c) Z
theorem IdxB.keep {a w : World} {bc : Nat} {p : Option Addr} {c : Nat} {Z : List Int} (h : IdxB a bc p c Z) (h0 : 0 < Z.length) (hk : Kq (fun i => i = bc ∨ ∃ q, p = some q ∧ q.block = i) a w) : IdxB w bc p c Z := by
  obtain ⟨p', c', hv, g1, g2, g3, g4⟩ := h.ints
  cases hv
  refine ⟨(hk.same _ (Array.getElem?_eq_some_iff.mp h.box).1 (.inl rfl)).trans h.box, p, c, rfl, g1, g2, g3, fun j z hz => ?_⟩
  obtain ⟨q, hq, hc⟩ := g4 j z hz
  refine ⟨q, hq, (World.cell?_of_block (hk.same _ (block_lt_of_cell hc) (.inr ⟨q, hq, ?_⟩))).trans hc⟩
  unfold Addr.add; split <;> rfl
theorem IdxB.lt {a : World} {bc : Nat} {p : Option Addr} {c : Nat} {Z : List Int} (h : IdxB a bc p c Z) (h0 : 0 < Z.length) : ∀ i, (i = bc ∨ ∃ q, p = some q ∧ q.block = i) → i < a.heap.size := by
  intro i hi
  rcases hi with rfl | ⟨q, hq, rfl⟩
  · exact (Array.getElem?_eq_some_iff.mp h.box).1
  · obtain ⟨p', c', hv, g1, g2, g3, g4⟩ := h.ints
    cases hv
    obtain ⟨q', hq', hc⟩ := g4 0 (Z[0]'h0) (List.getElem?_eq_getElem _)
    rw [hq] at hq'
    cases hq'
    have := block_lt_of_cell hc
    have e : (q.add 0).block = q.block := by unfold Addr.add; split <;> rfl
    rwa [e] at this
set_option maxRecDepth 100000 in
set_option maxHeartbeats 4000000 in
theorem batch1_any (Z : List Int) (p : Option Addr) (c bc : Nat) (W : World) (b e : Nat) (hbe : b < e) (he : e ≤ 1099511627776) (hb : IdxB W bc p c Z) (hs : Z.Pairwise (· < ·)) (h0 : 0 < Z.length) (hl : Z.length ≤ 256) :
    Calls Tryd.prog 64 #[spV b e, ptr0 bc] W fun r w' => r = .returned (.int .i64 ((lookZ Z b e : Nat) : Int)) ∧ Below W.heap.size W w' := by
  obtain ⟨b0, hb0⟩ : ∃ x, x = W.heap.size := ⟨_, rfl⟩
  obtain ⟨w1, hw1⟩ : ∃ x, x = W.alloc (.cells #[.int .i64 (b : Int), .int .i64 (e : Int)] 29) := ⟨_, rfl⟩
  have hbel : Below W.heap.size W w1 := by rw [hw1]; exact (Below.refl _ _).alloc (Nat.le_refl _) _
  have r0 : spRow w1 b0 b e := by rw [hw1, hb0]; exact heap_alloc_new W _
  have hi1 : IdxB w1 bc p c Z := hb.keep h0 (kq_below hbel)
  have c0 : w1.cell? ⟨bc, 0, none⟩ = some (.slice p Z.length c) := cell_of_row _ _ _ _ _ _ hi1.box
  obtain ⟨d0, d1, _⟩ := r0.at
  have CB := Lib.hid (binsearch_any (.slice p Z.length c) Z (b : Int) w1 hi1.ints hs (by omega))
  obtain ⟨p', c', hv, g1, g2, g3, g4⟩ := hi1.ints
  cases hv
  have HV := Lib.hid g4
  obtain ⟨n, hn⟩ : ∃ n, n = Z.length := ⟨_, rfl⟩
  rw [← hn] at CB c0 hl h0 g1
  have HN := Lib.hid hn
  have HS := Lib.hid hs
  have HW := Lib.hid hw1
  have HB := Lib.hid hb0
  have HBEL := Lib.hid hbel
  have HBE : Hid (b < e ∧ e ≤ 1099511627776) := Lib.hid ⟨hbe, he⟩
  clear hn hs hw1 hb0 hbel r0 hi1 hb g2 g3 g4 hbe he
  go_enter Tryd.func64, Tryd.ntmps64
  go_upto_region 1 with fail
  rw [← HW.out, ← HB.out]
  go_upto_region 2 with (go_at_call 65; refine CB.out.mono ?_; rintro r wx ⟨⟨at_, bb, rfl, k1, k2, k3⟩, hwx⟩; rw [hwx]; clear hwx wx; have HK := Lib.hid (And.intro k1 (And.intro k2 k3)); clear k1 k2 k3)
  by_cases hat : at_ = n
  · subst hat
    have hv : lookZ Z b e = 0 := lookZ_none (fun z hz hh => by
      obtain ⟨j, hj⟩ := List.getElem?_of_mem hz
      have hj1 : j < Z.length := (List.getElem?_eq_some_iff.mp hj).1
      have := HK.out.2.1 j z (by have := HN.out; omega) hj
      omega)
    have HV0 := Lib.hid hv
    clear hv
    go_quiet (fail)
    go_wp2
    go_ret
    exact ⟨by rw [HV0.out]; rfl, ⟨HBEL.out.os, HBEL.out.tape, HBEL.out.output, HBEL.out.size, HBEL.out.block⟩⟩
  · have hati : ((at_ : Int) == (n : Int)) = false := by rw [beq_eq_false_iff_ne]; omega
    have hlt : at_ < n := by have := HK.out.1; have := HN.out; omega
    have hlti : (at_ : Int) < (n : Int) := by omega
    have hge : (0 : Int) ≤ (at_ : Int) := by omega
    obtain ⟨z, hz⟩ : ∃ z, Z[at_]? = some z := ⟨Z[at_]'(by have := HN.out; omega), List.getElem?_eq_getElem _⟩
    obtain ⟨a, rfl, hc⟩ := HV.out at_ z hz
    have HZ := Lib.hid hz
    clear hat hz
    by_cases hze : (e : Int) ≤ z
    · have hv : lookZ Z b e = 0 := lookZ_none (fun y hy hh => by
        obtain ⟨j, hj⟩ := List.getElem?_of_mem hy
        by_cases hja : j < at_
        · have := HK.out.2.1 j y hja hj
          omega
        · rcases Nat.lt_or_ge at_ j with h | h
          · have := pair_lt HS.out h HZ.out hj
            omega
          · have : j = at_ := by omega
            subst this
            have := Option.some.inj (HZ.out.symm.trans hj)
            omega)
      have HV0 := Lib.hid hv
      clear hv hlt
      go_quiet (fail)
      go_wp2
      go_ret
      exact ⟨by rw [HV0.out]; rfl, ⟨HBEL.out.os, HBEL.out.tape, HBEL.out.output, HBEL.out.size, HBEL.out.block⟩⟩
    · have hv : lookZ Z b e = if e - b = 1 then 2 else 1 := lookZ_some (List.mem_of_getElem? HZ.out) ⟨HK.out.2.2 at_ z (Nat.le_refl _) HZ.out, by omega⟩
      clear hlt
      by_cases h1 : e - b = 1
      · rw [if_pos h1] at hv
        have HV0 := Lib.hid hv
        have hsub : (e : Int) - (b : Int) = 1 := by have := HBE.out; omega
        clear h1 hv
        go_quiet (fail)
        go_wp2
        go_ret
        exact ⟨by rw [HV0.out]; rfl, ⟨HBEL.out.os, HBEL.out.tape, HBEL.out.output, HBEL.out.size, HBEL.out.block⟩⟩
      · rw [if_neg h1] at hv
        have HV0 := Lib.hid hv
        obtain ⟨ln, hln⟩ : ∃ x, x = e - b := ⟨_, rfl⟩
        have hsub : (e : Int) - (b : Int) = (ln : Int) := by have := HBE.out; omega
        have hl1 : ((ln : Int) == 1) = false := by rw [beq_eq_false_iff_ne]; omega
        have hlb : ln ≤ 1099511627776 := by have := HBE.out; omega
        clear h1 hln hv
        go_quiet (fail)
        go_wp2
        go_ret
        exact ⟨by rw [HV0.out]; rfl, ⟨HBEL.out.os, HBEL.out.tape, HBEL.out.output, HBEL.out.size, HBEL.out.block⟩⟩
theorem batch_look (Z : List Int) (p : Option Addr) (c bc : Nat) (hs : Z.Pairwise (· < ·)) (h0 : 0 < Z.length) (hl : Z.length ≤ 256) : LookF 64 bc (lookZ Z) 1099511627776 (fun W => IdxB W bc p c Z) (fun i => i = bc ∨ ∃ q, p = some q ∧ q.block = i) where
  enter := enters_of Tryd.func64 (by kernel_rfl) rfl
  call := fun W b e h h1 h2 => batch1_any Z p c bc W b e h1 h2 h hs h0 hl
  keep := fun a w h hk => h.keep h0 hk
  lt := fun W h => h.lt h0
  one := lookZ_one Z
end Go.Proofs.YteknpnanmbfhfaaDoor
/- Shape, walked: Batch. -/
namespace Go.Scr
/-- do all neighbours ahead of place i rise? -/
def RisTo (Z : List Int) (i : Nat) : Prop := ∀ j x y, j + 1 < i → Z[j]? = some x → Z[j + 1]? = some y → x < y
theorem risTo_step {Z : List Int} {k : Nat} {x y : Int} (hx : Z[k]? = some x) (hy : Z[k + 1]? = some y) : RisTo Z (k + 2) ↔ (RisTo Z (k + 1) ∧ x < y) := by
  constructor
  · intro h
    exact ⟨fun j a b hj => h j a b (by omega), h k x y (by omega) hx hy⟩
  · rintro ⟨h, hxy⟩ j a b hj ha hb
    rcases Nat.lt_or_ge j k with h1 | h1
    · exact h j a b (by omega) ha hb
    · have : j = k := by omega
      subst this
      rw [hx] at ha
      rw [hy] at hb
      cases ha
      cases hb
      exact hxy
theorem risTo_iff (Z : List Int) (n : Nat) (hn : Z.length ≤ n) : RisTo Z n ↔ Z.Pairwise (· < ·) := by
  constructor
  · intro h
    rw [List.pairwise_iff_getElem]
    intro i j hi hj hij
    obtain ⟨d, rfl⟩ := Nat.le.dest hij
    clear hij
    induction d with
    | zero => exact h i _ _ (by omega) (List.getElem?_eq_getElem hi) (List.getElem?_eq_getElem hj)
    | succ d ih =>
      have h1 := ih (by omega)
      have h2 := h (i + 1 + d) _ _ (by omega) (List.getElem?_eq_getElem (show i + 1 + d < Z.length by omega)) (List.getElem?_eq_getElem (show i + 1 + d + 1 < Z.length by omega))
      exact Int.lt_trans h1 h2
  · intro h j x y hj hx hy
    obtain ⟨h1, rfl⟩ := List.getElem?_eq_some_iff.mp hx
    obtain ⟨h2, rfl⟩ := List.getElem?_eq_some_iff.mp hy
    exact (List.pairwise_iff_getElem.mp h) j (j + 1) h1 h2 (by omega)
open Classical in
/-- what Batch says is wrong; 0: nothing -/
noncomputable def batE (n : Int) (Z : List Int) : Nat := if n < 1 ∨ 1099511627776 < n then 81 else if Z.length = 0 ∨ 256 < Z.length then 83 else if ¬ Z.Pairwise (· < ·) then 82 else if (∃ z, Z[0]? = some z ∧ z < 0) ∨ (∃ z, Z[Z.length - 1]? = some z ∧ n ≤ z) then 80 else 0
end Go.Scr
namespace Go.Proofs.YteknpnanmbfhfaaDoor
open Go.RowKit Go.Scr Go.Shelf
set_option linter.unusedVariables false
theorem IdxB.drewN {a : World} {bc : Nat} {p : Option Addr} {c : Nat} {Z : List Int} (h : IdxB a bc p c Z) (k : Nat) : IdxB (a.drewN k) bc p c Z := ⟨h.box, h.ints⟩
theorem below_drewN {B : Nat} {w a : World} (h : Below B w a) (k : Nat) : Below B w (a.drewN k) := ⟨h.os, h.tape, h.output, h.size, h.block⟩
/-- what comes out of Batch -/
def BatP (n : Int) (Z : List Int) (w : World) (r : Ending) (w' : World) : Prop :=
  (batE n Z ≠ 0 → r = .returned (.tuple #[.slice none 0 0, .int .i64 ((batE n Z : Nat) : Int)])) ∧
  (batE n Z = 0 → ∃ p c, r = .returned (.tuple #[.slice p (restT (lookZ Z) 0 n.toNat).length c, .int .i64 0]) ∧ Held w' 29 2 (.slice p (restT (lookZ Z) 0 n.toNat).length c) (restT (lookZ Z) 0 n.toNat).length (prsV (restT (lookZ Z) 0 n.toNat)) ∧ ∀ g, (Value.slice p (restT (lookZ Z) 0 n.toNat).length c).ownBlock = some g → w.heap.size ≤ g) ∧ Below w.heap.size w w'
theorem batP_no {n : Int} {Z : List Int} {w w' : World} {c : Nat} (h : batE n Z = c) (h0 : c ≠ 0) (hb : Below w.heap.size w w') : BatP n Z w (.returned (.tuple #[.slice none 0 0, .int .i64 (c : Int)])) w' :=
  ⟨fun _ => by rw [h], fun e => absurd (h.symm.trans e) h0, hb⟩
set_option maxRecDepth 100000 in
set_option maxHeartbeats 4000000 in
theorem batch_any (n : Int) (v : Value) (Z : List Int) (w : World) (hv : Ints w v Z) :
    Calls Tryd.prog 31 #[.int .i64 n, v] w (BatP n Z w) := by
  obtain ⟨p, c, rfl, g1, g2, g3, g4⟩ := id hv
  obtain ⟨b0, hb0⟩ : ∃ x, x = w.heap.size := ⟨_, rfl⟩
  obtain ⟨w1, hw1⟩ : ∃ x, x = w.alloc (.cells #[.slice p Z.length c] 41) := ⟨_, rfl⟩
  have hbel : Below w.heap.size w w1 := by rw [hw1]; exact (Below.refl _ _).alloc (Nat.le_refl _) _
  have hi : IdxB w1 b0 p c Z := ⟨by rw [hw1, hb0]; exact heap_alloc_new w _, by
    refine ⟨p, c, rfl, g1, g2, g3, fun j z hz => ?_⟩
    obtain ⟨a, ha, hc⟩ := g4 j z hz
    exact ⟨a, ha, (World.cell?_of_block (hbel.block _ (block_lt_of_cell hc))).trans hc⟩⟩
  have c0 : w1.cell? ⟨b0, 0, none⟩ = some (.slice p Z.length c) := cell_of_row _ _ _ _ _ _ hi.box
  obtain ⟨m, hm⟩ : ∃ m, m = Z.length := ⟨_, rfl⟩
  rw [← hm] at c0 g1 g2 hw1
  have HM := Lib.hid hm
  have HI := Lib.hid hi
  have HW := Lib.hid hw1
  have HB := Lib.hid hb0
  have HBEL := Lib.hid hbel
  clear hv g3 g4 hw1 hb0 hbel hi
  rw [← hm]
  clear hm
  go_enter Tryd.func31, Tryd.ntmps31
  go_upto_region 1 with fail
  rw [← HW.out, ← HB.out]
  go_wp2
  clear c0
  go_loopw [6, 7] (fun x y wr => ∃ (ok : Bool) (i : Nat), x = .bool ok ∧ y = .int .i64 (i : Int) ∧ Hid (1 ≤ i ∧ i ≤ m + 1 ∧ (ok = true ↔ RisTo Z i) ∧ IdxB wr b0 p c Z ∧ Below w.heap.size w wr)) (fun _ y _ => m - (intOf y).toNat)
  case atStart => exact ⟨true, 1, rfl, rfl, Lib.hid ⟨Nat.le_refl _, by omega, ⟨fun _ j x y hj => by omega, fun _ => rfl⟩, HI.out, HBEL.out⟩⟩
  case round =>
    clear HI HBEL
    obtain ⟨ok, i, rfl, rfl, hinv⟩ := hrel
    have c0 : wr.cell? ⟨b0, 0, none⟩ = some (.slice p m c) := by
      have := hinv.out.2.2.2.1.box
      rw [← HM.out] at this
      exact cell_of_row _ _ _ _ _ _ this
    have him : i ≤ 281474976710657 := by have := hinv.out.2.1; omega
    by_cases hlt : i < m
    · have hlti : (i : Int) < (m : Int) := by omega
      have hi0 : (0 : Int) ≤ (i : Int) := by omega
      obtain ⟨k, hk⟩ : ∃ k, k = i - 1 := ⟨_, rfl⟩
      have hik : i = k + 1 := by have := hinv.out.1; omega
      have hsub : (i : Int) - 1 = (k : Int) := by omega
      have hklt : (k : Int) < (m : Int) := by omega
      have hk0 : (0 : Int) ≤ (k : Int) := by omega
      have HLT : Hid (i < m ∧ i = k + 1) := Lib.hid ⟨hlt, hik⟩
      clear hlt hk hik
      cases ok with
      | false =>
        go_wp2_with fail
        go_quiet (fail)
        go_wp2
        refine ⟨⟨false, i + 1, rfl, by simp, Lib.hid ⟨by omega, by have := HLT.out; omega, ⟨(fun e => by cases e), fun h => ?_⟩, hinv.out.2.2.2.1.drewN nq, below_drewN hinv.out.2.2.2.2 nq⟩⟩, ?_⟩
        · exact hinv.out.2.2.1.2 (fun j x y hj => h j x y (by omega))
        · show m - ((i : Int) + 1).toNat < m - ((i : Int)).toNat
          have := HLT.out
          omega
      | true =>
        obtain ⟨x, hx⟩ : ∃ x, Z[k]? = some x := ⟨Z[k]'(by have := HM.out; have := HLT.out; omega), List.getElem?_eq_getElem _⟩
        obtain ⟨y, hy⟩ : ∃ x, Z[k + 1]? = some x := ⟨Z[k + 1]'(by have := HM.out; have := HLT.out; omega), List.getElem?_eq_getElem _⟩
        obtain ⟨p', c', hv, _, _, _, g4⟩ := hinv.out.2.2.2.1.ints
        cases hv
        obtain ⟨a, rfl, hcx⟩ := g4 k x hx
        obtain ⟨a', ha', hcy⟩ := g4 (k + 1) y hy
        cases ha'
        rw [← HLT.out.2] at hcy
        have hst := risTo_step hx hy
        have HST := Lib.hid hst
        clear hst hx hy g4
        by_cases hxy : x < y
        · go_wp2_with fail
          go_quiet (fail)
          go_wp2
          refine ⟨⟨true, i + 1, rfl, by simp, Lib.hid ⟨by omega, by have := HLT.out; omega, ⟨fun _ => ?_, fun _ => rfl⟩, hinv.out.2.2.2.1.drewN nq, below_drewN hinv.out.2.2.2.2 nq⟩⟩, ?_⟩
          · have h1 := hinv.out.2.2.1.1 (by simp)
            rw [HLT.out.2] at h1 ⊢
            exact HST.out.2 ⟨h1, hxy⟩
          · show m - ((i : Int) + 1).toNat < m - ((i : Int)).toNat
            have := HLT.out
            omega
        · go_wp2_with fail
          go_quiet (fail)
          go_wp2
          refine ⟨⟨false, i + 1, by rw [decide_eq_false (by omega)], by simp, Lib.hid ⟨by omega, by have := HLT.out; omega, ⟨(fun e => by cases e), fun h => ?_⟩, hinv.out.2.2.2.1.drewN nq, below_drewN hinv.out.2.2.2.2 nq⟩⟩, ?_⟩
          · rw [HLT.out.2] at h
            exact absurd (HST.out.1 h).2 (by omega)
          · show m - ((i : Int) + 1).toNat < m - ((i : Int)).toNat
            have := HLT.out
            omega
    · have hlti : ¬ (i : Int) < (m : Int) := by omega
      have hpw : ok = true ↔ Z.Pairwise (· < ·) := hinv.out.2.2.1.trans (risTo_iff Z i (by have := HM.out; omega))
      have HPW := Lib.hid hpw
      have HX : Hid (IdxB wr b0 p c Z ∧ Below w.heap.size w wr) := Lib.hid hinv.out.2.2.2
      clear hinv hlt hpw
      by_cases hn : n < 1 ∨ 1099511627776 < n
      · have CS := Lib.hid (fun w' => size_no n w' hn)
        have HE : Hid (batE n Z = 81) := Lib.hid (by unfold batE; rw [if_pos hn])
        clear hn
        go_wp2_with (go_at_call 46; with_reducible refine (CS.out _).mono ?_; rintro r wx ⟨rfl, hwx⟩; rw [hwx]; clear hwx wx)
        go_ret2
        exact batP_no HE.out (by decide) HX.out.2
      · have CS := Lib.hid (fun w' => size_yes n w' (by omega) (by omega))
        have HN := Lib.hid hn
        clear hn
        by_cases hm0 : m = 0
        · subst hm0
          have HE : Hid (batE n Z = 83) := Lib.hid (by unfold batE; rw [if_neg HN.out, if_pos (.inl HM.out.symm)])
          go_wp2_with (go_at_call 46; with_reducible refine (CS.out _).mono ?_; rintro r wx ⟨rfl, hwx⟩; rw [hwx]; clear hwx wx)
          go_ret2
          exact batP_no HE.out (by decide) HX.out.2
        · have hmi : ((m : Int) == 0) = false := by rw [beq_eq_false_iff_ne]; omega
          have hmp : 0 < m := by omega
          clear hm0
          by_cases h256 : 256 < m
          · have h2i : (256 : Int) < (m : Int) := by omega
            have HE : Hid (batE n Z = 83) := Lib.hid (by unfold batE; rw [if_neg HN.out, if_pos (.inr (by have := HM.out; omega))])
            clear h256
            go_wp2_with (go_at_call 46; with_reducible refine (CS.out _).mono ?_; rintro r wx ⟨rfl, hwx⟩; rw [hwx]; clear hwx wx)
            go_ret2
            exact batP_no HE.out (by decide) HX.out.2
          · have h2i : ¬ (256 : Int) < (m : Int) := by omega
            have HB2 : Hid (0 < m ∧ m ≤ 256) := Lib.hid ⟨hmp, by omega⟩
            clear h256
            cases ok with
            | false =>
              have HE : Hid (batE n Z = 82) := Lib.hid (by
                unfold batE
                rw [if_neg HN.out, if_neg (by have := HM.out; have := HB2.out; omega), if_pos (fun h => by have := HPW.out.2 h; cases this)])
              go_wp2_with (go_at_call 46; with_reducible refine (CS.out _).mono ?_; rintro r wx ⟨rfl, hwx⟩; rw [hwx]; clear hwx wx)
              go_ret2
              exact batP_no HE.out (by decide) HX.out.2
            | true =>
              have hrise : Z.Pairwise (· < ·) := HPW.out.1 rfl
              have HRISE := Lib.hid hrise
              clear hrise HPW
              have hmp0 : (0 : Int) < (m : Int) := by omega
              obtain ⟨k, hk⟩ : ∃ k, k = m - 1 := ⟨_, rfl⟩
              have hsub : (m : Int) - 1 = (k : Int) := by omega
              have hk0 : (0 : Int) ≤ (k : Int) := by omega
              have hkm : (k : Int) < (m : Int) := by omega
              obtain ⟨x, hx⟩ : ∃ x, Z[0]? = some x := ⟨Z[0]'(by have := HM.out; omega), List.getElem?_eq_getElem _⟩
              obtain ⟨y, hy⟩ : ∃ x, Z[k]? = some x := ⟨Z[k]'(by have := HM.out; omega), List.getElem?_eq_getElem _⟩
              have HXY : Hid (Z[0]? = some x ∧ Z[Z.length - 1]? = some y) := Lib.hid ⟨hx, by rw [← HM.out, ← hk]; exact hy⟩
              obtain ⟨p', c', hv, _, _, _, g4⟩ := HX.out.1.ints
              cases hv
              obtain ⟨a, rfl, hcx⟩ := g4 0 x hx
              obtain ⟨a', ha', hcy⟩ := g4 k y hy
              cases ha'
              have hcx0 : wr.cell? a = some (.int .i64 x) := by
                have e : a.add 0 = a := by unfold Addr.add; split <;> simp_all
                rwa [e] at hcx
              clear hx hy g4
              have hE4 : ∀ q : Nat, ((if (∃ z, Z[0]? = some z ∧ z < 0) ∨ (∃ z, Z[Z.length - 1]? = some z ∧ n ≤ z) then 80 else 0 : Nat) = q) → batE n Z = q := fun q h => by
                unfold batE
                rw [if_neg HN.out, if_neg (by have := HM.out; have := HB2.out; omega), if_neg (fun hh => hh HRISE.out)]
                exact h
              have HE4 := Lib.hid hE4
              clear hE4 hk
              by_cases hx0 : x < 0
              · have HE : Hid (batE n Z = 80) := Lib.hid (HE4.out _ (if_pos (.inl ⟨x, HXY.out.1, hx0⟩)))
                go_wp2_with (go_at_call 46; with_reducible refine (CS.out _).mono ?_; rintro r wx ⟨rfl, hwx⟩; rw [hwx]; clear hwx wx)
                go_ret2
                exact batP_no HE.out (by decide) HX.out.2
              · by_cases hyn : n ≤ y
                · have HE : Hid (batE n Z = 80) := Lib.hid (HE4.out _ (if_pos (.inr ⟨y, HXY.out.2, hyn⟩)))
                  go_wp2_with (go_at_call 46; with_reducible refine (CS.out _).mono ?_; rintro r wx ⟨rfl, hwx⟩; rw [hwx]; clear hwx wx)
                  go_ret2
                  exact batP_no HE.out (by decide) HX.out.2
                · have HE : Hid (batE n Z = 0) := Lib.hid (HE4.out _ (if_neg (by
                    rintro (⟨z, h1, h2⟩ | ⟨z, h1, h2⟩)
                    · rw [HXY.out.1] at h1; cases h1; exact hx0 h2
                    · rw [HXY.out.2] at h1; cases h1; exact hyn h2)))
                  obtain ⟨N, hNn⟩ : ∃ N : Nat, n = (N : Int) := ⟨n.toNat, by have := HN.out; omega⟩
                  subst hNn
                  have CR := Lib.hid (rest_any 0 (N : Int) 64 b0 wr)
                  have CC := Lib.hid (collect_rest (batch_look Z (some a) c b0 HRISE.out (by have := HM.out; have := HB2.out; omega) (by have := HM.out; have := HB2.out; omega)) (Nat.le_refl _) N (by have := HN.out; omega) (by have := HN.out; omega) wr HX.out.1)
                  obtain ⟨L, hL⟩ : ∃ L, L = restT (lookZ Z) 0 N := ⟨_, rfl⟩
                  rw [← hL] at CC
                  have HL := Lib.hid hL
                  clear hL
                  go_wp2_with (first
                    | (go_at_call 46; with_reducible refine (CS.out _).mono ?_; rintro r wx ⟨rfl, hwx⟩; rw [hwx]; clear hwx wx)
                    | (go_at_call 58; with_reducible refine CR.out.mono ?_; rintro r wx ⟨rfl, hwx⟩; rw [hwx]; clear hwx wx)
                    | (go_at_call 57; refine CC.out.mono ?_; rintro r w6 ⟨⟨p6, c6, rfl, hc, hh, ho⟩, hb⟩; have HR := Lib.hid (And.intro hh (And.intro ho hb)); have HCL := Lib.hid (fun w' => clipS_any p6 L.length c6 w' hc); clear hc hh ho hb)
                    | (go_at_call 53; with_reducible refine (HCL.out _).mono ?_; rintro r wx ⟨rfl, hwx⟩; rw [hwx]; clear hwx wx))
                  go_ret2
                  refine ⟨fun e => absurd HE.out e, fun _ => ⟨p6, L.length, by rw [Int.toNat_natCast, ← HL.out]; rfl, ?_, ?_⟩, below_onS HX.out.2 HR.out.2.2 HX.out.2.size⟩
                  · rw [Int.toNat_natCast, ← HL.out]
                    exact HR.out.1.clip
                  · rw [Int.toNat_natCast, ← HL.out]
                    intro g hg
                    cases p6 with
                    | none => cases hg
                    | some a => exact Nat.le_trans HX.out.2.size (HR.out.2.1 g hg)
end Go.Proofs.YteknpnanmbfhfaaDoor
/- Shape, walked: fold's IndexFunc. -/
namespace Go.Scr
abbrev Kn := Nat × Nat × ByteArray
def hitK (lo hi : Nat) (x : Kn) : Bool := decide (x.1 = lo ∧ x.2.1 = hi)
def knV1 (x : Kn) : List Value := [.int .i64 (x.1 : Int), .int .i64 (x.2.1 : Int), .string x.2.2]
def knV (K : List Kn) : List Value := (K.map knV1).flatten
theorem knV_append (A B : List Kn) : knV (A ++ B) = knV A ++ knV B := by simp [knV]
theorem knV_cons (a : Kn) (K : List Kn) : knV (a :: K) = .int .i64 (a.1 : Int) :: .int .i64 (a.2.1 : Int) :: .string a.2.2 :: knV K := by simp [knV, knV1]
theorem knV_get {K : List Kn} : ∀ {j : Nat} {x : Kn}, K[j]? = some x → (knV K)[j * 3]? = some (.int .i64 (x.1 : Int)) ∧ (knV K)[j * 3 + 1]? = some (.int .i64 (x.2.1 : Int)) ∧ (knV K)[j * 3 + 1 + 1]? = some (.string x.2.2) := by
  induction K with
  | nil => intro j x h; simp at h
  | cons a K ih =>
    intro j x h
    cases j with
    | zero =>
      simp at h
      subst h
      rw [knV_cons]
      simp
    | succ j =>
      have := ih (j := j) (x := x) (by simpa using h)
      have e : ∀ i, (knV (a :: K))[i + 3]? = (knV K)[i]? := fun i => by rw [knV_cons]; rfl
      rw [show (j + 1) * 3 = j * 3 + 3 by omega, show j * 3 + 3 + 1 = (j * 3 + 1) + 3 by omega, show (j * 3 + 1) + 3 + 1 = (j * 3 + 1 + 1) + 3 by omega, e, e, e]
      exact this
/-- the first place of a span among known ones; -1: none -/
def idxK (K : List Kn) (lo hi : Nat) : Int := match K.findIdx? (hitK lo hi) with
  | some i => i
  | none => -1
theorem idxK_none {K : List Kn} {lo hi : Nat} (h : ∀ (j : Nat) (x : Kn), K[j]? = some x → ¬ (x.1 = lo ∧ x.2.1 = hi)) : idxK K lo hi = -1 := by
  unfold idxK
  have : K.findIdx? (hitK lo hi) = none := by
    rw [List.findIdx?_eq_none_iff]
    intro x hx
    obtain ⟨j, hj⟩ := List.getElem?_of_mem hx
    exact decide_eq_false (h j x hj)
  rw [this]
theorem idxK_at {K : List Kn} {lo hi i : Nat} {x : Kn} (h : ∀ (j : Nat) (x : Kn), j < i → K[j]? = some x → ¬ (x.1 = lo ∧ x.2.1 = hi)) (hx : K[i]? = some x) (hh : x.1 = lo ∧ x.2.1 = hi) : idxK K lo hi = (i : Int) := by
  unfold idxK
  have : K.findIdx? (hitK lo hi) = some i := by
    obtain ⟨hi', rfl⟩ := List.getElem?_eq_some_iff.mp hx
    rw [List.findIdx?_eq_some_iff_getElem]
    exact ⟨hi', decide_eq_true hh, fun j hj => by
      have := h j _ hj (List.getElem?_eq_getElem (by omega))
      simpa [hitK] using this⟩
  rw [this]
end Go.Scr
namespace Go.Proofs.YteknpnanmbfhfaaDoor
open Go.RowKit Go.Scr Go.Shelf
set_option linter.unusedVariables false
theorem info_kn : (Tryd.prog.info? 109).map (fun i => (i.zero, i.size, i.bytes)) = some (some (.agg #[.int .i64 0, .int .i64 0, .string ⟨#[]⟩]), 3, 32) := by kernel_rfl
set_option maxRecDepth 100000 in
set_option maxHeartbeats 1000000 in
theorem fold1_any (b e lo hi bs : Nat) (h : ByteArray) (W : World) (hs : spRow W bs lo hi) :
    Calls Tryd.prog 102 #[.agg #[.int .i64 (b : Int), .int .i64 (e : Int), .string h], ptr0 bs] W fun r w' => r = .returned (.bool (decide (b = lo ∧ e = hi))) ∧ Below W.heap.size W w' := by
  have hq : ∀ w', (binOp .eql 29 (.agg #[.int .i64 (b : Int), .int .i64 (e : Int)]) (.agg #[.int .i64 (lo : Int), .int .i64 (hi : Int)])).run Tryd.prog w' = .ok (.bool (decide (b = lo ∧ e = hi))) w' := fun w' => by
    rw [span_eql]
    congr 2
    rw [Bool.eq_iff_iff, Bool.and_eq_true, beq_iff_eq, beq_iff_eq, decide_eq_true_eq]
    omega
  obtain ⟨res, hres⟩ : ∃ r, r = decide (b = lo ∧ e = hi) := ⟨_, rfl⟩
  rw [← hres] at hq ⊢
  obtain ⟨b0, hb0⟩ : ∃ x, x = W.heap.size := ⟨_, rfl⟩
  obtain ⟨w1, hw1⟩ : ∃ x, x = W.alloc (.cells #[.int .i64 (b : Int), .int .i64 (e : Int), .string h] 109) := ⟨_, rfl⟩
  have hbel : Below W.heap.size W w1 := by rw [hw1]; exact (Below.refl _ _).alloc (Nat.le_refl _) _
  have r0 : w1.heap[b0]? = some (.cells #[.int .i64 (b : Int), .int .i64 (e : Int), .string h] 109 (0, 0)) := by rw [hw1, hb0]; exact heap_alloc_new W _
  have d0 : w1.cell? ⟨b0, 0, none⟩ = some (.int .i64 (b : Int)) := cell_of_row _ _ _ _ _ _ r0
  have d1 : w1.cell? ⟨b0, 1, none⟩ = some (.int .i64 (e : Int)) := cell_of_row _ _ _ _ _ _ r0
  obtain ⟨c0, c1, _⟩ := (hs.keep (hbel.block _ hs.lt)).at
  have HW := Lib.hid hw1
  have HB := Lib.hid hb0
  have HBEL := Lib.hid hbel
  clear hres hw1 hb0 hbel r0 hs
  go_enter Tryd.func102, Tryd.ntmps102
  go_upto_region 1 with fail
  rw [← HW.out, ← HB.out]
  go_wp2
  go_ret
  exact ⟨rfl, HBEL.out⟩
set_option maxRecDepth 100000 in
set_option maxHeartbeats 2000000 in
theorem index_any (K : List Kn) (lo hi bs : Nat) (v : Value) (w : World) (h : Held w 109 3 v K.length (knV K)) (hs : spRow w bs lo hi) (hl : K.length ≤ 1099511627776) :
    Calls Tryd.prog 101 #[v, .func (.func 102) #[] #[ptr0 bs]] w fun r w' => r = .returned (.int .i64 (idxK K lo hi)) ∧ Below w.heap.size w w' := by
  obtain ⟨p, c, rfl, hnc, hcm, _⟩ := h.cells
  obtain ⟨n, hn⟩ : ∃ x, x = K.length := ⟨_, rfl⟩
  rw [← hn] at h hnc hl
  have HN := Lib.hid hn
  have HH := Lib.hid h
  have HS := Lib.hid hs
  rw [← hn]
  clear hn h hs
  have heg := enters_of (w := w) Tryd.func102 (by kernel_rfl) rfl
  go_enter Tryd.func101, Tryd.ntmps101
  go_wp2_with fail
  go_loopw [8] (fun x wr => ∃ i : Nat, x = .int .i64 i ∧ Hid (i ≤ n ∧ Below w.heap.size w wr ∧ ∀ j x, j < i → K[j]? = some x → ¬ (x.1 = lo ∧ x.2.1 = hi))) (fun x _ => n - (intOf x).toNat)
  case atStart => exact ⟨0, rfl, Lib.hid ⟨Nat.zero_le _, Below.refl _ _, fun j x hj => by omega⟩⟩
  case round =>
    obtain ⟨i, rfl, hinv⟩ := hrel
    by_cases hlt : i < n
    · have hlti : (i : Int) < (n : Int) := by omega
      have hi0 : (0 : Int) ≤ (i : Int) := by omega
      have hin : i ≤ 1099511627776 := by omega
      obtain ⟨⟨kb, ke, kh⟩, hx⟩ : ∃ x, K[i]? = some x := ⟨K[i]'(by have := HN.out; omega), List.getElem?_eq_getElem _⟩
      obtain ⟨q0, q1, q2⟩ := knV_get hx
      have hhd := HH.out.below hinv.out.2.1
      obtain ⟨p', c', hpe, _, _, hce⟩ := hhd.cells
      cases hpe
      obtain ⟨g, rfl⟩ : ∃ g, p = some ⟨g, 0, none⟩ := by
        rcases hhd.2 with ⟨e, _⟩ | ⟨g, _, _, e, _⟩
        · omega
        · exact ⟨g, by cases e; rfl⟩
      have hcg : ∀ k u, (knV K)[k]? = some u → wr.cell? ⟨g, k, none⟩ = some u := fun k u hk => by
        obtain ⟨a, ha, _, hc⟩ := hce k u hk
        cases ha
        have hadd : (⟨g, 0, none⟩ : Addr).add k = ⟨g, k, none⟩ := by unfold Addr.add; split <;> simp_all
        rw [hadd] at hc
        exact hc
      have k0 := hcg _ _ q0
      have k1 := hcg _ _ q1
      have k2 := hcg _ _ q2
      have hsr : spRow wr bs lo hi := HS.out.keep (hinv.out.2.1.block _ HS.out.lt)
      have C1 := Lib.hid (fold1_any kb ke lo hi bs kh wr hsr)
      have HX := Lib.hid hx
      have HLT := Lib.hid hlt
      clear hlt hx q0 q1 q2 hhd hce hcg hsr
      by_cases hm : kb = lo ∧ ke = hi
      · rw [decide_eq_true hm] at C1
        have HM := Lib.hid hm
        clear hm
        go_wp2_with (go_at_call 102; with_reducible refine C1.out.mono ?_; rintro r w5 ⟨rfl, hb5⟩; have HB5 := Lib.hid hb5; clear hb5)
        go_ret
        exact ⟨by rw [idxK_at hinv.out.2.2 HX.out HM.out]; rfl, below_onS hinv.out.2.1 HB5.out hinv.out.2.1.size⟩
      · rw [decide_eq_false hm] at C1
        have HM := Lib.hid hm
        clear hm
        go_wp2_with (go_at_call 102; with_reducible refine C1.out.mono ?_; rintro r w5 ⟨rfl, hb5⟩; have HB5 := Lib.hid hb5; clear hb5)
        refine ⟨⟨i + 1, by simp, Lib.hid ⟨HLT.out, below_onS hinv.out.2.1 HB5.out hinv.out.2.1.size, fun j x hj hx => ?_⟩⟩, ?_⟩
        · rcases Nat.lt_or_ge j i with h | h
          · exact hinv.out.2.2 j x h hx
          · have : j = i := by omega
            subst this
            rw [HX.out] at hx
            cases hx
            exact HM.out
        · show n - ((i : Int) + 1).toNat < n - (i : Int).toNat
          have := HLT.out
          omega
    · have hlti : ¬ (i : Int) < (n : Int) := by omega
      have HD : Hid (idxK K lo hi = -1) := Lib.hid (idxK_none (fun j x hx => hinv.out.2.2 j x (by have := (List.getElem?_eq_some_iff.mp hx).1; have := HN.out; omega) hx))
      clear hlt
      go_wp2_with fail
      go_ret
      exact ⟨by rw [HD.out]; rfl, hinv.out.2.1⟩
end Go.Proofs.YteknpnanmbfhfaaDoor
