/- Shape, walked: Fold. -/
import Derived.Test.YteknpnanmbfhfaaDoorMa23
import Derived.Test.YteknpnanmbfhfaaDoorMa20
namespace Go.Scr
/-- what is known within a span -/
def knK (lo hi : Int) (S : List (Int × Int)) (H : List ByteArray) : List Kn := (S.zip H).filterMap fun x => if lo ≤ x.1.1 ∧ x.1.2 ≤ hi ∧ x.1.1 < x.1.2 then some (x.1.1.toNat, x.1.2.toNat, x.2) else none
theorem knK_step {lo hi : Int} {S : List (Int × Int)} {H : List ByteArray} {i : Nat} {x : Int × Int} {h : ByteArray} (hx : S[i]? = some x) (hh : H[i]? = some h) :
    knK lo hi (S.take (i + 1)) (H.take (i + 1)) = knK lo hi (S.take i) (H.take i) ++ if lo ≤ x.1 ∧ x.2 ≤ hi ∧ x.1 < x.2 then [(x.1.toNat, x.2.toNat, h)] else [] := by
  unfold knK
  obtain ⟨h1, rfl⟩ := List.getElem?_eq_some_iff.mp hx
  obtain ⟨h2, rfl⟩ := List.getElem?_eq_some_iff.mp hh
  rw [List.take_succ_eq_append_getElem h1, List.take_succ_eq_append_getElem h2, List.zip_append (by simp; omega), List.filterMap_append]
  congr 1
  simp only [List.zip_cons_cons, List.zip_nil_right, List.filterMap_cons, List.filterMap_nil]
  split <;> simp_all
theorem knK_mem {lo hi : Int} {S : List (Int × Int)} {H : List ByteArray} (h0 : 0 ≤ lo) {x : Kn} (h : x ∈ knK lo hi S H) : x.1 < x.2.1 := by
  unfold knK at h
  rw [List.mem_filterMap] at h
  obtain ⟨y, _, hy⟩ := h
  split at hy
  · cases hy
    show y.1.1.toNat < y.1.2.toNat
    omega
  · cases hy
theorem knK_length (lo hi : Int) (S : List (Int × Int)) (H : List ByteArray) : (knK lo hi S H).length ≤ S.length := by
  unfold knK
  refine Nat.le_trans (List.length_filterMap_le _ _) ?_
  rw [List.length_zip]
  omega
end Go.Scr
namespace Go.Proofs.YteknpnanmbfhfaaDoor
open Go.RowKit Go.Scr Go.Shelf
set_option linter.unusedVariables false
set_option maxRecDepth 100000 in
set_option maxHeartbeats 400000 in
theorem foldc1_any (s : ByteArray) (w : World) :
    Calls Tryd.prog 78 #[.string s] w fun e w' => e = .returned (.bool (!(s.size == 32))) ∧ w' = w := by
  go_enter Tryd.func78, Tryd.ntmps78
  go_wp2
  go_ret
  refine ⟨?_, rfl⟩
  show Ending.returned (.bool ((s.size : Int) != 32)) = .returned (.bool (!(s.size == 32)))
  by_cases h : s.size = 32
  · have e1 : ((s.size : Int) != 32) = false := by rw [bne_eq_false_iff_eq]; omega
    have e2 : (s.size == 32) = true := beq_iff_eq.2 h
    rw [e1, e2]; rfl
  · have e1 : ((s.size : Int) != 32) = true := by rw [bne_iff_ne]; omega
    have e2 : (s.size == 32) = false := beq_eq_false_iff_ne.2 h
    rw [e1, e2]; rfl

set_option maxRecDepth 100000 in
set_option maxHeartbeats 1000000 in
theorem indexfuncF_any (v : Value) (L : List ByteArray) (w : World) (hv : Txts w v L) :
    Calls Tryd.prog 100 #[v, .func (.func 78) #[] #[]] w fun e w' => ∃ z : Int, e = .returned (.int .i64 z) ∧ (ok32 L = true → z = -1) ∧ (ok32 L = false → 0 ≤ z) ∧ w' = w := by
  obtain ⟨p, c, rfl, hv1, hv2, hv3⟩ := hv
  obtain ⟨n, hn⟩ : ∃ n, n = L.length := ⟨_, rfl⟩
  rw [← hn] at hv1 ⊢
  have HN := Lib.hid hn
  have HV := Lib.hid hv3
  have hnb : n ≤ 281474976710656 := by omega
  clear hn hv2 hv3 hv1
  go_enter Tryd.func100, Tryd.ntmps100
  go_wp2
  go_loop [8] (fun q => ∃ k : Nat, k ≤ n ∧ q = .int .i64 k ∧ Hid (ok32 (L.take k) = true)) (fun q => n - (intOf q).toNat)
  case atStart => exact ⟨0, by omega, rfl, Lib.hid rfl⟩
  case round =>
    obtain ⟨k, hk, rfl, hall⟩ := hrel
    by_cases hlt : k < n
    · obtain ⟨s, hs⟩ : ∃ s, L[k]? = some s := ⟨L[k]'(by rw [← HN.out]; exact hlt), List.getElem?_eq_getElem _⟩
      obtain ⟨a, rfl, hc⟩ := HV.out k s hs
      have HS := Lib.hid hs
      clear hs
      have HC := Lib.hid (foldc1_any s w)
      by_cases h32 : s.size = 32
      · rw [show (!(s.size == 32)) = false by simp [h32]] at HC
        have HALL := Lib.hid (by rw [ok32_take HS.out, hall.out]; simp [h32] : ok32 (L.take (k + 1)) = true)
        clear h32
        go_wp2_with (go_at_call 78; with_reducible refine (HC.out).mono ?_; rintro e w2 ⟨rfl, hw⟩; rw [hw]; clear hw w2)
        exact ⟨⟨k + 1, by omega, rfl, HALL⟩, (by show n - ((k : Int) + 1).toNat < n - (k : Int).toNat; omega)⟩
      · rw [show (!(s.size == 32)) = true by simp [h32]] at HC
        have HBAD := Lib.hid (ok32_bad HS.out h32)
        clear h32
        go_wp2_with (go_at_call 78; with_reducible refine (HC.out).mono ?_; rintro e w2 ⟨rfl, hw⟩; rw [hw]; clear hw w2)
        go_ret
        exact ⟨(k : Int), rfl, (fun h => (by rw [HBAD.out] at h; cases h)), (fun _ => Int.natCast_nonneg k), rfl⟩
    · have HK := Lib.hid (by have := hall.out; rwa [show k = n by omega, HN.out, List.take_length] at this : ok32 L = true)
      go_wp2
      go_ret
      exact ⟨-1, rfl, fun _ => rfl, fun h => (by rw [HK.out] at h; cases h), rfl⟩

set_option maxRecDepth 100000 in
set_option maxHeartbeats 400000 in
theorem containsfuncF_any (v : Value) (L : List ByteArray) (w : World) (hv : Txts w v L) :
    Calls Tryd.prog 77 #[v, .func (.func 78) #[] #[]] w fun e w' => e = .returned (.bool (!ok32 L)) ∧ w' = w := by
  have HI := Lib.hid (indexfuncF_any v L w hv)
  obtain ⟨p, c, rfl, hv1, hv2, hv3⟩ := hv
  obtain ⟨b, hb⟩ : ∃ b, b = ok32 L := ⟨_, rfl⟩
  rw [← hb] at HI ⊢
  clear hv1 hv2 hv3 hb
  cases b with
  | true =>
    go_enter Tryd.func77, Tryd.ntmps77
    go_wp2_with (go_at_call 100; with_reducible refine (HI.out).mono ?_; rintro e w2 ⟨z, rfl, hz, _, hw⟩; rw [hw]; clear hw w2; have hz2 := hz rfl; clear hz; subst hz2)
    go_ret
    exact ⟨rfl, rfl⟩
  | false =>
    go_enter Tryd.func77, Tryd.ntmps77
    go_wp2_with (go_at_call 100; with_reducible refine (HI.out).mono ?_; rintro e w2 ⟨z, rfl, _, hz, hw⟩; rw [hw]; clear hw w2; have hz2 : (0 : Int) ≤ z := hz rfl; clear hz)
    go_ret
    exact ⟨rfl, rfl⟩

/-- v is a list of spans of any numbers -/
def SpZ (w : World) (v : Value) (S : List (Int × Int)) : Prop :=
  ∃ (p : Option Addr) (c : Nat), v = .slice p S.length c ∧ S.length ≤ c ∧ S.length ≤ 281474976710656 ∧ (∀ x ∈ S, -9223372036854775808 ≤ x.1 ∧ x.1 ≤ 9223372036854775807 ∧ -9223372036854775808 ≤ x.2 ∧ x.2 ≤ 9223372036854775807) ∧ ∀ j x, S[j]? = some x → ∃ g o, p = some ⟨g, o, none⟩ ∧ w.cell? ⟨g, o + j * 2, none⟩ = some (.int .i64 x.1) ∧ w.cell? ⟨g, o + j * 2 + 1, none⟩ = some (.int .i64 x.2)
theorem SpZ.below {w w' : World} {B : Nat} {v : Value} {S : List (Int × Int)} (h : SpZ w v S) (hb : Below B w w') (hB : w.heap.size ≤ B) : SpZ w' v S := by
  obtain ⟨p, c, h1, h2, h3, h4, h5⟩ := h
  refine ⟨p, c, h1, h2, h3, h4, fun j x hx => ?_⟩
  obtain ⟨g, o, hp, c0, c1⟩ := h5 j x hx
  have e := hb.block g (Nat.lt_of_lt_of_le (block_lt_of_cell c0) hB)
  exact ⟨g, o, hp, (World.cell?_of_block e).trans c0, (World.cell?_of_block e).trans c1⟩
def foldO : Option ByteArray → ByteArray × Nat
  | none => (⟨#[]⟩, 82)
  | some h => (h, 0)
/-- what Fold answers -/
def foldP (n : Int) (S : List (Int × Int)) (H : List ByteArray) (lo hi : Int) : ByteArray × Nat :=
  if n < 1 ∨ 1099511627776 < n then (⟨#[]⟩, 81) else if S.length ≠ H.length ∨ 4096 < S.length then (⟨#[]⟩, 83) else if ok32 H = false then (⟨#[]⟩, 1) else if insideZ n lo hi = false then (⟨#[]⟩, 80) else foldO (foldT (hi - lo).toNat lo.toNat (knK lo hi S H))
def foldPV (x : ByteArray × Nat) : Value := .tuple #[.string x.1, .int .i64 (x.2 : Int)]
/-- what stands at the head of Fold's loop -/
structure FlI (A wr : World) (lo hi : Int) (S : List (Int × Int)) (H : List ByteArray) (i : Nat) (v : Value) : Prop where
  hd : Held wr 109 3 v (knK lo hi (S.take i) (H.take i)).length (knV (knK lo hi (S.take i) (H.take i)))
  ow : ∀ g, v.ownBlock = some g → A.heap.size ≤ g
  bel : Below A.heap.size A wr
theorem FlI.push {A wr w5 : World} {lo hi : Int} {S : List (Int × Int)} {H : List ByteArray} {i : Nat} {v v5 : Value} {o o2 : Obj} {x : Int × Int} {h : ByteArray} (f : FlI A wr lo hi S H i v) (hx : S[i]? = some x) (hh : H[i]? = some h) (hc : lo ≤ x.1 ∧ x.2 ≤ hi ∧ x.1 < x.2) (h0 : 0 ≤ lo)
    (g : Grew 109 3 ((wr.alloc o).drew.alloc o2) v (knK lo hi (S.take i) (H.take i)).length 1 (knV (knK lo hi (S.take i) (H.take i))) [.int .i64 x.1, .int .i64 x.2, .string h] v5 w5) : FlI A w5 lo hi S H (i + 1) v5 := by
  have hgr : (wr.alloc o).drew.grownBy w5 v.ownBlock := grown_alloc g.grown
  have hat := grew_own g
  have hsz : (wr.alloc o).drew.heap.size = wr.heap.size + 1 := (show (wr.alloc o).heap.size = wr.heap.size + 1 by simp)
  have hs := f.bel.size
  have hbA : Below A.heap.size A (wr.alloc o).drew := (f.bel.alloc hs _).drew
  have e1 := knK_step (lo := lo) (hi := hi) hx hh
  rw [if_pos hc] at e1
  refine ⟨?_, ?_, hbA.grown hgr (by omega) f.ow⟩
  · rw [e1, List.length_append, knV_append]
    have hh := g.held
    have e2 : knV [(x.1.toNat, x.2.toNat, h)] = [.int .i64 x.1, .int .i64 x.2, .string h] := by
      rw [knV_cons]
      show [Value.int .i64 (x.1.toNat : Int), .int .i64 (x.2.toNat : Int), .string h] = _
      rw [Int.toNat_of_nonneg (by omega), Int.toNat_of_nonneg (by omega)]
    rw [e2]
    exact hh
  · intro q hq
    rcases hat q hq with h3 | h3
    · exact f.ow q h3
    · omega
theorem FlI.skip {A wr : World} {lo hi : Int} {S : List (Int × Int)} {H : List ByteArray} {i : Nat} {v : Value} {o : Obj} {x : Int × Int} {h : ByteArray} (f : FlI A wr lo hi S H i v) (hx : S[i]? = some x) (hh : H[i]? = some h) (hc : ¬ (lo ≤ x.1 ∧ x.2 ≤ hi ∧ x.1 < x.2)) : FlI A (wr.alloc o) lo hi S H (i + 1) v := by
  have hb : Below wr.heap.size wr (wr.alloc o) := (Below.refl _ _).alloc (Nat.le_refl _) _
  have e1 := knK_step (lo := lo) (hi := hi) hx hh
  rw [if_neg hc, List.append_nil] at e1
  refine ⟨?_, f.ow, below_onS f.bel hb f.bel.size⟩
  rw [e1]
  exact f.hd.below hb
set_option maxRecDepth 100000 in
set_option maxHeartbeats 4000000 in
theorem foldW_any (n lo hi : Int) (vs vh : Value) (S : List (Int × Int)) (H : List ByteArray) (w : World) (hs : SpZ w vs S) (hh : Txts w vh H) (ht : Tabs w) :
    Calls Tryd.prog 41 #[.int .i64 n, vs, vh, .agg #[.int .i64 lo, .int .i64 hi]] w fun r w' => r = .returned (foldPV (foldP n S H lo hi)) ∧ Below w.heap.size w w' := by
  obtain ⟨b0, hb0⟩ : ∃ x, x = w.heap.size := ⟨_, rfl⟩
  obtain ⟨w1, hw1⟩ : ∃ x, x = w.alloc (.cells #[.int .i64 lo, .int .i64 hi] 29) := ⟨_, rfl⟩
  have hbel : Below w.heap.size w w1 := by rw [hw1]; exact (Below.refl _ _).alloc (Nat.le_refl _) _
  have r0 : w1.heap[b0]? = some (.cells #[.int .i64 lo, .int .i64 hi] 29 (0, 0)) := by rw [hw1, hb0]; exact heap_alloc_new w _
  have d0 : w1.cell? ⟨b0, 0, none⟩ = some (.int .i64 lo) := cell_of_row _ _ _ _ _ _ r0
  have d1 : w1.cell? ⟨b0, 1, none⟩ = some (.int .i64 hi) := cell_of_row _ _ _ _ _ _ r0
  have CC := Lib.hid (containsfuncF_any vh H w1 (hh.below hbel (Nat.le_refl _)))
  have CI := Lib.hid (inside_any n lo hi w1)
  obtain ⟨p, c, rfl, s1, s2, s3, s4⟩ := id hs
  obtain ⟨q, cq, rfl, t1, t2, t3⟩ := id hh
  obtain ⟨m, hm⟩ : ∃ m, m = S.length := ⟨_, rfl⟩
  obtain ⟨k, hk⟩ : ∃ k, k = H.length := ⟨_, rfl⟩
  have HST : Hid (SpZ w (.slice p S.length c) S ∧ Txts w (.slice q H.length cq) H ∧ Tabs w) := Lib.hid ⟨hs, hh, ht⟩
  obtain ⟨R, hR⟩ : ∃ R, R = foldP n S H lo hi := ⟨_, rfl⟩
  have HR := Lib.hid hR
  have HM := Lib.hid hm
  have HK := Lib.hid hk
  have HW := Lib.hid hw1
  have HB := Lib.hid hb0
  have HBEL := Lib.hid hbel
  rw [← hm] at s1 s2
  rw [← hk] at t1 t2 CC
  rw [← hm, ← hk, ← hR]
  clear hs hh ht hw1 hb0 hbel r0 s3 s4 t3 hm hk hR
  by_cases hn : n < 1 ∨ 1099511627776 < n
  · have CS := Lib.hid (fun w' => size_no n w' hn)
    have hr : R = (⟨#[]⟩, 81) := by rw [HR.out, foldP, if_pos hn]
    subst hr
    clear hn
    go_enter Tryd.func41, Tryd.ntmps41
    go_upto_region 1 with fail
    rw [← HW.out, ← HB.out]
    go_wp2_with (go_at_call 46; with_reducible refine (CS.out _).mono ?_; rintro r wx ⟨rfl, hwx⟩; rw [hwx]; clear hwx wx)
    go_ret2
    exact ⟨rfl, HBEL.out⟩
  · have CS := Lib.hid (fun w' => size_yes n w' (by omega) (by omega))
    have HN := Lib.hid hn
    clear hn
    by_cases hmk : m = k
    · subst hmk
      by_cases h4 : 4096 < m
      · have h4i : (4096 : Int) < (m : Int) := by omega
        have hr : R = (⟨#[]⟩, 83) := by rw [HR.out, foldP, if_neg HN.out, if_pos (.inr (by have := HM.out; omega))]
        subst hr
        clear h4
        go_enter Tryd.func41, Tryd.ntmps41
        go_upto_region 1 with fail
        rw [← HW.out, ← HB.out]
        go_wp2_with (go_at_call 46; with_reducible refine (CS.out _).mono ?_; rintro r wx ⟨rfl, hwx⟩; rw [hwx]; clear hwx wx)
        go_ret2
        exact ⟨rfl, HBEL.out⟩
      · have h4i : ¬ (4096 : Int) < (m : Int) := by omega
        have h3 : ¬ (S.length ≠ H.length ∨ 4096 < S.length) := by have := HM.out; have := HK.out; omega
        have HR3 := Lib.hid h3
        have hm4 : m ≤ 4096 := by omega
        clear h4 h3
        cases h32 : ok32 H with
        | false =>
          rw [h32] at CC
          have hr : R = (⟨#[]⟩, 1) := by rw [HR.out, foldP, if_neg HN.out, if_neg HR3.out, if_pos h32]
          subst hr
          clear h32
          go_enter Tryd.func41, Tryd.ntmps41
          go_upto_region 1 with fail
          rw [← HW.out, ← HB.out]
          go_wp2_with (first
            | (go_at_call 46; with_reducible refine (CS.out _).mono ?_; rintro r wx ⟨rfl, hwx⟩; rw [hwx]; clear hwx wx)
            | (go_at_call 77; with_reducible refine CC.out.mono ?_; rintro r wx ⟨rfl, hwx⟩; rw [hwx]; clear hwx wx))
          go_ret2
          exact ⟨rfl, HBEL.out⟩
        | true =>
          rw [h32] at CC
          have H32 := Lib.hid h32
          clear h32
          cases hin : insideZ n lo hi with
          | false =>
            rw [hin] at CI
            have hr : R = (⟨#[]⟩, 80) := by rw [HR.out, foldP, if_neg HN.out, if_neg HR3.out, if_neg (by rw [H32.out]; decide), if_pos hin]
            subst hr
            clear hin
            go_enter Tryd.func41, Tryd.ntmps41
            go_upto_region 1 with fail
            rw [← HW.out, ← HB.out]
            go_wp2_with (first
              | (go_at_call 46; with_reducible refine (CS.out _).mono ?_; rintro r wx ⟨rfl, hwx⟩; rw [hwx]; clear hwx wx)
              | (go_at_call 77; with_reducible refine CC.out.mono ?_; rintro r wx ⟨rfl, hwx⟩; rw [hwx]; clear hwx wx)
              | (go_at_call 15; with_reducible refine CI.out.mono ?_; rintro r w2 ⟨rfl, hb2⟩; have HB2 := Lib.hid hb2; clear hb2))
            go_ret2
            exact ⟨rfl, below_onS HBEL.out HB2.out HBEL.out.size⟩
          | true =>
            have hin2 : 1 ≤ n ∧ n ≤ 1099511627776 ∧ 0 ≤ lo ∧ lo < hi ∧ hi ≤ n := by
              unfold insideZ at hin
              by_cases h : 1 ≤ n ∧ n ≤ 1099511627776 ∧ 0 ≤ lo ∧ lo < hi ∧ hi ≤ n
              · exact h
              · rw [if_neg h] at hin; cases hin
            have HIN := Lib.hid hin
            rw [hin] at CI
            clear hin
            obtain ⟨lo, rfl⟩ := Int.eq_ofNat_of_zero_le hin2.2.2.1
            obtain ⟨hi, rfl⟩ := Int.eq_ofNat_of_zero_le (show 0 ≤ hi by omega)
            have HI2 : Hid (lo < hi ∧ hi ≤ 1099511627776) := Lib.hid ⟨by omega, by omega⟩
            obtain ⟨K, hK⟩ : ∃ K, K = knK (lo : Int) (hi : Int) S H := ⟨_, rfl⟩
            obtain ⟨T, hT⟩ : ∃ T, T = foldT (hi - lo) lo K := ⟨_, rfl⟩
            have hr : R = foldO T := by
              rw [HR.out, foldP, if_neg HN.out, if_neg HR3.out, if_neg (by rw [H32.out]; decide), if_neg (by rw [HIN.out]; decide), ← hK]
              rw [show ((hi : Int) - (lo : Int)).toNat = hi - lo by omega, show (lo : Int).toNat = lo by omega, ← hT]
            have CF : Hid (∀ (v : Value) (W : World), Held W 109 3 v K.length (knV K) → Tabs W → Calls Tryd.prog 79 #[spV lo hi, v] W fun r w' => r = .returned (foldV T) ∧ Below W.heap.size W w') := Lib.hid (fun v W h h2 => by
              have := fold_any (hi - lo) lo v K W (by omega) (by omega) h (by rw [hK]; have := knK_length (lo : Int) (hi : Int) S H; have := HM.out; omega) (fun x hx => knK_mem (lo := (lo : Int)) (hi := (hi : Int)) (S := S) (H := H) (by omega) (by rw [hK] at hx; exact hx)) h2
              rwa [show lo + (hi - lo) = hi by omega, ← hT] at this)
            have HKD := Lib.hid hK
            have HRR := Lib.hid hr
            have h0lo : (0 : Int) ≤ (lo : Int) := by omega
            clear hr hT hK hin2
            go_enter Tryd.func41, Tryd.ntmps41
            go_upto_region 1 with fail
            rw [← HW.out, ← HB.out]
            go_upto_region 10 with (first
              | (go_at_call 46; with_reducible refine (CS.out _).mono ?_; rintro r wx ⟨rfl, hwx⟩; rw [hwx]; clear hwx wx)
              | (go_at_call 77; with_reducible refine CC.out.mono ?_; rintro r wx ⟨rfl, hwx⟩; rw [hwx]; clear hwx wx)
              | (go_at_call 15; with_reducible refine CI.out.mono ?_; rintro r w2 ⟨rfl, hb2⟩; have HB2 := Lib.hid hb2; clear hb2))
            have hbA := below_onS HBEL.out HB2.out HBEL.out.size
            have HA : Hid (Below w.heap.size w w2 ∧ SpZ w2 (.slice p S.length c) S ∧ Txts w2 (.slice q H.length cq) H ∧ Tabs w2 ∧ spRow w2 b0 lo hi) := Lib.hid ⟨hbA, HST.out.1.below hbA (Nat.le_refl _), HST.out.2.1.below hbA (Nat.le_refl _), HST.out.2.2.below hbA, (show spRow w1 b0 lo hi by rw [HW.out, HB.out]; exact heap_alloc_new w _).keep (HB2.out.block _ (by rw [HW.out, HB.out]; simp))⟩
            have HONE : Hid (∀ kb ke : Int, ∀ kh : ByteArray, ∀ u ∈ [Value.int .i64 kb, .int .i64 ke, .string kh], u.oneCell' = true) := Lib.hid (fun kb ke kh u hu => by
              rcases List.mem_cons.1 hu with rfl | hu
              · rfl
              · rcases List.mem_cons.1 hu with rfl | hu
                · rfl
                · rw [List.mem_singleton.1 hu]; rfl)
            clear d0 d1 hbA
            go_wp2_with fail
            go_loopw [10, 40] (fun x z wr => ∃ i : Nat, z = .int .i64 (i : Int) ∧ Hid (i ≤ m ∧ FlI w2 wr (lo : Int) (hi : Int) S H i x)) (fun _ z _ => m - (intOf z).toNat)
            case atStart => exact ⟨0, rfl, Lib.hid ⟨Nat.zero_le _, ⟨rfl, .inl ⟨rfl, rfl⟩⟩, (fun g hg => by cases hg), Below.refl _ _⟩⟩
            case round =>
              obtain ⟨i, rfl, HI⟩ := hrel
              obtain ⟨lp, lc, rfl, _⟩ := HI.out.2.hd.cells
              by_cases hlt : i < m
              · have hlti : (i : Int) < (m : Int) := by omega
                have hi0 : (0 : Int) ≤ (i : Int) := by omega
                have HFO : Hid (FlI w2 wr (lo : Int) (hi : Int) S H i (.slice lp (knK (lo : Int) (hi : Int) (S.take i) (H.take i)).length lc)) := Lib.hid HI.out.2
                clear HI
                obtain ⟨⟨xb, xe⟩, hx⟩ : ∃ x, S[i]? = some x := ⟨S[i]'(by have := HM.out; omega), List.getElem?_eq_getElem _⟩
                obtain ⟨xh, hxh⟩ : ∃ x, H[i]? = some x := ⟨H[i]'(by have := HK.out; omega), List.getElem?_eq_getElem _⟩
                obtain ⟨p', c', hpe, _, _, hsb, hsc⟩ := HA.out.2.1.below HFO.out.bel (Nat.le_refl _)
                cases hpe
                obtain ⟨g, og, rfl, k0, k1⟩ := hsc i (xb, xe) hx
                have hxb := hsb _ (List.mem_of_getElem? hx)
                obtain ⟨q', cq', hqe, _, _, htc⟩ := HA.out.2.2.1.below HFO.out.bel (Nat.le_refl _)
                cases hqe
                obtain ⟨qa, rfl, hq0⟩ := htc i xh hxh
                have HX : Hid (S[i]? = some (xb, xe) ∧ H[i]? = some xh ∧ i < m) := Lib.hid ⟨hx, hxh, hlt⟩
                have hrow : spRow wr b0 lo hi := HA.out.2.2.2.2.keep (HFO.out.bel.block _ HA.out.2.2.2.2.lt)
                have HROW := Lib.hid hrow
                have m0 : ∀ o, (wr.alloc o).cell? ⟨b0, 0, none⟩ = some (.int .i64 (lo : Int)) := fun o => (HROW.out.keep (Below.heap_alloc wr o b0 HROW.out.lt)).at.1
                have m1 : ∀ o, (wr.alloc o).cell? ⟨b0, 1, none⟩ = some (.int .i64 (hi : Int)) := fun o => (HROW.out.keep (Below.heap_alloc wr o b0 HROW.out.lt)).at.2.1
                have HQ0 : Hid (wr.cell? (qa.add i) = some (.string xh)) := Lib.hid hq0
                have hL := knK_length (lo : Int) (hi : Int) (S.take i) (H.take i)
                rw [List.length_take] at hL
                have hl1 : ((knK (lo : Int) (hi : Int) (S.take i) (H.take i)).length + 1) * 32 ≤ 140737488355328 := by omega
                have hl2 : (knK (lo : Int) (hi : Int) (S.take i) (H.take i)).length + 1 ≤ 140737488355328 := by omega
                clear hlt hx hxh hsc hsb htc hxb hrow hq0 hL
                by_cases a1 : (lo : Int) ≤ xb
                · by_cases a2 : xe ≤ (hi : Int)
                  · by_cases a3 : xb < xe
                    · go_upto_region 14 with fail
                      obtain ⟨B1, hB1⟩ : ∃ x, x = wr.alloc (.cells #[.int .i64 xb, .int .i64 xe] 29) := ⟨_, rfl⟩
                      obtain ⟨bx, hbx⟩ : ∃ x, x = wr.heap.size := ⟨_, rfl⟩
                      have hrx : B1.heap[bx]? = some (.cells #[.int .i64 xb, .int .i64 xe] 29 (0, 0)) := by rw [hB1, hbx]; exact heap_alloc_new wr _
                      have hbB : Below wr.heap.size wr B1 := by rw [hB1]; exact (Below.refl _ _).alloc (Nat.le_refl _) _
                      have HRX := Lib.hid hrx
                      have HQB : Hid (B1.cell? (qa.add i) = some (.string xh)) := Lib.hid ((World.cell?_of_block (hbB.block _ (block_lt_of_cell HQ0.out))).trans HQ0.out)
                      have HHD : Hid (Held B1 109 3 (.slice lp (knK (lo : Int) (hi : Int) (S.take i) (H.take i)).length lc) (knK (lo : Int) (hi : Int) (S.take i) (H.take i)).length (knV (knK (lo : Int) (hi : Int) (S.take i) (H.take i)))) := Lib.hid (HFO.out.hd.below hbB)
                      have HHD2 : Hid (∀ o, Held (B1.drew.alloc o) 109 3 (.slice lp (knK (lo : Int) (hi : Int) (S.take i) (H.take i)).length lc) (knK (lo : Int) (hi : Int) (S.take i) (H.take i)).length (knV (knK (lo : Int) (hi : Int) (S.take i) (H.take i)))) := Lib.hid (fun o => Held.below (w := B1.drew) (HHD.out.keep (w' := B1.drew) (fun _ _ => rfl)) ((Below.refl _ _).alloc (Nat.le_refl _) _))
                      have HB1 := Lib.hid hB1
                      rw [← hbx, ← hB1]
                      have y0 : ∀ o, (B1.alloc o).cell? ⟨bx, 0, none⟩ = some (.int .i64 xb) := fun o => cell_of_row _ _ _ _ _ _ (blk_alloc HRX.out)
                      have y1 : ∀ o, (B1.alloc o).cell? ⟨bx, 1, none⟩ = some (.int .i64 xe) := fun o => cell_of_row _ _ _ _ _ _ (blk_alloc HRX.out)
                      have y2 : B1.cell? ⟨bx, 0, none⟩ = some (.int .i64 xb) := cell_of_row _ _ _ _ _ _ HRX.out
                      have y3 : B1.cell? ⟨bx, 1, none⟩ = some (.int .i64 xe) := cell_of_row _ _ _ _ _ _ HRX.out
                      have y4 := HQB.out
                      have HC : Hid ((lo : Int) ≤ (xb, xe).1 ∧ (xb, xe).2 ≤ (hi : Int) ∧ (xb, xe).1 < (xb, xe).2) := Lib.hid ⟨a1, a2, a3⟩
                      clear hB1 hbx hrx hbB k0 k1 a1 a2 a3 m0 m1
                      go_region_law (first
                        | (refine step_grew (v := .slice lp (knK (lo : Int) (hi : Int) (S.take i) (H.take i)).length lc) rfl (.tmp 64) (.tmp 71) rfl Tryd.underlying107 (.agg #[.int .i64 0, .int .i64 0, .string ⟨#[]⟩]) 3 info_kn rfl (by decide) [.int .i64 xb, .int .i64 xe, .string xh] 1 ⟨B1.heap.size, 0, none⟩ rfl rfl (HHD2.out _) rfl (by decide) cells_alloc (HONE.out _ _ _) hl1 hl2 ?_; intro v5 w5 hg5; have HG5 := Lib.hid hg5; clear hg5)
                        | fail)
                      all_goals
                        have hfin : Hid (FlI w2 w5 (lo : Int) (hi : Int) S H (i + 1) v5) := Lib.hid (by
                          have hg := HG5.out
                          rw [HB1.out] at hg
                          exact HFO.out.push HX.out.1 HX.out.2.1 HC.out h0lo hg)
                        go_wp2_with fail
                        refine ⟨⟨i + 1, by simp, Lib.hid ⟨by have := HX.out.2.2; omega, hfin.out⟩⟩, ?_⟩
                        show m - ((i : Int) + 1).toNat < m - ((i : Int)).toNat
                        have := HX.out.2.2
                        omega
                    · have HC : Hid (¬ ((lo : Int) ≤ (xb, xe).1 ∧ (xb, xe).2 ≤ (hi : Int) ∧ (xb, xe).1 < (xb, xe).2)) := Lib.hid (fun h => a3 h.2.2)
                      go_wp2_with fail
                      refine ⟨⟨i + 1, by simp, Lib.hid ⟨by have := HX.out.2.2; omega, HFO.out.skip HX.out.1 HX.out.2.1 HC.out⟩⟩, ?_⟩
                      show m - ((i : Int) + 1).toNat < m - ((i : Int)).toNat
                      have := HX.out.2.2
                      omega
                  · have HC : Hid (¬ ((lo : Int) ≤ (xb, xe).1 ∧ (xb, xe).2 ≤ (hi : Int) ∧ (xb, xe).1 < (xb, xe).2)) := Lib.hid (fun h => a2 h.2.1)
                    go_wp2_with fail
                    refine ⟨⟨i + 1, by simp, Lib.hid ⟨by have := HX.out.2.2; omega, HFO.out.skip HX.out.1 HX.out.2.1 HC.out⟩⟩, ?_⟩
                    show m - ((i : Int) + 1).toNat < m - ((i : Int)).toNat
                    have := HX.out.2.2
                    omega
                · have HC : Hid (¬ ((lo : Int) ≤ (xb, xe).1 ∧ (xb, xe).2 ≤ (hi : Int) ∧ (xb, xe).1 < (xb, xe).2)) := Lib.hid (fun h => a1 h.1)
                  go_wp2_with fail
                  refine ⟨⟨i + 1, by simp, Lib.hid ⟨by have := HX.out.2.2; omega, HFO.out.skip HX.out.1 HX.out.2.1 HC.out⟩⟩, ?_⟩
                  show m - ((i : Int) + 1).toNat < m - ((i : Int)).toNat
                  have := HX.out.2.2
                  omega
              · have hlti : ¬ (i : Int) < (m : Int) := by omega
                have htk : S.take i = S := List.take_of_length_le (by have := HM.out; omega)
                have htk2 : H.take i = H := List.take_of_length_le (by have := HK.out; omega)
                have hd := HI.out.2.hd
                have hbel := HI.out.2.bel
                rw [htk, htk2, ← HKD.out] at hd
                rw [htk, htk2, ← HKD.out]
                have HBL : Hid (Below w.heap.size w wr ∧ spRow wr b0 lo hi) := Lib.hid ⟨below_onS HA.out.1 hbel HA.out.1.size, HA.out.2.2.2.2.keep (hbel.block _ HA.out.2.2.2.2.lt)⟩
                have HC1 := Lib.hid (CF.out _ wr hd (HA.out.2.2.2.1.below hbel))
                obtain ⟨x0, x1, _⟩ := HBL.out.2.at
                clear HI hlt htk htk2 hd hbel
                cases T with
                | none =>
                  have hr : R = (⟨#[]⟩, 82) := HRR.out
                  subst hr
                  have HC1 := Lib.hid (show Calls Tryd.prog 79 _ wr (fun r w' => r = .returned (.tuple #[.string ⟨#[]⟩, .bool false]) ∧ Below wr.heap.size wr w') from HC1.out)
                  go_wp2_with (go_at_call 79; with_reducible refine HC1.out.mono ?_; rintro r w5 ⟨rfl, hb5⟩; have HB5 := Lib.hid hb5; clear hb5)
                  go_ret2
                  exact ⟨rfl, below_onS HBL.out.1 HB5.out HBL.out.1.size⟩
                | some h1 =>
                  have hr : R = (h1, 0) := HRR.out
                  subst hr
                  have HC1 := Lib.hid (show Calls Tryd.prog 79 _ wr (fun r w' => r = .returned (.tuple #[.string h1, .bool true]) ∧ Below wr.heap.size wr w') from HC1.out)
                  go_wp2_with (go_at_call 79; with_reducible refine HC1.out.mono ?_; rintro r w5 ⟨rfl, hb5⟩; have HB5 := Lib.hid hb5; clear hb5)
                  go_ret2
                  exact ⟨rfl, below_onS HBL.out.1 HB5.out HBL.out.1.size⟩
    · have hmki : ((m : Int) != (k : Int)) = true := by rw [bne_iff_ne]; omega
      have hr : R = (⟨#[]⟩, 83) := by rw [HR.out, foldP, if_neg HN.out, if_pos (.inl (by have := HM.out; have := HK.out; omega))]
      subst hr
      clear hmk
      go_enter Tryd.func41, Tryd.ntmps41
      go_upto_region 1 with fail
      rw [← HW.out, ← HB.out]
      go_wp2_with (go_at_call 46; with_reducible refine (CS.out _).mono ?_; rintro r wx ⟨rfl, hwx⟩; rw [hwx]; clear hwx wx)
      go_ret2
      exact ⟨rfl, HBEL.out⟩
end Go.Proofs.YteknpnanmbfhfaaDoor
/- Law 8, walked: nodes, spans (are two lists the same?). -/
namespace Go.Scr
theorem list_eq_of_get {α : Type} {A B : List α} (hl : A.length = B.length) (h : ∀ (i : Nat) (x y : α), A[i]? = some x → B[i]? = some y → x = y) : A = B := by
  apply List.ext_getElem hl
  intro i h1 h2
  exact h i _ _ (List.getElem?_eq_getElem h1) (List.getElem?_eq_getElem h2)
end Go.Scr
namespace Go.Proofs.YteknpnanmbfhfaaDoor
open Go.RowKit Go.Scr Go.Shelf
set_option linter.unusedVariables false
/-- the cell of a list that is held -/
theorem held_cell {w : World} {T sz n c : Nat} {p : Option Addr} {xs : List Value} (h : Held w T sz (.slice p n c) n xs) (hn : 0 < n) : ∃ g, p = some ⟨g, 0, none⟩ ∧ ∀ k u, xs[k]? = some u → w.cell? ⟨g, k, none⟩ = some u := by
  obtain ⟨p', c', hpe, _, _, hce⟩ := h.cells
  cases hpe
  obtain ⟨g, rfl⟩ : ∃ g, p = some ⟨g, 0, none⟩ := by
    rcases h.2 with ⟨e, h0⟩ | ⟨g, _, _, e, _⟩
    · omega
    · exact ⟨g, by cases e; rfl⟩
  refine ⟨g, rfl, fun k u hk => ?_⟩
  obtain ⟨a, ha, _, hc⟩ := hce k u hk
  cases ha
  have hadd : (⟨g, 0, none⟩ : Addr).add k = ⟨g, k, none⟩ := by unfold Addr.add; split <;> simp_all
  rw [hadd] at hc
  exact hc
theorem node_eql (a b c d : Int) (w : World) : (binOp .eql 72 (.agg #[.int .i64 a, .int .i64 b]) (.agg #[.int .i64 c, .int .i64 d])).run Tryd.prog w = .ok (.bool (a == c && b == d)) w := by
  have hu := Tryd.underlying72
  have hi : Tryd.prog.underlying 3 = some (.int .i64) := by kernel_rfl
  have h1 : ∀ (k : Nat) (x y : Int), (Op.equalIn (k + 1) 3 (.int .i64 x) (.int .i64 y)).run Tryd.prog w = .ok (x == y) w := fun k x y => by simp [Op.equalIn, run_underlying hi]
  have h1' : ∀ (x y : Int), (Op.equalIn 9999 3 (.int .i64 x) (.int .i64 y)).run Tryd.prog w = .ok (x == y) w := h1 9998
  have p0 : ∀ x y : Int, (part 3 #[.int .i64 x, .int .i64 y] 0).run Tryd.prog w = .ok (.int .i64 x) w := fun x y => by kernel_rfl
  have p1 : ∀ x y : Int, (part 3 #[.int .i64 x, .int .i64 y] 1).run Tryd.prog w = .ok (.int .i64 y) w := fun x y => by kernel_rfl
  have h2 : (Op.equalIn (9998 + 1 + 1) 72 (.agg #[.int .i64 a, .int .i64 b]) (.agg #[.int .i64 c, .int .i64 d])).run Tryd.prog w = .ok (a == c && b == d) w := by
    rw [Op.equalIn]
    by_cases e : a = c
    · subst e
      by_cases e2 : b = d
      · subst e2
        simp [run_underlying hu, h1', run_underlying hi, p0, p1]
      · have : (b == d) = false := by simpa using e2
        simp [run_underlying hu, h1', run_underlying hi, p0, p1, this]
    · have : (a == c) = false := by simpa using e
      simp [run_underlying hu, h1', run_underlying hi, p0, p1, this]
  have h0 : (Op.equal 72 (.agg #[.int .i64 a, .int .i64 b]) (.agg #[.int .i64 c, .int .i64 d])).run Tryd.prog w = .ok (a == c && b == d) w := h2
  simp only [binOp]
  simp [h0]
theorem span_neq (a b c d : Int) (w : World) : (binOp .neq 29 (.agg #[.int .i64 a, .int .i64 b]) (.agg #[.int .i64 c, .int .i64 d])).run Tryd.prog w = .ok (.bool (!(a == c && b == d))) w := by
  have h := span_eql a b c d w
  simp only [binOp] at h ⊢
  cases he : (Op.equal 29 (.agg #[.int .i64 a, .int .i64 b]) (.agg #[.int .i64 c, .int .i64 d])).run Tryd.prog w with
  | ok x w' =>
    simp [he] at h ⊢
    obtain ⟨h1, h2⟩ := h
    subst h2
    simp [h1]
  | halt x w' => simp [he] at h
set_option maxRecDepth 100000 in
set_option maxHeartbeats 2000000 in
theorem spans_any (v1 v2 : Value) (A B : List (Nat × Nat)) (w : World) (h1 : Held w 29 2 v1 A.length (prsV A)) (h2 : Held w 29 2 v2 B.length (prsV B)) :
    Calls Tryd.prog 43 #[v1, v2] w fun r w' => r = .returned (.bool (decide (A = B))) ∧ Below w.heap.size w w' := by
  obtain ⟨p, c, rfl, hpc, hcm, _⟩ := h1.cells
  obtain ⟨q, d, rfl, hqd, hdm, _⟩ := h2.cells
  obtain ⟨n, hn⟩ : ∃ n, n = A.length := ⟨_, rfl⟩
  obtain ⟨m, hm⟩ : ∃ m, m = B.length := ⟨_, rfl⟩
  have hnb : n ≤ maxLen := by omega
  simp only [maxLen] at hnb
  rw [← hn] at h1
  rw [← hm] at h2
  rw [← hn, ← hm]
  have HN := Lib.hid hn
  have HM := Lib.hid hm
  have HA := Lib.hid h1
  have HB := Lib.hid h2
  clear hpc hcm hqd hdm h1 h2 hn hm
  by_cases hnm : n = m
  · subst hnm
    go_enter Tryd.func43, Tryd.ntmps43
    go_wp2_with fail
    go_loopw [5] (fun x wr => ∃ i : Nat, x = .int .i64 i ∧ Hid (i ≤ n ∧ Below w.heap.size w wr ∧ ∀ (j : Nat) (x y : Nat × Nat), j < i → A[j]? = some x → B[j]? = some y → x = y)) (fun x _ => n - (intOf x).toNat)
    case atStart => exact ⟨0, rfl, Lib.hid ⟨Nat.zero_le _, Below.refl _ _, fun j x y hj => by omega⟩⟩
    case round =>
      obtain ⟨i, rfl, hinv⟩ := hrel
      by_cases hlt : i < n
      · have hlti : (i : Int) < (n : Int) := by omega
        have hi0 : (0 : Int) ≤ (i : Int) := by omega
        obtain ⟨⟨a0, a1⟩, hx⟩ : ∃ x, A[i]? = some x := ⟨A[i]'(by have := HN.out; omega), List.getElem?_eq_getElem _⟩
        obtain ⟨⟨b0, b1⟩, hy⟩ : ∃ x, B[i]? = some x := ⟨B[i]'(by have := HM.out; omega), List.getElem?_eq_getElem _⟩
        obtain ⟨q0, q1⟩ := prsV_get hx
        obtain ⟨r0, r1⟩ := prsV_get hy
        obtain ⟨g, rfl, hg⟩ := held_cell (HA.out.below hinv.out.2.1) (by omega)
        obtain ⟨g', rfl, hg'⟩ := held_cell (HB.out.below hinv.out.2.1) (by omega)
        have k0 := hg _ _ q0
        have k1 := hg _ _ q1
        have k2 := hg' _ _ r0
        have k3 := hg' _ _ r1
        have HX := Lib.hid hx
        have HY := Lib.hid hy
        have HLT := Lib.hid hlt
        clear hlt hx hy q0 q1 r0 r1 hg hg'
        by_cases heq : a0 = b0 ∧ a1 = b1
        · have hq : ∀ w', (binOp .neq 29 (.agg #[.int .i64 (a0 : Int), .int .i64 (a1 : Int)]) (.agg #[.int .i64 (b0 : Int), .int .i64 (b1 : Int)])).run Tryd.prog w' = .ok (.bool false) w' := fun w' => by
            rw [span_neq, heq.1, heq.2]; simp
          have HE := Lib.hid heq
          clear heq
          go_wp2_with fail
          go_quiet (fail)
          go_wp2_with fail
          refine ⟨⟨i + 1, by simp, Lib.hid ⟨HLT.out, below_drewN hinv.out.2.1 nq, fun j x y hj hx hy => ?_⟩⟩, ?_⟩
          · rcases Nat.lt_or_ge j i with h | h
            · exact hinv.out.2.2 j x y h hx hy
            · have : j = i := by omega
              subst this
              rw [HX.out] at hx
              rw [HY.out] at hy
              cases hx
              cases hy
              rw [HE.out.1, HE.out.2]
          · show n - ((i : Int) + 1).toNat < n - (i : Int).toNat
            have := HLT.out
            omega
        · have hq : ∀ w', (binOp .neq 29 (.agg #[.int .i64 (a0 : Int), .int .i64 (a1 : Int)]) (.agg #[.int .i64 (b0 : Int), .int .i64 (b1 : Int)])).run Tryd.prog w' = .ok (.bool true) w' := fun w' => by
            rw [span_neq]
            have : ((a0 : Int) == (b0 : Int) && (a1 : Int) == (b1 : Int)) = false := by
              rw [Bool.and_eq_false_iff]
              simp only [beq_eq_false_iff_ne]
              omega
            rw [this]; rfl
          have HE := Lib.hid heq
          clear heq
          go_wp2_with fail
          go_quiet (fail)
          go_wp2_with fail
          go_ret
          refine ⟨?_, below_drewN hinv.out.2.1 nq⟩
          rw [decide_eq_false]
          · rfl
          · intro e
            subst e
            have := Option.some.inj (HX.out.symm.trans HY.out)
            simp only [Prod.mk.injEq] at this
            exact HE.out this
      · have hlti : ¬ (i : Int) < (n : Int) := by omega
        have hAB : A = B := list_eq_of_get (by have := HN.out; have := HM.out; omega) (fun j x y hx hy => hinv.out.2.2 j x y (by have := (List.getElem?_eq_some_iff.mp hx).1; have := HN.out; omega) hx hy)
        have HAB := Lib.hid hAB
        clear hlt hAB
        go_wp2_with fail
        go_ret
        exact ⟨by rw [decide_eq_true HAB.out]; rfl, hinv.out.2.1⟩
  · have hnmi : ((n : Int) != (m : Int)) = true := by rw [bne_iff_ne]; omega
    have hne : A ≠ B := fun e => hnm (by rw [HN.out, HM.out, e])
    have HNE := Lib.hid hne
    clear hnm hne
    go_enter Tryd.func43, Tryd.ntmps43
    go_wp2_with fail
    go_ret
    exact ⟨by rw [decide_eq_false HNE.out]; rfl, Below.refl _ _⟩
theorem node_neq (a b c d : Int) (w : World) : (binOp .neq 72 (.agg #[.int .i64 a, .int .i64 b]) (.agg #[.int .i64 c, .int .i64 d])).run Tryd.prog w = .ok (.bool (!(a == c && b == d))) w := by
  have h := node_eql a b c d w
  simp only [binOp] at h ⊢
  cases he : (Op.equal 72 (.agg #[.int .i64 a, .int .i64 b]) (.agg #[.int .i64 c, .int .i64 d])).run Tryd.prog w with
  | ok x w' =>
    simp [he] at h ⊢
    obtain ⟨h1, h2⟩ := h
    subst h2
    simp [h1]
  | halt x w' => simp [he] at h
set_option maxRecDepth 100000 in
set_option maxHeartbeats 2000000 in
theorem nodes_any (v1 v2 : Value) (A B : List (Nat × Nat)) (w : World) (h1 : Held w 72 2 v1 A.length (prsV A)) (h2 : Held w 72 2 v2 B.length (prsV B)) :
    Calls Tryd.prog 42 #[v1, v2] w fun r w' => r = .returned (.bool (decide (A = B))) ∧ Below w.heap.size w w' := by
  obtain ⟨p, c, rfl, hpc, hcm, _⟩ := h1.cells
  obtain ⟨q, d, rfl, hqd, hdm, _⟩ := h2.cells
  obtain ⟨n, hn⟩ : ∃ n, n = A.length := ⟨_, rfl⟩
  obtain ⟨m, hm⟩ : ∃ m, m = B.length := ⟨_, rfl⟩
  have hnb : n ≤ maxLen := by omega
  simp only [maxLen] at hnb
  rw [← hn] at h1
  rw [← hm] at h2
  rw [← hn, ← hm]
  have HN := Lib.hid hn
  have HM := Lib.hid hm
  have HA := Lib.hid h1
  have HB := Lib.hid h2
  clear hpc hcm hqd hdm h1 h2 hn hm
  by_cases hnm : n = m
  · subst hnm
    go_enter Tryd.func42, Tryd.ntmps42
    go_wp2_with fail
    go_loopw [5] (fun x wr => ∃ i : Nat, x = .int .i64 i ∧ Hid (i ≤ n ∧ Below w.heap.size w wr ∧ ∀ (j : Nat) (x y : Nat × Nat), j < i → A[j]? = some x → B[j]? = some y → x = y)) (fun x _ => n - (intOf x).toNat)
    case atStart => exact ⟨0, rfl, Lib.hid ⟨Nat.zero_le _, Below.refl _ _, fun j x y hj => by omega⟩⟩
    case round =>
      obtain ⟨i, rfl, hinv⟩ := hrel
      by_cases hlt : i < n
      · have hlti : (i : Int) < (n : Int) := by omega
        have hi0 : (0 : Int) ≤ (i : Int) := by omega
        obtain ⟨⟨a0, a1⟩, hx⟩ : ∃ x, A[i]? = some x := ⟨A[i]'(by have := HN.out; omega), List.getElem?_eq_getElem _⟩
        obtain ⟨⟨b0, b1⟩, hy⟩ : ∃ x, B[i]? = some x := ⟨B[i]'(by have := HM.out; omega), List.getElem?_eq_getElem _⟩
        obtain ⟨q0, q1⟩ := prsV_get hx
        obtain ⟨r0, r1⟩ := prsV_get hy
        obtain ⟨g, rfl, hg⟩ := held_cell (HA.out.below hinv.out.2.1) (by omega)
        obtain ⟨g', rfl, hg'⟩ := held_cell (HB.out.below hinv.out.2.1) (by omega)
        have k0 := hg _ _ q0
        have k1 := hg _ _ q1
        have k2 := hg' _ _ r0
        have k3 := hg' _ _ r1
        have HX := Lib.hid hx
        have HY := Lib.hid hy
        have HLT := Lib.hid hlt
        clear hlt hx hy q0 q1 r0 r1 hg hg'
        by_cases heq : a0 = b0 ∧ a1 = b1
        · have hq : ∀ w', (binOp .neq 72 (.agg #[.int .i64 (a0 : Int), .int .i64 (a1 : Int)]) (.agg #[.int .i64 (b0 : Int), .int .i64 (b1 : Int)])).run Tryd.prog w' = .ok (.bool false) w' := fun w' => by
            rw [node_neq, heq.1, heq.2]; simp
          have HE := Lib.hid heq
          clear heq
          go_wp2_with fail
          go_quiet (fail)
          go_wp2_with fail
          refine ⟨⟨i + 1, by simp, Lib.hid ⟨HLT.out, below_drewN hinv.out.2.1 nq, fun j x y hj hx hy => ?_⟩⟩, ?_⟩
          · rcases Nat.lt_or_ge j i with h | h
            · exact hinv.out.2.2 j x y h hx hy
            · have : j = i := by omega
              subst this
              rw [HX.out] at hx
              rw [HY.out] at hy
              cases hx
              cases hy
              rw [HE.out.1, HE.out.2]
          · show n - ((i : Int) + 1).toNat < n - (i : Int).toNat
            have := HLT.out
            omega
        · have hq : ∀ w', (binOp .neq 72 (.agg #[.int .i64 (a0 : Int), .int .i64 (a1 : Int)]) (.agg #[.int .i64 (b0 : Int), .int .i64 (b1 : Int)])).run Tryd.prog w' = .ok (.bool true) w' := fun w' => by
            rw [node_neq]
            have : ((a0 : Int) == (b0 : Int) && (a1 : Int) == (b1 : Int)) = false := by
              rw [Bool.and_eq_false_iff]
              simp only [beq_eq_false_iff_ne]
              omega
            rw [this]; rfl
          have HE := Lib.hid heq
          clear heq
          go_wp2_with fail
          go_quiet (fail)
          go_wp2_with fail
          go_ret
          refine ⟨?_, below_drewN hinv.out.2.1 nq⟩
          rw [decide_eq_false]
          · rfl
          · intro e
            subst e
            have := Option.some.inj (HX.out.symm.trans HY.out)
            simp only [Prod.mk.injEq] at this
            exact HE.out this
      · have hlti : ¬ (i : Int) < (n : Int) := by omega
        have hAB : A = B := list_eq_of_get (by have := HN.out; have := HM.out; omega) (fun j x y hx hy => hinv.out.2.2 j x y (by have := (List.getElem?_eq_some_iff.mp hx).1; have := HN.out; omega) hx hy)
        have HAB := Lib.hid hAB
        clear hlt hAB
        go_wp2_with fail
        go_ret
        exact ⟨by rw [decide_eq_true HAB.out]; rfl, hinv.out.2.1⟩
  · have hnmi : ((n : Int) != (m : Int)) = true := by rw [bne_iff_ne]; omega
    have hne : A ≠ B := fun e => hnm (by rw [HN.out, HM.out, e])
    have HNE := Lib.hid hne
    clear hnm hne
    go_enter Tryd.func42, Tryd.ntmps42
    go_wp2_with fail
    go_ret
    exact ⟨by rw [decide_eq_false HNE.out]; rfl, Below.refl _ _⟩
end Go.Proofs.YteknpnanmbfhfaaDoor
