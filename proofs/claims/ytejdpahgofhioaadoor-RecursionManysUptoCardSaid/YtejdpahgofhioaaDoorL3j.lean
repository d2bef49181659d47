/- RecursionPaths, walked. -/
import Derived.Test.YtejdpahgofhioaaDoorL3i
import Derived.Test.YtejdpahgofhioaaDoorL3e
import Derived.Test.YtejdpahgofhioaaDoorL3f
namespace Go.Proofs.YtejdpahgofhioaaDoor
open Go.RowKit Go.Scr
set_option linter.unusedVariables false

theorem owns_only {w w' : World} {B T n : Nat} {v : Value} {l : List Value} {row : Option Nat} (h : w.ownsRow B T 1 v n l) (hg : w.grownBy w' row) (hne : ∀ k, v.ownBlock = some k → some k ≠ row) : w'.ownsRow B T 1 v n l := by
  refine ⟨h.1, ?_⟩
  rcases h.2 with h0 | ⟨g, cap, cur, rfl, hb, hk, hr⟩
  · exact Or.inl h0
  · exact Or.inr ⟨g, cap, cur, rfl, hb, blk_only hk hg (hne g rfl), hr⟩
theorem own_in {w : World} {B T n : Nat} {v : Value} {l : List Value} (h : w.ownsRow B T 1 v n l) {k : Nat} (hk : v.ownBlock = some k) : B ≤ k ∧ k < w.heap.size := by
  rcases h.2 with ⟨rfl, _⟩ | ⟨g, cap, cur, rfl, hb, hg, _⟩
  · cases hk
  · cases hk; exact ⟨hb, blk_lt hg⟩
theorem own_lit (w : World) (B : Nat) (hB : B ≤ w.heap.size) (s : ByteArray) : (w.alloc (.cells #[.string s] 9)).ownsRow B 9 1 (.slice (some ⟨w.heap.size, 0, none⟩) 1 1) 1 ([s].map Value.string) :=
  ⟨rfl, Or.inr ⟨w.heap.size, 1, #[.string s], rfl, hB, heap_alloc_new w _, Nat.le_refl _, by simp [maxLen], rfl, rfl⟩⟩
/-- what stands while a path is gone up: the two lists, apart -/
structure PS (W : World) (lv rv : Value) (A B : List ByteArray) (w : World) : Prop where
  b : Below W.heap.size W w
  lo : w.ownsRow W.heap.size 9 1 lv A.length (A.map Value.string)
  ro : w.ownsRow W.heap.size 9 1 rv B.length (B.map Value.string)
  ap : ∀ k, lv.ownBlock = some k → rv.ownBlock ≠ some k
theorem PS.below {W w w' : World} {lv rv : Value} {A B : List ByteArray} (h : PS W lv rv A B w) (hb : Below w.heap.size w w') : PS W lv rv A B w' :=
  ⟨below_from h.b hb h.b.size, owns_below h.lo hb (Nat.le_refl _), owns_below h.ro hb (Nat.le_refl _), h.ap⟩
theorem PS.left {W w1 w3 : World} {lv rv v' : Value} {A B : List ByteArray} {s : ByteArray} (h : PS W lv rv A B w1) (hown : w3.ownsRow W.heap.size 9 1 v' (1 + A.length) ([s].map Value.string ++ A.map Value.string))
    (hgr : (w1.alloc (.cells #[.string s] 9)).grownBy w3 (some w1.heap.size)) (hat : v'.ownBlock = some w1.heap.size ∨ v'.ownBlock = some (w1.alloc (.cells #[.string s] 9)).heap.size) : PS W v' rv (s :: A) B w3 := by
  have h2 := h.below ((Below.refl _ _).alloc (Nat.le_refl _) (.cells #[.string s] 9))
  have hs : (w1.alloc (.cells #[.string s] 9)).heap.size = w1.heap.size + 1 := by simp
  have hw := h.b.size
  refine ⟨h2.b.grown hgr (by omega) (fun k hk => by cases hk; exact hw), ?_, owns_only h2.ro hgr (fun k hk he => ?_), fun k hk he => ?_⟩
  · have e : (s :: A).length = 1 + A.length := by rw [List.length_cons, Nat.add_comm]
    rw [e]; exact hown
  · have := (own_in h.ro hk).2
    cases he
    omega
  · have := (own_in h.ro he).2
    rcases hat with h1 | h1 <;> rw [hk] at h1 <;> cases h1 <;> omega
theorem PS.right {W w1 w3 : World} {lv rv v' : Value} {A B : List ByteArray} {s : ByteArray} (h : PS W lv rv A B w1) (hown : w3.ownsRow W.heap.size 9 1 v' (B.length + 1) (B.map Value.string ++ [s].map Value.string))
    (hgr : (w1.alloc (.cells #[.string s] 9)).grownBy w3 rv.ownBlock) (hat : v'.ownBlock = rv.ownBlock ∨ v'.ownBlock = some (w1.alloc (.cells #[.string s] 9)).heap.size) : PS W lv v' A (B ++ [s]) w3 := by
  have h2 := h.below ((Below.refl _ _).alloc (Nat.le_refl _) (.cells #[.string s] 9))
  have hs : (w1.alloc (.cells #[.string s] 9)).heap.size = w1.heap.size + 1 := by simp
  have hw := h.b.size
  refine ⟨h2.b.grown hgr (by omega) (fun k hk => (own_in h.ro hk).1), owns_only h2.lo hgr (fun k hk he => h.ap k hk he.symm), ?_, fun k hk he => ?_⟩
  · rw [List.length_append, List.map_append]; exact hown
  · have := (own_in h.lo hk).2
    rcases hat with h1 | h1 <;> rw [he] at h1
    · exact h.ap k hk h1.symm
    · cases h1; omega
theorem own_bools {w : World} {B n : Nat} {x : Value} {D : List Bool} (h : w.ownsRow B 4 1 x n (D.map (fun d => Value.bool (!d)))) : ∃ pb cb, x = .slice pb n cb ∧ ∀ i d, D[i]? = some d → ∃ a, pb = some a ∧ w.cell? (a.add i) = some (.bool (!d)) := by
  rcases h.2 with ⟨rfl, rfl⟩ | ⟨g, cap, cur, rfl, _, hg, hnc, _, hcs, htake⟩
  · have : D = [] := List.eq_nil_of_length_eq_zero (by have := h.1; simpa using this)
    subst this
    exact ⟨none, 0, rfl, fun i d hd => by simp at hd⟩
  · refine ⟨_, cap, rfl, fun i d hd => ⟨_, rfl, ?_⟩⟩
    have hadd : (⟨g, 0, none⟩ : Addr).add i = ⟨g, i, none⟩ := by unfold Addr.add; split <;> simp_all
    rw [hadd, cell_of_row w g i _ _ _ hg, ← Array.getElem?_toList]
    have hj : (D.map (fun d => Value.bool (!d)))[i]? = some (.bool (!d)) := by rw [List.getElem?_map, hd]; rfl
    rw [← htake, List.getElem?_take] at hj
    split at hj
    · exact hj
    · cases hj
theorem ints_lit (w : World) (m : Nat) (hm : m ≤ 1048576) : Ints (w.alloc (.cells #[.int .i64 m] 3)) (.slice (some ⟨w.heap.size, 0, none⟩) 1 1) [(m : Int)] := by
  refine ⟨_, 1, rfl, Nat.le_refl _, by simp, fun z hz => by simp only [List.mem_singleton] at hz; omega, fun j z hz => ⟨_, rfl, ?_⟩⟩
  have hadd : (⟨w.heap.size, 0, none⟩ : Addr).add j = ⟨w.heap.size, j, none⟩ := by unfold Addr.add; split <;> simp_all
  rw [hadd, World.cell?_alloc_at _ _ _ _ rfl]
  cases j with
  | zero => simp at hz ⊢; exact hz
  | succ j => simp at hz

theorem txt_at {w : World} {p : Option Addr} {n c i : Nat} {L : List ByteArray} {s : ByteArray} (h : Txts w (.slice p n c) L) (hs : L[i]? = some s) : ∃ a, p = some a ∧ w.cell? (a.add i) = some (.string s) := by
  obtain ⟨_, _, he, _, _, h4⟩ := h
  cases he
  exact h4 i s hs
theorem take_snoc {α : Type} {L : List α} {i : Nat} {x : α} (h : L[i]? = some x) : L.take (i + 1) = L.take i ++ [x] := by
  rw [List.take_add_one, h]; rfl

set_option maxRecDepth 100000 in
set_option maxHeartbeats 4000000 in
theorem rpaths_any (v : Value) (Z : List Int) (z : Int) (w : World) (ht : Tabs w) (hv : Ints w v Z) (hz : -9223372036854775808 ≤ z ∧ z ≤ 9223372036854775807) :
    Calls Tryd.prog 7 #[v, .int .i64 z] w fun e w' => e = .returned (.bool true) ∧ Below w.heap.size w w' := by
  have HT := Lib.hid ht
  have C1 := Lib.hid (known3_any w ht)
  obtain ⟨L, hLL⟩ : ∃ L, L = numL Z 300 := ⟨_, rfl⟩
  have hok : ok32 L = true := by rw [hLL]; exact numL_ok Z 300
  have hlen : L.length ≤ 300 := by rw [hLL, numL_length]; omega
  obtain ⟨n, hn⟩ : ∃ n, n = L.length := ⟨_, rfl⟩
  have cn : ∀ w', Below w.heap.size w w' → Calls Tryd.prog 36 #[v, .int .i64 300] w' fun e w'' => ∃ pl cl, e = .returned (.slice pl n cl) ∧ Txts w'' (.slice pl n cl) L ∧ Below w'.heap.size w' w'' := fun w' hb =>
    (numbered3_any v Z 300 w' (ints_below hv hb (Nat.le_refl _)) (by decide)).mono (fun e w'' h => by
      obtain ⟨x, rfl, hown, hb2⟩ := h
      rw [← hLL] at hown
      have htx := txts_ownR hown (by omega)
      obtain ⟨pl, cl, hx⟩ := slice_of htx hn
      subst hx
      exact ⟨pl, cl, rfl, htx, hb2⟩)
  have CN := Lib.hid cn
  obtain ⟨p0, c0, rfl, _⟩ := hv
  by_cases hn0 : n = 0
  · have hni : ((n : Int) == 0) = true := beq_iff_eq.2 (by omega)
    clear hok hlen hn cn hn0 hLL ht hz
    go_enter Tryd.func7, Tryd.ntmps7
    go_wp2_with (first
      | (go_at_call 15; with_reducible refine (C1.out).mono ?_; rintro r w1 ⟨rfl, hb⟩; have HB1 := Lib.hid hb; clear hb)
      | (go_at_call 36; with_reducible refine (CN.out w1 HB1.out).mono ?_; rintro r w2 ⟨pl, cl, rfl, htx, hb⟩; have HB2 := Lib.hid (below_from HB1.out hb HB1.out.size); clear hb htx))
    go_ret
    exact ⟨rfl, HB2.out⟩
  · have hni : ((n : Int) == 0) = false := beq_eq_false_iff_ne.2 (by omega)
    have cp := fun w' => pick3_any z n w' (by omega) (by omega) hz
    obtain ⟨m, hm⟩ : ∃ m, m = pickN z n := ⟨_, rfl⟩
    have hmn : m < n := by rw [hm]; exact pickN_lt z (by omega)
    rw [← hm] at cp
    have hre := refused_ok hok (by omega)
    obtain ⟨P, hP⟩ : ∃ P, P = pathR m L := ⟨_, rfl⟩
    obtain ⟨D, hD⟩ : ∃ D, D = dn n m := ⟨_, rfl⟩
    have hDP : D.length = P.length := by rw [hD, hP]; unfold pathR; rw [pathL_length nodeS hempty n m L hn.symm]
    obtain ⟨q, hq⟩ : ∃ q, q = P.length := ⟨_, rfl⟩
    have hql : q ≤ n := by rw [hq, ← hDP, hD]; exact dn_len n m
    obtain ⟨x, hx⟩ : ∃ x, L[m]? = some x := ⟨L[m]'(by omega), List.getElem?_eq_getElem _⟩
    obtain ⟨R, hR⟩ : ∃ R, R = rootR L := ⟨_, rfl⟩
    have hclimb : climbF nodeS D P x = R := by rw [hD, hP, hR]; exact climb_path nodeS hempty n m L x hn.symm hx
    have hpe : pathE L m = 0 := by unfold pathE; rw [if_neg (by simp [hre]), if_neg (by omega)]
    have hpt : pathT L m = P := by unfold pathT; rw [if_pos hpe, Int.toNat_natCast, hP]
    have cpr := fun y w' (h : Tabs w') (htx : Txts w' y L) => (Path_any y L m w' h htx).mono (R' := fun e w'' => ∃ pp cp, e = .returned (.tuple #[.slice pp q cp, .int .i64 0]) ∧ Txts w'' (.slice pp q cp) P ∧ Below w'.heap.size w' w'') (fun e w'' h => by
      obtain ⟨y2, rfl, hown, hb2⟩ := h
      rw [hpt, hpe] at *
      have htx := txts_ownR hown (by omega)
      obtain ⟨pl, cl, hx⟩ := slice_of htx hq
      subst hx
      exact ⟨pl, cl, rfl, htx, hb2⟩)
    have crt := fun y w' (h : Tabs w') (htx : Txts w' y L) => Root_any y L w' h htx
    have hrt : rootT L = R := by unfold rootT; rw [if_pos hre, hR]
    rw [hrt, hre] at crt
    obtain ⟨M, hM⟩ : ∃ M, M = sdL D P ++ sdR D P := ⟨_, rfl⟩
    have hMl : M.length = q := by rw [hM, List.length_append, side_len hDP, hq]
    have hwz : wrongZ L.length [(m : Int)] = false := by
      unfold wrongZ okZ okZ
      rw [← hn, decide_eq_true (show (-1 : Int) < (m : Int) by omega), decide_eq_true (show (m : Int) < (n : Int) by omega)]
      rfl
    have hme : manyE L [(m : Int)] = 0 := by unfold manyE; rw [if_neg (by simp [hre]), hwz]; rfl
    have hmt : manyT L [(m : Int)] = M := by
      have h := manyZ_side n 0 m L hn.symm hmn
      rw [Nat.zero_add] at h
      unfold manyT
      rw [if_pos hme, h, hM, hD, hP]
    have cm := fun y iv w' (h : Tabs w') (htx : Txts w' y L) (hiv : Ints w' iv [(m : Int)]) => Many_any y iv L [(m : Int)] w' h htx hiv (by simp)
    rw [hmt, hme, hMl] at cm
    have cw := fun w' => (right3_any n m w' (by omega) hmn (by omega)).mono (R' := fun e w'' => ∃ pb cb, e = .returned (.slice pb q cb) ∧ (∀ i d, D[i]? = some d → ∃ a, pb = some a ∧ w''.cell? (a.add i) = some (.bool (!d))) ∧ Below w'.heap.size w' w'') (fun e w'' h => by
      obtain ⟨y, rfl, hown, hb2⟩ := h
      rw [← hD, hDP, ← hq] at hown
      obtain ⟨pb, cb, rfl, hc⟩ := own_bools hown
      exact ⟨pb, cb, rfl, hc, hb2⟩)
    obtain ⟨n1, hn1⟩ : ∃ n1, n1 = n - 1 := ⟨_, rfl⟩
    have hn1i : (n : Int) - 1 = (n1 : Int) := by omega
    have cd := fun w' => (digits3_any n1 w' (by omega)).mono (R' := fun e w'' => ∃ d : Nat, e = .returned (.int .i64 d) ∧ q ≤ d ∧ d ≤ 1048576 ∧ w'' = w') (fun e w'' h => by
      obtain ⟨d, rfl, h1, h2, h3⟩ := h
      refine ⟨d, rfl, ?_, h2, h3⟩
      have := dn_two n m d (by omega)
      rw [← hD, hDP, ← hq] at this
      exact this)
    have CP := Lib.hid cp
    have CPR := Lib.hid cpr
    have CRT := Lib.hid crt
    have CM := Lib.hid cm
    have CW := Lib.hid cw
    have CD := Lib.hid cd
    have HX := Lib.hid hx
    have HCL := Lib.hid hclimb
    have HDP := Lib.hid hDP
    have HQ := Lib.hid hq
    have HM := Lib.hid hM
    have HML := Lib.hid hMl
    have hnb : n ≤ 300 := by omega
    have hqb : q ≤ 300 := by omega
    have hmb : m ≤ 300 := by omega
    have hmi0 : (0 : Int) ≤ (m : Int) := by omega
    have hmi1 : (m : Int) < (n : Int) := by omega
    have hn1b : n1 ≤ 300 := by omega
    clear hok hlen hn cn hn0 hLL ht hz cp hm hmn hre hP hD hDP hq hql hx hR hclimb hpe hpt cpr crt hrt hM hMl hwz hme hmt cm cw hn1 cd
    go_enter Tryd.func7, Tryd.ntmps7
    go_upto_region 11 with (first
      | (go_at_call 15; with_reducible refine (C1.out).mono ?_; rintro r w1 ⟨rfl, hb⟩; have HB1 := Lib.hid hb; clear hb)
      | (go_at_call 36; with_reducible refine (CN.out w1 HB1.out).mono ?_; rintro r w2 ⟨pl, cl, rfl, htx, hb⟩; have HB2 := Lib.hid (below_from HB1.out hb HB1.out.size); have HX2 := Lib.hid htx; clear hb htx)
      | (go_at_call 23; with_reducible refine (CP.out w2).mono ?_; rintro r wx ⟨rfl, hw⟩; rw [hw]; clear hw wx)
      | (go_at_call 25; with_reducible refine (CPR.out _ w2 (HT.out.below HB2.out) HX2.out).mono ?_; rintro r w3 ⟨pp, cp, rfl, hpx, hb⟩; have HB3 := Lib.hid (below_from HB2.out hb HB2.out.size); have HX3 := Lib.hid (HX2.out.below hb (Nat.le_refl _)); have HP3 := Lib.hid hpx; clear hb hpx)
      | (go_at_call 19; with_reducible refine (CRT.out _ w3 (HT.out.below HB3.out) HX3.out).mono ?_; rintro r w4 ⟨rfl, hb⟩; have HB4 := Lib.hid (below_from HB3.out hb HB3.out.size); have HX4 := Lib.hid (HX3.out.below hb (Nat.le_refl _)); have HP4 := Lib.hid (HP3.out.below hb (Nat.le_refl _)); have HI5 := Lib.hid (ints_lit w4 m (by omega)); have HA5 : Hid (Below w4.heap.size w4 (w4.alloc (.cells #[.int .i64 m] 3))) := Lib.hid ((Below.refl _ _).alloc (Nat.le_refl _) _); have HB5 := Lib.hid (below_from HB4.out HA5.out HB4.out.size); clear hb)
      | (go_at_call 29; with_reducible refine (CM.out _ _ (w4.alloc (.cells #[.int .i64 m] 3)) (HT.out.below HB5.out) (HX4.out.below HA5.out (Nat.le_refl _)) HI5.out).mono ?_; rintro r w6 ⟨po, rfl, hox, hof, hb⟩; have HB6 := Lib.hid (below_from HB5.out hb HB5.out.size); have HX6 := Lib.hid ((HX4.out.below HA5.out (Nat.le_refl _)).below hb (Nat.le_refl _)); have HP6 := Lib.hid ((HP4.out.below HA5.out (Nat.le_refl _)).below hb (Nat.le_refl _)); have HO6 := Lib.hid hox; clear hb hox hof)
      | (go_at_call 38; with_reducible refine (CW.out w6).mono ?_; rintro r w7 ⟨pb, cb, rfl, hwb, hb⟩; have HB7 := Lib.hid (below_from HB6.out hb HB6.out.size); have HX7 := Lib.hid (HX6.out.below hb (Nat.le_refl _)); have HP7 := Lib.hid (HP6.out.below hb (Nat.le_refl _)); have HO7 := Lib.hid (HO6.out.below hb (Nat.le_refl _)); have HW7 := Lib.hid hwb; clear hb hwb))
    obtain ⟨al, rfl, hcl0⟩ := txt_at HX7.out HX.out
    have hnl : (n : Int) ≤ 300 := by omega
    go_wp2_with (go_at_call 39; with_reducible refine (CD.out w7).mono ?_; rintro r wx ⟨d, rfl, hqd, hdb, hw⟩; rw [hw]; have hdd : decide (d < q) = false := decide_eq_false (by omega); clear hqd hw)
    have CND := Lib.hid (fun l r w' (h : Below w.heap.size w w') => node3_any l r w' (HT.out.below h))
    go_loopw [16, 17, 18, 19] (fun hv lv rv iv wr => ∃ i : Nat, i ≤ q ∧ hv = .string (climbF nodeS (D.take i) (P.take i) x) ∧ iv = .int .i64 i ∧ Hid (PS w7 lv rv (sdL (D.take i) (P.take i)) (sdR (D.take i) (P.take i)) wr)) (fun _ _ _ iv _ => q - (intOf iv).toNat)
    case atStart => exact ⟨0, by omega, by rw [List.take_zero, List.take_zero]; rfl, rfl, Lib.hid (by rw [List.take_zero, List.take_zero]; exact ⟨Below.refl _ _, World.ownsRow_nil _ _ _ _, World.ownsRow_nil _ _ _ _, fun k hk => by cases hk⟩)⟩
    case round =>
      obtain ⟨i, hi, rfl, rfl, hps⟩ := hrel
      have HPS := Lib.hid hps.out
      clear hps
      have hlT : (D.take i).length = (P.take i).length := by rw [List.length_take, List.length_take, HDP.out]
      have hsl := side_len hlT
      have hle : (P.take i).length ≤ 300 := by rw [List.length_take]; have := HQ.out; omega
      have HLT := Lib.hid hlT
      by_cases hlt : i < q
      · obtain ⟨s, hs⟩ : ∃ s, P[i]? = some s := ⟨P[i]'(by have := HQ.out; omega), List.getElem?_eq_getElem _⟩
        obtain ⟨d2, hd⟩ : ∃ s, D[i]? = some s := ⟨D[i]'(by have := HQ.out; have := HDP.out; omega), List.getElem?_eq_getElem _⟩
        have hTD := take_snoc hd
        have hTP := take_snoc hs
        have e1 := climbF_snoc nodeS d2 s (D.take i) (P.take i) x hlT
        have e2 := sdL_snoc hlT d2 s
        have e3 := sdR_snoc hlT d2 s
        rw [← hTD, ← hTP] at e1 e2 e3
        obtain ⟨H, hH⟩ : ∃ H, H = climbF nodeS (D.take i) (P.take i) x := ⟨_, rfl⟩
        obtain ⟨A, hA⟩ : ∃ A, A = sdL (D.take i) (P.take i) := ⟨_, rfl⟩
        obtain ⟨B, hB⟩ : ∃ B, B = sdR (D.take i) (P.take i) := ⟨_, rfl⟩
        rw [← hH] at e1 ⊢
        rw [← hA, ← hB] at HPS hsl
        rw [← hA] at e2
        rw [← hB] at e3
        obtain ⟨a, rfl, hc⟩ := txt_at HP7.out hs
        obtain ⟨e, rfl, hdc⟩ := HW7.out i d2 hd
        have hc1 : wr.cell? (a.add i) = some (.string s) := (HPS.out.b.cell (block_lt_of_cell hc)).trans hc
        have hiq : (i : Int) < (q : Int) := by omega
        have hi0 : (0 : Int) ≤ (i : Int) := by omega
        have hib : i ≤ 300 := by omega
        have HE1 := Lib.hid e1
        have HE2 := Lib.hid e2
        have HE3 := Lib.hid e3
        have HI := Lib.hid hlt
        have HBW := Lib.hid (below_from HB7.out HPS.out.b HB7.out.size)
        have hbd1 : (1 + A.length) * 16 ≤ 140737488355328 := by omega
        have hbd2 : 1 + A.length ≤ 140737488355328 := by omega
        have hbd3 : (B.length + 1) * 16 ≤ 140737488355328 := by omega
        have hbd4 : B.length + 1 ≤ 140737488355328 := by omega
        cases d2 with
        | true =>
          have hdc1 : wr.cell? (e.add i) = some (.bool false) := (HPS.out.b.cell (block_lt_of_cell hdc)).trans hdc
          clear hs hd hTD hTP e1 e2 e3 hH hA hB hlT hsl hle hlt hc hdc
          go_wp2_with (first
            | (go_at_call 40; with_reducible refine (CND.out s H wr HBW.out).mono ?_; rintro r wA ⟨rfl, hb⟩; have HPA := Lib.hid (HPS.out.below hb); have hcA := (hb.cell (block_lt_of_cell hc1)).trans hc1; have HLIT := Lib.hid (own_lit wA w7.heap.size HPA.out.b.size s); have HLE : Hid (w7.heap.size ≤ (wA.alloc (.cells #[.string s] 9)).heap.size) := Lib.hid (by have := HPA.out.b.size; simp; omega); clear hb)
            | (at_builtin; refine wpList_cat rfl _ _ rfl Tryd.underlying25 (.string ⟨#[]⟩) info_str rfl rfl rfl HLIT.out (World.ownsRow.alloc HPA.out.lo _) (str_one _) HLE.out hbd1 hbd2 ?_; intro v' w' hown hgr hat; have HPN := Lib.hid (HPA.out.left hown hgr hat); clear hown hgr hat))
          go_roundw
          case rel => exact ⟨i + 1, by have := HI.out; omega, by rw [HE1.out]; rfl, rfl, Lib.hid (by rw [HE2.out, HE3.out]; exact HPN.out)⟩
          case measure => show q - ((i : Int) + 1).toNat < q - (i : Int).toNat; have := HI.out; omega
        | false =>
          have hdc1 : wr.cell? (e.add i) = some (.bool true) := (HPS.out.b.cell (block_lt_of_cell hdc)).trans hdc
          clear hs hd hTD hTP e1 e2 e3 hH hA hB hlT hsl hle hlt hc hdc
          go_wp2_with (first
            | (go_at_call 40; with_reducible refine (CND.out H s wr HBW.out).mono ?_; rintro r wA ⟨rfl, hb⟩; have HPA := Lib.hid (HPS.out.below hb); have hcA := (hb.cell (block_lt_of_cell hc1)).trans hc1; have HLIT := Lib.hid (own_lit wA w7.heap.size HPA.out.b.size s); have HLE : Hid (w7.heap.size ≤ (wA.alloc (.cells #[.string s] 9)).heap.size) := Lib.hid (by have := HPA.out.b.size; simp; omega); clear hb)
            | (at_builtin; refine wpList_cat rfl _ _ rfl Tryd.underlying25 (.string ⟨#[]⟩) info_str rfl rfl rfl (World.ownsRow.alloc HPA.out.ro _) HLIT.out (str_one _) HLE.out hbd3 hbd4 ?_; intro v' w' hown hgr hat; have HPN := Lib.hid (HPA.out.right hown hgr hat); clear hown hgr hat))
          go_roundw
          case rel => exact ⟨i + 1, by have := HI.out; omega, by rw [HE1.out]; rfl, rfl, Lib.hid (by rw [HE2.out, HE3.out]; exact HPN.out)⟩
          case measure => show q - ((i : Int) + 1).toNat < q - (i : Int).toNat; have := HI.out; omega
      · have hiq : ¬ ((i : Int) < (q : Int)) := by omega
        have hTD : D.take i = D := List.take_of_length_le (by have := HQ.out; have := HDP.out; omega)
        have hTP : P.take i = P := List.take_of_length_le (by have := HQ.out; omega)
        rw [hTD, hTP] at HPS hsl ⊢
        rw [hTP] at hle
        rw [HCL.out]
        have hbd1 : ((sdL D P).length + (sdR D P).length) * 16 ≤ 140737488355328 := by omega
        have hbd2 : (sdL D P).length + (sdR D P).length ≤ 140737488355328 := by omega
        have HSM := Lib.hid (fun v2 w' (h1 : Txts w' (.slice po q q) M) (h2 : Txts w' v2 M) => (same3_any (.slice po q q) v2 M M w' h1 h2 (by have := HML.out; omega) (by have := HML.out; omega)).mono (R' := fun e w'' => e = .returned (.bool true) ∧ Below w'.heap.size w' w'') (fun e w'' h => ⟨by rw [h.1, decide_eq_true rfl], h.2⟩))
        have HTM := Lib.hid (fun v' w' (h : w'.ownsRow w7.heap.size 9 1 v' ((sdL D P).length + (sdR D P).length) ((sdL D P).map Value.string ++ (sdR D P).map Value.string)) => (show Txts w' v' M by rw [← List.map_append, ← HM.out] at h; exact txts_ownR h (by have := HML.out; omega)))
        clear hTD hTP hlT hsl hle hlt
        go_wp2_with (first
          | (at_builtin; refine wpList_cat rfl _ _ rfl Tryd.underlying25 (.string ⟨#[]⟩) info_str rfl rfl rfl HPS.out.lo HPS.out.ro (str_one _) HPS.out.b.size hbd1 hbd2 ?_; intro v' w8 hown hgr hat; have HT8 := Lib.hid (HTM.out v' w8 hown); have HB8 := Lib.hid (HPS.out.b.grown hgr HPS.out.b.size (fun k hk => (own_in HPS.out.lo hk).1)); clear hown hgr hat)
          | (go_at_call 31; with_reducible refine (HSM.out v' w8 (HO7.out.below HB8.out (Nat.le_refl _)) HT8.out).mono ?_; rintro r w9 ⟨rfl, hb⟩; have HB9 := Lib.hid (below_from (below_from HB7.out HB8.out HB7.out.size) hb (Nat.le_trans HB7.out.size HB8.out.size)); clear hb))
        go_ret
        exact ⟨rfl, HB9.out⟩
end Go.Proofs.YtejdpahgofhioaaDoor
