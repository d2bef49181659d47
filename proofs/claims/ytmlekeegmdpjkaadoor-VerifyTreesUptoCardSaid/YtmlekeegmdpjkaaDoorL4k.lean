/- VerifyTrees, walked. -/
import Derived.Test.YtmlekeegmdpjkaaDoorL4j
import Derived.Test.YtmlekeegmdpjkaaDoorRec8
namespace Go.Proofs.YtmlekeegmdpjkaaDoor
open Go.RowKit Go.Scr
set_option linter.unusedVariables false

theorem all32_sub {L M : List ByteArray} (h : all32 L = true) (hs : ∀ x ∈ M, x ∈ L) : all32 M = true := by
  unfold all32 at *
  rw [List.all_eq_true] at *
  exact fun x hx => h x (hs x hx)
theorem rootR_size (n : Nat) : ∀ L : List ByteArray, L.length = n → all32 L = true → (rootR L).size = 32 := by
  induction n using Nat.strongRecOn with
  | ind n ih =>
    intro L hL h
    rcases Nat.lt_trichotomy n 1 with h0 | h1 | h2
    · have : L = [] := List.eq_nil_of_length_eq_zero (by omega)
      subst this
      show (rootL nodeS hempty []).size = 32
      rw [rootL_nil]
      unfold hempty
      rw [str_size, sha_length]
    · cases L with
      | nil => simp at hL; omega
      | cons x t => cases t with
        | nil =>
          show (rootL nodeS hempty [x]).size = 32
          rw [rootL_one]
          unfold all32 at h
          simpa using h
        | cons y t => simp at hL; omega
    · have hs := spl_lt (show 2 ≤ n by omega)
      rw [rootR_split (by omega), hL]
      exact nodeS_size (ih _ hs.2.1 _ (by rw [List.length_take]; omega) (all32_sub h fun x hx => List.mem_of_mem_take hx)) (ih (n - spl n) (by omega) _ (by rw [List.length_drop]; omega) (all32_sub h fun x hx => List.mem_of_mem_drop hx))
theorem all32_snoc {L : List ByteArray} {x : ByteArray} (h : all32 L = true) (hx : x.size = 32) : all32 (L ++ [x]) = true := by
  unfold all32 at *
  rw [List.all_append, h]
  simp [hx]
theorem pathR_ok (n : Nat) : ∀ (m : Nat) (L : List ByteArray), L.length = n → all32 L = true → all32 (pathR m L) = true := by
  induction n using Nat.strongRecOn with
  | ind n ih =>
    intro m L hL h
    rcases Nat.lt_or_ge n 2 with h1 | h2
    · rw [pathR_one m (by omega)]; rfl
    · have hs := spl_lt h2
      by_cases hm : m < spl n
      · rw [pathR_left (k := spl n) (by rw [hL]) (by omega) hm]
        exact all32_snoc (ih _ hs.2.1 m _ (by rw [List.length_take]; omega) (all32_sub h fun x hx => List.mem_of_mem_take hx)) (rootR_size _ _ rfl (all32_sub h fun x hx => List.mem_of_mem_drop hx))
      · rw [pathR_right (k := spl n) (by rw [hL]) (by omega) hm]
        exact all32_snoc (ih (n - spl n) (by omega) _ _ (by rw [List.length_drop]; omega) (all32_sub h fun x hx => List.mem_of_mem_drop hx)) (rootR_size _ _ rfl (all32_sub h fun x hx => List.mem_of_mem_take hx))
theorem proofR_ok (n : Nat) : ∀ (m : Nat) (L : List ByteArray) (b : Bool), L.length = n → 1 ≤ m → m ≤ n → all32 L = true → all32 (proofR m L b) = true := by
  induction n using Nat.strongRecOn with
  | ind n ih =>
    intro m L b hL h1 hmn h
    by_cases he : m = n
    · rw [proofR_same (by omega)]
      cases b
      · exact all32_snoc (L := []) rfl (rootR_size _ _ rfl h)
      · rfl
    · have hs := spl_lt (show 2 ≤ n by omega)
      by_cases hm : m ≤ spl n
      · rw [proofR_left b (k := spl n) (by rw [hL]) (by omega) (by omega) hm]
        exact all32_snoc (ih _ hs.2.1 m _ b (by rw [List.length_take]; omega) h1 hm (all32_sub h fun x hx => List.mem_of_mem_take hx)) (rootR_size _ _ rfl (all32_sub h fun x hx => List.mem_of_mem_drop hx))
      · rw [proofR_right b (k := spl n) (by rw [hL]) (by omega) (by omega) hm]
        exact all32_snoc (ih (n - spl n) (by omega) _ _ false (by rw [List.length_drop]; omega) (by omega) (by omega) (all32_sub h fun x hx => List.mem_of_mem_drop hx)) (rootR_size _ _ rfl (all32_sub h fun x hx => List.mem_of_mem_take hx))

set_option maxRecDepth 100000 in
set_option maxHeartbeats 8000000 in
theorem vtrees_any (v : Value) (L0 : List ByteArray) (zi zf : Int) (w : World) (ht : Tabs w) (hv : Txts w v L0) (hl : L0.length ≤ 1048576) (hs : ∀ s ∈ L0, s.size ≤ 1048576)
    (hzi : -9223372036854775808 ≤ zi ∧ zi ≤ 9223372036854775807) (hzf : -9223372036854775808 ≤ zf ∧ zf ≤ 9223372036854775807) :
    Calls Tryd.prog 7 #[v, .int .i64 zi, .int .i64 zf] w fun e w' => e = .returned (.bool true) ∧ Below w.heap.size w w' := by
  have HT := Lib.hid ht
  have HV := Lib.hid hv
  have C1 := Lib.hid (known4_any w ht)
  obtain ⟨n0, hn0⟩ : ∃ n, n = pickN (L0.length : Int) 70 := ⟨_, rfl⟩
  have hn0l : n0 < 70 := by rw [hn0]; exact pickN_lt _ (by decide)
  have cp0 : ∀ w', Calls Tryd.prog 20 #[.int .i64 (L0.length : Int), .int .i64 70] w' fun e w'' => e = .returned (.int .i64 (n0 : Int)) ∧ w'' = w' := by
    rw [hn0]; exact fun w' => pick4_any (L0.length : Int) 70 w' (by decide) (by decide) (by omega)
  obtain ⟨n, hn⟩ : ∃ n, n = n0 + 1 := ⟨_, rfl⟩
  have hni : 1 + (n0 : Int) = (n : Int) := by omega
  obtain ⟨L, hLL⟩ : ∃ L, L = hsL L0 n := ⟨_, rfl⟩
  have hL : L.length = n := by rw [hLL]; exact hsL_length L0 n
  have hall : all32 L = true := by rw [hLL]; exact hsL_all L0 n
  have hok : ok32 L = true := hall
  have ch := fun w' (h : Txts w' v L0) => (hashes4L_any v L0 n w' h (by omega) hs).mono (R' := fun e w'' => ∃ g cl, e = .returned (.slice (some ⟨g, 0, none⟩) n cl) ∧ w''.ownsRow w'.heap.size 9 1 (.slice (some ⟨g, 0, none⟩) n cl) n (L.map Value.string) ∧ Below w'.heap.size w' w'') (fun e w'' h => by
    obtain ⟨x, rfl, hown, hb⟩ := h
    rw [← hLL] at hown
    rcases hown.2 with ⟨_, h0⟩ | ⟨g, cl, cur, hx, _⟩
    · omega
    · subst hx
      exact ⟨g, cl, rfl, hown, hb⟩)
  obtain ⟨k, hk⟩ : ∃ k, k = pickN zi n := ⟨_, rfl⟩
  have hkn : k < n := by rw [hk]; exact pickN_lt _ (by omega)
  have cp1 := fun w' => pick4_any zi n w' (by omega) (by omega) hzi
  rw [← hk] at cp1
  obtain ⟨m0, hm0⟩ : ∃ m, m = pickN zf n := ⟨_, rfl⟩
  have hm0n : m0 < n := by rw [hm0]; exact pickN_lt _ (by omega)
  have cp2 := fun w' => pick4_any zf n w' (by omega) (by omega) hzf
  rw [← hm0] at cp2
  obtain ⟨m, hm⟩ : ∃ m, m = m0 + 1 := ⟨_, rfl⟩
  have hmi : 1 + (m0 : Int) = (m : Int) := by omega
  have hm1 : 1 ≤ m := by omega
  have hmn : m ≤ n := by omega
  have hre : refusedE L = 0 := by unfold refusedE; rw [if_neg (by omega), if_neg (by rw [hok]; decide)]
  have hallm : all32 (L.take m) = true := all32_sub hall fun x hx => List.mem_of_mem_take hx
  have hokm : ok32 (L.take m) = true := hallm
  have hre2 : refusedE (L.take m) = 0 := by unfold refusedE; rw [if_neg (by rw [List.length_take]; omega), if_neg (by rw [hokm]; decide)]
  obtain ⟨R, hR⟩ : ∃ R, R = rootR L := ⟨_, rfl⟩
  obtain ⟨O, hO⟩ : ∃ O, O = rootR (L.take m) := ⟨_, rfl⟩
  have hRs : R.size = 32 := by rw [hR]; exact rootR_size _ _ rfl hall
  have hOs : O.size = 32 := by rw [hO]; exact rootR_size _ _ rfl hallm
  have cr := fun x w' (h : Tabs w') (hx : Txts w' x L) => Root_any x L w' h hx
  rw [show rootT L = R by unfold rootT; rw [if_pos hre, hR], hre] at cr
  have cro := fun x w' (h : Tabs w') (hx : Txts w' x (L.take m)) => Root_any x (L.take m) w' h hx
  rw [show rootT (L.take m) = O by unfold rootT; rw [if_pos hre2, hO], hre2] at cro
  obtain ⟨leaf, hleaf⟩ : ∃ s, L[k]? = some s := ⟨L[k]'(by omega), List.getElem?_eq_getElem _⟩
  have hleafs : leaf.size = 32 := by unfold all32 at hall; rw [List.all_eq_true] at hall; simpa using hall leaf (List.mem_of_getElem? hleaf)
  -- the path
  obtain ⟨P, hP⟩ : ∃ P, P = pathR k L := ⟨_, rfl⟩
  have hpe : pathE L k = 0 := by unfold pathE; rw [if_neg (by simp [hre]), if_neg (by omega)]
  have hpt : pathT L k = P := by unfold pathT; rw [if_pos hpe, Int.toNat_natCast, hP]
  obtain ⟨pn, hpn⟩ : ∃ q, q = P.length := ⟨_, rfl⟩
  have hpw : pn = wayN n k := by rw [hpn, hP]; unfold pathR wayN; exact pathL_length nodeS hempty n k L hL
  have hpall : all32 P = true := by rw [hP]; exact pathR_ok _ _ _ rfl hall
  have hpb : pn ≤ 70 := by rw [hpn, hP]; have := pathR_len k L; omega
  have cpt := fun x w' (h : Tabs w') (hx : Txts w' x L) => (Path_any x L k w' h hx).mono (R' := fun e w'' => ∃ pp cp, e = .returned (.tuple #[.slice pp pn cp, .int .i64 0]) ∧ Txts w'' (.slice pp pn cp) P ∧ Below w'.heap.size w' w'') (fun e w'' h => by
    obtain ⟨x, rfl, hown, hb2⟩ := h
    rw [hpt, hpe] at *
    have htx := txts_own hown (by omega)
    obtain ⟨pp, cp, hx, h2⟩ := htx
    rw [← hpn] at hx
    subst hx
    exact ⟨pp, cp, rfl, txts_own hown (by omega), hb2⟩)
  -- the proof
  obtain ⟨Q, hQ⟩ : ∃ Q, Q = proofR m L true := ⟨_, rfl⟩
  have hqe : proofE L m = 0 := by unfold proofE; rw [if_neg (by simp [hre]), if_neg (by omega)]
  have hqt : proofT L m = Q := by unfold proofT; rw [if_pos hqe, Int.toNat_natCast, hQ]
  obtain ⟨qn, hqn⟩ : ∃ q, q = Q.length := ⟨_, rfl⟩
  have hqw : qn = toldN m n true := by rw [hqn, hQ]; unfold proofR; exact proofL_length nodeS hempty n m L true hL
  have hqall : all32 Q = true := by rw [hQ]; exact proofR_ok _ _ _ _ rfl hm1 (by omega) hall
  have hqb : qn ≤ 70 := by rw [hqn, hQ]; have := proofR_len (L := L) true hm1 (by omega); omega
  have cqt := fun x w' (h : Tabs w') (hx : Txts w' x L) => (Proof_any x L m w' h hx).mono (R' := fun e w'' => ∃ pp cp, e = .returned (.tuple #[.slice pp qn cp, .int .i64 0]) ∧ Txts w'' (.slice pp qn cp) Q ∧ Below w'.heap.size w' w'') (fun e w'' h => by
    obtain ⟨x, rfl, hown, hb2⟩ := h
    rw [hqt, hqe] at *
    have htx := txts_own hown (by omega)
    obtain ⟨pp, cp, hx, h2⟩ := htx
    rw [← hqn] at hx
    subst hx
    exact ⟨pp, cp, rfl, txts_own hown (by omega), hb2⟩)
  -- the lengths
  have cl1 := fun w' => pathlen_any n k w'
  rw [(pathLenS_ok hkn (by omega)).1, (pathLenS_ok hkn (by omega)).2, ← hpw] at cl1
  have cl2 := fun w' => prooflen_any m n w'
  rw [(proofLenS_ok hm1 hmn (by omega)).1, (proofLenS_ok hm1 hmn (by omega)).2, ← hqw] at cl2
  -- the roots
  have r1 := rootOf_ok (n := n) (m := k) (leaf := leaf) (L := P) hkn (by omega) hleafs hpall (by rw [← hpn]; exact hpw)
  have hcl : climbF nodeS (dn n k) P leaf = R := by rw [hP, hR]; exact climb_path nodeS hempty n k L leaf hL hleaf
  rw [hcl] at r1
  have r2 := rootsOf_ok (f := m) (s := n) (old := O) (L := Q) hm1 hmn (by omega) hOs hqall (by rw [← hqn]; exact hqw)
  have hcb : bothS m n true O Q = (O, R) := by rw [hQ, hR, hO]; unfold bothS; exact climb_proof nodeS hempty n m L true _ hL hm1 hmn (fun _ => rfl)
  rw [hcb] at r2
  have ca := fun x w' (h : Tabs w') (hx : Txts w' x P) => rootof_any n k leaf x P w' h hx (by omega)
  rw [r1.1, r1.2] at ca
  have cb := fun x w' (h : Tabs w') (hx : Txts w' x Q) => rootsof_any m n O x Q w' h hx (by omega)
  rw [r2.1, r2.2] at cb
  have hincl : ∀ t, inclS n k leaf P t = if t.size ≠ 32 then 42 else if R ≠ t then 44 else 0 := by
    intro t; unfold inclS; rw [r1.1, r1.2, if_neg (by simp)]
  have hcons : ∀ t, consS m n O t Q = if t.size ≠ 32 then 42 else if R ≠ t then 44 else 0 := by
    intro t; unfold consS; rw [r2.1, r2.2, if_neg (by simp)]; simp
  have ci := fun t x w' (h : Tabs w') (hx : Txts w' x P) => inclusion_any n k leaf x P t w' h hx (by omega)
  simp only [hincl] at ci
  have cc := fun t x w' (h : Tabs w') (hx : Txts w' x Q) => consistency_any m n O t x Q w' h hx (by omega)
  simp only [hcons] at cc
  have ci1 := ci R
  have cc1 := cc R
  rw [if_neg (by simp [hRs]), if_neg (by simp)] at ci1 cc1
  obtain ⟨D, hD⟩ : ∃ D, D = hashS R := ⟨_, rfl⟩
  have hDs : D.size = 32 := by rw [hD]; exact hashS_size _
  have chr := fun w' => hash4_any R w' (by omega)
  rw [← hD] at chr
  have ci2 := ci D
  have cc2 := cc D
  rw [if_neg (by simp [hDs])] at ci2 cc2
  have HLK := Lib.hid (show (L.map Value.string)[k]? = some (.string leaf) by rw [List.getElem?_map, hleaf]; rfl)
  have HKN := Lib.hid hkn
  have HXL := Lib.hid (show L.length ≤ 281474976710656 by omega)
  have HCUT := Lib.hid (fun (w' : World) (g cl : Nat) (h : w'.ownsRow w.heap.size 9 1 (.slice (some ⟨g, 0, none⟩) n cl) n (L.map Value.string)) => txts_cut (m := m) (txts_own h HXL.out) hmn)
  have hki : (k : Int) < (n : Int) := by omega
  have hk0 : (0 : Int) ≤ (k : Int) := by omega
  have hm00 : (0 : Int) ≤ (m : Int) := by omega
  have HMN := Lib.hid hmn
  have hnb : n ≤ 70 := by omega
  have hmb : m ≤ 70 := by omega
  obtain ⟨l0, hl0⟩ : ∃ l, l = L0.length := ⟨_, rfl⟩
  rw [← hl0] at cp0 hl
  have C0 := Lib.hid cp0
  have CP1 := Lib.hid cp1
  have CP2 := Lib.hid cp2
  have CH := Lib.hid ch
  have CR := Lib.hid cr
  have CRO := Lib.hid cro
  have CPT := Lib.hid cpt
  have CQT := Lib.hid cqt
  have CL1 := Lib.hid cl1
  have CL2 := Lib.hid cl2
  have CA := Lib.hid ca
  have CB := Lib.hid cb
  have CI1 := Lib.hid ci1
  have CC1 := Lib.hid cc1
  have CHR := Lib.hid chr
  obtain ⟨p0, c0, rfl, hv1, hv2, hv3⟩ := hv
  rw [← hl0] at HV CH ⊢
  clear hv1 hv2 hv3 ht hs hzi hzf hn0 hn0l hn hLL hL hall hok hk hkn hm0 hm0n hm hm1 hmn hre hallm hokm hre2 hR hO hOs cp0 cp1 cp2 ch cr cro hleaf hleafs hP hpe hpt hpn hpw hpall cpt hQ hqe hqt hqn hqw hqall cqt cl1 cl2 r1 r2 hcl hcb ca cb hincl hcons ci cc ci1 cc1 hD hDs chr hl0
  by_cases hDR : D = R
  · have e1 : (D.toList == R.toList) = true := by rw [hDR]; exact toList_same _
    rw [if_neg (by simp [hDR])] at ci2 cc2
    have CI2 := Lib.hid ci2
    have CC2 := Lib.hid cc2
    clear hDR ci2 cc2 hRs
    go_enter Tryd.func7, Tryd.ntmps7
    go_wp2_with (first
      | (go_at_call 14; with_reducible refine (C1.out).mono ?_; rintro r w1 ⟨rfl, hb⟩; have HB1 := Lib.hid hb; clear hb)
      | (go_at_call 20; with_reducible refine (C0.out _).mono ?_; rintro r wx ⟨rfl, hw⟩; rw [hw]; clear hw wx)
      | (go_at_call 20; with_reducible refine (CP1.out _).mono ?_; rintro r wx ⟨rfl, hw⟩; rw [hw]; clear hw wx)
      | (go_at_call 20; with_reducible refine (CP2.out _).mono ?_; rintro r wx ⟨rfl, hw⟩; rw [hw]; clear hw wx)
      | (go_at_call 21; with_reducible refine (CH.out w1 (HV.out.below HB1.out (Nat.le_refl _))).mono ?_; rintro r w2 ⟨g, cl, rfl, hown, hb⟩; have HB2 := Lib.hid (below_from HB1.out hb HB1.out.size); have HO2 := Lib.hid (owns_le hown HB1.out.size); have hncl : (n : Int) ≤ (cl : Int) := Int.ofNat_le.2 (owns_blk hown).2.2; have hmcl : (m : Int) ≤ (cl : Int) := Int.ofNat_le.2 (Nat.le_trans HMN.out (owns_blk hown).2.2); clear hb hown)
      | (go_at_call 26; with_reducible refine (CR.out _ w2 (HT.out.below HB2.out) (txts_own HO2.out HXL.out)).mono ?_; rintro r w3 ⟨rfl, hb⟩; have HB3 := Lib.hid (below_from HB2.out hb HB2.out.size); have HO3 := Lib.hid (owns_below HO2.out hb (Nat.le_refl _)); clear hb)
      | (go_at_call 26; with_reducible refine (CRO.out _ w3 (HT.out.below HB3.out) (HCUT.out w3 g cl HO3.out)).mono ?_; rintro r w4 ⟨rfl, hb⟩; have HB4 := Lib.hid (below_from HB3.out hb HB3.out.size); have HO4 := Lib.hid (owns_below HO3.out hb (Nat.le_refl _)); clear hb)
      | (go_at_call 27; with_reducible refine (CPT.out _ w4 (HT.out.below HB4.out) (txts_own HO4.out HXL.out)).mono ?_; rintro r w5 ⟨pp, pc, rfl, hpx, hb⟩; have HB5 := Lib.hid (below_from HB4.out hb HB4.out.size); have HO5 := Lib.hid (owns_below HO4.out hb (Nat.le_refl _)); have HP5 := Lib.hid hpx; clear hpx; clear hb)
      | (go_at_call 28; with_reducible refine (CQT.out _ w5 (HT.out.below HB5.out) (txts_own HO5.out HXL.out)).mono ?_; rintro r w6 ⟨qp, qc, rfl, hqx, hb⟩; have HB6 := Lib.hid (below_from HB5.out hb HB5.out.size); have HO6 := Lib.hid (owns_below HO5.out hb (Nat.le_refl _)); have HP6 := Lib.hid (HP5.out.below hb (Nat.le_refl _)); have HQ6 := Lib.hid hqx; clear hqx; clear hb)
      | (go_at_call 15; with_reducible refine (CL1.out w6).mono ?_; rintro r w7 ⟨rfl, hb⟩; have HB7 := Lib.hid (below_from HB6.out hb HB6.out.size); have HO7 := Lib.hid (owns_below HO6.out hb (Nat.le_refl _)); have HP7 := Lib.hid (HP6.out.below hb (Nat.le_refl _)); have HQ7 := Lib.hid (HQ6.out.below hb (Nat.le_refl _)); clear hb)
      | (go_at_call 17; with_reducible refine (CL2.out w7).mono ?_; rintro r w8 ⟨rfl, hb⟩; have HB8 := Lib.hid (below_from HB7.out hb HB7.out.size); have HO8 := Lib.hid (owns_below HO7.out hb (Nat.le_refl _)); have HP8 := Lib.hid (HP7.out.below hb (Nat.le_refl _)); have HQ8 := Lib.hid (HQ7.out.below hb (Nat.le_refl _)); have hcell8 := (owns_cell HO8.out HKN.out).trans HLK.out; clear hb)
      | (go_at_call 24; with_reducible refine (CA.out _ w8 (HT.out.below HB8.out) HP8.out).mono ?_; rintro r w9 ⟨rfl, hb⟩; have HB9 := Lib.hid (below_from HB8.out hb HB8.out.size); have HO9 := Lib.hid (owns_below HO8.out hb (Nat.le_refl _)); have HP9 := Lib.hid (HP8.out.below hb (Nat.le_refl _)); have HQ9 := Lib.hid (HQ8.out.below hb (Nat.le_refl _)); clear hb)
      | (go_at_call 29; with_reducible refine (CB.out _ w9 (HT.out.below HB9.out) HQ9.out).mono ?_; rintro r w10 ⟨rfl, hb⟩; have HB10 := Lib.hid (below_from HB9.out hb HB9.out.size); have HO10 := Lib.hid (owns_below HO9.out hb (Nat.le_refl _)); have HP10 := Lib.hid (HP9.out.below hb (Nat.le_refl _)); have HQ10 := Lib.hid (HQ9.out.below hb (Nat.le_refl _)); have hcell10 := (owns_cell HO10.out HKN.out).trans HLK.out; clear hb)
      | (go_at_call 25; with_reducible refine (CI1.out _ w10 (HT.out.below HB10.out) HP10.out).mono ?_; rintro r w11 ⟨rfl, hb⟩; have HB11 := Lib.hid (below_from HB10.out hb HB10.out.size); have HO11 := Lib.hid (owns_below HO10.out hb (Nat.le_refl _)); have HP11 := Lib.hid (HP10.out.below hb (Nat.le_refl _)); have HQ11 := Lib.hid (HQ10.out.below hb (Nat.le_refl _)); clear hb)
      | (go_at_call 30; with_reducible refine (CC1.out _ w11 (HT.out.below HB11.out) HQ11.out).mono ?_; rintro r w12 ⟨rfl, hb⟩; have HB12 := Lib.hid (below_from HB11.out hb HB11.out.size); have HO12 := Lib.hid (owns_below HO11.out hb (Nat.le_refl _)); have HP12 := Lib.hid (HP11.out.below hb (Nat.le_refl _)); have HQ12 := Lib.hid (HQ11.out.below hb (Nat.le_refl _)); clear hb)
      | (go_at_call 22; with_reducible refine (CHR.out w12).mono ?_; rintro r w13 ⟨rfl, hb⟩; have HB13 := Lib.hid (below_from HB12.out hb HB12.out.size); have HO13 := Lib.hid (owns_below HO12.out hb (Nat.le_refl _)); have HP13 := Lib.hid (HP12.out.below hb (Nat.le_refl _)); have HQ13 := Lib.hid (HQ12.out.below hb (Nat.le_refl _)); have hcell13 := (owns_cell HO13.out HKN.out).trans HLK.out; clear hb)
      | (go_at_call 25; with_reducible refine (CI2.out _ w13 (HT.out.below HB13.out) HP13.out).mono ?_; rintro r w14 ⟨rfl, hb⟩; have HB14 := Lib.hid (below_from HB13.out hb HB13.out.size); have HO14 := Lib.hid (owns_below HO13.out hb (Nat.le_refl _)); have HP14 := Lib.hid (HP13.out.below hb (Nat.le_refl _)); have HQ14 := Lib.hid (HQ13.out.below hb (Nat.le_refl _)); clear hb)
      | (go_at_call 30; with_reducible refine (CC2.out _ w14 (HT.out.below HB14.out) HQ14.out).mono ?_; rintro r w15 ⟨rfl, hb⟩; have HB15 := Lib.hid (below_from HB14.out hb HB14.out.size); have HO15 := Lib.hid (owns_below HO14.out hb (Nat.le_refl _)); clear hb))
    go_ret
    exact ⟨rfl, HB15.out⟩
  · have e1 := toList_ne hDR
    rw [if_pos (fun h => hDR h.symm)] at ci2 cc2
    have CI2 := Lib.hid ci2
    have CC2 := Lib.hid cc2
    clear hDR ci2 cc2 hRs
    go_enter Tryd.func7, Tryd.ntmps7
    go_wp2_with (first
      | (go_at_call 14; with_reducible refine (C1.out).mono ?_; rintro r w1 ⟨rfl, hb⟩; have HB1 := Lib.hid hb; clear hb)
      | (go_at_call 20; with_reducible refine (C0.out _).mono ?_; rintro r wx ⟨rfl, hw⟩; rw [hw]; clear hw wx)
      | (go_at_call 20; with_reducible refine (CP1.out _).mono ?_; rintro r wx ⟨rfl, hw⟩; rw [hw]; clear hw wx)
      | (go_at_call 20; with_reducible refine (CP2.out _).mono ?_; rintro r wx ⟨rfl, hw⟩; rw [hw]; clear hw wx)
      | (go_at_call 21; with_reducible refine (CH.out w1 (HV.out.below HB1.out (Nat.le_refl _))).mono ?_; rintro r w2 ⟨g, cl, rfl, hown, hb⟩; have HB2 := Lib.hid (below_from HB1.out hb HB1.out.size); have HO2 := Lib.hid (owns_le hown HB1.out.size); have hncl : (n : Int) ≤ (cl : Int) := Int.ofNat_le.2 (owns_blk hown).2.2; have hmcl : (m : Int) ≤ (cl : Int) := Int.ofNat_le.2 (Nat.le_trans HMN.out (owns_blk hown).2.2); clear hb hown)
      | (go_at_call 26; with_reducible refine (CR.out _ w2 (HT.out.below HB2.out) (txts_own HO2.out HXL.out)).mono ?_; rintro r w3 ⟨rfl, hb⟩; have HB3 := Lib.hid (below_from HB2.out hb HB2.out.size); have HO3 := Lib.hid (owns_below HO2.out hb (Nat.le_refl _)); clear hb)
      | (go_at_call 26; with_reducible refine (CRO.out _ w3 (HT.out.below HB3.out) (HCUT.out w3 g cl HO3.out)).mono ?_; rintro r w4 ⟨rfl, hb⟩; have HB4 := Lib.hid (below_from HB3.out hb HB3.out.size); have HO4 := Lib.hid (owns_below HO3.out hb (Nat.le_refl _)); clear hb)
      | (go_at_call 27; with_reducible refine (CPT.out _ w4 (HT.out.below HB4.out) (txts_own HO4.out HXL.out)).mono ?_; rintro r w5 ⟨pp, pc, rfl, hpx, hb⟩; have HB5 := Lib.hid (below_from HB4.out hb HB4.out.size); have HO5 := Lib.hid (owns_below HO4.out hb (Nat.le_refl _)); have HP5 := Lib.hid hpx; clear hpx; clear hb)
      | (go_at_call 28; with_reducible refine (CQT.out _ w5 (HT.out.below HB5.out) (txts_own HO5.out HXL.out)).mono ?_; rintro r w6 ⟨qp, qc, rfl, hqx, hb⟩; have HB6 := Lib.hid (below_from HB5.out hb HB5.out.size); have HO6 := Lib.hid (owns_below HO5.out hb (Nat.le_refl _)); have HP6 := Lib.hid (HP5.out.below hb (Nat.le_refl _)); have HQ6 := Lib.hid hqx; clear hqx; clear hb)
      | (go_at_call 15; with_reducible refine (CL1.out w6).mono ?_; rintro r w7 ⟨rfl, hb⟩; have HB7 := Lib.hid (below_from HB6.out hb HB6.out.size); have HO7 := Lib.hid (owns_below HO6.out hb (Nat.le_refl _)); have HP7 := Lib.hid (HP6.out.below hb (Nat.le_refl _)); have HQ7 := Lib.hid (HQ6.out.below hb (Nat.le_refl _)); clear hb)
      | (go_at_call 17; with_reducible refine (CL2.out w7).mono ?_; rintro r w8 ⟨rfl, hb⟩; have HB8 := Lib.hid (below_from HB7.out hb HB7.out.size); have HO8 := Lib.hid (owns_below HO7.out hb (Nat.le_refl _)); have HP8 := Lib.hid (HP7.out.below hb (Nat.le_refl _)); have HQ8 := Lib.hid (HQ7.out.below hb (Nat.le_refl _)); have hcell8 := (owns_cell HO8.out HKN.out).trans HLK.out; clear hb)
      | (go_at_call 24; with_reducible refine (CA.out _ w8 (HT.out.below HB8.out) HP8.out).mono ?_; rintro r w9 ⟨rfl, hb⟩; have HB9 := Lib.hid (below_from HB8.out hb HB8.out.size); have HO9 := Lib.hid (owns_below HO8.out hb (Nat.le_refl _)); have HP9 := Lib.hid (HP8.out.below hb (Nat.le_refl _)); have HQ9 := Lib.hid (HQ8.out.below hb (Nat.le_refl _)); clear hb)
      | (go_at_call 29; with_reducible refine (CB.out _ w9 (HT.out.below HB9.out) HQ9.out).mono ?_; rintro r w10 ⟨rfl, hb⟩; have HB10 := Lib.hid (below_from HB9.out hb HB9.out.size); have HO10 := Lib.hid (owns_below HO9.out hb (Nat.le_refl _)); have HP10 := Lib.hid (HP9.out.below hb (Nat.le_refl _)); have HQ10 := Lib.hid (HQ9.out.below hb (Nat.le_refl _)); have hcell10 := (owns_cell HO10.out HKN.out).trans HLK.out; clear hb)
      | (go_at_call 25; with_reducible refine (CI1.out _ w10 (HT.out.below HB10.out) HP10.out).mono ?_; rintro r w11 ⟨rfl, hb⟩; have HB11 := Lib.hid (below_from HB10.out hb HB10.out.size); have HO11 := Lib.hid (owns_below HO10.out hb (Nat.le_refl _)); have HP11 := Lib.hid (HP10.out.below hb (Nat.le_refl _)); have HQ11 := Lib.hid (HQ10.out.below hb (Nat.le_refl _)); clear hb)
      | (go_at_call 30; with_reducible refine (CC1.out _ w11 (HT.out.below HB11.out) HQ11.out).mono ?_; rintro r w12 ⟨rfl, hb⟩; have HB12 := Lib.hid (below_from HB11.out hb HB11.out.size); have HO12 := Lib.hid (owns_below HO11.out hb (Nat.le_refl _)); have HP12 := Lib.hid (HP11.out.below hb (Nat.le_refl _)); have HQ12 := Lib.hid (HQ11.out.below hb (Nat.le_refl _)); clear hb)
      | (go_at_call 22; with_reducible refine (CHR.out w12).mono ?_; rintro r w13 ⟨rfl, hb⟩; have HB13 := Lib.hid (below_from HB12.out hb HB12.out.size); have HO13 := Lib.hid (owns_below HO12.out hb (Nat.le_refl _)); have HP13 := Lib.hid (HP12.out.below hb (Nat.le_refl _)); have HQ13 := Lib.hid (HQ12.out.below hb (Nat.le_refl _)); have hcell13 := (owns_cell HO13.out HKN.out).trans HLK.out; clear hb)
      | (go_at_call 25; with_reducible refine (CI2.out _ w13 (HT.out.below HB13.out) HP13.out).mono ?_; rintro r w14 ⟨rfl, hb⟩; have HB14 := Lib.hid (below_from HB13.out hb HB13.out.size); have HO14 := Lib.hid (owns_below HO13.out hb (Nat.le_refl _)); have HP14 := Lib.hid (HP13.out.below hb (Nat.le_refl _)); have HQ14 := Lib.hid (HQ13.out.below hb (Nat.le_refl _)); clear hb)
      | (go_at_call 30; with_reducible refine (CC2.out _ w14 (HT.out.below HB14.out) HQ14.out).mono ?_; rintro r w15 ⟨rfl, hb⟩; have HB15 := Lib.hid (below_from HB14.out hb HB14.out.size); have HO15 := Lib.hid (owns_below HO14.out hb (Nat.le_refl _)); clear hb))
    go_ret
    exact ⟨rfl, HB15.out⟩
end Go.Proofs.YtmlekeegmdpjkaaDoor
