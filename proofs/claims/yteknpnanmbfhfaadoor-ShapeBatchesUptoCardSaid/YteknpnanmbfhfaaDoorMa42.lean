/- The document's shape, walked: Path, Proof, Run. -/
import Derived.Test.YteknpnanmbfhfaaDoorMa39
import Derived.Test.YteknpnanmbfhfaaDoorMa33
import Derived.Deep.CutBlock
namespace Go.Proofs.YteknpnanmbfhfaaDoor
open Go.RowKit Go.Scr Go.Shelf
set_option linter.unusedVariables false
theorem proofT_log (j : Nat) : ∀ b n m, n ≤ 2 ^ j → 1 ≤ m → m ≤ n → (Go.Scr.proofT b n m).length ≤ j + 1 := by
  induction j with
  | zero =>
    intro b n m h h1 h2
    have : n = 1 := by simp at h; omega
    subst this
    obtain rfl : m = 1 := by omega
    rw [proofT_end]
    split <;> simp
  | succ j ih =>
    intro b n m h h1 h2
    by_cases hm : m = n
    · subst hm
      rw [proofT_end]
      split <;> simp
    · have hs := spl_lt (show 2 ≤ n by omega)
      obtain ⟨k, q2, q3, q4⟩ := spl_pow (show 2 ≤ n by omega)
      have hk : k ≤ j := by
        have := (Nat.pow_lt_pow_iff_right (show 1 < 2 by decide)).1 (Nat.lt_of_lt_of_le q3 h)
        omega
      have hp : 2 ^ k ≤ 2 ^ j := Nat.pow_le_pow_right (by decide) hk
      by_cases h5 : m ≤ spl n
      · rw [proofT_left b hm (by omega) h5, List.length_cons]
        have := ih b (spl n) m (by omega) h1 h5
        omega
      · rw [proofT_right b hm (by omega) h5, List.length_cons]
        have := ih (b + spl n) (n - spl n) (m - spl n) (by omega) (by omega) (by omega)
        omega
theorem rrun_any (n b e : Int) (w : World) : Calls Tryd.prog 27 #[.int .i64 n, .agg #[.int .i64 b, .int .i64 e]] w (OutP w 29 (runE n b e) (runL n b e)) := by
  obtain ⟨b0, hb0⟩ : ∃ x, x = w.heap.size := ⟨_, rfl⟩
  obtain ⟨w1, hw1⟩ : ∃ x, x = w.alloc (.cells #[.int .i64 b, .int .i64 e] 29) := ⟨_, rfl⟩
  have hbel : Below w.heap.size w w1 := by rw [hw1]; exact (Below.refl _ _).alloc (Nat.le_refl _) _
  have r0 : w1.heap[b0]? = some (.cells #[.int .i64 b, .int .i64 e] 29 (0, 0)) := by rw [hw1, hb0]; exact heap_alloc_new w _
  have d0 : w1.cell? ⟨b0, 0, none⟩ = some (.int .i64 b) := cell_of_row _ _ _ _ _ _ r0
  have d1 : w1.cell? ⟨b0, 1, none⟩ = some (.int .i64 e) := cell_of_row _ _ _ _ _ _ r0
  have HW := Lib.hid hw1
  have HB := Lib.hid hb0
  have HBEL := Lib.hid hbel
  clear hw1 hb0 hbel r0
  unfold runE runL
  by_cases h : n < 1 ∨ 1099511627776 < n
  · rw [if_pos h, if_pos h]
    by_cases h1 : n < 1
    · clear h
      go_enter Tryd.func27, Tryd.ntmps27
      go_upto_region 1 with fail
      rw [← HW.out, ← HB.out]
      go_wp2_with fail
      go_ret2
      exact outP_nil rfl HBEL.out
    · have h2 : 1099511627776 < n := by omega
      clear h
      go_enter Tryd.func27, Tryd.ntmps27
      go_upto_region 1 with fail
      rw [← HW.out, ← HB.out]
      go_wp2_with fail
      go_ret2
      exact outP_nil rfl HBEL.out
  · have h1 : ¬ n < 1 := by omega
    have h2 : ¬ 1099511627776 < n := by omega
    rw [if_neg h, if_neg h]
    clear h
    by_cases hb : b < 0
    · rw [if_pos (.inl hb), if_pos (.inl hb)]
      go_enter Tryd.func27, Tryd.ntmps27
      go_upto_region 1 with fail
      rw [← HW.out, ← HB.out]
      go_wp2_with fail
      go_ret2
      exact outP_nil rfl HBEL.out
    · by_cases he : e ≤ b
      · rw [if_pos (.inr (.inl he)), if_pos (.inr (.inl he))]
        go_enter Tryd.func27, Tryd.ntmps27
        go_upto_region 1 with fail
        rw [← HW.out, ← HB.out]
        go_wp2_with fail
        go_ret2
        exact outP_nil rfl HBEL.out
      · by_cases hn : n < e
        · rw [if_pos (.inr (.inr hn)), if_pos (.inr (.inr hn))]
          go_enter Tryd.func27, Tryd.ntmps27
          go_upto_region 1 with fail
          rw [← HW.out, ← HB.out]
          go_wp2_with fail
          go_ret2
          exact outP_nil rfl HBEL.out
        · rw [if_neg (by omega), if_neg (by omega)]
          obtain ⟨x, rfl⟩ : ∃ x : Nat, n = (x : Int) := ⟨n.toNat, by omega⟩
          obtain ⟨y, rfl⟩ : ∃ x : Nat, b = (x : Int) := ⟨b.toNat, by omega⟩
          obtain ⟨z, rfl⟩ : ∃ x : Nat, e = (x : Int) := ⟨e.toNat, by omega⟩
          rw [Int.toNat_natCast, Int.toNat_natCast, Int.toNat_natCast]
          have CB : Hid (Calls Tryd.prog 60 #[.agg #[.int .i64 0, .int .i64 (x : Int)], .agg #[.int .i64 (y : Int), .int .i64 (z : Int)]] w1 (OutL w1 (restT (lookR y z) 0 x))) := Lib.hid (by
            have := beside_any y z x 0 w1 (by omega) (by omega)
            rw [Nat.zero_add] at this
            exact this)
          go_enter Tryd.func27, Tryd.ntmps27
          go_upto_region 1 with fail
          rw [← HW.out, ← HB.out]
          go_wp2_with (go_at_call 60; (with_reducible refine CB.out.mono ?_); rintro r w2 ⟨⟨p, c, rfl, hh, ho⟩, hb2⟩; have HO := Lib.hid (And.intro hh (And.intro ho hb2)); clear hh ho hb2)
          go_ret2
          exact ⟨⟨p, c, rfl, HO.out.1, fun g hg => by have := HO.out.2.1 g hg; have := HBEL.out.size; omega⟩, below_onS HBEL.out HO.out.2.2 HBEL.out.size⟩
set_option maxRecDepth 100000 in
set_option maxHeartbeats 4000000 in
theorem rpath_yes (n i : Nat) (w : World) (h1 : i < n) (h2 : n ≤ 1099511627776) : Calls Tryd.prog 20 #[.int .i64 (n : Int), .int .i64 (i : Int)] w (OutP w 29 0 (Go.Scr.pathT 0 n i).reverse) := by
  have e1 : ¬ (n : Int) < 1 := by omega
  have e2 : ¬ (1099511627776 : Int) < (n : Int) := by omega
  have e3 : ¬ (i : Int) < 0 := by omega
  have e4 : ¬ (n : Int) ≤ (i : Int) := by omega
  obtain ⟨bx, hbx⟩ : ∃ x, x = w.heap.size := ⟨_, rfl⟩
  obtain ⟨w1, hw1⟩ : ∃ x, x = w.alloc (.cells #[.int .i64 0, .int .i64 (n : Int)] 29) := ⟨_, rfl⟩
  have hbel : Below w.heap.size w w1 := by rw [hw1]; exact (Below.refl _ _).alloc (Nat.le_refl _) _
  have r0 : spRow w1 bx 0 n := by rw [hw1, hbx]; exact heap_alloc_new w _
  obtain ⟨P, hP⟩ : ∃ x, x = Go.Scr.pathT 0 n i := ⟨_, rfl⟩
  have hPl : P.length ≤ 40 := by rw [hP, path_length n 0 i h1]; exact wayN_log 40 n i (by omega) h1
  rw [← hP]
  have HP : Hid (P = Go.Scr.pathT 0 n i ∧ i < n ∧ n ≤ 1099511627776 ∧ P.length ≤ 40) := Lib.hid ⟨hP, h1, h2, hPl⟩
  have HA0 : Hid (AtI w w1 bx 0 n [] (.slice none 0 0)) := Lib.hid ⟨⟨rfl, .inl ⟨rfl, rfl⟩⟩, (fun g hg => by cases hg), (fun h => by cases h), r0, Nat.le_of_eq hbx.symm, hbel⟩
  have HW := Lib.hid hw1
  have HBX := Lib.hid hbx
  obtain ⟨d0, d1, _⟩ := r0.at
  clear hw1 hbx hbel r0 h1 h2 hP hPl
  go_enter Tryd.func20, Tryd.ntmps20
  go_upto_block 0 with fail
  rw [← HW.out, ← HBX.out]
  go_wp2_with fail
  go_loopw [6] (fun x wr => Hid (∃ b e L, AtI w wr bx b e L x ∧ b ≤ i ∧ i < e ∧ e ≤ 1099511627776 ∧ P = L ++ Go.Scr.pathT b (e - b) (i - b))) (fun _ wr => spLen wr bx)
  case atStart => exact Lib.hid ⟨0, n, [], HA0.out, Nat.zero_le _, HP.out.2.1, HP.out.2.2.1, by rw [HP.out.1]; rfl⟩
  case round =>
    clear d0 d1 HA0
    obtain ⟨b, e, L, hat, hb1, hb2, hb3, hPe⟩ := hrel.out
    obtain ⟨q, d, rfl, _⟩ := hat.hd.cells
    obtain ⟨l, hl⟩ : ∃ l, l = L.length := ⟨_, rfl⟩
    have hll : l ≤ 40 := by
      have := HP.out.2.2.2
      rw [hPe, List.length_append] at this
      omega
    have HI : Hid (l = L.length ∧ (b ≤ i ∧ i < e ∧ e ≤ 1099511627776) ∧ P = L ++ Go.Scr.pathT b (e - b) (i - b) ∧ True ∧ AtI w wr bx b e L (.slice q l d)) := Lib.hid ⟨hl, ⟨hb1, hb2, hb3⟩, hPe, trivial, by rw [hl]; exact hat⟩
    obtain ⟨d0, d1, _⟩ := hat.rb.at
    rw [← hl]
    clear hrel hat hPe hl
    by_cases h1 : 1 < e - b
    · obtain ⟨s, hs⟩ : ∃ s, s = e - b := ⟨_, rfl⟩
      have hsi : (e : Int) - (b : Int) = (s : Int) := by omega
      have hs1 : (1 : Int) < (s : Int) := by omega
      have HS : Hid (s = e - b ∧ 1 < e - b) := Lib.hid ⟨hs, h1⟩
      have hsp := spl_lt (show 2 ≤ e - b by omega)
      obtain ⟨md, hmd⟩ : ∃ x, x = b + spl (e - b) := ⟨_, rfl⟩
      have hz3 : (l + 1) * 16 ≤ 140737488355328 := by omega
      have hz4 : l + 1 ≤ 140737488355328 := by omega
      have CM : Hid (∀ w', Calls Tryd.prog 48 #[.agg #[.int .i64 (b : Int), .int .i64 (e : Int)]] w' fun r w2 => r = .returned (.int .i64 (md : Int)) ∧ Below w'.heap.size w' w2) := Lib.hid (fun w' => by
        have := rmiddle_any b e w' (by have := HI.out; omega) (by have := HI.out; omega)
        rwa [← hmd] at this)
      have CL : Hid (∀ w', Calls Tryd.prog 49 #[.agg #[.int .i64 (b : Int), .int .i64 (e : Int)]] w' fun r w2 => r = .returned (.agg #[.int .i64 (b : Int), .int .i64 (md : Int)]) ∧ Below w'.heap.size w' w2) := Lib.hid (fun w' => by
        have := rleft_any b e w' (by have := HI.out; omega) (by have := HI.out; omega)
        rwa [← hmd] at this)
      have CR : Hid (∀ w', Calls Tryd.prog 50 #[.agg #[.int .i64 (b : Int), .int .i64 (e : Int)]] w' fun r w2 => r = .returned (.agg #[.int .i64 (md : Int), .int .i64 (e : Int)]) ∧ Below w'.heap.size w' w2) := Lib.hid (fun w' => by
        have := rright_any b e w' (by have := HI.out; omega) (by have := HI.out; omega)
        rwa [← hmd] at this)
      have HSP : Hid (md = b + spl (e - b) ∧ 1 ≤ spl (e - b) ∧ spl (e - b) < e - b) := Lib.hid ⟨hmd, hsp.1, hsp.2.1⟩
      have hmdb : b < md ∧ md < e := by omega
      obtain ⟨hmd1, hmd2⟩ := hmdb
      clear hmd hsp hs h1
      by_cases hlf : i < md
      · have hci : (i : Int) < (md : Int) := by omega
        have HONE : Hid (∀ u ∈ [Value.int .i64 (md : Int), .int .i64 (e : Int)], u.oneCell' = true) := Lib.hid (fun u hu => by
          rcases List.mem_cons.1 hu with rfl | hu
          · rfl
          · rw [List.mem_singleton.1 hu]; rfl)
        have HLF := Lib.hid hlf
        clear hlf
        go_wp2_with (first
          | (go_at_call 48; (with_reducible refine (CM.out _).mono ?_); rintro r w3 ⟨rfl, hb⟩; have H3 := Lib.hid (HI.out.2.2.2.2.later hb); obtain ⟨e0, e1, _⟩ := H3.out.rb.at; clear hb)
          | (go_at_call 50; (with_reducible refine (CR.out _).mono ?_); rintro r w4 ⟨rfl, hb⟩; have H4 := Lib.hid (H3.out.later hb); have HH := Lib.hid (by have := H4.out.hd; rwa [← HI.out.1] at this : Held w4 29 2 (.slice q l d) l (prsV L)); clear hb)
          | (at_builtin; refine wpList_grew (v := .slice q l d) (l := prsV L) rfl _ _ rfl Tryd.underlying31 (.agg #[.int .i64 0, .int .i64 0]) 2 info_spanP rfl (by decide) [.int .i64 (md : Int), .int .i64 (e : Int)] 1 (by simp [Act.eval]) (by simp [Act.eval]) HH.out rfl rfl (by decide) HONE.out hz3 hz4 ?_; intro v5 w5 hg5; have H5 := Lib.hid (H4.out.push (by rw [← HI.out.1]; exact hg5)); obtain ⟨f0, f1, _⟩ := H5.out.rb.at; clear hg5)
          | (go_at_call 49; (with_reducible refine (CL.out _).mono ?_); rintro r w6 ⟨rfl, hb⟩; have H6 := Lib.hid (H5.out.later hb); obtain ⟨g0, g1, gf⟩ := H6.out.rb.at; clear hb))
        refine ⟨Lib.hid ⟨b, md, L ++ [(md, e)], H6.out.set b md, ?_⟩, ?_⟩
        · have h := HSP.out
          refine ⟨HI.out.2.1.1, HLF.out, by have := HI.out.2.1; omega, ?_⟩
          rw [HI.out.2.2.1, pathT_left b HS.out.2 (by omega), List.append_assoc, List.singleton_append, show b + (e - b) = e by omega, show md - b = spl (e - b) by omega, ← h.1]
        · show spLen _ bx < spLen _ bx
          rw [(H6.out.set b md).rb.len, HI.out.2.2.2.2.rb.len]
          have := HI.out.2.1
          have := HSP.out
          omega
      · have hci : ¬ (i : Int) < (md : Int) := by omega
        have HONE : Hid (∀ u ∈ [Value.int .i64 (b : Int), .int .i64 (md : Int)], u.oneCell' = true) := Lib.hid (fun u hu => by
          rcases List.mem_cons.1 hu with rfl | hu
          · rfl
          · rw [List.mem_singleton.1 hu]; rfl)
        have HLF := Lib.hid hlf
        clear hlf
        go_wp2_with (first
          | (go_at_call 48; (with_reducible refine (CM.out _).mono ?_); rintro r w3 ⟨rfl, hb⟩; have H3 := Lib.hid (HI.out.2.2.2.2.later hb); obtain ⟨e0, e1, _⟩ := H3.out.rb.at; clear hb)
          | (go_at_call 49; (with_reducible refine (CL.out _).mono ?_); rintro r w4 ⟨rfl, hb⟩; have H4 := Lib.hid (H3.out.later hb); have HH := Lib.hid (by have := H4.out.hd; rwa [← HI.out.1] at this : Held w4 29 2 (.slice q l d) l (prsV L)); clear hb)
          | (at_builtin; refine wpList_grew (v := .slice q l d) (l := prsV L) rfl _ _ rfl Tryd.underlying31 (.agg #[.int .i64 0, .int .i64 0]) 2 info_spanP rfl (by decide) [.int .i64 (b : Int), .int .i64 (md : Int)] 1 (by simp [Act.eval]) (by simp [Act.eval]) HH.out rfl rfl (by decide) HONE.out hz3 hz4 ?_; intro v5 w5 hg5; have H5 := Lib.hid (H4.out.push (by rw [← HI.out.1]; exact hg5)); obtain ⟨f0, f1, _⟩ := H5.out.rb.at; clear hg5)
          | (go_at_call 50; (with_reducible refine (CR.out _).mono ?_); rintro r w6 ⟨rfl, hb⟩; have H6 := Lib.hid (H5.out.later hb); obtain ⟨g0, g1, gf⟩ := H6.out.rb.at; clear hb))
        refine ⟨Lib.hid ⟨md, e, L ++ [(b, md)], H6.out.set md e, ?_⟩, ?_⟩
        · have h := HSP.out
          refine ⟨by have := HLF.out; omega, HI.out.2.1.2.1, HI.out.2.1.2.2, ?_⟩
          rw [HI.out.2.2.1, pathT_right b HS.out.2 (by have := HLF.out; omega), List.append_assoc, List.singleton_append, show e - md = e - b - spl (e - b) by omega, show i - md = i - b - spl (e - b) by have := HLF.out; omega, ← h.1]
        · show spLen _ bx < spLen _ bx
          rw [(H6.out.set md e).rb.len, HI.out.2.2.2.2.rb.len]
          have := HI.out.2.1
          have := HSP.out
          omega
    · obtain ⟨s, hs⟩ : ∃ s, s = e - b := ⟨_, rfl⟩
      have hsi : (e : Int) - (b : Int) = (s : Int) := by omega
      have hs1 : ¬ (1 : Int) < (s : Int) := by omega
      have hPL : Hid (P = L) := Lib.hid (by
        rw [HI.out.2.2.1, pathT_one b (i - b) (by omega), List.append_nil])
      have CT : Hid (Calls Tryd.prog 54 #[.slice q l d] wr fun r w' => (∃ q d, r = .returned (.slice q l d) ∧ Held w' 29 2 (.slice q l d) l (prsV L.reverse) ∧ ∀ g, (Value.slice q l d).ownBlock = some g → wr.heap.size ≤ g) ∧ Below wr.heap.size wr w') := Lib.hid (turned8_any q l d L wr HI.out.1 (by have := HI.out.2.2.2.2.hd; rwa [← HI.out.1] at this) (by have := HI.out.1; omega))
      clear hs h1
      go_wp2_with (go_at_call 54; (with_reducible refine CT.out.mono ?_); rintro r w2 ⟨⟨p, c, rfl, hh, ho⟩, hb2⟩; have HO := Lib.hid (And.intro hh (And.intro ho hb2)); clear hh ho hb2)
      go_ret2
      have hbl := HI.out.2.2.2.2.bel
      unfold OutP
      rw [hPL.out, List.length_reverse, ← HI.out.1]
      exact ⟨⟨p, c, rfl, HO.out.1, fun g hg => by have := HO.out.2.1 g hg; have := hbl.size; omega⟩, below_onS hbl HO.out.2.2 hbl.size⟩
theorem rpath_any (n i : Int) (w : World) : Calls Tryd.prog 20 #[.int .i64 n, .int .i64 i] w (OutP w 29 (wayE n i) (wayL n i)) := by
  unfold wayE wayL
  by_cases h : n < 1 ∨ 1099511627776 < n
  · rw [if_pos h, if_pos h]
    by_cases h1 : n < 1
    · clear h
      go_enter Tryd.func20, Tryd.ntmps20
      go_wp2_with fail
      go_ret2
      exact outP_nil rfl (Below.refl _ _)
    · have h2 : 1099511627776 < n := by omega
      clear h
      go_enter Tryd.func20, Tryd.ntmps20
      go_wp2_with fail
      go_ret2
      exact outP_nil rfl (Below.refl _ _)
  · rw [if_neg h, if_neg h]
    have h1 : ¬ n < 1 := by omega
    have h2 : ¬ 1099511627776 < n := by omega
    clear h
    by_cases h : i < 0 ∨ n ≤ i
    · rw [if_pos h, if_pos h]
      by_cases h3 : i < 0
      · clear h
        go_enter Tryd.func20, Tryd.ntmps20
        go_wp2_with fail
        go_ret2
        exact outP_nil rfl (Below.refl _ _)
      · have h4 : n ≤ i := by omega
        clear h
        go_enter Tryd.func20, Tryd.ntmps20
        go_wp2_with fail
        go_ret2
        exact outP_nil rfl (Below.refl _ _)
    · rw [if_neg h, if_neg h]
      obtain ⟨x, rfl⟩ : ∃ x : Nat, n = (x : Int) := ⟨n.toNat, by omega⟩
      obtain ⟨y, rfl⟩ : ∃ x : Nat, i = (x : Int) := ⟨i.toNat, by omega⟩
      rw [Int.toNat_natCast, Int.toNat_natCast]
      exact rpath_yes x y w (by omega) (by omega)
set_option maxRecDepth 100000 in
set_option maxHeartbeats 4000000 in
theorem rproof_yes (f s : Nat) (w : World) (h1 : 1 ≤ f) (h2 : f < s) (h3 : s ≤ 1099511627776) : Calls Tryd.prog 22 #[.int .i64 (f : Int), .int .i64 (s : Int)] w (OutP w 29 0 (Go.Scr.proofT 0 s f).reverse) := by
  have e1 : ¬ (f : Int) < 1 := by omega
  have e2 : ¬ (s : Int) < (f : Int) := by omega
  have e3 : ¬ (1099511627776 : Int) < (s : Int) := by omega
  have e4 : ((f : Int) == (s : Int)) = false := by rw [beq_eq_false_iff_ne]; omega
  obtain ⟨bx, hbx⟩ : ∃ x, x = w.heap.size := ⟨_, rfl⟩
  obtain ⟨w1, hw1⟩ : ∃ x, x = w.alloc (.cells #[.int .i64 0, .int .i64 (s : Int)] 29) := ⟨_, rfl⟩
  have hbel : Below w.heap.size w w1 := by rw [hw1]; exact (Below.refl _ _).alloc (Nat.le_refl _) _
  have r0 : spRow w1 bx 0 s := by rw [hw1, hbx]; exact heap_alloc_new w _
  obtain ⟨P, hP⟩ : ∃ x, x = Go.Scr.proofT 0 s f := ⟨_, rfl⟩
  have hPl : P.length ≤ 1000 := by rw [hP]; have := proofT_log 40 0 s f (by omega) h1 (by omega); omega
  rw [← hP]
  have HP : Hid (P = Go.Scr.proofT 0 s f ∧ 1 ≤ f ∧ f < s ∧ s ≤ 1099511627776 ∧ P.length ≤ 1000) := Lib.hid ⟨hP, h1, h2, h3, hPl⟩
  have HA0 : Hid (AtI w w1 bx 0 s [] (.slice none 0 0)) := Lib.hid ⟨⟨rfl, .inl ⟨rfl, rfl⟩⟩, (fun g hg => by cases hg), (fun h => by cases h), r0, Nat.le_of_eq hbx.symm, hbel⟩
  have HW := Lib.hid hw1
  have HBX := Lib.hid hbx
  obtain ⟨d0, d1, _⟩ := r0.at
  clear hw1 hbx hbel r0 h1 h2 h3 hP hPl
  go_enter Tryd.func22, Tryd.ntmps22
  go_upto_block 0 with fail
  rw [← HW.out, ← HBX.out]
  go_wp2_with fail
  go_loopw [6] (fun x wr => Hid (∃ b e L, AtI w wr bx b e L x ∧ b < f ∧ f ≤ e ∧ e ≤ 1099511627776 ∧ P = L ++ Go.Scr.proofT b (e - b) (f - b))) (fun _ wr => spLen wr bx)
  case atStart => exact Lib.hid ⟨0, s, [], HA0.out, by have := HP.out; omega, by have := HP.out; omega, HP.out.2.2.2.1, by rw [HP.out.1]; rfl⟩
  case round =>
    clear d0 d1 HA0
    obtain ⟨b, e, L, hat, hb1, hb2, hb3, hPe⟩ := hrel.out
    obtain ⟨q, d, rfl, _⟩ := hat.hd.cells
    obtain ⟨l, hl⟩ : ∃ l, l = L.length := ⟨_, rfl⟩
    have hll : l ≤ 1000 := by
      have := HP.out.2.2.2.2
      rw [hPe, List.length_append] at this
      omega
    have HI : Hid (l = L.length ∧ (b < f ∧ f ≤ e ∧ e ≤ 1099511627776) ∧ P = L ++ Go.Scr.proofT b (e - b) (f - b) ∧ True ∧ AtI w wr bx b e L (.slice q l d)) := Lib.hid ⟨hl, ⟨hb1, hb2, hb3⟩, hPe, trivial, by rw [hl]; exact hat⟩
    obtain ⟨d0, d1, _⟩ := hat.rb.at
    rw [← hl]
    clear hrel hat hPe hl
    by_cases h1 : e = f
    · subst h1
      have hne : ((e : Int) != (e : Int)) = false := by simp
      by_cases hb0 : b = 0
      · have hb0i : ¬ (0 : Int) < (b : Int) := by omega
        have hPL : Hid (P = L) := Lib.hid (by
          rw [HI.out.2.2.1, proofT_end, if_pos hb0, List.append_nil])
        have CT : Hid (Calls Tryd.prog 54 #[.slice q l d] wr fun r w' => (∃ q d, r = .returned (.slice q l d) ∧ Held w' 29 2 (.slice q l d) l (prsV L.reverse) ∧ ∀ g, (Value.slice q l d).ownBlock = some g → wr.heap.size ≤ g) ∧ Below wr.heap.size wr w') := Lib.hid (turned8_any q l d L wr HI.out.1 (by have := HI.out.2.2.2.2.hd; rwa [← HI.out.1] at this) (by have := HI.out.1; omega))
        clear hb0
        go_wp2_with (go_at_call 54; (with_reducible refine CT.out.mono ?_); rintro r w2 ⟨⟨p, c, rfl, hh, ho⟩, hb2⟩; have HO := Lib.hid (And.intro hh (And.intro ho hb2)); clear hh ho hb2)
        go_ret2
        have hbl := HI.out.2.2.2.2.bel
        unfold OutP
        rw [hPL.out, List.length_reverse, ← HI.out.1]
        exact ⟨⟨p, c, rfl, HO.out.1, fun g hg => by have := HO.out.2.1 g hg; have := hbl.size; omega⟩, below_onS hbl HO.out.2.2 hbl.size⟩
      · have hb0i : (0 : Int) < (b : Int) := by omega
        have hPL : Hid (P = L ++ [(b, e)]) := Lib.hid (by
          rw [HI.out.2.2.1, proofT_end, if_neg hb0, show b + (e - b) = e by omega])
        have HH : Hid (Held wr 29 2 (.slice q l d) l (prsV L)) := Lib.hid (by have := HI.out.2.2.2.2.hd; rwa [← HI.out.1] at this)
        have HONE : Hid (∀ u ∈ [Value.int .i64 (b : Int), .int .i64 (e : Int)], u.oneCell' = true) := Lib.hid (fun u hu => by
          rcases List.mem_cons.1 hu with rfl | hu
          · rfl
          · rw [List.mem_singleton.1 hu]; rfl)
        have hz3 : (l + 1) * 16 ≤ 140737488355328 := by omega
        have hz4 : l + 1 ≤ 140737488355328 := by omega
        have CT : Hid (∀ (q5 : Option Addr) (d5 : Nat) (w5 : World), Held w5 29 2 (.slice q5 (l + 1) d5) (l + 1) (prsV L ++ [.int .i64 (b : Int), .int .i64 (e : Int)]) → Calls Tryd.prog 54 #[.slice q5 (l + 1) d5] w5 fun r w' => (∃ q d, r = .returned (.slice q (l + 1) d) ∧ Held w' 29 2 (.slice q (l + 1) d) (l + 1) (prsV (L ++ [(b, e)]).reverse) ∧ ∀ g, (Value.slice q (l + 1) d).ownBlock = some g → w5.heap.size ≤ g) ∧ Below w5.heap.size w5 w') := Lib.hid (fun q5 d5 w5 h => turned8_any q5 (l + 1) d5 (L ++ [(b, e)]) w5 (by rw [List.length_append, ← HI.out.1]; rfl) (by rw [prsV_append]; exact h) (by rw [List.length_append]; have := HI.out.1; simp; omega))
        clear hb0
        go_wp2_with (first
          | (at_builtin; refine wpList_grew (v := .slice q l d) (l := prsV L) rfl _ _ rfl Tryd.underlying31 (.agg #[.int .i64 0, .int .i64 0]) 2 info_spanP rfl (by decide) [.int .i64 (b : Int), .int .i64 (e : Int)] 1 (by simp [Act.eval]) (by simp [Act.eval]) HH.out rfl rfl (by decide) HONE.out hz3 hz4 ?_; intro v5 w5 hg5; have h5 := HI.out.2.2.2.2.push (by rw [← HI.out.1]; exact hg5); obtain ⟨q5, d5, rfl, _⟩ := hg5.held.cells; have H5 := Lib.hid h5; have HG5 := Lib.hid hg5.held; clear hg5 h5)
          | (go_at_call 54; (with_reducible refine (CT.out _ _ _ HG5.out).mono ?_); rintro r w2 ⟨⟨p, c, rfl, hh, ho⟩, hb2⟩; have HO := Lib.hid (And.intro hh (And.intro ho hb2)); clear hh ho hb2))
        go_ret2
        have hbl := H5.out.bel
        have hPlen : P.reverse.length = l + 1 := by rw [hPL.out, List.length_reverse, List.length_append, ← HI.out.1]; rfl
        unfold OutP
        rw [hPlen, hPL.out]
        exact ⟨⟨p, c, rfl, HO.out.1, fun g hg => by have := HO.out.2.1 g hg; have := hbl.size; omega⟩, below_onS hbl HO.out.2.2 hbl.size⟩
    · have hne : ((e : Int) != (f : Int)) = true := by rw [bne_iff_ne]; omega
      have HS : Hid (e ≠ f ∧ 1 < e - b) := Lib.hid ⟨h1, by omega⟩
      have hsp := spl_lt (show 2 ≤ e - b by omega)
      obtain ⟨md, hmd⟩ : ∃ x, x = b + spl (e - b) := ⟨_, rfl⟩
      have hz3 : (l + 1) * 16 ≤ 140737488355328 := by omega
      have hz4 : l + 1 ≤ 140737488355328 := by omega
      have CM : Hid (∀ w', Calls Tryd.prog 48 #[.agg #[.int .i64 (b : Int), .int .i64 (e : Int)]] w' fun r w2 => r = .returned (.int .i64 (md : Int)) ∧ Below w'.heap.size w' w2) := Lib.hid (fun w' => by
        have := rmiddle_any b e w' (by have := HI.out; omega) (by have := HI.out; omega)
        rwa [← hmd] at this)
      have CL : Hid (∀ w', Calls Tryd.prog 49 #[.agg #[.int .i64 (b : Int), .int .i64 (e : Int)]] w' fun r w2 => r = .returned (.agg #[.int .i64 (b : Int), .int .i64 (md : Int)]) ∧ Below w'.heap.size w' w2) := Lib.hid (fun w' => by
        have := rleft_any b e w' (by have := HI.out; omega) (by have := HI.out; omega)
        rwa [← hmd] at this)
      have CR : Hid (∀ w', Calls Tryd.prog 50 #[.agg #[.int .i64 (b : Int), .int .i64 (e : Int)]] w' fun r w2 => r = .returned (.agg #[.int .i64 (md : Int), .int .i64 (e : Int)]) ∧ Below w'.heap.size w' w2) := Lib.hid (fun w' => by
        have := rright_any b e w' (by have := HI.out; omega) (by have := HI.out; omega)
        rwa [← hmd] at this)
      have HSP : Hid (md = b + spl (e - b) ∧ 1 ≤ spl (e - b) ∧ spl (e - b) < e - b) := Lib.hid ⟨hmd, hsp.1, hsp.2.1⟩
      have hmdb : b < md ∧ md < e := by omega
      obtain ⟨hmd1, hmd2⟩ := hmdb
      clear hmd hsp h1
      by_cases hlf : f ≤ md
      · have hci : (f : Int) ≤ (md : Int) := by omega
        have HONE : Hid (∀ u ∈ [Value.int .i64 (md : Int), .int .i64 (e : Int)], u.oneCell' = true) := Lib.hid (fun u hu => by
          rcases List.mem_cons.1 hu with rfl | hu
          · rfl
          · rw [List.mem_singleton.1 hu]; rfl)
        have HLF := Lib.hid hlf
        clear hlf
        go_wp2_with (first
          | (go_at_call 48; (with_reducible refine (CM.out _).mono ?_); rintro r w3 ⟨rfl, hb⟩; have H3 := Lib.hid (HI.out.2.2.2.2.later hb); obtain ⟨e0, e1, _⟩ := H3.out.rb.at; clear hb)
          | (go_at_call 50; (with_reducible refine (CR.out _).mono ?_); rintro r w4 ⟨rfl, hb⟩; have H4 := Lib.hid (H3.out.later hb); have HH := Lib.hid (by have := H4.out.hd; rwa [← HI.out.1] at this : Held w4 29 2 (.slice q l d) l (prsV L)); clear hb)
          | (at_builtin; refine wpList_grew (v := .slice q l d) (l := prsV L) rfl _ _ rfl Tryd.underlying31 (.agg #[.int .i64 0, .int .i64 0]) 2 info_spanP rfl (by decide) [.int .i64 (md : Int), .int .i64 (e : Int)] 1 (by simp [Act.eval]) (by simp [Act.eval]) HH.out rfl rfl (by decide) HONE.out hz3 hz4 ?_; intro v5 w5 hg5; have H5 := Lib.hid (H4.out.push (by rw [← HI.out.1]; exact hg5)); obtain ⟨f0, f1, _⟩ := H5.out.rb.at; clear hg5)
          | (go_at_call 49; (with_reducible refine (CL.out _).mono ?_); rintro r w6 ⟨rfl, hb⟩; have H6 := Lib.hid (H5.out.later hb); obtain ⟨g0, g1, gf⟩ := H6.out.rb.at; clear hb))
        refine ⟨Lib.hid ⟨b, md, L ++ [(md, e)], H6.out.set b md, ?_⟩, ?_⟩
        · have h := HSP.out
          refine ⟨HI.out.2.1.1, HLF.out, by have := HI.out.2.1; omega, ?_⟩
          rw [HI.out.2.2.1, proofT_left b (by have := HS.out.1; have := HI.out.2.1; omega) HS.out.2 (by have := HLF.out; omega), List.append_assoc, List.singleton_append, show b + (e - b) = e by omega, show md - b = spl (e - b) by omega, ← h.1]
        · show spLen _ bx < spLen _ bx
          rw [(H6.out.set b md).rb.len, HI.out.2.2.2.2.rb.len]
          have := HI.out.2.1
          have := HSP.out
          omega
      · have hci : ¬ (f : Int) ≤ (md : Int) := by omega
        have HONE : Hid (∀ u ∈ [Value.int .i64 (b : Int), .int .i64 (md : Int)], u.oneCell' = true) := Lib.hid (fun u hu => by
          rcases List.mem_cons.1 hu with rfl | hu
          · rfl
          · rw [List.mem_singleton.1 hu]; rfl)
        have HLF := Lib.hid hlf
        clear hlf
        go_wp2_with (first
          | (go_at_call 48; (with_reducible refine (CM.out _).mono ?_); rintro r w3 ⟨rfl, hb⟩; have H3 := Lib.hid (HI.out.2.2.2.2.later hb); obtain ⟨e0, e1, _⟩ := H3.out.rb.at; clear hb)
          | (go_at_call 49; (with_reducible refine (CL.out _).mono ?_); rintro r w4 ⟨rfl, hb⟩; have H4 := Lib.hid (H3.out.later hb); have HH := Lib.hid (by have := H4.out.hd; rwa [← HI.out.1] at this : Held w4 29 2 (.slice q l d) l (prsV L)); clear hb)
          | (at_builtin; refine wpList_grew (v := .slice q l d) (l := prsV L) rfl _ _ rfl Tryd.underlying31 (.agg #[.int .i64 0, .int .i64 0]) 2 info_spanP rfl (by decide) [.int .i64 (b : Int), .int .i64 (md : Int)] 1 (by simp [Act.eval]) (by simp [Act.eval]) HH.out rfl rfl (by decide) HONE.out hz3 hz4 ?_; intro v5 w5 hg5; have H5 := Lib.hid (H4.out.push (by rw [← HI.out.1]; exact hg5)); obtain ⟨f0, f1, _⟩ := H5.out.rb.at; clear hg5)
          | (go_at_call 50; (with_reducible refine (CR.out _).mono ?_); rintro r w6 ⟨rfl, hb⟩; have H6 := Lib.hid (H5.out.later hb); obtain ⟨g0, g1, gf⟩ := H6.out.rb.at; clear hb))
        refine ⟨Lib.hid ⟨md, e, L ++ [(b, md)], H6.out.set md e, ?_⟩, ?_⟩
        · have h := HSP.out
          refine ⟨by have := HLF.out; omega, HI.out.2.1.2.1, HI.out.2.1.2.2, ?_⟩
          rw [HI.out.2.2.1, proofT_right b (by have := HS.out.1; have := HI.out.2.1; omega) HS.out.2 (by have := HLF.out; omega), List.append_assoc, List.singleton_append, show e - md = e - b - spl (e - b) by omega, show f - md = f - b - spl (e - b) by have := HLF.out; omega, ← h.1]
        · show spLen _ bx < spLen _ bx
          rw [(H6.out.set md e).rb.len, HI.out.2.2.2.2.rb.len]
          have := HI.out.2.1
          have := HSP.out
          omega
theorem rproof_any (f s : Int) (w : World) : Calls Tryd.prog 22 #[.int .i64 f, .int .i64 s] w (OutP w 29 (prfE f s) (prfL f s)) := by
  unfold prfE prfL
  by_cases h : f < 1 ∨ s < f ∨ 1099511627776 < s
  · rw [if_pos h, if_pos h]
    by_cases h1 : f < 1
    · clear h
      go_enter Tryd.func22, Tryd.ntmps22
      go_wp2_with fail
      go_ret2
      exact outP_nil rfl (Below.refl _ _)
    · by_cases h2 : s < f
      · clear h
        go_enter Tryd.func22, Tryd.ntmps22
        go_wp2_with fail
        go_ret2
        exact outP_nil rfl (Below.refl _ _)
      · have h3 : 1099511627776 < s := by omega
        clear h
        go_enter Tryd.func22, Tryd.ntmps22
        go_wp2_with fail
        go_ret2
        exact outP_nil rfl (Below.refl _ _)
  · rw [if_neg h, if_neg h]
    have h1 : ¬ f < 1 := by omega
    have h2 : ¬ s < f := by omega
    have h3 : ¬ 1099511627776 < s := by omega
    clear h
    obtain ⟨x, rfl⟩ : ∃ x : Nat, f = (x : Int) := ⟨f.toNat, by omega⟩
    obtain ⟨y, rfl⟩ : ∃ x : Nat, s = (x : Int) := ⟨s.toNat, by omega⟩
    rw [Int.toNat_natCast, Int.toNat_natCast]
    by_cases hxy : x = y
    · subst hxy
      rw [proofT_end, if_pos rfl]
      have heq : ((x : Int) == (x : Int)) = true := by simp
      go_enter Tryd.func22, Tryd.ntmps22
      go_wp2_with fail
      go_ret2
      exact outP_nil rfl (Below.refl _ _)
    · exact rproof_yes x y w (by omega) (by omega) (by omega)
end Go.Proofs.YteknpnanmbfhfaaDoor
/- The document's shape, walked: Cover. -/
namespace Go.Proofs.YteknpnanmbfhfaaDoor
open Go.RowKit Go.Scr Go.Shelf
set_option linter.unusedVariables false
theorem mod_two_mul {b p : Nat} (hd : p ∣ b) (hp : 0 < p) : b % (2 * p) = 0 ↔ b / p % 2 = 0 := by
  obtain ⟨c, rfl⟩ := hd
  rw [Nat.mul_div_cancel_left _ hp, Nat.mul_comm 2 p, Nat.mul_mod_mul_left]
  constructor
  · intro h
    rcases Nat.mul_eq_zero.1 h with h | h <;> omega
  · intro h
    rw [h, Nat.mul_zero]
set_option maxRecDepth 100000 in
set_option maxHeartbeats 4000000 in
theorem rcover_yes (b e : Nat) (w : World) (h1 : b ≤ e) (h2 : e ≤ 1099511627776) :
    Calls Tryd.prog 13 #[.agg #[.int .i64 (b : Int), .int .i64 (e : Int)]] w (OutP w 72 0 (coverT b e)) := by
  have e1 : ¬ (b : Int) < 0 := by omega
  have e2 : ¬ (e : Int) < (b : Int) := by omega
  have e3 : ¬ (1099511627776 : Int) < (e : Int) := by omega
  obtain ⟨bx, hbx⟩ : ∃ x, x = w.heap.size := ⟨_, rfl⟩
  obtain ⟨w1, hw1⟩ : ∃ x, x = w.alloc (.cells #[.int .i64 (b : Int), .int .i64 (e : Int)] 29) := ⟨_, rfl⟩
  have hbel : Below w.heap.size w w1 := by rw [hw1]; exact (Below.refl _ _).alloc (Nat.le_refl _) _
  have r0 : spRow w1 bx b e := by rw [hw1, hbx]; exact heap_alloc_new w _
  obtain ⟨d0, d1, _⟩ := r0.at
  have HS0 : Hid (CvI w w1 bx b e b [] (.slice none 0 0)) := Lib.hid ⟨⟨Nat.le_refl _, h1, by simp⟩, rfl, r0, ⟨rfl, .inl ⟨rfl, rfl⟩⟩, hbel, Nat.le_of_eq hbx.symm, fun g hg => by cases hg⟩
  have HE : Hid (e ≤ 1099511627776) := Lib.hid h2
  have HW := Lib.hid hw1
  have HB := Lib.hid hbx
  have HONE : Hid (∀ x y : Int, ∀ u ∈ [Value.int .i64 x, Value.int .i64 y], u.oneCell' = true) := Lib.hid (fun x y u hu => by
    rcases List.mem_cons.1 hu with rfl | hu
    · rfl
    · rw [List.mem_singleton.1 hu]; rfl)
  clear hw1 hbx hbel r0 h1 h2
  go_enter Tryd.func13, Tryd.ntmps13
  go_upto_region 1 with fail
  rw [← HW.out, ← HB.out]
  go_wp2_with fail
  clear d0 d1
  go_loopw [4, 5] (fun v a wr => ∃ b' L, a = .int .i64 ((b' : Nat) : Int) ∧ Hid (CvI w wr bx b e b' L v)) (fun _ a _ => e - (intOf a).toNat)
  case atStart => exact ⟨b, [], rfl, HS0⟩
  case round =>
    obtain ⟨b', L, rfl, HI⟩ := hrel
    obtain ⟨vp, vc, rfl, hvc, _⟩ := HI.out.q4.cells
    obtain ⟨d0, d1, _⟩ := HI.out.q3.at
    obtain ⟨g1, g2, g3⟩ := HI.out.q1
    obtain ⟨ll, hll⟩ : ∃ x, x = L.length := ⟨_, rfl⟩
    have hllb : ll ≤ 1099511627776 := by have := HE.out; omega
    have HLL : Hid (ll = L.length ∧ CvI w wr bx b e b' L (.slice vp ll vc)) := Lib.hid ⟨hll, by rw [hll]; exact HI.out⟩
    rw [← hll]
    clear hll
    by_cases hbe : b' < e
    · have hi : (b' : Int) < (e : Int) := by omega
      have HBE : Hid (b ≤ b' ∧ b' < e) := Lib.hid ⟨g1, hbe⟩
      have hb40 : b' ≤ 1099511627776 := by have := HE.out; omega
      have heb : e ≤ 1099511627776 := HE.out
      have hl1 : (ll + 1) * 16 ≤ 140737488355328 := by omega
      have hl2 : ll + 1 ≤ 140737488355328 := by omega
      have HHD : Hid (Held wr 72 2 (.slice vp ll vc) ll (prsV L)) := Lib.hid (by have := HLL.out.2.q4; rwa [← HLL.out.1] at this)
      clear g1 g2 g3 hbe hvc HI
      go_wp2_with fail
      go_loop [6, 7] (fun lv kv => ∃ l p : Nat, lv = .int .i64 (l : Int) ∧ kv = .int .i64 (p : Int) ∧ Hid (p = 2 ^ l ∧ b' + 2 ^ l ≤ e ∧ 2 ^ l ∣ b' ∧ lvlF 0 b' e = lvlF l b' e)) (fun lv _ => 64 - (intOf lv).toNat)
      case atStart => exact ⟨0, 1, rfl, rfl, Lib.hid ⟨rfl, by have := HBE.out; omega, by simp, rfl⟩⟩
      case round =>
        obtain ⟨l, p, rfl, rfl, HL⟩ := hrel
        have hl40 : l ≤ 40 := pow_le_of (k := 40) (N := 1099511627776) (by have := HL.out.2.1; have := HE.out; omega) (by decide)
        have hpos : 0 < p := by rw [HL.out.1]; exact Nat.pos_of_ne_zero (by simp)
        have hp40 : p ≤ 1099511627776 := by have := HL.out.2.1; have := HL.out.1; have := HE.out; omega
        obtain ⟨p2, hp2⟩ : ∃ x, x = 2 * p := ⟨_, rfl⟩
        have hp2i : 2 * (p : Int) = (p2 : Int) := by omega
        have hp2p : 0 < p2 := by omega
        have hmm := mod_two_mul (b := b') (p := p) (by rw [HL.out.1]; exact HL.out.2.2.1) hpos
        have HP : Hid (p2 = 2 * p ∧ (b' % p2 = 0 ↔ b' / p % 2 = 0)) := Lib.hid ⟨hp2, by rw [hp2]; exact hmm⟩
        have hmc : (b' : Int) % (p2 : Int) = ((b' % p2 : Nat) : Int) := by simp
        have hp2b : p2 ≤ 2199023255552 := by omega
        obtain ⟨qd, hqd⟩ : ∃ x, x = b' / p := ⟨_, rfl⟩
        have hqb : qd ≤ 1099511627776 := by rw [hqd]; exact Nat.le_trans (Nat.div_le_self _ _) hb40
        have hqi : (b' : Int) / (p : Int) = (qd : Int) := by rw [hqd]; simp
        have HQ : Hid ((b' : Int) / (p : Int) = (qd : Int) ∧ qd = b' / p) := Lib.hid ⟨hqi, hqd⟩
        clear hqd
        clear hmm hp2
        by_cases hm : b' % p2 = 0
        · have hmi : (b' : Int) % (p2 : Int) = 0 := by rw [hmc, hm]; rfl
          have HM := Lib.hid hm
          clear hmc hm
          by_cases hle : b' + p2 ≤ e
          · have hlei : (b' : Int) + (p2 : Int) ≤ (e : Int) := by omega
            have HLE := Lib.hid hle
            clear hle
            go_wp2_with fail
            refine ⟨⟨l + 1, p2, by simp, rfl, Lib.hid ?_⟩, ?_⟩
            · have h2 : 2 ^ (l + 1) = p2 := by rw [Nat.pow_succ, ← HL.out.1, HP.out.1]; omega
              have hd := HP.out.2.1 HM.out
              have hle := HLE.out
              have hm := lvlF_more (l := l) (b := b') (e := e) ⟨by rw [← HL.out.1]; exact hd, by rw [← HL.out.1, ← HP.out.1]; exact hle⟩
              refine ⟨h2.symm, by rw [h2]; exact hle, ?_, by rw [HL.out.2.2.2, hm]⟩
              rw [h2]
              exact Nat.dvd_of_mod_eq_zero HM.out
            · show 64 - ((l : Int) + 1).toNat < 64 - ((l : Int)).toNat
              omega
          · have hlei : ¬ (b' : Int) + (p2 : Int) ≤ (e : Int) := by omega
            have HFIT : Hid (b' + p ≤ e) := Lib.hid (by have := HL.out.2.1; rwa [← HL.out.1] at this)
            have hfe : lvlF l b' e = l := lvlF_end (by rw [← HL.out.1, ← HP.out.1]; omega)
            have HLE := Lib.hid hfe
            clear hle hfe
            go_wp2_with (at_builtin; refine wpList_grew (v := .slice vp ll vc) (l := prsV L) rfl _ _ rfl Tryd.underlying32 (.agg #[.int .i64 0, .int .i64 0]) 2 info_nodeP rfl (by decide) [.int .i64 (l : Int), .int .i64 (qd : Int)] 1 (by simp [Act.eval]) (by simp [Act.eval]) HHD.out rfl rfl (by decide) (HONE.out _ _) hl1 hl2 ?_; intro v5 w5 hg5; have HG5 := Lib.hid hg5; clear hg5)
            have hfin := HLL.out.2.push HBE.out.2 (HLE.out.symm.trans HL.out.2.2.2.symm) HL.out.1 HFIT.out (by rw [← HLL.out.1, HQ.out.1]; exact HG5.out)
            refine ⟨⟨b' + p, L ++ [(l, b' / p)], by simp, Lib.hid hfin⟩, ?_⟩
            show e - ((b' : Int) + (p : Int)).toNat < e - ((b' : Int)).toNat
            have := HBE.out
            have := HFIT.out
            omega
        · have hmi : ((b' : Int) % (p2 : Int) == 0) = false := by rw [hmc, beq_eq_false_iff_ne]; omega
          have HFIT : Hid (b' + p ≤ e) := Lib.hid (by have := HL.out.2.1; rwa [← HL.out.1] at this)
          have hfe : lvlF l b' e = l := lvlF_end (by
            rintro ⟨h1, h2⟩
            rw [← HL.out.1] at h1
            exact hm (HP.out.2.2 h1))
          have HLE := Lib.hid hfe
          clear hm hfe hmc
          go_wp2_with (at_builtin; refine wpList_grew (v := .slice vp ll vc) (l := prsV L) rfl _ _ rfl Tryd.underlying32 (.agg #[.int .i64 0, .int .i64 0]) 2 info_nodeP rfl (by decide) [.int .i64 (l : Int), .int .i64 (qd : Int)] 1 (by simp [Act.eval]) (by simp [Act.eval]) HHD.out rfl rfl (by decide) (HONE.out _ _) hl1 hl2 ?_; intro v5 w5 hg5; have HG5 := Lib.hid hg5; clear hg5)
          have hfin := HLL.out.2.push HBE.out.2 (HLE.out.symm.trans HL.out.2.2.2.symm) HL.out.1 HFIT.out (by rw [← HLL.out.1, HQ.out.1]; exact HG5.out)
          refine ⟨⟨b' + p, L ++ [(l, b' / p)], by simp, Lib.hid hfin⟩, ?_⟩
          show e - ((b' : Int) + (p : Int)).toNat < e - ((b' : Int)).toNat
          have := HBE.out
          have := HFIT.out
          omega
    · have hi : ¬ (b' : Int) < (e : Int) := by omega
      have hq2 := HLL.out.2.q2
      rw [coverT_end hbe, List.append_nil] at hq2
      have HQ2 := Lib.hid hq2
      clear g1 g2 g3 hbe hvc hq2
      go_wp2_with fail
      go_ret2
      have h := HLL.out.2
      unfold OutP
      rw [HQ2.out, ← HLL.out.1]
      exact ⟨⟨vp, vc, rfl, by have := h.q4; rwa [← HLL.out.1] at this, fun g hg => (h.q6.2 g hg).2⟩, h.q5⟩
theorem rcover_any (b e : Int) (w : World) : Calls Tryd.prog 13 #[.agg #[.int .i64 b, .int .i64 e]] w (OutP w 72 (coverE b e) (coverL b e)) := by
  unfold coverE coverL
  by_cases h : b < 0 ∨ e < b ∨ 1099511627776 < e
  · rw [if_pos h, if_pos h]
    obtain ⟨b0, hb0⟩ : ∃ x, x = w.heap.size := ⟨_, rfl⟩
    obtain ⟨w1, hw1⟩ : ∃ x, x = w.alloc (.cells #[.int .i64 b, .int .i64 e] 29) := ⟨_, rfl⟩
    have hbel : Below w.heap.size w w1 := by rw [hw1]; exact (Below.refl _ _).alloc (Nat.le_refl _) _
    have r0 : w1.heap[b0]? = some (.cells #[.int .i64 b, .int .i64 e] 29 (0, 0)) := by rw [hw1, hb0]; exact heap_alloc_new w _
    have d0 : w1.cell? ⟨b0, 0, none⟩ = some (.int .i64 b) := cell_of_row _ _ _ _ _ _ r0
    have d1 : w1.cell? ⟨b0, 1, none⟩ = some (.int .i64 e) := cell_of_row _ _ _ _ _ _ r0
    have HW := Lib.hid hw1
    have HB := Lib.hid hb0
    have HBEL := Lib.hid hbel
    clear hw1 hb0 hbel r0
    by_cases h1 : b < 0
    · clear h
      go_enter Tryd.func13, Tryd.ntmps13
      go_upto_region 1 with fail
      rw [← HW.out, ← HB.out]
      go_wp2_with fail
      go_ret2
      exact outP_nil rfl HBEL.out
    · by_cases h2 : e < b
      · clear h
        go_enter Tryd.func13, Tryd.ntmps13
        go_upto_region 1 with fail
        rw [← HW.out, ← HB.out]
        go_wp2_with fail
        go_ret2
        exact outP_nil rfl HBEL.out
      · have h3 : 1099511627776 < e := by omega
        clear h
        go_enter Tryd.func13, Tryd.ntmps13
        go_upto_region 1 with fail
        rw [← HW.out, ← HB.out]
        go_wp2_with fail
        go_ret2
        exact outP_nil rfl HBEL.out
  · rw [if_neg h, if_neg h]
    obtain ⟨x, rfl⟩ : ∃ x : Nat, b = (x : Int) := ⟨b.toNat, by omega⟩
    obtain ⟨y, rfl⟩ : ∃ x : Nat, e = (x : Int) := ⟨e.toNat, by omega⟩
    rw [Int.toNat_natCast, Int.toNat_natCast]
    exact rcover_yes x y w (by omega) (by omega)
end Go.Proofs.YteknpnanmbfhfaaDoor
