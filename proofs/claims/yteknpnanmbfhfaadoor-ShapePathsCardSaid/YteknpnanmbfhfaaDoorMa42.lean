/- The document's shape, walked: Path, Proof, Run. -/
import Derived.Test.YteknpnanmbfhfaaDoorMa39
import Derived.Test.YteknpnanmbfhfaaDoorMa33
import Derived.Deep.CutBlock
namespace Go.Proofs.YteknpnanmbfhfaaDoor
open Go.RowKit Go.Scr Go.Shelf
set_option linter.unusedVariables false
theorem proofT_log (j : Nat) : ∀ b n m, n ≤ 2 ^ j → 1 ≤ m → m ≤ n → (Go.Scr.proofT b n m).length ≤ j + 1 := by
  induction j with
  | zero =>
    intro b n m h h1 h2
    have : n = 1 := by simp at h; omega
    subst this
    obtain rfl : m = 1 := by omega
    rw [proofT_end]
    split <;> simp
  | succ j ih =>
    intro b n m h h1 h2
    by_cases hm : m = n
    · subst hm
      rw [proofT_end]
      split <;> simp
    · have hs := spl_lt (show 2 ≤ n by omega)
      obtain ⟨k, q2, q3, q4⟩ := spl_pow (show 2 ≤ n by omega)
      have hk : k ≤ j := by
        have := (Nat.pow_lt_pow_iff_right (show 1 < 2 by decide)).1 (Nat.lt_of_lt_of_le q3 h)
        omega
      have hp : 2 ^ k ≤ 2 ^ j := Nat.pow_le_pow_right (by decide) hk
      by_cases h5 : m ≤ spl n
      · rw [proofT_left b hm (by omega) h5, List.length_cons]
        have := ih b (spl n) m (by omega) h1 h5
        omega
      · rw [proofT_right b hm (by omega) h5, List.length_cons]
        have := ih (b + spl n) (n - spl n) (m - spl n) (by omega) (by omega) (by omega)
        omega
theorem rrun_any (n b e : Int) (w : World) : Calls Tryd.prog 27 #[.int .i64 n, .agg #[.int .i64 b, .int .i64 e]] w (OutP w 29 (runE n b e) (runL n b e)) := by
  obtain ⟨b0, hb0⟩ : ∃ x, x = w.heap.size := ⟨_, rfl⟩
  obtain ⟨w1, hw1⟩ : ∃ x, x = w.alloc (.cells #[.int .i64 b, .int .i64 e] 29) := ⟨_, rfl⟩
  have hbel : Below w.heap.size w w1 := by rw [hw1]; exact (Below.refl _ _).alloc (Nat.le_refl _) _
  have r0 : w1.heap[b0]? = some (.cells #[.int .i64 b, .int .i64 e] 29 (0, 0)) := by rw [hw1, hb0]; exact heap_alloc_new w _
  have d0 : w1.cell? ⟨b0, 0, none⟩ = some (.int .i64 b) := cell_of_row _ _ _ _ _ _ r0
  have d1 : w1.cell? ⟨b0, 1, none⟩ = some (.int .i64 e) := cell_of_row _ _ _ _ _ _ r0
  have HW := Lib.hid hw1
  have HB := Lib.hid hb0
  have HBEL := Lib.hid hbel
  clear hw1 hb0 hbel r0
  unfold runE runL
  by_cases h : n < 1 ∨ 1099511627776 < n
  · rw [if_pos h, if_pos h]
    by_cases h1 : n < 1
    · clear h
      go_enter Tryd.func27, Tryd.ntmps27
      go_upto_region 1 with fail
      rw [← HW.out, ← HB.out]
      go_wp2_with fail
      go_ret2
      exact outP_nil rfl HBEL.out
    · have h2 : 1099511627776 < n := by omega
      clear h
      go_enter Tryd.func27, Tryd.ntmps27
      go_upto_region 1 with fail
      rw [← HW.out, ← HB.out]
      go_wp2_with fail
      go_ret2
      exact outP_nil rfl HBEL.out
  · have h1 : ¬ n < 1 := by omega
    have h2 : ¬ 1099511627776 < n := by omega
    rw [if_neg h, if_neg h]
    clear h
    by_cases hb : b < 0
    · rw [if_pos (.inl hb), if_pos (.inl hb)]
      go_enter Tryd.func27, Tryd.ntmps27
      go_upto_region 1 with fail
      rw [← HW.out, ← HB.out]
      go_wp2_with fail
      go_ret2
      exact outP_nil rfl HBEL.out
    · by_cases he : e ≤ b
      · rw [if_pos (.inr (.inl he)), if_pos (.inr (.inl he))]
        go_enter Tryd.func27, Tryd.ntmps27
        go_upto_region 1 with fail
        rw [← HW.out, ← HB.out]
        go_wp2_with fail
        go_ret2
        exact outP_nil rfl HBEL.out
      · by_cases hn : n < e
        · rw [if_pos (.inr (.inr hn)), if_pos (.inr (.inr hn))]
          go_enter Tryd.func27, Tryd.ntmps27
          go_upto_region 1 with fail
          rw [← HW.out, ← HB.out]
          go_wp2_with fail
          go_ret2
          exact outP_nil rfl HBEL.out
        · rw [if_neg (by omega), if_neg (by omega)]
          obtain ⟨x, rfl⟩ : ∃ x : Nat, n = (x : Int) := ⟨n.toNat, by omega⟩
          obtain ⟨y, rfl⟩ : ∃ x : Nat, b = (x : Int) := ⟨b.toNat, by omega⟩
          obtain ⟨z, rfl⟩ : ∃ x : Nat, e = (x : Int) := ⟨e.toNat, by omega⟩
          rw [Int.toNat_natCast, Int.toNat_natCast, Int.toNat_natCast]
          have CB : Hid (Calls Tryd.prog 60 #[.agg #[.int .i64 0, .int .i64 (x : Int)], .agg #[.int .i64 (y : Int), .int .i64 (z : Int)]] w1 (OutL w1 (restT (lookR y z) 0 x))) := Lib.hid (by
            have := beside_any y z x 0 w1 (by omega) (by omega)
            rw [Nat.zero_add] at this
            exact this)
          go_enter Tryd.func27, Tryd.ntmps27
          go_upto_region 1 with fail
          rw [← HW.out, ← HB.out]
          go_wp2_with (go_at_call 60; (with_reducible refine CB.out.mono ?_); rintro r w2 ⟨⟨p, c, rfl, hh, ho⟩, hb2⟩; have HO := Lib.hid (And.intro hh (And.intro ho hb2)); clear hh ho hb2)
          go_ret2
          exact ⟨⟨p, c, rfl, HO.out.1, fun g hg => by have := HO.out.2.1 g hg; have := HBEL.out.size; omega⟩, below_onS HBEL.out HO.out.2.2 HBEL.out.size⟩
set_option maxRecDepth 100000 in
set_option maxHeartbeats 4000000 in
theorem rpath_yes (n i : Nat) (w : World) (h1 : i < n) (h2 : n ≤ 1099511627776) : Calls Tryd.prog 20 #[.int .i64 (n : Int), .int .i64 (i : Int)] w (OutP w 29 0 (Go.Scr.pathT 0 n i).reverse) := by
  have e1 : ¬ (n : Int) < 1 := by omega
  have e2 : ¬ (1099511627776 : Int) < (n : Int) := by omega
  have e3 : ¬ (i : Int) < 0 := by omega
  have e4 : ¬ (n : Int) ≤ (i : Int) := by omega
  obtain ⟨bx, hbx⟩ : ∃ x, x = w.heap.size := ⟨_, rfl⟩
  obtain ⟨w1, hw1⟩ : ∃ x, x = w.alloc (.cells #[.int .i64 0, .int .i64 (n : Int)] 29) := ⟨_, rfl⟩
  have hbel : Below w.heap.size w w1 := by rw [hw1]; exact (Below.refl _ _).alloc (Nat.le_refl _) _
  have r0 : spRow w1 bx 0 n := by rw [hw1, hbx]; exact heap_alloc_new w _
  obtain ⟨P, hP⟩ : ∃ x, x = Go.Scr.pathT 0 n i := ⟨_, rfl⟩
  have hPl : P.length ≤ 40 := by rw [hP, path_length n 0 i h1]; exact wayN_log 40 n i (by omega) h1
  rw [← hP]
  have HP : Hid (P = Go.Scr.pathT 0 n i ∧ i < n ∧ n ≤ 1099511627776 ∧ P.length ≤ 40) := Lib.hid ⟨hP, h1, h2, hPl⟩
  have HA0 : Hid (AtI w w1 bx 0 n [] (.slice none 0 0)) := Lib.hid ⟨⟨rfl, .inl ⟨rfl, rfl⟩⟩, (fun g hg => by cases hg), (fun h => by cases h), r0, Nat.le_of_eq hbx.symm, hbel⟩
  have HW := Lib.hid hw1
  have HBX := Lib.hid hbx
  obtain ⟨d0, d1, _⟩ := r0.at
  clear hw1 hbx hbel r0 h1 h2 hP hPl
  go_enter Tryd.func20, Tryd.ntmps20
  go_upto_block 0 with fail
  rw [← HW.out, ← HBX.out]
  go_wp2_with fail
  go_loopw [6] (fun x wr => Hid (∃ b e L, AtI w wr bx b e L x ∧ b ≤ i ∧ i < e ∧ e ≤ 1099511627776 ∧ P = L ++ Go.Scr.pathT b (e - b) (i - b))) (fun _ wr => spLen wr bx)
  case atStart => exact Lib.hid ⟨0, n, [], HA0.out, Nat.zero_le _, HP.out.2.1, HP.out.2.2.1, by rw [HP.out.1]; rfl⟩
  case round =>
    clear d0 d1 HA0
    obtain ⟨b, e, L, hat, hb1, hb2, hb3, hPe⟩ := hrel.out
    obtain ⟨q, d, rfl, _⟩ := hat.hd.cells
    obtain ⟨l, hl⟩ : ∃ l, l = L.length := ⟨_, rfl⟩
    have hll : l ≤ 40 := by
      have := HP.out.2.2.2
      rw [hPe, List.length_append] at this
      omega
    have HI : Hid (l = L.length ∧ (b ≤ i ∧ i < e ∧ e ≤ 1099511627776) ∧ P = L ++ Go.Scr.pathT b (e - b) (i - b) ∧ True ∧ AtI w wr bx b e L (.slice q l d)) := Lib.hid ⟨hl, ⟨hb1, hb2, hb3⟩, hPe, trivial, by rw [hl]; exact hat⟩
    obtain ⟨d0, d1, _⟩ := hat.rb.at
    rw [← hl]
    clear hrel hat hPe hl
    by_cases h1 : 1 < e - b
    · obtain ⟨s, hs⟩ : ∃ s, s = e - b := ⟨_, rfl⟩
      have hsi : (e : Int) - (b : Int) = (s : Int) := by omega
      have hs1 : (1 : Int) < (s : Int) := by omega
      have HS : Hid (s = e - b ∧ 1 < e - b) := Lib.hid ⟨hs, h1⟩
      have hsp := spl_lt (show 2 ≤ e - b by omega)
      obtain ⟨md, hmd⟩ : ∃ x, x = b + spl (e - b) := ⟨_, rfl⟩
      have hz3 : (l + 1) * 16 ≤ 140737488355328 := by omega
      have hz4 : l + 1 ≤ 140737488355328 := by omega
      have CM : Hid (∀ w', Calls Tryd.prog 48 #[.agg #[.int .i64 (b : Int), .int .i64 (e : Int)]] w' fun r w2 => r = .returned (.int .i64 (md : Int)) ∧ Below w'.heap.size w' w2) := Lib.hid (fun w' => by
        have := rmiddle_any b e w' (by have := HI.out; omega) (by have := HI.out; omega)
        rwa [← hmd] at this)
      have CL : Hid (∀ w', Calls Tryd.prog 49 #[.agg #[.int .i64 (b : Int), .int .i64 (e : Int)]] w' fun r w2 => r = .returned (.agg #[.int .i64 (b : Int), .int .i64 (md : Int)]) ∧ Below w'.heap.size w' w2) := Lib.hid (fun w' => by
        have := rleft_any b e w' (by have := HI.out; omega) (by have := HI.out; omega)
        rwa [← hmd] at this)
      have CR : Hid (∀ w', Calls Tryd.prog 50 #[.agg #[.int .i64 (b : Int), .int .i64 (e : Int)]] w' fun r w2 => r = .returned (.agg #[.int .i64 (md : Int), .int .i64 (e : Int)]) ∧ Below w'.heap.size w' w2) := Lib.hid (fun w' => by
        have := rright_any b e w' (by have := HI.out; omega) (by have := HI.out; omega)
        rwa [← hmd] at this)
      have HSP : Hid (md = b + spl (e - b) ∧ 1 ≤ spl (e - b) ∧ spl (e - b) < e - b) := Lib.hid ⟨hmd, hsp.1, hsp.2.1⟩
      have hmdb : b < md ∧ md < e := by omega
      obtain ⟨hmd1, hmd2⟩ := hmdb
      clear hmd hsp hs h1
      by_cases hlf : i < md
      · have hci : (i : Int) < (md : Int) := by omega
        have HONE : Hid (∀ u ∈ [Value.int .i64 (md : Int), .int .i64 (e : Int)], u.oneCell' = true) := Lib.hid (fun u hu => by
          rcases List.mem_cons.1 hu with rfl | hu
          · rfl
          · rw [List.mem_singleton.1 hu]; rfl)
        have HLF := Lib.hid hlf
        clear hlf
        go_wp2_with (first
          | (go_at_call 48; (with_reducible refine (CM.out _).mono ?_); rintro r w3 ⟨rfl, hb⟩; have H3 := Lib.hid (HI.out.2.2.2.2.later hb); obtain ⟨e0, e1, _⟩ := H3.out.rb.at; clear hb)
          | (go_at_call 50; (with_reducible refine (CR.out _).mono ?_); rintro r w4 ⟨rfl, hb⟩; have H4 := Lib.hid (H3.out.later hb); have HH := Lib.hid (by have := H4.out.hd; rwa [← HI.out.1] at this : Held w4 29 2 (.slice q l d) l (prsV L)); clear hb)
          | (at_builtin; refine wpList_grew (v := .slice q l d) (l := prsV L) rfl _ _ rfl Tryd.underlying31 (.agg #[.int .i64 0, .int .i64 0]) 2 info_spanP rfl (by decide) [.int .i64 (md : Int), .int .i64 (e : Int)] 1 (by simp [Act.eval]) (by simp [Act.eval]) HH.out rfl rfl (by decide) HONE.out hz3 hz4 ?_; intro v5 w5 hg5; have H5 := Lib.hid (H4.out.push (by rw [← HI.out.1]; exact hg5)); obtain ⟨f0, f1, _⟩ := H5.out.rb.at; clear hg5)
          | (go_at_call 49; (with_reducible refine (CL.out _).mono ?_); rintro r w6 ⟨rfl, hb⟩; have H6 := Lib.hid (H5.out.later hb); obtain ⟨g0, g1, gf⟩ := H6.out.rb.at; clear hb))
        refine ⟨Lib.hid ⟨b, md, L ++ [(md, e)], H6.out.set b md, ?_⟩, ?_⟩
        · have h := HSP.out
          refine ⟨HI.out.2.1.1, HLF.out, by have := HI.out.2.1; omega, ?_⟩
          rw [HI.out.2.2.1, pathT_left b HS.out.2 (by omega), List.append_assoc, List.singleton_append, show b + (e - b) = e by omega, show md - b = spl (e - b) by omega, ← h.1]
        · show spLen _ bx < spLen _ bx
          rw [(H6.out.set b md).rb.len, HI.out.2.2.2.2.rb.len]
          have := HI.out.2.1
          have := HSP.out
          omega
      · have hci : ¬ (i : Int) < (md : Int) := by omega
        have HONE : Hid (∀ u ∈ [Value.int .i64 (b : Int), .int .i64 (md : Int)], u.oneCell' = true) := Lib.hid (fun u hu => by
          rcases List.mem_cons.1 hu with rfl | hu
          · rfl
          · rw [List.mem_singleton.1 hu]; rfl)
        have HLF := Lib.hid hlf
        clear hlf
        go_wp2_with (first
          | (go_at_call 48; (with_reducible refine (CM.out _).mono ?_); rintro r w3 ⟨rfl, hb⟩; have H3 := Lib.hid (HI.out.2.2.2.2.later hb); obtain ⟨e0, e1, _⟩ := H3.out.rb.at; clear hb)
          | (go_at_call 49; (with_reducible refine (CL.out _).mono ?_); rintro r w4 ⟨rfl, hb⟩; have H4 := Lib.hid (H3.out.later hb); have HH := Lib.hid (by have := H4.out.hd; rwa [← HI.out.1] at this : Held w4 29 2 (.slice q l d) l (prsV L)); clear hb)
          | (at_builtin; refine wpList_grew (v := .slice q l d) (l := prsV L) rfl _ _ rfl Tryd.underlying31 (.agg #[.int .i64 0, .int .i64 0]) 2 info_spanP rfl (by decide) [.int .i64 (b : Int), .int .i64 (md : Int)] 1 (by simp [Act.eval]) (by simp [Act.eval]) HH.out rfl rfl (by decide) HONE.out hz3 hz4 ?_; intro v5 w5 hg5; have H5 := Lib.hid (H4.out.push (by rw [← HI.out.1]; exact hg5)); obtain ⟨f0, f1, _⟩ := H5.out.rb.at; clear hg5)
          | (go_at_call 50; (with_reducible refine (CR.out _).mono ?_); rintro r w6 ⟨rfl, hb⟩; have H6 := Lib.hid (H5.out.later hb); obtain ⟨g0, g1, gf⟩ := H6.out.rb.at; clear hb))
        refine ⟨Lib.hid ⟨md, e, L ++ [(b, md)], H6.out.set md e, ?_⟩, ?_⟩
        · have h := HSP.out
          refine ⟨by have := HLF.out; omega, HI.out.2.1.2.1, HI.out.2.1.2.2, ?_⟩
          rw [HI.out.2.2.1, pathT_right b HS.out.2 (by have := HLF.out; omega), List.append_assoc, List.singleton_append, show e - md = e - b - spl (e - b) by omega, show i - md = i - b - spl (e - b) by have := HLF.out; omega, ← h.1]
        · show spLen _ bx < spLen _ bx
          rw [(H6.out.set md e).rb.len, HI.out.2.2.2.2.rb.len]
          have := HI.out.2.1
          have := HSP.out
          omega
    · obtain ⟨s, hs⟩ : ∃ s, s = e - b := ⟨_, rfl⟩
      have hsi : (e : Int) - (b : Int) = (s : Int) := by omega
      have hs1 : ¬ (1 : Int) < (s : Int) := by omega
      have hPL : Hid (P = L) := Lib.hid (by
        rw [HI.out.2.2.1, pathT_one b (i - b) (by omega), List.append_nil])
      have CT : Hid (Calls Tryd.prog 54 #[.slice q l d] wr fun r w' => (∃ q d, r = .returned (.slice q l d) ∧ Held w' 29 2 (.slice q l d) l (prsV L.reverse) ∧ ∀ g, (Value.slice q l d).ownBlock = some g → wr.heap.size ≤ g) ∧ Below wr.heap.size wr w') := Lib.hid (turned8_any q l d L wr HI.out.1 (by have := HI.out.2.2.2.2.hd; rwa [← HI.out.1] at this) (by have := HI.out.1; omega))
      clear hs h1
      go_wp2_with (go_at_call 54; (with_reducible refine CT.out.mono ?_); rintro r w2 ⟨⟨p, c, rfl, hh, ho⟩, hb2⟩; have HO := Lib.hid (And.intro hh (And.intro ho hb2)); clear hh ho hb2)
      go_ret2
      have hbl := HI.out.2.2.2.2.bel
      unfold OutP
      rw [hPL.out, List.length_reverse, ← HI.out.1]
      exact ⟨⟨p, c, rfl, HO.out.1, fun g hg => by have := HO.out.2.1 g hg; have := hbl.size; omega⟩, below_onS hbl HO.out.2.2 hbl.size⟩
theorem rpath_any (n i : Int) (w : World) : Calls Tryd.prog 20 #[.int .i64 n, .int .i64 i] w (OutP w 29 (wayE n i) (wayL n i)) := by
  unfold wayE wayL
  by_cases h : n < 1 ∨ 1099511627776 < n
  · rw [if_pos h, if_pos h]
    by_cases h1 : n < 1
    · clear h
      go_enter Tryd.func20, Tryd.ntmps20
      go_wp2_with fail
      go_ret2
      exact outP_nil rfl (Below.refl _ _)
    · have h2 : 1099511627776 < n := by omega
      clear h
      go_enter Tryd.func20, Tryd.ntmps20
      go_wp2_with fail
      go_ret2
      exact outP_nil rfl (Below.refl _ _)
  · rw [if_neg h, if_neg h]
    have h1 : ¬ n < 1 := by omega
    have h2 : ¬ 1099511627776 < n := by omega
    clear h
    by_cases h : i < 0 ∨ n ≤ i
    · rw [if_pos h, if_pos h]
      by_cases h3 : i < 0
      · clear h
        go_enter Tryd.func20, Tryd.ntmps20
        go_wp2_with fail
        go_ret2
        exact outP_nil rfl (Below.refl _ _)
      · have h4 : n ≤ i := by omega
        clear h
        go_enter Tryd.func20, Tryd.ntmps20
        go_wp2_with fail
        go_ret2
        exact outP_nil rfl (Below.refl _ _)
    · rw [if_neg h, if_neg h]
      obtain ⟨x, rfl⟩ : ∃ x : Nat, n = (x : Int) := ⟨n.toNat, by omega⟩
      obtain ⟨y, rfl⟩ : ∃ x : Nat, i = (x : Int) := ⟨i.toNat, by omega⟩
      rw [Int.toNat_natCast, Int.toNat_natCast]
      exact rpath_yes x y w (by omega) (by omega)
set_option maxRecDepth 100000 in
set_option maxHeartbeats 4000000 in
theorem rproof_yes (f s : Nat) (w : World) (h1 : 1 ≤ f) (h2 : f < s) (h3 : s ≤ 1099511627776) : Calls Tryd.prog 22 #[.int .i64 (f : Int), .int .i64 (s : Int)] w (OutP w 29 0 (Go.Scr.proofT 0 s f).reverse) := by
  have e1 : ¬ (f : Int) < 1 := by omega
  have e2 : ¬ (s : Int) < (f : Int) := by omega
  have e3 : ¬ (1099511627776 : Int) < (s : Int) := by omega
  have e4 : ((f : Int) == (s : Int)) = false := by rw [beq_eq_false_iff_ne]; omega
  obtain ⟨bx, hbx⟩ : ∃ x, x = w.heap.size := ⟨_, rfl⟩
  obtain ⟨w1, hw1⟩ : ∃ x, x = w.alloc (.cells #[.int .i64 0, .int .i64 (s : Int)] 29) := ⟨_, rfl⟩
  have hbel : Below w.heap.size w w1 := by rw [hw1]; exact (Below.refl _ _).alloc (Nat.le_refl _) _
  have r0 : spRow w1 bx 0 s := by rw [hw1, hbx]; exact heap_alloc_new w _
  obtain ⟨P, hP⟩ : ∃ x, x = Go.Scr.proofT 0 s f := ⟨_, rfl⟩
  have hPl : P.length ≤ 1000 := by rw [hP]; have := proofT_log 40 0 s f (by omega) h1 (by omega); omega
  rw [← hP]
  have HP : Hid (P = Go.Scr.proofT 0 s f ∧ 1 ≤ f ∧ f < s ∧ s ≤ 1099511627776 ∧ P.length ≤ 1000) := Lib.hid ⟨hP, h1, h2, h3, hPl⟩
  have HA0 : Hid (AtI w w1 bx 0 s [] (.slice none 0 0)) := Lib.hid ⟨⟨rfl, .inl ⟨rfl, rfl⟩⟩, (fun g hg => by cases hg), (fun h => by cases h), r0, Nat.le_of_eq hbx.symm, hbel⟩
  have HW := Lib.hid hw1
  have HBX := Lib.hid hbx
  obtain ⟨d0, d1, _⟩ := r0.at
  clear hw1 hbx hbel r0 h1 h2 h3 hP hPl
  go_enter Tryd.func22, Tryd.ntmps22
  go_upto_block 0 with fail
  rw [← HW.out, ← HBX.out]
  go_wp2_with fail
  go_loopw [6] (fun x wr => Hid (∃ b e L, AtI w wr bx b e L x ∧ b < f ∧ f ≤ e ∧ e ≤ 1099511627776 ∧ P = L ++ Go.Scr.proofT b (e - b) (f - b))) (fun _ wr => spLen wr bx)
  case atStart => exact Lib.hid ⟨0, s, [], HA0.out, by have := HP.out; omega, by have := HP.out; omega, HP.out.2.2.2.1, by rw [HP.out.1]; rfl⟩
  case round =>
    clear d0 d1 HA0
    obtain ⟨b, e, L, hat, hb1, hb2, hb3, hPe⟩ := hrel.out
    obtain ⟨q, d, rfl, _⟩ := hat.hd.cells
    obtain ⟨l, hl⟩ : ∃ l, l = L.length := ⟨_, rfl⟩
    have hll : l ≤ 1000 := by
      have := HP.out.2.2.2.2
      rw [hPe, List.length_append] at this
      omega
    have HI : Hid (l = L.length ∧ (b < f ∧ f ≤ e ∧ e ≤ 1099511627776) ∧ P = L ++ Go.Scr.proofT b (e - b) (f - b) ∧ True ∧ AtI w wr bx b e L (.slice q l d)) := Lib.hid ⟨hl, ⟨hb1, hb2, hb3⟩, hPe, trivial, by rw [hl]; exact hat⟩
    obtain ⟨d0, d1, _⟩ := hat.rb.at
    rw [← hl]
    clear hrel hat hPe hl
    by_cases h1 : e = f
    · subst h1
      have hne : ((e : Int) != (e : Int)) = false := by simp
      by_cases hb0 : b = 0
      · have hb0i : ¬ (0 : Int) < (b : Int) := by omega
        have hPL : Hid (P = L) := Lib.hid (by
          rw [HI.out.2.2.1, proofT_end, if_pos hb0, List.append_nil])
        have CT : Hid (Calls Tryd.prog 54 #[.slice q l d] wr fun r w' => (∃ q d, r = .returned (.slice q l d) ∧ Held w' 29 2 (.slice q l d) l (prsV L.reverse) ∧ ∀ g, (Value.slice q l d).ownBlock = some g → wr.heap.size ≤ g) ∧ Below wr.heap.size wr w') := Lib.hid (turned8_any q l d L wr HI.out.1 (by have := HI.out.2.2.2.2.hd; rwa [← HI.out.1] at this) (by have := HI.out.1; omega))
        clear hb0
        go_wp2_with (go_at_call 54; (with_reducible refine CT.out.mono ?_); rintro r w2 ⟨⟨p, c, rfl, hh, ho⟩, hb2⟩; have HO := Lib.hid (And.intro hh (And.intro ho hb2)); clear hh ho hb2)
        go_ret2
        have hbl := HI.out.2.2.2.2.bel
        unfold OutP
        rw [hPL.out, List.length_reverse, ← HI.out.1]
        exact ⟨⟨p, c, rfl, HO.out.1, fun g hg => by have := HO.out.2.1 g hg; have := hbl.size; omega⟩, below_onS hbl HO.out.2.2 hbl.size⟩
      · have hb0i : (0 : Int) < (b : Int) := by omega
        have hPL : Hid (P = L ++ [(b, e)]) := Lib.hid (by
          rw [HI.out.2.2.1, proofT_end, if_neg hb0, show b + (e - b) = e by omega])
        have HH : Hid (Held wr 29 2 (.slice q l d) l (prsV L)) := Lib.hid (by have := HI.out.2.2.2.2.hd; rwa [← HI.out.1] at this)
        have HONE : Hid (∀ u ∈ [Value.int .i64 (b : Int), .int .i64 (e : Int)], u.oneCell' = true) := Lib.hid (fun u hu => by
          rcases List.mem_cons.1 hu with rfl | hu
          · rfl
          · rw [List.mem_singleton.1 hu]; rfl)
        have hz3 : (l + 1) * 16 ≤ 140737488355328 := by omega
        have hz4 : l + 1 ≤ 140737488355328 := by omega
        have CT : Hid (∀ (q5 : Option Addr) (d5 : Nat) (w5 : World), Held w5 29 2 (.slice q5 (l + 1) d5) (l + 1) (prsV L ++ [.int .i64 (b : Int), .int .i64 (e : Int)]) → Calls Tryd.prog 54 #[.slice q5 (l + 1) d5] w5 fun r w' => (∃ q d, r = .returned (.slice q (l + 1) d) ∧ Held w' 29 2 (.slice q (l + 1) d) (l + 1) (prsV (L ++ [(b, e)]).reverse) ∧ ∀ g, (Value.slice q (l + 1) d).ownBlock = some g → w5.heap.size ≤ g) ∧ Below w5.heap.size w5 w') := Lib.hid (fun q5 d5 w5 h => turned8_any q5 (l + 1) d5 (L ++ [(b, e)]) w5 (by rw [List.length_append, ← HI.out.1]; rfl) (by rw [prsV_append]; exact h) (by rw [List.length_append]; have := HI.out.1; simp; omega))
        clear hb0
        go_wp2_with (first
          | (at_builtin; refine wpList_grew (v := .slice q l d) (l := prsV L) rfl _ _ rfl Tryd.underlying31 (.agg #[.int .i64 0, .int .i64 0]) 2 info_spanP rfl (by decide) [.int .i64 (b : Int), .int .i64 (e : Int)] 1 (by simp [Act.eval]) (by simp [Act.eval]) HH.out rfl rfl (by decide) HONE.out hz3 hz4 ?_; intro v5 w5 hg5; have h5 := HI.out.2.2.2.2.push (by rw [← HI.out.1]; exact hg5); obtain ⟨q5, d5, rfl, _⟩ := hg5.held.cells; have H5 := Lib.hid h5; have HG5 := Lib.hid hg5.held; clear hg5 h5)
          | (go_at_call 54; (with_reducible refine (CT.out _ _ _ HG5.out).mono ?_); rintro r w2 ⟨⟨p, c, rfl, hh, ho⟩, hb2⟩; have HO := Lib.hid (And.intro hh (And.intro ho hb2)); clear hh ho hb2))
        go_ret2
        have hbl := H5.out.bel
        have hPlen : P.reverse.length = l + 1 := by rw [hPL.out, List.length_reverse, List.length_append, ← HI.out.1]; rfl
        unfold OutP
        rw [hPlen, hPL.out]
        exact ⟨⟨p, c, rfl, HO.out.1, fun g hg => by have := HO.out.2.1 g hg; have := hbl.size; omega⟩, below_onS hbl HO.out.2.2 hbl.size⟩
    · have hne : ((e : Int) != (f : Int)) = true := by rw [bne_iff_ne]; omega
      have HS : Hid (e ≠ f ∧ 1 < e - b) := Lib.hid ⟨h1, by omega⟩
      have hsp := spl_lt (show 2 ≤ e - b by omega)
      obtain ⟨md, hmd⟩ : ∃ x, x = b + spl (e - b) := ⟨_, rfl⟩
      have hz3 : (l + 1) * 16 ≤ 140737488355328 := by omega
      have hz4 : l + 1 ≤ 140737488355328 := by omega
      have CM : Hid (∀ w', Calls Tryd.prog 48 #[.agg #[.int .i64 (b : Int), .int .i64 (e : Int)]] w' fun r w2 => r = .returned (.int .i64 (md : Int)) ∧ Below w'.heap.size w' w2) := Lib.hid (fun w' => by
        have := rmiddle_any b e w' (by have := HI.out; omega) (by have := HI.out; omega)
        rwa [← hmd] at this)
      have CL : Hid (∀ w', Calls Tryd.prog 49 #[.agg #[.int .i64 (b : Int), .int .i64 (e : Int)]] w' fun r w2 => r = .returned (.agg #[.int .i64 (b : Int), .int .i64 (md : Int)]) ∧ Below w'.heap.size w' w2) := Lib.hid (fun w' => by
        have := rleft_any b e w' (by have := HI.out; omega) (by have := HI.out; omega)
        rwa [← hmd] at this)
      have CR : Hid (∀ w', Calls Tryd.prog 50 #[.agg #[.int .i64 (b : Int), .int .i64 (e : Int)]] w' fun r w2 => r = .returned (.agg #[.int .i64 (md : Int), .int .i64 (e : Int)]) ∧ Below w'.heap.size w' w2) := Lib.hid (fun w' => by
        have := rright_any b e w' (by have := HI.out; omega) (by have := HI.out; omega)
        rwa [← hmd] at this)
      have HSP : Hid (md = b + spl (e - b) ∧ 1 ≤ spl (e - b) ∧ spl (e - b) < e - b) := Lib.hid ⟨hmd, hsp.1, hsp.2.1⟩
      have hmdb : b < md ∧ md < e := by omega
      obtain ⟨hmd1, hmd2⟩ := hmdb
      clear hmd hsp h1
      by_cases hlf : f ≤ md
      · have hci : (f : Int) ≤ (md : Int) := by omega
        have HONE : Hid (∀ u ∈ [Value.int .i64 (md : Int), .int .i64 (e : Int)], u.oneCell' = true) := Lib.hid (fun u hu => by
          rcases List.mem_cons.1 hu with rfl | hu
          · rfl
          · rw [List.mem_singleton.1 hu]; rfl)
        have HLF := Lib.hid hlf
        clear hlf
        go_wp2_with (first
          | (go_at_call 48; (with_reducible refine (CM.out _).mono ?_); rintro r w3 ⟨rfl, hb⟩; have H3 := Lib.hid (HI.out.2.2.2.2.later hb); obtain ⟨e0, e1, _⟩ := H3.out.rb.at; clear hb)
          | (go_at_call 50; (with_reducible refine (CR.out _).mono ?_); rintro r w4 ⟨rfl, hb⟩; have H4 := Lib.hid (H3.out.later hb); have HH := Lib.hid (by have := H4.out.hd; rwa [← HI.out.1] at this : Held w4 29 2 (.slice q l d) l (prsV L)); clear hb)
          | (at_builtin; refine wpList_grew (v := .slice q l d) (l := prsV L) rfl _ _ rfl Tryd.underlying31 (.agg #[.int .i64 0, .int .i64 0]) 2 info_spanP rfl (by decide) [.int .i64 (md : Int), .int .i64 (e : Int)] 1 (by simp [Act.eval]) (by simp [Act.eval]) HH.out rfl rfl (by decide) HONE.out hz3 hz4 ?_; intro v5 w5 hg5; have H5 := Lib.hid (H4.out.push (by rw [← HI.out.1]; exact hg5)); obtain ⟨f0, f1, _⟩ := H5.out.rb.at; clear hg5)
          | (go_at_call 49; (with_reducible refine (CL.out _).mono ?_); rintro r w6 ⟨rfl, hb⟩; have H6 := Lib.hid (H5.out.later hb); obtain ⟨g0, g1, gf⟩ := H6.out.rb.at; clear hb))
        refine ⟨Lib.hid ⟨b, md, L ++ [(md, e)], H6.out.set b md, ?_⟩, ?_⟩
        · have h := HSP.out
          refine ⟨HI.out.2.1.1, HLF.out, by have := HI.out.2.1; omega, ?_⟩
          rw [HI.out.2.2.1, proofT_left b (by have := HS.out.1; have := HI.out.2.1; omega) HS.out.2 (by have := HLF.out; omega), List.append_assoc, List.singleton_append, show b + (e - b) = e by omega, show md - b = spl (e - b) by omega, ← h.1]
        · show spLen _ bx < spLen _ bx
          rw [(H6.out.set b md).rb.len, HI.out.2.2.2.2.rb.len]
          have := HI.out.2.1
          have := HSP.out
          omega
      · have hci : ¬ (f : Int) ≤ (md : Int) := by omega
        have HONE : Hid (∀ u ∈ [Value.int .i64 (b : Int), .int .i64 (md : Int)], u.oneCell' = true) := Lib.hid (fun u hu => by
          rcases List.mem_cons.1 hu with rfl | hu
          · rfl
          · rw [List.mem_singleton.1 hu]; rfl)
        have HLF := Lib.hid hlf
        clear hlf
        go_wp2_with (first
          | (go_at_call 48; (with_reducible refine (CM.out _).mono ?_); rintro r w3 ⟨rfl, hb⟩; have H3 := Lib.hid (HI.out.2.2.2.2.later hb); obtain ⟨e0, e1, _⟩ := H3.out.rb.at; clear hb)
          | (go_at_call 49; (with_reducible refine (CL.out _).mono ?_); rintro r w4 ⟨rfl, hb⟩; have H4 := Lib.hid (H3.out.later hb); have HH := Lib.hid (by have := H4.out.hd; rwa [← HI.out.1] at this : Held w4 29 2 (.slice q l d) l (prsV L)); clear hb)
          | (at_builtin; refine wpList_grew (v := .slice q l d) (l := prsV L) rfl _ _ rfl Tryd.underlying31 (.agg #[.int .i64 0, .int .i64 0]) 2 info_spanP rfl (by decide) [.int .i64 (b : Int), .int .i64 (md : Int)] 1 (by simp [Act.eval]) (by simp [Act.eval]) HH.out rfl rfl (by decide) HONE.out hz3 hz4 ?_; intro v5 w5 hg5; have H5 := Lib.hid (H4.out.push (by rw [← HI.out.1]; exact hg5)); obtain ⟨f0, f1, _⟩ := H5.out.rb.at; clear hg5)
          | (go_at_call 50; (with_reducible refine (CR.out _).mono ?_); rintro r w6 ⟨rfl, hb⟩; have H6 := Lib.hid (H5.out.later hb); obtain ⟨g0, g1, gf⟩ := H6.out.rb.at; clear hb))
        refine ⟨Lib.hid ⟨md, e, L ++ [(b, md)], H6.out.set md e, ?_⟩, ?_⟩
        · have h := HSP.out
          refine ⟨by have := HLF.out; omega, HI.out.2.1.2.1, HI.out.2.1.2.2, ?_⟩
          rw [HI.out.2.2.1, proofT_right b (by have := HS.out.1; have := HI.out.2.1; omega) HS.out.2 (by have := HLF.out; omega), List.append_assoc, List.singleton_append, show e - md = e - b - spl (e - b) by omega, show f - md = f - b - spl (e - b) by have := HLF.out; omega, ← h.1]
        · show spLen _ bx < spLen _ bx
          rw [(H6.out.set md e).rb.len, HI.out.2.2.2.2.rb.len]
          have := HI.out.2.1
          have := HSP.out
          omega
theorem rproof_any (f s : Int) (w : World) : Calls Tryd.prog 22 #[.int .i64 f, .int .i64 s] w (OutP w 29 (prfE f s) (prfL f s)) := by
  unfold prfE prfL
  by_cases h : f < 1 ∨ s < f ∨ 1099511627776 < s
  · rw [if_pos h, if_pos h]
    by_cases h1 : f < 1
    · clear h
      go_enter Tryd.func22, Tryd.ntmps22
      go_wp2_with fail
      go_ret2
      exact outP_nil rfl (Below.refl _ _)
    · by_cases h2 : s < f
      · clear h
        go_enter Tryd.func22, Tryd.ntmps22
        go_wp2_with fail
        go_ret2
        exact outP_nil rfl (Below.refl _ _)
      · have h3 : 1099511627776 < s := by omega
        clear h
        go_enter Tryd.func22, Tryd.ntmps22
        go_wp2_with fail
        go_ret2
        exact outP_nil rfl (Below.refl _ _)
  · rw [if_neg h, if_neg h]
    have h1 : ¬ f < 1 := by omega
    have h2 : ¬ s < f := by omega
    have h3 : ¬ 1099511627776 < s := by omega
    clear h
    obtain ⟨x, rfl⟩ : ∃ x : Nat, f = (x : Int) := ⟨f.toNat, by omega⟩
    obtain ⟨y, rfl⟩ : ∃ x : Nat, s = (x : Int) := ⟨s.toNat, by omega⟩
    rw [Int.toNat_natCast, Int.toNat_natCast]
    by_cases hxy : x = y
    · subst hxy
      rw [proofT_end, if_pos rfl]
      have heq : ((x : Int) == (x : Int)) = true := by simp
      go_enter Tryd.func22, Tryd.ntmps22
      go_wp2_with fail
      go_ret2
      exact outP_nil rfl (Below.refl _ _)
    · exact rproof_yes x y w (by omega) (by omega) (by omega)
end Go.Proofs.YteknpnanmbfhfaaDoor
