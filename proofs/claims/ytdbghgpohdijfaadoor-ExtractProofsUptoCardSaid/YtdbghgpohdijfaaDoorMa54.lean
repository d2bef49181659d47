/- Law 6: ExtractLists, walked (printed by gen_exc.py). -/
import Derived.Test.YtdbghgpohdijfaaDoorMa53
namespace Go.Proofs.YtdbghgpohdijfaaDoor
open Go.RowKit Go.Scr
set_option linter.unusedVariables false
/-- two unlike texts of one digest -/
def UnP (x y : ByteArray) : Prop := x ≠ y ∧ (shaS x = shaS y ∧ x.size ≤ 2000000 ∧ y.size ≤ 2000000)
def AnsP (c : Int) (w : World) (e : Ending) (w' : World) : Prop := ∃ x y, e = .returned (.tuple #[.agg #[.string x, .string y], .int .i64 c]) ∧ (c = 0 → UnP x y) ∧ Below w.heap.size w w'
theorem ans_none {c : Int} (hc : c ≠ 0) {w w' : World} {e : Ending} (h : NoneP c w e w') : AnsP c w e w' := ⟨_, _, h.1, fun h0 => absurd h0 hc, h.2⟩
theorem ans_pair {w w' : World} {e : Ending} (h : PairP w e w') : AnsP 0 w e w' := by
  obtain ⟨p, q, h1, h2, h3, h4⟩ := h
  exact ⟨p, q, h1, fun _ => ⟨h2, h3⟩, h4⟩
theorem refused_two {A B : List ByteArray} (h : lvNo A B = true) : refusedE A ≠ 0 ∨ (refusedE A = 0 ∧ refusedE B ≠ 0) ∨ (refusedE A = 0 ∧ refusedE B = 0 ∧ A.length ≠ B.length) := by
  by_cases h1 : refusedE A = 0
  · by_cases h2 : refusedE B = 0
    · refine .inr (.inr ⟨h1, h2, fun hl => ?_⟩)
      unfold refusedE at h1 h2
      unfold lvNo at h
      by_cases a1 : 4096 < A.length
      · rw [if_pos a1] at h1; exact absurd h1 (by decide)
      · rw [if_neg a1] at h1
        by_cases a2 : ok32 A = false
        · rw [if_pos a2] at h1; exact absurd h1 (by decide)
        · by_cases b1 : 4096 < B.length
          · rw [if_pos b1] at h2; exact absurd h2 (by decide)
          · rw [if_neg b1] at h2
            by_cases b2 : ok32 B = false
            · rw [if_pos b2] at h2; exact absurd h2 (by decide)
            · have a3 : ok32 A = true := by simpa using a2
              have b3 : ok32 B = true := by simpa using b2
              rw [a3, b3, decide_eq_false a1, decide_eq_false (fun h => h hl)] at h
              exact absurd h (by decide)
    · exact .inr (.inl ⟨h1, h2⟩)
  · exact .inl h1
theorem lvNo_ok {A B : List ByteArray} (hno : lvNo A B = false) : A.length = B.length ∧ A.length ≤ 4096 ∧ (∀ s ∈ A, s.size = 32) ∧ (∀ s ∈ B, s.size = 32) ∧ refusedE A = 0 ∧ refusedE B = 0 := by
  unfold lvNo at hno
  rw [Bool.or_eq_false_iff, Bool.or_eq_false_iff, Bool.or_eq_false_iff] at hno
  obtain ⟨⟨⟨h1, h2⟩, h3⟩, h4⟩ := hno
  have h1 := of_decide_eq_false h1
  have h2 := of_decide_eq_false h2
  have ho1 : ok32 A = true := by simpa using h3
  have ho2 : ok32 B = true := by simpa using h4
  have hl : A.length = B.length := by omega
  refine ⟨hl, by omega, fun s hs => by unfold ok32 at ho1; rw [List.all_eq_true] at ho1; simpa using ho1 s hs, fun s hs => by unfold ok32 at ho2; rw [List.all_eq_true] at ho2; simpa using ho2 s hs, ?_, ?_⟩
  · unfold refusedE; rw [if_neg h2, if_neg (by rw [ho1]; decide)]
  · unfold refusedE; rw [if_neg (by omega), if_neg (by rw [ho2]; decide)]
theorem txts_cellE {w : World} {p : Option Addr} {n c : Nat} {L : List ByteArray} (h : Txts w (.slice p n c) L) {i : Nat} {s : ByteArray} (hs : L[i]? = some s) : ∃ a, p = some a ∧ ∀ w', Below w.heap.size w w' → w'.cell? (a.add i) = some (.string s) := by
  obtain ⟨p', c', hpe, _, _, hq⟩ := h
  obtain rfl : p = p' := by cases hpe; rfl
  obtain ⟨a, ha, hcell⟩ := hq i s hs
  exact ⟨a, ha, fun w' hb => (hb.cell (block_lt_of_cell hcell)).trans hcell⟩
set_option maxRecDepth 100000 in
set_option maxHeartbeats 8000000 in
theorem el_one {W : World} {v0 v1 : Value} {A B : List ByteArray} {s t : ByteArray} (ht : Tabs W) (hA : Txts W v0 A) (hB : Txts W v1 B) (hs : s.size ≤ 1048576) (hz : t.size ≤ 1048576) (hno : lvNo A B = true) :
    Calls Tryd.prog 5 #[v0, v1, .string s, .string t] W fun o w' => o = .returned (.bool true) ∧ Below W.heap.size W w' := by
  have CLv : Hid (∀ w, Below W.heap.size W w → Calls Tryd.prog 18 #[v0, v1] w (AnsP 1 w)) := Lib.hid (fun w hb => by
    exact (leaves_arg (ht.below hb) (hA.below hb (Nat.le_refl _)) (hB.below hb (Nat.le_refl _)) hno).mono fun e w' h => ans_none (by decide) h)
  have HNO := Lib.hid (refused_two hno)
  have CA := Lib.hid (awake_any ht)
  obtain ⟨la, hla⟩ : ∃ x, x = hleaf s := ⟨_, rfl⟩
  obtain ⟨lb, hlb⟩ : ∃ x, x = hleaf t := ⟨_, rfl⟩
  obtain ⟨T, hT⟩ : ∃ T, T = (decide (la = lb) && decide (s ≠ t)) := ⟨_, rfl⟩
  obtain ⟨ES, hES⟩ : ∃ x : Int, x = if T then 0 else 60 := ⟨_, rfl⟩
  have CE : Hid (∀ w, Below W.heap.size W w → Calls Tryd.prog 19 #[.string s, .string t] w (AnsP ES w)) := Lib.hid (fun w hb => by
    refine (entries_any (ht.below hb) hs hz).mono fun e w' h => ?_
    unfold EnP at h
    by_cases hc : s = t ∨ hleaf s ≠ hleaf t
    · rw [if_pos hc] at h
      have hTf : T = false := by
        rw [hT, hla, hlb]
        rcases hc with h1 | h1
        · rw [show decide (s ≠ t) = false from decide_eq_false (fun h2 => h2 h1), Bool.and_false]
        · rw [decide_eq_false h1]; rfl
      have : ES = 60 := by rw [hES, hTf]; rfl
      rw [this]
      exact ans_none (by decide) h
    · rw [if_neg hc] at h
      have hTf : T = true := by
        rw [hT, hla, hlb, decide_eq_true (Classical.not_not.mp fun h1 => hc (.inr h1)), show decide (s ≠ t) = true from decide_eq_true (fun h1 => hc (.inl h1))]; rfl
      have : ES = 0 := by rw [hES, hTf]; rfl
      rw [this]
      exact ans_pair h)
  have CL1 : Hid (∀ w', Below W.heap.size W w' → Calls Tryd.prog 20 #[.string s] w' fun o z => o = .returned (.string la) ∧ Below w'.heap.size w' z) := Lib.hid (fun w' hb => by rw [hla]; exact dleaf_any s w' (ht.below hb) (by omega))
  have CL2 : Hid (∀ w', Below W.heap.size W w' → Calls Tryd.prog 20 #[.string t] w' fun o z => o = .returned (.string lb) ∧ Below w'.heap.size w' z) := Lib.hid (fun w' hb => by rw [hlb]; exact dleaf_any t w' (ht.below hb) (by omega))
  have CU : Hid (∀ w' x y, Below W.heap.size W w' → UnP x y → Calls Tryd.prog 14 #[.agg #[.string x, .string y]] w' fun o z => o = .returned (.bool true) ∧ Below w'.heap.size w' z) := Lib.hid (fun w' x y hb h => unlike_yes (ht.below hb) h.1 h.2)
  obtain ⟨n, hn⟩ : ∃ n, n = A.length := ⟨_, rfl⟩
  obtain ⟨m, hm⟩ : ∃ n, n = B.length := ⟨_, rfl⟩
  have HTX : Hid (∀ w', Below W.heap.size W w' → Txts w' v0 A ∧ Txts w' v1 B) := Lib.hid (fun w' hb => ⟨hA.below hb (Nat.le_refl _), hB.below hb (Nat.le_refl _)⟩)
  obtain ⟨rA, hrA⟩ : ∃ r, r = rootT A := ⟨_, rfl⟩
  obtain ⟨rB, hrB⟩ : ∃ r, r = rootT B := ⟨_, rfl⟩
  obtain ⟨eA, heA⟩ : ∃ r, r = refusedE A := ⟨_, rfl⟩
  obtain ⟨eB, heB⟩ : ∃ r, r = refusedE B := ⟨_, rfl⟩
  have CR1 : Hid (∀ w', Below W.heap.size W w' → Calls Tryd.prog 16 #[v0] w' fun o z => o = .returned (.tuple #[.string rA, .int .i64 eA]) ∧ Below w'.heap.size w' z) := Lib.hid (fun w' hb => by rw [hrA, heA]; exact Root_any v0 A w' (ht.below hb) (HTX.out w' hb).1)
  have CR2 : Hid (∀ w', Below W.heap.size W w' → Calls Tryd.prog 16 #[v1] w' fun o z => o = .returned (.tuple #[.string rB, .int .i64 eB]) ∧ Below w'.heap.size w' z) := Lib.hid (fun w' hb => by rw [hrB, heB]; exact Root_any v1 B w' (ht.below hb) (HTX.out w' hb).2)
  obtain ⟨pa, ca, rfl⟩ : ∃ p c, v0 = .slice p n c := by obtain ⟨p, c, h, _⟩ := hA; exact ⟨p, c, by rw [h, hn]⟩
  obtain ⟨pb, cb, rfl⟩ : ∃ p c, v1 = .slice p m c := by obtain ⟨p, c, h, _⟩ := hB; exact ⟨p, c, by rw [h, hm]⟩
  have HF : Hid (n = A.length ∧ m = B.length ∧ rA = rootT A ∧ rB = rootT B ∧ eA = refusedE A ∧ eB = refusedE B) := Lib.hid ⟨hn, hm, hrA, hrB, heA, heB⟩
  have HT := Lib.hid hT
  have HES := Lib.hid hES
  clear ht hA hB hs hz hla hlb hT hES hn hm hrA hrB heA heB hno
  go_enter Tryd.func5, Tryd.ntmps5
  go_upto_region 3 with (first
    | (go_at_call 10; (with_reducible refine CA.out.mono ?_); rintro o w0 ⟨rfl, h⟩; have HX := Lib.hid h; clear h)
    | (go_at_call 18; (with_reducible refine (CLv.out _ HX.out).mono ?_); rintro o w1 ⟨x, y, rfl, hun, h⟩; have HUN := Lib.hid hun; replace HX := Lib.hid (HX.out.trans (h.mono HX.out.size)); clear h hun))
  obtain ⟨w2, hw2⟩ : ∃ z, z = w1.alloc (.cells #[.string x, .string y] 27) := ⟨_, rfl⟩
  obtain ⟨b1, hb1⟩ : ∃ z, z = w1.heap.size := ⟨_, rfl⟩
  have hx2 : w2.heap[b1]? = some (.cells #[.string x, .string y] 27 (0, 0)) := by rw [hw2, hb1]; exact heap_alloc_new w1 _
  have HB1 : Hid (∀ w', Below w2.heap.size w2 w' → w'.cell? ⟨b1, 0, none⟩ = some (.string x) ∧ w'.cell? ⟨b1, 1, none⟩ = some (.string y)) := Lib.hid (fun w' hb => by
    have := blk_below hx2 hb (blk_lt hx2)
    exact ⟨cellB this rfl, cellB this rfl⟩)
  have HX2 : Hid (Below W.heap.size W w2) := Lib.hid (by rw [hw2]; exact HX.out.alloc HX.out.size _)
  have HY : Hid (Below w2.heap.size w2 w2) := Lib.hid (Below.refl _ _)
  rw [← hw2, ← hb1]
  clear hw2 hb1 hx2 HX CA CLv
  go_upto_region 6 with (first
    | (go_at_call 16; (with_reducible refine (CR1.out _ (HX2.out.trans (HY.out.mono HX2.out.size))).mono ?_); rintro o w3 ⟨rfl, h⟩; replace HY := Lib.hid (HY.out.trans (h.mono HY.out.size)); clear h CR1)
    | (go_at_call 16; (with_reducible refine (CR2.out _ (HX2.out.trans (HY.out.mono HX2.out.size))).mono ?_); rintro o w4 ⟨rfl, h⟩; replace HY := Lib.hid (HY.out.trans (h.mono HY.out.size)); clear h)
    | (go_at_call 19; (with_reducible refine (CE.out _ (HX2.out.trans (HY.out.mono HX2.out.size))).mono ?_); rintro o w5 ⟨x2, y2, rfl, hun2, h⟩; have HUN2 := Lib.hid hun2; replace HY := Lib.hid (HY.out.trans (h.mono HY.out.size)); clear h hun2))
  obtain ⟨w6, hw6⟩ : ∃ z, z = w5.alloc (.cells #[.string x2, .string y2] 27) := ⟨_, rfl⟩
  obtain ⟨b2, hb2⟩ : ∃ z, z = w5.heap.size := ⟨_, rfl⟩
  have hx6 : w6.heap[b2]? = some (.cells #[.string x2, .string y2] 27 (0, 0)) := by rw [hw6, hb2]; exact heap_alloc_new w5 _
  have HB2 : Hid (∀ w', Below w6.heap.size w6 w' → w'.cell? ⟨b2, 0, none⟩ = some (.string x2) ∧ w'.cell? ⟨b2, 1, none⟩ = some (.string y2)) := Lib.hid (fun w' hb => by
    have := blk_below hx6 hb (blk_lt hx6)
    exact ⟨cellB this rfl, cellB this rfl⟩)
  have HY6 : Hid (Below w2.heap.size w2 w6) := Lib.hid (by rw [hw6]; exact HY.out.alloc HY.out.size _)
  have HX6 : Hid (Below W.heap.size W w6) := Lib.hid (HX2.out.trans (HY6.out.mono HX2.out.size))
  have HR6 : Hid (Below w6.heap.size w6 w6) := Lib.hid (Below.refl _ _)
  rw [← hw6, ← hb2]
  clear hw6 hb2 hx6 HY CR2 CE
  go_upto_region 8 with fail
  go_cut [55] from 46 to 56 (fun q wx => q = .bool T ∧ Hid (Below w6.heap.size w6 wx))
  case first =>
    by_cases h1 : la = lb
    · subst h1
      have e1 : (la.toList == la.toList) = true := by simp
      by_cases h2 : s = t
      · have e2 : (s.toList == t.toList) = true := by rw [h2]; simp
        have hTT : T = false := by rw [HT.out]; simp [h2]
        clear h2
        go_wp2_with (first
          | (go_at_call 20; (with_reducible refine (CL1.out _ HX6.out).mono ?_); rintro o w7 ⟨rfl, h⟩; have HR7 := Lib.hid h; clear h CL1)
          | (go_at_call 20; (with_reducible refine (CL2.out _ (HX6.out.trans (HR7.out.mono HX6.out.size))).mono ?_); rintro o w8 ⟨rfl, h⟩; have HR8 : Hid (Below w6.heap.size w6 w8) := Lib.hid (HR7.out.trans (h.mono HR7.out.size)); clear h))
        go_meet
        exact ⟨by rw [hTT], HR8⟩
      · have e2 : (s.toList == t.toList) = false := textQ_ne h2
        have e3 : (s.toList != t.toList) = true := textQ_bne h2
        have hTT : T = true := by rw [HT.out]; simp [h2]
        clear h2
        go_wp2_with (first
          | (go_at_call 20; (with_reducible refine (CL1.out _ HX6.out).mono ?_); rintro o w7 ⟨rfl, h⟩; have HR7 := Lib.hid h; clear h CL1)
          | (go_at_call 20; (with_reducible refine (CL2.out _ (HX6.out.trans (HR7.out.mono HX6.out.size))).mono ?_); rintro o w8 ⟨rfl, h⟩; have HR8 : Hid (Below w6.heap.size w6 w8) := Lib.hid (HR7.out.trans (h.mono HR7.out.size)); clear h))
        go_meet
        exact ⟨by rw [hTT], HR8⟩
    · have e1 : (la.toList == lb.toList) = false := textQ_ne h1
      have hTT : T = false := by rw [HT.out, decide_eq_false h1]; rfl
      clear h1
      go_wp2_with (first
        | (go_at_call 20; (with_reducible refine (CL1.out _ HX6.out).mono ?_); rintro o w7 ⟨rfl, h⟩; have HR7 := Lib.hid h; clear h CL1)
        | (go_at_call 20; (with_reducible refine (CL2.out _ (HX6.out.trans (HR7.out.mono HX6.out.size))).mono ?_); rintro o w8 ⟨rfl, h⟩; have HR8 : Hid (Below w6.heap.size w6 w8) := Lib.hid (HR7.out.trans (h.mono HR7.out.size)); clear h))
      go_meet
      exact ⟨by rw [hTT], HR8⟩
  case rest =>
    obtain ⟨rfl, HR9⟩ := hcut
    go_upto_if 55 with fail
    go_cut [18] from 55 to 66 (fun q wx => Hid (Below w6.heap.size w6 wx))
    case first =>
      cases T with
      | true =>
        have hE : ES = 0 := HES.out
        subst hE
        have hu := HUN2.out (by first | rfl | trivial)
        obtain ⟨k0, k1⟩ := HB2.out _ HR9.out
        have CU2 := Lib.hid (CU.out wc x2 y2 (HX6.out.trans (HR9.out.mono HX6.out.size)) hu)
        clear hu
        go_wp2_with (go_at_call 14; (with_reducible refine CU2.out.mono ?_); rintro o wa ⟨rfl, h⟩; have HRA : Hid (Below w6.heap.size w6 wa) := Lib.hid (HR9.out.trans (h.mono HR9.out.size)); clear h)
        go_meet
        exact HRA
      | false =>
        have hE : ES = 60 := HES.out
        subst hE
        go_wp2_with fail
        go_meet
        exact HR9
    case rest =>
      replace hcut := hcut
      have HRB : Hid (Below w6.heap.size w6 wc) := hcut
      clear hcut
      have HXB : Hid (Below W.heap.size W wc) := Lib.hid (HX6.out.trans (HRB.out.mono HX6.out.size))
      have hcase := HNO.out
      rw [← HF.out.2.2.2.2.1, ← HF.out.2.2.2.2.2, ← HF.out.1, ← HF.out.2.1] at hcase
      go_upto_region 14 with fail
      go_cut [78] from 66 to 79 (fun q wx => q = .bool true ∧ wx = wc)
      case first =>
        rcases hcase with h1 | ⟨h1, h2⟩ | ⟨h1, h2, h3⟩
        · have e1 : (eA == 0) = false := beq_eq_false_iff_ne.2 h1
          have e2 : (eA != 0) = true := bne_iff_ne.2 h1
          clear h1
          go_wp2_with fail
          go_meet
          exact ⟨rfl, rfl⟩
        · subst h1
          have e1 : (eB == 0) = false := beq_eq_false_iff_ne.2 h2
          have e2 : (eB != 0) = true := bne_iff_ne.2 h2
          clear h2
          go_wp2_with fail
          go_meet
          exact ⟨rfl, rfl⟩
        · subst h1 h2
          have e1 : ((n : Int) == (m : Int)) = false := by rw [beq_eq_false_iff_ne]; omega
          have e2 : ((n : Int) != (m : Int)) = true := by rw [bne_iff_ne]; omega
          have e3 : ¬ (n : Int) = (m : Int) := by omega
          have e4 : ¬ n = m := h3
          clear h3
          go_wp2_with fail
          go_meet
          exact ⟨rfl, rfl⟩
      case rest =>
        obtain ⟨rfl, hww⟩ := hcut
        subst hww
        go_wp2_with fail
        go_ret
        exact ⟨rfl, HXB.out⟩
set_option maxRecDepth 100000 in
set_option maxHeartbeats 8000000 in
theorem el_none {W : World} {v0 v1 : Value} {A B : List ByteArray} {s t : ByteArray} (ht : Tabs W) (hA : Txts W v0 A) (hB : Txts W v1 B) (hs : s.size ≤ 1048576) (hz : t.size ≤ 1048576) (hno : lvNo A B = false) (heq : A = B ∨ rootR A ≠ rootR B) :
    Calls Tryd.prog 5 #[v0, v1, .string s, .string t] W fun o w' => o = .returned (.bool true) ∧ Below W.heap.size W w' := by
  have CLv : Hid (∀ w, Below W.heap.size W w → Calls Tryd.prog 18 #[v0, v1] w (AnsP 60 w)) := Lib.hid (fun w hb => by
    refine (leaves_ok (ht.below hb) (hA.below hb (Nat.le_refl _)) (hB.below hb (Nat.le_refl _)) hno).mono fun e w' h => ?_
    unfold LvP at h
    rw [if_pos heq] at h
    exact ans_none (by decide) h)
  have HNO := Lib.hid (lvNo_ok hno)
  have HEQ := Lib.hid heq
  clear heq
  have CA := Lib.hid (awake_any ht)
  obtain ⟨la, hla⟩ : ∃ x, x = hleaf s := ⟨_, rfl⟩
  obtain ⟨lb, hlb⟩ : ∃ x, x = hleaf t := ⟨_, rfl⟩
  obtain ⟨T, hT⟩ : ∃ T, T = (decide (la = lb) && decide (s ≠ t)) := ⟨_, rfl⟩
  obtain ⟨ES, hES⟩ : ∃ x : Int, x = if T then 0 else 60 := ⟨_, rfl⟩
  have CE : Hid (∀ w, Below W.heap.size W w → Calls Tryd.prog 19 #[.string s, .string t] w (AnsP ES w)) := Lib.hid (fun w hb => by
    refine (entries_any (ht.below hb) hs hz).mono fun e w' h => ?_
    unfold EnP at h
    by_cases hc : s = t ∨ hleaf s ≠ hleaf t
    · rw [if_pos hc] at h
      have hTf : T = false := by
        rw [hT, hla, hlb]
        rcases hc with h1 | h1
        · rw [show decide (s ≠ t) = false from decide_eq_false (fun h2 => h2 h1), Bool.and_false]
        · rw [decide_eq_false h1]; rfl
      have : ES = 60 := by rw [hES, hTf]; rfl
      rw [this]
      exact ans_none (by decide) h
    · rw [if_neg hc] at h
      have hTf : T = true := by
        rw [hT, hla, hlb, decide_eq_true (Classical.not_not.mp fun h1 => hc (.inr h1)), show decide (s ≠ t) = true from decide_eq_true (fun h1 => hc (.inl h1))]; rfl
      have : ES = 0 := by rw [hES, hTf]; rfl
      rw [this]
      exact ans_pair h)
  have CL1 : Hid (∀ w', Below W.heap.size W w' → Calls Tryd.prog 20 #[.string s] w' fun o z => o = .returned (.string la) ∧ Below w'.heap.size w' z) := Lib.hid (fun w' hb => by rw [hla]; exact dleaf_any s w' (ht.below hb) (by omega))
  have CL2 : Hid (∀ w', Below W.heap.size W w' → Calls Tryd.prog 20 #[.string t] w' fun o z => o = .returned (.string lb) ∧ Below w'.heap.size w' z) := Lib.hid (fun w' hb => by rw [hlb]; exact dleaf_any t w' (ht.below hb) (by omega))
  have CU : Hid (∀ w' x y, Below W.heap.size W w' → UnP x y → Calls Tryd.prog 14 #[.agg #[.string x, .string y]] w' fun o z => o = .returned (.bool true) ∧ Below w'.heap.size w' z) := Lib.hid (fun w' x y hb h => unlike_yes (ht.below hb) h.1 h.2)
  obtain ⟨n, hn⟩ : ∃ n, n = A.length := ⟨_, rfl⟩
  obtain ⟨m, hm⟩ : ∃ n, n = B.length := ⟨_, rfl⟩
  have HTX : Hid (∀ w', Below W.heap.size W w' → Txts w' v0 A ∧ Txts w' v1 B) := Lib.hid (fun w' hb => ⟨hA.below hb (Nat.le_refl _), hB.below hb (Nat.le_refl _)⟩)
  obtain ⟨rA, hrA⟩ : ∃ r, r = rootT A := ⟨_, rfl⟩
  obtain ⟨rB, hrB⟩ : ∃ r, r = rootT B := ⟨_, rfl⟩
  obtain ⟨eA, heA⟩ : ∃ r, r = refusedE A := ⟨_, rfl⟩
  obtain ⟨eB, heB⟩ : ∃ r, r = refusedE B := ⟨_, rfl⟩
  have CR1 : Hid (∀ w', Below W.heap.size W w' → Calls Tryd.prog 16 #[v0] w' fun o z => o = .returned (.tuple #[.string rA, .int .i64 eA]) ∧ Below w'.heap.size w' z) := Lib.hid (fun w' hb => by rw [hrA, heA]; exact Root_any v0 A w' (ht.below hb) (HTX.out w' hb).1)
  have CR2 : Hid (∀ w', Below W.heap.size W w' → Calls Tryd.prog 16 #[v1] w' fun o z => o = .returned (.tuple #[.string rB, .int .i64 eB]) ∧ Below w'.heap.size w' z) := Lib.hid (fun w' hb => by rw [hrB, heB]; exact Root_any v1 B w' (ht.below hb) (HTX.out w' hb).2)
  obtain ⟨pa, ca, rfl⟩ : ∃ p c, v0 = .slice p n c := by obtain ⟨p, c, h, _⟩ := hA; exact ⟨p, c, by rw [h, hn]⟩
  obtain ⟨pb, cb, rfl⟩ : ∃ p c, v1 = .slice p m c := by obtain ⟨p, c, h, _⟩ := hB; exact ⟨p, c, by rw [h, hm]⟩
  have HF : Hid (n = A.length ∧ m = B.length ∧ rA = rootT A ∧ rB = rootT B ∧ eA = refusedE A ∧ eB = refusedE B) := Lib.hid ⟨hn, hm, hrA, hrB, heA, heB⟩
  have HT := Lib.hid hT
  have HES := Lib.hid hES
  clear ht hA hB hs hz hla hlb hT hES hn hm hrA hrB heA heB hno
  go_enter Tryd.func5, Tryd.ntmps5
  go_upto_region 3 with (first
    | (go_at_call 10; (with_reducible refine CA.out.mono ?_); rintro o w0 ⟨rfl, h⟩; have HX := Lib.hid h; clear h)
    | (go_at_call 18; (with_reducible refine (CLv.out _ HX.out).mono ?_); rintro o w1 ⟨x, y, rfl, hun, h⟩; have HUN := Lib.hid hun; replace HX := Lib.hid (HX.out.trans (h.mono HX.out.size)); clear h hun))
  obtain ⟨w2, hw2⟩ : ∃ z, z = w1.alloc (.cells #[.string x, .string y] 27) := ⟨_, rfl⟩
  obtain ⟨b1, hb1⟩ : ∃ z, z = w1.heap.size := ⟨_, rfl⟩
  have hx2 : w2.heap[b1]? = some (.cells #[.string x, .string y] 27 (0, 0)) := by rw [hw2, hb1]; exact heap_alloc_new w1 _
  have HB1 : Hid (∀ w', Below w2.heap.size w2 w' → w'.cell? ⟨b1, 0, none⟩ = some (.string x) ∧ w'.cell? ⟨b1, 1, none⟩ = some (.string y)) := Lib.hid (fun w' hb => by
    have := blk_below hx2 hb (blk_lt hx2)
    exact ⟨cellB this rfl, cellB this rfl⟩)
  have HX2 : Hid (Below W.heap.size W w2) := Lib.hid (by rw [hw2]; exact HX.out.alloc HX.out.size _)
  have HY : Hid (Below w2.heap.size w2 w2) := Lib.hid (Below.refl _ _)
  rw [← hw2, ← hb1]
  clear hw2 hb1 hx2 HX CA CLv
  go_upto_region 6 with (first
    | (go_at_call 16; (with_reducible refine (CR1.out _ (HX2.out.trans (HY.out.mono HX2.out.size))).mono ?_); rintro o w3 ⟨rfl, h⟩; replace HY := Lib.hid (HY.out.trans (h.mono HY.out.size)); clear h CR1)
    | (go_at_call 16; (with_reducible refine (CR2.out _ (HX2.out.trans (HY.out.mono HX2.out.size))).mono ?_); rintro o w4 ⟨rfl, h⟩; replace HY := Lib.hid (HY.out.trans (h.mono HY.out.size)); clear h)
    | (go_at_call 19; (with_reducible refine (CE.out _ (HX2.out.trans (HY.out.mono HX2.out.size))).mono ?_); rintro o w5 ⟨x2, y2, rfl, hun2, h⟩; have HUN2 := Lib.hid hun2; replace HY := Lib.hid (HY.out.trans (h.mono HY.out.size)); clear h hun2))
  obtain ⟨w6, hw6⟩ : ∃ z, z = w5.alloc (.cells #[.string x2, .string y2] 27) := ⟨_, rfl⟩
  obtain ⟨b2, hb2⟩ : ∃ z, z = w5.heap.size := ⟨_, rfl⟩
  have hx6 : w6.heap[b2]? = some (.cells #[.string x2, .string y2] 27 (0, 0)) := by rw [hw6, hb2]; exact heap_alloc_new w5 _
  have HB2 : Hid (∀ w', Below w6.heap.size w6 w' → w'.cell? ⟨b2, 0, none⟩ = some (.string x2) ∧ w'.cell? ⟨b2, 1, none⟩ = some (.string y2)) := Lib.hid (fun w' hb => by
    have := blk_below hx6 hb (blk_lt hx6)
    exact ⟨cellB this rfl, cellB this rfl⟩)
  have HY6 : Hid (Below w2.heap.size w2 w6) := Lib.hid (by rw [hw6]; exact HY.out.alloc HY.out.size _)
  have HX6 : Hid (Below W.heap.size W w6) := Lib.hid (HX2.out.trans (HY6.out.mono HX2.out.size))
  have HR6 : Hid (Below w6.heap.size w6 w6) := Lib.hid (Below.refl _ _)
  rw [← hw6, ← hb2]
  clear hw6 hb2 hx6 HY CR2 CE
  go_upto_region 8 with fail
  go_cut [55] from 46 to 56 (fun q wx => q = .bool T ∧ Hid (Below w6.heap.size w6 wx))
  case first =>
    by_cases h1 : la = lb
    · subst h1
      have e1 : (la.toList == la.toList) = true := by simp
      by_cases h2 : s = t
      · have e2 : (s.toList == t.toList) = true := by rw [h2]; simp
        have hTT : T = false := by rw [HT.out]; simp [h2]
        clear h2
        go_wp2_with (first
          | (go_at_call 20; (with_reducible refine (CL1.out _ HX6.out).mono ?_); rintro o w7 ⟨rfl, h⟩; have HR7 := Lib.hid h; clear h CL1)
          | (go_at_call 20; (with_reducible refine (CL2.out _ (HX6.out.trans (HR7.out.mono HX6.out.size))).mono ?_); rintro o w8 ⟨rfl, h⟩; have HR8 : Hid (Below w6.heap.size w6 w8) := Lib.hid (HR7.out.trans (h.mono HR7.out.size)); clear h))
        go_meet
        exact ⟨by rw [hTT], HR8⟩
      · have e2 : (s.toList == t.toList) = false := textQ_ne h2
        have e3 : (s.toList != t.toList) = true := textQ_bne h2
        have hTT : T = true := by rw [HT.out]; simp [h2]
        clear h2
        go_wp2_with (first
          | (go_at_call 20; (with_reducible refine (CL1.out _ HX6.out).mono ?_); rintro o w7 ⟨rfl, h⟩; have HR7 := Lib.hid h; clear h CL1)
          | (go_at_call 20; (with_reducible refine (CL2.out _ (HX6.out.trans (HR7.out.mono HX6.out.size))).mono ?_); rintro o w8 ⟨rfl, h⟩; have HR8 : Hid (Below w6.heap.size w6 w8) := Lib.hid (HR7.out.trans (h.mono HR7.out.size)); clear h))
        go_meet
        exact ⟨by rw [hTT], HR8⟩
    · have e1 : (la.toList == lb.toList) = false := textQ_ne h1
      have hTT : T = false := by rw [HT.out, decide_eq_false h1]; rfl
      clear h1
      go_wp2_with (first
        | (go_at_call 20; (with_reducible refine (CL1.out _ HX6.out).mono ?_); rintro o w7 ⟨rfl, h⟩; have HR7 := Lib.hid h; clear h CL1)
        | (go_at_call 20; (with_reducible refine (CL2.out _ (HX6.out.trans (HR7.out.mono HX6.out.size))).mono ?_); rintro o w8 ⟨rfl, h⟩; have HR8 : Hid (Below w6.heap.size w6 w8) := Lib.hid (HR7.out.trans (h.mono HR7.out.size)); clear h))
      go_meet
      exact ⟨by rw [hTT], HR8⟩
  case rest =>
    obtain ⟨rfl, HR9⟩ := hcut
    go_upto_if 55 with fail
    go_cut [18] from 55 to 66 (fun q wx => Hid (Below w6.heap.size w6 wx))
    case first =>
      cases T with
      | true =>
        have hE : ES = 0 := HES.out
        subst hE
        have hu := HUN2.out (by first | rfl | trivial)
        obtain ⟨k0, k1⟩ := HB2.out _ HR9.out
        have CU2 := Lib.hid (CU.out wc x2 y2 (HX6.out.trans (HR9.out.mono HX6.out.size)) hu)
        clear hu
        go_wp2_with (go_at_call 14; (with_reducible refine CU2.out.mono ?_); rintro o wa ⟨rfl, h⟩; have HRA : Hid (Below w6.heap.size w6 wa) := Lib.hid (HR9.out.trans (h.mono HR9.out.size)); clear h)
        go_meet
        exact HRA
      | false =>
        have hE : ES = 60 := HES.out
        subst hE
        go_wp2_with fail
        go_meet
        exact HR9
    case rest =>
      replace hcut := hcut
      have HRB : Hid (Below w6.heap.size w6 wc) := hcut
      clear hcut
      have HXB : Hid (Below W.heap.size W wc) := Lib.hid (HX6.out.trans (HRB.out.mono HX6.out.size))
      have hf := HF.out
      have hcase := HNO.out
      have heA : eA = 0 := hf.2.2.2.2.1.trans hcase.2.2.2.2.1
      have heB : eB = 0 := hf.2.2.2.2.2.trans hcase.2.2.2.2.2
      have hnm : m = n := by rw [hf.1, hf.2.1]; exact hcase.1.symm
      subst heA heB
      subst hnm
      have hn4 : m ≤ 4096 := by have := hcase.2.1; omega
      clear hf hcase
      have e0 : ((m : Int) == (m : Int)) = true := by simp
      have HI0 : Hid (true = decide (A.take 0 = B.take 0) ∧ Below w6.heap.size w6 wc) := Lib.hid ⟨by simp, HRB.out⟩
      go_upto_region 18 with fail
      go_loopw [19, 20] (fun al k wr => ∃ (i : Nat) (d : Bool), k = .int .i64 (i : Int) ∧ al = .bool d ∧ i ≤ m ∧ Hid (d = decide (A.take i = B.take i) ∧ Below w6.heap.size w6 wr)) (fun _ k _ => m - (intOf k).toNat)
      case atStart => exact ⟨0, true, rfl, rfl, Nat.zero_le _, HI0⟩
      case round =>
        clear HI0
        obtain ⟨i, d, rfl, rfl, hi, HI⟩ := hrel
        by_cases hlt : i < m
        · have hli : (i : Int) < (m : Int) := by omega
          have hi0 : (0 : Int) ≤ (i : Int) := by omega
          have hiw : IntKind.i64.wrap (i : Int) = (i : Int) := IntWalk.i64_in _ (by omega)
          have hla := HF.out.1
          have hlb := HF.out.2.1
          obtain ⟨u, hu⟩ : ∃ s, A[i]? = some s := ⟨A[i]'(by omega), List.getElem?_eq_getElem _⟩
          obtain ⟨v, hv⟩ : ∃ s, B[i]? = some s := ⟨B[i]'(by omega), List.getElem?_eq_getElem _⟩
          obtain ⟨ad, rfl, hac⟩ := txts_cellE (HTX.out W (Below.refl _ _)).1 hu
          obtain ⟨bd, rfl, hbc⟩ := txts_cellE (HTX.out W (Below.refl _ _)).2 hv
          have hWr : Below W.heap.size W wr := HX6.out.trans (HI.out.2.mono HX6.out.size)
          have c0 := hac wr.drew hWr.drew
          have c1 := hbc wr.drew hWr.drew
          have htk : decide (A.take (i + 1) = B.take (i + 1)) = (d && decide (u = v)) := by
            rw [List.take_add_one, List.take_add_one, hu, hv, HI.out.1]
            by_cases h1 : A.take i = B.take i
            · by_cases h2 : u = v
              · rw [decide_eq_true h1, decide_eq_true h2, h1, h2]; simp
              · rw [decide_eq_true h1, decide_eq_false h2, h1]; simp [h2]
            · have : ¬ (A.take i ++ (some u).toList = B.take i ++ (some v).toList) := fun h => h1 (List.append_inj h (by rw [List.length_take, List.length_take]; omega)).1
              rw [decide_eq_false h1, decide_eq_false this]; rfl
          have HTK := Lib.hid htk
          have HBD : Hid (Below w6.heap.size w6 wr.drew) := Lib.hid HI.out.2.drew
          have HLT := Lib.hid hlt
          clear hlt hla hlb hu hv hac hbc hWr htk
          go_upto_region 20 with fail
          cases d with
          | true =>
            by_cases huv : u = v
            · subst huv
              have e1 : (u.toList == u.toList) = true := by simp
              have HNX : Hid (true = decide (A.take (i + 1) = B.take (i + 1)) ∧ Below w6.heap.size w6 wr.drew) := Lib.hid ⟨by rw [HTK.out]; simp, HBD.out⟩
              go_region_held3 (fun w' => w'.cell? (ad.add i) = some (.string u) ∧ w'.cell? (bd.add i) = some (.string u)) (exact ⟨c0, c1⟩) (fail)
              all_goals
                go_wp2_with fail
                exact ⟨⟨i + 1, true, by simp, rfl, HLT.out, HNX⟩, by show m - ((i : Int) + 1).toNat < m - (i : Int).toNat; have := HLT.out; omega⟩
            · have e1 : (u.toList == v.toList) = false := textQ_ne huv
              have HNX : Hid (false = decide (A.take (i + 1) = B.take (i + 1)) ∧ Below w6.heap.size w6 wr.drew) := Lib.hid ⟨by rw [HTK.out]; simp [huv], HBD.out⟩
              clear huv
              go_region_held3 (fun w' => w'.cell? (ad.add i) = some (.string u) ∧ w'.cell? (bd.add i) = some (.string v)) (exact ⟨c0, c1⟩) (fail)
              all_goals
                go_wp2_with fail
                exact ⟨⟨i + 1, false, by simp, rfl, HLT.out, HNX⟩, by show m - ((i : Int) + 1).toNat < m - (i : Int).toNat; have := HLT.out; omega⟩
          | false =>
            have HNX : Hid (false = decide (A.take (i + 1) = B.take (i + 1)) ∧ Below w6.heap.size w6 wr.drew) := Lib.hid ⟨by rw [HTK.out]; rfl, HBD.out⟩
            refine wp_region_noPanic ?_
            refine wp_region_held_drew (S := fun _ => True) (by kernel_rfl) (trivial) (fun hHeld => ?_)
            refine wpAnyH_take (i := 0) (oi := ⟨_, _, _, _, _, _⟩) (v := ?_) rfl (by kernel_rfl) (by kernel_rfl) (by kernel_rfl) (fun _ _ _ h => h) (Or.inl ⟨by rfl, ?_⟩) hHeld ?_
            rotate_left
            · ((intro w hSw; (try dsimp only at hSw); go_simp) <;> with_reducible rfl)
            try simp only [Act.put, List.setIfInBounds_toArray, List.set_cons_zero, List.set_cons_succ]
            refine wpAnyH_take (i := 1) (oi := ⟨_, _, _, _, _, _⟩) (v := ?_) rfl (by kernel_rfl) (by kernel_rfl) (by kernel_rfl) (fun _ _ _ h => h) (Or.inl ⟨by rfl, ?_⟩) hHeld ?_
            rotate_left
            · ((intro w hSw; (try dsimp only at hSw); go_simp) <;> with_reducible rfl)
            try simp only [Act.put, List.setIfInBounds_toArray, List.set_cons_zero, List.set_cons_succ]
            refine wpAnyH_take (i := 2) (oi := ⟨_, _, _, _, _, _⟩) (v := undef) rfl (by kernel_rfl) (by kernel_rfl) (by kernel_rfl) (fun _ _ _ h => h) (Or.inr ⟨by rfl, rfl⟩) hHeld ?_
            try simp only [Act.put, List.setIfInBounds_toArray, List.set_cons_zero, List.set_cons_succ]
            refine wpAnyH_take (i := 3) (oi := ⟨_, _, _, _, _, _⟩) (v := undef) rfl (by kernel_rfl) (by kernel_rfl) (by kernel_rfl) (fun _ _ _ h => h) (Or.inr ⟨by rfl, rfl⟩) hHeld ?_
            try simp only [Act.put, List.setIfInBounds_toArray, List.set_cons_zero, List.set_cons_succ]
            refine wpAnyH_take (i := 4) (oi := ⟨_, _, _, _, _, _⟩) (v := undef) rfl (by kernel_rfl) (by kernel_rfl) (by kernel_rfl) (fun _ _ _ h => h) (Or.inr ⟨by rfl, rfl⟩) hHeld ?_
            try simp only [Act.put, List.setIfInBounds_toArray, List.set_cons_zero, List.set_cons_succ]
            refine wpAnyH_take (i := 5) (oi := ⟨_, _, _, _, _, _⟩) (v := undef) rfl (by kernel_rfl) (by kernel_rfl) (by kernel_rfl) (fun _ _ _ h => h) (Or.inr ⟨by rfl, rfl⟩) hHeld ?_
            try simp only [Act.put, List.setIfInBounds_toArray, List.set_cons_zero, List.set_cons_succ]
            refine wpAnyH_take (i := 6) (oi := ⟨_, _, _, _, _, _⟩) (v := undef) rfl (by kernel_rfl) (by kernel_rfl) (by kernel_rfl) (fun _ _ _ h => h) (Or.inr ⟨by rfl, rfl⟩) hHeld ?_
            try simp only [Act.put, List.setIfInBounds_toArray, List.set_cons_zero, List.set_cons_succ]
            refine wpAnyH_take (i := 7) (oi := ⟨_, _, _, _, _, _⟩) (v := undef) rfl (by kernel_rfl) (by kernel_rfl) (by kernel_rfl) (fun _ _ _ h => h) (Or.inr ⟨by rfl, rfl⟩) hHeld ?_
            try simp only [Act.put, List.setIfInBounds_toArray, List.set_cons_zero, List.set_cons_succ]
            refine wpAnyH_take (i := 8) (oi := ⟨_, _, _, _, _, _⟩) (v := undef) rfl (by kernel_rfl) (by kernel_rfl) (by kernel_rfl) (fun _ _ _ h => h) (Or.inr ⟨by rfl, rfl⟩) hHeld ?_
            try simp only [Act.put, List.setIfInBounds_toArray, List.set_cons_zero, List.set_cons_succ]
            refine wpAnyH_take (i := 9) (oi := ⟨_, _, _, _, _, _⟩) (v := undef) rfl (by kernel_rfl) (by kernel_rfl) (by kernel_rfl) (fun _ _ _ h => h) (Or.inr ⟨by rfl, rfl⟩) hHeld ?_
            try simp only [Act.put, List.setIfInBounds_toArray, List.set_cons_zero, List.set_cons_succ]
            refine wpAnyH_take (i := 10) (oi := ⟨_, _, _, _, _, _⟩) (v := undef) rfl (by kernel_rfl) (by kernel_rfl) (by kernel_rfl) (fun _ _ _ h => h) (Or.inr ⟨by rfl, rfl⟩) hHeld ?_
            try simp only [Act.put, List.setIfInBounds_toArray, List.set_cons_zero, List.set_cons_succ]
            refine wpAnyH_take (i := 11) (oi := ⟨_, _, _, _, _, _⟩) (v := ?_) rfl (by kernel_rfl) (by kernel_rfl) (by kernel_rfl) (fun _ _ _ h => h) (Or.inl ⟨by rfl, ?_⟩) hHeld ?_
            rotate_left
            · ((intro w hSw; (try dsimp only at hSw); go_simp) <;> with_reducible rfl)
            try simp only [Act.put, List.setIfInBounds_toArray, List.set_cons_zero, List.set_cons_succ]
            refine wpAnyH_take (i := 12) (oi := ⟨_, _, _, _, _, _⟩) (v := ?_) rfl (by kernel_rfl) (by kernel_rfl) (by kernel_rfl) (fun _ _ _ h => h) (Or.inl ⟨by rfl, ?_⟩) hHeld ?_
            rotate_left
            · ((intro w hSw; (try dsimp only at hSw); go_simp) <;> with_reducible rfl)
            try simp only [Act.put, List.setIfInBounds_toArray, List.set_cons_zero, List.set_cons_succ]
            refine wpAnyH_done (by kernel_rfl) ?_ _
            refine NoPanic.normal ?_
            go_wp2_with fail
            exact ⟨⟨i + 1, false, by simp, rfl, HLT.out, HNX⟩, by show m - ((i : Int) + 1).toNat < m - (i : Int).toNat; have := HLT.out; omega⟩
        · obtain rfl : i = m := by omega
          have hli : ¬ (i : Int) < (i : Int) := by omega
          have hd : d = decide (A = B) := by
            have := HI.out.1
            rwa [List.take_of_length_le (by have := HF.out.1; omega), List.take_of_length_le (by have := HF.out.2.1; omega)] at this
          have HD := Lib.hid hd
          have HXR : Hid (Below W.heap.size W wr) := Lib.hid (HX6.out.trans (HI.out.2.mono HX6.out.size))
          clear hlt hd
          go_upto_region 21 with fail
          go_cut [104] from 99 to 105 (fun q wx => q = .bool true ∧ wx = wr)
          case first =>
            cases d with
            | true =>
              go_wp2_with fail
              go_meet
              exact ⟨rfl, rfl⟩
            | false =>
              have hne : rA ≠ rB := by
                rw [HF.out.2.2.1, HF.out.2.2.2.1, rootT_R HNO.out.2.2.1 HNO.out.2.1, rootT_R HNO.out.2.2.2.1 (by have := HNO.out.1; have := HNO.out.2.1; omega)]
                rcases HEQ.out with h | h
                · rw [decide_eq_true h] at HD; exact nomatch HD.out
                · exact h
              have e1 : (rA.toList == rB.toList) = false := textQ_ne hne
              have e2 : (rA.toList != rB.toList) = true := textQ_bne hne
              clear hne
              go_wp2_with fail
              go_meet
              exact ⟨rfl, rfl⟩
          case rest =>
            obtain ⟨rfl, hww⟩ := hcut
            subst hww
            go_wp2_with fail
            go_ret
            exact ⟨rfl, HXR.out⟩
set_option maxRecDepth 100000 in
set_option maxHeartbeats 8000000 in
theorem el_pair {W : World} {v0 v1 : Value} {A B : List ByteArray} {s t : ByteArray} (ht : Tabs W) (hA : Txts W v0 A) (hB : Txts W v1 B) (hs : s.size ≤ 1048576) (hz : t.size ≤ 1048576) (hno : lvNo A B = false) (heq : A ≠ B ∧ rootR A = rootR B) :
    Calls Tryd.prog 5 #[v0, v1, .string s, .string t] W fun o w' => o = .returned (.bool true) ∧ Below W.heap.size W w' := by
  have CLv : Hid (∀ w, Below W.heap.size W w → Calls Tryd.prog 18 #[v0, v1] w (AnsP 0 w)) := Lib.hid (fun w hb => by
    refine (leaves_ok (ht.below hb) (hA.below hb (Nat.le_refl _)) (hB.below hb (Nat.le_refl _)) hno).mono fun e w' h => ?_
    unfold LvP at h
    rw [if_neg (by rintro (h1 | h1)
                   · exact heq.1 h1
                   · exact h1 heq.2)] at h
    exact ans_pair h)
  have HNO := Lib.hid (lvNo_ok hno)
  have HEQ := Lib.hid heq
  clear heq
  have CA := Lib.hid (awake_any ht)
  obtain ⟨la, hla⟩ : ∃ x, x = hleaf s := ⟨_, rfl⟩
  obtain ⟨lb, hlb⟩ : ∃ x, x = hleaf t := ⟨_, rfl⟩
  obtain ⟨T, hT⟩ : ∃ T, T = (decide (la = lb) && decide (s ≠ t)) := ⟨_, rfl⟩
  obtain ⟨ES, hES⟩ : ∃ x : Int, x = if T then 0 else 60 := ⟨_, rfl⟩
  have CE : Hid (∀ w, Below W.heap.size W w → Calls Tryd.prog 19 #[.string s, .string t] w (AnsP ES w)) := Lib.hid (fun w hb => by
    refine (entries_any (ht.below hb) hs hz).mono fun e w' h => ?_
    unfold EnP at h
    by_cases hc : s = t ∨ hleaf s ≠ hleaf t
    · rw [if_pos hc] at h
      have hTf : T = false := by
        rw [hT, hla, hlb]
        rcases hc with h1 | h1
        · rw [show decide (s ≠ t) = false from decide_eq_false (fun h2 => h2 h1), Bool.and_false]
        · rw [decide_eq_false h1]; rfl
      have : ES = 60 := by rw [hES, hTf]; rfl
      rw [this]
      exact ans_none (by decide) h
    · rw [if_neg hc] at h
      have hTf : T = true := by
        rw [hT, hla, hlb, decide_eq_true (Classical.not_not.mp fun h1 => hc (.inr h1)), show decide (s ≠ t) = true from decide_eq_true (fun h1 => hc (.inl h1))]; rfl
      have : ES = 0 := by rw [hES, hTf]; rfl
      rw [this]
      exact ans_pair h)
  have CL1 : Hid (∀ w', Below W.heap.size W w' → Calls Tryd.prog 20 #[.string s] w' fun o z => o = .returned (.string la) ∧ Below w'.heap.size w' z) := Lib.hid (fun w' hb => by rw [hla]; exact dleaf_any s w' (ht.below hb) (by omega))
  have CL2 : Hid (∀ w', Below W.heap.size W w' → Calls Tryd.prog 20 #[.string t] w' fun o z => o = .returned (.string lb) ∧ Below w'.heap.size w' z) := Lib.hid (fun w' hb => by rw [hlb]; exact dleaf_any t w' (ht.below hb) (by omega))
  have CU : Hid (∀ w' x y, Below W.heap.size W w' → UnP x y → Calls Tryd.prog 14 #[.agg #[.string x, .string y]] w' fun o z => o = .returned (.bool true) ∧ Below w'.heap.size w' z) := Lib.hid (fun w' x y hb h => unlike_yes (ht.below hb) h.1 h.2)
  obtain ⟨n, hn⟩ : ∃ n, n = A.length := ⟨_, rfl⟩
  obtain ⟨m, hm⟩ : ∃ n, n = B.length := ⟨_, rfl⟩
  have HTX : Hid (∀ w', Below W.heap.size W w' → Txts w' v0 A ∧ Txts w' v1 B) := Lib.hid (fun w' hb => ⟨hA.below hb (Nat.le_refl _), hB.below hb (Nat.le_refl _)⟩)
  obtain ⟨rA, hrA⟩ : ∃ r, r = rootT A := ⟨_, rfl⟩
  obtain ⟨rB, hrB⟩ : ∃ r, r = rootT B := ⟨_, rfl⟩
  obtain ⟨eA, heA⟩ : ∃ r, r = refusedE A := ⟨_, rfl⟩
  obtain ⟨eB, heB⟩ : ∃ r, r = refusedE B := ⟨_, rfl⟩
  have CR1 : Hid (∀ w', Below W.heap.size W w' → Calls Tryd.prog 16 #[v0] w' fun o z => o = .returned (.tuple #[.string rA, .int .i64 eA]) ∧ Below w'.heap.size w' z) := Lib.hid (fun w' hb => by rw [hrA, heA]; exact Root_any v0 A w' (ht.below hb) (HTX.out w' hb).1)
  have CR2 : Hid (∀ w', Below W.heap.size W w' → Calls Tryd.prog 16 #[v1] w' fun o z => o = .returned (.tuple #[.string rB, .int .i64 eB]) ∧ Below w'.heap.size w' z) := Lib.hid (fun w' hb => by rw [hrB, heB]; exact Root_any v1 B w' (ht.below hb) (HTX.out w' hb).2)
  obtain ⟨pa, ca, rfl⟩ : ∃ p c, v0 = .slice p n c := by obtain ⟨p, c, h, _⟩ := hA; exact ⟨p, c, by rw [h, hn]⟩
  obtain ⟨pb, cb, rfl⟩ : ∃ p c, v1 = .slice p m c := by obtain ⟨p, c, h, _⟩ := hB; exact ⟨p, c, by rw [h, hm]⟩
  have HF : Hid (n = A.length ∧ m = B.length ∧ rA = rootT A ∧ rB = rootT B ∧ eA = refusedE A ∧ eB = refusedE B) := Lib.hid ⟨hn, hm, hrA, hrB, heA, heB⟩
  have HT := Lib.hid hT
  have HES := Lib.hid hES
  clear ht hA hB hs hz hla hlb hT hES hn hm hrA hrB heA heB hno
  go_enter Tryd.func5, Tryd.ntmps5
  go_upto_region 3 with (first
    | (go_at_call 10; (with_reducible refine CA.out.mono ?_); rintro o w0 ⟨rfl, h⟩; have HX := Lib.hid h; clear h)
    | (go_at_call 18; (with_reducible refine (CLv.out _ HX.out).mono ?_); rintro o w1 ⟨x, y, rfl, hun, h⟩; have HUN := Lib.hid hun; replace HX := Lib.hid (HX.out.trans (h.mono HX.out.size)); clear h hun))
  obtain ⟨w2, hw2⟩ : ∃ z, z = w1.alloc (.cells #[.string x, .string y] 27) := ⟨_, rfl⟩
  obtain ⟨b1, hb1⟩ : ∃ z, z = w1.heap.size := ⟨_, rfl⟩
  have hx2 : w2.heap[b1]? = some (.cells #[.string x, .string y] 27 (0, 0)) := by rw [hw2, hb1]; exact heap_alloc_new w1 _
  have HB1 : Hid (∀ w', Below w2.heap.size w2 w' → w'.cell? ⟨b1, 0, none⟩ = some (.string x) ∧ w'.cell? ⟨b1, 1, none⟩ = some (.string y)) := Lib.hid (fun w' hb => by
    have := blk_below hx2 hb (blk_lt hx2)
    exact ⟨cellB this rfl, cellB this rfl⟩)
  have HX2 : Hid (Below W.heap.size W w2) := Lib.hid (by rw [hw2]; exact HX.out.alloc HX.out.size _)
  have HY : Hid (Below w2.heap.size w2 w2) := Lib.hid (Below.refl _ _)
  rw [← hw2, ← hb1]
  clear hw2 hb1 hx2 HX CA CLv
  go_upto_region 6 with (first
    | (go_at_call 16; (with_reducible refine (CR1.out _ (HX2.out.trans (HY.out.mono HX2.out.size))).mono ?_); rintro o w3 ⟨rfl, h⟩; replace HY := Lib.hid (HY.out.trans (h.mono HY.out.size)); clear h CR1)
    | (go_at_call 16; (with_reducible refine (CR2.out _ (HX2.out.trans (HY.out.mono HX2.out.size))).mono ?_); rintro o w4 ⟨rfl, h⟩; replace HY := Lib.hid (HY.out.trans (h.mono HY.out.size)); clear h)
    | (go_at_call 19; (with_reducible refine (CE.out _ (HX2.out.trans (HY.out.mono HX2.out.size))).mono ?_); rintro o w5 ⟨x2, y2, rfl, hun2, h⟩; have HUN2 := Lib.hid hun2; replace HY := Lib.hid (HY.out.trans (h.mono HY.out.size)); clear h hun2))
  obtain ⟨w6, hw6⟩ : ∃ z, z = w5.alloc (.cells #[.string x2, .string y2] 27) := ⟨_, rfl⟩
  obtain ⟨b2, hb2⟩ : ∃ z, z = w5.heap.size := ⟨_, rfl⟩
  have hx6 : w6.heap[b2]? = some (.cells #[.string x2, .string y2] 27 (0, 0)) := by rw [hw6, hb2]; exact heap_alloc_new w5 _
  have HB2 : Hid (∀ w', Below w6.heap.size w6 w' → w'.cell? ⟨b2, 0, none⟩ = some (.string x2) ∧ w'.cell? ⟨b2, 1, none⟩ = some (.string y2)) := Lib.hid (fun w' hb => by
    have := blk_below hx6 hb (blk_lt hx6)
    exact ⟨cellB this rfl, cellB this rfl⟩)
  have HY6 : Hid (Below w2.heap.size w2 w6) := Lib.hid (by rw [hw6]; exact HY.out.alloc HY.out.size _)
  have HX6 : Hid (Below W.heap.size W w6) := Lib.hid (HX2.out.trans (HY6.out.mono HX2.out.size))
  have HR6 : Hid (Below w6.heap.size w6 w6) := Lib.hid (Below.refl _ _)
  rw [← hw6, ← hb2]
  clear hw6 hb2 hx6 HY CR2 CE
  go_upto_region 8 with fail
  go_cut [55] from 46 to 56 (fun q wx => q = .bool T ∧ Hid (Below w6.heap.size w6 wx))
  case first =>
    by_cases h1 : la = lb
    · subst h1
      have e1 : (la.toList == la.toList) = true := by simp
      by_cases h2 : s = t
      · have e2 : (s.toList == t.toList) = true := by rw [h2]; simp
        have hTT : T = false := by rw [HT.out]; simp [h2]
        clear h2
        go_wp2_with (first
          | (go_at_call 20; (with_reducible refine (CL1.out _ HX6.out).mono ?_); rintro o w7 ⟨rfl, h⟩; have HR7 := Lib.hid h; clear h CL1)
          | (go_at_call 20; (with_reducible refine (CL2.out _ (HX6.out.trans (HR7.out.mono HX6.out.size))).mono ?_); rintro o w8 ⟨rfl, h⟩; have HR8 : Hid (Below w6.heap.size w6 w8) := Lib.hid (HR7.out.trans (h.mono HR7.out.size)); clear h))
        go_meet
        exact ⟨by rw [hTT], HR8⟩
      · have e2 : (s.toList == t.toList) = false := textQ_ne h2
        have e3 : (s.toList != t.toList) = true := textQ_bne h2
        have hTT : T = true := by rw [HT.out]; simp [h2]
        clear h2
        go_wp2_with (first
          | (go_at_call 20; (with_reducible refine (CL1.out _ HX6.out).mono ?_); rintro o w7 ⟨rfl, h⟩; have HR7 := Lib.hid h; clear h CL1)
          | (go_at_call 20; (with_reducible refine (CL2.out _ (HX6.out.trans (HR7.out.mono HX6.out.size))).mono ?_); rintro o w8 ⟨rfl, h⟩; have HR8 : Hid (Below w6.heap.size w6 w8) := Lib.hid (HR7.out.trans (h.mono HR7.out.size)); clear h))
        go_meet
        exact ⟨by rw [hTT], HR8⟩
    · have e1 : (la.toList == lb.toList) = false := textQ_ne h1
      have hTT : T = false := by rw [HT.out, decide_eq_false h1]; rfl
      clear h1
      go_wp2_with (first
        | (go_at_call 20; (with_reducible refine (CL1.out _ HX6.out).mono ?_); rintro o w7 ⟨rfl, h⟩; have HR7 := Lib.hid h; clear h CL1)
        | (go_at_call 20; (with_reducible refine (CL2.out _ (HX6.out.trans (HR7.out.mono HX6.out.size))).mono ?_); rintro o w8 ⟨rfl, h⟩; have HR8 : Hid (Below w6.heap.size w6 w8) := Lib.hid (HR7.out.trans (h.mono HR7.out.size)); clear h))
      go_meet
      exact ⟨by rw [hTT], HR8⟩
  case rest =>
    obtain ⟨rfl, HR9⟩ := hcut
    go_upto_if 55 with fail
    go_cut [18] from 55 to 66 (fun q wx => Hid (Below w6.heap.size w6 wx))
    case first =>
      cases T with
      | true =>
        have hE : ES = 0 := HES.out
        subst hE
        have hu := HUN2.out (by first | rfl | trivial)
        obtain ⟨k0, k1⟩ := HB2.out _ HR9.out
        have CU2 := Lib.hid (CU.out wc x2 y2 (HX6.out.trans (HR9.out.mono HX6.out.size)) hu)
        clear hu
        go_wp2_with (go_at_call 14; (with_reducible refine CU2.out.mono ?_); rintro o wa ⟨rfl, h⟩; have HRA : Hid (Below w6.heap.size w6 wa) := Lib.hid (HR9.out.trans (h.mono HR9.out.size)); clear h)
        go_meet
        exact HRA
      | false =>
        have hE : ES = 60 := HES.out
        subst hE
        go_wp2_with fail
        go_meet
        exact HR9
    case rest =>
      replace hcut := hcut
      have HRB : Hid (Below w6.heap.size w6 wc) := hcut
      clear hcut
      have HXB : Hid (Below W.heap.size W wc) := Lib.hid (HX6.out.trans (HRB.out.mono HX6.out.size))
      have hf := HF.out
      have hcase := HNO.out
      have heA : eA = 0 := hf.2.2.2.2.1.trans hcase.2.2.2.2.1
      have heB : eB = 0 := hf.2.2.2.2.2.trans hcase.2.2.2.2.2
      have hnm : m = n := by rw [hf.1, hf.2.1]; exact hcase.1.symm
      subst heA heB
      subst hnm
      have hn4 : m ≤ 4096 := by have := hcase.2.1; omega
      clear hf hcase
      have e0 : ((m : Int) == (m : Int)) = true := by simp
      have HI0 : Hid (true = decide (A.take 0 = B.take 0) ∧ Below w6.heap.size w6 wc) := Lib.hid ⟨by simp, HRB.out⟩
      go_upto_region 18 with fail
      go_loopw [19, 20] (fun al k wr => ∃ (i : Nat) (d : Bool), k = .int .i64 (i : Int) ∧ al = .bool d ∧ i ≤ m ∧ Hid (d = decide (A.take i = B.take i) ∧ Below w6.heap.size w6 wr)) (fun _ k _ => m - (intOf k).toNat)
      case atStart => exact ⟨0, true, rfl, rfl, Nat.zero_le _, HI0⟩
      case round =>
        clear HI0
        obtain ⟨i, d, rfl, rfl, hi, HI⟩ := hrel
        by_cases hlt : i < m
        · have hli : (i : Int) < (m : Int) := by omega
          have hi0 : (0 : Int) ≤ (i : Int) := by omega
          have hiw : IntKind.i64.wrap (i : Int) = (i : Int) := IntWalk.i64_in _ (by omega)
          have hla := HF.out.1
          have hlb := HF.out.2.1
          obtain ⟨u, hu⟩ : ∃ s, A[i]? = some s := ⟨A[i]'(by omega), List.getElem?_eq_getElem _⟩
          obtain ⟨v, hv⟩ : ∃ s, B[i]? = some s := ⟨B[i]'(by omega), List.getElem?_eq_getElem _⟩
          obtain ⟨ad, rfl, hac⟩ := txts_cellE (HTX.out W (Below.refl _ _)).1 hu
          obtain ⟨bd, rfl, hbc⟩ := txts_cellE (HTX.out W (Below.refl _ _)).2 hv
          have hWr : Below W.heap.size W wr := HX6.out.trans (HI.out.2.mono HX6.out.size)
          have c0 := hac wr.drew hWr.drew
          have c1 := hbc wr.drew hWr.drew
          have htk : decide (A.take (i + 1) = B.take (i + 1)) = (d && decide (u = v)) := by
            rw [List.take_add_one, List.take_add_one, hu, hv, HI.out.1]
            by_cases h1 : A.take i = B.take i
            · by_cases h2 : u = v
              · rw [decide_eq_true h1, decide_eq_true h2, h1, h2]; simp
              · rw [decide_eq_true h1, decide_eq_false h2, h1]; simp [h2]
            · have : ¬ (A.take i ++ (some u).toList = B.take i ++ (some v).toList) := fun h => h1 (List.append_inj h (by rw [List.length_take, List.length_take]; omega)).1
              rw [decide_eq_false h1, decide_eq_false this]; rfl
          have HTK := Lib.hid htk
          have HBD : Hid (Below w6.heap.size w6 wr.drew) := Lib.hid HI.out.2.drew
          have HLT := Lib.hid hlt
          clear hlt hla hlb hu hv hac hbc hWr htk
          go_upto_region 20 with fail
          cases d with
          | true =>
            by_cases huv : u = v
            · subst huv
              have e1 : (u.toList == u.toList) = true := by simp
              have HNX : Hid (true = decide (A.take (i + 1) = B.take (i + 1)) ∧ Below w6.heap.size w6 wr.drew) := Lib.hid ⟨by rw [HTK.out]; simp, HBD.out⟩
              go_region_held3 (fun w' => w'.cell? (ad.add i) = some (.string u) ∧ w'.cell? (bd.add i) = some (.string u)) (exact ⟨c0, c1⟩) (fail)
              all_goals
                go_wp2_with fail
                exact ⟨⟨i + 1, true, by simp, rfl, HLT.out, HNX⟩, by show m - ((i : Int) + 1).toNat < m - (i : Int).toNat; have := HLT.out; omega⟩
            · have e1 : (u.toList == v.toList) = false := textQ_ne huv
              have HNX : Hid (false = decide (A.take (i + 1) = B.take (i + 1)) ∧ Below w6.heap.size w6 wr.drew) := Lib.hid ⟨by rw [HTK.out]; simp [huv], HBD.out⟩
              clear huv
              go_region_held3 (fun w' => w'.cell? (ad.add i) = some (.string u) ∧ w'.cell? (bd.add i) = some (.string v)) (exact ⟨c0, c1⟩) (fail)
              all_goals
                go_wp2_with fail
                exact ⟨⟨i + 1, false, by simp, rfl, HLT.out, HNX⟩, by show m - ((i : Int) + 1).toNat < m - (i : Int).toNat; have := HLT.out; omega⟩
          | false =>
            have HNX : Hid (false = decide (A.take (i + 1) = B.take (i + 1)) ∧ Below w6.heap.size w6 wr.drew) := Lib.hid ⟨by rw [HTK.out]; rfl, HBD.out⟩
            refine wp_region_noPanic ?_
            refine wp_region_held_drew (S := fun _ => True) (by kernel_rfl) (trivial) (fun hHeld => ?_)
            refine wpAnyH_take (i := 0) (oi := ⟨_, _, _, _, _, _⟩) (v := ?_) rfl (by kernel_rfl) (by kernel_rfl) (by kernel_rfl) (fun _ _ _ h => h) (Or.inl ⟨by rfl, ?_⟩) hHeld ?_
            rotate_left
            · ((intro w hSw; (try dsimp only at hSw); go_simp) <;> with_reducible rfl)
            try simp only [Act.put, List.setIfInBounds_toArray, List.set_cons_zero, List.set_cons_succ]
            refine wpAnyH_take (i := 1) (oi := ⟨_, _, _, _, _, _⟩) (v := ?_) rfl (by kernel_rfl) (by kernel_rfl) (by kernel_rfl) (fun _ _ _ h => h) (Or.inl ⟨by rfl, ?_⟩) hHeld ?_
            rotate_left
            · ((intro w hSw; (try dsimp only at hSw); go_simp) <;> with_reducible rfl)
            try simp only [Act.put, List.setIfInBounds_toArray, List.set_cons_zero, List.set_cons_succ]
            refine wpAnyH_take (i := 2) (oi := ⟨_, _, _, _, _, _⟩) (v := undef) rfl (by kernel_rfl) (by kernel_rfl) (by kernel_rfl) (fun _ _ _ h => h) (Or.inr ⟨by rfl, rfl⟩) hHeld ?_
            try simp only [Act.put, List.setIfInBounds_toArray, List.set_cons_zero, List.set_cons_succ]
            refine wpAnyH_take (i := 3) (oi := ⟨_, _, _, _, _, _⟩) (v := undef) rfl (by kernel_rfl) (by kernel_rfl) (by kernel_rfl) (fun _ _ _ h => h) (Or.inr ⟨by rfl, rfl⟩) hHeld ?_
            try simp only [Act.put, List.setIfInBounds_toArray, List.set_cons_zero, List.set_cons_succ]
            refine wpAnyH_take (i := 4) (oi := ⟨_, _, _, _, _, _⟩) (v := undef) rfl (by kernel_rfl) (by kernel_rfl) (by kernel_rfl) (fun _ _ _ h => h) (Or.inr ⟨by rfl, rfl⟩) hHeld ?_
            try simp only [Act.put, List.setIfInBounds_toArray, List.set_cons_zero, List.set_cons_succ]
            refine wpAnyH_take (i := 5) (oi := ⟨_, _, _, _, _, _⟩) (v := undef) rfl (by kernel_rfl) (by kernel_rfl) (by kernel_rfl) (fun _ _ _ h => h) (Or.inr ⟨by rfl, rfl⟩) hHeld ?_
            try simp only [Act.put, List.setIfInBounds_toArray, List.set_cons_zero, List.set_cons_succ]
            refine wpAnyH_take (i := 6) (oi := ⟨_, _, _, _, _, _⟩) (v := undef) rfl (by kernel_rfl) (by kernel_rfl) (by kernel_rfl) (fun _ _ _ h => h) (Or.inr ⟨by rfl, rfl⟩) hHeld ?_
            try simp only [Act.put, List.setIfInBounds_toArray, List.set_cons_zero, List.set_cons_succ]
            refine wpAnyH_take (i := 7) (oi := ⟨_, _, _, _, _, _⟩) (v := undef) rfl (by kernel_rfl) (by kernel_rfl) (by kernel_rfl) (fun _ _ _ h => h) (Or.inr ⟨by rfl, rfl⟩) hHeld ?_
            try simp only [Act.put, List.setIfInBounds_toArray, List.set_cons_zero, List.set_cons_succ]
            refine wpAnyH_take (i := 8) (oi := ⟨_, _, _, _, _, _⟩) (v := undef) rfl (by kernel_rfl) (by kernel_rfl) (by kernel_rfl) (fun _ _ _ h => h) (Or.inr ⟨by rfl, rfl⟩) hHeld ?_
            try simp only [Act.put, List.setIfInBounds_toArray, List.set_cons_zero, List.set_cons_succ]
            refine wpAnyH_take (i := 9) (oi := ⟨_, _, _, _, _, _⟩) (v := undef) rfl (by kernel_rfl) (by kernel_rfl) (by kernel_rfl) (fun _ _ _ h => h) (Or.inr ⟨by rfl, rfl⟩) hHeld ?_
            try simp only [Act.put, List.setIfInBounds_toArray, List.set_cons_zero, List.set_cons_succ]
            refine wpAnyH_take (i := 10) (oi := ⟨_, _, _, _, _, _⟩) (v := undef) rfl (by kernel_rfl) (by kernel_rfl) (by kernel_rfl) (fun _ _ _ h => h) (Or.inr ⟨by rfl, rfl⟩) hHeld ?_
            try simp only [Act.put, List.setIfInBounds_toArray, List.set_cons_zero, List.set_cons_succ]
            refine wpAnyH_take (i := 11) (oi := ⟨_, _, _, _, _, _⟩) (v := ?_) rfl (by kernel_rfl) (by kernel_rfl) (by kernel_rfl) (fun _ _ _ h => h) (Or.inl ⟨by rfl, ?_⟩) hHeld ?_
            rotate_left
            · ((intro w hSw; (try dsimp only at hSw); go_simp) <;> with_reducible rfl)
            try simp only [Act.put, List.setIfInBounds_toArray, List.set_cons_zero, List.set_cons_succ]
            refine wpAnyH_take (i := 12) (oi := ⟨_, _, _, _, _, _⟩) (v := ?_) rfl (by kernel_rfl) (by kernel_rfl) (by kernel_rfl) (fun _ _ _ h => h) (Or.inl ⟨by rfl, ?_⟩) hHeld ?_
            rotate_left
            · ((intro w hSw; (try dsimp only at hSw); go_simp) <;> with_reducible rfl)
            try simp only [Act.put, List.setIfInBounds_toArray, List.set_cons_zero, List.set_cons_succ]
            refine wpAnyH_done (by kernel_rfl) ?_ _
            refine NoPanic.normal ?_
            go_wp2_with fail
            exact ⟨⟨i + 1, false, by simp, rfl, HLT.out, HNX⟩, by show m - ((i : Int) + 1).toNat < m - (i : Int).toNat; have := HLT.out; omega⟩
        · obtain rfl : i = m := by omega
          have hli : ¬ (i : Int) < (i : Int) := by omega
          have hd : d = decide (A = B) := by
            have := HI.out.1
            rwa [List.take_of_length_le (by have := HF.out.1; omega), List.take_of_length_le (by have := HF.out.2.1; omega)] at this
          have HD := Lib.hid hd
          have HXR : Hid (Below W.heap.size W wr) := Lib.hid (HX6.out.trans (HI.out.2.mono HX6.out.size))
          clear hlt hd
          go_upto_region 21 with fail
          have hne : d = false := by rw [HD.out]; exact decide_eq_false HEQ.out.1
          subst hne
          have hee : rA = rB := by rw [HF.out.2.2.1, HF.out.2.2.2.1, rootT_R HNO.out.2.2.1 HNO.out.2.1, rootT_R HNO.out.2.2.2.1 (by have := HNO.out.1; have := HNO.out.2.1; omega)]; exact HEQ.out.2
          subst hee
          have e1 : (rA.toList == rA.toList) = true := by simp
          obtain ⟨k0, k1⟩ := HB1.out _ (HY6.out.trans (HI.out.2.mono HY6.out.size))
          have CU2 := Lib.hid (CU.out wr x y HXR.out (HUN.out (by first | rfl | trivial)))
          go_wp2_with (go_at_call 14; (with_reducible refine CU2.out.mono ?_); rintro o wa ⟨rfl, h⟩; have HRA : Hid (Below W.heap.size W wa) := Lib.hid (HXR.out.trans (h.mono HXR.out.size)); clear h)
          go_ret
          exact ⟨rfl, HRA.out⟩
theorem extractlists_any {W : World} {v0 v1 : Value} {A B : List ByteArray} {s t : ByteArray} (ht : Tabs W) (hA : Txts W v0 A) (hB : Txts W v1 B) (hs : s.size ≤ 1048576) (hz : t.size ≤ 1048576) :
    Calls Tryd.prog 5 #[v0, v1, .string s, .string t] W fun o w' => o = .returned (.bool true) ∧ Below W.heap.size W w' := by
  cases hno : lvNo A B with
  | true => exact el_one ht hA hB hs hz hno
  | false =>
    by_cases h : A = B ∨ rootR A ≠ rootR B
    · exact el_none ht hA hB hs hz hno h
    · exact el_pair ht hA hB hs hz hno ⟨fun h1 => h (.inl h1), Classical.not_not.mp fun h1 => h (.inr h1)⟩
end Go.Proofs.YtdbghgpohdijfaaDoor
