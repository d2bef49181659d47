/- FrontRanges, walked (printed by gen_ft3.py). -/
import Derived.Test.YtdbghgpohdijfaaDoorMa69
import Derived.Test.YtdbghgpohdijfaaDoorMa35
namespace Go.Proofs.YtdbghgpohdijfaaDoor
open Go.RowKit Go.Scr
set_option linter.unusedVariables false
theorem Bas.top {w : World} {C : Nat} (h : Bas w C) : Bas w w.heap.size :=
  ⟨h.tabs, h.tz, ⟨Nat.lt_of_lt_of_le h.lt.1 h.le, Nat.lt_of_lt_of_le h.lt.2.1 h.le, Nat.lt_of_lt_of_le h.lt.2.2 h.le⟩, Nat.le_refl _⟩
theorem txts_far {W : World} {v : Value} {L : List ByteArray} {g : Nat} (h : Txts W v L) (hg : W.heap.size ≤ g) : ∀ (j : Nat) s, L[j]? = some s → ∀ a n c, v = .slice (some a) n c → a.block ≠ g := by
  intro j s hs a n c e
  obtain ⟨p, c', he, _, _, hc⟩ := h
  rw [he] at e
  injection e with e1 _ _
  obtain ⟨a', ha, hx⟩ := hc j s hs
  rw [e1] at ha
  obtain rfl := Option.some.inj ha
  have h1 := block_lt_of_cell hx
  have h2 : (a.add j).block = a.block := by unfold Addr.add; split <;> rfl
  omega
set_option maxRecDepth 100000 in
set_option maxHeartbeats 16000000 in
theorem frontranges_any {W : World} {f ab ae bb be : Int} {vl va vb : Value} {L A B : List ByteArray} (hB : Bas W W.heap.size) (hl : Txts W vl L) (ha : Txts W va A) (hb : Txts W vb B) (hll : L.length ≤ 1048576) (hla : A.length ≤ 1048576) (hlb : B.length ≤ 1048576) :
    Calls Tryd.prog 7 #[.int .i64 f, vl, .agg #[.int .i64 ab, .int .i64 ae, va], .agg #[.int .i64 bb, .int .i64 be, vb]] W fun o w' => o = .returned (.bool true) ∧ Below W.heap.size W w' := by
  obtain ⟨w2, hw2⟩ : ∃ x, x = (W.alloc (.cells #[.int .i64 ab, .int .i64 ae, va] 68)).alloc (.cells #[.int .i64 bb, .int .i64 be, vb] 68) := ⟨_, rfl⟩
  obtain ⟨y0, y1, y2⟩ := two_blocks W #[.int .i64 ab, .int .i64 ae, va] #[.int .i64 bb, .int .i64 be, vb] 68 68
  rw [← hw2] at y0 y1 y2
  obtain ⟨x6, hx6⟩ : ∃ x, x = W.heap.size := ⟨_, rfl⟩
  obtain ⟨x7, hx7⟩ : ∃ x, x = W.heap.size + 1 := ⟨_, rfl⟩
  rw [← hx6] at y0
  rw [← hx7] at y1
  obtain ⟨b1, e1, b2, e2, K1, K2, E1, E2, E3, t3, h6⟩ := six_any hB (Nat.le_refl _) f ab ae bb be L A B
  have H6 := Lib.hid h6
  obtain ⟨n, hn⟩ : ∃ n, n = L.length := ⟨_, rfl⟩
  obtain ⟨na, hna⟩ : ∃ n, n = A.length := ⟨_, rfl⟩
  obtain ⟨nb, hnb⟩ : ∃ n, n = B.length := ⟨_, rfl⟩
  obtain ⟨n8, hn8⟩ : ∃ x, x = n + 8 := ⟨_, rfl⟩
  obtain ⟨na8, hna8⟩ : ∃ x, x = na + 8 := ⟨_, rfl⟩
  obtain ⟨nb8, hnb8⟩ : ∃ x, x = nb + 8 := ⟨_, rfl⟩
  have HTX : Hid (∀ w', Below W.heap.size W w' → Txts w' vl L ∧ Txts w' va A ∧ Txts w' vb B) := Lib.hid (fun w' h => ⟨hl.below h (Nat.le_refl _), ha.below h (Nat.le_refl _), hb.below h (Nat.le_refl _)⟩)
  have CL : Hid (∀ w', Below W.heap.size W w' → Calls Tryd.prog 29 #[vl] w' fun o w'' => ∃ g, o = .returned (.slice (some ⟨g, 0, none⟩) n8 n8) ∧ w'.heap.size ≤ g ∧ SRow w'' g (fill5 L 8) ∧ Below w'.heap.size w' w'') := Lib.hid (fun w' h => by rw [hn8, hn]; exact lent5_any vl L w' (hl.below h (Nat.le_refl _)) hll)
  have CO1 : Hid (∀ w', Below W.heap.size W w' → Calls Tryd.prog 30 #[.agg #[.int .i64 ab, .int .i64 ae, va]] w' fun o w'' => ∃ g, o = .returned (.tuple #[.agg #[.int .i64 ab, .int .i64 ae, .slice (some ⟨g, 0, none⟩) na na8], .slice (some ⟨g, 0, none⟩) na8 na8]) ∧ w'.heap.size ≤ g ∧ SRow w'' g (fill5 A 8) ∧ Below w'.heap.size w' w'') := Lib.hid (fun w' h => by rw [hna8, hna]; exact own5_any (ha.below h (Nat.le_refl _)) hla)
  have CO2 : Hid (∀ w', Below W.heap.size W w' → Calls Tryd.prog 30 #[.agg #[.int .i64 bb, .int .i64 be, vb]] w' fun o w'' => ∃ g, o = .returned (.tuple #[.agg #[.int .i64 bb, .int .i64 be, .slice (some ⟨g, 0, none⟩) nb nb8], .slice (some ⟨g, 0, none⟩) nb8 nb8]) ∧ w'.heap.size ≤ g ∧ SRow w'' g (fill5 B 8) ∧ Below w'.heap.size w' w'') := Lib.hid (fun w' h => by rw [hnb8, hnb]; exact own5_any (hb.below h (Nat.le_refl _)) hlb)
  have CK := Lib.hid (known5_any ((hB.below y2).top))
  have CKL : Hid (∀ w' g, Txts w' vl L → SRow w' g (fill5 L 8) → Calls Tryd.prog 39 #[.slice (some ⟨g, 0, none⟩) n8 n8, vl] w' fun e w'' => e = .returned (.bool true) ∧ Below w'.heap.size w' w'') := Lib.hid (fun w' g h h2 => by rw [hn8, hn]; exact kept5_any vl L g w' h h2 hll)
  have CKA : Hid (∀ w' g, Txts w' va A → SRow w' g (fill5 A 8) → Calls Tryd.prog 39 #[.slice (some ⟨g, 0, none⟩) na8 na8, va] w' fun e w'' => e = .returned (.bool true) ∧ Below w'.heap.size w' w'') := Lib.hid (fun w' g h h2 => by rw [hna8, hna]; exact kept5_any va A g w' h h2 hla)
  have CKB : Hid (∀ w' g, Txts w' vb B → SRow w' g (fill5 B 8) → Calls Tryd.prog 39 #[.slice (some ⟨g, 0, none⟩) nb8 nb8, vb] w' fun e w'' => e = .returned (.bool true) ∧ Below w'.heap.size w' w'') := Lib.hid (fun w' g h h2 => by rw [hnb8, hnb]; exact kept5_any vb B g w' h h2 hlb)
  have HFL : Hid (∀ g, W.heap.size ≤ g → (∀ (j : Nat) s, L[j]? = some s → ∀ a n c, vl = .slice (some a) n c → a.block ≠ g) ∧ (∀ (j : Nat) s, A[j]? = some s → ∀ a n c, va = .slice (some a) n c → a.block ≠ g) ∧ (∀ (j : Nat) s, B[j]? = some s → ∀ a n c, vb = .slice (some a) n c → a.block ≠ g)) := Lib.hid (fun g hg => ⟨txts_far hl hg, txts_far ha hg, txts_far hb hg⟩)
  have HX6 : Hid (RBx w2 x6 ab ae va) := Lib.hid y0
  have HX7 : Hid (RBx w2 x7 bb be vb) := Lib.hid y1
  have HW : Hid (Below W.heap.size W w2) := Lib.hid y2
  obtain ⟨pl, cl, rfl⟩ : ∃ p c, vl = .slice p n c := by obtain ⟨p, c, h, _⟩ := hl; exact ⟨p, c, by rw [h, hn]⟩
  obtain ⟨pa, ca, rfl⟩ : ∃ p c, va = .slice p na c := by obtain ⟨p, c, h, _⟩ := ha; exact ⟨p, c, by rw [h, hna]⟩
  obtain ⟨pb, cb, rfl⟩ : ∃ p c, vb = .slice p nb c := by obtain ⟨p, c, h, _⟩ := hb; exact ⟨p, c, by rw [h, hnb]⟩
  rw [← hn] at hll
  rw [← hna] at hla
  rw [← hnb] at hlb
  have HLN : Hid (L.length = n ∧ A.length = na ∧ B.length = nb ∧ n8 = n + 8 ∧ na8 = na + 8 ∧ nb8 = nb + 8) := Lib.hid ⟨hn.symm, hna.symm, hnb.symm, hn8, hna8, hnb8⟩
  have hnn8 : (n : Int) ≤ (n8 : Int) := by omega
  have hn0 : (0 : Int) ≤ (n : Int) := by omega
  have hn8b : n8 ≤ 1048584 := by omega
  have hna8b : na8 ≤ 1048584 := by omega
  have hnb8b : nb8 ≤ 1048584 := by omega
  have HW2 := Lib.hid hw2
  have HE6 := Lib.hid hx6
  have HE7 := Lib.hid hx7
  have HBAS := Lib.hid hB
  clear hB hl ha hb hw2 y0 y1 y2 hx6 hx7 h6 hn hna hnb hn8 hna8 hnb8
  go_enter Tryd.func7, Tryd.ntmps7
  go_upto_region 1 with fail
  rw [← HW2.out, ← HE7.out, ← HE6.out]
  clear HW2 HE6 HE7
  go_upto_region 2 with (go_at_call 21; (with_reducible refine (CK.out).mono ?_); rintro r w3 ⟨rfl, h⟩; have HB3 : Hid (Below W.heap.size W w3) := Lib.hid (below_from HW.out h HW.out.size); have HX6 := Lib.hid (HX6.out.below h); have HX7 := Lib.hid (HX7.out.below h); clear h)
  have HXL : Hid (x6 < w3.heap.size ∧ x7 < w3.heap.size) := Lib.hid ⟨HX6.out.lt, HX7.out.lt⟩
  go_upto_region 3 with (go_at_call 29; (with_reducible refine (CL.out w3 HB3.out).mono ?_); rintro r w4 ⟨gl, rfl, hg, hrow, h⟩; have HG4 := Lib.hid hg; have HR4 := Lib.hid hrow; have HB4 : Hid (Below W.heap.size W w4) := Lib.hid (below_from HB3.out h HB3.out.size); have HX6 := Lib.hid (HX6.out.below h); have HX7 := Lib.hid (HX7.out.below h); clear h hg hrow)
  obtain ⟨c00, c01, c02⟩ := HX6.out.c
  go_upto_region 4 with (go_at_call 30; (with_reducible refine (CO1.out w4 HB4.out).mono ?_); rintro r w5 ⟨gp, rfl, hg, hrow, h⟩; have HG5 := Lib.hid hg; have HR5 := Lib.hid hrow; have HB45 := Lib.hid h; clear h hg hrow)
  clear c00 c01 c02
  obtain ⟨w6, x11, e7, e8, HX11, HB56⟩ := box_new w5 ab ae (.slice (some ⟨gp, 0, none⟩) na na8)
  rw [e7, e8]
  have HE11 := Lib.hid e8
  have HB46 : Hid (Below w4.heap.size w4 w6) := Lib.hid (below_from HB45.out HB56.out HB45.out.size)
  have HB6 : Hid (Below W.heap.size W w6) := Lib.hid (below_from HB4.out HB46.out HB4.out.size)
  have HX6 := Lib.hid (HX6.out.below HB46.out)
  have HX7 := Lib.hid (HX7.out.below HB46.out)
  clear e7 e8
  obtain ⟨c00, c01, c02⟩ := HX7.out.c
  go_upto_region 5 with (go_at_call 30; (with_reducible refine (CO2.out w6 HB6.out).mono ?_); rintro r w7 ⟨gq, rfl, hg, hrow, h⟩; have HG7 := Lib.hid hg; have HR7 := Lib.hid hrow; have HB67 := Lib.hid h; clear h hg hrow)
  clear c00 c01 c02
  obtain ⟨w8, x13, e7, e8, HX13, HB78⟩ := box_new w7 bb be (.slice (some ⟨gq, 0, none⟩) nb nb8)
  rw [e7, e8]
  have HE13 := Lib.hid e8
  have HB68 : Hid (Below w6.heap.size w6 w8) := Lib.hid (below_from HB67.out HB78.out HB67.out.size)
  have HX6 := Lib.hid (HX6.out.below HB68.out)
  have HX7 := Lib.hid (HX7.out.below HB68.out)
  have HNX : Hid (gl ≠ x6 ∧ gl ≠ x7 ∧ gp ≠ x6 ∧ gp ≠ x7 ∧ gq ≠ x6 ∧ gq ≠ x7) := Lib.hid (by
    have k1 := HG4.out
    have k2 := HG5.out
    have k3 := HG7.out
    have k4 := HB45.out.size
    have k5 := HB56.out.size
    have k6 := HR4.out.lt
    have k7 := HR5.out.lt
    have k8 := HXL.out
    omega)
  have HI8 : Hid (AgI W gl gp gq x11 x13 ab ae bb be n na nb n8 na8 nb8 w8 L A B) := Lib.hid (by
    have k1 := HG4.out
    have k2 := HG5.out
    have k3 := HG7.out
    have k4 := HB45.out.size
    have k5 := HB56.out.size
    have k6 := HR4.out.lt
    have k7 := HR5.out.lt
    have k8 := HR7.out.lt
    have k9 := HE11.out
    have k10 := HE13.out
    have k11 := HB3.out.size
    have k12 := HB4.out.size
    have k13 := HB6.out.size
    have k14 := HX11.out.lt
    have k15 := HB67.out.size
    exact ⟨⟨(HR4.out.below HB46.out k6).below HB68.out (by omega), (HR5.out.below HB56.out k7).below HB68.out (by omega), HR7.out.below HB78.out k8⟩, below_from HB6.out HB68.out k13, HX11.out.below HB68.out, HX13.out, ⟨by omega, by omega, by omega⟩, ⟨by omega, by omega, by omega, by omega, by omega, by omega, by omega, by omega, by omega⟩, HLN.out, ⟨hll, hla, hlb⟩⟩)
  clear e7 e8 HG4 HG5 HG7 HR4 HR5 HR7 HB3 HB4 HB45 HB56 HE11 HB46 HB6 HX11 HX13 HE13 HB67 HB78 HB68 CK CL CO1 CO2 HW
  go_upto_region 6 with fail
  have hbi := BI.begin w8
  have HBI := Lib.hid hbi
  clear hbi
  obtain ⟨b, hb⟩ : ∃ b, b = w8.heap.size := ⟨_, rfl⟩
  rw [← hb] at HBI ⊢
  generalize w8.alloc (.cells #[.slice none 0 0, .slice none 0 0, .slice none 0 0, .slice none 0 0, .slice none 0 0] 48) = w9 at HBI ⊢
  clear hb
  go_wp2_with fail
  go_loopw [16, 17, 18, 19, 20, 21, 22, 23, 24, 25, 26, 27, 28, 29, 30] (fun x16 _ _ _ _ _ _ _ _ _ _ _ _ _ _ wr => ∃ t : Nat, t ≤ 2 ∧ x16 = .int .i64 t ∧ Hid (BIx w8 b (2 * t) wr)) (fun x16 _ _ _ _ _ _ _ _ _ _ _ _ _ _ _ => 2 - (intOf x16).toNat)
  case atStart => exact ⟨0, by omega, rfl, Lib.hid ⟨_, _, _, _, HBI.out⟩⟩
  case round =>
    clear HBI
    obtain ⟨t, ht, rfl, hinv⟩ := hrel
    obtain ⟨col, V, fr, wl, hbi⟩ := hinv.out
    have HBI := Lib.hid hbi
    clear hinv hbi
    have HI := Lib.hid (HI8.out.below HBI.out.bl)
    have HX6r := Lib.hid (HX6.out.below HBI.out.bl)
    have HX7r := Lib.hid (HX7.out.below HBI.out.bl)
    by_cases ht2 : t < 2
    · have hti : (t : Int) < 2 := by omega
      obtain ⟨w0, hw0⟩ : ∃ z, z = wr := ⟨_, rfl⟩
      clear hw0 w0
      go_upto_region 10 with (go_at_call 31; (with_reducible refine (H6.out.cm wr _ HI.out.bl HI.out.tx.1).mono ?_); rintro r wa ⟨pA, cA, rfl, hA⟩; have HA := hA; clear hA)
      obtain ⟨wb, x17, e7, e8, HX17, HBb⟩ := box_new wa b1 e1 (.slice pA K1.length cA)
      rw [e7, e8]
      clear e7 e8
      have HFb : Hid (Below wr.heap.size wr wb) := Lib.hid (below_from HA.out.b HBb.out HA.out.b.size)
      go_upto_region 11 with (go_at_call 32; (with_reducible refine (H6.out.cd wb _ (HTX.out wb (below_from HI.out.bl HFb.out HI.out.bl.size)).1).mono ?_); rintro r wc ⟨pC, cC, rfl, hC⟩; have HC := hC; clear hC)
      obtain ⟨wd, x19, e7, e8, HX19, HBd⟩ := box_new wc b1 e1 (.slice pC K1.length cC)
      rw [e7, e8]
      clear e7 e8
      have HBbd : Hid (Below wb.heap.size wb wd) := Lib.hid (below_from HC.out.b HBd.out HC.out.b.size)
      have HFd : Hid (Below wr.heap.size wr wd) := Lib.hid (below_from HFb.out HBbd.out HFb.out.size)
      have HId := Lib.hid (HI.out.below HFd.out)
      obtain ⟨c00, c01, c02⟩ := HId.out.bx.c
      obtain ⟨c10, c11, c12⟩ := HId.out.by'.c
      go_upto_region 12 with (go_at_call 33; (with_reducible refine (H6.out.jn wd _ _ HId.out.bl HId.out.tx.2.1 HId.out.tx.2.2).mono ?_); rintro r we ⟨pE, cE, rfl, hE⟩; have HE := hE; clear hE)
      obtain ⟨wf, x21, e7, e8, HX21, HBf⟩ := box_new we b2 e2 (.slice pE K2.length cE)
      rw [e7, e8]
      have HE21 := Lib.hid e8
      clear e7 e8 c00 c01 c02 c10 c11 c12
      have HBdf : Hid (Below wd.heap.size wd wf) := Lib.hid (below_from HE.out.b HBf.out HE.out.b.size)
      have HFf : Hid (Below wr.heap.size wr wf) := Lib.hid (below_from HFd.out HBdf.out HFd.out.size)
      obtain ⟨c00, c01, c02⟩ := (HX6r.out.below HFf.out).c
      obtain ⟨c10, c11, c12⟩ := (HX7r.out.below HFf.out).c
      go_upto_region 13 with (go_at_call 34; (with_reducible refine (H6.out.jd wf _ _ (HTX.out wf (below_from HI.out.bl HFf.out HI.out.bl.size)).2.1 (HTX.out wf (below_from HI.out.bl HFf.out HI.out.bl.size)).2.2).mono ?_); rintro r wg ⟨pG, cG, rfl, hG⟩; have HG := hG; clear hG)
      obtain ⟨wh, x23, e7, e8, HX23, HBh⟩ := box_new wg b2 e2 (.slice pG K2.length cG)
      rw [e7, e8]
      clear e7 e8 c00 c01 c02 c10 c11 c12
      have HBfh : Hid (Below wf.heap.size wf wh) := Lib.hid (below_from HG.out.b HBh.out HG.out.b.size)
      have HFh : Hid (Below wr.heap.size wr wh) := Lib.hid (below_from HFf.out HBfh.out HFf.out.size)
      have HIh := Lib.hid (HI.out.below HFh.out)
      obtain ⟨c00, c01, c02⟩ := HIh.out.bx.c
      go_upto_region 14 with (go_at_call 35; (with_reducible refine (H6.out.rt wh _ HIh.out.bl HIh.out.tx.2.1).mono ?_); rintro r wi ⟨rfl, hI⟩; have HBi := Lib.hid hI; clear hI)
      clear c00 c01 c02
      have HFi : Hid (Below wr.heap.size wr wi) := Lib.hid (below_from HFh.out HBi.out HFh.out.size)
      obtain ⟨c00, c01, c02⟩ := (HX6r.out.below HFi.out).c
      go_upto_region 15 with (go_at_call 36; (with_reducible refine (H6.out.rd wi _ (HTX.out wi (below_from HI.out.bl HFi.out HI.out.bl.size)).2.1).mono ?_); rintro r wj ⟨rfl, hI⟩; have HBj := Lib.hid hI; clear hI)
      clear c00 c01 c02
      have HBhj : Hid (Below wh.heap.size wh wj) := Lib.hid (below_from HBi.out HBj.out HBi.out.size)
      have HBfj : Hid (Below wf.heap.size wf wj) := Lib.hid (below_from HBfh.out HBhj.out HBfh.out.size)
      have HBdj : Hid (Below wd.heap.size wd wj) := Lib.hid (below_from HBdf.out HBfj.out HBdf.out.size)
      have HBbj : Hid (Below wb.heap.size wb wj) := Lib.hid (below_from HBbd.out HBdj.out HBbd.out.size)
      have HS1 : Hid (∀ w', Below wj.heap.size wj w' → _) := Lib.hid (fun w' h => sameRange_yes (b := b1) (e := e1) (w := w') ((((HA.out.tx (by have := H6.out.l1; omega)).below HBb.out (Nat.le_refl _)).below HBbj.out (Nat.le_refl _)).below h (Nat.le_refl _)) ((((HC.out.tx (by have := H6.out.l1; omega)).below HBd.out (Nat.le_refl _)).below HBdj.out (Nat.le_refl _)).below h (Nat.le_refl _)) H6.out.l1)
      have HS2 : Hid (∀ w', Below wj.heap.size wj w' → _) := Lib.hid (fun w' h => sameRange_yes (b := b2) (e := e2) (w := w') ((((HE.out.tx (by have := H6.out.l2; omega)).below HBf.out (Nat.le_refl _)).below HBfj.out (Nat.le_refl _)).below h (Nat.le_refl _)) ((((HG.out.tx (by have := H6.out.l2; omega)).below HBh.out (Nat.le_refl _)).below HBhj.out (Nat.le_refl _)).below h (Nat.le_refl _)) H6.out.l2)
      obtain ⟨c00, c01, c02⟩ := (HX17.out.below HBbj.out).c
      obtain ⟨c10, c11, c12⟩ := (HX19.out.below HBdj.out).c
      go_upto_region 16 with (go_at_call 37; (with_reducible refine (HS1.out wj (Below.refl _ _)).mono ?_); rintro r wk ⟨rfl, hI⟩; have HBk := Lib.hid hI; clear hI)
      clear c00 c01 c02 c10 c11 c12
      obtain ⟨c00, c01, c02⟩ := ((HX21.out.below HBfj.out).below HBk.out).c
      obtain ⟨c10, c11, c12⟩ := ((HX23.out.below HBhj.out).below HBk.out).c
      go_upto_region 19 with (go_at_call 37; (with_reducible refine (HS2.out wk HBk.out).mono ?_); rintro r wm ⟨rfl, hI⟩; have HBm := Lib.hid hI; clear hI)
      clear c00 c01 c02 c10 c11 c12 HS1 HS2
      have HBjm : Hid (Below wj.heap.size wj wm) := Lib.hid (below_from HBk.out HBm.out HBk.out.size)
      have HBfm : Hid (Below wf.heap.size wf wm) := Lib.hid (below_from HBfj.out HBjm.out HBfj.out.size)
      have HBdm : Hid (Below wd.heap.size wd wm) := Lib.hid (below_from HBdf.out HBfm.out HBdf.out.size)
      have HBbm : Hid (Below wb.heap.size wb wm) := Lib.hid (below_from HBbd.out HBdm.out HBbd.out.size)
      obtain ⟨colX, hbi2, q1, q2, hc0⟩ := HBI.out.two HA.out (below_from HBb.out HBbd.out HBb.out.size) HE.out (below_from HBf.out HBfm.out HBf.out.size) H6.out.l1 H6.out.l2
      have HX17m := Lib.hid (HX17.out.below HBbm.out)
      have HX21m := Lib.hid (HX21.out.below HBfm.out)
      have HP2 := Lib.hid q2
      have HC0 : Hid (colX x21 = 0) := Lib.hid (hc0 _ (Nat.le_of_eq HE21.out))
      have CT1 := Lib.hid (hbi2.takes q1 (by omega))
      clear hbi2 q1 q2 hc0 HBI HA HBb HFb HC HBd HBbd HFd HId HE HBf HE21 HBdf HFf HG HBh HBfh HFh HIh HBi HFi HBj HBhj HBfj HBdj HBbj HBk HBm HBjm HBfm HBdm HBbm HX17 HX19 HX21 HX23 HI HX6r HX7r
      obtain ⟨c00, c01, c02⟩ := HX17m.out.c
      go_upto_region 20 with (go_at_call 38; (with_reducible refine (CT1.out).mono ?_); rintro r wn ⟨rfl, colN, VN, wlN, tn, on, cn⟩; have CT2 := Lib.hid (tn.takes (HP2.out.only on cn) (by omega)); have HX21n := Lib.hid (HX21m.out.to (on.block _ HX21m.out.lt (by rw [HC0.out]; omega))); clear CT1 tn on cn)
      clear c00 c01 c02
      obtain ⟨c00, c01, c02⟩ := HX21n.out.c
      go_wp2_with (go_at_call 38; (with_reducible refine (CT2.out).mono ?_); rintro r wo ⟨rfl, colO, VO, wlO, tO, oo, co⟩; have HBIo := Lib.hid tO; clear CT2 tO oo co)
      exact ⟨⟨t + 1, by omega, rfl, Lib.hid ⟨_, _, _, _, by rw [show 2 * (t + 1) = 2 * t + 1 + 1 by omega]; exact HBIo.out⟩⟩, (by show 2 - ((t : Int) + 1).toNat < 2 - (t : Int).toNat; omega)⟩
    · have hti : ¬ (t : Int) < 2 := by omega
      have hm : 2 * t ≤ 1000 := by omega
      clear ht2
      go_upto_region 22 with (go_at_call 39; (with_reducible refine (CKL.out wr gl (HTX.out wr HI.out.bl).1 HI.out.r.rl).mono ?_); rintro r ka ⟨rfl, h⟩; have HBa := Lib.hid h; clear h)
      have HIa := Lib.hid (HI.out.below HBa.out)
      obtain ⟨c00, c01, c02⟩ := (HX6r.out.below HBa.out).c
      go_upto_region 23 with (go_at_call 39; (with_reducible refine (CKA.out ka gp (HTX.out ka HIa.out.bl).2.1 HIa.out.r.rp).mono ?_); rintro r kb ⟨rfl, h⟩; have HBb : Hid (Below wr.heap.size wr kb) := Lib.hid (below_from HBa.out h HBa.out.size); clear h)
      clear c00 c01 c02
      have HIb := Lib.hid (HI.out.below HBb.out)
      obtain ⟨c00, c01, c02⟩ := (HX7r.out.below HBb.out).c
      go_upto_region 24 with (go_at_call 39; (with_reducible refine (CKB.out kb gq (HTX.out kb HIb.out.bl).2.2 HIb.out.r.rq).mono ?_); rintro r kc ⟨rfl, h⟩; have HBc : Hid (Below wr.heap.size wr kc) := Lib.hid (below_from HBb.out h HBb.out.size); clear h)
      clear c00 c01 c02
      have CS := Lib.hid ((HBI.out.below HBc.out).still hm)
      clear HI HX6r HX7r HBa HIa HBb HIb
      go_upto_region 25 with (go_at_call 23; (with_reducible refine (CS.out).mono ?_); rintro r kd ⟨rfl, h⟩; have HId := Lib.hid (HI8.out.below h); have HX6d := Lib.hid (HX6.out.below h); have HX7d := Lib.hid (HX7.out.below h); clear h)
      obtain ⟨c00, c01, c02⟩ := HX6d.out.c
      go_upto_region 28 with (go_at_call 39; (with_reducible refine (CKA.out kd gp (HTX.out kd HId.out.bl).2.1 HId.out.r.rp).mono ?_); rintro r ke ⟨rfl, h⟩; have HIe := Lib.hid (HId.out.below h); have HX6e := Lib.hid (HX6d.out.below h); have HX7e := Lib.hid (HX7d.out.below h); clear h)
      clear c00 c01 c02 CS HId HX6d HX7d HBc HBI HI8 HX6 HX7 CKL CKA CKB
      have HFG := Lib.hid (And.intro (HFL.out gl HIe.out.lo.1).1 (And.intro (HFL.out gp HIe.out.lo.2.1).2.1 (HFL.out gq HIe.out.lo.2.2).2.2))
      have CT1 : Hid (Calls Tryd.prog 40 #[.slice (some ⟨gl, 0, none⟩) n8 n8, .slice pl n cl] ke _) := Lib.hid (turned5_any (HTX.out ke HIe.out.bl).1 HFG.out.1 HIe.out.r.rl (by rw [fill5_length L 8 (by omega)]; omega) (by have := HLN.out; omega) hn8b)
      go_upto_region 29 with (go_at_call 40; (with_reducible refine (CT1.out).mono ?_); rintro r kf ⟨rfl, hr, hg⟩; have HIf := Lib.hid (HIe.out.turnL hr hg); have HX6f := Lib.hid (rbx_off HX6e.out hg HNX.out.1); have HX7f := Lib.hid (rbx_off HX7e.out hg HNX.out.2.1); clear hr hg)
      clear HIe HX6e HX7e CT1
      obtain ⟨c00, c01, c02⟩ := HX6f.out.c
      have CT2 : Hid (Calls Tryd.prog 40 #[.slice (some ⟨gp, 0, none⟩) na8 na8, .slice pa na ca] kf _) := Lib.hid (turned5_any (HTX.out kf HIf.out.bl).2.1 HFG.out.2.1 HIf.out.r.rp (by rw [fill5_length A 8 (by omega)]; omega) (by have := HLN.out; omega) hna8b)
      go_upto_region 30 with (go_at_call 40; (with_reducible refine (CT2.out).mono ?_); rintro r kg ⟨rfl, hr, hg⟩; have HIg := Lib.hid (HIf.out.turnP hr hg); have HX6g := Lib.hid (rbx_off HX6f.out hg HNX.out.2.2.1); have HX7g := Lib.hid (rbx_off HX7f.out hg HNX.out.2.2.2.1); clear hr hg)
      clear HIf HX6f HX7f CT2 c00 c01 c02
      obtain ⟨c00, c01, c02⟩ := HX7g.out.c
      have CT3 : Hid (Calls Tryd.prog 40 #[.slice (some ⟨gq, 0, none⟩) nb8 nb8, .slice pb nb cb] kg _) := Lib.hid (turned5_any (HTX.out kg HIg.out.bl).2.2 HFG.out.2.2 HIg.out.r.rq (by rw [fill5_length B 8 (by omega)]; omega) (by have := HLN.out; omega) hnb8b)
      go_upto_region 31 with (go_at_call 40; (with_reducible refine (CT3.out).mono ?_); rintro r kh ⟨rfl, hr, hg⟩; have HIh := Lib.hid (HIg.out.turnQ hr hg); have HX6h := Lib.hid (rbx_off HX6g.out hg HNX.out.2.2.2.2.1); have HX7h := Lib.hid (rbx_off HX7g.out hg HNX.out.2.2.2.2.2); clear hr hg)
      clear HIg HX6g HX7g CT3 c00 c01 c02 HFG HFL HNX HTX H6
      obtain ⟨Lr, hLr⟩ : ∃ x, x = L.reverse := ⟨_, rfl⟩
      obtain ⟨Ar, hAr⟩ : ∃ x, x = A.reverse := ⟨_, rfl⟩
      obtain ⟨Br, hBr⟩ : ∃ x, x = B.reverse := ⟨_, rfl⟩
      rw [← hLr, ← hAr, ← hBr] at HIh
      clear hLr hAr hBr HLN
      obtain ⟨d1, g1, d2, g2, J1, J2, D1, D2, D3, s3, h6⟩ := six_any HBAS.out (Nat.le_refl _) f ab ae bb be Lr Ar Br
      have H6 := Lib.hid h6
      clear h6
      have hb1 : (0 + n) * 16 ≤ 140737488355328 := by omega
      have hb2 : 0 + n ≤ 140737488355328 := by omega
      have hb3 : (0 + na) * 16 ≤ 140737488355328 := by omega
      have hb4 : 0 + na ≤ 140737488355328 := by omega
      have hb5 : (0 + nb) * 16 ≤ 140737488355328 := by omega
      have hb6 : 0 + nb ≤ 140737488355328 := by omega
      have HTL := Lib.hid (txts_src HIh.out.tx.1)
      have HHZ := Lib.hid (held_none0 kh)
      go_upto_region 32 with (at_builtin; refine wpList_catC (v := .slice none 0 0) (n := 0) rfl _ _ rfl Tryd.underlying22 (.string ⟨#[]⟩) 1 info_strT rfl (by decide) [] (Lr.map Value.string) rfl rfl HHZ.out HTL.out.1 HTL.out.2.1 HTL.out.2.2 (one_txt Lr) hb1 hb2 ?_; intro v5 w5 hh hg ho; rw [Nat.zero_add, List.nil_append] at hh; obtain ⟨p5, c5, rfl, _⟩ := hh.cells; have HL5 : Hid (LfI kh w5 (.slice p5 n c5) n Lr) := Lib.hid (lf_new hh hg ho); clear hh hg ho)
      have HI5 := Lib.hid (HIh.out.below HL5.out.b)
      have HX65 := Lib.hid (HX6h.out.below HL5.out.b)
      have HX75 := Lib.hid (HX7h.out.below HL5.out.b)
      have HCX : Hid (∀ w', Below w5.heap.size w5 w' → _ ∧ _ ∧ _) := Lib.hid (fun w' hb => ⟨(HX65.out.below hb).c.1, (HX65.out.below hb).c.2.1, (HI5.out.below hb).bx.c.2.2⟩)
      have HTX : Hid (∀ w', Below w5.heap.size w5 w' → _) := Lib.hid (fun w' hb => (HI5.out.below hb).tx.2.1)
      clear HTL HHZ
      go_upto_region 32 with fail
      go_cut [37] from 204 to 211 (fun xs wx => ∃ (x : Nat) (p : Option Addr) (c : Nat), xs = .pointer (some ⟨x, 0, none⟩) ∧ Hid (RBx wx x ab ae (.slice p na c)) ∧ Hid (LfI w5 wx (.slice p na c) na Ar) ∧ Hid (w5.heap.size ≤ x))
      case first =>
        have HB0 : Hid (Below w5.heap.size w5 w5.drew) := Lib.hid (Below.refl _ _).drew
        refine wp_region_held_drew (S := fun w' => w'.cell? ⟨x6, 0, none⟩ = some (.int .i64 ab) ∧ w'.cell? ⟨x6, 1, none⟩ = some (.int .i64 ae) ∧ w'.cell? ⟨x11, 2, none⟩ = some (.slice (some ⟨gp, 0, none⟩) na na8)) (by kernel_rfl) (by exact HCX.out _ (by first | exact HBz.out | exact HBy.out | exact HB0.out)) (fun hHeld => ?_)
        refine wpAnyH_take (i := 0) (oi := ⟨_, _, _, _, _, _⟩) (v := ?_) rfl (by kernel_rfl) (by kernel_rfl) (by kernel_rfl) (fun _ _ _ h => h) (Or.inl ⟨by rfl, ?_⟩) hHeld ?_
        rotate_left
        · ((intro w hSw; (try dsimp only at hSw); go_simp) <;> with_reducible rfl)
        try simp only [Act.put, List.setIfInBounds_toArray, List.set_cons_zero, List.set_cons_succ]
        refine wpAnyH_take (i := 1) (oi := ⟨_, _, _, _, _, _⟩) (v := ?_) rfl (by kernel_rfl) (by kernel_rfl) (by kernel_rfl) (fun _ _ _ h => h) (Or.inl ⟨by rfl, ?_⟩) hHeld ?_
        rotate_left
        · ((intro w hSw; (try dsimp only at hSw); go_simp) <;> with_reducible rfl)
        try simp only [Act.put, List.setIfInBounds_toArray, List.set_cons_zero, List.set_cons_succ]
        refine wpAnyH_take (i := 2) (oi := ⟨_, _, _, _, _, _⟩) (v := ?_) rfl (by kernel_rfl) (by kernel_rfl) (by kernel_rfl) (fun _ _ _ h => h) (Or.inl ⟨by rfl, ?_⟩) hHeld ?_
        rotate_left
        · ((intro w hSw; (try dsimp only at hSw); go_simp) <;> with_reducible rfl)
        try simp only [Act.put, List.setIfInBounds_toArray, List.set_cons_zero, List.set_cons_succ]
        refine wpAnyH_take (i := 3) (oi := ⟨_, _, _, _, _, _⟩) (v := ?_) rfl (by kernel_rfl) (by kernel_rfl) (by kernel_rfl) (fun _ _ _ h => h) (Or.inl ⟨by rfl, ?_⟩) hHeld ?_
        rotate_left
        · ((intro w hSw; (try dsimp only at hSw); go_simp) <;> with_reducible rfl)
        try simp only [Act.put, List.setIfInBounds_toArray, List.set_cons_zero, List.set_cons_succ]
        refine wpAnyH_take (i := 4) (oi := ⟨_, _, _, _, _, _⟩) (v := ?_) rfl (by kernel_rfl) (by kernel_rfl) (by kernel_rfl) (fun _ _ _ h => h) (Or.inl ⟨by rfl, ?_⟩) hHeld ?_
        rotate_left
        · ((intro w hSw; (try dsimp only at hSw); go_simp) <;> with_reducible rfl)
        try simp only [Act.put, List.setIfInBounds_toArray, List.set_cons_zero, List.set_cons_succ]
        refine wpAnyH_take (i := 5) (oi := ⟨_, _, _, _, _, _⟩) (v := ?_) rfl (by kernel_rfl) (by kernel_rfl) (by kernel_rfl) (fun _ _ _ h => h) (Or.inl ⟨by rfl, ?_⟩) hHeld ?_
        rotate_left
        · ((intro w hSw; (try dsimp only at hSw); go_simp) <;> with_reducible rfl)
        try simp only [Act.put, List.setIfInBounds_toArray, List.set_cons_zero, List.set_cons_succ]
        refine wpAnyH_ready (rs := [6, 8]) (by kernel_rfl) (by simp) ?_
        refine AllReadyH.cons (o := ⟨_, _, _, _, _, _⟩) rfl (fun K hK => ?_) ?_
        rotate_left
        refine AllReadyH.cons (o := ⟨_, _, _, _, _, _⟩) rfl (fun K hK => ?_) ?_
        rotate_left
        · exact AllReadyH.nil
        · have HTa := Lib.hid (txts_src (HTX.out w5.drew HB0.out))
          have HHa := Lib.hid (held_none0 w5.drew)
          refine step_catC (v := .slice none 0 0) (n := 0) rfl _ _ rfl Tryd.underlying22 (.string ⟨#[]⟩) 1 info_strT rfl (by decide) [] (Ar.map Value.string) rfl rfl HHa.out HTa.out.1 HTa.out.2.1 HTa.out.2.2 (one_txt Ar) hb3 hb4 ?_
          intro vq wq hh hg ho
          rw [Nat.zero_add, List.nil_append] at hh
          obtain ⟨pq, cq, rfl, _⟩ := hh.cells
          have HLq : Hid (LfI w5.drew wq (.slice pq na cq) na Ar) := Lib.hid (lf_new hh hg ho)
          clear hh hg ho HTa HHa
          have HBz : Hid (Below w5.heap.size w5 wq) := Lib.hid (HB0.out.trans HLq.out.b)
          refine hK.out _ _ (by exact HCX.out _ (by first | exact HBz.out | exact HBy.out | exact HB0.out)) (fun hHeld => ?_)
          clear hK K
          try simp only [Act.put, List.setIfInBounds_toArray, List.set_cons_zero, List.set_cons_succ]
          refine wpAnyH_take (i := 7) (oi := ⟨_, _, _, _, _, _⟩) (v := ?_) rfl (by kernel_rfl) (by kernel_rfl) (by kernel_rfl) (fun _ _ _ h => h) (Or.inl ⟨by rfl, ?_⟩) hHeld ?_
          rotate_left
          · ((intro w hSw; (try dsimp only at hSw); go_simp) <;> with_reducible rfl)
          try simp only [Act.put, List.setIfInBounds_toArray, List.set_cons_zero, List.set_cons_succ]
          refine wpAnyH_ready (rs := [8]) (by kernel_rfl) (by simp) ?_
          refine AllReadyH.cons (o := ⟨_, _, _, _, _, _⟩) rfl (fun K hK => ?_) ?_
          rotate_left
          · exact AllReadyH.nil
          go_simp
          obtain ⟨wz, xz, e1, e2, HXq, HBx⟩ := box_new wq 0 0 (.slice none 0 0)
          rw [e1, e2]
          have HE2 := Lib.hid e2
          clear e1 e2
          have HBy : Hid (Below w5.heap.size w5 wz) := Lib.hid (below_from HBz.out HBx.out HBz.out.size)
          clear HBz
          have HBz := HBy
          refine hK.out _ _ (by exact HCX.out _ (by first | exact HBz.out | exact HBy.out | exact HB0.out)) (fun hHeld => ?_)
          clear hK K
          try simp only [Act.put, List.setIfInBounds_toArray, List.set_cons_zero, List.set_cons_succ]
          have HLOq : Hid (w5.heap.size ≤ xz) := Lib.hid (by rw [← HE2.out]; exact Nat.le_trans HLq.out.b.size (Nat.le_refl _))
          refine wpAnyH_ready (rs := [9]) (by kernel_rfl) (by simp) ?_
          refine AllReadyH.cons (o := ⟨_, _, _, _, _, _⟩) rfl (fun K hK => ?_) ?_
          rotate_left
          · exact AllReadyH.nil
          obtain ⟨k0, k1, k2⟩ := HXq.out.c
          have f0 : wz.frozen? ⟨xz, 0, none⟩ = false := frozB HXq.out
          have f1 : wz.frozen? ⟨xz, 1, none⟩ = false := frozB HXq.out
          have f2 : wz.frozen? ⟨xz, 2, none⟩ = false := frozB HXq.out
          go_simp
          have HXs : Hid (RBx _ xz ab ae (.slice pq na cq)) := Lib.hid (blk_set3 HXq.out)
          have HBs : Hid (Below w5.heap.size w5 _) := Lib.hid (zero3_end (bs := xz) HBz.out (Below.refl _ _) HLOq.out (.int .i64 ab) (.int .i64 ae) (.slice pq na cq))
          refine hK.out _ _ (by exact HCX.out _ HBs.out) (fun hHeld => ?_)
          clear hK K k0 k1 k2 f0 f1 f2
          try simp only [Act.put, List.setIfInBounds_toArray, List.set_cons_zero, List.set_cons_succ]
          refine wpAnyH_done (by kernel_rfl) ?_ _
          go_wp2_with fail
          go_meet
          refine ⟨xz, pq, cq, rfl, HXs, Lib.hid ⟨HBs.out, ?_, HLq.out.o⟩, HLOq⟩
          exact (HLq.out.h.below HBx.out).keep fun g hg => heap_set3 _ (by have := HLq.out.h.lt hg; rw [HE2.out] at this; omega) _ _ _
        · go_simp
          obtain ⟨wz, xz, e1, e2, HXz, HBx⟩ := box_newD w5 0 0 (.slice none 0 0)
          rw [e1, e2]
          have HE2 := Lib.hid e2
          clear e1 e2
          have HBy := HBx
          refine hK.out _ _ (by exact HCX.out _ (by first | exact HBz.out | exact HBy.out | exact HB0.out)) (fun hHeld => ?_)
          clear hK K
          try simp only [Act.put, List.setIfInBounds_toArray, List.set_cons_zero, List.set_cons_succ]
          refine wpAnyH_ready (rs := [6]) (by kernel_rfl) (by simp) ?_
          refine AllReadyH.cons (o := ⟨_, _, _, _, _, _⟩) rfl (fun K hK => ?_) ?_
          rotate_left
          · exact AllReadyH.nil
          have HTa := Lib.hid (txts_src (HTX.out wz HBy.out))
          have HHa := Lib.hid (held_none0 wz)
          refine step_catC (v := .slice none 0 0) (n := 0) rfl _ _ rfl Tryd.underlying22 (.string ⟨#[]⟩) 1 info_strT rfl (by decide) [] (Ar.map Value.string) rfl rfl HHa.out HTa.out.1 HTa.out.2.1 HTa.out.2.2 (one_txt Ar) hb3 hb4 ?_
          intro vq wq hh hg ho
          rw [Nat.zero_add, List.nil_append] at hh
          obtain ⟨pq, cq, rfl, _⟩ := hh.cells
          have HLq : Hid (LfI wz wq (.slice pq na cq) na Ar) := Lib.hid (lf_new hh hg ho)
          clear hh hg ho HTa HHa
          have HBz : Hid (Below w5.heap.size w5 wq) := Lib.hid (below_from HBy.out HLq.out.b HBy.out.size)
          have HXq := Lib.hid (HXz.out.below HLq.out.b)
          refine hK.out _ _ (by exact HCX.out _ (by first | exact HBz.out | exact HBy.out | exact HB0.out)) (fun hHeld => ?_)
          clear hK K
          try simp only [Act.put, List.setIfInBounds_toArray, List.set_cons_zero, List.set_cons_succ]
          refine wpAnyH_take (i := 7) (oi := ⟨_, _, _, _, _, _⟩) (v := ?_) rfl (by kernel_rfl) (by kernel_rfl) (by kernel_rfl) (fun _ _ _ h => h) (Or.inl ⟨by rfl, ?_⟩) hHeld ?_
          rotate_left
          · ((intro w hSw; (try dsimp only at hSw); go_simp) <;> with_reducible rfl)
          try simp only [Act.put, List.setIfInBounds_toArray, List.set_cons_zero, List.set_cons_succ]
          have HLOq : Hid (w5.heap.size ≤ xz) := Lib.hid (by rw [← HE2.out]; exact Nat.le_refl _)
          refine wpAnyH_ready (rs := [9]) (by kernel_rfl) (by simp) ?_
          refine AllReadyH.cons (o := ⟨_, _, _, _, _, _⟩) rfl (fun K hK => ?_) ?_
          rotate_left
          · exact AllReadyH.nil
          obtain ⟨k0, k1, k2⟩ := HXq.out.c
          have f0 : wq.frozen? ⟨xz, 0, none⟩ = false := frozB HXq.out
          have f1 : wq.frozen? ⟨xz, 1, none⟩ = false := frozB HXq.out
          have f2 : wq.frozen? ⟨xz, 2, none⟩ = false := frozB HXq.out
          go_simp
          have HXs : Hid (RBx _ xz ab ae (.slice pq na cq)) := Lib.hid (blk_set3 HXq.out)
          have HBs : Hid (Below w5.heap.size w5 _) := Lib.hid (zero3_end (bs := xz) HBz.out (Below.refl _ _) HLOq.out (.int .i64 ab) (.int .i64 ae) (.slice pq na cq))
          refine hK.out _ _ (by exact HCX.out _ HBs.out) (fun hHeld => ?_)
          clear hK K k0 k1 k2 f0 f1 f2
          try simp only [Act.put, List.setIfInBounds_toArray, List.set_cons_zero, List.set_cons_succ]
          refine wpAnyH_done (by kernel_rfl) ?_ _
          go_wp2_with fail
          go_meet
          refine ⟨xz, pq, cq, rfl, HXs, Lib.hid ⟨HBs.out, ?_, fun g hg => Nat.le_trans HBy.out.size (HLq.out.o g hg)⟩, HLOq⟩
          exact HLq.out.h.keep fun g hg => heap_set3 _ (by have h1 := HLq.out.o g hg; have h2 := HXz.out.lt; omega) _ _ _
      case rest =>
        obtain ⟨x37, p37, c37, rfl, HX37, HL7, HLO7⟩ := hcut
        clear HCX HTX
        obtain ⟨w7, rfl⟩ : ∃ z, z = wc := ⟨_, rfl⟩
        have HI7 := Lib.hid (HI5.out.below HL7.out.b)
        have HX77 := Lib.hid (HX75.out.below HL7.out.b)
        have HCY : Hid (∀ w', Below w7.heap.size w7 w' → _ ∧ _ ∧ _) := Lib.hid (fun w' hb => ⟨(HX77.out.below hb).c.1, (HX77.out.below hb).c.2.1, (HI7.out.below hb).by'.c.2.2⟩)
        have HTY : Hid (∀ w', Below w7.heap.size w7 w' → _) := Lib.hid (fun w' hb => (HI7.out.below hb).tx.2.2)
        go_upto_region 33 with fail
        go_cut [38] from 212 to 219 (fun xs wx => ∃ (x : Nat) (p : Option Addr) (c : Nat), xs = .pointer (some ⟨x, 0, none⟩) ∧ Hid (RBx wx x bb be (.slice p nb c)) ∧ Hid (LfI w7 wx (.slice p nb c) nb Br) ∧ Hid (w7.heap.size ≤ x))
        case first =>
          have HB0 : Hid (Below w7.heap.size w7 w7.drew) := Lib.hid (Below.refl _ _).drew
          refine wp_region_held_drew (S := fun w' => w'.cell? ⟨x7, 0, none⟩ = some (.int .i64 bb) ∧ w'.cell? ⟨x7, 1, none⟩ = some (.int .i64 be) ∧ w'.cell? ⟨x13, 2, none⟩ = some (.slice (some ⟨gq, 0, none⟩) nb nb8)) (by kernel_rfl) (by exact HCY.out _ (by first | exact HBz.out | exact HBy.out | exact HB0.out)) (fun hHeld => ?_)
          refine wpAnyH_take (i := 0) (oi := ⟨_, _, _, _, _, _⟩) (v := ?_) rfl (by kernel_rfl) (by kernel_rfl) (by kernel_rfl) (fun _ _ _ h => h) (Or.inl ⟨by rfl, ?_⟩) hHeld ?_
          rotate_left
          · ((intro w hSw; (try dsimp only at hSw); go_simp) <;> with_reducible rfl)
          try simp only [Act.put, List.setIfInBounds_toArray, List.set_cons_zero, List.set_cons_succ]
          refine wpAnyH_take (i := 1) (oi := ⟨_, _, _, _, _, _⟩) (v := ?_) rfl (by kernel_rfl) (by kernel_rfl) (by kernel_rfl) (fun _ _ _ h => h) (Or.inl ⟨by rfl, ?_⟩) hHeld ?_
          rotate_left
          · ((intro w hSw; (try dsimp only at hSw); go_simp) <;> with_reducible rfl)
          try simp only [Act.put, List.setIfInBounds_toArray, List.set_cons_zero, List.set_cons_succ]
          refine wpAnyH_take (i := 2) (oi := ⟨_, _, _, _, _, _⟩) (v := ?_) rfl (by kernel_rfl) (by kernel_rfl) (by kernel_rfl) (fun _ _ _ h => h) (Or.inl ⟨by rfl, ?_⟩) hHeld ?_
          rotate_left
          · ((intro w hSw; (try dsimp only at hSw); go_simp) <;> with_reducible rfl)
          try simp only [Act.put, List.setIfInBounds_toArray, List.set_cons_zero, List.set_cons_succ]
          refine wpAnyH_take (i := 3) (oi := ⟨_, _, _, _, _, _⟩) (v := ?_) rfl (by kernel_rfl) (by kernel_rfl) (by kernel_rfl) (fun _ _ _ h => h) (Or.inl ⟨by rfl, ?_⟩) hHeld ?_
          rotate_left
          · ((intro w hSw; (try dsimp only at hSw); go_simp) <;> with_reducible rfl)
          try simp only [Act.put, List.setIfInBounds_toArray, List.set_cons_zero, List.set_cons_succ]
          refine wpAnyH_take (i := 4) (oi := ⟨_, _, _, _, _, _⟩) (v := ?_) rfl (by kernel_rfl) (by kernel_rfl) (by kernel_rfl) (fun _ _ _ h => h) (Or.inl ⟨by rfl, ?_⟩) hHeld ?_
          rotate_left
          · ((intro w hSw; (try dsimp only at hSw); go_simp) <;> with_reducible rfl)
          try simp only [Act.put, List.setIfInBounds_toArray, List.set_cons_zero, List.set_cons_succ]
          refine wpAnyH_take (i := 5) (oi := ⟨_, _, _, _, _, _⟩) (v := ?_) rfl (by kernel_rfl) (by kernel_rfl) (by kernel_rfl) (fun _ _ _ h => h) (Or.inl ⟨by rfl, ?_⟩) hHeld ?_
          rotate_left
          · ((intro w hSw; (try dsimp only at hSw); go_simp) <;> with_reducible rfl)
          try simp only [Act.put, List.setIfInBounds_toArray, List.set_cons_zero, List.set_cons_succ]
          refine wpAnyH_ready (rs := [6, 8]) (by kernel_rfl) (by simp) ?_
          refine AllReadyH.cons (o := ⟨_, _, _, _, _, _⟩) rfl (fun K hK => ?_) ?_
          rotate_left
          refine AllReadyH.cons (o := ⟨_, _, _, _, _, _⟩) rfl (fun K hK => ?_) ?_
          rotate_left
          · exact AllReadyH.nil
          · have HTa := Lib.hid (txts_src (HTY.out w7.drew HB0.out))
            have HHa := Lib.hid (held_none0 w7.drew)
            refine step_catC (v := .slice none 0 0) (n := 0) rfl _ _ rfl Tryd.underlying22 (.string ⟨#[]⟩) 1 info_strT rfl (by decide) [] (Br.map Value.string) rfl rfl HHa.out HTa.out.1 HTa.out.2.1 HTa.out.2.2 (one_txt Br) hb5 hb6 ?_
            intro vq wq hh hg ho
            rw [Nat.zero_add, List.nil_append] at hh
            obtain ⟨pq, cq, rfl, _⟩ := hh.cells
            have HLq : Hid (LfI w7.drew wq (.slice pq nb cq) nb Br) := Lib.hid (lf_new hh hg ho)
            clear hh hg ho HTa HHa
            have HBz : Hid (Below w7.heap.size w7 wq) := Lib.hid (HB0.out.trans HLq.out.b)
            refine hK.out _ _ (by exact HCY.out _ (by first | exact HBz.out | exact HBy.out | exact HB0.out)) (fun hHeld => ?_)
            clear hK K
            try simp only [Act.put, List.setIfInBounds_toArray, List.set_cons_zero, List.set_cons_succ]
            refine wpAnyH_take (i := 7) (oi := ⟨_, _, _, _, _, _⟩) (v := ?_) rfl (by kernel_rfl) (by kernel_rfl) (by kernel_rfl) (fun _ _ _ h => h) (Or.inl ⟨by rfl, ?_⟩) hHeld ?_
            rotate_left
            · ((intro w hSw; (try dsimp only at hSw); go_simp) <;> with_reducible rfl)
            try simp only [Act.put, List.setIfInBounds_toArray, List.set_cons_zero, List.set_cons_succ]
            refine wpAnyH_ready (rs := [8]) (by kernel_rfl) (by simp) ?_
            refine AllReadyH.cons (o := ⟨_, _, _, _, _, _⟩) rfl (fun K hK => ?_) ?_
            rotate_left
            · exact AllReadyH.nil
            go_simp
            obtain ⟨wz, xz, e1, e2, HXq, HBx⟩ := box_new wq 0 0 (.slice none 0 0)
            rw [e1, e2]
            have HE2 := Lib.hid e2
            clear e1 e2
            have HBy : Hid (Below w7.heap.size w7 wz) := Lib.hid (below_from HBz.out HBx.out HBz.out.size)
            clear HBz
            have HBz := HBy
            refine hK.out _ _ (by exact HCY.out _ (by first | exact HBz.out | exact HBy.out | exact HB0.out)) (fun hHeld => ?_)
            clear hK K
            try simp only [Act.put, List.setIfInBounds_toArray, List.set_cons_zero, List.set_cons_succ]
            have HLOq : Hid (w7.heap.size ≤ xz) := Lib.hid (by rw [← HE2.out]; exact Nat.le_trans HLq.out.b.size (Nat.le_refl _))
            refine wpAnyH_ready (rs := [9]) (by kernel_rfl) (by simp) ?_
            refine AllReadyH.cons (o := ⟨_, _, _, _, _, _⟩) rfl (fun K hK => ?_) ?_
            rotate_left
            · exact AllReadyH.nil
            obtain ⟨k0, k1, k2⟩ := HXq.out.c
            have f0 : wz.frozen? ⟨xz, 0, none⟩ = false := frozB HXq.out
            have f1 : wz.frozen? ⟨xz, 1, none⟩ = false := frozB HXq.out
            have f2 : wz.frozen? ⟨xz, 2, none⟩ = false := frozB HXq.out
            go_simp
            have HXs : Hid (RBx _ xz bb be (.slice pq nb cq)) := Lib.hid (blk_set3 HXq.out)
            have HBs : Hid (Below w7.heap.size w7 _) := Lib.hid (zero3_end (bs := xz) HBz.out (Below.refl _ _) HLOq.out (.int .i64 bb) (.int .i64 be) (.slice pq nb cq))
            refine hK.out _ _ (by exact HCY.out _ HBs.out) (fun hHeld => ?_)
            clear hK K k0 k1 k2 f0 f1 f2
            try simp only [Act.put, List.setIfInBounds_toArray, List.set_cons_zero, List.set_cons_succ]
            refine wpAnyH_done (by kernel_rfl) ?_ _
            go_wp2_with fail
            go_meet
            refine ⟨xz, pq, cq, rfl, HXs, Lib.hid ⟨HBs.out, ?_, HLq.out.o⟩, HLOq⟩
            exact (HLq.out.h.below HBx.out).keep fun g hg => heap_set3 _ (by have := HLq.out.h.lt hg; rw [HE2.out] at this; omega) _ _ _
          · go_simp
            obtain ⟨wz, xz, e1, e2, HXz, HBx⟩ := box_newD w7 0 0 (.slice none 0 0)
            rw [e1, e2]
            have HE2 := Lib.hid e2
            clear e1 e2
            have HBy := HBx
            refine hK.out _ _ (by exact HCY.out _ (by first | exact HBz.out | exact HBy.out | exact HB0.out)) (fun hHeld => ?_)
            clear hK K
            try simp only [Act.put, List.setIfInBounds_toArray, List.set_cons_zero, List.set_cons_succ]
            refine wpAnyH_ready (rs := [6]) (by kernel_rfl) (by simp) ?_
            refine AllReadyH.cons (o := ⟨_, _, _, _, _, _⟩) rfl (fun K hK => ?_) ?_
            rotate_left
            · exact AllReadyH.nil
            have HTa := Lib.hid (txts_src (HTY.out wz HBy.out))
            have HHa := Lib.hid (held_none0 wz)
            refine step_catC (v := .slice none 0 0) (n := 0) rfl _ _ rfl Tryd.underlying22 (.string ⟨#[]⟩) 1 info_strT rfl (by decide) [] (Br.map Value.string) rfl rfl HHa.out HTa.out.1 HTa.out.2.1 HTa.out.2.2 (one_txt Br) hb5 hb6 ?_
            intro vq wq hh hg ho
            rw [Nat.zero_add, List.nil_append] at hh
            obtain ⟨pq, cq, rfl, _⟩ := hh.cells
            have HLq : Hid (LfI wz wq (.slice pq nb cq) nb Br) := Lib.hid (lf_new hh hg ho)
            clear hh hg ho HTa HHa
            have HBz : Hid (Below w7.heap.size w7 wq) := Lib.hid (below_from HBy.out HLq.out.b HBy.out.size)
            have HXq := Lib.hid (HXz.out.below HLq.out.b)
            refine hK.out _ _ (by exact HCY.out _ (by first | exact HBz.out | exact HBy.out | exact HB0.out)) (fun hHeld => ?_)
            clear hK K
            try simp only [Act.put, List.setIfInBounds_toArray, List.set_cons_zero, List.set_cons_succ]
            refine wpAnyH_take (i := 7) (oi := ⟨_, _, _, _, _, _⟩) (v := ?_) rfl (by kernel_rfl) (by kernel_rfl) (by kernel_rfl) (fun _ _ _ h => h) (Or.inl ⟨by rfl, ?_⟩) hHeld ?_
            rotate_left
            · ((intro w hSw; (try dsimp only at hSw); go_simp) <;> with_reducible rfl)
            try simp only [Act.put, List.setIfInBounds_toArray, List.set_cons_zero, List.set_cons_succ]
            have HLOq : Hid (w7.heap.size ≤ xz) := Lib.hid (by rw [← HE2.out]; exact Nat.le_refl _)
            refine wpAnyH_ready (rs := [9]) (by kernel_rfl) (by simp) ?_
            refine AllReadyH.cons (o := ⟨_, _, _, _, _, _⟩) rfl (fun K hK => ?_) ?_
            rotate_left
            · exact AllReadyH.nil
            obtain ⟨k0, k1, k2⟩ := HXq.out.c
            have f0 : wq.frozen? ⟨xz, 0, none⟩ = false := frozB HXq.out
            have f1 : wq.frozen? ⟨xz, 1, none⟩ = false := frozB HXq.out
            have f2 : wq.frozen? ⟨xz, 2, none⟩ = false := frozB HXq.out
            go_simp
            have HXs : Hid (RBx _ xz bb be (.slice pq nb cq)) := Lib.hid (blk_set3 HXq.out)
            have HBs : Hid (Below w7.heap.size w7 _) := Lib.hid (zero3_end (bs := xz) HBz.out (Below.refl _ _) HLOq.out (.int .i64 bb) (.int .i64 be) (.slice pq nb cq))
            refine hK.out _ _ (by exact HCY.out _ HBs.out) (fun hHeld => ?_)
            clear hK K k0 k1 k2 f0 f1 f2
            try simp only [Act.put, List.setIfInBounds_toArray, List.set_cons_zero, List.set_cons_succ]
            refine wpAnyH_done (by kernel_rfl) ?_ _
            go_wp2_with fail
            go_meet
            refine ⟨xz, pq, cq, rfl, HXs, Lib.hid ⟨HBs.out, ?_, fun g hg => Nat.le_trans HBy.out.size (HLq.out.o g hg)⟩, HLOq⟩
            exact HLq.out.h.keep fun g hg => heap_set3 _ (by have h1 := HLq.out.o g hg; have h2 := HXz.out.lt; omega) _ _ _
        case rest =>
          obtain ⟨x38, p38, c38, rfl, HX38, HL9, HLO9⟩ := hcut
          clear HCY HTY
          obtain ⟨w9', rfl⟩ : ∃ z, z = wc := ⟨_, rfl⟩
          have HB79 : Hid (Below w5.heap.size w5 w9') := Lib.hid (below_from HL7.out.b HL9.out.b HL7.out.b.size)
          have HI9 := Lib.hid (HI5.out.below HB79.out)
          have HDL : Hid (∀ w', Below w9'.heap.size w9' w' → Txts w' (.slice p5 n c5) Lr ∧ Txts w' (.slice p37 na c37) Ar ∧ Txts w' (.slice p38 nb c38) Br) := Lib.hid (fun w' hb => ⟨(((HL5.out.lf (Nat.le_refl _)).below HB79.out).below hb).tx hll, (((HL7.out.lf (Nat.le_refl _)).below HL9.out.b).below hb).tx hla, ((HL9.out.lf (Nat.le_refl _)).below hb).tx hlb⟩)
          have HX37 := Lib.hid (HX37.out.below HL9.out.b)
          clear HL5 HL7 HL9 HLO7 HLO9 HI5 HI7 HX65 HX75 HX77 HB79 HX6h HX7h HIh hb1 hb2 hb3 hb4 hb5 hb6
          go_upto_region 35 with (go_at_call 31; (with_reducible refine (H6.out.cm w9' _ HI9.out.bl HI9.out.tx.1).mono ?_); rintro r wa ⟨pA, cA, rfl, hA⟩; have HA := hA; clear hA)
          obtain ⟨wb, x17, e7, e8, HX17, HBb⟩ := box_new wa d1 g1 (.slice pA J1.length cA)
          rw [e7, e8]
          clear e7 e8
          have HFb : Hid (Below w9'.heap.size w9' wb) := Lib.hid (below_from HA.out.b HBb.out HA.out.b.size)
          go_upto_region 36 with (go_at_call 32; (with_reducible refine (H6.out.cd wb _ (HDL.out wb HFb.out).1).mono ?_); rintro r wc ⟨pC, cC, rfl, hC⟩; have HC := hC; clear hC)
          obtain ⟨wd, x19, e7, e8, HX19, HBd⟩ := box_new wc d1 g1 (.slice pC J1.length cC)
          rw [e7, e8]
          clear e7 e8
          have HBbd : Hid (Below wb.heap.size wb wd) := Lib.hid (below_from HC.out.b HBd.out HC.out.b.size)
          have HFd : Hid (Below w9'.heap.size w9' wd) := Lib.hid (below_from HFb.out HBbd.out HFb.out.size)
          have HId := Lib.hid (HI9.out.below HFd.out)
          obtain ⟨c00, c01, c02⟩ := HId.out.bx.c
          obtain ⟨c10, c11, c12⟩ := HId.out.by'.c
          go_upto_region 37 with (go_at_call 33; (with_reducible refine (H6.out.jn wd _ _ HId.out.bl HId.out.tx.2.1 HId.out.tx.2.2).mono ?_); rintro r we ⟨pE, cE, rfl, hE⟩; have HE := hE; clear hE)
          obtain ⟨wf, x21, e7, e8, HX21, HBf⟩ := box_new we d2 g2 (.slice pE J2.length cE)
          rw [e7, e8]
          have HE21 := Lib.hid e8
          clear e7 e8 c00 c01 c02 c10 c11 c12
          have HBdf : Hid (Below wd.heap.size wd wf) := Lib.hid (below_from HE.out.b HBf.out HE.out.b.size)
          have HFf : Hid (Below w9'.heap.size w9' wf) := Lib.hid (below_from HFd.out HBdf.out HFd.out.size)
          obtain ⟨c00, c01, c02⟩ := (HX37.out.below HFf.out).c
          obtain ⟨c10, c11, c12⟩ := (HX38.out.below HFf.out).c
          go_upto_region 38 with (go_at_call 34; (with_reducible refine (H6.out.jd wf _ _ (HDL.out wf HFf.out).2.1 (HDL.out wf HFf.out).2.2).mono ?_); rintro r wg ⟨pG, cG, rfl, hG⟩; have HG := hG; clear hG)
          obtain ⟨wh, x23, e7, e8, HX23, HBh⟩ := box_new wg d2 g2 (.slice pG J2.length cG)
          rw [e7, e8]
          clear e7 e8 c00 c01 c02 c10 c11 c12
          have HBfh : Hid (Below wf.heap.size wf wh) := Lib.hid (below_from HG.out.b HBh.out HG.out.b.size)
          have HFh : Hid (Below w9'.heap.size w9' wh) := Lib.hid (below_from HFf.out HBfh.out HFf.out.size)
          have HIh := Lib.hid (HI9.out.below HFh.out)
          obtain ⟨c00, c01, c02⟩ := HIh.out.bx.c
          go_upto_region 39 with (go_at_call 35; (with_reducible refine (H6.out.rt wh _ HIh.out.bl HIh.out.tx.2.1).mono ?_); rintro r wi ⟨rfl, hI⟩; have HBi := Lib.hid hI; clear hI)
          clear c00 c01 c02
          have HFi : Hid (Below w9'.heap.size w9' wi) := Lib.hid (below_from HFh.out HBi.out HFh.out.size)
          obtain ⟨c00, c01, c02⟩ := (HX37.out.below HFi.out).c
          go_upto_region 40 with (go_at_call 36; (with_reducible refine (H6.out.rd wi _ (HDL.out wi HFi.out).2.1).mono ?_); rintro r wj ⟨rfl, hI⟩; have HBj := Lib.hid hI; clear hI)
          clear c00 c01 c02
          have HBhj : Hid (Below wh.heap.size wh wj) := Lib.hid (below_from HBi.out HBj.out HBi.out.size)
          have HBfj : Hid (Below wf.heap.size wf wj) := Lib.hid (below_from HBfh.out HBhj.out HBfh.out.size)
          have HBdj : Hid (Below wd.heap.size wd wj) := Lib.hid (below_from HBdf.out HBfj.out HBdf.out.size)
          have HBbj : Hid (Below wb.heap.size wb wj) := Lib.hid (below_from HBbd.out HBdj.out HBbd.out.size)
          have HS1 : Hid (∀ w', Below wj.heap.size wj w' → _) := Lib.hid (fun w' h => sameRange_yes (b := d1) (e := g1) (w := w') ((((HA.out.tx (by have := H6.out.l1; omega)).below HBb.out (Nat.le_refl _)).below HBbj.out (Nat.le_refl _)).below h (Nat.le_refl _)) ((((HC.out.tx (by have := H6.out.l1; omega)).below HBd.out (Nat.le_refl _)).below HBdj.out (Nat.le_refl _)).below h (Nat.le_refl _)) H6.out.l1)
          have HS2 : Hid (∀ w', Below wj.heap.size wj w' → _) := Lib.hid (fun w' h => sameRange_yes (b := d2) (e := g2) (w := w') ((((HE.out.tx (by have := H6.out.l2; omega)).below HBf.out (Nat.le_refl _)).below HBfj.out (Nat.le_refl _)).below h (Nat.le_refl _)) ((((HG.out.tx (by have := H6.out.l2; omega)).below HBh.out (Nat.le_refl _)).below HBhj.out (Nat.le_refl _)).below h (Nat.le_refl _)) H6.out.l2)
          obtain ⟨c00, c01, c02⟩ := (HX17.out.below HBbj.out).c
          obtain ⟨c10, c11, c12⟩ := (HX19.out.below HBdj.out).c
          go_upto_region 41 with (go_at_call 37; (with_reducible refine (HS1.out wj (Below.refl _ _)).mono ?_); rintro r wk ⟨rfl, hI⟩; have HBk := Lib.hid hI; clear hI)
          clear c00 c01 c02 c10 c11 c12
          obtain ⟨c00, c01, c02⟩ := ((HX21.out.below HBfj.out).below HBk.out).c
          obtain ⟨c10, c11, c12⟩ := ((HX23.out.below HBhj.out).below HBk.out).c
          go_upto_region 44 with (go_at_call 37; (with_reducible refine (HS2.out wk HBk.out).mono ?_); rintro r wm ⟨rfl, hI⟩; have HBm := Lib.hid hI; clear hI)
          clear c00 c01 c02 c10 c11 c12 HS1 HS2
          have HBjm : Hid (Below wj.heap.size wj wm) := Lib.hid (below_from HBk.out HBm.out HBk.out.size)
          have HFm : Hid (Below w9'.heap.size w9' wm) := Lib.hid (below_from HFi.out (below_from HBj.out HBjm.out HBj.out.size) HFi.out.size)
          have HIm := Lib.hid (HI9.out.below HFm.out)
          clear HA HBb HFb HC HBd HBbd HFd HId HE HBf HE21 HBdf HFf HG HBh HBfh HFh HIh HBi HFi HBj HBhj HBfj HBdj HBbj HBk HBm HBjm HX17 HX19 HX21 HX23 HI9 HX37 HX38 HFm HDL H6
          have HIn := Lib.hid (HIm.out.below (Below.refl _ _).drew)
          obtain ⟨c00, c01, c02⟩ := HIm.out.bx.c
          obtain ⟨c10, c11, c12⟩ := HIm.out.by'.c
          have CG := Lib.hid (again5_any HBAS.out (Nat.le_refl _) gl gp gq f ab ae bb be n na nb n8 na8 nb8 Lr Ar Br HIn.out.r HIn.out.bl HIn.out.lo ⟨HIn.out.ne.1, HIn.out.ne.2.1, HIn.out.ne.2.2.1⟩ HIn.out.ln HIn.out.mx)
          go_region_law (first
            | (go_simp; go_at_call 41; (with_reducible refine (CG.out).mono ?_); rintro r wz ⟨rfl, h⟩; have HZ := Lib.hid h; clear h)
            | fail)
          all_goals
            go_wp2_with fail
            go_ret
            exact ⟨rfl, HZ.out⟩
end Go.Proofs.YtdbghgpohdijfaaDoor
