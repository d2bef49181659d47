/- The document's RootOf. -/
import Derived.Test.YtdbghgpohdijfaaDoorMa65
namespace Go.Proofs.YtdbghgpohdijfaaDoor
open Go.RowKit Go.Scr
set_option linter.unusedVariables false
theorem rgE_form {b e : Int} {H : List ByteArray} : (fmW b e H = true → rgE b e H = 50) ∧ (fmW b e H = false → rgE b e H = if ok32 H = false then 52 else 0) := by
  unfold fmW rgE
  refine ⟨fun h => ?_, fun h => ?_⟩
  · have h := of_decide_eq_true h
    by_cases h1 : b < 0 ∨ e < b ∨ 1099511627776 < e
    · rw [if_pos h1]
    · rw [if_neg h1, if_pos]
      rcases h with h | h | h | h
      · exact absurd (.inl h) h1
      · exact absurd (.inr (.inl h)) h1
      · exact absurd (.inr (.inr h)) h1
      · exact h
  · have h := of_decide_eq_false h
    rw [if_neg (fun h1 => h (by rcases h1 with h1 | h1 | h1; exact .inl h1; exact .inr (.inl h1); exact .inr (.inr (.inl h1)))), if_neg (fun h1 => h (.inr (.inr (.inr h1))))]
end Go.Proofs.YtdbghgpohdijfaaDoor
/- The document's Join (printed by gen_fsf.py). -/
namespace Go.Proofs.YtdbghgpohdijfaaDoor
open Go.RowKit Go.Scr
set_option linter.unusedVariables false
/-- Join's answer -/
def JnO (w : World) (ab ae be : Int) (A B : List ByteArray) (E : Int) (o : Ending) (w' : World) : Prop := ∃ (b e : Int) (KL : List ByteArray), ((E ≠ 0 ∧ b = 0 ∧ e = 0 ∧ KL = []) ∨ (E = 0 ∧ b = ab ∧ e = be ∧ KL = jnT ab.toNat ae.toNat be.toNat A B)) ∧ RgP w b e KL E o w'
theorem JnO.err {w : World} {ab ae be : Int} {A B : List ByteArray} {E : Int} {o : Ending} {w' : World} (hE : E ≠ 0) (h : RgP w 0 0 [] E o w') : JnO w ab ae be A B E o w' := ⟨0, 0, [], .inl ⟨hE, rfl, rfl, rfl⟩, h⟩
theorem JnO.ok {w : World} {ab ae be : Int} {A B : List ByteArray} {o : Ending} {w' : World} (b e : Int) (KL : List ByteArray) (hb : b = ab) (he : e = be) (hK : KL = jnT ab.toNat ae.toNat be.toNat A B) (h : RgP w b e KL 0 o w') : JnO w ab ae be A B 0 o w' := ⟨b, e, KL, .inr ⟨rfl, hb, he, hK⟩, h⟩
theorem jnE_form {ab ae bb be : Int} {A B : List ByteArray} : jnE ab ae A bb be B = if fmW ab ae A = true then 50 else if fmW bb be B = true then 50 else if ok32 A = false ∨ ok32 B = false then 52 else if ae ≠ bb then 51 else 0 := by
  unfold jnE
  cases h1 : fmW ab ae A with
  | true => rw [rgE_form.1 h1, if_pos (.inl rfl)]; rfl
  | false =>
    rw [rgE_form.2 h1]
    cases h2 : fmW bb be B with
    | true => rw [rgE_form.1 h2, if_pos (.inr rfl)]; rfl
    | false =>
      rw [rgE_form.2 h2]
      cases h3 : ok32 A <;> cases h4 : ok32 B <;> simp
theorem held_txts5 {w : World} {v : Value} {n : Nat} {L : List ByteArray} (h : Held w 9 1 v n (L.map Value.string)) (hn : n = L.length) (hl : L.length ≤ 4194304) : Txts w v L := by
  obtain ⟨p, c, rfl, h1, _, h2⟩ := h.cells
  refine ⟨p, c, by rw [hn], by omega, by omega, fun j s hs => ?_⟩
  obtain ⟨a, ha, _, hc⟩ := h2 j (.string s) (by rw [List.getElem?_map, hs]; rfl)
  exact ⟨a, ha, hc⟩
set_option maxRecDepth 100000 in
set_option maxHeartbeats 32000000 in
theorem join5_any {w : World} {ab ae bb be : Int} {va vb : Value} {A B : List ByteArray} (hva : Txts w va A) (hvb : Txts w vb B) :
    Calls Tryd.prog 34 #[.agg #[.int .i64 ab, .int .i64 ae, va], .agg #[.int .i64 bb, .int .i64 be, vb]] w (JnO w ab ae be A B (jnE ab ae A bb be B)) := by
  obtain ⟨w3, hw3⟩ : ∃ x, x = ((w.alloc (.cells #[.int .i64 ab, .int .i64 ae, va] 68)).alloc (.cells #[.int .i64 bb, .int .i64 be, vb] 68)).alloc (.cells #[.int .i64 0, .int .i64 0, .slice none 0 0] 68) := ⟨_, rfl⟩
  obtain ⟨x0, x1, x2, x3⟩ := three_blocks w #[.int .i64 ab, .int .i64 ae, va] #[.int .i64 bb, .int .i64 be, vb] #[.int .i64 0, .int .i64 0, .slice none 0 0] 68 68 68
  rw [← hw3] at x0 x1 x2 x3
  obtain ⟨ba, hba⟩ : ∃ x, x = w.heap.size := ⟨_, rfl⟩
  obtain ⟨bc, hbc⟩ : ∃ x, x = w.heap.size + 1 := ⟨_, rfl⟩
  obtain ⟨bs, hbs⟩ : ∃ x, x = w.heap.size + 1 + 1 := ⟨_, rfl⟩
  rw [← hba] at x0
  rw [← hbc] at x1
  rw [← hbs] at x2
  have HXX : Hid (∀ w', Below w3.heap.size w3 w' → w'.heap[ba]? = some (.cells #[.int .i64 ab, .int .i64 ae, va] 68 (0, 0)) ∧ w'.heap[bc]? = some (.cells #[.int .i64 bb, .int .i64 be, vb] 68 (0, 0)) ∧ w'.heap[bs]? = some (.cells #[.int .i64 0, .int .i64 0, .slice none 0 0] 68 (0, 0))) := Lib.hid (fun w' hb => ⟨blk_below x0 hb (blk_lt x0), blk_below x1 hb (blk_lt x1), blk_below x2 hb (blk_lt x2)⟩)
  obtain ⟨F1, hF1⟩ : ∃ F, F = fmW ab ae A := ⟨_, rfl⟩
  obtain ⟨F2, hF2⟩ : ∃ F, F = fmW bb be B := ⟨_, rfl⟩
  obtain ⟨o1, ho1⟩ : ∃ b, b = ok32 A := ⟨_, rfl⟩
  obtain ⟨o2, ho2⟩ : ∃ b, b = ok32 B := ⟨_, rfl⟩
  obtain ⟨E, hE⟩ : ∃ E, E = jnE ab ae A bb be B := ⟨_, rfl⟩
  rw [← hE]
  have hE2 : E = if F1 = true then 50 else if F2 = true then 50 else if o1 = false ∨ o2 = false then 52 else if ae ≠ bb then 51 else 0 := by rw [hE, jnE_form, hF1, hF2, ho1, ho2]
  have HEE := Lib.hid hE2
  have HJE : Hid (E = jnE ab ae A bb be B) := Lib.hid hE
  have HTX : Hid (∀ w', Below w3.heap.size w3 w' → Txts w' va A ∧ Txts w' vb B) := Lib.hid (fun w' hb => ⟨(hva.below x3 (Nat.le_refl _)).below hb (Nat.le_refl _), (hvb.below x3 (Nat.le_refl _)).below hb (Nat.le_refl _)⟩)
  have CW1 : Hid (∀ w', Below w3.heap.size w3 w' → Calls Tryd.prog 93 #[.agg #[.int .i64 ab, .int .i64 ae, va]] w' fun o z => o = .returned (.bool F1) ∧ Below w'.heap.size w' z) := Lib.hid (fun w' hb => by rw [hF1]; exact wrong5_any w' (HTX.out w' hb).1)
  have CW2 : Hid (∀ w', Below w3.heap.size w3 w' → Calls Tryd.prog 93 #[.agg #[.int .i64 bb, .int .i64 be, vb]] w' fun o z => o = .returned (.bool F2) ∧ Below w'.heap.size w' z) := Lib.hid (fun w' hb => by rw [hF2]; exact wrong5_any w' (HTX.out w' hb).2)
  have CH1 : Hid (∀ w', Below w3.heap.size w3 w' → Calls Tryd.prog 90 #[va] w' fun e z => e = .returned (.bool o1) ∧ z = w') := Lib.hid (fun w' hb => by rw [ho1]; exact hashes5_any va A w' (HTX.out w' hb).1)
  have CH2 : Hid (∀ w', Below w3.heap.size w3 w' → Calls Tryd.prog 90 #[vb] w' fun e z => e = .returned (.bool o2) ∧ z = w') := Lib.hid (fun w' hb => by rw [ho2]; exact hashes5_any vb B w' (HTX.out w' hb).2)
  obtain ⟨pa, na, ca, rfl⟩ : ∃ p n c, va = .slice p n c := by obtain ⟨p, c, h, _⟩ := hva; exact ⟨p, _, c, h⟩
  obtain ⟨pb, nb, cb, rfl⟩ : ∃ p n c, vb = .slice p n c := by obtain ⟨p, c, h, _⟩ := hvb; exact ⟨p, _, c, h⟩
  have HB1 : Hid (Below w.heap.size w w3 ∧ w.heap.size ≤ bs) := Lib.hid ⟨x3, by omega⟩
  have HLT3 : Hid (ba < w3.heap.size ∧ bc < w3.heap.size ∧ bs < w3.heap.size) := Lib.hid ⟨blk_lt x0, blk_lt x1, blk_lt x2⟩
  have c0 : w3.cell? ⟨ba, 0, none⟩ = some (.int .i64 ab) := cellB x0 rfl
  have c1 : w3.cell? ⟨ba, 1, none⟩ = some (.int .i64 ae) := cellB x0 rfl
  have c2 : w3.cell? ⟨ba, 2, none⟩ = some (.slice pa na ca) := cellB x0 rfl
  have HW3 := Lib.hid hw3
  have HBA := Lib.hid hba
  have HBC := Lib.hid hbc
  have HBS := Lib.hid hbs
  have HB0 : Hid (Below w3.heap.size w3 w3) := Lib.hid (Below.refl _ _)
  clear hva hvb hw3 hba hbc hbs x0 x1 x2 x3 hF1 hF2 ho1 ho2 hE hE2
  go_enter Tryd.func34, Tryd.ntmps34
  go_upto_region 1 with fail
  rw [← HW3.out, ← HBS.out, ← HBC.out, ← HBA.out]
  go_upto_region 2 with (go_at_call 93; with_reducible refine (CW1.out _ HB0.out).mono ?_; rintro o w4 ⟨rfl, h⟩; have H4 : Hid (Below w3.heap.size w3 w4) := Lib.hid h; clear h)
  clear c0 c1 c2
  cases F1 with
  | true =>
    obtain rfl : E = 50 := by rw [HEE.out]; rfl
    obtain ⟨hxa, hxc, hxs⟩ := HXX.out _ H4.out
    have k0 : w4.cell? ⟨bs, 0, none⟩ = some (.int .i64 0) := cellB hxs rfl
    have k1 : w4.cell? ⟨bs, 1, none⟩ = some (.int .i64 0) := cellB hxs rfl
    have k2 : w4.cell? ⟨bs, 2, none⟩ = some (.slice none 0 0) := cellB hxs rfl
    have f0 : w4.frozen? ⟨bs, 0, none⟩ = false := frozB hxs
    have f1 : w4.frozen? ⟨bs, 1, none⟩ = false := frozB hxs
    have f2 : w4.frozen? ⟨bs, 2, none⟩ = false := frozB hxs
    have HX6 := Lib.hid (blk_set3 (x := .int .i64 0) (y := .int .i64 0) (z := .slice none 0 0) hxs)
    clear hxa hxc hxs
    go_wp2_with fail
    have m0 := cellB (k := 0) HX6.out rfl
    have m1 := cellB (k := 1) HX6.out rfl
    have m2 := cellB (k := 2) HX6.out rfl
    refine bodyPost_ret (v := .tuple #[.agg #[.int .i64 0, .int .i64 0, .slice none 0 0], .int .i64 50]) (by simp [results, Tryd.results34, go_sem, m0, m1, m2]) rfl ?_
    exact JnO.err (by decide) ⟨_, rfl, zero3_end HB1.out.1 H4.out HB1.out.2 _ _ _, ⟨rfl, .inl ⟨rfl, rfl⟩⟩, fun g hg => nomatch hg⟩
  | false =>
    obtain ⟨hxa, hxc, hxs⟩ := HXX.out _ H4.out
    have c0 : w4.cell? ⟨bc, 0, none⟩ = some (.int .i64 bb) := cellB hxc rfl
    have c1 : w4.cell? ⟨bc, 1, none⟩ = some (.int .i64 be) := cellB hxc rfl
    have c2 : w4.cell? ⟨bc, 2, none⟩ = some (.slice pb nb cb) := cellB hxc rfl
    clear hxa hxc hxs
    go_upto_region 5 with (go_at_call 93; with_reducible refine (CW2.out _ H4.out).mono ?_; rintro o w5 ⟨rfl, h⟩; have H5 : Hid (Below w3.heap.size w3 w5) := Lib.hid (H4.out.trans (h.mono H4.out.size)); clear h)
    clear c0 c1 c2
    cases F2 with
    | true =>
      obtain rfl : E = 50 := by rw [HEE.out]; simp
      obtain ⟨hxa, hxc, hxs⟩ := HXX.out _ H5.out
      have k0 : w5.cell? ⟨bs, 0, none⟩ = some (.int .i64 0) := cellB hxs rfl
      have k1 : w5.cell? ⟨bs, 1, none⟩ = some (.int .i64 0) := cellB hxs rfl
      have k2 : w5.cell? ⟨bs, 2, none⟩ = some (.slice none 0 0) := cellB hxs rfl
      have f0 : w5.frozen? ⟨bs, 0, none⟩ = false := frozB hxs
      have f1 : w5.frozen? ⟨bs, 1, none⟩ = false := frozB hxs
      have f2 : w5.frozen? ⟨bs, 2, none⟩ = false := frozB hxs
      have HX6 := Lib.hid (blk_set3 (x := .int .i64 0) (y := .int .i64 0) (z := .slice none 0 0) hxs)
      clear hxa hxc hxs
      go_wp2_with fail
      have m0 := cellB (k := 0) HX6.out rfl
      have m1 := cellB (k := 1) HX6.out rfl
      have m2 := cellB (k := 2) HX6.out rfl
      refine bodyPost_ret (v := .tuple #[.agg #[.int .i64 0, .int .i64 0, .slice none 0 0], .int .i64 50]) (by simp [results, Tryd.results34, go_sem, m0, m1, m2]) rfl ?_
      exact JnO.err (by decide) ⟨_, rfl, zero3_end HB1.out.1 H5.out HB1.out.2 _ _ _, ⟨rfl, .inl ⟨rfl, rfl⟩⟩, fun g hg => nomatch hg⟩
    | false =>
      obtain ⟨hxa, hxc, hxs⟩ := HXX.out _ H5.out
      have c0 : w5.cell? ⟨ba, 1, none⟩ = some (.int .i64 ae) := cellB hxa rfl
      have c1 : w5.cell? ⟨bc, 0, none⟩ = some (.int .i64 bb) := cellB hxc rfl
      have c2 : w5.cell? ⟨ba, 2, none⟩ = some (.slice pa na ca) := cellB hxa rfl
      have c3 : w5.cell? ⟨bc, 2, none⟩ = some (.slice pb nb cb) := cellB hxc rfl
      clear hxa hxc hxs
      go_upto_region 9 with (first
        | (go_at_call 90; (with_reducible refine (CH1.out _ H5.out).mono ?_); rintro o w' ⟨rfl, hww⟩; rw [hww]; clear hww w')
        | (go_at_call 90; (with_reducible refine (CH2.out _ H5.out).mono ?_); rintro o w' ⟨rfl, hww⟩; rw [hww]; clear hww w'))
      cases o1 with
      | false =>
        obtain rfl : E = 52 := by rw [HEE.out]; simp
        obtain ⟨hxa, hxc, hxs⟩ := HXX.out _ H5.out
        have k0 : w5.cell? ⟨bs, 0, none⟩ = some (.int .i64 0) := cellB hxs rfl
        have k1 : w5.cell? ⟨bs, 1, none⟩ = some (.int .i64 0) := cellB hxs rfl
        have k2 : w5.cell? ⟨bs, 2, none⟩ = some (.slice none 0 0) := cellB hxs rfl
        have f0 : w5.frozen? ⟨bs, 0, none⟩ = false := frozB hxs
        have f1 : w5.frozen? ⟨bs, 1, none⟩ = false := frozB hxs
        have f2 : w5.frozen? ⟨bs, 2, none⟩ = false := frozB hxs
        have HX6 := Lib.hid (blk_set3 (x := .int .i64 0) (y := .int .i64 0) (z := .slice none 0 0) hxs)
        clear hxa hxc hxs
        go_wp2_with fail
        have m0 := cellB (k := 0) HX6.out rfl
        have m1 := cellB (k := 1) HX6.out rfl
        have m2 := cellB (k := 2) HX6.out rfl
        refine bodyPost_ret (v := .tuple #[.agg #[.int .i64 0, .int .i64 0, .slice none 0 0], .int .i64 52]) (by simp [results, Tryd.results34, go_sem, m0, m1, m2]) rfl ?_
        exact JnO.err (by decide) ⟨_, rfl, zero3_end HB1.out.1 H5.out HB1.out.2 _ _ _, ⟨rfl, .inl ⟨rfl, rfl⟩⟩, fun g hg => nomatch hg⟩
      | true =>
        cases o2 with
        | false =>
          obtain rfl : E = 52 := by rw [HEE.out]; simp
          obtain ⟨hxa, hxc, hxs⟩ := HXX.out _ H5.out
          have k0 : w5.cell? ⟨bs, 0, none⟩ = some (.int .i64 0) := cellB hxs rfl
          have k1 : w5.cell? ⟨bs, 1, none⟩ = some (.int .i64 0) := cellB hxs rfl
          have k2 : w5.cell? ⟨bs, 2, none⟩ = some (.slice none 0 0) := cellB hxs rfl
          have f0 : w5.frozen? ⟨bs, 0, none⟩ = false := frozB hxs
          have f1 : w5.frozen? ⟨bs, 1, none⟩ = false := frozB hxs
          have f2 : w5.frozen? ⟨bs, 2, none⟩ = false := frozB hxs
          have HX6 := Lib.hid (blk_set3 (x := .int .i64 0) (y := .int .i64 0) (z := .slice none 0 0) hxs)
          clear hxa hxc hxs
          go_wp2_with fail
          have m0 := cellB (k := 0) HX6.out rfl
          have m1 := cellB (k := 1) HX6.out rfl
          have m2 := cellB (k := 2) HX6.out rfl
          refine bodyPost_ret (v := .tuple #[.agg #[.int .i64 0, .int .i64 0, .slice none 0 0], .int .i64 52]) (by simp [results, Tryd.results34, go_sem, m0, m1, m2]) rfl ?_
          exact JnO.err (by decide) ⟨_, rfl, zero3_end HB1.out.1 H5.out HB1.out.2 _ _ _, ⟨rfl, .inl ⟨rfl, rfl⟩⟩, fun g hg => nomatch hg⟩
        | true =>
          by_cases hgap : ae = bb
          case neg =>
            obtain rfl : E = 51 := by rw [HEE.out]; simp [hgap]
            have q1 : (ae == bb) = false := beq_eq_false_iff_ne.2 hgap
            clear hgap
            obtain ⟨hxa, hxc, hxs⟩ := HXX.out _ H5.out
            have k0 : w5.cell? ⟨bs, 0, none⟩ = some (.int .i64 0) := cellB hxs rfl
            have k1 : w5.cell? ⟨bs, 1, none⟩ = some (.int .i64 0) := cellB hxs rfl
            have k2 : w5.cell? ⟨bs, 2, none⟩ = some (.slice none 0 0) := cellB hxs rfl
            have f0 : w5.frozen? ⟨bs, 0, none⟩ = false := frozB hxs
            have f1 : w5.frozen? ⟨bs, 1, none⟩ = false := frozB hxs
            have f2 : w5.frozen? ⟨bs, 2, none⟩ = false := frozB hxs
            have HX6 := Lib.hid (blk_set3 (x := .int .i64 0) (y := .int .i64 0) (z := .slice none 0 0) hxs)
            clear hxa hxc hxs
            go_wp2_with fail
            have m0 := cellB (k := 0) HX6.out rfl
            have m1 := cellB (k := 1) HX6.out rfl
            have m2 := cellB (k := 2) HX6.out rfl
            refine bodyPost_ret (v := .tuple #[.agg #[.int .i64 0, .int .i64 0, .slice none 0 0], .int .i64 51]) (by simp [results, Tryd.results34, go_sem, m0, m1, m2]) rfl ?_
            exact JnO.err (by decide) ⟨_, rfl, zero3_end HB1.out.1 H5.out HB1.out.2 _ _ _, ⟨rfl, .inl ⟨rfl, rfl⟩⟩, fun g hg => nomatch hg⟩
          obtain rfl : E = 0 := by rw [HEE.out]; simp [hgap]
          obtain ⟨n, m, k, rfl, rfl, rfl, rfl, hnm, hmk, hk40, hAl, hBl, _, _⟩ := jnE_ok HJE.out.symm
          clear hgap HEE HJE CW1 CW2 CH1 CH2 c2 c3
          obtain ⟨A1, hA1⟩ : ∃ A, A = cutA n m := ⟨_, rfl⟩
          obtain ⟨A2, hA2⟩ : ∃ A, A = cutA m k := ⟨_, rfl⟩
          obtain ⟨A3, hA3⟩ : ∃ A, A = cutA n k := ⟨_, rfl⟩
          obtain ⟨n1, hn1⟩ : ∃ x, x = A1.length := ⟨_, rfl⟩
          obtain ⟨n2, hn2⟩ : ∃ x, x = A2.length := ⟨_, rfl⟩
          obtain ⟨n3, hn3⟩ : ∃ x, x = A3.length := ⟨_, rfl⟩
          have hn1b : n1 ≤ 80 := by rw [hn1, hA1]; exact cutA_80 (by omega)
          have hn2b : n2 ≤ 80 := by rw [hn2, hA2]; exact cutA_80 (by omega)
          have hn3b : n3 ≤ 80 := by rw [hn3, hA3]; exact cutA_80 (by omega)
          have hnaA : na = A.length := by obtain ⟨_, _, h, _⟩ := (HTX.out w3 HB0.out).1; injection h
          have hnbB : nb = B.length := by obtain ⟨_, _, h, _⟩ := (HTX.out w3 HB0.out).2; injection h
          have hnan1 : na = n1 := by rw [hnaA, hn1, hA1, hAl]
          have hnbn2 : nb = n2 := by rw [hnbB, hn2, hA2, hBl]
          obtain ⟨nk, hnk⟩ : ∃ x, n1 + n2 = x := ⟨_, rfl⟩
          obtain ⟨nh, hnh⟩ : ∃ x, na + nb = x := ⟨_, rfl⟩
          obtain ⟨KK, hKK⟩ : ∃ K, K = A1 ++ A2 := ⟨_, rfl⟩
          obtain ⟨HH, hHH⟩ : ∃ K, K = A ++ B := ⟨_, rfl⟩
          have HLEN : Hid (KK.length = nk ∧ HH.length = nh ∧ nk ≤ nh ∧ nk ≤ 1048576 ∧ n1 + n2 = nk ∧ na + nb = nh) := Lib.hid ⟨by rw [hKK, List.length_append, ← hn1, ← hn2, hnk], by rw [hHH, List.length_append, ← hnaA, ← hnbB, hnh], by omega, by omega, hnk, hnh⟩
          have hnhb : nh ≤ 4194304 := by omega
          obtain ⟨KL, hKL⟩ : ∃ K, K = jnT n m k A B := ⟨_, rfl⟩
          have HKA : Hid (KL.length = n3 ∧ (∀ (j : Nat) (x : Nat × Nat), A3[j]? = some x → KL[j]? = some (valK nodeS KK HH x.1 x.2)) ∧ KL = jnT n m k A B) := Lib.hid (by
            have h1 : KL = A3.map fun x => valK nodeS KK HH x.1 x.2 := by rw [hKL, hA3, hKK, hHH, hA1, hA2]; unfold jnT nodesA rowA; rw [List.map_map]; rfl
            exact ⟨by rw [h1, List.length_map, hn3], fun j x hx => by rw [h1, List.getElem?_map, hx]; rfl, hKL⟩)
          have HAI : Hid (A3.length = n3 ∧ ∀ (j : Nat) (x : Nat × Nat), A3[j]? = some x → Cv KK x.1 x.2 ∧ x.1 + 2 ^ x.2 ≤ 1099511627776) := Lib.hid ⟨hn3.symm, fun j x hx => by
            have hm : x ∈ cutA n k := by rw [← hA3]; exact List.mem_of_getElem? hx
            have h1 := join_cv hnm hmk x hm
            have h2 := cutA_in _ n rfl hm
            rw [hKK, hA1, hA2]
            exact ⟨h1, by omega⟩⟩
          have CC1 : Hid (∀ w', Calls Tryd.prog 74 #[.int .i64 (n : Int), .int .i64 (m : Int)] w' fun o z => ∃ u, o = .returned u ∧ CwI w' z u n1 A1) := Lib.hid (fun w' => by rw [hn1, hA1]; exact cut5_any n m w' hnm (by omega))
          have CC2 : Hid (∀ w', Calls Tryd.prog 74 #[.int .i64 (m : Int), .int .i64 (k : Int)] w' fun o z => ∃ u, o = .returned u ∧ CwI w' z u n2 A2) := Lib.hid (fun w' => by rw [hn2, hA2]; exact cut5_any m k w' hmk hk40)
          have CC3 : Hid (∀ w', Calls Tryd.prog 74 #[.int .i64 (n : Int), .int .i64 (k : Int)] w' fun o z => ∃ u, o = .returned u ∧ CwI w' z u n3 A3) := Lib.hid (fun w' => by rw [hn3, hA3]; exact cut5_any n k w' (by omega) hk40)
          have CP : Hid (∀ w', Below w3.heap.size w3 w' → Calls Tryd.prog 80 #[.slice pa na ca] w' fun o z => ∃ u, o = .returned u ∧ LfI w' z u na A) := Lib.hid (fun w' hb => by
            have := copied5_any _ A w' (HTX.out w' hb).1 (by omega)
            rwa [← hnaA] at this)
          have HCAT : Hid (cuV A1 ++ cuV A2 = cuV KK ∧ A.map Value.string ++ B.map Value.string = HH.map Value.string) := Lib.hid ⟨by rw [hKK, cuV_append], by rw [hHH, List.map_append]⟩
          have HSX : Hid (∀ w' : World, (∀ i : Nat, i < w3.heap.size → w'.heap[i]? = w5.heap[i]?) → w'.cell? ⟨ba, 0, none⟩ = some (.int .i64 (n : Int)) ∧ w'.cell? ⟨ba, 1, none⟩ = some (.int .i64 (m : Int)) ∧ w'.cell? ⟨bc, 0, none⟩ = some (.int .i64 (m : Int)) ∧ w'.cell? ⟨bc, 1, none⟩ = some (.int .i64 (k : Int)) ∧ w'.cell? ⟨ba, 2, none⟩ = some (.slice pa na ca) ∧ w'.cell? ⟨bc, 2, none⟩ = some (.slice pb nb cb)) := Lib.hid (fun w' hb => by
            obtain ⟨hxa, hxc, _⟩ := HXX.out _ H5.out
            have h1 := (hb ba HLT3.out.1).trans hxa
            have h2 := (hb bc HLT3.out.2.1).trans hxc
            exact ⟨cellB h1 rfl, cellB h1 rfl, cellB h2 rfl, cellB h2 rfl, cellB h1 rfl, cellB h2 rfl⟩)
          have HONEk : Hid (∀ u ∈ cuV A2, u.oneCell' = true) := Lib.hid (fun u hu => by
            unfold cuV at hu
            obtain ⟨y, _, hy⟩ := List.mem_flatMap.1 hu
            rcases List.mem_cons.1 hy with rfl | hy
            · rfl
            · rw [List.mem_singleton.1 hy]; rfl)
          have HONEb : Hid (∀ u ∈ B.map Value.string, u.oneCell' = true) := Lib.hid (fun u hu => by obtain ⟨y, _, rfl⟩ := List.mem_map.1 hu; rfl)
          have hlk1 : (n1 + n2) * 16 ≤ 140737488355328 := by omega
          have hlk2 : n1 + n2 ≤ 140737488355328 := by omega
          have hlh1 : (na + nb) * 16 ≤ 140737488355328 := by omega
          have hlh2 : na + nb ≤ 140737488355328 := by omega
          have hnb' : n ≤ 1099511627776 := by omega
          have hmb' : m ≤ 1099511627776 := by omega
          have H35 : Hid (w3.heap.size ≤ w5.heap.size) := Lib.hid H5.out.size
          have HS0 := Lib.hid (HSX.out w5.drew (fun i _ => rfl))
          clear hA1 hA2 hA3 hn1 hn2 hn3 hnaA hnbB hnan1 hnbn2 hKK hHH hKL hAl hBl hnm hmk hnk hnh
          go_upto_region 13 with fail
          clear c0 c1
          refine wp_region_held_drew (S := fun w' => w'.cell? ⟨ba, 0, none⟩ = some (.int .i64 (n : Int)) ∧ w'.cell? ⟨ba, 1, none⟩ = some (.int .i64 (m : Int)) ∧ w'.cell? ⟨bc, 0, none⟩ = some (.int .i64 (m : Int)) ∧ w'.cell? ⟨bc, 1, none⟩ = some (.int .i64 (k : Int)) ∧ w'.cell? ⟨ba, 2, none⟩ = some (.slice pa na ca) ∧ w'.cell? ⟨bc, 2, none⟩ = some (.slice pb nb cb)) (by kernel_rfl) (by first | exact HS6.out | exact HS5.out | exact HS4.out | exact HS3.out | exact HS2.out | exact HS1.out | exact HS0.out) (fun hHeld => ?_)
          refine wpAnyH_take (i := 0) (oi := ⟨_, _, _, _, _, _⟩) (v := ?_) rfl (by kernel_rfl) (by kernel_rfl) (by kernel_rfl) (fun _ _ _ h => h) (Or.inl ⟨by rfl, ?_⟩) hHeld ?_
          rotate_left
          · ((intro w hSw; (try dsimp only at hSw); go_simp) <;> with_reducible rfl)
          try simp only [Act.put, List.setIfInBounds_toArray, List.set_cons_zero, List.set_cons_succ]
          refine wpAnyH_take (i := 1) (oi := ⟨_, _, _, _, _, _⟩) (v := ?_) rfl (by kernel_rfl) (by kernel_rfl) (by kernel_rfl) (fun _ _ _ h => h) (Or.inl ⟨by rfl, ?_⟩) hHeld ?_
          rotate_left
          · ((intro w hSw; (try dsimp only at hSw); go_simp) <;> with_reducible rfl)
          try simp only [Act.put, List.setIfInBounds_toArray, List.set_cons_zero, List.set_cons_succ]
          refine wpAnyH_take (i := 2) (oi := ⟨_, _, _, _, _, _⟩) (v := ?_) rfl (by kernel_rfl) (by kernel_rfl) (by kernel_rfl) (fun _ _ _ h => h) (Or.inl ⟨by rfl, ?_⟩) hHeld ?_
          rotate_left
          · ((intro w hSw; (try dsimp only at hSw); go_simp) <;> with_reducible rfl)
          try simp only [Act.put, List.setIfInBounds_toArray, List.set_cons_zero, List.set_cons_succ]
          refine wpAnyH_take (i := 3) (oi := ⟨_, _, _, _, _, _⟩) (v := ?_) rfl (by kernel_rfl) (by kernel_rfl) (by kernel_rfl) (fun _ _ _ h => h) (Or.inl ⟨by rfl, ?_⟩) hHeld ?_
          rotate_left
          · ((intro w hSw; (try dsimp only at hSw); go_simp) <;> with_reducible rfl)
          try simp only [Act.put, List.setIfInBounds_toArray, List.set_cons_zero, List.set_cons_succ]
          refine wpAnyH_take (i := 5) (oi := ⟨_, _, _, _, _, _⟩) (v := ?_) rfl (by kernel_rfl) (by kernel_rfl) (by kernel_rfl) (fun _ _ _ h => h) (Or.inl ⟨by rfl, ?_⟩) hHeld ?_
          rotate_left
          · ((intro w hSw; (try dsimp only at hSw); go_simp) <;> with_reducible rfl)
          try simp only [Act.put, List.setIfInBounds_toArray, List.set_cons_zero, List.set_cons_succ]
          refine wpAnyH_take (i := 6) (oi := ⟨_, _, _, _, _, _⟩) (v := ?_) rfl (by kernel_rfl) (by kernel_rfl) (by kernel_rfl) (fun _ _ _ h => h) (Or.inl ⟨by rfl, ?_⟩) hHeld ?_
          rotate_left
          · ((intro w hSw; (try dsimp only at hSw); go_simp) <;> with_reducible rfl)
          try simp only [Act.put, List.setIfInBounds_toArray, List.set_cons_zero, List.set_cons_succ]
          refine wpAnyH_take (i := 7) (oi := ⟨_, _, _, _, _, _⟩) (v := ?_) rfl (by kernel_rfl) (by kernel_rfl) (by kernel_rfl) (fun _ _ _ h => h) (Or.inl ⟨by rfl, ?_⟩) hHeld ?_
          rotate_left
          · ((intro w hSw; (try dsimp only at hSw); go_simp) <;> with_reducible rfl)
          try simp only [Act.put, List.setIfInBounds_toArray, List.set_cons_zero, List.set_cons_succ]
          refine wpAnyH_take (i := 8) (oi := ⟨_, _, _, _, _, _⟩) (v := ?_) rfl (by kernel_rfl) (by kernel_rfl) (by kernel_rfl) (fun _ _ _ h => h) (Or.inl ⟨by rfl, ?_⟩) hHeld ?_
          rotate_left
          · ((intro w hSw; (try dsimp only at hSw); go_simp) <;> with_reducible rfl)
          try simp only [Act.put, List.setIfInBounds_toArray, List.set_cons_zero, List.set_cons_succ]
          refine wpAnyH_ready (rs := [4]) (by kernel_rfl) (by simp) ?_
          refine AllReadyH.cons (o := ⟨_, _, _, _, _, _⟩) rfl (fun K hK => ?_) ?_
          rotate_left
          · exact AllReadyH.nil
          go_simp
          go_at_call 74
          with_reducible refine (CC1.out _).mono ?_
          rintro o z1 ⟨u1, rfl, h⟩
          obtain ⟨p1, d1, rfl, _⟩ := h.h.cells
          have HZ1 := Lib.hid h
          have HS1 := Lib.hid (HSX.out z1 (fun i hi => h.b.block i (Nat.lt_of_lt_of_le hi H35.out)))
          clear h
          refine hK.out _ _ (by first | exact HS6.out | exact HS5.out | exact HS4.out | exact HS3.out | exact HS2.out | exact HS1.out | exact HS0.out) (fun hHeld => ?_)
          clear hK K
          try simp only [Act.put, List.setIfInBounds_toArray, List.set_cons_zero, List.set_cons_succ]
          refine wpAnyH_ready (rs := [9]) (by kernel_rfl) (by simp) ?_
          refine AllReadyH.cons (o := ⟨_, _, _, _, _, _⟩) rfl (fun K hK => ?_) ?_
          rotate_left
          · exact AllReadyH.nil
          go_simp
          go_at_call 74
          with_reducible refine (CC2.out _).mono ?_
          rintro o z2 ⟨u2, rfl, h⟩
          obtain ⟨p2, d2, rfl, _⟩ := h.h.cells
          have HZ2 := Lib.hid h
          have HB52 : Hid (Below w5.heap.size w5.drew z2) := Lib.hid (HZ1.out.b.trans (h.b.mono HZ1.out.b.size))
          have HS2 := Lib.hid (HSX.out z2 (fun i hi => HB52.out.block i (Nat.lt_of_lt_of_le hi H35.out)))
          have HH1 := Lib.hid (HZ1.out.h.below h.b)
          have HH2 := Lib.hid h.h
          clear h
          refine hK.out _ _ (by first | exact HS6.out | exact HS5.out | exact HS4.out | exact HS3.out | exact HS2.out | exact HS1.out | exact HS0.out) (fun hHeld => ?_)
          clear hK K
          try simp only [Act.put, List.setIfInBounds_toArray, List.set_cons_zero, List.set_cons_succ]
          refine wpAnyH_ready (rs := [10]) (by kernel_rfl) (by simp) ?_
          refine AllReadyH.cons (o := ⟨_, _, _, _, _, _⟩) rfl (fun K hK => ?_) ?_
          rotate_left
          · exact AllReadyH.nil
          refine step_cat rfl (.tmp 46) (.tmp 51) rfl Tryd.underlying110 (.agg #[.int .i64 0, .int .i64 0]) 2 info_span5 rfl (by decide) (cuV A1) (cuV A2) rfl rfl HH1.out HH2.out HONEk.out hlk1 hlk2 ?_
          intro v3 z3 hh hg ho
          rw [HCAT.out.1, HLEN.out.2.2.2.2.1] at hh
          obtain ⟨pk, ck, rfl, _⟩ := hh.cells
          have HKN := Lib.hid hh
          have HB53 : Hid (Below w5.heap.size w5 z3) := Lib.hid ⟨hg.os.trans HB52.out.os, hg.tape.trans HB52.out.tape, hg.output.trans HB52.out.output, Nat.le_trans HB52.out.size hg.size, fun i hi => (hg.block i (Nat.lt_of_lt_of_le hi HB52.out.size) (fun e => by have h9 : w5.heap.size ≤ i := HZ1.out.o i e.symm; omega)).trans (HB52.out.block i hi)⟩
          have HS3 := Lib.hid (HSX.out z3 (fun i hi => HB53.out.block i (Nat.lt_of_lt_of_le hi H35.out)))
          clear hh hg ho
          refine hK.out _ _ (by first | exact HS6.out | exact HS5.out | exact HS4.out | exact HS3.out | exact HS2.out | exact HS1.out | exact HS0.out) (fun hHeld => ?_)
          clear hK K
          try simp only [Act.put, List.setIfInBounds_toArray, List.set_cons_zero, List.set_cons_succ]
          refine wpAnyH_take (i := 11) (oi := ⟨_, _, _, _, _, _⟩) (v := ?_) rfl (by kernel_rfl) (by kernel_rfl) (by kernel_rfl) (fun _ _ _ h => h) (Or.inl ⟨by rfl, ?_⟩) hHeld ?_
          rotate_left
          · ((intro w hSw; (try dsimp only at hSw); go_simp) <;> with_reducible rfl)
          try simp only [Act.put, List.setIfInBounds_toArray, List.set_cons_zero, List.set_cons_succ]
          refine wpAnyH_done (by kernel_rfl) ?_ _
          have HB33 : Hid (Below w3.heap.size w3 z3) := Lib.hid (H5.out.trans (HB53.out.mono H5.out.size))
          have HS4 := Lib.hid (HSX.out z3.drew (fun i hi => HB53.out.block i (Nat.lt_of_lt_of_le hi H35.out)))
          have HZ33 : Hid (w3.heap.size ≤ z3.heap.size) := Lib.hid HB33.out.size
          clear HS0 HS1 HS2 HS3 HZ1 HZ2 HB52 HH1 HH2 CC1 CC2
          go_upto_region 14 with fail
          refine wp_region_held_drew (S := fun w' => w'.cell? ⟨ba, 0, none⟩ = some (.int .i64 (n : Int)) ∧ w'.cell? ⟨ba, 1, none⟩ = some (.int .i64 (m : Int)) ∧ w'.cell? ⟨bc, 0, none⟩ = some (.int .i64 (m : Int)) ∧ w'.cell? ⟨bc, 1, none⟩ = some (.int .i64 (k : Int)) ∧ w'.cell? ⟨ba, 2, none⟩ = some (.slice pa na ca) ∧ w'.cell? ⟨bc, 2, none⟩ = some (.slice pb nb cb)) (by kernel_rfl) (by first | exact HS6.out | exact HS5.out | exact HS4.out | exact HS3.out | exact HS2.out | exact HS1.out | exact HS0.out) (fun hHeld => ?_)
          refine wpAnyH_take (i := 0) (oi := ⟨_, _, _, _, _, _⟩) (v := ?_) rfl (by kernel_rfl) (by kernel_rfl) (by kernel_rfl) (fun _ _ _ h => h) (Or.inl ⟨by rfl, ?_⟩) hHeld ?_
          rotate_left
          · ((intro w hSw; (try dsimp only at hSw); go_simp) <;> with_reducible rfl)
          try simp only [Act.put, List.setIfInBounds_toArray, List.set_cons_zero, List.set_cons_succ]
          refine wpAnyH_take (i := 1) (oi := ⟨_, _, _, _, _, _⟩) (v := ?_) rfl (by kernel_rfl) (by kernel_rfl) (by kernel_rfl) (fun _ _ _ h => h) (Or.inl ⟨by rfl, ?_⟩) hHeld ?_
          rotate_left
          · ((intro w hSw; (try dsimp only at hSw); go_simp) <;> with_reducible rfl)
          try simp only [Act.put, List.setIfInBounds_toArray, List.set_cons_zero, List.set_cons_succ]
          refine wpAnyH_take (i := 3) (oi := ⟨_, _, _, _, _, _⟩) (v := ?_) rfl (by kernel_rfl) (by kernel_rfl) (by kernel_rfl) (fun _ _ _ h => h) (Or.inl ⟨by rfl, ?_⟩) hHeld ?_
          rotate_left
          · ((intro w hSw; (try dsimp only at hSw); go_simp) <;> with_reducible rfl)
          try simp only [Act.put, List.setIfInBounds_toArray, List.set_cons_zero, List.set_cons_succ]
          refine wpAnyH_take (i := 4) (oi := ⟨_, _, _, _, _, _⟩) (v := ?_) rfl (by kernel_rfl) (by kernel_rfl) (by kernel_rfl) (fun _ _ _ h => h) (Or.inl ⟨by rfl, ?_⟩) hHeld ?_
          rotate_left
          · ((intro w hSw; (try dsimp only at hSw); go_simp) <;> with_reducible rfl)
          try simp only [Act.put, List.setIfInBounds_toArray, List.set_cons_zero, List.set_cons_succ]
          refine wpAnyH_ready (rs := [2]) (by kernel_rfl) (by simp) ?_
          refine AllReadyH.cons (o := ⟨_, _, _, _, _, _⟩) rfl (fun K hK => ?_) ?_
          rotate_left
          · exact AllReadyH.nil
          go_simp
          go_at_call 80
          with_reducible refine (CP.out _ HB33.out.drew).mono ?_
          rintro o z4 ⟨u4, rfl, h⟩
          obtain ⟨p4, d4, rfl, _⟩ := h.h.cells
          have HZ4 := Lib.hid h
          have HB34 : Hid (Below w3.heap.size w3 z4) := Lib.hid (HB33.out.drew.trans (h.b.mono HB33.out.size))
          have HS5 := Lib.hid (HSX.out z4 (fun i hi => (h.b.block i (Nat.lt_of_lt_of_le hi HZ33.out)).trans (HB53.out.block i (Nat.lt_of_lt_of_le hi H35.out))))
          have HTB := Lib.hid (txts_src (HTX.out z4 HB34.out).2)
          clear h
          refine hK.out _ _ (by first | exact HS6.out | exact HS5.out | exact HS4.out | exact HS3.out | exact HS2.out | exact HS1.out | exact HS0.out) (fun hHeld => ?_)
          clear hK K
          try simp only [Act.put, List.setIfInBounds_toArray, List.set_cons_zero, List.set_cons_succ]
          refine wpAnyH_ready (rs := [5]) (by kernel_rfl) (by simp) ?_
          refine AllReadyH.cons (o := ⟨_, _, _, _, _, _⟩) rfl (fun K hK => ?_) ?_
          rotate_left
          · exact AllReadyH.nil
          refine step_catC rfl (.tmp 55) (.tmp 57) rfl Tryd.underlying22 (.string ⟨#[]⟩) 1 info_strT rfl (by decide) (A.map Value.string) (B.map Value.string) rfl rfl HZ4.out.h HTB.out.1 HTB.out.2.1 HTB.out.2.2 HONEb.out hlh1 hlh2 ?_
          intro v5 z5 hh hg ho
          rw [HCAT.out.2, HLEN.out.2.2.2.2.2] at hh
          obtain ⟨ph, ch, rfl, _⟩ := hh.cells
          have HAN := Lib.hid hh
          have HB35 : Hid (Below z3.heap.size z3 z5) := Lib.hid ⟨hg.os.trans HZ4.out.b.os, hg.tape.trans HZ4.out.b.tape, hg.output.trans HZ4.out.b.output, Nat.le_trans HZ4.out.b.size hg.size, fun i hi => (hg.block i (Nat.lt_of_lt_of_le hi HZ4.out.b.size) (fun e => by have h9 : z3.heap.size ≤ i := HZ4.out.o i e.symm; omega)).trans (HZ4.out.b.block i hi)⟩
          have HS6 := Lib.hid (HSX.out z5 (fun i hi => (HB35.out.block i (Nat.lt_of_lt_of_le hi HZ33.out)).trans (HB53.out.block i (Nat.lt_of_lt_of_le hi H35.out))))
          clear hh hg ho
          refine hK.out _ _ (by first | exact HS6.out | exact HS5.out | exact HS4.out | exact HS3.out | exact HS2.out | exact HS1.out | exact HS0.out) (fun hHeld => ?_)
          clear hK K
          try simp only [Act.put, List.setIfInBounds_toArray, List.set_cons_zero, List.set_cons_succ]
          refine wpAnyH_take (i := 6) (oi := ⟨_, _, _, _, _, _⟩) (v := ?_) rfl (by kernel_rfl) (by kernel_rfl) (by kernel_rfl) (fun _ _ _ h => h) (Or.inl ⟨by rfl, ?_⟩) hHeld ?_
          rotate_left
          · ((intro w hSw; (try dsimp only at hSw); go_simp) <;> with_reducible rfl)
          try simp only [Act.put, List.setIfInBounds_toArray, List.set_cons_zero, List.set_cons_succ]
          refine wpAnyH_done (by kernel_rfl) ?_ _
          have HB3z5 : Hid (Below w3.heap.size w3 z5) := Lib.hid (HB33.out.trans (HB35.out.mono HB33.out.size))
          have HKN5 := Lib.hid (HKN.out.below HB35.out)
          obtain ⟨g0, g1, g2, g3, g4, g5⟩ := HS6.out
          clear HS4 HS5 HZ4 HB34 HTB HKN CP
          obtain ⟨z6, hz6⟩ : ∃ x, x = z5.alloc (.cells #[.int .i64 (n : Int), .int .i64 (k : Int), .slice none 0 0] 68) := ⟨_, rfl⟩
          obtain ⟨bx, hbx⟩ : ∃ x, x = z5.heap.size := ⟨_, rfl⟩
          have hb6 : Below z5.heap.size z5 z6 := by rw [hz6]; exact (Below.refl _ _).alloc (Nat.le_refl _) _
          have hx6 : z6.heap[bx]? = some (.cells #[.int .i64 (n : Int), .int .i64 (k : Int), .slice none 0 0] 68 (0, 0)) := by rw [hz6, hbx]; exact heap_alloc_new z5 _
          have c0 : z6.cell? ⟨bx, 0, none⟩ = some (.int .i64 (n : Int)) := cellB hx6 rfl
          have c1 : z6.cell? ⟨bx, 1, none⟩ = some (.int .i64 (k : Int)) := cellB hx6 rfl
          have HW2 := Lib.hid hz6
          have HBX := Lib.hid hbx
          have HX2 := Lib.hid hx6
          have HB6 : Hid (Below z5.heap.size z5 z6) := Lib.hid hb6
          clear hz6 hbx hb6 hx6
          go_upto_region 16 with fail
          rw [← HW2.out, ← HBX.out]
          clear g0 g1 g2 g3 g4 g5
          go_upto_region 17 with (go_at_call 74; (with_reducible refine (CC3.out _).mono ?_); rintro o z7 ⟨u7, rfl, h⟩; obtain ⟨p7', c7', rfl, _⟩ := h.h.cells; have HC3 := Lib.hid h; clear h)
          clear c0 c1 CC3
          have HR0 : Hid (RbI z7 z7 bx n k (.slice none 0 0) 0 (KL.take 0)) := Lib.hid ⟨only_refl _ _, blk_below HX2.out HC3.out.b (blk_lt HX2.out), ⟨rfl, .inl ⟨rfl, rfl⟩⟩, (fun g hg => nomatch hg), Nat.lt_of_lt_of_le (blk_lt HX2.out) HC3.out.b.size⟩
          have HB57 : Hid (Below z5.heap.size z5 z7) := Lib.hid (HB6.out.trans (HC3.out.b.mono HB6.out.size))
          have HBW : Hid (Below w.heap.size w z7 ∧ w.heap.size ≤ bx ∧ Below w3.heap.size w3 z7 ∧ w3.heap.size ≤ bx) := Lib.hid (by
            have h1 := HB3z5.out.trans (HB57.out.mono HB3z5.out.size)
            have h2 := HB3z5.out.size
            have h3 := HB1.out.1.size
            exact ⟨HB1.out.1.trans (h1.mono HB1.out.1.size), by rw [HBX.out]; omega, h1, by rw [HBX.out]; exact h2⟩)
          have HKN7 : Hid (Held z7 128 2 (.slice pk nk ck) nk (cuV KK) ∧ ∀ g, (Value.slice pk nk ck).ownBlock = some g → g ≠ bx) := Lib.hid ⟨HKN5.out.below HB57.out, fun g hg => by have := HKN5.out.lt hg; rw [HBX.out]; omega⟩
          have HAN7 : Hid (Held z7 9 1 (.slice ph nh ch) nh (HH.map Value.string) ∧ ∀ g, (Value.slice ph nh ch).ownBlock = some g → g ≠ bx) := Lib.hid ⟨HAN.out.below HB57.out, fun g hg => by have := HAN.out.lt hg; rw [HBX.out]; omega⟩
          have HLC : Hid (∀ (j : Nat) (x : Nat × Nat), A3[j]? = some x → ∃ g, p7' = some ⟨g, 0, none⟩ ∧ g ≠ bx ∧ g < z7.heap.size ∧ z7.cell? ⟨g, j * 2, none⟩ = some (.int .i64 (x.1 : Int)) ∧ z7.cell? ⟨g, j * 2 + 1, none⟩ = some (.int .i64 ((x.1 + 2 ^ x.2 : Nat) : Int))) := Lib.hid (fun j x hx => by
            have hlt : j < A3.length := (List.getElem?_eq_some_iff.mp hx).1
            obtain ⟨g, hg, hc⟩ := held_cellP HC3.out.h (by have := HAI.out.1; omega)
            obtain ⟨a0, a1⟩ := cuV_get hx
            have c0 := hc _ _ a0
            have c1 := hc _ _ a1
            refine ⟨g, hg, ?_, block_lt_of_cell c0, c0, c1⟩
            have h1 := HC3.out.o g (by rw [hg]; rfl)
            have h2 := blk_lt HX2.out
            omega)
          clear HKN5 HAN HS6
          go_wp2_with fail
          go_loopw [14] (fun i wr => ∃ (j : Nat) (q : Option Addr) (d : Nat), i = .int .i64 (j : Int) ∧ j ≤ n3 ∧ Hid (RbI z7 wr bx n k (.slice q j d) j (KL.take j))) (fun i _ => n3 - (intOf i).toNat)
          case atStart => exact ⟨0, none, 0, rfl, Nat.zero_le _, HR0⟩
          case round =>
            clear HR0
            obtain ⟨j, q, d, rfl, hj, HI⟩ := hrel
            by_cases hlt : j < n3
            · have hji : (j : Int) < (n3 : Int) := by omega
              have hj0 : (0 : Int) ≤ (j : Int) := by omega
              obtain ⟨⟨x1, l1⟩, hx⟩ : ∃ x, A3[j]? = some x := ⟨A3[j]'(by have := HAI.out.1; omega), List.getElem?_eq_getElem _⟩
              obtain ⟨hcv, hxb⟩ := HAI.out.2 j _ hx
              have hcv : Cv KK x1 l1 := hcv
              have hxb : x1 + 2 ^ l1 ≤ 1099511627776 := hxb
              obtain ⟨g, hpg, hgx, hg3, d0, d1⟩ := HLC.out j _ hx
              subst hpg
              obtain ⟨y1, hy1⟩ : ∃ y, y = x1 + 2 ^ l1 := ⟨_, rfl⟩
              have d0 : z7.cell? ⟨g, j * 2, none⟩ = some (.int .i64 (x1 : Int)) := d0
              have d1 : z7.cell? ⟨g, j * 2 + 1, none⟩ = some (.int .i64 (y1 : Int)) := by rw [hy1]; exact d1
              obtain ⟨rr, hrr⟩ : ∃ r, r = valK nodeS KK HH x1 l1 := ⟨_, rfl⟩
              have CRJ : Hid (∀ w', Below wr.heap.size wr w' → Calls Tryd.prog 94 #[.agg #[.int .i64 (x1 : Int), .int .i64 (y1 : Int)], .slice pk nk ck, .slice ph nh ch] w' fun o z => o = .returned (.string rr) ∧ Below w'.heap.size w' z) := Lib.hid (fun w' hb => by
                have hl := HLEN.out
                have hk1 := (HI.out.held HKN7.out.1 HKN7.out.2).below hb
                have hh1 := held_txts5 ((HI.out.held HAN7.out.1 HAN7.out.2).below hb) hl.2.1.symm (by omega)
                rw [hrr, hy1]
                exact hash5_any KK HH nk nh ck ch pk ph hl.1 hl.2.1 hl.2.2.1 hl.2.2.2.1 l1 x1 w' hcv hxb hk1 hh1)
              have HKJ : Hid (KL.take (j + 1) = KL.take j ++ [rr]) := Lib.hid (by rw [List.take_add_one, HKA.out.2.1 j _ hx, hrr]; rfl)
              have HSY : Hid (∀ w' : World, (∀ i : Nat, i < z7.heap.size → i ≠ bx → w'.heap[i]? = wr.heap[i]?) → w'.cell? ⟨g, j * 2, none⟩ = some (.int .i64 (x1 : Int)) ∧ w'.cell? ⟨g, j * 2 + 1, none⟩ = some (.int .i64 (y1 : Int))) := Lib.hid (fun w' hb => ⟨(World.cell?_of_block (hb g hg3 hgx)).trans (HI.out.cell d0 hgx), (World.cell?_of_block (hb g hg3 hgx)).trans (HI.out.cell d1 hgx)⟩)
              have HXB : Hid (∀ w', Below wr.heap.size wr w' → w'.cell? ⟨bx, 2, none⟩ = some (.slice q j d)) := Lib.hid (fun w' hb => cellB (blk_below HI.out.x hb (blk_lt HI.out.x)) rfl)
              have HONE : Hid (∀ u ∈ [Value.string rr], u.oneCell' = true) := Lib.hid (fun u hu => by rw [List.mem_singleton.1 hu]; rfl)
              have hl1 : (j + 1) * 16 ≤ 140737488355328 := by omega
              have hl2 : j + 1 ≤ 140737488355328 := by omega
              have HBD : Hid (Below wr.heap.size wr wr.drew) := Lib.hid (Below.refl _ _).drew
              have HSZ : Hid (z7.heap.size ≤ wr.heap.size) := Lib.hid HI.out.k.size
              have HT0 := Lib.hid (HSY.out wr.drew (fun i _ _ => rfl))
              have e0 : wr.drew.cell? ⟨bx, 2, none⟩ = some (.slice q j d) := HXB.out _ HBD.out
              have HLT := Lib.hid hlt
              clear hlt hx hcv hxb hgx hg3 d0 d1 hy1 hrr hj
              go_upto_region 20 with fail
              refine wp_region_held_drew (S := fun w' => w'.cell? ⟨g, j * 2, none⟩ = some (.int .i64 (x1 : Int)) ∧ w'.cell? ⟨g, j * 2 + 1, none⟩ = some (.int .i64 (y1 : Int))) (by kernel_rfl) (by first | exact HTD.out _ | exact HTC.out | exact HTB.out _ | exact HTA.out | exact HT0.out) (fun hHeld => ?_)
              refine wpAnyH_take (i := 0) (oi := ⟨_, _, _, _, _, _⟩) (v := ?_) rfl (by kernel_rfl) (by kernel_rfl) (by kernel_rfl) (fun _ _ _ h => h) (Or.inl ⟨by rfl, ?_⟩) hHeld ?_
              rotate_left
              · ((intro w hSw; (try dsimp only at hSw); go_simp) <;> with_reducible rfl)
              try simp only [Act.put, List.setIfInBounds_toArray, List.set_cons_zero, List.set_cons_succ]
              refine wpAnyH_take (i := 2) (oi := ⟨_, _, _, _, _, _⟩) (v := ?_) rfl (by kernel_rfl) (by kernel_rfl) (by kernel_rfl) (fun _ _ _ h => h) (Or.inl ⟨by rfl, ?_⟩) hHeld ?_
              rotate_left
              · ((intro w hSw; (try dsimp only at hSw); go_simp) <;> with_reducible rfl)
              try simp only [Act.put, List.setIfInBounds_toArray, List.set_cons_zero, List.set_cons_succ]
              refine wpAnyH_take (i := 3) (oi := ⟨_, _, _, _, _, _⟩) (v := ?_) rfl (by kernel_rfl) (by kernel_rfl) (by kernel_rfl) (fun _ _ _ h => h) (Or.inl ⟨by rfl, ?_⟩) hHeld ?_
              rotate_left
              · ((intro w hSw; (try dsimp only at hSw); go_simp) <;> with_reducible rfl)
              try simp only [Act.put, List.setIfInBounds_toArray, List.set_cons_zero, List.set_cons_succ]
              refine wpAnyH_take (i := 4) (oi := ⟨_, _, _, _, _, _⟩) (v := ?_) rfl (by kernel_rfl) (by kernel_rfl) (by kernel_rfl) (fun _ _ _ h => h) (Or.inl ⟨by rfl, ?_⟩) hHeld ?_
              rotate_left
              · ((intro w hSw; (try dsimp only at hSw); go_simp) <;> with_reducible rfl)
              try simp only [Act.put, List.setIfInBounds_toArray, List.set_cons_zero, List.set_cons_succ]
              refine wpAnyH_take (i := 5) (oi := ⟨_, _, _, _, _, _⟩) (v := ?_) rfl (by kernel_rfl) (by kernel_rfl) (by kernel_rfl) (fun _ _ _ h => h) (Or.inl ⟨by rfl, ?_⟩) hHeld ?_
              rotate_left
              · ((intro w hSw; (try dsimp only at hSw); go_simp) <;> with_reducible rfl)
              try simp only [Act.put, List.setIfInBounds_toArray, List.set_cons_zero, List.set_cons_succ]
              refine wpAnyH_take (i := 6) (oi := ⟨_, _, _, _, _, _⟩) (v := ?_) rfl (by kernel_rfl) (by kernel_rfl) (by kernel_rfl) (fun _ _ _ h => h) (Or.inl ⟨by rfl, ?_⟩) hHeld ?_
              rotate_left
              · ((intro w hSw; (try dsimp only at hSw); go_simp) <;> with_reducible rfl)
              try simp only [Act.put, List.setIfInBounds_toArray, List.set_cons_zero, List.set_cons_succ]
              refine wpAnyH_take (i := 7) (oi := ⟨_, _, _, _, _, _⟩) (v := ?_) rfl (by kernel_rfl) (by kernel_rfl) (by kernel_rfl) (fun _ _ _ h => h) (Or.inl ⟨by rfl, ?_⟩) hHeld ?_
              rotate_left
              · ((intro w hSw; (try dsimp only at hSw); go_simp) <;> with_reducible rfl)
              try simp only [Act.put, List.setIfInBounds_toArray, List.set_cons_zero, List.set_cons_succ]
              refine wpAnyH_ready (rs := [1, 8]) (by kernel_rfl) (by simp) ?_
              refine AllReadyH.cons (o := ⟨_, _, _, _, _, _⟩) rfl (fun K hK => ?_) ?_
              rotate_left
              refine AllReadyH.cons (o := ⟨_, _, _, _, _, _⟩) rfl (fun K hK => ?_) ?_
              rotate_left
              · exact AllReadyH.nil
              · go_simp
                refine hK.out _ _ (by first | exact HTD.out _ | exact HTC.out | exact HTB.out _ | exact HTA.out | exact HT0.out) (fun hHeld => ?_)
                clear hK K
                try simp only [Act.put, List.setIfInBounds_toArray, List.set_cons_zero, List.set_cons_succ]
                refine wpAnyH_ready (rs := [8]) (by kernel_rfl) (by simp) ?_
                refine AllReadyH.cons (o := ⟨_, _, _, _, _, _⟩) rfl (fun K hK => ?_) ?_
                rotate_left
                · exact AllReadyH.nil
                go_simp
                go_at_call 94
                with_reducible refine (CRJ.out _ HBD.out).mono ?_
                rintro o y6 ⟨rfl, h⟩
                have HB6 : Hid (Below wr.heap.size wr y6) := Lib.hid (HBD.out.trans (h.mono HBD.out.size))
                have HI6 := Lib.hid (HI.out.below HB6.out)
                have HTA := Lib.hid (HSY.out y6 (fun i hi _ => HB6.out.block i (Nat.lt_of_lt_of_le hi HSZ.out)))
                have HTB : Hid (∀ o, _) := Lib.hid (fun o => HSY.out (y6.alloc o) (fun i hi _ => (HB6.out.alloc HB6.out.size o).block i (Nat.lt_of_lt_of_le hi HSZ.out)))
                have e1 : y6.cell? ⟨bx, 2, none⟩ = some (.slice q j d) := HXB.out _ HB6.out
                have e2 : ∀ o, (y6.alloc o).cell? ⟨bx, 2, none⟩ = some (.slice q j d) := fun o => HXB.out _ (HB6.out.alloc HB6.out.size o)
                have HHD2 : Hid (∀ o, Held (y6.alloc o) 9 1 (.slice q j d) j ((KL.take j).map Value.string)) := Lib.hid (fun o => HI6.out.h.below ((Below.refl _ _).alloc (Nat.le_refl _) _))
                clear h
                refine hK.out _ _ (by first | exact HTD.out _ | exact HTC.out | exact HTB.out _ | exact HTA.out | exact HT0.out) (fun hHeld => ?_)
                clear hK K
                try simp only [Act.put, List.setIfInBounds_toArray, List.set_cons_zero, List.set_cons_succ]
                refine wpAnyH_ready (rs := [9]) (by kernel_rfl) (by simp) ?_
                refine AllReadyH.cons (o := ⟨_, _, _, _, _, _⟩) rfl (fun K hK => ?_) ?_
                rotate_left
                · exact AllReadyH.nil
                go_simp
                skip
                refine hK.out _ _ (by first | exact HTD.out _ | exact HTC.out | exact HTB.out _ | exact HTA.out | exact HT0.out) (fun hHeld => ?_)
                clear hK K
                try simp only [Act.put, List.setIfInBounds_toArray, List.set_cons_zero, List.set_cons_succ]
                refine wpAnyH_ready (rs := [10]) (by kernel_rfl) (by simp) ?_
                refine AllReadyH.cons (o := ⟨_, _, _, _, _, _⟩) rfl (fun K hK => ?_) ?_
                rotate_left
                · exact AllReadyH.nil
                refine step_grew (v := .slice q j d) rfl (.tmp 76) (.tmp 84) rfl Tryd.underlying22 (.string ⟨#[]⟩) 1 info_strT rfl (by decide) [.string rr] 1 ⟨y6.heap.size, 0, none⟩ rfl rfl (HHD2.out _) rfl (by decide) cells_alloc HONE.out hl1 hl2 ?_
                intro v7 w7 hg7
                obtain ⟨p7, c7, rfl, _⟩ := hg7.held.cells
                obtain ⟨hx7, hr7, hk7⟩ := HI6.out.push hg7
                have HR7 := Lib.hid hr7
                have HTC := Lib.hid (HSY.out w7 (fun i hi _ => (hk7 i hi).trans (HB6.out.block i (Nat.lt_of_lt_of_le hi HSZ.out))))
                have HTD : Hid (∀ u, _) := Lib.hid (fun u => HSY.out (w7.setCell ⟨bx, 2, none⟩ u) (fun i hi hne => (Below.heap_setCell _ ⟨bx, 2, none⟩ _ i hne).trans ((hk7 i hi).trans (HB6.out.block i (Nat.lt_of_lt_of_le hi HSZ.out)))))
                have k7 : w7.cell? ⟨bx, 2, none⟩ = some (.slice q j d) := cellB hx7 rfl
                have f7 : w7.frozen? ⟨bx, 2, none⟩ = false := frozB hx7
                clear hg7 hx7 hr7 hk7
                refine hK.out _ _ (by first | exact HTD.out _ | exact HTC.out | exact HTB.out _ | exact HTA.out | exact HT0.out) (fun hHeld => ?_)
                clear hK K
                try simp only [Act.put, List.setIfInBounds_toArray, List.set_cons_zero, List.set_cons_succ]
                refine wpAnyH_take (i := 11) (oi := ⟨_, _, _, _, _, _⟩) (v := ?_) rfl (by kernel_rfl) (by kernel_rfl) (by kernel_rfl) (fun _ _ _ h => h) (Or.inl ⟨by rfl, ?_⟩) hHeld ?_
                rotate_left
                · ((intro w hSw; (try dsimp only at hSw); go_simp) <;> with_reducible rfl)
                try simp only [Act.put, List.setIfInBounds_toArray, List.set_cons_zero, List.set_cons_succ]
                refine wpAnyH_ready (rs := [12]) (by kernel_rfl) (by simp) ?_
                refine AllReadyH.cons (o := ⟨_, _, _, _, _, _⟩) rfl (fun K hK => ?_) ?_
                rotate_left
                · exact AllReadyH.nil
                go_simp
                skip
                refine hK.out _ _ (by first | exact HTD.out _ | exact HTC.out | exact HTB.out _ | exact HTA.out | exact HT0.out) (fun hHeld => ?_)
                clear hK K
                try simp only [Act.put, List.setIfInBounds_toArray, List.set_cons_zero, List.set_cons_succ]
                refine wpAnyH_done (by kernel_rfl) ?_ _
                go_wp2_with fail
                have HRN : Hid (RbI z7 (w7.setCell ⟨bx, 2, none⟩ (.slice p7 (j + 1) c7)) bx n k (.slice p7 (j + 1) c7) (j + 1) (KL.take (j + 1))) := Lib.hid (by rw [HKJ.out]; exact HR7.out)
                first
                  | exact ⟨⟨j + 1, p7, c7, rfl, HLT.out, HRN⟩, by have := HLT.out; show n3 - ((j : Int) + 1).toNat < n3 - (j : Int).toNat; omega⟩
                  | exact ⟨⟨j + 1, by omega, HLT.out, p7, c7, HRN⟩, by have := HLT.out; show n3 - ((j : Int) + 1).toNat < n3 - (j : Int).toNat; omega⟩
              · go_simp
                go_at_call 94
                with_reducible refine (CRJ.out _ HBD.out).mono ?_
                rintro o y6 ⟨rfl, h⟩
                have HB6 : Hid (Below wr.heap.size wr y6) := Lib.hid (HBD.out.trans (h.mono HBD.out.size))
                have HI6 := Lib.hid (HI.out.below HB6.out)
                have HTA := Lib.hid (HSY.out y6 (fun i hi _ => HB6.out.block i (Nat.lt_of_lt_of_le hi HSZ.out)))
                have HTB : Hid (∀ o, _) := Lib.hid (fun o => HSY.out (y6.alloc o) (fun i hi _ => (HB6.out.alloc HB6.out.size o).block i (Nat.lt_of_lt_of_le hi HSZ.out)))
                have e1 : y6.cell? ⟨bx, 2, none⟩ = some (.slice q j d) := HXB.out _ HB6.out
                have e2 : ∀ o, (y6.alloc o).cell? ⟨bx, 2, none⟩ = some (.slice q j d) := fun o => HXB.out _ (HB6.out.alloc HB6.out.size o)
                have HHD2 : Hid (∀ o, Held (y6.alloc o) 9 1 (.slice q j d) j ((KL.take j).map Value.string)) := Lib.hid (fun o => HI6.out.h.below ((Below.refl _ _).alloc (Nat.le_refl _) _))
                clear h
                refine hK.out _ _ (by first | exact HTD.out _ | exact HTC.out | exact HTB.out _ | exact HTA.out | exact HT0.out) (fun hHeld => ?_)
                clear hK K
                try simp only [Act.put, List.setIfInBounds_toArray, List.set_cons_zero, List.set_cons_succ]
                refine wpAnyH_ready (rs := [1, 9]) (by kernel_rfl) (by simp) ?_
                refine AllReadyH.cons (o := ⟨_, _, _, _, _, _⟩) rfl (fun K hK => ?_) ?_
                rotate_left
                refine AllReadyH.cons (o := ⟨_, _, _, _, _, _⟩) rfl (fun K hK => ?_) ?_
                rotate_left
                · exact AllReadyH.nil
                · go_simp
                  refine hK.out _ _ (by first | exact HTD.out _ | exact HTC.out | exact HTB.out _ | exact HTA.out | exact HT0.out) (fun hHeld => ?_)
                  clear hK K
                  try simp only [Act.put, List.setIfInBounds_toArray, List.set_cons_zero, List.set_cons_succ]
                  refine wpAnyH_ready (rs := [9]) (by kernel_rfl) (by simp) ?_
                  refine AllReadyH.cons (o := ⟨_, _, _, _, _, _⟩) rfl (fun K hK => ?_) ?_
                  rotate_left
                  · exact AllReadyH.nil
                  go_simp
                  skip
                  refine hK.out _ _ (by first | exact HTD.out _ | exact HTC.out | exact HTB.out _ | exact HTA.out | exact HT0.out) (fun hHeld => ?_)
                  clear hK K
                  try simp only [Act.put, List.setIfInBounds_toArray, List.set_cons_zero, List.set_cons_succ]
                  refine wpAnyH_ready (rs := [10]) (by kernel_rfl) (by simp) ?_
                  refine AllReadyH.cons (o := ⟨_, _, _, _, _, _⟩) rfl (fun K hK => ?_) ?_
                  rotate_left
                  · exact AllReadyH.nil
                  refine step_grew (v := .slice q j d) rfl (.tmp 76) (.tmp 84) rfl Tryd.underlying22 (.string ⟨#[]⟩) 1 info_strT rfl (by decide) [.string rr] 1 ⟨y6.heap.size, 0, none⟩ rfl rfl (HHD2.out _) rfl (by decide) cells_alloc HONE.out hl1 hl2 ?_
                  intro v7 w7 hg7
                  obtain ⟨p7, c7, rfl, _⟩ := hg7.held.cells
                  obtain ⟨hx7, hr7, hk7⟩ := HI6.out.push hg7
                  have HR7 := Lib.hid hr7
                  have HTC := Lib.hid (HSY.out w7 (fun i hi _ => (hk7 i hi).trans (HB6.out.block i (Nat.lt_of_lt_of_le hi HSZ.out))))
                  have HTD : Hid (∀ u, _) := Lib.hid (fun u => HSY.out (w7.setCell ⟨bx, 2, none⟩ u) (fun i hi hne => (Below.heap_setCell _ ⟨bx, 2, none⟩ _ i hne).trans ((hk7 i hi).trans (HB6.out.block i (Nat.lt_of_lt_of_le hi HSZ.out)))))
                  have k7 : w7.cell? ⟨bx, 2, none⟩ = some (.slice q j d) := cellB hx7 rfl
                  have f7 : w7.frozen? ⟨bx, 2, none⟩ = false := frozB hx7
                  clear hg7 hx7 hr7 hk7
                  refine hK.out _ _ (by first | exact HTD.out _ | exact HTC.out | exact HTB.out _ | exact HTA.out | exact HT0.out) (fun hHeld => ?_)
                  clear hK K
                  try simp only [Act.put, List.setIfInBounds_toArray, List.set_cons_zero, List.set_cons_succ]
                  refine wpAnyH_take (i := 11) (oi := ⟨_, _, _, _, _, _⟩) (v := ?_) rfl (by kernel_rfl) (by kernel_rfl) (by kernel_rfl) (fun _ _ _ h => h) (Or.inl ⟨by rfl, ?_⟩) hHeld ?_
                  rotate_left
                  · ((intro w hSw; (try dsimp only at hSw); go_simp) <;> with_reducible rfl)
                  try simp only [Act.put, List.setIfInBounds_toArray, List.set_cons_zero, List.set_cons_succ]
                  refine wpAnyH_ready (rs := [12]) (by kernel_rfl) (by simp) ?_
                  refine AllReadyH.cons (o := ⟨_, _, _, _, _, _⟩) rfl (fun K hK => ?_) ?_
                  rotate_left
                  · exact AllReadyH.nil
                  go_simp
                  skip
                  refine hK.out _ _ (by first | exact HTD.out _ | exact HTC.out | exact HTB.out _ | exact HTA.out | exact HT0.out) (fun hHeld => ?_)
                  clear hK K
                  try simp only [Act.put, List.setIfInBounds_toArray, List.set_cons_zero, List.set_cons_succ]
                  refine wpAnyH_done (by kernel_rfl) ?_ _
                  go_wp2_with fail
                  have HRN : Hid (RbI z7 (w7.setCell ⟨bx, 2, none⟩ (.slice p7 (j + 1) c7)) bx n k (.slice p7 (j + 1) c7) (j + 1) (KL.take (j + 1))) := Lib.hid (by rw [HKJ.out]; exact HR7.out)
                  first
                    | exact ⟨⟨j + 1, p7, c7, rfl, HLT.out, HRN⟩, by have := HLT.out; show n3 - ((j : Int) + 1).toNat < n3 - (j : Int).toNat; omega⟩
                    | exact ⟨⟨j + 1, by omega, HLT.out, p7, c7, HRN⟩, by have := HLT.out; show n3 - ((j : Int) + 1).toNat < n3 - (j : Int).toNat; omega⟩
                · go_simp
                  refine hK.out _ _ (by first | exact HTD.out _ | exact HTC.out | exact HTB.out _ | exact HTA.out | exact HT0.out) (fun hHeld => ?_)
                  clear hK K
                  try simp only [Act.put, List.setIfInBounds_toArray, List.set_cons_zero, List.set_cons_succ]
                  refine wpAnyH_ready (rs := [1]) (by kernel_rfl) (by simp) ?_
                  refine AllReadyH.cons (o := ⟨_, _, _, _, _, _⟩) rfl (fun K hK => ?_) ?_
                  rotate_left
                  · exact AllReadyH.nil
                  go_simp
                  skip
                  refine hK.out _ _ (by first | exact HTD.out _ | exact HTC.out | exact HTB.out _ | exact HTA.out | exact HT0.out) (fun hHeld => ?_)
                  clear hK K
                  try simp only [Act.put, List.setIfInBounds_toArray, List.set_cons_zero, List.set_cons_succ]
                  refine wpAnyH_ready (rs := [10]) (by kernel_rfl) (by simp) ?_
                  refine AllReadyH.cons (o := ⟨_, _, _, _, _, _⟩) rfl (fun K hK => ?_) ?_
                  rotate_left
                  · exact AllReadyH.nil
                  refine step_grew (v := .slice q j d) rfl (.tmp 76) (.tmp 84) rfl Tryd.underlying22 (.string ⟨#[]⟩) 1 info_strT rfl (by decide) [.string rr] 1 ⟨y6.heap.size, 0, none⟩ rfl rfl (HHD2.out _) rfl (by decide) cells_alloc HONE.out hl1 hl2 ?_
                  intro v7 w7 hg7
                  obtain ⟨p7, c7, rfl, _⟩ := hg7.held.cells
                  obtain ⟨hx7, hr7, hk7⟩ := HI6.out.push hg7
                  have HR7 := Lib.hid hr7
                  have HTC := Lib.hid (HSY.out w7 (fun i hi _ => (hk7 i hi).trans (HB6.out.block i (Nat.lt_of_lt_of_le hi HSZ.out))))
                  have HTD : Hid (∀ u, _) := Lib.hid (fun u => HSY.out (w7.setCell ⟨bx, 2, none⟩ u) (fun i hi hne => (Below.heap_setCell _ ⟨bx, 2, none⟩ _ i hne).trans ((hk7 i hi).trans (HB6.out.block i (Nat.lt_of_lt_of_le hi HSZ.out)))))
                  have k7 : w7.cell? ⟨bx, 2, none⟩ = some (.slice q j d) := cellB hx7 rfl
                  have f7 : w7.frozen? ⟨bx, 2, none⟩ = false := frozB hx7
                  clear hg7 hx7 hr7 hk7
                  refine hK.out _ _ (by first | exact HTD.out _ | exact HTC.out | exact HTB.out _ | exact HTA.out | exact HT0.out) (fun hHeld => ?_)
                  clear hK K
                  try simp only [Act.put, List.setIfInBounds_toArray, List.set_cons_zero, List.set_cons_succ]
                  refine wpAnyH_take (i := 11) (oi := ⟨_, _, _, _, _, _⟩) (v := ?_) rfl (by kernel_rfl) (by kernel_rfl) (by kernel_rfl) (fun _ _ _ h => h) (Or.inl ⟨by rfl, ?_⟩) hHeld ?_
                  rotate_left
                  · ((intro w hSw; (try dsimp only at hSw); go_simp) <;> with_reducible rfl)
                  try simp only [Act.put, List.setIfInBounds_toArray, List.set_cons_zero, List.set_cons_succ]
                  refine wpAnyH_ready (rs := [12]) (by kernel_rfl) (by simp) ?_
                  refine AllReadyH.cons (o := ⟨_, _, _, _, _, _⟩) rfl (fun K hK => ?_) ?_
                  rotate_left
                  · exact AllReadyH.nil
                  go_simp
                  skip
                  refine hK.out _ _ (by first | exact HTD.out _ | exact HTC.out | exact HTB.out _ | exact HTA.out | exact HT0.out) (fun hHeld => ?_)
                  clear hK K
                  try simp only [Act.put, List.setIfInBounds_toArray, List.set_cons_zero, List.set_cons_succ]
                  refine wpAnyH_done (by kernel_rfl) ?_ _
                  go_wp2_with fail
                  have HRN : Hid (RbI z7 (w7.setCell ⟨bx, 2, none⟩ (.slice p7 (j + 1) c7)) bx n k (.slice p7 (j + 1) c7) (j + 1) (KL.take (j + 1))) := Lib.hid (by rw [HKJ.out]; exact HR7.out)
                  first
                    | exact ⟨⟨j + 1, p7, c7, rfl, HLT.out, HRN⟩, by have := HLT.out; show n3 - ((j : Int) + 1).toNat < n3 - (j : Int).toNat; omega⟩
                    | exact ⟨⟨j + 1, by omega, HLT.out, p7, c7, HRN⟩, by have := HLT.out; show n3 - ((j : Int) + 1).toNat < n3 - (j : Int).toNat; omega⟩
            · obtain rfl : j = n3 := by omega
              have hji : ¬ (j : Int) < (j : Int) := by omega
              have HTK : Hid (KL.take j = KL) := Lib.hid (List.take_of_length_le (by have := HKA.out.1; omega))
              rw [HTK.out] at HI
              have b0 : wr.cell? ⟨bx, 0, none⟩ = some (.int .i64 (n : Int)) := cellB HI.out.x rfl
              have b1 : wr.cell? ⟨bx, 1, none⟩ = some (.int .i64 (k : Int)) := cellB HI.out.x rfl
              have b2 : wr.cell? ⟨bx, 2, none⟩ = some (.slice q j d) := cellB HI.out.x rfl
              have hxs : wr.heap[bs]? = some (.cells #[.int .i64 0, .int .i64 0, .slice none 0 0] 68 (0, 0)) := by
                have h1 := (HXX.out _ HBW.out.2.2.1).2.2
                exact (HI.out.k.block bs (blk_lt h1) (fun e => by have := Option.some.inj e; have := HBW.out.2.2.2; have := HLT3.out.2.2; omega)).trans h1
              have k0 : wr.cell? ⟨bs, 0, none⟩ = some (.int .i64 0) := cellB hxs rfl
              have k1 : wr.cell? ⟨bs, 1, none⟩ = some (.int .i64 0) := cellB hxs rfl
              have k2 : wr.cell? ⟨bs, 2, none⟩ = some (.slice none 0 0) := cellB hxs rfl
              have f0 : wr.frozen? ⟨bs, 0, none⟩ = false := frozB hxs
              have f1 : wr.frozen? ⟨bs, 1, none⟩ = false := frozB hxs
              have f2 : wr.frozen? ⟨bs, 2, none⟩ = false := frozB hxs
              have HX6 := Lib.hid (blk_set3 (x := .int .i64 (n : Int)) (y := .int .i64 (k : Int)) (z := .slice q j d) hxs)
              clear hlt hxs hj
              go_wp2_with fail
              have m0 := cellB (k := 0) HX6.out rfl
              have m1 := cellB (k := 1) HX6.out rfl
              have m2 := cellB (k := 2) HX6.out rfl
              have hle : w.heap.size ≤ bs := HB1.out.2
              refine bodyPost_ret (v := .tuple #[.agg #[.int .i64 (n : Int), .int .i64 (k : Int), .slice q j d], .int .i64 0]) (by simp [results, Tryd.results34, go_sem, m0, m1, m2]) rfl ?_
              refine JnO.ok n k KL rfl rfl (by rw [Int.toNat_natCast, Int.toNat_natCast, Int.toNat_natCast]; exact HKA.out.2.2) ⟨_, rfl, ?_, ?_, ?_⟩
              · have hb := HI.out.bel HBW.out.1 HBW.out.2.1
                exact ((hb.setCell (p := ⟨bs, 0, none⟩) hle _).setCell (p := ⟨bs, 1, none⟩) hle _).setCell (p := ⟨bs, 2, none⟩) hle _
              · rw [HKA.out.1]
                refine HI.out.h.keep fun g hg => ?_
                have h9 := HI.out.o g hg
                have h8 : bs < z7.heap.size := Nat.lt_of_lt_of_le HLT3.out.2.2 HBW.out.2.2.1.size
                have hgb : g ≠ bs := by omega
                rw [Below.heap_setCell _ ⟨bs, 2, none⟩ _ g hgb, Below.heap_setCell _ ⟨bs, 1, none⟩ _ g hgb, Below.heap_setCell _ ⟨bs, 0, none⟩ _ g hgb]
              · exact fun g hg => Nat.le_trans HBW.out.1.size (HI.out.o g hg)
end Go.Proofs.YtdbghgpohdijfaaDoor
