/- Law 6: unlike texts. -/
import Derived.Test.YtdbghgpohdijfaaGreatDoorMa33
import Derived.Test.YtdbghgpohdijfaaGreatDoorMa1
namespace Go.Proofs.YtdbghgpohdijfaaGreatDoor
open Go.RowKit Go.Scr
set_option linter.unusedVariables false
theorem txts_cell1 {w : World} {g : Nat} {s : ByteArray} (h : w.cell? ⟨g, 0, none⟩ = some (.string s)) : Txts w (.slice (some ⟨g, 0, none⟩) 1 1) [s] := by
  refine ⟨_, 1, rfl, Nat.le_refl _, by show 1 ≤ _; omega, fun j t ht => ⟨_, rfl, ?_⟩⟩
  have hj : j = 0 := by have := (List.getElem?_eq_some_iff.mp ht).1; simp at this; exact this
  subst hj
  simp at ht
  subst ht
  have hadd : (⟨g, 0, none⟩ : Addr).add 0 = ⟨g, 0, none⟩ := by unfold Addr.add; split <;> simp_all
  rw [hadd]
  exact h
end Go.Proofs.YtdbghgpohdijfaaGreatDoor
/- Law 6: awake: the first calls' answers. -/
namespace Go.Proofs.YtdbghgpohdijfaaGreatDoor
open Go.RowKit Go.Scr
set_option linter.unusedVariables false
theorem held_txtsE {w : World} {T n : Nat} {v : Value} {L : List ByteArray} (h : Held w T 1 v n (L.map Value.string)) (hl : L.length ≤ 4194304) : Txts w v L := by
  have hn : n = L.length := by have := h.1; simpa using this.symm
  obtain ⟨p, c, rfl, h1, _, h2⟩ := h.cells
  refine ⟨p, c, by rw [hn], by omega, by omega, fun j s hs => ?_⟩
  obtain ⟨a, ha, _, hc⟩ := h2 j (.string s) (by rw [List.getElem?_map, hs]; rfl)
  exact ⟨a, ha, hc⟩
set_option maxRecDepth 100000 in
set_option maxHeartbeats 4000000 in
theorem awake_any {W : World} (ht : Tabs W) :
    Calls Tryz.prog 4 #[] W fun o w' => o = .returned (.bool true) ∧ Below W.heap.size W w' := by
  obtain ⟨a, ha⟩ : ∃ a, a = repS 1 := ⟨_, rfl⟩
  obtain ⟨b, hb⟩ : ∃ a, a = repS 2 := ⟨_, rfl⟩
  obtain ⟨c, hc⟩ : ∃ a, a = repS 3 := ⟨_, rfl⟩
  have CH1 : Hid (∀ w, Calls Tryz.prog 15 #[.int .u8 1] w fun e w' => e = .returned (.string a) ∧ Below w.heap.size w w') := Lib.hid (fun w => by rw [ha]; exact rep_any 1 1 rfl w)
  have CH2 : Hid (∀ w, Calls Tryz.prog 15 #[.int .u8 2] w fun e w' => e = .returned (.string b) ∧ Below w.heap.size w w') := Lib.hid (fun w => by rw [hb]; exact rep_any 2 2 rfl w)
  have CH3 : Hid (∀ w, Calls Tryz.prog 15 #[.int .u8 3] w fun e w' => e = .returned (.string c) ∧ Below w.heap.size w w') := Lib.hid (fun w => by rw [hc]; exact rep_any 3 3 rfl w)
  have HAW : Hid (aw = [a, b, c]) := Lib.hid (by rw [ha, hb, hc]; rfl)
  obtain ⟨R, hR⟩ : ∃ R, R = rootR aw := ⟨_, rfl⟩
  obtain ⟨O, hO⟩ : ∃ R, R = rootR (aw.take 2) := ⟨_, rfl⟩
  have hre : ∀ L : List ByteArray, (∀ s ∈ L, s.size = 32) → L.length ≤ 4096 → refusedE L = 0 := fun L h32 hn => by
    unfold refusedE; rw [if_neg (by omega), if_neg (by rw [show ok32 L = true from all32_ofE h32]; decide)]
  have z2 : ∀ s ∈ aw.take 2, s.size = 32 := fun s hs => aw_32 s (List.mem_of_mem_take hs)
  have C1 : Hid (∀ w v, Below W.heap.size W w → Txts w v aw → Calls Tryz.prog 16 #[v] w fun e w' => e = .returned (.tuple #[.string R, .int .i64 0]) ∧ Below w.heap.size w w') := Lib.hid (fun w v hb hv => by
    have := Root_any v aw w (ht.below hb) hv
    rwa [rootT_R aw_32 (by decide), hre aw aw_32 (by decide), ← hR] at this)
  have C2 : Hid (∀ w v, Below W.heap.size W w → Txts w v aw → Calls Tryz.prog 17 #[v, .int .i64 1] w fun e w' => ∃ p d, e = .returned (.tuple #[.slice p 2 d, .int .i64 0]) ∧ Txts w' (.slice p 2 d) (pathR 1 aw) ∧ Below w.heap.size w w') := Lib.hid (fun w v hb hv => by
    refine (Path_any v aw 1 w (ht.below hb) hv).mono ?_
    rintro e w' ⟨x, rfl, ho, hbe⟩
    have h2 := aw_incl.2.1
    have h1 := aw_incl.1
    have e1 : pathT aw 1 = pathR 1 aw := h2
    have e2 : pathE aw 1 = 0 := h1
    rw [e1] at ho
    have hl : (pathR 1 aw).length = 2 := by show (pathR 1 [repS 1, repS 2, repS 3]).length = 2; rw [path3]; rfl
    rw [hl] at ho
    obtain ⟨p, d, rfl, _⟩ := (held_of_owns ho).cells
    exact ⟨p, d, by rw [e2], held_txtsE (held_of_owns ho) (by rw [hl]; decide), hbe⟩)
  obtain ⟨nq, hnq⟩ : ∃ n, n = (proofR 2 aw true).length := ⟨_, rfl⟩
  have C3 : Hid (∀ w v, Below W.heap.size W w → Txts w v aw → Calls Tryz.prog 18 #[v, .int .i64 2] w fun e w' => ∃ p d, e = .returned (.tuple #[.slice p nq d, .int .i64 0]) ∧ Txts w' (.slice p nq d) (proofR 2 aw true) ∧ Below w.heap.size w w') := Lib.hid (fun w v hb hv => by
    refine (Proof_any v aw 2 w (ht.below hb) hv).mono ?_
    rintro e w' ⟨x, rfl, ho, hbe⟩
    have e1 : proofT aw 2 = proofR 2 aw true := aw_cons.2.1
    have e2 : proofE aw 2 = 0 := aw_cons.1
    rw [e1] at ho
    have hl := proofR_len (m := 2) (L := aw) true (by decide) (by decide)
    rw [← hnq] at ho
    obtain ⟨p, d, rfl, _⟩ := (held_of_owns ho).cells
    exact ⟨p, d, by rw [e2], held_txtsE (held_of_owns ho) (Nat.le_trans hl (by decide)), hbe⟩)
  have C4 : Hid (∀ w v, Below W.heap.size W w → Txts w v (aw.take 2) → Calls Tryz.prog 16 #[v] w fun e w' => e = .returned (.tuple #[.string O, .int .i64 0]) ∧ Below w.heap.size w w') := Lib.hid (fun w v hb hv => by
    have := Root_any v (aw.take 2) w (ht.below hb) hv
    rwa [rootT_R z2 (by decide), hre _ z2 (by decide), ← hO] at this)
  have hpl : (pathR 1 aw).length ≤ 1048576 := by
    have hl : (pathR 1 aw).length = 2 := by show (pathR 1 [repS 1, repS 2, repS 3]).length = 2; rw [path3]; rfl
    omega
  have hql : (proofR 2 aw true).length ≤ 1048576 := Nat.le_trans (proofR_len (m := 2) (L := aw) true (by decide) (by decide)) (by decide)
  have C5 : Hid (∀ w v, Below W.heap.size W w → Txts w v (pathR 1 aw) → Calls Tryz.prog 6 #[.int .i64 3, .int .i64 1, .string R, .string b, v, .string b, v] w (NoneP 60 w)) := Lib.hid (fun w v hbb hv => by
    rw [hR, hb]
    exact incl_none (ht.below hbb) hv hv hpl aw_incl.2.2)
  have C6 : Hid (∀ w v u, Below W.heap.size W w → Txts w v aw → Txts w u (proofR 2 aw true) → Calls Tryz.prog 11 #[v, .int .i64 2, .string O, u] w (NoneP 60 w)) := Lib.hid (fun w v u hbb hv hu => by
    rw [hO]
    exact cons_none (f := 2) (ht.below hbb) hv hu (by decide) aw_32 hql (by decide) aw_cons.2.2 rfl)
  have C7 : Hid (∀ w v, Below W.heap.size W w → Txts w v (pathR 1 aw) → Calls Tryz.prog 6 #[.int .i64 3, .int .i64 1, .string R, .string b, v, .string c, v] w (NoneP 61 w)) := Lib.hid (fun w v hbb hv => by
    rw [hR, hc]
    exact incl_proof (ht.below hbb) hv hv hpl hpl (.inr aw_no))
  have C8 : Hid (∀ w v, Below W.heap.size W w → Txts w v aw → Calls Tryz.prog 9 #[v, v] w (NoneP 60 w)) := Lib.hid (fun w v hbb hv => by
    have ho : ok32 aw = true := all32_ofE aw_32
    have h1 := leaves_ok (ht.below hbb) hv hv (by unfold lvNo; rw [ho]; decide)
    refine h1.mono fun e w' h => ?_
    unfold LvP at h
    rwa [if_pos (.inl rfl)] at h)
  clear ht ha hb hc hR hO hre z2 hpl hql hnq
  go_enter Tryz.func4, Tryz.ntmps4
  go_upto_region 2 with (first
    | (go_at_call 15; (with_reducible refine (CH1.out _).mono ?_); rintro o w1 ⟨rfl, h⟩; have H1 := Lib.hid h; clear h)
    | (go_at_call 15; (with_reducible refine (CH2.out _).mono ?_); rintro o w2 ⟨rfl, h⟩; have H2 := Lib.hid (H1.out.trans (h.mono H1.out.size)); clear h)
    | (go_at_call 15; (with_reducible refine (CH3.out _).mono ?_); rintro o w3 ⟨rfl, h⟩; have H3 : Hid (Below W.heap.size W w3) := Lib.hid (H2.out.trans (h.mono H2.out.size)); clear h))
  obtain ⟨w4, hw4⟩ : ∃ x, x = w3.alloc (.cells #[.string a, .string b, .string c] 9) := ⟨_, rfl⟩
  obtain ⟨gl, hgl⟩ : ∃ x, x = w3.heap.size := ⟨_, rfl⟩
  have hb4 : Below w3.heap.size w3 w4 := by rw [hw4]; exact (Below.refl _ _).alloc (Nat.le_refl _) _
  have H4 : Hid (Below W.heap.size W w4) := Lib.hid (H3.out.trans (hb4.mono H3.out.size))
  have HTL : Hid (∀ w', Below w4.heap.size w4 w' → Txts w' (.slice (some ⟨gl, 0, none⟩) 3 3) aw) := Lib.hid (fun w' hb => by
    have h1 := txts_alloc w3 9 [a, b, c] (by show 3 ≤ _; omega)
    have h2 : Txts w4 (.slice (some ⟨gl, 0, none⟩) 3 3) aw := by rw [hw4, hgl, HAW.out]; exact h1
    exact h2.below hb (Nat.le_refl _))
  have HTL2 : Hid (∀ w', Below w4.heap.size w4 w' → Txts w' (.slice (some ⟨gl, 0, none⟩) 2 3) (aw.take 2)) := Lib.hid (fun w' hb => (HTL.out w' hb).cutC (by decide))
  rw [← hw4, ← hgl]
  clear hw4 hgl hb4 CH1
  have HB4 : Hid (Below w4.heap.size w4 w4) := Lib.hid (Below.refl _ _)
  go_upto_region 6 with (first
    | (go_at_call 16; (with_reducible refine (C1.out _ _ H4.out (HTL.out _ HB4.out)).mono ?_); rintro o w5 ⟨rfl, h⟩; have HB5 := Lib.hid h; clear h)
    | (go_at_call 17; (with_reducible refine (C2.out _ _ (H4.out.trans (HB5.out.mono H4.out.size)) (HTL.out _ HB5.out)).mono ?_); rintro o w6 ⟨pp, pd, rfl, htx, h⟩; have HP6 := Lib.hid htx; have HB6 : Hid (Below w4.heap.size w4 w6) := Lib.hid (HB5.out.trans (h.mono HB5.out.size)); clear h htx)
    | (go_at_call 18; (with_reducible refine (C3.out _ _ (H4.out.trans (HB6.out.mono H4.out.size)) (HTL.out _ HB6.out)).mono ?_); rintro o w7 ⟨qp, qd, rfl, htx, h⟩; have HQ7 := Lib.hid htx; have HP7 := Lib.hid (HP6.out.below h (Nat.le_refl _)); have HB7 : Hid (Below w4.heap.size w4 w7) := Lib.hid (HB6.out.trans (h.mono HB6.out.size)); clear h htx)
    | (go_at_call 16; (with_reducible refine (C4.out _ _ (H4.out.trans (HB7.out.mono H4.out.size)) (HTL2.out _ HB7.out)).mono ?_); rintro o w8 ⟨rfl, h⟩; have HQ8 := Lib.hid (HQ7.out.below h (Nat.le_refl _)); have HP8 := Lib.hid (HP7.out.below h (Nat.le_refl _)); have HB8 : Hid (Below w4.heap.size w4 w8) := Lib.hid (HB7.out.trans (h.mono HB7.out.size)); clear h))
  have HPQ : Hid (∀ w', Below w8.heap.size w8 w' → Below W.heap.size W w' ∧ Txts w' (.slice (some ⟨gl, 0, none⟩) 3 3) aw ∧ Txts w' (.slice pp 2 pd) (pathR 1 aw) ∧ Txts w' (.slice qp nq qd) (proofR 2 aw true)) := Lib.hid (fun w' hb => by
    have h48 := HB8.out.trans (hb.mono HB8.out.size)
    exact ⟨H4.out.trans (h48.mono H4.out.size), HTL.out _ h48, HP8.out.below hb (Nat.le_refl _), HQ8.out.below hb (Nat.le_refl _)⟩)
  have HX : Hid (Below w8.heap.size w8 w8) := Lib.hid (Below.refl _ _)
  clear C1 C2 C3 C4 CH3 H1 H2 H3 H4 HTL HTL2 HB4 HB5 HB6 HB7 HB8 HP6 HP7 HP8 HQ7 HQ8
  have CH3 : Hid (∀ w, Calls Tryz.prog 15 #[.int .u8 3] w fun e w' => e = .returned (.string c) ∧ Below w.heap.size w w') := Lib.hid (fun w => by
    have h1 := HAW.out
    have h2 : c = repS 3 := by
      injection h1 with _ h3
      injection h3 with _ h4
      injection h4 with h5 _
      exact h5.symm
    rw [h2]
    exact rep_any 3 3 rfl w)
  go_upto_region 9 with (first
    | (go_at_call 15; (with_reducible refine (CH2.out _).mono ?_); rintro o x ⟨rfl, h⟩; replace HX := Lib.hid (HX.out.trans (h.mono HX.out.size)); clear h)
    | (go_at_call 6; (with_reducible refine (C5.out _ _ (HPQ.out _ HX.out).1 (HPQ.out _ HX.out).2.2.1).mono ?_); rintro o x ⟨rfl, h⟩; replace HX := Lib.hid (HX.out.trans (h.mono HX.out.size)); clear h))
  obtain ⟨y1, hy1⟩ : ∃ y, y = x.alloc (.cells #[.string ⟨#[]⟩, .string ⟨#[]⟩] 26) := ⟨_, rfl⟩
  replace HX : Hid (Below w8.heap.size w8 y1) := Lib.hid (by rw [hy1]; exact HX.out.alloc HX.out.size _)
  rw [← hy1]
  clear hy1
  go_upto_region 10 with (go_at_call 11; (with_reducible refine (C6.out _ _ _ (HPQ.out _ HX.out).1 (HPQ.out _ HX.out).2.1 (HPQ.out _ HX.out).2.2.2).mono ?_); rintro o x2 ⟨rfl, h⟩; replace HX := Lib.hid (HX.out.trans (h.mono HX.out.size)); clear h)
  obtain ⟨y2, hy2⟩ : ∃ y, y = x2.alloc (.cells #[.string ⟨#[]⟩, .string ⟨#[]⟩] 26) := ⟨_, rfl⟩
  replace HX : Hid (Below w8.heap.size w8 y2) := Lib.hid (by rw [hy2]; exact HX.out.alloc HX.out.size _)
  rw [← hy2]
  clear hy2
  go_upto_region 11 with (first
    | (go_at_call 15; (with_reducible refine (CH2.out _).mono ?_); rintro o x3 ⟨rfl, h⟩; replace HX := Lib.hid (HX.out.trans (h.mono HX.out.size)); clear h)
    | (go_at_call 15; (with_reducible refine (CH3.out _).mono ?_); rintro o x4 ⟨rfl, h⟩; replace HX := Lib.hid (HX.out.trans (h.mono HX.out.size)); clear h)
    | (go_at_call 6; (with_reducible refine (C7.out _ _ (HPQ.out _ HX.out).1 (HPQ.out _ HX.out).2.2.1).mono ?_); rintro o x5 ⟨rfl, h⟩; replace HX := Lib.hid (HX.out.trans (h.mono HX.out.size)); clear h))
  obtain ⟨y3, hy3⟩ : ∃ y, y = x5.alloc (.cells #[.string ⟨#[]⟩, .string ⟨#[]⟩] 26) := ⟨_, rfl⟩
  replace HX : Hid (Below w8.heap.size w8 y3) := Lib.hid (by rw [hy3]; exact HX.out.alloc HX.out.size _)
  rw [← hy3]
  clear hy3
  go_wp2_with (go_at_call 9; (with_reducible refine (C8.out _ _ (HPQ.out _ HX.out).1 (HPQ.out _ HX.out).2.1).mono ?_); rintro o x6 ⟨rfl, h⟩; replace HX := Lib.hid (HX.out.trans (h.mono HX.out.size)); clear h)
  go_ret
  have h9 := (HPQ.out _ HX.out).1
  exact ⟨rfl, h9.alloc h9.size _⟩
end Go.Proofs.YtdbghgpohdijfaaGreatDoor
