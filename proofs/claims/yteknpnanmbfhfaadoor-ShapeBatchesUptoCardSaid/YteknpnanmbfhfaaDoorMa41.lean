/- The law 8's book: still, walked. -/
import Derived.Test.YteknpnanmbfhfaaDoorMa40
import Derived.Deep.CutBlock
namespace Go.Proofs.YteknpnanmbfhfaaDoor.Bk8
open Go.RowKit Go.Scr
set_option linter.unusedVariables false
theorem BookI.rowk {W0 w : World} {b : Nat} {col : Nat → Nat} {V : Nat → Value} {is js : Nat} {hs hn : List (Value × List (Nat × Nat))} {ws wn : List Value} {gs gn : List (Value × Nat)} (h : BookI W0 w b col V is hs ws gs js hn wn gn) {k n : Nat} (hk : k < 6) {R : List Value} (hR : bkR hs ws gs hn wn gn k = R) (hn : R.length = n) :
    ∃ p c, V k = .slice p n c ∧ w.cell? ⟨b, k, none⟩ = some (.slice p n c) ∧ n ≤ c ∧ c ≤ maxLen ∧ (∀ (i : Nat) (x : Value), R[i]? = some x → ∃ a, p = some a ∧ w.cell? (a.add i) = some x) ∧ Held w (bkTy k) 1 (V k) n R := by
  have h1 := h.st.row k hk
  have h2 := h.st.cell hk
  rw [hR, hn] at h1
  obtain ⟨p, c, e, q1, q2, q3⟩ := h1.cells
  refine ⟨p, c, e, by rw [← e]; exact h2, q1, q2, fun i x hx => ?_, h1⟩
  obtain ⟨a, ha, _, hc⟩ := q3 i x hx
  exact ⟨a, ha, hc⟩
theorem BookI.stepS {W0 w : World} {b : Nat} {col : Nat → Nat} {V : Nat → Value} {is js : Nat} {hs hn : List (Value × List (Nat × Nat))} {ws wn : List Value} {gs gn : List (Value × Nat)} (h : BookI W0 w b col V is hs ws gs js hn wn gn) : BookI W0 w b col V (is + 1) hs ws gs js hn wn gn :=
  ⟨h.st, ⟨fun j p hj hp => h.s.li j p (by omega) hp, h.s.wi, h.s.gi, h.s.gq, h.s.gl, h.s.ll⟩, h.n, h.bel⟩
theorem BookI.stepN {W0 w : World} {b : Nat} {col : Nat → Nat} {V : Nat → Value} {is js : Nat} {hs hn : List (Value × List (Nat × Nat))} {ws wn : List Value} {gs gn : List (Value × Nat)} (h : BookI W0 w b col V is hs ws gs js hn wn gn) : BookI W0 w b col V is hs ws gs (js + 1) hn wn gn :=
  ⟨h.st, h.s, ⟨fun j p hj hp => h.n.li j p (by omega) hp, h.n.wi, h.n.gi, h.n.gq, h.n.gl, h.n.ll⟩, h.bel⟩
theorem map_fst_get {α : Type} {l : List (Value × α)} {i : Nat} {p : Value × α} (h : l[i]? = some p) : (l.map (·.1))[i]? = some p.1 := by rw [List.getElem?_map, h]; rfl
theorem gq_lt {i gl : Nat} {gs : List (Value × Nat)} (hq : ∀ (q : Nat) (p : Value × Nat), gs[q]? = some p → p.2 = q / 40) (hl : gs.length = 40 * i) : ∀ p ∈ gs, p.2 ≠ i := by
  intro p hp
  obtain ⟨q, hq2⟩ := List.getElem?_of_mem hp
  have h1 := (List.getElem?_eq_some_iff.mp hq2).1
  have h2 := hq q p hq2
  omega
theorem full_cells {w : World} {T i : Nat} {v : Value} (h : Full w T 2 (mk2 i) v) : ∃ p n c, v = .slice p n c ∧ n ≤ c ∧ c ≤ maxLen ∧ ∀ k, k < n → ∃ g, p = some ⟨g, 0, none⟩ ∧ w.cell? ⟨g, k * 2, none⟩ = some (.int .i64 (-5 - 40 * (i : Int))) ∧ w.cell? ⟨g, k * 2 + 1, none⟩ = some (.int .i64 0) := by
  rcases h with rfl | ⟨g, n, cap, cur, rfl, hg, h1, h2, h3, h4⟩
  · exact ⟨none, 0, 0, rfl, Nat.le_refl _, Nat.zero_le _, fun k hk => by omega⟩
  · refine ⟨_, n, cap, rfl, h1, h2, fun k hk => ⟨g, rfl, ?_, ?_⟩⟩
    · rw [cell_of_row w g (k * 2) _ _ _ hg, h4 (k * 2) (by omega), Nat.mul_mod_left]
      rfl
    · rw [cell_of_row w g (k * 2 + 1) _ _ _ hg, h4 (k * 2 + 1) (by omega), show (k * 2 + 1) % 2 = 1 by omega]
      rfl
set_option maxRecDepth 100000 in
set_option maxHeartbeats 8000000 in
theorem still_any {W0 w : World} {b : Nat} {col : Nat → Nat} {V : Nat → Value} {hs hn : List (Value × List (Nat × Nat))} {ws wn : List Value} (h : BookI W0 w b col V 0 hs ws [] 0 hn wn []) (hws : ws.length = hs.length) (hwn : wn.length = hn.length) (hl1 : hs.length ≤ 800) (hl2 : hn.length ≤ 800) :
    Calls Tryd.prog 17 #[.pointer (some ⟨b, 0, none⟩)] w fun r w' => r = .returned (.bool true) ∧ Below W0.heap.size W0 w' := by
  obtain ⟨nS, hnS⟩ : ∃ n, n = hs.length := ⟨_, rfl⟩
  obtain ⟨nN, hnN⟩ : ∃ n, n = hn.length := ⟨_, rfl⟩
  have HLEN : Hid (nS = hs.length ∧ ws.length = nS ∧ nN = hn.length ∧ wn.length = nN) := Lib.hid ⟨hnS, by rw [hnS]; exact hws, hnN, by rw [hnN]; exact hwn⟩
  have H := Lib.hid h
  have hnSb : nS ≤ 800 := by omega
  have hnNb : nN ≤ 800 := by omega
  clear h hws hwn hl1 hl2 hnS hnN
  go_enter Tryd.func17, Tryd.ntmps17
  go_wp2_with fail
  go_loopw [3] (fun x wr => ∃ c : Int, x = .int .i64 c ∧ -1 ≤ c ∧ c ≤ (nS : Int) ∧ Hid (∃ col V, ∃ gr : List (Value × Nat), gr.length = 40 * c.toNat ∧ BookI W0 wr b col V c.toNat hs ws gr 0 hn wn [])) (fun x _ => ((nS : Int) - intOf x).toNat)
  case atStart => exact ⟨-1, rfl, by omega, by omega, Lib.hid ⟨_, _, [], rfl, H.out⟩⟩
  case round =>
    obtain ⟨c, rfl, hc1, hc2, HI⟩ := hrel
    obtain ⟨colA, VA, grA, hgl, hbk⟩ := HI.out
    have HA : Hid (grA.length = 40 * c.toNat ∧ BookI W0 wr b colA VA c.toNat hs ws grA 0 hn wn []) := Lib.hid ⟨hgl, hbk⟩
    obtain ⟨lp, lc, _, k1, _, _, kl, _⟩ := hbk.rowk (k := 0) (by omega) rfl (n := nS) (by show (hs.map _).length = nS; rw [List.length_map]; exact (HLEN.out.1).symm)
    have KL := Lib.hid kl
    clear HI hgl hbk kl
    by_cases hlt : c < (nS : Int)
    · obtain ⟨T, hT⟩ : ∃ T : Bool, T = decide (0 ≤ c) := ⟨_, rfl⟩
      have hT2 : decide ((0 : Int) ≤ c) = T := hT.symm
      have HT := Lib.hid hT
      clear hT
      obtain ⟨u, hu⟩ : ∃ u : Nat, u = (c + 1).toNat := ⟨_, rfl⟩
      have hci : c + 1 = (u : Int) := by omega
      have HU : Hid (u = (c + 1).toNat ∧ -1 ≤ c ∧ c < (nS : Int) ∧ u ≤ nS) := Lib.hid ⟨hu, hc1, hlt, by omega⟩
      clear hu
      go_upto_if 31 with fail
      clear hT2 hci
      go_cut [4, 5, 6, 7] from 30 to 73 (fun _ _ _ _ wx => Hid (∃ col V, ∃ gr : List (Value × Nat), gr.length = 40 * u ∧ BookI W0 wx b col V u hs ws gr 0 hn wn []))
      case first =>
        by_cases hc0 : c = -1
        · have e : T = false := by rw [HT.out, decide_eq_false (by omega)]
          have hu0 : u = 0 := by have := HU.out.1; omega
          have ht0 : c.toNat = 0 := by omega
          subst e
          clear hc0
          go_wp2_with fail
          go_meet
          refine Lib.hid ⟨colA, VA, grA, ?_, ?_⟩
          · rw [HA.out.1, ht0, hu0]
          · have := HA.out.2
            rw [ht0] at this
            rw [hu0]
            exact this
        · obtain ⟨i, hi⟩ : ∃ i : Nat, c = (i : Int) := ⟨c.toNat, by omega⟩
          subst hi
          have e : T = true := by rw [HT.out, decide_eq_true (by omega)]
          subst e
          have hin : i < nS := by omega
          have hinL : i < hs.length := by have := HLEN.out.1; omega
          obtain ⟨⟨pv, A⟩, hp⟩ : ∃ p, hs[i]? = some p := ⟨hs[i]'hinL, List.getElem?_eq_getElem _⟩
          obtain ⟨hheld, hAl, hcol⟩ := HA.out.2.s.li i (pv, A) (by omega) hp
          have hheld : Held wr 29 2 pv A.length (prsV A) := hheld
          have hAl : A.length ≤ 1099511627776 := hAl
          have hcol : ∀ g, pv.ownBlock = some g → colA g = 16 + i := hcol
          obtain ⟨m, hm⟩ : ∃ m, m = A.length := ⟨_, rfl⟩
          rw [← hm] at hheld
          obtain ⟨qv, cv, rfl, hqc, hcm, _⟩ := hheld.cells
          obtain ⟨a3, hp3, ka⟩ := KL.out i _ (map_fst_get hp)
          have ka : wr.cell? (a3.add i) = some (.slice qv m cv) := ka
          have hmb : m ≤ 1099511627776 := by omega
          obtain ⟨gl, hglv⟩ : ∃ gl, gl = grA.length := ⟨_, rfl⟩
          obtain ⟨gp, gc, _, kg, _, _, _, _⟩ := HA.out.2.rowk (k := 2) (by omega) rfl (n := gl) (by show (grA.map _).length = gl; rw [List.length_map]; exact hglv.symm)
          have hgl40 : gl = 40 * i := by rw [hglv, HA.out.1, Int.toNat_natCast]
          have hglb : gl ≤ 40000 := by omega
          obtain ⟨mz, hmz⟩ : ∃ mz : Int, mz = -5 - 40 * (i : Int) := ⟨_, rfl⟩
          have hmzi : -5 - (gl : Int) = mz := by omega
          have HMK : Hid ([Value.int .i64 mz, .int .i64 0] = mk2 i) := Lib.hid (by rw [hmz]; rfl)
          have hmz1 : -40000 ≤ mz := by omega
          have hmz2 : mz ≤ 0 := by omega
          have hi0 : (0 : Int) ≤ (i : Int) := by omega
          have hini : (i : Int) < (nS : Int) := by omega
          obtain ⟨Bm, hBm⟩ : ∃ x, x = wr.heap.size := ⟨_, rfl⟩
          obtain ⟨wm, hwm⟩ : ∃ x, x = wr.alloc (.cells #[.int .i64 mz, .int .i64 0] 29) := ⟨_, rfl⟩
          have hbm : Below wr.heap.size wr wm := by rw [hwm]; exact (Below.refl _ _).alloc (Nat.le_refl _) _
          have hrm : wm.heap[Bm]? = some (.cells #[.int .i64 mz, .int .i64 0] 29 (0, 0)) := by rw [hwm, hBm]; exact heap_alloc_new wr _
          have hszm : wm.heap.size = wr.heap.size + 1 := by rw [hwm]; simp
          have hbA := HA.out.2
          rw [Int.toNat_natCast] at hbA
          obtain ⟨m1, m2⟩ := hbA.dye hbm (v := .slice (some ⟨Bm, 0, none⟩) 0 0) 9 (fun g hg => by have e : Bm = g := Option.some.inj hg; omega)
          obtain ⟨colM, hcolM⟩ : ∃ x, x = dyeV colA (.slice (some ⟨Bm, 0, none⟩) 0 0) 9 := ⟨_, rfl⟩
          rw [← hcolM] at m1 m2
          have hcB : colM Bm = 9 := by rw [hcolM]; exact dyeV_at rfl
          have HM : Hid (BookI W0 wm b colM VA (i + 1) hs ws grA 0 hn wn [] ∧ Held wm 29 2 (.slice qv m cv) m (prsV A) ∧ (∀ g, (Value.slice qv m cv).ownBlock = some g → colM g = 16 + i) ∧ wm.heap[Bm]? = some (.cells #[.int .i64 mz, .int .i64 0] 29 (0, 0)) ∧ colM Bm = 9) := Lib.hid ⟨m1.stepS, hheld.below hbm, fun g hg => (m2 g (hheld.lt hg)).trans (hcol g hg), hrm, hcB⟩
          have HGA : Hid (grA.length = 40 * i ∧ ∀ p ∈ grA, p.2 ≠ i) := Lib.hid ⟨by rw [← hglv, hgl40], gq_lt (gl := gl) hbA.s.gq (by rw [← hglv, hgl40])⟩
          have HIL : Hid (i < hs.length ∧ u = i + 1 ∧ (prsV A).length = m * 2) := Lib.hid ⟨hinL, by have := HU.out.1; omega, by rw [prsV_length]; omega⟩
          subst hp3
          have hib : i ≤ 800 := by omega
          have HW := Lib.hid hwm
          have HBM := Lib.hid hBm
          clear hp hheld hAl hcol hm hqc hcm hglv hgl40 hmz hbm hrm hszm hbA m1 m2 hcolM hcB hwm hBm hc0 hlt hc1 hc2 hin hinL
          go_upto_region 7 with fail
          rw [← HW.out, ← HBM.out]
          clear k1 ka kg hini hmzi
          go_wp2_with fail
          go_loopw [6] (fun x wr => ∃ k : Nat, x = .int .i64 (k : Int) ∧ k ≤ m ∧ Hid (BookI W0 wr b colM VA (i + 1) hs ws grA 0 hn wn [] ∧ Held wr 29 2 (.slice qv m cv) m (marks (mk2 i) k ++ (prsV A).drop (k * 2)) ∧ wr.heap[Bm]? = some (.cells #[.int .i64 mz, .int .i64 0] 29 (0, 0)))) (fun x _ => m - (intOf x).toNat)
          case atStart => exact ⟨0, rfl, by omega, Lib.hid ⟨HM.out.1, by rw [marks_start (m := m)]; exact HM.out.2.1, HM.out.2.2.2.1⟩⟩
          case round =>
            obtain ⟨k, rfl, hk, HK⟩ := hrel
            have d0 : wr.cell? ⟨Bm, 0, none⟩ = some (.int .i64 mz) := cell_of_row _ _ _ _ _ _ HK.out.2.2
            have d1 : wr.cell? ⟨Bm, 1, none⟩ = some (.int .i64 0) := cell_of_row _ _ _ _ _ _ HK.out.2.2
            by_cases hkm : k < m
            · have hkmi : (k : Int) < (m : Int) := by omega
              have hk0 : (0 : Int) ≤ (k : Int) := by omega
              obtain ⟨g, hg, hgc⟩ := held_cell HK.out.2.1 (by omega)
              subst hg
              have hlen := HK.out.2.1.1
              obtain ⟨x0, f0⟩ : ∃ x0, wr.cell? ⟨g, k * 2, none⟩ = some x0 := ⟨_, hgc (k * 2) _ (List.getElem?_eq_getElem (by omega))⟩
              obtain ⟨x1, f1⟩ : ∃ x1, wr.cell? ⟨g, k * 2 + 1, none⟩ = some x1 := ⟨_, hgc (k * 2 + 1) _ (List.getElem?_eq_getElem (by omega))⟩
              have ff : ∀ q, wr.frozen? ⟨g, q, none⟩ = false := by
                intro q
                rcases HK.out.2.1.2 with ⟨e, _⟩ | ⟨g', cap, cur, e, hg', _⟩
                · cases e
                · cases e
                  exact frozen_of_row _ _ _ _ _ hg'
              have hcg := HM.out.2.2.1 g rfl
              obtain ⟨n1, n2, n3⟩ := HK.out.1.markS HGA.out.2 HIL.out.1 HK.out.2.1 (g := g) rfl hcg k (.int .i64 mz) (.int .i64 0)
              have hmz' : mz = -5 - 40 * (i : Int) := by
                have := HMK.out
                unfold mk2 at this
                simp only [List.cons.injEq, Value.int.injEq, true_and, and_true] at this
                exact this
              have HN : Hid (BookI W0 ((wr.setCell ⟨g, k * 2, none⟩ (.int .i64 mz)).setCell ⟨g, k * 2 + 1, none⟩ (.int .i64 0)) b colM VA (i + 1) hs ws grA 0 hn wn [] ∧ Held ((wr.setCell ⟨g, k * 2, none⟩ (.int .i64 mz)).setCell ⟨g, k * 2 + 1, none⟩ (.int .i64 0)) 29 2 (.slice (some ⟨g, 0, none⟩) m cv) m (marks (mk2 i) (k + 1) ++ (prsV A).drop ((k + 1) * 2)) ∧ ((wr.setCell ⟨g, k * 2, none⟩ (.int .i64 mz)).setCell ⟨g, k * 2 + 1, none⟩ (.int .i64 0)).heap[Bm]? = some (.cells #[.int .i64 mz, .int .i64 0] 29 (0, 0))) := Lib.hid ⟨n1, by
                rw [← marks_set hkm HIL.out.2.2, ← hmz']
                exact n2, (n3 Bm (row_lt HK.out.2.2) (by rw [HM.out.2.2.2.2]; omega)).trans HK.out.2.2⟩
              have HLT := Lib.hid hkm
              clear hgc hlen hcg n1 n2 n3 hmz' hkm HK
              go_wp2_with fail
              refine ⟨⟨k + 1, by simp, HLT.out, HN⟩, ?_⟩
              show m - ((k : Int) + 1).toNat < m - ((k : Int)).toNat
              have := HLT.out
              omega
            · have hkmi : ¬ (k : Int) < (m : Int) := by omega
              obtain rfl : k = m := by omega
              have HF0 : Hid (Held wr 29 2 (.slice qv k cv) k (marks (mk2 i) k)) := Lib.hid (by
                have := HK.out.2.1
                rwa [marks_end HIL.out.2.2] at this)
              clear hkm d0 d1
              go_wp2_with fail
              go_loopw [4, 7] (fun x y wr => ∃ (e : Nat) (qx : Option Addr) (n cx : Nat), y = .int .i64 (e : Int) ∧ x = .slice qx n cx ∧ e ≤ 40 ∧ Hid (∃ col V, ∃ gr : List (Value × Nat), gr.length = 40 * i + e ∧ n = k + e ∧ BookI W0 wr b col V (i + 1) hs ws gr 0 hn wn [] ∧ Held wr 29 2 (.slice qx n cx) n (marks (mk2 i) n) ∧ (∀ g, (Value.slice qx n cx).ownBlock = some g → col g = 16 + i) ∧ wr.heap[Bm]? = some (.cells #[.int .i64 mz, .int .i64 0] 29 (0, 0)) ∧ col Bm = 9)) (fun _ y _ => 40 - (intOf y).toNat)
              case atStart => exact ⟨0, qv, k, cv, rfl, rfl, by omega, Lib.hid ⟨colM, VA, grA, HGA.out.1, rfl, HK.out.1, HF0.out, HM.out.2.2.1, HK.out.2.2, HM.out.2.2.2.2⟩⟩
              case round =>
                clear HF0 HK
                obtain ⟨e, qx, n, cx, rfl, rfl, he, HK⟩ := hrel
                obtain ⟨colB, VB, grB, q1, q2, q3, q4, q5, q6, q7⟩ := HK.out
                obtain ⟨gl2, hgl2⟩ : ∃ x, x = grB.length := ⟨_, rfl⟩
                have HB : Hid (grB.length = 40 * i + e ∧ gl2 = grB.length ∧ n = k + e ∧ BookI W0 wr b colB VB (i + 1) hs ws grB 0 hn wn [] ∧ Held wr 29 2 (.slice qx n cx) n (marks (mk2 i) n) ∧ (∀ g, (Value.slice qx n cx).ownBlock = some g → colB g = 16 + i) ∧ wr.heap[Bm]? = some (.cells #[.int .i64 mz, .int .i64 0] 29 (0, 0)) ∧ colB Bm = 9) := Lib.hid ⟨q1, hgl2, q2, q3, q4, q5, q6, q7⟩
                have hrow := q3.rowk (k := 2) (by omega) rfl (n := gl2) (by show (grB.map _).length = gl2; rw [List.length_map]; exact hgl2.symm)
                have HF : Hid (Held wr 31 1 (VB 2) gl2 (grB.map (·.1))) := Lib.hid (by obtain ⟨_, _, _, _, _, _, _, hh⟩ := hrow; exact hh)
                have c2 : wr.cell? ⟨b, 2, none⟩ = some (VB 2) := q3.st.cell (k := 2) (by omega)
                have hnb : n ≤ 1099511627876 := by omega
                have hglb2 : gl2 ≤ 40100 := by omega
                have hz1 : (n + 1) * 16 ≤ 140737488355328 := by omega
                have hz2 : n + 1 ≤ 140737488355328 := by omega
                have hl1 : (gl2 + 1) * 24 ≤ 140737488355328 := by omega
                have hl2 : gl2 + 1 ≤ 140737488355328 := by omega
                clear HK hrow q1 q2 q3 q4 q5 q6 q7 hgl2
                by_cases he40 : e < 40
                · have hei : (e : Int) < 40 := by omega
                  have HE := Lib.hid he40
                  clear he40
                  go_upto_region 15 with (at_builtin; refine wpList_grew (v := VB 2) (l := grB.map (·.1)) rfl _ _ rfl Tryd.underlying24 (.slice none 0 0) 1 info_listS rfl (by decide) [.slice qx n cx] 1 (by simp [Act.eval]) (by simp [Act.eval]) HF.out rfl rfl (by decide) (one_slice _ _ _) hl1 hl2 ?_; intro v1 w1 hg1; obtain ⟨hc1, hf1⟩ := HB.out.2.2.2.1.st.box_grew (k := 2) (by omega) (grown_alloc hg1.grown) (j := 2) (by omega); obtain ⟨p1, cp1, rfl, _⟩ := hg1.held.cells; have HG1 := Lib.hid hg1; clear hg1)
                  obtain ⟨n1, n2⟩ := HB.out.2.2.2.1.addGS (x := .slice qx n cx) (v' := .slice p1 (gl2 + 1) cp1) (by rw [← HB.out.2.1]; exact HG1.out.held) (grown_alloc HG1.out.grown) HG1.out.at' (full_of HB.out.2.2.2.2.1) HB.out.2.2.2.2.2.1 (by have h1 := HB.out.1; have h2 := HE.out; omega) (by have h1 := HB.out.1; have h2 := HE.out; have h3 := HIL.out.1; omega)
                  obtain ⟨w2, hw2⟩ : ∃ x, x = w1.setCell ⟨b, 2, none⟩ (.slice p1 (gl2 + 1) cp1) := ⟨_, rfl⟩
                  have hsz2 : wr.heap.size ≤ w2.heap.size := by rw [hw2]; simpa [World.setCell] using (grown_alloc HG1.out.grown).size
                  rw [← hw2] at n1 n2 ⊢
                  obtain ⟨col2, hcol2⟩ : ∃ x, x = dyeV colB (.slice p1 (gl2 + 1) cp1) (2 + 2) := ⟨_, rfl⟩
                  obtain ⟨V2, hV2⟩ : ∃ x, x = put1 VB 2 (.slice p1 (gl2 + 1) cp1) := ⟨_, rfl⟩
                  rw [← hcol2, ← hV2] at n1
                  rw [← hcol2] at n2
                  have hBl := row_lt HB.out.2.2.2.2.2.2.1
                  have hr2 : w2.heap[Bm]? = some (.cells #[.int .i64 mz, .int .i64 0] 29 (0, 0)) := ((n2 Bm hBl).2 (by rw [HB.out.2.2.2.2.2.2.2]; omega)).trans HB.out.2.2.2.2.2.2.1
                  have hh2 : Held w2 29 2 (.slice qx n cx) n (marks (mk2 i) n) := HB.out.2.2.2.2.1.keep fun g hg => (n2 g (HB.out.2.2.2.2.1.lt hg)).2 (by have := HB.out.2.2.2.2.2.1 g hg; omega)
                  have HN : Hid (BookI W0 w2 b col2 V2 (i + 1) hs ws (grB ++ [(.slice qx n cx, i)]) 0 hn wn [] ∧ Held w2 29 2 (.slice qx n cx) n (marks (mk2 i) n) ∧ (∀ g, (Value.slice qx n cx).ownBlock = some g → col2 g = 16 + i) ∧ w2.heap[Bm]? = some (.cells #[.int .i64 mz, .int .i64 0] 29 (0, 0)) ∧ col2 Bm = 9) := Lib.hid ⟨n1, hh2, fun g hg => (n2 g (HB.out.2.2.2.2.1.lt hg)).1.trans (HB.out.2.2.2.2.2.1 g hg), hr2, (n2 Bm hBl).1.trans HB.out.2.2.2.2.2.2.2⟩
                  have d0 : w2.cell? ⟨Bm, 0, none⟩ = some (.int .i64 mz) := cell_of_row _ _ _ _ _ _ hr2
                  have d1 : w2.cell? ⟨Bm, 1, none⟩ = some (.int .i64 0) := cell_of_row _ _ _ _ _ _ hr2
                  have HONE : Hid (∀ u ∈ [Value.int .i64 mz, .int .i64 0], u.oneCell' = true) := Lib.hid (fun u hu => by
                    rcases List.mem_cons.1 hu with rfl | hu
                    · rfl
                    · rw [List.mem_singleton.1 hu]; rfl)
                  clear n1 n2 hw2 hsz2 hcol2 hV2 hBl hr2 hh2 hc1 hf1 HG1 c2 HF
                  go_wp2_with (at_builtin; refine wpList_grew (v := .slice qx n cx) (l := marks (mk2 i) n) rfl _ _ rfl Tryd.underlying31 (.agg #[.int .i64 0, .int .i64 0]) 2 info_spanP rfl (by decide) [.int .i64 mz, .int .i64 0] 1 (by simp [Act.eval]) (by simp [Act.eval]) HN.out.2.1 rfl rfl (by decide) HONE.out hz1 hz2 ?_; intro v3 w3 hg3; obtain ⟨p3, c3, rfl, _⟩ := hg3.held.cells; have HG3 := Lib.hid hg3; clear hg3)
                  have hba : ∀ o, Below w2.heap.size w2 (w2.alloc o) := fun o => (Below.refl _ _).alloc (Nat.le_refl _) _
                  have hg3 := HG3.out
                  rw [HMK.out] at hg3
                  obtain ⟨s1, s2, s3⟩ := (HN.out.1.below (hba _)).growS HIL.out.1 (v' := .slice p3 (n + 1) c3) HN.out.2.2.1 hg3
                  have hBl := row_lt HN.out.2.2.2.1
                  have hBl2 : ∀ o, Bm < (w2.alloc o).heap.size := fun o => by simp; omega
                  refine ⟨⟨e + 1, p3, n + 1, c3, by simp, rfl, HE.out, Lib.hid ⟨_, _, _, by rw [List.length_append, List.length_singleton, HB.out.1]; omega, by rw [HB.out.2.2.1]; omega, s1, s2.1, s2.2, ?_, ?_⟩⟩, ?_⟩
                  · exact ((s3 Bm (hBl2 _)).2 (by rw [HN.out.2.2.2.2]; omega)).trans (((hba _).block Bm hBl).trans HN.out.2.2.2.1)
                  · exact (s3 Bm (hBl2 _)).1.trans HN.out.2.2.2.2
                  · show 40 - ((e : Int) + 1).toNat < 40 - ((e : Int)).toNat
                    have := HE.out
                    omega
                · have hei : ¬ (e : Int) < 40 := by omega
                  have HE : Hid (e = 40) := Lib.hid (by omega)
                  clear he40
                  go_wp2_with fail
                  go_meet
                  exact Lib.hid ⟨colB, VB, grB, by rw [HB.out.1, HIL.out.2.1, HE.out]; omega, by rw [HIL.out.2.1]; exact HB.out.2.2.2.1⟩
      case rest =>
        obtain ⟨colC, VC, grC, hgC, hbC⟩ := hcut.out
        have HC : Hid (grC.length = 40 * u ∧ BookI W0 wc b colC VC u hs ws grC 0 hn wn []) := Lib.hid ⟨hgC, hbC⟩
        have huN : u ≤ nS := HU.out.2.2.2
        have hci : c + 1 = (u : Int) := by have := HU.out; omega
        clear hcut hgC hbC k1 KL
        go_wp2_with fail
        go_loopw [8] (fun x wr => ∃ j : Nat, x = .int .i64 (j : Int) ∧ u ≤ j ∧ j ≤ nS ∧ Hid (BookI W0 wr b colC VC u hs ws grC 0 hn wn [])) (fun x _ => nS - (intOf x).toNat)
        case atStart => exact ⟨u, rfl, Nat.le_refl _, huN, Lib.hid HC.out.2⟩
        case round =>
          obtain ⟨j, rfl, hj1, hj2, HJ⟩ := hrel
          obtain ⟨lp, lc, _, k1, hlc, _, kl, _⟩ := HJ.out.rowk (k := 0) (by omega) rfl (n := nS) (by show (hs.map _).length = nS; rw [List.length_map]; exact (HLEN.out.1).symm)
          by_cases hjl : j < nS
          · have hji : (j : Int) < (nS : Int) := by omega
            have hj0 : (0 : Int) ≤ (j : Int) := by omega
            obtain ⟨wp, wc2, _, k2, hwc2, _, kw, _⟩ := HJ.out.rowk (k := 1) (by omega) rfl (n := nS) (HLEN.out.2.1)
            obtain ⟨⟨pv, A⟩, hp⟩ : ∃ p, hs[j]? = some p := ⟨hs[j]'(by have := HLEN.out.1; omega), List.getElem?_eq_getElem _⟩
            obtain ⟨wv, hw⟩ : ∃ p, ws[j]? = some p := ⟨ws[j]'(by have := HLEN.out.2.1; omega), List.getElem?_eq_getElem _⟩
            obtain ⟨h1, hAl, _⟩ := HJ.out.s.li j (pv, A) hj1 hp
            obtain ⟨h2, _⟩ := HJ.out.s.wi j wv (pv, A) hw hp
            obtain ⟨a3, hp3, ka⟩ := kl j _ (map_fst_get hp)
            have ka : wr.cell? (a3.add j) = some pv := ka
            obtain ⟨a4, hp4, kb⟩ := kw j _ hw
            obtain ⟨m, hm⟩ : ∃ m, m = A.length := ⟨_, rfl⟩
            have CS : Hid (∀ w', Below wr.heap.size wr w' → Calls Tryd.prog 43 #[pv, wv] w' fun r w2 => r = .returned (.bool true) ∧ Below w'.heap.size w' w2) := Lib.hid (fun w' hb => by
              have := spans_any pv wv A A w' (h1.below hb) (h2.below hb)
              rwa [decide_eq_true rfl] at this)
            have h3 : Held wr 29 2 pv m (prsV A) := by rw [hm]; exact h1
            have h4 : Held wr 29 2 wv m (prsV A) := by rw [hm]; exact h2
            clear h1 h2
            obtain ⟨q1, c1, rfl, _⟩ := h3.cells
            obtain ⟨q2, c2, rfl, _⟩ := h4.cells
            subst hp3 hp4
            have hcd1 : wr.drew.cell? ⟨b, 0, none⟩ = some (.slice (some a3) nS lc) := k1
            have hcd2 : wr.drew.cell? (a3.add j) = some (.slice q1 m c1) := ka
            have hcd3 : wr.drew.cell? ⟨b, 1, none⟩ = some (.slice (some a4) nS wc2) := k2
            have hcd4 : wr.drew.cell? (a4.add j) = some (.slice q2 m c2) := kb
            have hbd : Below wr.heap.size wr wr.drew := (Below.refl _ _).drew
            have HBD := Lib.hid hbd
            have HLT := Lib.hid hjl
            clear kl kw hp hw h3 h4 hAl hm hjl hbd
            go_upto_region 19 with fail
            go_region_law (first
              | (go_simp; go_at_call 43; with_reducible refine (CS.out wr.drew HBD.out).mono ?_; rintro r w5 ⟨rfl, hb⟩; have HB5 := Lib.hid (below_onS HBD.out hb (Nat.le_refl _)); clear hb)
              | fail)
            all_goals
              go_wp2_with fail
              refine ⟨⟨j + 1, by simp, by omega, HLT.out, Lib.hid (HJ.out.below HB5.out)⟩, ?_⟩
              show nS - ((j : Int) + 1).toNat < nS - ((j : Int)).toNat
              have := HLT.out
              omega
          · have hji : ¬ (j : Int) < (nS : Int) := by omega
            clear hjl kl
            go_wp2_with fail
            refine ⟨⟨(u : Int), rfl, by omega, by omega, Lib.hid ⟨colC, VC, grC, HC.out.1, HJ.out⟩⟩, ?_⟩
            show ((nS : Int) - (u : Int)).toNat < ((nS : Int) - c).toNat
            have := HU.out
            omega
    · have hcN : c = (nS : Int) := by omega
      have HE : Hid (grA.length = 40 * nS ∧ BookI W0 wr b colA VA nS hs ws grA 0 hn wn []) := Lib.hid (by
        have := HA.out
        rw [hcN, Int.toNat_natCast] at this
        exact this)
      clear hcN KL HA
      obtain ⟨grS, hgrS⟩ : ∃ x, x = grA := ⟨_, rfl⟩
      have HE0 : Hid (BookI W0 wr b colA VA nS hs ws grS 0 hn wn []) := Lib.hid (by rw [hgrS]; exact HE.out.2)
      have HGS : Hid (grS.length = 40 * nS) := Lib.hid (by rw [hgrS]; exact HE.out.1)
      clear hgrS HE
      go_wp2_with fail
      go_loopw [10] (fun x wr => ∃ c : Int, x = .int .i64 c ∧ -1 ≤ c ∧ c ≤ (nN : Int) ∧ Hid (∃ col V, ∃ gr : List (Value × Nat), gr.length = 40 * c.toNat ∧ BookI W0 wr b col V nS hs ws grS c.toNat hn wn gr)) (fun x _ => ((nN : Int) - intOf x).toNat)
      case atStart => exact ⟨-1, rfl, by omega, by omega, Lib.hid ⟨_, _, [], rfl, HE0.out⟩⟩
      case round =>
        obtain ⟨c, rfl, hc1, hc2, HI⟩ := hrel
        obtain ⟨colA, VA, grA, hgl, hbk⟩ := HI.out
        have HA : Hid (grA.length = 40 * c.toNat ∧ BookI W0 wr b colA VA nS hs ws grS c.toNat hn wn grA) := Lib.hid ⟨hgl, hbk⟩
        obtain ⟨lp, lc, _, k1, _, _, kl, _⟩ := hbk.rowk (k := 3) (by omega) rfl (n := nN) (by show (hn.map _).length = nN; rw [List.length_map]; exact (HLEN.out.2.2.1).symm)
        have KL := Lib.hid kl
        clear HI hgl hbk kl
        by_cases hlt : c < (nN : Int)
        · obtain ⟨T, hT⟩ : ∃ T : Bool, T = decide (0 ≤ c) := ⟨_, rfl⟩
          have hT2 : decide ((0 : Int) ≤ c) = T := hT.symm
          have HT := Lib.hid hT
          clear hT
          obtain ⟨u, hu⟩ : ∃ u : Nat, u = (c + 1).toNat := ⟨_, rfl⟩
          have hci : c + 1 = (u : Int) := by omega
          have HU : Hid (u = (c + 1).toNat ∧ -1 ≤ c ∧ c < (nN : Int) ∧ u ≤ nN) := Lib.hid ⟨hu, hc1, hlt, by omega⟩
          clear hu
          go_upto_if 112 with fail
          clear hT2 hci
          go_cut [11, 12, 13, 14] from 111 to 154 (fun _ _ _ _ wx => Hid (∃ col V, ∃ gr : List (Value × Nat), gr.length = 40 * u ∧ BookI W0 wx b col V nS hs ws grS u hn wn gr))
          case first =>
            by_cases hc0 : c = -1
            · have e : T = false := by rw [HT.out, decide_eq_false (by omega)]
              have hu0 : u = 0 := by have := HU.out.1; omega
              have ht0 : c.toNat = 0 := by omega
              subst e
              clear hc0
              go_wp2_with fail
              go_meet
              refine Lib.hid ⟨colA, VA, grA, ?_, ?_⟩
              · rw [HA.out.1, ht0, hu0]
              · have := HA.out.2
                rw [ht0] at this
                rw [hu0]
                exact this
            · obtain ⟨i, hi⟩ : ∃ i : Nat, c = (i : Int) := ⟨c.toNat, by omega⟩
              subst hi
              have e : T = true := by rw [HT.out, decide_eq_true (by omega)]
              subst e
              have hin : i < nN := by omega
              have hinL : i < hn.length := by have := HLEN.out.2.2.1; omega
              obtain ⟨⟨pv, A⟩, hp⟩ : ∃ p, hn[i]? = some p := ⟨hn[i]'hinL, List.getElem?_eq_getElem _⟩
              obtain ⟨hheld, hAl, hcol⟩ := HA.out.2.n.li i (pv, A) (by omega) hp
              have hheld : Held wr 72 2 pv A.length (prsV A) := hheld
              have hAl : A.length ≤ 1099511627776 := hAl
              have hcol : ∀ g, pv.ownBlock = some g → colA g = 1016 + i := hcol
              obtain ⟨m, hm⟩ : ∃ m, m = A.length := ⟨_, rfl⟩
              rw [← hm] at hheld
              obtain ⟨qv, cv, rfl, hqc, hcm, _⟩ := hheld.cells
              obtain ⟨a3, hp3, ka⟩ := KL.out i _ (map_fst_get hp)
              have ka : wr.cell? (a3.add i) = some (.slice qv m cv) := ka
              have hmb : m ≤ 1099511627776 := by omega
              obtain ⟨gl, hglv⟩ : ∃ gl, gl = grA.length := ⟨_, rfl⟩
              obtain ⟨gp, gc, _, kg, _, _, _, _⟩ := HA.out.2.rowk (k := 5) (by omega) rfl (n := gl) (by show (grA.map _).length = gl; rw [List.length_map]; exact hglv.symm)
              have hgl40 : gl = 40 * i := by rw [hglv, HA.out.1, Int.toNat_natCast]
              have hglb : gl ≤ 40000 := by omega
              obtain ⟨mz, hmz⟩ : ∃ mz : Int, mz = -5 - 40 * (i : Int) := ⟨_, rfl⟩
              have hmzi : -5 - (gl : Int) = mz := by omega
              have HMK : Hid ([Value.int .i64 mz, .int .i64 0] = mk2 i) := Lib.hid (by rw [hmz]; rfl)
              have hmz1 : -40000 ≤ mz := by omega
              have hmz2 : mz ≤ 0 := by omega
              have hi0 : (0 : Int) ≤ (i : Int) := by omega
              have hini : (i : Int) < (nN : Int) := by omega
              obtain ⟨Bm, hBm⟩ : ∃ x, x = wr.heap.size := ⟨_, rfl⟩
              obtain ⟨wm, hwm⟩ : ∃ x, x = wr.alloc (.cells #[.int .i64 mz, .int .i64 0] 72) := ⟨_, rfl⟩
              have hbm : Below wr.heap.size wr wm := by rw [hwm]; exact (Below.refl _ _).alloc (Nat.le_refl _) _
              have hrm : wm.heap[Bm]? = some (.cells #[.int .i64 mz, .int .i64 0] 72 (0, 0)) := by rw [hwm, hBm]; exact heap_alloc_new wr _
              have hszm : wm.heap.size = wr.heap.size + 1 := by rw [hwm]; simp
              have hbA := HA.out.2
              rw [Int.toNat_natCast] at hbA
              obtain ⟨m1, m2⟩ := hbA.dye hbm (v := .slice (some ⟨Bm, 0, none⟩) 0 0) 9 (fun g hg => by have e : Bm = g := Option.some.inj hg; omega)
              obtain ⟨colM, hcolM⟩ : ∃ x, x = dyeV colA (.slice (some ⟨Bm, 0, none⟩) 0 0) 9 := ⟨_, rfl⟩
              rw [← hcolM] at m1 m2
              have hcB : colM Bm = 9 := by rw [hcolM]; exact dyeV_at rfl
              have HM : Hid (BookI W0 wm b colM VA nS hs ws grS (i + 1) hn wn grA ∧ Held wm 72 2 (.slice qv m cv) m (prsV A) ∧ (∀ g, (Value.slice qv m cv).ownBlock = some g → colM g = 1016 + i) ∧ wm.heap[Bm]? = some (.cells #[.int .i64 mz, .int .i64 0] 72 (0, 0)) ∧ colM Bm = 9) := Lib.hid ⟨m1.stepN, hheld.below hbm, fun g hg => (m2 g (hheld.lt hg)).trans (hcol g hg), hrm, hcB⟩
              have HGA : Hid (grA.length = 40 * i ∧ ∀ p ∈ grA, p.2 ≠ i) := Lib.hid ⟨by rw [← hglv, hgl40], gq_lt (gl := gl) hbA.n.gq (by rw [← hglv, hgl40])⟩
              have HIL : Hid (i < hn.length ∧ u = i + 1 ∧ (prsV A).length = m * 2) := Lib.hid ⟨hinL, by have := HU.out.1; omega, by rw [prsV_length]; omega⟩
              subst hp3
              have hib : i ≤ 800 := by omega
              have HW := Lib.hid hwm
              have HBM := Lib.hid hBm
              clear hp hheld hAl hcol hm hqc hcm hglv hgl40 hmz hbm hrm hszm hbA m1 m2 hcolM hcB hwm hBm hc0 hlt hc1 hc2 hin hinL
              go_upto_region 28 with fail
              rw [← HW.out, ← HBM.out]
              clear k1 ka kg hini hmzi
              go_wp2_with fail
              go_loopw [13] (fun x wr => ∃ k : Nat, x = .int .i64 (k : Int) ∧ k ≤ m ∧ Hid (BookI W0 wr b colM VA nS hs ws grS (i + 1) hn wn grA ∧ Held wr 72 2 (.slice qv m cv) m (marks (mk2 i) k ++ (prsV A).drop (k * 2)) ∧ wr.heap[Bm]? = some (.cells #[.int .i64 mz, .int .i64 0] 72 (0, 0)))) (fun x _ => m - (intOf x).toNat)
              case atStart => exact ⟨0, rfl, by omega, Lib.hid ⟨HM.out.1, by rw [marks_start (m := m)]; exact HM.out.2.1, HM.out.2.2.2.1⟩⟩
              case round =>
                obtain ⟨k, rfl, hk, HK⟩ := hrel
                have d0 : wr.cell? ⟨Bm, 0, none⟩ = some (.int .i64 mz) := cell_of_row _ _ _ _ _ _ HK.out.2.2
                have d1 : wr.cell? ⟨Bm, 1, none⟩ = some (.int .i64 0) := cell_of_row _ _ _ _ _ _ HK.out.2.2
                by_cases hkm : k < m
                · have hkmi : (k : Int) < (m : Int) := by omega
                  have hk0 : (0 : Int) ≤ (k : Int) := by omega
                  obtain ⟨g, hg, hgc⟩ := held_cell HK.out.2.1 (by omega)
                  subst hg
                  have hlen := HK.out.2.1.1
                  obtain ⟨x0, f0⟩ : ∃ x0, wr.cell? ⟨g, k * 2, none⟩ = some x0 := ⟨_, hgc (k * 2) _ (List.getElem?_eq_getElem (by omega))⟩
                  obtain ⟨x1, f1⟩ : ∃ x1, wr.cell? ⟨g, k * 2 + 1, none⟩ = some x1 := ⟨_, hgc (k * 2 + 1) _ (List.getElem?_eq_getElem (by omega))⟩
                  have ff : ∀ q, wr.frozen? ⟨g, q, none⟩ = false := by
                    intro q
                    rcases HK.out.2.1.2 with ⟨e, _⟩ | ⟨g', cap, cur, e, hg', _⟩
                    · cases e
                    · cases e
                      exact frozen_of_row _ _ _ _ _ hg'
                  have hcg := HM.out.2.2.1 g rfl
                  obtain ⟨n1, n2, n3⟩ := HK.out.1.markN HGA.out.2 HIL.out.1 HK.out.2.1 (g := g) rfl hcg k (.int .i64 mz) (.int .i64 0)
                  have hmz' : mz = -5 - 40 * (i : Int) := by
                    have := HMK.out
                    unfold mk2 at this
                    simp only [List.cons.injEq, Value.int.injEq, true_and, and_true] at this
                    exact this
                  have HN : Hid (BookI W0 ((wr.setCell ⟨g, k * 2, none⟩ (.int .i64 mz)).setCell ⟨g, k * 2 + 1, none⟩ (.int .i64 0)) b colM VA nS hs ws grS (i + 1) hn wn grA ∧ Held ((wr.setCell ⟨g, k * 2, none⟩ (.int .i64 mz)).setCell ⟨g, k * 2 + 1, none⟩ (.int .i64 0)) 72 2 (.slice (some ⟨g, 0, none⟩) m cv) m (marks (mk2 i) (k + 1) ++ (prsV A).drop ((k + 1) * 2)) ∧ ((wr.setCell ⟨g, k * 2, none⟩ (.int .i64 mz)).setCell ⟨g, k * 2 + 1, none⟩ (.int .i64 0)).heap[Bm]? = some (.cells #[.int .i64 mz, .int .i64 0] 72 (0, 0))) := Lib.hid ⟨n1, by
                    rw [← marks_set hkm HIL.out.2.2, ← hmz']
                    exact n2, (n3 Bm (row_lt HK.out.2.2) (by rw [HM.out.2.2.2.2]; omega)).trans HK.out.2.2⟩
                  have HLT := Lib.hid hkm
                  clear hgc hlen hcg n1 n2 n3 hmz' hkm HK
                  go_wp2_with fail
                  refine ⟨⟨k + 1, by simp, HLT.out, HN⟩, ?_⟩
                  show m - ((k : Int) + 1).toNat < m - ((k : Int)).toNat
                  have := HLT.out
                  omega
                · have hkmi : ¬ (k : Int) < (m : Int) := by omega
                  obtain rfl : k = m := by omega
                  have HF0 : Hid (Held wr 72 2 (.slice qv k cv) k (marks (mk2 i) k)) := Lib.hid (by
                    have := HK.out.2.1
                    rwa [marks_end HIL.out.2.2] at this)
                  clear hkm d0 d1
                  go_wp2_with fail
                  go_loopw [11, 14] (fun x y wr => ∃ (e : Nat) (qx : Option Addr) (n cx : Nat), y = .int .i64 (e : Int) ∧ x = .slice qx n cx ∧ e ≤ 40 ∧ Hid (∃ col V, ∃ gr : List (Value × Nat), gr.length = 40 * i + e ∧ n = k + e ∧ BookI W0 wr b col V nS hs ws grS (i + 1) hn wn gr ∧ Held wr 72 2 (.slice qx n cx) n (marks (mk2 i) n) ∧ (∀ g, (Value.slice qx n cx).ownBlock = some g → col g = 1016 + i) ∧ wr.heap[Bm]? = some (.cells #[.int .i64 mz, .int .i64 0] 72 (0, 0)) ∧ col Bm = 9)) (fun _ y _ => 40 - (intOf y).toNat)
                  case atStart => exact ⟨0, qv, k, cv, rfl, rfl, by omega, Lib.hid ⟨colM, VA, grA, HGA.out.1, rfl, HK.out.1, HF0.out, HM.out.2.2.1, HK.out.2.2, HM.out.2.2.2.2⟩⟩
                  case round =>
                    clear HF0 HK
                    obtain ⟨e, qx, n, cx, rfl, rfl, he, HK⟩ := hrel
                    obtain ⟨colB, VB, grB, q1, q2, q3, q4, q5, q6, q7⟩ := HK.out
                    obtain ⟨gl2, hgl2⟩ : ∃ x, x = grB.length := ⟨_, rfl⟩
                    have HB : Hid (grB.length = 40 * i + e ∧ gl2 = grB.length ∧ n = k + e ∧ BookI W0 wr b colB VB nS hs ws grS (i + 1) hn wn grB ∧ Held wr 72 2 (.slice qx n cx) n (marks (mk2 i) n) ∧ (∀ g, (Value.slice qx n cx).ownBlock = some g → colB g = 1016 + i) ∧ wr.heap[Bm]? = some (.cells #[.int .i64 mz, .int .i64 0] 72 (0, 0)) ∧ colB Bm = 9) := Lib.hid ⟨q1, hgl2, q2, q3, q4, q5, q6, q7⟩
                    have hrow := q3.rowk (k := 5) (by omega) rfl (n := gl2) (by show (grB.map _).length = gl2; rw [List.length_map]; exact hgl2.symm)
                    have HF : Hid (Held wr 32 1 (VB 5) gl2 (grB.map (·.1))) := Lib.hid (by obtain ⟨_, _, _, _, _, _, _, hh⟩ := hrow; exact hh)
                    have c2 : wr.cell? ⟨b, 5, none⟩ = some (VB 5) := q3.st.cell (k := 5) (by omega)
                    have hnb : n ≤ 1099511627876 := by omega
                    have hglb2 : gl2 ≤ 40100 := by omega
                    have hz1 : (n + 1) * 16 ≤ 140737488355328 := by omega
                    have hz2 : n + 1 ≤ 140737488355328 := by omega
                    have hl1 : (gl2 + 1) * 24 ≤ 140737488355328 := by omega
                    have hl2 : gl2 + 1 ≤ 140737488355328 := by omega
                    clear HK hrow q1 q2 q3 q4 q5 q6 q7 hgl2
                    by_cases he40 : e < 40
                    · have hei : (e : Int) < 40 := by omega
                      have HE := Lib.hid he40
                      clear he40
                      go_upto_region 36 with (at_builtin; refine wpList_grew (v := VB 5) (l := grB.map (·.1)) rfl _ _ rfl Tryd.underlying25 (.slice none 0 0) 1 info_listN rfl (by decide) [.slice qx n cx] 1 (by simp [Act.eval]) (by simp [Act.eval]) HF.out rfl rfl (by decide) (one_slice _ _ _) hl1 hl2 ?_; intro v1 w1 hg1; obtain ⟨hc1, hf1⟩ := HB.out.2.2.2.1.st.box_grew (k := 5) (by omega) (grown_alloc hg1.grown) (j := 5) (by omega); obtain ⟨p1, cp1, rfl, _⟩ := hg1.held.cells; have HG1 := Lib.hid hg1; clear hg1)
                      obtain ⟨n1, n2⟩ := HB.out.2.2.2.1.addGN (x := .slice qx n cx) (v' := .slice p1 (gl2 + 1) cp1) (by rw [← HB.out.2.1]; exact HG1.out.held) (grown_alloc HG1.out.grown) HG1.out.at' (full_of HB.out.2.2.2.2.1) HB.out.2.2.2.2.2.1 (by have h1 := HB.out.1; have h2 := HE.out; omega) (by have h1 := HB.out.1; have h2 := HE.out; have h3 := HIL.out.1; omega)
                      obtain ⟨w2, hw2⟩ : ∃ x, x = w1.setCell ⟨b, 5, none⟩ (.slice p1 (gl2 + 1) cp1) := ⟨_, rfl⟩
                      have hsz2 : wr.heap.size ≤ w2.heap.size := by rw [hw2]; simpa [World.setCell] using (grown_alloc HG1.out.grown).size
                      rw [← hw2] at n1 n2 ⊢
                      obtain ⟨col2, hcol2⟩ : ∃ x, x = dyeV colB (.slice p1 (gl2 + 1) cp1) (2 + 5) := ⟨_, rfl⟩
                      obtain ⟨V2, hV2⟩ : ∃ x, x = put1 VB 5 (.slice p1 (gl2 + 1) cp1) := ⟨_, rfl⟩
                      rw [← hcol2, ← hV2] at n1
                      rw [← hcol2] at n2
                      have hBl := row_lt HB.out.2.2.2.2.2.2.1
                      have hr2 : w2.heap[Bm]? = some (.cells #[.int .i64 mz, .int .i64 0] 72 (0, 0)) := ((n2 Bm hBl).2 (by rw [HB.out.2.2.2.2.2.2.2]; omega)).trans HB.out.2.2.2.2.2.2.1
                      have hh2 : Held w2 72 2 (.slice qx n cx) n (marks (mk2 i) n) := HB.out.2.2.2.2.1.keep fun g hg => (n2 g (HB.out.2.2.2.2.1.lt hg)).2 (by have := HB.out.2.2.2.2.2.1 g hg; omega)
                      have HN : Hid (BookI W0 w2 b col2 V2 nS hs ws grS (i + 1) hn wn (grB ++ [(.slice qx n cx, i)]) ∧ Held w2 72 2 (.slice qx n cx) n (marks (mk2 i) n) ∧ (∀ g, (Value.slice qx n cx).ownBlock = some g → col2 g = 1016 + i) ∧ w2.heap[Bm]? = some (.cells #[.int .i64 mz, .int .i64 0] 72 (0, 0)) ∧ col2 Bm = 9) := Lib.hid ⟨n1, hh2, fun g hg => (n2 g (HB.out.2.2.2.2.1.lt hg)).1.trans (HB.out.2.2.2.2.2.1 g hg), hr2, (n2 Bm hBl).1.trans HB.out.2.2.2.2.2.2.2⟩
                      have d0 : w2.cell? ⟨Bm, 0, none⟩ = some (.int .i64 mz) := cell_of_row _ _ _ _ _ _ hr2
                      have d1 : w2.cell? ⟨Bm, 1, none⟩ = some (.int .i64 0) := cell_of_row _ _ _ _ _ _ hr2
                      have HONE : Hid (∀ u ∈ [Value.int .i64 mz, .int .i64 0], u.oneCell' = true) := Lib.hid (fun u hu => by
                        rcases List.mem_cons.1 hu with rfl | hu
                        · rfl
                        · rw [List.mem_singleton.1 hu]; rfl)
                      clear n1 n2 hw2 hsz2 hcol2 hV2 hBl hr2 hh2 hc1 hf1 HG1 c2 HF
                      go_wp2_with (at_builtin; refine wpList_grew (v := .slice qx n cx) (l := marks (mk2 i) n) rfl _ _ rfl Tryd.underlying32 (.agg #[.int .i64 0, .int .i64 0]) 2 info_nodeP rfl (by decide) [.int .i64 mz, .int .i64 0] 1 (by simp [Act.eval]) (by simp [Act.eval]) HN.out.2.1 rfl rfl (by decide) HONE.out hz1 hz2 ?_; intro v3 w3 hg3; obtain ⟨p3, c3, rfl, _⟩ := hg3.held.cells; have HG3 := Lib.hid hg3; clear hg3)
                      have hba : ∀ o, Below w2.heap.size w2 (w2.alloc o) := fun o => (Below.refl _ _).alloc (Nat.le_refl _) _
                      have hg3 := HG3.out
                      rw [HMK.out] at hg3
                      obtain ⟨s1, s2, s3⟩ := (HN.out.1.below (hba _)).growN HIL.out.1 (v' := .slice p3 (n + 1) c3) HN.out.2.2.1 hg3
                      have hBl := row_lt HN.out.2.2.2.1
                      have hBl2 : ∀ o, Bm < (w2.alloc o).heap.size := fun o => by simp; omega
                      refine ⟨⟨e + 1, p3, n + 1, c3, by simp, rfl, HE.out, Lib.hid ⟨_, _, _, by rw [List.length_append, List.length_singleton, HB.out.1]; omega, by rw [HB.out.2.2.1]; omega, s1, s2.1, s2.2, ?_, ?_⟩⟩, ?_⟩
                      · exact ((s3 Bm (hBl2 _)).2 (by rw [HN.out.2.2.2.2]; omega)).trans (((hba _).block Bm hBl).trans HN.out.2.2.2.1)
                      · exact (s3 Bm (hBl2 _)).1.trans HN.out.2.2.2.2
                      · show 40 - ((e : Int) + 1).toNat < 40 - ((e : Int)).toNat
                        have := HE.out
                        omega
                    · have hei : ¬ (e : Int) < 40 := by omega
                      have HE : Hid (e = 40) := Lib.hid (by omega)
                      clear he40
                      go_wp2_with fail
                      go_meet
                      exact Lib.hid ⟨colB, VB, grB, by rw [HB.out.1, HIL.out.2.1, HE.out]; omega, by rw [HIL.out.2.1]; exact HB.out.2.2.2.1⟩
          case rest =>
            obtain ⟨colC, VC, grC, hgC, hbC⟩ := hcut.out
            have HC : Hid (grC.length = 40 * u ∧ BookI W0 wc b colC VC nS hs ws grS u hn wn grC) := Lib.hid ⟨hgC, hbC⟩
            have huN : u ≤ nN := HU.out.2.2.2
            have hci : c + 1 = (u : Int) := by have := HU.out; omega
            clear hcut hgC hbC k1 KL
            go_wp2_with fail
            go_loopw [15] (fun x wr => ∃ j : Nat, x = .int .i64 (j : Int) ∧ u ≤ j ∧ j ≤ nN ∧ Hid (BookI W0 wr b colC VC nS hs ws grS u hn wn grC)) (fun x _ => nN - (intOf x).toNat)
            case atStart => exact ⟨u, rfl, Nat.le_refl _, huN, Lib.hid HC.out.2⟩
            case round =>
              obtain ⟨j, rfl, hj1, hj2, HJ⟩ := hrel
              obtain ⟨lp, lc, _, k1, hlc, _, kl, _⟩ := HJ.out.rowk (k := 3) (by omega) rfl (n := nN) (by show (hn.map _).length = nN; rw [List.length_map]; exact (HLEN.out.2.2.1).symm)
              by_cases hjl : j < nN
              · have hji : (j : Int) < (nN : Int) := by omega
                have hj0 : (0 : Int) ≤ (j : Int) := by omega
                obtain ⟨wp, wc2, _, k2, hwc2, _, kw, _⟩ := HJ.out.rowk (k := 4) (by omega) rfl (n := nN) (HLEN.out.2.2.2)
                obtain ⟨⟨pv, A⟩, hp⟩ : ∃ p, hn[j]? = some p := ⟨hn[j]'(by have := HLEN.out.2.2.1; omega), List.getElem?_eq_getElem _⟩
                obtain ⟨wv, hw⟩ : ∃ p, wn[j]? = some p := ⟨wn[j]'(by have := HLEN.out.2.2.2; omega), List.getElem?_eq_getElem _⟩
                obtain ⟨h1, hAl, _⟩ := HJ.out.n.li j (pv, A) hj1 hp
                obtain ⟨h2, _⟩ := HJ.out.n.wi j wv (pv, A) hw hp
                obtain ⟨a3, hp3, ka⟩ := kl j _ (map_fst_get hp)
                have ka : wr.cell? (a3.add j) = some pv := ka
                obtain ⟨a4, hp4, kb⟩ := kw j _ hw
                obtain ⟨m, hm⟩ : ∃ m, m = A.length := ⟨_, rfl⟩
                have CS : Hid (∀ w', Below wr.heap.size wr w' → Calls Tryd.prog 42 #[pv, wv] w' fun r w2 => r = .returned (.bool true) ∧ Below w'.heap.size w' w2) := Lib.hid (fun w' hb => by
                  have := nodes_any pv wv A A w' (h1.below hb) (h2.below hb)
                  rwa [decide_eq_true rfl] at this)
                have h3 : Held wr 72 2 pv m (prsV A) := by rw [hm]; exact h1
                have h4 : Held wr 72 2 wv m (prsV A) := by rw [hm]; exact h2
                clear h1 h2
                obtain ⟨q1, c1, rfl, _⟩ := h3.cells
                obtain ⟨q2, c2, rfl, _⟩ := h4.cells
                subst hp3 hp4
                have hcd1 : wr.drew.cell? ⟨b, 3, none⟩ = some (.slice (some a3) nN lc) := k1
                have hcd2 : wr.drew.cell? (a3.add j) = some (.slice q1 m c1) := ka
                have hcd3 : wr.drew.cell? ⟨b, 4, none⟩ = some (.slice (some a4) nN wc2) := k2
                have hcd4 : wr.drew.cell? (a4.add j) = some (.slice q2 m c2) := kb
                have hbd : Below wr.heap.size wr wr.drew := (Below.refl _ _).drew
                have HBD := Lib.hid hbd
                have HLT := Lib.hid hjl
                clear kl kw hp hw h3 h4 hAl hm hjl hbd
                go_upto_region 40 with fail
                go_region_law (first
                  | (go_simp; go_at_call 42; with_reducible refine (CS.out wr.drew HBD.out).mono ?_; rintro r w5 ⟨rfl, hb⟩; have HB5 := Lib.hid (below_onS HBD.out hb (Nat.le_refl _)); clear hb)
                  | fail)
                all_goals
                  go_wp2_with fail
                  refine ⟨⟨j + 1, by simp, by omega, HLT.out, Lib.hid (HJ.out.below HB5.out)⟩, ?_⟩
                  show nN - ((j : Int) + 1).toNat < nN - ((j : Int)).toNat
                  have := HLT.out
                  omega
              · have hji : ¬ (j : Int) < (nN : Int) := by omega
                clear hjl kl
                go_wp2_with fail
                refine ⟨⟨(u : Int), rfl, by omega, by omega, Lib.hid ⟨colC, VC, grC, HC.out.1, HJ.out⟩⟩, ?_⟩
                show ((nN : Int) - (u : Int)).toNat < ((nN : Int) - c).toNat
                have := HU.out
                omega
        · have hcN : c = (nN : Int) := by omega
          have HE : Hid (grA.length = 40 * nN ∧ BookI W0 wr b colA VA nS hs ws grS nN hn wn grA) := Lib.hid (by
            have := HA.out
            rw [hcN, Int.toNat_natCast] at this
            exact this)
          clear hcN KL HA
          obtain ⟨glS, hglS⟩ : ∃ x, x = grS.length := ⟨_, rfl⟩
          obtain ⟨glN, hglN⟩ : ∃ x, x = grA.length := ⟨_, rfl⟩
          have HGLS : Hid (glS = grS.length ∧ glN = grA.length) := Lib.hid ⟨hglS, hglN⟩
          have hglSb : glS ≤ 40000 := by have := HGS.out; omega
          have hglNb : glN ≤ 40000 := by have := HE.out.1; omega
          have HFIN : Hid (BookI W0 wr b colA VA nS hs ws grS nN hn wn grA) := Lib.hid HE.out.2
          obtain ⟨wF, rfl⟩ : ∃ x : World, x = wr := ⟨_, rfl⟩
          clear hglS hglN HE
          go_wp2_with fail
          go_loop [17] (fun x => ∃ q : Nat, x = .int .i64 (q : Int) ∧ q ≤ glS) (fun x => glS - (intOf x).toNat)
          case atStart => exact ⟨0, rfl, by omega⟩
          case round =>
            obtain ⟨q, rfl, hq⟩ := hrel
            obtain ⟨gp, gc, _, k1, hgc, _, kl, _⟩ := HFIN.out.rowk (k := 2) (by omega) rfl (n := glS) (by show (grS.map _).length = glS; rw [List.length_map]; exact (HGLS.out.1).symm)
            by_cases hlt : q < glS
            · have hqi : (q : Int) < (glS : Int) := by omega
              have hq0 : (0 : Int) ≤ (q : Int) := by omega
              obtain ⟨⟨pv, ci⟩, hp⟩ : ∃ p, grS[q]? = some p := ⟨grS[q]'(by have := HGLS.out.1; omega), List.getElem?_eq_getElem _⟩
              have hfull := (HFIN.out.s.gi _ (List.mem_of_getElem? hp)).1
              have hci : ci = q / 40 := HFIN.out.s.gq q _ hp
              have hfull : Full wF 29 2 (mk2 ci) pv := hfull
              obtain ⟨a3, hp3, ka⟩ := kl q _ (map_fst_get hp)
              have ka : wF.cell? (a3.add q) = some pv := ka
              obtain ⟨p, n, cp, rfl, hnc, hcm, hcell⟩ := full_cells hfull
              obtain ⟨mz, hmz⟩ : ∃ mz : Int, mz = -5 - 40 * (ci : Int) := ⟨_, rfl⟩
              rw [← hmz] at hcell
              have HCELL := Lib.hid hcell
              have hq40 : (q : Int) / 40 = (ci : Int) := by omega
              obtain ⟨e, he⟩ : ∃ e : Nat, e = ci * 40 := ⟨_, rfl⟩
              have hce : (ci : Int) * 40 = (e : Int) := by omega
              have hem : -5 - (e : Int) = mz := by omega
              have hmz1 : -400000 ≤ mz := by omega
              have hmz2 : mz ≤ 0 := by omega
              have hcib : ci ≤ 40000 := by omega
              have heb : e ≤ 400000 := by omega
              have hnb : n ≤ maxLen := by omega
              unfold maxLen at hnb
              have hneq : ∀ w', (binOp .neq 29 (.agg #[.int .i64 mz, .int .i64 0]) (.agg #[.int .i64 mz, .int .i64 0])).run Tryd.prog w' = .ok (.bool false) w' := fun w' => by rw [span_neq]; simp
              subst hp3
              have HLT := Lib.hid hlt
              clear kl hp hfull hci hcell hmz he hlt hcm hnc
              go_wp2_with fail
              go_loop [18] (fun x => ∃ k : Nat, x = .int .i64 (k : Int) ∧ k ≤ n) (fun x => n - (intOf x).toNat)
              case atStart => exact ⟨0, rfl, by omega⟩
              case round =>
                obtain ⟨k, rfl, hk⟩ := hrel
                by_cases hkn : k < n
                · have hki : (k : Int) < (n : Int) := by omega
                  have hk0 : (0 : Int) ≤ (k : Int) := by omega
                  obtain ⟨g, rfl, f0, f1⟩ := HCELL.out k hkn
                  have HLT2 := Lib.hid hkn
                  clear hkn
                  go_wp2_with fail
                  refine ⟨⟨k + 1, by simp, HLT2.out⟩, ?_⟩
                  show n - ((k : Int) + 1).toNat < n - ((k : Int)).toNat
                  have := HLT2.out
                  omega
                · have hki : ¬ (k : Int) < (n : Int) := by omega
                  clear hkn
                  go_wp2_with fail
                  refine ⟨⟨q + 1, by simp, HLT.out⟩, ?_⟩
                  show glS - ((q : Int) + 1).toNat < glS - ((q : Int)).toNat
                  have := HLT.out
                  omega
            · have hqi : ¬ (q : Int) < (glS : Int) := by omega
              clear hlt kl
              go_wp2_with fail
              go_loop [19] (fun x => ∃ q : Nat, x = .int .i64 (q : Int) ∧ q ≤ glN) (fun x => glN - (intOf x).toNat)
              case atStart => exact ⟨0, rfl, by omega⟩
              case round =>
                obtain ⟨q, rfl, hq⟩ := hrel
                obtain ⟨gp, gc, _, k1, hgc, _, kl, _⟩ := HFIN.out.rowk (k := 5) (by omega) rfl (n := glN) (by show (grA.map _).length = glN; rw [List.length_map]; exact (HGLS.out.2).symm)
                by_cases hlt : q < glN
                · have hqi : (q : Int) < (glN : Int) := by omega
                  have hq0 : (0 : Int) ≤ (q : Int) := by omega
                  obtain ⟨⟨pv, ci⟩, hp⟩ : ∃ p, grA[q]? = some p := ⟨grA[q]'(by have := HGLS.out.2; omega), List.getElem?_eq_getElem _⟩
                  have hfull := (HFIN.out.n.gi _ (List.mem_of_getElem? hp)).1
                  have hci : ci = q / 40 := HFIN.out.n.gq q _ hp
                  have hfull : Full wF 72 2 (mk2 ci) pv := hfull
                  obtain ⟨a3, hp3, ka⟩ := kl q _ (map_fst_get hp)
                  have ka : wF.cell? (a3.add q) = some pv := ka
                  obtain ⟨p, n, cp, rfl, hnc, hcm, hcell⟩ := full_cells hfull
                  obtain ⟨mz, hmz⟩ : ∃ mz : Int, mz = -5 - 40 * (ci : Int) := ⟨_, rfl⟩
                  rw [← hmz] at hcell
                  have HCELL := Lib.hid hcell
                  have hq40 : (q : Int) / 40 = (ci : Int) := by omega
                  obtain ⟨e, he⟩ : ∃ e : Nat, e = ci * 40 := ⟨_, rfl⟩
                  have hce : (ci : Int) * 40 = (e : Int) := by omega
                  have hem : -5 - (e : Int) = mz := by omega
                  have hmz1 : -400000 ≤ mz := by omega
                  have hmz2 : mz ≤ 0 := by omega
                  have hcib : ci ≤ 40000 := by omega
                  have heb : e ≤ 400000 := by omega
                  have hnb : n ≤ maxLen := by omega
                  unfold maxLen at hnb
                  have hneq : ∀ w', (binOp .neq 72 (.agg #[.int .i64 mz, .int .i64 0]) (.agg #[.int .i64 mz, .int .i64 0])).run Tryd.prog w' = .ok (.bool false) w' := fun w' => by rw [node_neq]; simp
                  subst hp3
                  have HLT := Lib.hid hlt
                  clear kl hp hfull hci hcell hmz he hlt hcm hnc
                  go_wp2_with fail
                  go_loop [20] (fun x => ∃ k : Nat, x = .int .i64 (k : Int) ∧ k ≤ n) (fun x => n - (intOf x).toNat)
                  case atStart => exact ⟨0, rfl, by omega⟩
                  case round =>
                    obtain ⟨k, rfl, hk⟩ := hrel
                    by_cases hkn : k < n
                    · have hki : (k : Int) < (n : Int) := by omega
                      have hk0 : (0 : Int) ≤ (k : Int) := by omega
                      obtain ⟨g, rfl, f0, f1⟩ := HCELL.out k hkn
                      have HLT2 := Lib.hid hkn
                      clear hkn
                      go_wp2_with fail
                      refine ⟨⟨k + 1, by simp, HLT2.out⟩, ?_⟩
                      show n - ((k : Int) + 1).toNat < n - ((k : Int)).toNat
                      have := HLT2.out
                      omega
                    · have hki : ¬ (k : Int) < (n : Int) := by omega
                      clear hkn
                      go_wp2_with fail
                      refine ⟨⟨q + 1, by simp, HLT.out⟩, ?_⟩
                      show glN - ((q : Int) + 1).toNat < glN - ((q : Int)).toNat
                      have := HLT.out
                      omega
                · have hqi : ¬ (q : Int) < (glN : Int) := by omega
                  clear hlt kl
                  go_wp2_with fail
                  go_ret
                  exact ⟨rfl, HFIN.out.bel⟩
end Go.Proofs.YteknpnanmbfhfaaDoor.Bk8
