/- slices.Backward over pieces: walked. -/
import Derived.Test.YtdbghgpohdijfaaDoorMa27
import Derived.Test.YtdbghgpohdijfaaDoorMa15
import Derived.Test.YtdbghgpohdijfaaDoorMa11
namespace Go.Scr
/-- places and pieces, from the last one on (the list is given turned) -/
def backR : List Pc → List (Nat × Pc)
  | [] => []
  | x :: r => (r.length, x) :: backR r
theorem backR_fold (nd : ByteArray → ByteArray → ByteArray) : ∀ (R T : List Pc), T ≠ [] → (backR R).foldl (fun o x => nd x.2.2.2 o) (rootA nd T) = rootA nd (R.reverse ++ T) := by
  intro R
  induction R with
  | nil => intro T _; rfl
  | cons x r ih =>
    intro T hT
    rw [backR, List.foldl_cons, ← rootA_cons nd x hT, ih (x :: T) (by simp), List.reverse_cons, List.append_assoc]
    rfl
end Go.Scr
namespace Go.Proofs.YtdbghgpohdijfaaDoor
open Go.RowKit Go.Scr Go.Shelf Go.ChangeMaps Go.MapKept
set_option linter.unusedVariables false
attribute [local go_sem] Oper.semAt_some
abbrev backF (bs : Nat) : Value := .func (.func 121) #[] #[.pointer (some ⟨bs, 0, none⟩)]
set_option maxRecDepth 100000 in
theorem back_any (v : Value) (p : Option Addr) (n c : Nat) (hv : v = .slice p n c) (w : World) : Calls Tryd.prog 82 #[v] w fun r w' => r = .returned (backF w.heap.size) ∧ w' = w.alloc (.cells #[v] 60) := by
  subst hv
  go_enter Tryd.func82, Tryd.ntmps82
  go_wp2
  go_ret
  exact ⟨rfl, rfl⟩
/-- what the iterator reads -/
structure BkI (w : World) (bs : Nat) (P : List Pc) (v : Value) : Prop where
  box : w.heap[bs]? = some (.cells #[v] 60 (0, 0))
  hd : Held w 115 3 v P.length (pcV P)
theorem BkI.keep {w w' : World} {bs : Nat} {P : List Pc} {v : Value} (h : BkI w bs P v) (hb : w'.heap[bs]? = w.heap[bs]?) (hg : ∀ g, v.ownBlock = some g → w'.heap[g]? = w.heap[g]?) : BkI w' bs P v := ⟨hb.trans h.box, h.hd.keep hg⟩
set_option maxRecDepth 100000 in
set_option maxHeartbeats 4000000 in
theorem back_seq (n : Nat) (hn1 : 1 ≤ n) (bs : Nat) (P : List Pc) (v : Value) (w : World) (h : BkI w bs P v) (hl : P.length ≤ 4096) :
    SeqQ Fence.wide n Tryd.prog 121 #[.pointer (some ⟨bs, 0, none⟩)] (fun x : Nat × Pc => #[.int .i64 (x.1 : Int), pcA x.2]) 0 (fun xs => xs = backR P.reverse) (fun pre => pre <+: backR P.reverse) (fun pre x => (pre ++ [x]) <+: backR P.reverse) (fun i => i = bs ∨ v.ownBlock = some i) w := by
  intro l J Jx hJ hJx hY h0
  have HJ := Lib.hid hJ
  have HJX := Lib.hid hJx
  have HY := Lib.hid hY
  have H := Lib.hid h
  have H0 := Lib.hid h0
  obtain ⟨p, c, rfl, _⟩ := h.hd.cells
  obtain ⟨m, hm⟩ : ∃ m, m = P.length := ⟨_, rfl⟩
  have HM := Lib.hid hm
  have d0 : w.cell? ⟨bs, 0, none⟩ = some (.slice p m c) := by rw [hm]; exact cell_of_row _ _ _ _ _ _ h.box
  rw [← hm] at hl HY H
  clear hJ hJx hY h h0 hm
  refine callsIn_of_wp Tryd.func121 rfl trivial ?_ rfl
  simp only [Tryd.ntmps121, List.size_toArray, List.length_cons, List.length_nil, Nat.reduceAdd, Nat.reduceSub, Array.replicate_succ, Array.replicate_zero, List.push_toArray, List.append_toArray, List.nil_append, List.cons_append]
  gi_wp2
  gi_loopw [3] (fun i wr => ∃ (pre : List (Nat × Pc)) (k : Nat) (z : Int), i = .int .i64 z ∧ z + 1 = (k : Int) ∧ k ≤ m ∧ Hid (backR P.reverse = pre ++ backR (P.take k).reverse ∧ BkI wr bs P (.slice p m c) ∧ J pre wr ∧ w.heap.size + 0 ≤ wr.heap.size)) (fun i _ => (intOf i + 1).toNat)
  case atStart => exact ⟨[], m, (m : Int) - 1, rfl, by omega, Nat.le_refl _, Lib.hid ⟨by rw [List.take_of_length_le (by rw [← HM.out]; exact Nat.le_refl _)]; rfl, H.out, H0.out, Nat.le_refl _⟩⟩
  case round =>
    obtain ⟨pre, k, z, rfl, hz, hk, HI⟩ := hrel
    cases k with
    | zero =>
      obtain rfl : z = -1 := by omega
      gi_wp2
      go_end0
      refine ⟨⟨_, rfl⟩, .inl ⟨pre, ?_, HI.out.2.2.1⟩⟩
      rw [HI.out.1]
      simp [backR]
    | succ i =>
      obtain rfl : z = (i : Int) := by omega
      have hi0 : (0 : Int) ≤ (i : Int) := by omega
      have him : (i : Int) < (m : Int) := by omega
      obtain ⟨x, hx⟩ : ∃ x, P[i]? = some x := ⟨P[i]'(by have := HM.out; omega), List.getElem?_eq_getElem _⟩
      have htk : (P.take (i + 1)).reverse = x :: (P.take i).reverse := by rw [List.take_add_one, hx, List.reverse_append]; rfl
      have hti : (P.take i).reverse.length = i := by rw [List.length_reverse, List.length_take]; have := HM.out; omega
      have hbk : backR (P.take (i + 1)).reverse = (i, x) :: backR (P.take i).reverse := by rw [htk, backR, hti]
      obtain ⟨h1, h2, h3, h4⟩ := HI.out
      have hlen : (pre ++ [(i, x)]) <+: backR P.reverse := by
        rw [h1, hbk]
        exact (List.prefix_append_right_inj _).mpr ⟨_, rfl⟩
      obtain ⟨fn, tmps, assign, body, hy, hR⟩ := HY.out pre (i, x) wr h3 h4 hlen
      obtain ⟨g, rfl, hg⟩ := held_cellP h2.hd (by have := HM.out; omega)
      obtain ⟨a0, a1, a2⟩ := pcV_get hx
      have c0 := hg _ _ a0
      have c1 := hg _ _ a1
      have c2 := hg _ _ a2
      have cb : wr.cell? ⟨bs, 0, none⟩ = some (.slice (some ⟨g, 0, none⟩) m c) := cell_of_row _ _ _ _ _ _ h2.box
      have HR := Lib.hid hR
      have HBK : Hid (backR P.reverse = (pre ++ [(i, x)]) ++ backR (P.take i).reverse) := Lib.hid (by rw [h1, hbk, List.append_assoc]; rfl)
      have HB2 := Lib.hid h2
      have H4 := Lib.hid h4
      have HPL := Lib.hid hlen
      obtain ⟨xb, xl, xs⟩ := x
      clear hx htk hti hbk h1 h2 h3 h4 hlen hg a0 a1 a2 hR
      gi_wp2
      refine HR.out.mono ?_
      rintro e2 w2 ⟨(⟨rfl, hj2⟩ | ⟨rfl, hjx2⟩), hk2⟩
      · have hB3 : BkI w2 bs P (.slice (some ⟨g, 0, none⟩) m c) := HB2.out.keep (hk2.same bs (blk_lt HB2.out.box) (.inr (.inl rfl))) (fun q hq => hk2.same q (HB2.out.hd.lt hq) (.inr (.inr hq)))
        have HB3 := Lib.hid hB3
        have HJ2 := Lib.hid hj2
        have HS2 : Hid (w.heap.size + 0 ≤ w2.heap.size) := Lib.hid (Nat.le_trans H4.out hk2.size)
        clear hB3 hj2 hk2
        gi_wp2
        exact ⟨⟨pre ++ [(i, xb, xl, xs)], i, (i : Int) - 1, rfl, by omega, by omega, Lib.hid ⟨HBK.out, HB3.out, HJ2.out, HS2.out⟩⟩, by show ((i : Int) - 1 + 1).toNat < ((i : Int) + 1).toNat; omega⟩
      · gi_wp2
        refine bodyPost_ret (results_none rfl _ _ _) rfl ?_
        exact ⟨⟨_, rfl⟩, .inr ⟨pre ++ [(i, xb, xl, xs)], HPL.out, hjx2⟩⟩
end Go.Proofs.YtdbghgpohdijfaaDoor
/- The root of some pieces: walked. -/
namespace Go.Proofs.YtdbghgpohdijfaaDoor
open Go.RowKit Go.Scr Go.Shelf Go.ChangeMaps Go.MapKept
set_option linter.unusedVariables false
attribute [local go_sem] Oper.semAt_some
def rootP (P : List Pc) : ByteArray := if P = [] then hempty else rootA nodeS P
set_option maxRecDepth 100000 in
set_option maxHeartbeats 1000000 in
theorem froot_none {w : World} {eb : Nat} {T : TypeId} {rest : List Value} {v : Value} (H : FrI w eb T rest [] v) (ht : Tabs w) :
    Calls Tryd.prog 27 #[rowP eb] w fun o w' => o = .returned (.string hempty) ∧ Below w.heap.size w w' := by
  have HE := Lib.hid (dempty_any w ht)
  obtain ⟨p, c, rfl, _⟩ := H.hd.cells
  have c0 : w.cell? ⟨eb, 0, none⟩ = some (.slice p 0 c) := cellB H.box rfl
  clear H ht
  go_enter Tryd.func27, Tryd.ntmps27
  go_wp2_with (go_at_call 81; refine HE.out.mono ?_; rintro o w3 ⟨rfl, hb3⟩; have HB3 := Lib.hid hb3; clear hb3)
  go_ret
  exact ⟨rfl, HB3.out⟩
set_option maxRecDepth 100000 in
set_option maxHeartbeats 4000000 in
theorem froot_some {w : World} {eb : Nat} {T : TypeId} {rest : List Value} {P : List Pc} {x : Pc} {v : Value} (H : FrI w eb T rest (P ++ [x]) v) (ht : Tabs w) (hl : P.length ≤ 4096) :
    Calls Tryd.prog 27 #[rowP eb] w fun o w' => o = .returned (.string (rootA nodeS (P ++ [x]))) ∧ Below w.heap.size w w' := by
  refine (callsIn_wide (n := 3)).1 ?_
  obtain ⟨m, hm⟩ : ∃ m, m = P.length := ⟨_, rfl⟩
  obtain ⟨n, hn⟩ : ∃ n, n = m + 1 := ⟨_, rfl⟩
  have hpl : (P ++ [x]).length = n := by rw [List.length_append, hn, hm]; rfl
  have HH := Lib.hid H
  have HT := Lib.hid ht
  obtain ⟨p, c, rfl, hle, _⟩ := H.hd.cells
  obtain ⟨g, rfl, hg⟩ := held_cellP H.hd (by rw [hpl]; omega)
  rw [hpl] at HH hle
  obtain ⟨a0, a1, a2⟩ := pcV_get (show (P ++ [x])[m]? = some x by rw [hm]; simp)
  have c0 : w.cell? ⟨eb, 0, none⟩ = some (.slice (some ⟨g, 0, none⟩) n c) := cellB HH.out.box rfl
  have c0' : ∀ o, (w.alloc o).cell? ⟨eb, 0, none⟩ = some (.slice (some ⟨g, 0, none⟩) n c) := fun o => cellB (blk_alloc HH.out.box) rfl
  have c1 := hg _ _ a0
  have c2 := hg _ _ a1
  have c3 := hg _ _ a2
  have hF : Held w 115 3 (.slice (some ⟨g, 0, none⟩) m c) P.length (pcV P) := by
    have h1 := HH.out.hd
    have h2 : Held w 115 3 (.slice (some ⟨g, 0, none⟩) (P ++ [x]).length c) (P ++ [x]).length (pcV (P ++ [x])) := by rw [hpl] at h1 ⊢; exact h1
    have h3 := held_first h2 (n := m) (by rw [hpl]; omega) (by rw [hpl]; omega)
    rw [show (P ++ [x]).take m = P by rw [hm]; simp] at h3
    exact h3
  have HF := Lib.hid hF
  obtain ⟨xb, xl, xs⟩ := x
  have hn1I : (n : Int) - 1 = (m : Int) := by omega
  have hmn : (m : Int) < (n : Int) := by omega
  have hm0 : (0 : Int) ≤ (m : Int) := by omega
  have hmc : (m : Int) ≤ (c : Int) := by omega
  have hnz : ((n : Int) == 0) = false := by rw [beq_eq_false_iff_ne]; omega
  have hnb : n ≤ 4097 := by omega
  have CB := Lib.hid (fun w' => back_any (.slice (some ⟨g, 0, none⟩) m c) (some ⟨g, 0, none⟩) m c rfl w')
  have HM : Hid (m = P.length ∧ m ≤ 4096) := Lib.hid ⟨hm, by omega⟩
  clear H ht hF hm hn hpl hg a0 a1 a2 hl
  refine callsIn_of_wp_marks Tryd.func27 rfl trivial ?_ rfl
  simp only [Tryd.ntmps27, List.size_toArray, List.length_cons, List.length_nil, Nat.reduceAdd, Nat.reduceSub, Array.replicate_succ, Array.replicate_zero, List.push_toArray, List.append_toArray, List.nil_append, List.cons_append]
  have hn1 : 1 ≤ 3 := by decide
  gi_wp2_with (refine ⟨trivial, ?_⟩; gi_at_call 82; refine (callsIn_wide.2 (CB.out _)).mono ?_; rintro r wx ⟨rfl, hwx⟩; rw [hwx]; clear hwx wx)
  obtain ⟨bo, hbo⟩ : ∃ x, x = w.heap.size := ⟨_, rfl⟩
  obtain ⟨w4, hw4⟩ : ∃ x, x = (w.alloc (.cells #[.string xs] 9)).alloc (.cells #[.slice (some ⟨g, 0, none⟩) m c] 60) := ⟨_, rfl⟩
  have hsz : w4.heap.size = bo + 2 := by rw [hw4, hbo]; simp
  have hbel : Below w.heap.size w w4 := by rw [hw4]; exact ((Below.refl _ _).alloc (Nat.le_refl _) _).alloc (by simp) _
  have r0 : w4.heap[bo]? = some (.cells #[.string xs] 9 (0, 0)) := by rw [hw4, hbo]; exact blk_alloc (heap_alloc_new w _)
  have r1 : w4.heap[bo + 1]? = some (.cells #[.slice (some ⟨g, 0, none⟩) m c] 60 (0, 0)) := by rw [hw4, hbo]; exact alloc_two w _ _
  rw [← hw4]
  have HSZ := Lib.hid hsz
  have HR0 := Lib.hid r0
  have HR1 := Lib.hid r1
  have HBEL := Lib.hid hbel
  have HBO := Lib.hid hbo
  have HGL : Hid (g < bo) := Lib.hid (by rw [hbo]; exact HF.out.lt rfl)
  rw [← hbo]
  clear hw4 hsz r0 r1 hbel hbo c0 c0' c1 c2 c3
  refine wpIn_rangeQ (α := Nat × Pc) rfl hn1 (gf := 121) (lb := #[.pointer (some ⟨bo + 1, 0, none⟩)]) (by first | rfl | (rw [HBO.out]; rfl)) trivial (enters_of Tryd.func121 (by kernel_rfl) rfl)
    (encs := fun x => #[.int .i64 (x.1 : Int), pcA x.2]) (k := 0) (S := fun xs => xs = backR P.reverse) (Sp := fun pre => pre <+: backR P.reverse) (Ok := fun pre x => (pre ++ [x]) <+: backR P.reverse) (cap := fun i => i = bo + 1 ∨ (Value.slice (some ⟨g, 0, none⟩) m c).ownBlock = some i)
    (fun i hi => by
      rw [HSZ.out]
      rcases hi with h | h
      · omega
      · have : i = g := (Option.some.inj h).symm
        have := HGL.out
        omega)
    (fun W hb hs => back_seq 2 (by decide) (bo + 1) P (.slice (some ⟨g, 0, none⟩) m c) W ⟨(hb.block _ (by rw [HSZ.out]; omega)).trans HR1.out, by have h1 := (HF.out.below HBEL.out).below hb; rwa [HM.out.1] at h1 ⊢⟩ (by have := HM.out; omega)) (fun _ => rfl)
    (fun pre W => W.heap[bo]? = some (.cells #[.string (pre.foldl (fun o x => nodeS x.2.2.2 o) xs)] 9 (0, 0)) ∧ Below w.heap.size w W)
    (fun _ _ _ => False)
    (fun s A C h hc => ⟨(hc.same bo (blk_lt h.1) (by rw [HSZ.out]; omega)).trans h.1, below_chg h.2 hc (fun i hi => by have := HBEL.out.size; omega) h.2.size⟩)
    (fun c s A C h hc => h)
    ⟨HR0.out, HBEL.out⟩ ?round ?done ?stop
  case round =>
    rintro l pre ⟨i, yb, yl, ys⟩ W ⟨hr, hbel⟩ hsW hlen
    have HR := Lib.hid hr
    have HBL := Lib.hid hbel
    have HSW := Lib.hid hsW
    obtain ⟨o0, ho0⟩ : ∃ o, o = pre.foldl (fun o x => nodeS x.2.2.2 o) xs := ⟨_, rfl⟩
    have HO0 : Hid ((pre ++ [(i, yb, yl, ys)]).foldl (fun o x => nodeS x.2.2.2 o) xs = nodeS ys o0) := Lib.hid (by rw [List.foldl_append, ← ho0]; rfl)
    rw [← ho0] at HR
    clear hr hbel hsW hlen ho0
    gi_wp2
    refine ⟨Kq.of_chg (Chg.alloc (fun _ => False) _ _) (fun _ _ h => h), ?_⟩
    intro w2 hc hs2
    obtain ⟨xb0, hxb0⟩ : ∃ x, x = W.heap.size := ⟨_, rfl⟩
    have hbW : bo + 2 + 2 + 0 ≤ W.heap.size := by rw [← HSZ.out]; exact HSW.out
    have hszA : (W.alloc (.cells #[.int .i64 (yb : Int), .int .i64 (yl : Int), .string ys] 115)).heap.size = W.heap.size + 1 := by simp
    have q1 : w2.heap[bo]? = some (.cells #[.string o0] 9 (0, 0)) := (hc.same _ (by rw [hszA]; omega) (by rw [HSZ.out]; omega)).trans (blk_alloc HR.out)
    have q2 : w2.heap[xb0]? = some (.cells #[.int .i64 (yb : Int), .int .i64 (yl : Int), .string ys] 115 (0, 0)) := by
      rw [hxb0]
      exact (hc.same _ (by rw [hszA]; omega) (by rw [HSZ.out]; omega)).trans (heap_alloc_new W _)
    have hbl2 : Below w.heap.size w w2 := below_chg (HBL.out.alloc HBL.out.size _) hc (fun i hi => by have := HBEL.out.size; omega) (by rw [hszA]; have := HBL.out.size; omega)
    rw [← hxb0]
    have x2 : w2.cell? ⟨xb0, 2, none⟩ = some (.string ys) := cell_of_row _ _ _ _ _ _ q2
    have f0 : w2.cell? ⟨bo, 0, none⟩ = some (.string o0) := cell_of_row _ _ _ _ _ _ q1
    have Q1 := Lib.hid q1
    have HB2 := Lib.hid hbl2
    have CN : Hid (Calls Tryd.prog 83 #[.string ys, .string o0] w2 fun o w' => o = .returned (.string (nodeS ys o0)) ∧ Below w2.heap.size w2 w') := Lib.hid (fnode_any ys o0 w2 (HT.out.below hbl2))
    have HKQ : Hid (∀ w3 u, Below w2.heap.size w2 w3 → Kq (fun i => (w4.heap.size ≤ i ∧ i < w4.heap.size + 2 + 0) ∨ (i = bo + 1 ∨ (Value.slice (some ⟨g, 0, none⟩) m c).ownBlock = some i)) w2 (w3.setCell ⟨bo, 0, none⟩ u)) := Lib.hid (fun w3 u hb3 => ⟨by simpa [World.setCell] using hb3.size, fun i hi hk => by
      have hne : i ≠ bo := by
        rcases hk with h | h | h
        · rw [HSZ.out] at h; omega
        · omega
        · have : i = g := (Option.some.inj h).symm
          have := HGL.out
          omega
      exact (Below.heap_setCell w3 ⟨bo, 0, none⟩ u i hne).trans (hb3.block i hi)⟩)
    obtain ⟨ns, hns⟩ : ∃ s, s = nodeS ys o0 := ⟨_, rfl⟩
    rw [← hns] at CN HO0
    clear hc hs2 hxb0 hszA q1 q2 hbl2 hns
    gi_wp2_with (refine ⟨trivial, ?_⟩; gi_at_call 83; refine (callsIn_wide.2 CN.out).mono ?_; rintro o w3 ⟨rfl, hb3⟩; have HB3 := Lib.hid hb3; have k3 : w3.heap[bo]? = some (.cells #[.string o0] 9 (0, 0)) := (hb3.block bo (blk_lt Q1.out)).trans Q1.out; have K3 := Lib.hid k3; have f3 : w3.cell? ⟨bo, 0, none⟩ = some (.string o0) := cell_of_row _ _ _ _ _ _ k3; have g3 : w3.frozen? ⟨bo, 0, none⟩ = false := frozB k3; clear hb3 k3 f0)
    refine ⟨HKQ.out w3 _ HB3.out, ?_, ?_⟩
    · rw [HO0.out]
      exact blk_set K3.out 0 (.string ns)
    · exact (HB2.out.trans (HB3.out.mono HB2.out.size)).setCell (p := ⟨bo, 0, none⟩) (by show w.heap.size ≤ bo; rw [HBO.out]; exact Nat.le_refl _) _
  case done =>
    rintro D ys W rfl rfl ⟨hr, hbel⟩ hK
    have h9 := backR_fold nodeS P.reverse [(xb, xl, xs)] (by simp)
    rw [List.reverse_reverse] at h9
    obtain ⟨o9, ho9⟩ : ∃ o, o = rootA nodeS (P ++ [(xb, xl, xs)]) := ⟨_, rfl⟩
    rw [← ho9] at h9
    have HO9 := Lib.hid ho9
    replace hr : W.heap[bo]? = some (.cells #[.string o9] 9 (0, 0)) := by rw [← h9]; exact hr
    have f0 : W.cell? ⟨bo, 0, none⟩ = some (.string o9) := cell_of_row _ _ _ _ _ _ hr
    have HBL := Lib.hid hbel
    have HKK := Lib.hid hK
    have HR := Lib.hid hr
    clear hr hbel hK h9 ho9
    gi_wp2
    refine ⟨by simp, .inl ⟨_, _, rfl, run_takeDeferred HKK.out, ?_⟩⟩
    have hc5 : (W.putObj w4.heap.size (.deferred none)).cell? ⟨bo, 0, none⟩ = some (.string o9) :=
      cell_of_row _ _ _ _ _ _ ((World.putObj_heap_other (by rw [HSZ.out]; omega)).trans HR.out)
    refine ⟨.string o9, ?_, by rw [HO9.out], ?_⟩
    · simp [results, Tryd.f27, go_sem, hc5]
    · exact below_chg HBL.out (Chg.put (fun i => i = w4.heap.size) _ (.deferred none) rfl) (fun i hi => by have := HBEL.out.size; omega) HBL.out.size
  case stop =>
    rintro D c pre W rfl hpre h hK
    exact h.elim
end Go.Proofs.YtdbghgpohdijfaaDoor
