/- extract.Inclusion and extract.Consistency where nothing is to be found: walked. -/
import Derived.Test.YtdbghgpohdijfaaGreatDoorMa32
namespace Go.Proofs.YtdbghgpohdijfaaGreatDoor
open Go.RowKit Go.Scr
set_option linter.unusedVariables false
theorem none_end {w w1 wx : World} {bp : Nat} {c : Int} (h1 : Below w.heap.size w w1) (hb : Below w1.heap.size w1 wx) (hp : w.heap.size ≤ bp) {e : Ending} (he : e = .returned (.tuple #[.agg #[.string ⟨#[]⟩, .string ⟨#[]⟩], .int .i64 c])) :
    NoneP c w e ((wx.setCell ⟨bp, 0, none⟩ (.string ⟨#[]⟩)).setCell ⟨bp, 1, none⟩ (.string ⟨#[]⟩)) :=
  ⟨he, ((h1.trans (hb.mono h1.size)).setCell (p := ⟨bp, 0, none⟩) hp _).setCell (p := ⟨bp, 1, none⟩) hp _⟩
set_option maxRecDepth 100000 in
set_option maxHeartbeats 4000000 in
theorem incl_proof {w : World} {s i : Int} {root leaf other : ByteArray} {vp vq : Value} {P Q : List ByteArray} (ht : Tabs w) (hvp : Txts w vp P) (hvq : Txts w vq Q) (hlp : P.length ≤ 1048576) (hlq : Q.length ≤ 1048576)
    (h : inclS s i leaf P root ≠ 0 ∨ inclS s i other Q root ≠ 0) :
    Calls Tryz.prog 6 #[.int .i64 s, .int .i64 i, .string root, .string leaf, vp, .string other, vq] w (NoneP 61 w) := by
  obtain ⟨w1, hw1⟩ : ∃ x, x = w.alloc (.cells #[.string ⟨#[]⟩, .string ⟨#[]⟩] 26) := ⟨_, rfl⟩
  obtain ⟨x0, x1⟩ := one_blockE w #[.string ⟨#[]⟩, .string ⟨#[]⟩] 26
  rw [← hw1] at x0 x1
  obtain ⟨bp, hbp⟩ : ∃ x, x = w.heap.size := ⟨_, rfl⟩
  rw [← hbp] at x0
  obtain ⟨e1, he1⟩ : ∃ e, e = inclS s i leaf P root := ⟨_, rfl⟩
  obtain ⟨e2, he2⟩ : ∃ e, e = inclS s i other Q root := ⟨_, rfl⟩
  have CI1 : Hid (∀ w', Below w1.heap.size w1 w' → Calls Tryz.prog 19 #[.int .i64 s, .int .i64 i, .string leaf, vp, .string root] w' fun o z => o = .returned (.int .i64 e1) ∧ Below w'.heap.size w' z) := Lib.hid (fun w' hb => by
    rw [he1]
    exact inclusion_any s i leaf vp P root w' ((ht.below x1).below hb) ((hvp.below x1 (Nat.le_refl _)).below hb (Nat.le_refl _)) hlp)
  have CI2 : Hid (∀ w', Below w1.heap.size w1 w' → Calls Tryz.prog 19 #[.int .i64 s, .int .i64 i, .string other, vq, .string root] w' fun o z => o = .returned (.int .i64 e2) ∧ Below w'.heap.size w' z) := Lib.hid (fun w' hb => by
    rw [he2]
    exact inclusion_any s i other vq Q root w' ((ht.below x1).below hb) ((hvq.below x1 (Nat.le_refl _)).below hb (Nat.le_refl _)) hlq)
  rw [← he1, ← he2] at h
  have HX : Hid (∀ w', Below w1.heap.size w1 w' → w'.heap[bp]? = some (.cells #[.string ⟨#[]⟩, .string ⟨#[]⟩] 26 (0, 0))) := Lib.hid (fun w' hb => blk_below x0 hb (blk_lt x0))
  have HF : Hid (Below w.heap.size w w1 ∧ w.heap.size ≤ bp) := Lib.hid ⟨x1, by omega⟩
  have HW1 := Lib.hid hw1
  have HBP := Lib.hid hbp
  obtain ⟨pp, cp, rfl, _⟩ := hvp
  obtain ⟨pq, cq, rfl, _⟩ := hvq
  obtain ⟨np, hnp⟩ : ∃ x, x = P.length := ⟨_, rfl⟩
  obtain ⟨nq, hnq⟩ : ∃ x, x = Q.length := ⟨_, rfl⟩
  rw [← hnp] at CI1 ⊢
  rw [← hnq] at CI2 ⊢
  clear ht hlp hlq hw1 x0 x1 hbp he1 he2 hnp hnq
  by_cases h1 : e1 = 0
  case neg =>
    have t1 : (e1 == 0) = false := beq_eq_false_iff_ne.2 h1
    have t2 : (e1 != 0) = true := bne_iff_ne.2 h1
    clear h1 h
    go_enter Tryz.func6, Tryz.ntmps6
    go_upto_region 1 with fail
    rw [← HW1.out, ← HBP.out]
    go_wp2_with (go_at_call 19; (with_reducible refine (CI1.out _ (Below.refl _ _)).mono ?_); rintro o x2 ⟨rfl, h⟩; have HB2 : Hid (Below w1.heap.size w1 x2) := Lib.hid h; have hx := HX.out _ HB2.out; have HXX := Lib.hid hx; have k0 : x2.cell? ⟨bp, 0, none⟩ = some (.string ⟨#[]⟩) := cellB hx rfl; have k1 : x2.cell? ⟨bp, 1, none⟩ = some (.string ⟨#[]⟩) := cellB hx rfl; have f0 : x2.frozen? ⟨bp, 0, none⟩ = false := frozB hx; have f1 : x2.frozen? ⟨bp, 1, none⟩ = false := frozB hx; clear h hx)
    have hx6 := blk_set2 (x := .string ⟨#[]⟩) (y := .string ⟨#[]⟩) HXX.out
    have m0 := cellB (k := 0) hx6 rfl
    have m1 := cellB (k := 1) hx6 rfl
    refine bodyPost_ret (v := .tuple #[.agg #[.string ⟨#[]⟩, .string ⟨#[]⟩], .int .i64 61]) (by simp [results, Tryz.results6, go_sem, m0, m1]) rfl ?_
    exact none_end HF.out.1 HB2.out HF.out.2 rfl
  subst h1
  have h2 : e2 ≠ 0 := h.resolve_left (fun h => h rfl)
  have t1 : (e2 == 0) = false := beq_eq_false_iff_ne.2 h2
  have t2 : (e2 != 0) = true := bne_iff_ne.2 h2
  clear h h2
  go_enter Tryz.func6, Tryz.ntmps6
  go_upto_region 1 with fail
  rw [← HW1.out, ← HBP.out]
  go_wp2_with (first
    | (go_at_call 19; (with_reducible refine (CI1.out _ (Below.refl _ _)).mono ?_); rintro o x1 ⟨rfl, h⟩; have HB1 : Hid (Below w1.heap.size w1 x1) := Lib.hid h; clear h CI1)
    | (go_at_call 19; (with_reducible refine (CI2.out _ HB1.out).mono ?_); rintro o x2 ⟨rfl, h⟩; have HB2 : Hid (Below w1.heap.size w1 x2) := Lib.hid (HB1.out.trans (h.mono HB1.out.size)); have hx := HX.out _ HB2.out; have HXX := Lib.hid hx; have k0 : x2.cell? ⟨bp, 0, none⟩ = some (.string ⟨#[]⟩) := cellB hx rfl; have k1 : x2.cell? ⟨bp, 1, none⟩ = some (.string ⟨#[]⟩) := cellB hx rfl; have f0 : x2.frozen? ⟨bp, 0, none⟩ = false := frozB hx; have f1 : x2.frozen? ⟨bp, 1, none⟩ = false := frozB hx; clear h hx))
  have hx6 := blk_set2 (x := .string ⟨#[]⟩) (y := .string ⟨#[]⟩) HXX.out
  have m0 := cellB (k := 0) hx6 rfl
  have m1 := cellB (k := 1) hx6 rfl
  refine bodyPost_ret (v := .tuple #[.agg #[.string ⟨#[]⟩, .string ⟨#[]⟩], .int .i64 61]) (by simp [results, Tryz.results6, go_sem, m0, m1]) rfl ?_
  exact none_end HF.out.1 HB2.out HF.out.2 rfl
set_option maxRecDepth 100000 in
set_option maxHeartbeats 4000000 in
theorem incl_none {w : World} {s i : Int} {root leaf : ByteArray} {vp vq : Value} {P : List ByteArray} (ht : Tabs w) (hvp : Txts w vp P) (hvq : Txts w vq P) (hlp : P.length ≤ 1048576)
    (h : inclS s i leaf P root = 0) :
    Calls Tryz.prog 6 #[.int .i64 s, .int .i64 i, .string root, .string leaf, vp, .string leaf, vq] w (NoneP 60 w) := by
  obtain ⟨w1, hw1⟩ : ∃ x, x = w.alloc (.cells #[.string ⟨#[]⟩, .string ⟨#[]⟩] 26) := ⟨_, rfl⟩
  obtain ⟨x0, x1⟩ := one_blockE w #[.string ⟨#[]⟩, .string ⟨#[]⟩] 26
  rw [← hw1] at x0 x1
  obtain ⟨bp, hbp⟩ : ∃ x, x = w.heap.size := ⟨_, rfl⟩
  rw [← hbp] at x0
  have CI1 : Hid (∀ w', Below w1.heap.size w1 w' → Calls Tryz.prog 19 #[.int .i64 s, .int .i64 i, .string leaf, vp, .string root] w' fun o z => o = .returned (.int .i64 0) ∧ Below w'.heap.size w' z) := Lib.hid (fun w' hb => by
    have := inclusion_any s i leaf vp P root w' ((ht.below x1).below hb) ((hvp.below x1 (Nat.le_refl _)).below hb (Nat.le_refl _)) hlp
    rwa [h] at this)
  have CI2 : Hid (∀ w', Below w1.heap.size w1 w' → Calls Tryz.prog 19 #[.int .i64 s, .int .i64 i, .string leaf, vq, .string root] w' fun o z => o = .returned (.int .i64 0) ∧ Below w'.heap.size w' z) := Lib.hid (fun w' hb => by
    have := inclusion_any s i leaf vq P root w' ((ht.below x1).below hb) ((hvq.below x1 (Nat.le_refl _)).below hb (Nat.le_refl _)) hlp
    rwa [h] at this)
  have CE : Hid (∀ w', Below w1.heap.size w1 w' → Calls Tryz.prog 20 #[vp, vq] w' fun o z => o = .returned (.bool true) ∧ Below w'.heap.size w' z) := Lib.hid (fun w' hb => by
    have := sameQ_any vp vq P P w' ((hvp.below x1 (Nat.le_refl _)).below hb (Nat.le_refl _)) ((hvq.below x1 (Nat.le_refl _)).below hb (Nat.le_refl _)) hlp hlp
    rwa [show decide (P = P) = true from decide_eq_true rfl] at this)
  have HX : Hid (∀ w', Below w1.heap.size w1 w' → w'.heap[bp]? = some (.cells #[.string ⟨#[]⟩, .string ⟨#[]⟩] 26 (0, 0))) := Lib.hid (fun w' hb => blk_below x0 hb (blk_lt x0))
  have HF : Hid (Below w.heap.size w w1 ∧ w.heap.size ≤ bp) := Lib.hid ⟨x1, by omega⟩
  have HW1 := Lib.hid hw1
  have HBP := Lib.hid hbp
  obtain ⟨pp, cp, rfl, _⟩ := hvp
  obtain ⟨pq, cq, rfl, _⟩ := hvq
  obtain ⟨np, hnp⟩ : ∃ x, x = P.length := ⟨_, rfl⟩
  rw [← hnp] at CI1 CI2 CE ⊢
  have e1 : (leaf.toList == leaf.toList) = true := by simp
  clear ht hlp hw1 x0 x1 hbp h hnp
  go_enter Tryz.func6, Tryz.ntmps6
  go_upto_region 1 with fail
  rw [← HW1.out, ← HBP.out]
  go_wp2_with (first
    | (go_at_call 19; (with_reducible refine (CI1.out _ (Below.refl _ _)).mono ?_); rintro o x1 ⟨rfl, h⟩; have HB1 : Hid (Below w1.heap.size w1 x1) := Lib.hid h; clear h CI1)
    | (go_at_call 19; (with_reducible refine (CI2.out _ HB1.out).mono ?_); rintro o x2 ⟨rfl, h⟩; have HB2 : Hid (Below w1.heap.size w1 x2) := Lib.hid (HB1.out.trans (h.mono HB1.out.size)); clear h)
    | (go_at_call 20; (with_reducible refine (CE.out _ HB2.out).mono ?_); rintro o x3 ⟨rfl, h⟩; have HB3 : Hid (Below w1.heap.size w1 x3) := Lib.hid (HB2.out.trans (h.mono HB2.out.size)); have hx := HX.out _ HB3.out; have HXX := Lib.hid hx; have k0 : x3.cell? ⟨bp, 0, none⟩ = some (.string ⟨#[]⟩) := cellB hx rfl; have k1 : x3.cell? ⟨bp, 1, none⟩ = some (.string ⟨#[]⟩) := cellB hx rfl; have f0 : x3.frozen? ⟨bp, 0, none⟩ = false := frozB hx; have f1 : x3.frozen? ⟨bp, 1, none⟩ = false := frozB hx; clear h hx))
  have hx6 := blk_set2 (x := .string ⟨#[]⟩) (y := .string ⟨#[]⟩) HXX.out
  have m0 := cellB (k := 0) hx6 rfl
  have m1 := cellB (k := 1) hx6 rfl
  refine bodyPost_ret (v := .tuple #[.agg #[.string ⟨#[]⟩, .string ⟨#[]⟩], .int .i64 60]) (by simp [results, Tryz.results6, go_sem, m0, m1]) rfl ?_
  exact none_end HF.out.1 HB3.out HF.out.2 rfl
set_option maxRecDepth 100000 in
set_option maxHeartbeats 4000000 in
theorem cons_none {w : World} {f : Nat} {old : ByteArray} {vl vp : Value} {L P : List ByteArray} (ht : Tabs w) (hvl : Txts w vl L) (hvp : Txts w vp P) (hl4 : L.length ≤ 4096) (h32 : ∀ s ∈ L, s.size = 32) (hlp : P.length ≤ 1048576) (hfl : f ≤ L.length)
    (h : consS f L.length old (rootR L) P = 0) (ho : old = rootR (L.take f)) :
    Calls Tryz.prog 11 #[vl, .int .i64 (f : Int), .string old, vp] w (NoneP 60 w) := by
  obtain ⟨w1, hw1⟩ : ∃ x, x = w.alloc (.cells #[.string ⟨#[]⟩, .string ⟨#[]⟩] 26) := ⟨_, rfl⟩
  obtain ⟨x0, x1⟩ := one_blockE w #[.string ⟨#[]⟩, .string ⟨#[]⟩] 26
  rw [← hw1] at x0 x1
  obtain ⟨bp, hbp⟩ : ∃ x, x = w.heap.size := ⟨_, rfl⟩
  rw [← hbp] at x0
  obtain ⟨n, hn⟩ : ∃ n, n = L.length := ⟨_, rfl⟩
  have hok : ok32 L = true := all32_ofE h32
  have CH : Hid (∀ w', Below w1.heap.size w1 w' → Calls Tryz.prog 31 #[vl] w' fun o z => o = .returned (.bool true) ∧ z = w') := Lib.hid (fun w' hb => by
    have := ehashes_any vl L w' ((hvl.below x1 (Nat.le_refl _)).below hb (Nat.le_refl _))
    rwa [hok] at this)
  obtain ⟨r, hr⟩ : ∃ r, r = rootR L := ⟨_, rfl⟩
  have CR : Hid (∀ w', Below w1.heap.size w1 w' → Calls Tryz.prog 32 #[vl] w' fun o z => o = .returned (.string r) ∧ Below w'.heap.size w' z) := Lib.hid (fun w' hb => by
    have := eroot_any _ _ w' ((ht.below x1).below hb) ((hvl.below x1 (Nat.le_refl _)).below hb (Nat.le_refl _))
    rwa [rootT_R h32 hl4, ← hr] at this)
  have CC : Hid (∀ w', Below w1.heap.size w1 w' → Calls Tryz.prog 39 #[.int .i64 (f : Int), .int .i64 (n : Int), .string old, .string r, vp] w' fun o z => o = .returned (.int .i64 0) ∧ Below w'.heap.size w' z) := Lib.hid (fun w' hb => by
    have := consistency_any (f : Int) (L.length : Int) old (rootR L) vp P w' ((ht.below x1).below hb) ((hvp.below x1 (Nat.le_refl _)).below hb (Nat.le_refl _)) hlp
    rwa [h, ← hn, ← hr] at this)
  obtain ⟨pl, cl, rfl⟩ : ∃ p c, vl = .slice p n c := by obtain ⟨p, c, h, _⟩ := hvl; exact ⟨p, c, by rw [h, hn]⟩
  have hncl : n ≤ cl := by
    obtain ⟨p, c, h, h2, _⟩ := hvl
    injection h with e1 e2 e3
    omega
  have CR2 : Hid (∀ w', Below w1.heap.size w1 w' → Calls Tryz.prog 32 #[.slice pl f cl] w' fun o z => o = .returned (.string old) ∧ Below w'.heap.size w' z) := Lib.hid (fun w' hb => by
    have := eroot_any _ _ w' ((ht.below x1).below hb) (((hvl.below x1 (Nat.le_refl _)).below hb (Nat.le_refl _)).cutC (k := f) (by omega))
    rwa [rootT_R (fun s hs => h32 s (List.mem_of_mem_take hs)) (by rw [List.length_take]; omega), ← ho] at this)
  have HX : Hid (∀ w', Below w1.heap.size w1 w' → w'.heap[bp]? = some (.cells #[.string ⟨#[]⟩, .string ⟨#[]⟩] 26 (0, 0))) := Lib.hid (fun w' hb => blk_below x0 hb (blk_lt x0))
  have HF : Hid (Below w.heap.size w w1 ∧ w.heap.size ≤ bp) := Lib.hid ⟨x1, by omega⟩
  have HW1 := Lib.hid hw1
  have HBP := Lib.hid hbp
  obtain ⟨pp, cp, rfl, _⟩ := hvp
  obtain ⟨np, hnp⟩ : ∃ x, x = P.length := ⟨_, rfl⟩
  rw [← hnp] at CC ⊢
  have e1 : (old.toList == old.toList) = true := by simp
  have e2 : ¬ (4096 : Int) < (n : Int) := by omega
  have e3 : (0 : Int) ≤ (f : Int) := by omega
  have e4 : (f : Int) ≤ (cl : Int) := by omega
  clear ht hl4 h32 hlp hfl hw1 x0 x1 hbp h ho hn hnp hok hr hvl hncl
  go_enter Tryz.func11, Tryz.ntmps11
  go_upto_region 1 with fail
  rw [← HW1.out, ← HBP.out]
  go_wp2_with (first
    | (go_at_call 31; (with_reducible refine (CH.out _ (Below.refl _ _)).mono ?_); rintro o z ⟨rfl, hx⟩; rw [hx]; clear hx z)
    | (go_at_call 32; (with_reducible refine (CR.out _ (Below.refl _ _)).mono ?_); rintro o x1 ⟨rfl, h⟩; have HB1 : Hid (Below w1.heap.size w1 x1) := Lib.hid h; clear h CR)
    | (go_at_call 39; (with_reducible refine (CC.out _ HB1.out).mono ?_); rintro o x2 ⟨rfl, h⟩; have HB2 : Hid (Below w1.heap.size w1 x2) := Lib.hid (HB1.out.trans (h.mono HB1.out.size)); clear h)
    | (go_at_call 32; (with_reducible refine (CR2.out _ HB2.out).mono ?_); rintro o x3 ⟨rfl, h⟩; have HB3 : Hid (Below w1.heap.size w1 x3) := Lib.hid (HB2.out.trans (h.mono HB2.out.size)); have hx := HX.out _ HB3.out; have HXX := Lib.hid hx; have k0 : x3.cell? ⟨bp, 0, none⟩ = some (.string ⟨#[]⟩) := cellB hx rfl; have k1 : x3.cell? ⟨bp, 1, none⟩ = some (.string ⟨#[]⟩) := cellB hx rfl; have f0 : x3.frozen? ⟨bp, 0, none⟩ = false := frozB hx; have f1 : x3.frozen? ⟨bp, 1, none⟩ = false := frozB hx; clear h hx))
  have hx6 := blk_set2 (x := .string ⟨#[]⟩) (y := .string ⟨#[]⟩) HXX.out
  have m0 := cellB (k := 0) hx6 rfl
  have m1 := cellB (k := 1) hx6 rfl
  refine bodyPost_ret (v := .tuple #[.agg #[.string ⟨#[]⟩, .string ⟨#[]⟩], .int .i64 60]) (by simp [results, Tryz.results11, go_sem, m0, m1]) rfl ?_
  exact none_end HF.out.1 HB3.out HF.out.2 rfl
end Go.Proofs.YtdbghgpohdijfaaGreatDoor
/- Law 6: a hash of one byte, unlike texts: walked; the first calls' numbers: plain. -/
namespace Go.Proofs.YtdbghgpohdijfaaGreatDoor
open Go.RowKit Go.Scr
set_option linter.unusedVariables false
def repL (c : UInt8) : List UInt8 := List.replicate 32 c
def repS (c : UInt8) : ByteArray := str (repL c)
theorem repS_size (c : UInt8) : (repS c).size = 32 := by unfold repS; rw [str_size]; simp [repL]
theorem bytesV_setE (l : List UInt8) (i : Nat) (a : UInt8) : ((bytesV l).toArray).setIfInBounds i (.int .u8 (a.toNat : Int)) = (bytesV (l.set i a)).toArray := by
  unfold bytesV
  simp [List.map_set]
def made32E : Array Value := madeCells #[Value.int .u8 0] 32
theorem made32E_eq : made32E = (bytesV (List.replicate 32 0)).toArray := madeCells_bytes 32
set_option maxRecDepth 100000 in
set_option maxHeartbeats 1000000 in
theorem rep_any (c : UInt8) (z : Int) (hz : z = (c.toNat : Int)) (w : World) :
    Calls Tryz.prog 15 #[.int .u8 z] w fun e w' => e = .returned (.string (repS c)) ∧ Below w.heap.size w w' := by
  have hmk : (Instr.makeSlice 64 (.int .i64 32) (.int .i64 32)).run Tryz.prog w = .ok (.slice (some ⟨w.heap.size, 0, none⟩) 32 32) (w.alloc (.cells made32E 5)) := make_bytes (P := Tryz.prog) 64 5 Tryz.underlying64 info_u8 32 32 (by omega) (by omega) w
  have HZ := Lib.hid hz
  clear hz
  go_enter Tryz.func15, Tryz.ntmps15
  go_upto_region 2 with fail
  have hb0 : (w.alloc (.cells made32E 5)).heap[w.heap.size]? = some (.cells (bytesV (List.replicate 32 0)).toArray 5 (0, 0)) := by rw [← made32E_eq]; exact heap_alloc_new w _
  obtain ⟨g, hg⟩ : ∃ g, g = w.heap.size := ⟨_, rfl⟩
  have HI0 : Hid (∃ l : List UInt8, l.length = 32 ∧ (∀ j, j < 0 → l[j]? = some c) ∧ (w.alloc (.cells made32E 5)).heap[g]? = some (.cells (bytesV l).toArray 5 (0, 0)) ∧ Below w.heap.size w (w.alloc (.cells made32E 5))) := Lib.hid ⟨List.replicate 32 0, by simp, fun j h => absurd h (by omega), by rw [hg]; exact hb0, (Below.refl _ _).alloc (Nat.le_refl _) _⟩
  have HG := Lib.hid hg
  rw [← hg]
  clear hmk hb0 hg
  go_wp2_with fail
  go_loopw [4] (fun k wr => ∃ i : Nat, k = .int .i64 (i : Int) ∧ i ≤ 32 ∧ Hid (∃ l : List UInt8, l.length = 32 ∧ (∀ j, j < i → l[j]? = some c) ∧ wr.heap[g]? = some (.cells (bytesV l).toArray 5 (0, 0)) ∧ Below w.heap.size w wr)) (fun k _ => 32 - (intOf k).toNat)
  case atStart => exact ⟨0, rfl, by omega, HI0⟩
  case round =>
    clear HI0
    obtain ⟨i, rfl, hi, HI⟩ := hrel
    obtain ⟨l, hl, hj, hh, hb⟩ := HI.out
    by_cases hlt : i < 32
    · have hli : (i : Int) < 32 := by omega
      have hi0 : (0 : Int) ≤ (i : Int) := by omega
      obtain ⟨y, hy⟩ : ∃ y, l[i]? = some y := ⟨l[i]'(by omega), List.getElem?_eq_getElem _⟩
      have hc0 : wr.cell? ⟨g, i, none⟩ = some (.int .u8 (y.toNat : Int)) := by rw [cell_of_row wr g i _ _ _ hh]; simp [bytesV, hy]
      have hf0 := frozen_of_row wr g i _ _ hh
      have HNX : Hid (∃ l : List UInt8, l.length = 32 ∧ (∀ j, j < i + 1 → l[j]? = some c) ∧ (wr.setCell ⟨g, i, none⟩ (.int .u8 z)).heap[g]? = some (.cells (bytesV l).toArray 5 (0, 0)) ∧ Below w.heap.size w (wr.setCell ⟨g, i, none⟩ (.int .u8 z))) := Lib.hid ⟨l.set i c, by rw [List.length_set]; exact hl, fun j hji => by
          rw [List.getElem?_set]
          by_cases h : i = j
          · rw [if_pos h, if_pos (by omega)]
          · rw [if_neg h]; exact hj j (by omega), by rw [HZ.out, ← bytesV_setE]; exact blk_set hh i _, hb.setCell (p := ⟨g, i, none⟩) (by show w.heap.size ≤ g; rw [HG.out]; exact Nat.le_refl _) _⟩
      have HLT := Lib.hid hlt
      clear hlt hl hj hh hb hy
      go_wp2_with fail
      exact ⟨⟨i + 1, by simp, HLT.out, HNX⟩, by show 32 - ((i : Int) + 1).toNat < 32 - (i : Int).toNat; have := HLT.out; omega⟩
    · obtain rfl : i = 32 := by omega
      have hle : l = repL c := List.ext_getElem? (fun j => by
        by_cases h : j < 32
        · rw [hj j h]; unfold repL; rw [List.getElem?_replicate, if_pos h]
        · rw [List.getElem?_eq_none (by omega), List.getElem?_eq_none (by simp [repL]; omega)])
      subst hle
      have hcv := own_string (P := Tryz.prog) (D := 9) (S := 64) (c := 32) Tryz.underlying64 und_u8 und_string (own_of_blk (n := 32) hh (by simp [repL]) (by simp [repL]))
      have HBE := Lib.hid hb
      clear hlt hl hj hh hb
      go_wp2_with fail
      go_ret
      exact ⟨rfl, HBE.out⟩
/-- the three leaves of the first calls -/
def aw : List ByteArray := [repS 1, repS 2, repS 3]
theorem aw_32 : ∀ s ∈ aw, s.size = 32 := by
  intro s hs
  simp only [aw, List.mem_cons, List.not_mem_nil, or_false] at hs
  rcases hs with rfl | rfl | rfl <;> exact repS_size _
theorem spl3 : spl 3 = 2 := Go.Scr.spl_two 1 (by decide) (by decide)
theorem spl2 : spl 2 = 1 := Go.Scr.spl_two 0 (by decide) (by decide)
theorem path3 (a b c : ByteArray) : pathR 1 [a, b, c] = [a, c] := by
  rw [pathR_left (k := 2) (by rw [show [a, b, c].length = 3 from rfl, spl3]) (by show 2 ≤ 3; decide) (by decide)]
  show pathR 1 [a, b] ++ [rootR [c]] = [a, c]
  rw [pathR_right (L := [a, b]) (k := 1) (by rw [show [a, b].length = 2 from rfl, spl2]) (by show 2 ≤ 2; decide) (by decide)]
  show (pathR 0 [b] ++ [rootR [a]]) ++ [rootR [c]] = [a, c]
  rw [pathR_one _ (by show 1 ≤ 1; decide), show rootR [a] = a from rootL_one _ _ _, show rootR [c] = c from rootL_one _ _ _]
  rfl
theorem root3 (a b c : ByteArray) : rootR [a, b, c] = nodeS (nodeS a b) c := by
  rw [rootR_split (by show 2 ≤ 3; decide), show [a, b, c].length = 3 from rfl, spl3]
  show nodeS (rootR [a, b]) (rootR [c]) = _
  rw [rootR_split (L := [a, b]) (by show 2 ≤ 2; decide), show [a, b].length = 2 from rfl, spl2]
  show nodeS (nodeS (rootR [a]) (rootR [b])) (rootR [c]) = _
  rw [show rootR [a] = a from rootL_one _ _ _, show rootR [b] = b from rootL_one _ _ _, show rootR [c] = c from rootL_one _ _ _]
theorem nodeS_two {l r : List UInt8} (hl : l.length = 32) (hr : r.length = 32) : nodeS (str l) (str r) = str (sha (1 :: (l ++ r))) := by
  unfold nodeS
  rw [if_pos ⟨by rw [str_size]; exact hl, by rw [str_size]; exact hr⟩]
  rfl
theorem rep_len (c : UInt8) : (repL c).length = 32 := by simp [repL]
theorem aw_sha : sha (1 :: (sha (1 :: (repL 1 ++ repL 2)) ++ repL 3)) ≠ sha (1 :: (sha (1 :: (repL 1 ++ repL 3)) ++ repL 3)) := by decide +kernel
theorem str_injE {a b : List UInt8} (h : str a = str b) : a = b := by
  have e : ∀ l : List UInt8, (str l).data.toList = l := fun l => by simp [str]
  rw [← e a, ← e b, h]
theorem root3_rep (x y z : UInt8) : rootR [repS x, repS y, repS z] = str (sha (1 :: (sha (1 :: (repL x ++ repL y)) ++ repL z))) := by
  rw [root3]
  unfold repS
  rw [nodeS_two (rep_len x) (rep_len y), nodeS_two (sha_length _) (rep_len z)]
theorem aw_ne : rootR [repS 1, repS 3, repS 3] ≠ rootR aw := by
  rw [show aw = [repS 1, repS 2, repS 3] from rfl, root3_rep, root3_rep]
  intro h
  exact aw_sha (str_injE h).symm
theorem aw_incl : pathE aw 1 = 0 ∧ pathT aw 1 = pathR 1 aw ∧ inclS 3 1 (repS 2) (pathR 1 aw) (rootR aw) = 0 := path_okE aw_32 (m := 1) (leaf := repS 2) (by decide) (by decide) rfl
theorem aw_no : inclS 3 1 (repS 3) (pathR 1 aw) (rootR aw) ≠ 0 := by
  have h32 : ∀ s ∈ [repS 1, repS 3, repS 3], s.size = 32 := by
    intro s hs
    simp only [List.mem_cons, List.not_mem_nil, or_false] at hs
    rcases hs with rfl | rfl | rfl <;> exact repS_size _
  have hp : pathR 1 aw = pathR 1 [repS 1, repS 3, repS 3] := by rw [path3]; exact path3 _ _ _
  obtain ⟨_, _, h⟩ := path_okE h32 (m := 1) (leaf := repS 3) (by show 1 < 3; decide) (by show 3 ≤ 4096; decide) rfl
  rw [hp]
  have hs2 := rootR_32E (all32_ofE h32)
  have hs1 := rootR_32E (all32_ofE aw_32)
  show inclS ((3 : Nat) : Int) ((1 : Nat) : Int) (repS 3) (pathR 1 [repS 1, repS 3, repS 3]) (rootR aw) ≠ 0
  have h : inclS ((3 : Nat) : Int) ((1 : Nat) : Int) (repS 3) (pathR 1 [repS 1, repS 3, repS 3]) (rootR [repS 1, repS 3, repS 3]) = 0 := h
  unfold inclS at h ⊢
  by_cases h0 : rootOfE ((3 : Nat) : Int) ((1 : Nat) : Int) (repS 3) (pathR 1 [repS 1, repS 3, repS 3]) ≠ 0
  · rw [if_pos h0] at h ⊢
    exact fun _ => h0 h
  · rw [if_neg h0, if_neg (by rw [hs2]; simp)] at h
    rw [if_neg h0, if_neg (by rw [hs1]; simp)]
    by_cases h9 : rootOfS ((3 : Nat) : Int) ((1 : Nat) : Int) (repS 3) (pathR 1 [repS 1, repS 3, repS 3]) ≠ rootR [repS 1, repS 3, repS 3]
    · rw [if_pos h9] at h
      exact absurd h (by decide)
    · have h8 : rootOfS ((3 : Nat) : Int) ((1 : Nat) : Int) (repS 3) (pathR 1 [repS 1, repS 3, repS 3]) = rootR [repS 1, repS 3, repS 3] := Classical.not_not.mp h9
      rw [if_pos (by rw [h8]; exact aw_ne)]
      decide
theorem aw_cons : proofE aw 2 = 0 ∧ proofT aw 2 = proofR 2 aw true ∧ consS 2 3 (rootR (aw.take 2)) (rootR aw) (proofR 2 aw true) = 0 := proof_okE aw_32 (m := 2) (by decide) (by decide) (by decide)
end Go.Proofs.YtdbghgpohdijfaaGreatDoor
