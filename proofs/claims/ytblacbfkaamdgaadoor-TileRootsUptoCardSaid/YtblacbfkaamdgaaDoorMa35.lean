/- A tree's clone: walked. -/
import Derived.Test.YtblacbfkaamdgaaDoorMa34
namespace Go.Proofs.YtblacbfkaamdgaaDoor
open Go.RowKit Go.Scr Go.ChangeMaps Go.MapKept
set_option linter.unusedVariables false
theorem und_tiles : Tryd.prog.underlying 85 = some (.map 92 47) := by kernel_rfl
theorem exS_push {es : Array MapEntry} {seen : Array Nat} {e : MapEntry} {lv ix : Nat} (he : e ∈ es.toList) (hk : e.key = keyZ (lv : Int) (ix : Int)) (hn : (es.toList.map (·.born)).Nodup) (a b : Nat) :
    exS es (seen.push e.born) a b ↔ exS es seen a b ∨ (a = lv ∧ b = ix) := by
  constructor
  · rintro ⟨e', h1, h2, h3⟩
    rw [contains_push, Bool.or_eq_true] at h3
    rcases h3 with h3 | h3
    · exact .inl ⟨e', h1, h2, h3⟩
    · right
      have e1 := find_born e es.toList hn he
      have e2 := find_born e' es.toList hn h1
      rw [beq_iff_eq.1 h3, e1] at e2
      have : e = e' := Option.some.inj e2
      rw [← this, hk] at h2
      have := keyZ_inj h2
      omega
  · rintro (⟨e', h1, h2, h3⟩ | ⟨rfl, rfl⟩)
    · exact ⟨e', h1, h2, by rw [contains_push, h3, Bool.true_or]⟩
    · exact ⟨e, he, hk, by rw [contains_push, beq_self_eq_true, Bool.or_true]⟩
theorem key_one {l : List MapEntry} (ho : l.Pairwise (fun x y => x.key ≠ y.key)) {x y : MapEntry} (hx : x ∈ l) (hy : y ∈ l) (hk : x.key = y.key) : x = y := by
  induction l with
  | nil => cases hx
  | cons a l ih =>
    obtain ⟨h1, h2⟩ := List.pairwise_cons.1 ho
    rcases List.mem_cons.1 hx with h3 | h3
    · rcases List.mem_cons.1 hy with h4 | h4
      · exact h3.trans h4.symm
      · exact absurd (by rw [← h3]; exact hk) (h1 y h4)
    · rcases List.mem_cons.1 hy with h4 | h4
      · exact absurd (by rw [← h4]; exact hk.symm) (h1 x h3)
      · exact ih h2 h3 h4
theorem exS_new {es : Array MapEntry} {seen : Array Nat} {e : MapEntry} {lv ix : Nat} (he : e ∈ (leftOf es seen).toList) (hk : e.key = keyZ (lv : Int) (ix : Int)) (ho : es.toList.Pairwise (fun x y => x.key ≠ y.key)) : ¬ exS es seen lv ix := by
  rintro ⟨e', h1, h2, h3⟩
  obtain ⟨h4, h5⟩ := mem_left he
  have e1 := key_one ho h1 h4 (h2.trans hk.symm)
  rw [e1, h5] at h3
  cases h3
theorem exS_all {w : World} {tb r h n : Nat} {c : Nat → Nat} {val : Nat → Nat → ByteArray} {ex : Nat → Nat → Prop} {col : Nat → Option (Nat × Nat × Nat)} {G : Nat → Nat → Nat} {V : Nat → Nat → Nat → Value} {es : Array MapEntry} {clk : Nat} (t : TreeJ w tb r h n c val ex col G V es clk) {seen : Array Nat} (hl : (leftOf es seen).size = 0) (lv ix : Nat) : exS es seen lv ix ↔ ex lv ix := by
  constructor
  · rintro ⟨e, h1, h2, _⟩
    obtain ⟨a, b, h3, h4, _⟩ := t.ent e h1
    have := keyZ_inj (h2.symm.trans h4)
    rw [show lv = a by omega, show ix = b by omega]
    exact h3
  · intro hx
    obtain ⟨e, h1, h2⟩ := t.has lv ix hx
    refine ⟨e, h1, h2, ?_⟩
    cases hc : seen.contains e.born with
    | true => rfl
    | false =>
      exfalso
      have h3 : e ∈ leftOf es seen := by
        unfold leftOf
        rw [Array.mem_filter]
        exact ⟨Array.mem_toList_iff.1 h1, by rw [hc]; rfl⟩
      rw [Array.eq_empty_of_size_eq_zero hl] at h3
      simp at h3
set_option maxRecDepth 100000 in
set_option maxHeartbeats 4000000 in
theorem tclone_any {w0 : World} {tb r h n : Nat} {c : Nat → Nat} {val : Nat → Nat → ByteArray} {ex : Nat → Nat → Prop} {col : Nat → Option (Nat × Nat × Nat)} {G : Nat → Nat → Nat} {V : Nat → Nat → Nat → Value} {es : Array MapEntry} {clk : Nat} (t : TreeJ w0 tb r h n c val ex col G V es clk) :
    Calls Tryd.prog 24 #[bpT tb] w0 fun o w' => ∃ nb r2 ex2 col2 G2 V2 es2 clk2, o = .returned (bpT nb) ∧ TreeJ w' nb r2 h n c val ex2 col2 G2 V2 es2 clk2 ∧ (∀ lv ix, ex2 lv ix ↔ ex lv ix) ∧ (∀ g, col2 g ≠ none → w0.heap.size ≤ g) ∧ Below w0.heap.size w0 w' := by
  have HT := Lib.hid t
  have hmk : ∀ w, (Instr.makeMap 85 none).run Tryd.prog w = .ok (.map (some w.heap.size)) (w.alloc (.map #[] 0)) := fun w => rfl
  have HS0 : Hid (w0.drew.cell? ⟨tb, 0, none⟩ = some (.int .i64 (h : Int)) ∧ w0.drew.cell? ⟨tb, 1, none⟩ = some (.int .i64 (n : Int))) := Lib.hid ⟨cellB t.box rfl, cellB t.box rfl⟩
  have HS1 : Hid (∀ o, (w0.drew.alloc o).cell? ⟨tb, 0, none⟩ = some (.int .i64 (h : Int)) ∧ (w0.drew.alloc o).cell? ⟨tb, 1, none⟩ = some (.int .i64 (n : Int))) := Lib.hid (fun o => ⟨cellB (w := w0.drew.alloc o) (blk_alloc t.box) rfl, cellB (w := w0.drew.alloc o) (blk_alloc t.box) rfl⟩)
  have HS2 : Hid (∀ o o2, ((w0.drew.alloc o).alloc o2).cell? ⟨tb, 0, none⟩ = some (.int .i64 (h : Int)) ∧ ((w0.drew.alloc o).alloc o2).cell? ⟨tb, 1, none⟩ = some (.int .i64 (n : Int))) := Lib.hid (fun o o2 => ⟨cellB (w := (w0.drew.alloc o).alloc o2) (blk_alloc (blk_alloc t.box)) rfl, cellB (w := (w0.drew.alloc o).alloc o2) (blk_alloc (blk_alloc t.box)) rfl⟩)
  clear t
  go_enter Tryd.func24, Tryd.ntmps24
  go_upto_region 1 with fail
  go_region_held3 (fun w' => w'.cell? ⟨tb, 0, none⟩ = some (.int .i64 (h : Int)) ∧ w'.cell? ⟨tb, 1, none⟩ = some (.int .i64 (n : Int))) (first | exact HS0.out | exact HS1.out _ | exact HS2.out _ _) (fail)
  obtain ⟨w1, hw1⟩ : ∃ x, x = ((w0.alloc (.map #[] 0)).alloc (.cells #[.int .i64 (h : Int), .int .i64 (n : Int), .map (some w0.heap.size)] 87)).drew := ⟨_, rfl⟩
  rw [← hw1]
  obtain ⟨r2, hr2⟩ : ∃ x, x = w0.heap.size := ⟨_, rfl⟩
  obtain ⟨nb, hnb⟩ : ∃ x, x = w0.heap.size + 1 := ⟨_, rfl⟩
  have HB1 : Hid (Below w0.heap.size w0 w1) := Lib.hid (by rw [hw1]; exact ((((Below.refl _ _).alloc (Nat.le_refl _) _).alloc (by simp) _)).drew)
  have HN1 : Hid (w1.heap[nb]? = some (.cells #[.int .i64 (h : Int), .int .i64 (n : Int), .map (some r2)] 87 (0, 0)) ∧ w1.heap[r2]? = some (.map #[] 0) ∧ w1.heap.size = w0.heap.size + 2) := Lib.hid (by
    rw [hw1, hnb, hr2]
    refine ⟨?_, ?_, by simp⟩
    · have := heap_alloc_new (w0.alloc (.map #[] 0)) (.cells #[.int .i64 (h : Int), .int .i64 (n : Int), .map (some w0.heap.size)] 87)
      rw [show (w0.alloc (.map #[] 0)).heap.size = w0.heap.size + 1 by simp] at this
      exact this
    · exact blk_alloc (w := w0.alloc (.map #[] 0)) (heap_alloc_new w0 _))
  have HEQ : Hid (r2 = w0.heap.size ∧ nb = w0.heap.size + 1) := Lib.hid ⟨hr2, hnb⟩
  rw [← hnb, ← hr2]
  have hmp : w1.cell? ⟨tb, 2, none⟩ = some (.map (some r)) := cellB (HT.out.below HB1.out).box rfl
  have hrg : (Instr.range 85 (.map (some r))).run Tryd.prog w1 = .ok (.pointer (some ⟨w1.heap.size, 0, none⟩)) (w1.alloc (.mapIter (some r) clk #[] clk)) := run_range_map w1 _ _ _ r es clk und_tiles (HT.out.below HB1.out).mp
  obtain ⟨it, hit⟩ : ∃ x, x = w1.heap.size := ⟨_, rfl⟩
  rw [← hit] at hrg
  obtain ⟨w2, hw2⟩ : ∃ x, x = w1.alloc (.mapIter (some r) clk #[] clk) := ⟨_, rfl⟩
  rw [← hw2] at hrg
  have HI0 : Hid (ClI w0 w2 it nb r r2 h n clk es #[] c val) := Lib.hid (by
    have hs := HB1.out.size
    have hn2 : (w1.alloc (.mapIter (some r) clk #[] clk)).heap[nb]? = _ := blk_alloc HN1.out.1
    have hr3 : (w1.alloc (.mapIter (some r) clk #[] clk)).heap[r2]? = _ := blk_alloc HN1.out.2.1
    rw [← hw2] at hn2 hr3
    obtain ⟨col2, t2, hc2⟩ := treeJ_none (val := val) HT.out.mono HT.out.hh hn2 hr3
    refine ⟨by rw [hw2]; exact HB1.out.alloc hs _, ⟨clk, by rw [hw2, hit]; exact heap_alloc_new w1 _, Nat.le_refl _⟩, by rw [hit]; exact hs, _, col2, _, _, _, _, t2, fun lv ix => ⟨False.elim, fun h => ?_⟩, fun g hg => ?_, ?_⟩
    · obtain ⟨e, _, _, h3⟩ := h
      simp at h3
    · rcases hc2 g hg with e | e
      · rw [e, HEQ.out.2]; omega
      · rw [e, HEQ.out.1]; exact Nat.le_refl _
    · cases e : col2 it with
      | none => rfl
      | some x =>
        exfalso
        have := HN1.out.2.2
        have := HEQ.out
        rcases hc2 it (by rw [e]; simp) with h1 | h1 <;> omega)
  have HIT : Hid (w0.heap.size ≤ it) := Lib.hid HI0.out.2.2.1
  clear hw1 hr2 hnb hw2 hit HS0 HS1 HS2 HN1 hmk
  go_wp2_with fail
  go_loopw [24] (fun _ wr => ∃ seen, Hid (ClI w0 wr it nb r r2 h n clk es seen c val)) (fun _ wr => (leftOf es (wr.iterSeen it)).size)
  case atStart => exact ⟨#[], HI0⟩
  case round =>
    clear hmp hrg HI0
    obtain ⟨seen, HI⟩ := hrel
    obtain ⟨c0, hit, hc0⟩ := HI.out.2.1
    rcases run_next_at (P := Tryd.prog) wr 0 it r clk c0 seen es clk hit (HT.out.below HI.out.1).mp HT.out.yng hc0 with ⟨hz, hrun⟩ | ⟨e, he, w3, hw3, hrun⟩
    · have HZ := Lib.hid hz
      clear hz hit hc0
      go_wp2_with fail
      go_ret
      obtain ⟨q1, _, _, ex2, col2, G2, V2, es2, clk2, t2, q2, q3, _⟩ := HI.out
      exact ⟨nb, r2, ex2, col2, G2, V2, es2, clk2, rfl, t2, fun lv ix => (q2 lv ix).trans (exS_all HT.out HZ.out lv ix), q3, q1⟩
    · obtain ⟨hem, hseen⟩ := mem_left he
      obtain ⟨lv, ix, hex, hkey, hval⟩ := HT.out.ent e hem
      have hkk : e.key = .agg #[.int .i64 (lv : Int), .int .i64 (ix : Int)] := hkey
      rw [hkk, hval] at hrun
      obtain ⟨w4, hw4⟩ : ∃ x, x = setBlock w3 it (.mapIter (some r) clk (seen.push e.born) clk) := ⟨_, rfl⟩
      rw [← hw4] at hrun
      have h30 : w3.heap[it]? = some (.mapIter (some r) clk seen c0) := by rcases hw3 with rfl | rfl <;> exact hit
      have hB30 : Below w0.heap.size w0 w3 := hw3.elim (fun e1 => by rw [e1]; exact HI.out.1) (fun e1 => by rw [e1]; exact HI.out.1.drew)
      have hB4 : Below w0.heap.size w0 w4 := by
        rw [hw4]
        refine ⟨hB30.os, hB30.tape, hB30.output, by simpa [setBlock] using hB30.size, fun q hq => ?_⟩
        rw [setB_other _ _ (by have := HIT.out; omega)]
        exact hB30.block q hq
      have h4it : w4.heap[it]? = some (.mapIter (some r) clk (seen.push e.born) clk) := by rw [hw4]; exact setB_same h30 _
      have hent : (Instr.entry (.pointer (some ⟨it, 0, none⟩))).run Tryd.prog w4 = .ok (.tuple #[.agg #[.int .i64 (lv : Int), .int .i64 (ix : Int)], .slice (some ⟨G lv ix, 0, none⟩) h h]) w4 := by
        have := run_entry_at (P := Tryd.prog) w4 it r clk seen es clk e h4it (HT.out.below hB4).mp hem HT.out.nod
        rwa [hkk, hval] at this
      have HCL : Hid (∃ ex2 col2 G2 V2 es2 clk2, TreeJ w4 nb r2 h n c val ex2 col2 G2 V2 es2 clk2 ∧ (∀ lv ix, ex2 lv ix ↔ exS es seen lv ix) ∧ (∀ g, col2 g ≠ none → w0.heap.size ≤ g) ∧ col2 it = none) := Lib.hid (by
        obtain ⟨_, _, _, ex2, col2, G2, V2, es2, clk2, t2, q2, q3, q4⟩ := HI.out
        refine ⟨ex2, col2, G2, V2, es2, clk2, ?_, q2, q3, q4⟩
        have t3 : TreeJ w3 nb r2 h n c val ex2 col2 G2 V2 es2 clk2 := hw3.elim (fun e1 => by rw [e1]; exact t2) (fun e1 => by rw [e1]; exact t2.drewN 1)
        refine t3.keep (fun g hg => ?_) (by rw [hw4]; simp [setBlock])
        rw [hw4]
        exact setB_other _ _ (fun e1 => hg (by rw [e1]; exact q4)))
      have HSEEN : Hid (e ∈ es.toList ∧ e.key = keyZ (lv : Int) (ix : Int) ∧ ¬ exS es seen lv ix ∧ ex lv ix ∧ (leftOf es (seen.push e.born)).size < (leftOf es seen).size) := Lib.hid ⟨hem, hkey, exS_new he hkey HT.out.one, hex, left_shrinks es seen e he⟩
      have HSN : Hid (wr.iterSeen it = seen) := Lib.hid (by unfold World.iterSeen; rw [hit])
      have HB4 := Lib.hid hB4
      have H4IT := Lib.hid h4it
      clear hit hc0 he hem hseen hex hkey hval hkk hw3 hw4 h30 hB30 hB4 h4it
      -- the place's box
      obtain ⟨w5, hw5⟩ : ∃ x, x = w4.alloc (.cells #[.int .i64 (lv : Int), .int .i64 (ix : Int)] 92) := ⟨_, rfl⟩
      go_upto_region 5 with fail
      rw [← hw5]
      obtain ⟨pb, hpb⟩ : ∃ x, x = w4.heap.size := ⟨_, rfl⟩
      have hpx : w5.heap[pb]? = some (.cells #[.int .i64 (lv : Int), .int .i64 (ix : Int)] 92 (0, 0)) := by rw [hw5, hpb]; exact heap_alloc_new w4 _
      have HPB := Lib.hid hpx
      have HB45 : Hid (Below w4.heap.size w4 w5) := Lib.hid (by rw [hw5]; exact (Below.refl _ _).alloc (Nat.le_refl _) _)
      have HB5 : Hid (Below w0.heap.size w0 w5) := Lib.hid (HB4.out.trans (HB45.out.mono HB4.out.size))
      rw [← hpb]
      have hh1 := HT.out.hh.1
      have hh8 := HT.out.hh.2
      have hmk5 : (Instr.makeSlice 47 (.int .i64 (h : Int)) (.int .i64 (h : Int))).run Tryd.prog w5 = .ok (.slice (some ⟨w5.heap.size, 0, none⟩) h h) (w5.alloc (.cells (Array.replicate h (.slice none 0 0)) 33)) := make_rows w5 hh1 hh8
      obtain ⟨go, hgo⟩ : ∃ x, x = w5.heap.size := ⟨_, rfl⟩
      rw [← hgo] at hmk5
      obtain ⟨w6, hw6⟩ : ∃ x, x = w5.alloc (.cells (Array.replicate h (.slice none 0 0)) 33) := ⟨_, rfl⟩
      rw [← hw6] at hmk5
      have HO0 : Hid (∃ U, OwI w5 w6 go h 0 c val lv ix U) := Lib.hid ⟨fun _ => .slice none 0 0, by rw [hw6]; exact (Below.refl _ _).alloc (Nat.le_refl _) _, hgo, by
        rw [hw6, hgo, heap_alloc_new]
        congr 2
        apply Array.ext'
        simp [List.map_const'], fun j hj => absurd hj (Nat.not_lt_zero _), fun j k hj => absurd hj (Nat.not_lt_zero _)⟩
      have HGO : Hid (go = w5.heap.size) := Lib.hid hgo
      clear hw5 hpb hpx hgo hw6 hrun hent
      go_wp2_with fail
      go_loopw [34] (fun k wr2 => ∃ i : Nat, k = .int .i64 (i : Int) ∧ i ≤ h ∧ Hid (∃ U, OwI w5 wr2 go h i c val lv ix U)) (fun k _ => h - (intOf k).toNat)
      case atStart => exact ⟨0, rfl, Nat.zero_le _, HO0⟩
      case round =>
        clear HO0 hmk5
        obtain ⟨i, rfl, hi, HO⟩ := hrel
        by_cases hlt : i < h
        · have hli : (i : Int) < (h : Int) := by omega
          have hi0 : (0 : Int) ≤ (i : Int) := by omega
          have hBr : Below w0.heap.size w0 wr := by obtain ⟨U, H⟩ := HO.out; exact HB5.out.trans (H.b.mono HB5.out.size)
          have hcv : wr.cell? ⟨G lv ix, i, none⟩ = some (V lv ix i) := cellB ((HT.out.below hBr).out lv ix HSEEN.out.2.2.2.1).1 (by simp [hlt])
          have CC : Hid (Calls Tryd.prog 53 #[V lv ix i] wr fun o w' => ∃ p m cc, o = .returned (.slice p m cc) ∧ Hid (∃ U, OwI w5 (w'.setCell ⟨go, i, none⟩ (.slice p m cc)) go h (i + 1) c val lv ix U) ∧ w'.cell? ⟨go, i, none⟩ = some (.slice none 0 0) ∧ w'.frozen? ⟨go, i, none⟩ = false) := Lib.hid (by
            obtain ⟨q1, q2⟩ := (HT.out.below hBr).inn lv ix i HSEEN.out.2.2.2.1 hlt
            have hcnt : cntT c h lv ix i ≤ 4096 := by
              have h1 : cntT c h lv ix i ≤ 2 ^ (h - i) := Nat.min_le_left _ _
              have h2 : 2 ^ (h - i) ≤ 2 ^ 8 := Nat.pow_le_pow_right (by decide) (by omega)
              omega
            refine (cloneB_any q1 hcnt).mono ?_
            rintro o w' ⟨v, rfl, h1, h2, h3⟩
            obtain ⟨U, H⟩ := HO.out
            have hrow := (h3.block go (blk_lt H.row)).trans H.row
            have hc0 : w'.cell? ⟨go, i, none⟩ = some (.slice none 0 0) := cellB hrow (by simp [hlt])
            have hp := H.push hlt h3 h1 h2
            obtain ⟨p, cc, rfl, _⟩ := h1.cells
            exact ⟨p, _, cc, rfl, Lib.hid ⟨_, hp⟩, hc0, frozB hrow⟩)
          obtain ⟨vi, hvi⟩ : ∃ x, x = V lv ix i := ⟨_, rfl⟩
          obtain ⟨gq, hgq⟩ : ∃ x, x = G lv ix := ⟨_, rfl⟩
          rw [← hvi] at hcv CC
          rw [← hgq] at hcv
          rw [← hgq]
          have HLT := Lib.hid hlt
          clear hlt hBr hvi hgq
          go_wp2_with (go_at_call 53; with_reducible refine CC.out.mono ?_; rintro o w7 ⟨p7, m7, c7, rfl, HO7, k7, f7⟩; clear hcv)
          exact ⟨⟨i + 1, by simp, HLT.out, HO7⟩, by show h - ((i : Int) + 1).toNat < h - (i : Int).toNat; have := HLT.out; omega⟩
        · obtain rfl : i = h := by omega
          have hni : ¬ (i : Int) < (i : Int) := by omega
          clear hlt hi
          obtain ⟨U, hU⟩ := HO.out
          obtain ⟨ex2, col2, G2, V2, es2, clk2, t2, q2, q3, q4⟩ := HCL.out
          have t5 := t2.below HB45.out
          have tr := t5.below hU.b
          have hU2 : OwI w5 wr.drew go i i c val lv ix U := ⟨hU.b.drew, hU.g, hU.row, hU.inn, hU.one⟩
          have hfr : ¬ ex2 lv ix := fun h1 => HSEEN.out.2.2.1 ((q2 lv ix).1 h1)
          have hpr : wr.heap[pb]? = some (.cells #[.int .i64 (lv : Int), .int .i64 (ix : Int)] 92 (0, 0)) := blk_below HPB.out hU.b (blk_lt HPB.out)
          have hitr : wr.heap[it]? = some (.mapIter (some r) clk (seen.push e.born) clk) := (hU.b.block it (Nat.lt_of_lt_of_le (blk_lt H4IT.out) HB45.out.size)).trans ((HB45.out.block it (blk_lt H4IT.out)).trans H4IT.out)
          have nit : it ≠ r2 := fun e1 => by have h1 := tr.mp; rw [← e1, hitr] at h1; cases h1
          have npb : pb ≠ r2 := fun e1 => by have h1 := tr.mp; rw [← e1, hpr] at h1; cases h1
          have nnb : nb ≠ r2 := fun e1 => by have h1 := tr.mp; rw [← e1, tr.box] at h1; cases h1
          have hmu : (Instr.mapUpdate 85 (.map (some r2)) (.agg #[.int .i64 (lv : Int), .int .i64 (ix : Int)]) (.slice (some ⟨go, 0, none⟩) i i)).run Tryd.prog wr.drew = .ok () (setBlock wr.drew r2 (.map (es2.push ⟨keyZ lv ix, .slice (some ⟨go, 0, none⟩) i i, clk2⟩) (clk2 + 1))) :=
            update_new (w := wr.drew) tr.mp (tr.fresh (fun a b h1 h2 => hfr (by
              have e1 : lv = a := by omega
              have e2 : ix = b := by omega
              rw [e1, e2]; exact h1)))
          have HSA : Hid (wr.drew.cell? ⟨nb, 2, none⟩ = some (.map (some r2)) ∧ wr.drew.cell? ⟨pb, 0, none⟩ = some (.int .i64 (lv : Int)) ∧ wr.drew.cell? ⟨pb, 1, none⟩ = some (.int .i64 (ix : Int))) := Lib.hid ⟨cellB (w := wr.drew) tr.box rfl, cellB (w := wr.drew) hpr rfl, cellB (w := wr.drew) hpr rfl⟩
          obtain ⟨wn, hwn⟩ : ∃ x, x = setBlock wr.drew r2 (.map (es2.push ⟨keyZ lv ix, .slice (some ⟨go, 0, none⟩) i i, clk2⟩) (clk2 + 1)) := ⟨_, rfl⟩
          rw [← hwn] at hmu
          have HSB : Hid (wn.cell? ⟨nb, 2, none⟩ = some (.map (some r2)) ∧ wn.cell? ⟨pb, 0, none⟩ = some (.int .i64 (lv : Int)) ∧ wn.cell? ⟨pb, 1, none⟩ = some (.int .i64 (ix : Int))) := Lib.hid (by
            rw [hwn]
            exact ⟨cellB ((setB_other wr.drew _ nnb).trans tr.box) rfl, cellB ((setB_other wr.drew _ npb).trans hpr) rfl, cellB ((setB_other wr.drew _ npb).trans hpr) rfl⟩)
          have HNEW : Hid (ClI w0 wn it nb r r2 i n clk es (seen.push e.born) c val ∧ wn.iterSeen it = seen.push e.born) := Lib.hid (by
            have hbl := HB5.out.trans (hU2.b.mono HB5.out.size)
            have hwi : wn.heap[it]? = some (.mapIter (some r) clk (seen.push e.born) clk) := by rw [hwn]; exact (setB_other wr.drew _ nit).trans hitr
            have hfill := OwI.fill t5 hU2 hfr
            rw [← hwn] at hfill
            refine ⟨⟨?_, ⟨clk, hwi, Nat.le_refl _⟩, HIT.out, _, _, _, _, _, _, hfill, fun a b => ?_, ?_, ?_⟩, ?_⟩
            · rw [hwn]
              refine ⟨hbl.os, hbl.tape, hbl.output, by simpa [setBlock] using hbl.size, fun q hq => ?_⟩
              rw [setB_other _ _ (by have := HEQ.out.1; omega)]
              exact hbl.block q hq
            · rw [exS_push HSEEN.out.1 HSEEN.out.2.1 HT.out.nod]
              exact or_congr (q2 a b) Iff.rfl
            · exact colF_lo hU2 HB5.out.size q3
            · rw [colF_old hU2 (Nat.lt_of_lt_of_le (blk_lt H4IT.out) HB45.out.size)]
              exact q4
            · unfold World.iterSeen
              rw [hwi])
          clear hU t2 q2 q3 q4 t5 tr hU2 hfr hpr hitr nit npb nnb hwn
          go_upto_region 11 with fail
          go_region_held3 (fun w' => w'.cell? ⟨nb, 2, none⟩ = some (.map (some r2)) ∧ w'.cell? ⟨pb, 0, none⟩ = some (.int .i64 (lv : Int)) ∧ w'.cell? ⟨pb, 1, none⟩ = some (.int .i64 (ix : Int))) (first | exact HSA.out | exact HSB.out) (fail)
          go_wp2_with fail
          exact ⟨⟨_, Lib.hid HNEW.out.1⟩, by rw [HNEW.out.2, HSN.out]; exact HSEEN.out.2.2.2.2⟩
end Go.Proofs.YtblacbfkaamdgaaDoor
