/- extract.highest: walked. -/
import Derived.Test.YtdbghgpohdijfaaDoorMa55
import Derived.Test.YtdbghgpohdijfaaDoorMa28
import Derived.Test.YtdbghgpohdijfaaDoorMa48
namespace Go.Proofs.YtdbghgpohdijfaaDoor
open Go.RowKit Go.Scr Go.Shelf Go.ChangeMaps Go.MapKept
set_option linter.unusedVariables false
attribute [local go_sem] Oper.semAt_some
theorem below_heap {B : Nat} {w a c : World} (h : Below B w a) (he : c.heap = a.heap) (h1 : c.os = a.os) (h2 : c.tape = a.tape) (h3 : c.output = a.output) : Below B w c :=
  ⟨h1.trans h.os, h2.trans h.tape, h3.trans h.output, by rw [he]; exact h.size, fun i hi => by rw [he]; exact h.block i hi⟩
set_option maxRecDepth 100000 in
set_option maxHeartbeats 4000000 in
theorem highest_any (A B : List ByteArray) (va vb : Value) (w : World) (ha : Held w 9 1 va A.length (A.map Value.string)) (hb : Held w 9 1 vb B.length (B.map Value.string)) (hl : A.length = B.length) (hm : A.length ≤ 1048576) :
    Calls Tryd.prog 60 #[va, vb] w (HighP A B w) := by
  refine CallsIn.calls (F := HF) (n := 3) ?_ (fun k d hd => by cases hd)
  obtain ⟨m, hm0⟩ : ∃ m, m = A.length := ⟨_, rfl⟩
  have HA := Lib.hid ha
  have HB := Lib.hid hb
  obtain ⟨p, c, rfl, hle, _⟩ := ha.cells
  obtain ⟨p2, c2, rfl, hle2, _⟩ := hb.cells
  rw [← hl, ← hm0] at HB hle2
  rw [← hm0] at HA hle hm
  have HM : Hid (m = A.length ∧ A.length = B.length ∧ m ≤ 1048576 ∧ m ≤ c ∧ m ≤ c2) := Lib.hid ⟨hm0, hl, hm, hle, hle2⟩
  rw [show B.length = m by omega, show A.length = m from hm0.symm]
  clear ha hb hl hm hm0 hle hle2
  have CB := Lib.hid (fun w' => backS_any 2 (.slice p m c) p m c rfl w')
  refine callsIn_of_wp_marks Tryd.func60 rfl (hf_in (by decide)) ?_ rfl
  simp only [Tryd.ntmps60, List.size_toArray, List.length_cons, List.length_nil, Nat.reduceAdd, Nat.reduceSub, Array.replicate_succ, Array.replicate_zero, List.push_toArray, List.append_toArray, List.nil_append, List.cons_append]
  have hn1 : 1 ≤ 3 := by decide
  gi_wp2_with (gi_at_call 107; refine (CB.out _).mono ?_; rintro r wx ⟨rfl, hwx⟩; rw [hwx]; clear hwx wx)
  obtain ⟨bo, hbo⟩ : ∃ x, x = w.heap.size := ⟨_, rfl⟩
  obtain ⟨w4, hw4⟩ : ∃ x, x = ((w.alloc (.cells #[.slice p m c] 22)).alloc (.cells #[.slice p2 m c2] 22)).alloc (.cells #[.slice p m c] 22) := ⟨_, rfl⟩
  have hsz : w4.heap.size = bo + 3 := by rw [hw4, hbo]; simp
  have hbel : Below w.heap.size w w4 := by rw [hw4]; exact (((Below.refl _ _).alloc (Nat.le_refl _) _).alloc (by simp) _).alloc (by simp; omega) _
  have r0 : w4.heap[bo]? = some (.cells #[.slice p m c] 22 (0, 0)) := by rw [hw4, hbo]; exact blk_alloc (blk_alloc (heap_alloc_new w _))
  have r1 : w4.heap[bo + 1]? = some (.cells #[.slice p2 m c2] 22 (0, 0)) := by rw [hw4, hbo]; exact blk_alloc (alloc_two w _ _)
  have r2 : w4.heap[bo + 2]? = some (.cells #[.slice p m c] 22 (0, 0)) := by
    have := heap_alloc_new ((w.alloc (.cells #[.slice p m c] 22)).alloc (.cells #[.slice p2 m c2] 22)) (.cells #[.slice p m c] 22)
    rw [hw4, hbo]
    simpa using this
  have hs3 : ((w.alloc (.cells #[.slice p m c] 22)).alloc (.cells #[.slice p2 m c2] 22)).heap.size = bo + 2 := by rw [hbo]; simp
  rw [← hw4]
  have HSZ := Lib.hid hsz
  have HR0 := Lib.hid r0
  have HR1 := Lib.hid r1
  have HR2 := Lib.hid r2
  have HBEL := Lib.hid hbel
  have HBO := Lib.hid hbo
  rw [← hbo, show bo + 1 + 1 = bo + 2 from rfl]
  clear hw4 hsz r0 r1 r2 hbel hbo hs3
  refine wpIn_rangeP (α := Nat × ByteArray) rfl hf_ex hn1 (gf := 129) (lb := #[.pointer (some ⟨bo + 2, 0, none⟩)]) rfl (hf_in (by decide)) (enters_of Tryd.func129 (by kernel_rfl) rfl)
    (encs := fun x => #[.int .i64 (x.1 : Int), .string x.2]) (k := 0) (S := fun xs => xs = backS A.reverse) (Sp := fun pre => pre <+: backS A.reverse) (Ok := fun pre x => (pre ++ [x]) <+: backS A.reverse) (cap := fun i => i = bo + 2 ∨ (Value.slice p m c).ownBlock = some i)
    (fun i hi => by
      rw [HSZ.out]
      rcases hi with h | h
      · omega
      · have := HA.out.lt h
        have := HBO.out
        omega)
    (fun W hb hs => backS_seq 2 (bo + 2) A (.slice p m c) W ⟨(hb.block _ (by rw [HSZ.out]; omega)).trans HR2.out, by have h1 := (HA.out.below HBEL.out).below hb; rw [← HM.out.1]; exact h1⟩ (by have := HM.out; omega)) (fun _ => rfl)
    (fun pre W => (∀ x ∈ pre, B[x.1]? = some x.2) ∧ Below w4.heap.size w4 W)
    (fun _ _ _ => False)
    (fun ch pre W => ∃ (q : List (Nat × ByteArray)) (i : Nat) (a b : ByteArray), pre = q ++ [(i, a)] ∧ (∀ x ∈ q, B[x.1]? = some x.2) ∧ B[i]? = some b ∧ a ≠ b ∧ ch = [{ v := foundV a b, recovered := false }] ∧ Below w4.heap.size w4 W)
    (fun s A C h hc => ⟨h.1, below_chg h.2 hc (fun i hi => hi.1) h.2.size⟩)
    (fun c s A C h hc => h)
    ⟨(fun x hx => nomatch hx), Below.refl _ _⟩ ?round ?done ?stop ?panic
  case round =>
    rintro l pre ⟨i, y⟩ W ⟨hpre, hbl⟩ hsW hlen
    obtain ⟨hy, _⟩ := high_some (B := B) HM.out.2.1 hlen hpre
    have hiA : i < m := by have := (List.getElem?_eq_some_iff.mp hy).1; have := HM.out; omega
    obtain ⟨b, hb⟩ : ∃ b, B[i]? = some b := ⟨B[i]'(by have := HM.out; omega), List.getElem?_eq_getElem _⟩
    have HBL := Lib.hid hbl
    have HP := Lib.hid hpre
    have HIB := Lib.hid hb
    have HIA := Lib.hid hy
    clear hpre hbl hsW hlen hy hb
    gi_wp2
    refine ⟨Kq.refl _ _, ?_⟩
    intro w2 hc hs2
    have hbl2 : Below w4.heap.size w4 w2 := below_chg HBL.out hc (fun i hi => by subst hi; exact Nat.le_succ _) (by have := HBL.out.size; omega)
    have HB2 := Lib.hid hbl2
    obtain ⟨g, rfl, hg⟩ := held_cellP ((HA.out.below HBEL.out).below hbl2) (by omega)
    obtain ⟨g2, rfl, hg2⟩ := held_cellP ((HB.out.below HBEL.out).below hbl2) (by omega)
    have c0 : w2.cell? ⟨g, i, none⟩ = some (.string y) := hg i (.string y) (by rw [List.getElem?_map, HIA.out]; rfl)
    have c1 : w2.cell? ⟨g2, i, none⟩ = some (.string b) := hg2 i (.string b) (by rw [List.getElem?_map, HIB.out]; rfl)
    have q0 : w2.cell? ⟨bo, 0, none⟩ = some (.slice (some ⟨g, 0, none⟩) m c) := cell_of_row _ _ _ _ _ _ ((hbl2.block bo (by rw [HSZ.out]; omega)).trans HR0.out)
    have q1 : w2.cell? ⟨bo + 1, 0, none⟩ = some (.slice (some ⟨g2, 0, none⟩) m c2) := cell_of_row _ _ _ _ _ _ ((hbl2.block (bo + 1) (by rw [HSZ.out]; omega)).trans HR1.out)
    have hi0 : (0 : Int) ≤ (i : Int) := by omega
    have him : (i : Int) < (m : Int) := by omega
    have hw : IntKind.i64.wrap (i : Int) = (i : Int) := IntWalk.i64_in _ (by have := HM.out; omega)
    clear hc hs2 hbl2 hg hg2
    by_cases heq : y = b
    · subst heq
      have hfin : ∀ w9 : World, w9.heap = w2.heap ∧ w9.os = w2.os ∧ w9.tape = w2.tape ∧ w9.output = w2.output → Kq (fun i => (w4.heap.size ≤ i ∧ i < w4.heap.size + 2 + 0) ∨ (i = bo + 2 ∨ (Value.slice (some ⟨g, 0, none⟩) m c).ownBlock = some i)) w2 w9 ∧ (∀ x ∈ pre ++ [(i, y)], B[x.1]? = some x.2) ∧ Below w4.heap.size w4 w9 := by
        intro w9 h9
        refine ⟨⟨by rw [h9.1]; exact Nat.le_refl _, fun j _ _ => by rw [h9.1]⟩, fun x hx => ?_, below_heap HB2.out h9.1 h9.2.1 h9.2.2.1 h9.2.2.2⟩
        rcases List.mem_append.mp hx with h | h
        · exact HP.out x h
        · rw [List.mem_singleton] at h; subst h; exact HIB.out
      have CM := fun w' => meetI_same 0 y w'
      gi_wp2
      refine wpIn_region_round rfl (noDefer_spec (by kernel_rfl)) (by kernel_rfl) ?_
      try (change wpAnyIn _ _ _ _ _ _ _ _ _ (World.drew _))

      refine wpAnyIn_take (i := 1) (v := ?_) rfl rfl (by kernel_rfl) (by kernel_rfl) (by kernel_rfl) (fun _ _ _ h => h) ⟨Or.inl ⟨by rfl, ?_⟩, fun _ => rfl⟩ ?_
      rotate_left
      · ((intro w; go_simp) <;> with_reducible rfl)
      try simp only [Act.put, List.setIfInBounds_toArray, List.set_cons_zero, List.set_cons_succ]
      refine wpAnyIn_take (i := 5) (v := ?_) rfl rfl (by kernel_rfl) (by kernel_rfl) (by kernel_rfl) (fun _ _ _ h => h) ⟨Or.inl ⟨by rfl, ?_⟩, fun _ => rfl⟩ ?_
      rotate_left
      · ((intro w; go_simp) <;> with_reducible rfl)
      try simp only [Act.put, List.setIfInBounds_toArray, List.set_cons_zero, List.set_cons_succ]
      refine wpAnyIn_ready (rs := [0, 4]) (by kernel_rfl) (by simp) ?_
      refine AllReadyIn.cons rfl (fun K hK => ?_) ?_
      · go_simp
        refine hK _ _ ?_
        clear hK K
        try simp only [Act.put, List.setIfInBounds_toArray, List.set_cons_zero, List.set_cons_succ]
        refine wpAnyIn_take (i := 2) (v := ?_) rfl rfl (by kernel_rfl) (by kernel_rfl) (by kernel_rfl) (fun _ _ _ h => h) ⟨Or.inl ⟨by rfl, ?_⟩, fun _ => rfl⟩ ?_
        rotate_left
        · ((intro w; go_simp) <;> with_reducible rfl)
        try simp only [Act.put, List.setIfInBounds_toArray, List.set_cons_zero, List.set_cons_succ]
        refine wpAnyIn_ready (rs := [3, 4]) (by kernel_rfl) (by simp) ?_
        refine AllReadyIn.cons rfl (fun K hK => ?_) ?_
        · go_simp
          refine hK _ _ ?_
          clear hK K
          try simp only [Act.put, List.setIfInBounds_toArray, List.set_cons_zero, List.set_cons_succ]
          refine wpAnyIn_ready (rs := [4]) (by kernel_rfl) (by simp) ?_
          refine AllReadyIn.cons rfl (fun K hK => ?_) ?_
          · go_simp
            refine hK _ _ ?_
            clear hK K
            try simp only [Act.put, List.setIfInBounds_toArray, List.set_cons_zero, List.set_cons_succ]
            refine wpAnyIn_take (i := 6) (v := ?_) rfl rfl (by kernel_rfl) (by kernel_rfl) (by kernel_rfl) (fun _ _ _ h => h) ⟨Or.inl ⟨by rfl, ?_⟩, fun _ => rfl⟩ ?_
            rotate_left
            · ((intro w; go_simp) <;> with_reducible rfl)
            try simp only [Act.put, List.setIfInBounds_toArray, List.set_cons_zero, List.set_cons_succ]
            refine wpAnyIn_ready (rs := [7]) (by kernel_rfl) (by simp) ?_
            refine AllReadyIn.cons rfl (fun K hK => ?_) ?_
            · go_simp
              refine hK _ _ ?_
              clear hK K
              try simp only [Act.put, List.setIfInBounds_toArray, List.set_cons_zero, List.set_cons_succ]
              refine wpAnyIn_ready (rs := [8]) (by kernel_rfl) (by simp) ?_
              refine AllReadyIn.cons rfl (fun K hK => ?_) ?_
              rotate_left
              · exact AllReadyIn.nil
              go_simp
              refine (CM _).mono ?_
              rintro e w9 ⟨rfl, rfl⟩
              refine hK _ _ ?_
              clear hK K
              refine wpAnyIn_done (by kernel_rfl) ?_ _
              exact hfin _ ⟨rfl, rfl, rfl, rfl⟩
            exact AllReadyIn.nil
          exact AllReadyIn.nil
        refine AllReadyIn.cons rfl (fun K hK => ?_) ?_
        · go_simp
          refine hK _ _ ?_
          clear hK K
          try simp only [Act.put, List.setIfInBounds_toArray, List.set_cons_zero, List.set_cons_succ]
          refine wpAnyIn_take (i := 6) (v := ?_) rfl rfl (by kernel_rfl) (by kernel_rfl) (by kernel_rfl) (fun _ _ _ h => h) ⟨Or.inl ⟨by rfl, ?_⟩, fun _ => rfl⟩ ?_
          rotate_left
          · ((intro w; go_simp) <;> with_reducible rfl)
          try simp only [Act.put, List.setIfInBounds_toArray, List.set_cons_zero, List.set_cons_succ]
          refine wpAnyIn_ready (rs := [3, 7]) (by kernel_rfl) (by simp) ?_
          refine AllReadyIn.cons rfl (fun K hK => ?_) ?_
          · go_simp
            refine hK _ _ ?_
            clear hK K
            try simp only [Act.put, List.setIfInBounds_toArray, List.set_cons_zero, List.set_cons_succ]
            refine wpAnyIn_ready (rs := [7]) (by kernel_rfl) (by simp) ?_
            refine AllReadyIn.cons rfl (fun K hK => ?_) ?_
            · go_simp
              refine hK _ _ ?_
              clear hK K
              try simp only [Act.put, List.setIfInBounds_toArray, List.set_cons_zero, List.set_cons_succ]
              refine wpAnyIn_ready (rs := [8]) (by kernel_rfl) (by simp) ?_
              refine AllReadyIn.cons rfl (fun K hK => ?_) ?_
              rotate_left
              · exact AllReadyIn.nil
              go_simp
              refine (CM _).mono ?_
              rintro e w9 ⟨rfl, rfl⟩
              refine hK _ _ ?_
              clear hK K
              refine wpAnyIn_done (by kernel_rfl) ?_ _
              exact hfin _ ⟨rfl, rfl, rfl, rfl⟩
            exact AllReadyIn.nil
          refine AllReadyIn.cons rfl (fun K hK => ?_) ?_
          · go_simp
            refine hK _ _ ?_
            clear hK K
            try simp only [Act.put, List.setIfInBounds_toArray, List.set_cons_zero, List.set_cons_succ]
            refine wpAnyIn_ready (rs := [3]) (by kernel_rfl) (by simp) ?_
            refine AllReadyIn.cons rfl (fun K hK => ?_) ?_
            · go_simp
              refine hK _ _ ?_
              clear hK K
              try simp only [Act.put, List.setIfInBounds_toArray, List.set_cons_zero, List.set_cons_succ]
              refine wpAnyIn_ready (rs := [8]) (by kernel_rfl) (by simp) ?_
              refine AllReadyIn.cons rfl (fun K hK => ?_) ?_
              rotate_left
              · exact AllReadyIn.nil
              go_simp
              refine (CM _).mono ?_
              rintro e w9 ⟨rfl, rfl⟩
              refine hK _ _ ?_
              clear hK K
              refine wpAnyIn_done (by kernel_rfl) ?_ _
              exact hfin _ ⟨rfl, rfl, rfl, rfl⟩
            exact AllReadyIn.nil
          exact AllReadyIn.nil
        exact AllReadyIn.nil
      refine AllReadyIn.cons rfl (fun K hK => ?_) ?_
      · go_simp
        refine hK _ _ ?_
        clear hK K
        try simp only [Act.put, List.setIfInBounds_toArray, List.set_cons_zero, List.set_cons_succ]
        refine wpAnyIn_take (i := 6) (v := ?_) rfl rfl (by kernel_rfl) (by kernel_rfl) (by kernel_rfl) (fun _ _ _ h => h) ⟨Or.inl ⟨by rfl, ?_⟩, fun _ => rfl⟩ ?_
        rotate_left
        · ((intro w; go_simp) <;> with_reducible rfl)
        try simp only [Act.put, List.setIfInBounds_toArray, List.set_cons_zero, List.set_cons_succ]
        refine wpAnyIn_ready (rs := [0, 7]) (by kernel_rfl) (by simp) ?_
        refine AllReadyIn.cons rfl (fun K hK => ?_) ?_
        · go_simp
          refine hK _ _ ?_
          clear hK K
          try simp only [Act.put, List.setIfInBounds_toArray, List.set_cons_zero, List.set_cons_succ]
          refine wpAnyIn_take (i := 2) (v := ?_) rfl rfl (by kernel_rfl) (by kernel_rfl) (by kernel_rfl) (fun _ _ _ h => h) ⟨Or.inl ⟨by rfl, ?_⟩, fun _ => rfl⟩ ?_
          rotate_left
          · ((intro w; go_simp) <;> with_reducible rfl)
          try simp only [Act.put, List.setIfInBounds_toArray, List.set_cons_zero, List.set_cons_succ]
          refine wpAnyIn_ready (rs := [3, 7]) (by kernel_rfl) (by simp) ?_
          refine AllReadyIn.cons rfl (fun K hK => ?_) ?_
          · go_simp
            refine hK _ _ ?_
            clear hK K
            try simp only [Act.put, List.setIfInBounds_toArray, List.set_cons_zero, List.set_cons_succ]
            refine wpAnyIn_ready (rs := [7]) (by kernel_rfl) (by simp) ?_
            refine AllReadyIn.cons rfl (fun K hK => ?_) ?_
            · go_simp
              refine hK _ _ ?_
              clear hK K
              try simp only [Act.put, List.setIfInBounds_toArray, List.set_cons_zero, List.set_cons_succ]
              refine wpAnyIn_ready (rs := [8]) (by kernel_rfl) (by simp) ?_
              refine AllReadyIn.cons rfl (fun K hK => ?_) ?_
              rotate_left
              · exact AllReadyIn.nil
              go_simp
              refine (CM _).mono ?_
              rintro e w9 ⟨rfl, rfl⟩
              refine hK _ _ ?_
              clear hK K
              refine wpAnyIn_done (by kernel_rfl) ?_ _
              exact hfin _ ⟨rfl, rfl, rfl, rfl⟩
            exact AllReadyIn.nil
          refine AllReadyIn.cons rfl (fun K hK => ?_) ?_
          · go_simp
            refine hK _ _ ?_
            clear hK K
            try simp only [Act.put, List.setIfInBounds_toArray, List.set_cons_zero, List.set_cons_succ]
            refine wpAnyIn_ready (rs := [3]) (by kernel_rfl) (by simp) ?_
            refine AllReadyIn.cons rfl (fun K hK => ?_) ?_
            · go_simp
              refine hK _ _ ?_
              clear hK K
              try simp only [Act.put, List.setIfInBounds_toArray, List.set_cons_zero, List.set_cons_succ]
              refine wpAnyIn_ready (rs := [8]) (by kernel_rfl) (by simp) ?_
              refine AllReadyIn.cons rfl (fun K hK => ?_) ?_
              rotate_left
              · exact AllReadyIn.nil
              go_simp
              refine (CM _).mono ?_
              rintro e w9 ⟨rfl, rfl⟩
              refine hK _ _ ?_
              clear hK K
              refine wpAnyIn_done (by kernel_rfl) ?_ _
              exact hfin _ ⟨rfl, rfl, rfl, rfl⟩
            exact AllReadyIn.nil
          exact AllReadyIn.nil
        refine AllReadyIn.cons rfl (fun K hK => ?_) ?_
        · go_simp
          refine hK _ _ ?_
          clear hK K
          try simp only [Act.put, List.setIfInBounds_toArray, List.set_cons_zero, List.set_cons_succ]
          refine wpAnyIn_ready (rs := [0]) (by kernel_rfl) (by simp) ?_
          refine AllReadyIn.cons rfl (fun K hK => ?_) ?_
          · go_simp
            refine hK _ _ ?_
            clear hK K
            try simp only [Act.put, List.setIfInBounds_toArray, List.set_cons_zero, List.set_cons_succ]
            refine wpAnyIn_take (i := 2) (v := ?_) rfl rfl (by kernel_rfl) (by kernel_rfl) (by kernel_rfl) (fun _ _ _ h => h) ⟨Or.inl ⟨by rfl, ?_⟩, fun _ => rfl⟩ ?_
            rotate_left
            · ((intro w; go_simp) <;> with_reducible rfl)
            try simp only [Act.put, List.setIfInBounds_toArray, List.set_cons_zero, List.set_cons_succ]
            refine wpAnyIn_ready (rs := [3]) (by kernel_rfl) (by simp) ?_
            refine AllReadyIn.cons rfl (fun K hK => ?_) ?_
            · go_simp
              refine hK _ _ ?_
              clear hK K
              try simp only [Act.put, List.setIfInBounds_toArray, List.set_cons_zero, List.set_cons_succ]
              refine wpAnyIn_ready (rs := [8]) (by kernel_rfl) (by simp) ?_
              refine AllReadyIn.cons rfl (fun K hK => ?_) ?_
              rotate_left
              · exact AllReadyIn.nil
              go_simp
              refine (CM _).mono ?_
              rintro e w9 ⟨rfl, rfl⟩
              refine hK _ _ ?_
              clear hK K
              refine wpAnyIn_done (by kernel_rfl) ?_ _
              exact hfin _ ⟨rfl, rfl, rfl, rfl⟩
            exact AllReadyIn.nil
          exact AllReadyIn.nil
        exact AllReadyIn.nil
      exact AllReadyIn.nil
    · have hfin : ∀ w9 : World, w9.heap = w2.heap ∧ w9.os = w2.os ∧ w9.tape = w2.tape ∧ w9.output = w2.output → Kq (fun i => (w4.heap.size ≤ i ∧ i < w4.heap.size + 2 + 0) ∨ (i = bo + 2 ∨ (Value.slice (some ⟨g, 0, none⟩) m c).ownBlock = some i)) w2 w9 ∧ ∃ (q : List (Nat × ByteArray)) (i' : Nat) (a' b' : ByteArray), pre ++ [(i, y)] = q ++ [(i', a')] ∧ (∀ x ∈ q, B[x.1]? = some x.2) ∧ B[i']? = some b' ∧ a' ≠ b' ∧ ([{ v := foundV y b, recovered := false }] : List PanicEntry) = [{ v := foundV a' b', recovered := false }] ∧ Below w4.heap.size w4 w9 := by
        intro w9 h9
        exact ⟨⟨by rw [h9.1]; exact Nat.le_refl _, fun j _ _ => by rw [h9.1]⟩, pre, i, y, b, rfl, HP.out, HIB.out, heq, rfl, below_heap HB2.out h9.1 h9.2.1 h9.2.2.1 h9.2.2.2⟩
      have CM := fun w' => meetI_no 0 y b w' heq
      gi_wp2
      refine wpIn_region_round rfl (noDefer_spec (by kernel_rfl)) (by kernel_rfl) ?_
      try (change wpAnyIn _ _ _ _ _ _ _ _ _ (World.drew _))
      refine wpAnyIn_take (i := 1) (v := ?_) rfl rfl (by kernel_rfl) (by kernel_rfl) (by kernel_rfl) (fun _ _ _ h => h) ⟨Or.inl ⟨by rfl, ?_⟩, fun _ => rfl⟩ ?_
      rotate_left
      · ((intro w; go_simp) <;> with_reducible rfl)
      try simp only [Act.put, List.setIfInBounds_toArray, List.set_cons_zero, List.set_cons_succ]
      refine wpAnyIn_take (i := 5) (v := ?_) rfl rfl (by kernel_rfl) (by kernel_rfl) (by kernel_rfl) (fun _ _ _ h => h) ⟨Or.inl ⟨by rfl, ?_⟩, fun _ => rfl⟩ ?_
      rotate_left
      · ((intro w; go_simp) <;> with_reducible rfl)
      try simp only [Act.put, List.setIfInBounds_toArray, List.set_cons_zero, List.set_cons_succ]
      refine wpAnyIn_ready (rs := [0, 4]) (by kernel_rfl) (by simp) ?_
      refine AllReadyIn.cons rfl (fun K hK => ?_) ?_
      · go_simp
        refine hK _ _ ?_
        clear hK K
        try simp only [Act.put, List.setIfInBounds_toArray, List.set_cons_zero, List.set_cons_succ]
        refine wpAnyIn_take (i := 2) (v := ?_) rfl rfl (by kernel_rfl) (by kernel_rfl) (by kernel_rfl) (fun _ _ _ h => h) ⟨Or.inl ⟨by rfl, ?_⟩, fun _ => rfl⟩ ?_
        rotate_left
        · ((intro w; go_simp) <;> with_reducible rfl)
        try simp only [Act.put, List.setIfInBounds_toArray, List.set_cons_zero, List.set_cons_succ]
        refine wpAnyIn_ready (rs := [3, 4]) (by kernel_rfl) (by simp) ?_
        refine AllReadyIn.cons rfl (fun K hK => ?_) ?_
        · go_simp
          refine hK _ _ ?_
          clear hK K
          try simp only [Act.put, List.setIfInBounds_toArray, List.set_cons_zero, List.set_cons_succ]
          refine wpAnyIn_ready (rs := [4]) (by kernel_rfl) (by simp) ?_
          refine AllReadyIn.cons rfl (fun K hK => ?_) ?_
          · go_simp
            refine hK _ _ ?_
            clear hK K
            try simp only [Act.put, List.setIfInBounds_toArray, List.set_cons_zero, List.set_cons_succ]
            refine wpAnyIn_take (i := 6) (v := ?_) rfl rfl (by kernel_rfl) (by kernel_rfl) (by kernel_rfl) (fun _ _ _ h => h) ⟨Or.inl ⟨by rfl, ?_⟩, fun _ => rfl⟩ ?_
            rotate_left
            · ((intro w; go_simp) <;> with_reducible rfl)
            try simp only [Act.put, List.setIfInBounds_toArray, List.set_cons_zero, List.set_cons_succ]
            refine wpAnyIn_ready (rs := [7]) (by kernel_rfl) (by simp) ?_
            refine AllReadyIn.cons rfl (fun K hK => ?_) ?_
            · go_simp
              refine hK _ _ ?_
              clear hK K
              try simp only [Act.put, List.setIfInBounds_toArray, List.set_cons_zero, List.set_cons_succ]
              refine wpAnyIn_ready (rs := [8]) (by kernel_rfl) (by simp) ?_
              refine AllReadyIn.cons rfl (fun K hK => ?_) ?_
              rotate_left
              · exact AllReadyIn.nil
              go_simp
              refine (CM _).mono ?_
              rintro e w9 ⟨rfl, rfl⟩
              exact ⟨rfl, hfin _ ⟨rfl, rfl, rfl, rfl⟩⟩
            exact AllReadyIn.nil
          exact AllReadyIn.nil
        refine AllReadyIn.cons rfl (fun K hK => ?_) ?_
        · go_simp
          refine hK _ _ ?_
          clear hK K
          try simp only [Act.put, List.setIfInBounds_toArray, List.set_cons_zero, List.set_cons_succ]
          refine wpAnyIn_take (i := 6) (v := ?_) rfl rfl (by kernel_rfl) (by kernel_rfl) (by kernel_rfl) (fun _ _ _ h => h) ⟨Or.inl ⟨by rfl, ?_⟩, fun _ => rfl⟩ ?_
          rotate_left
          · ((intro w; go_simp) <;> with_reducible rfl)
          try simp only [Act.put, List.setIfInBounds_toArray, List.set_cons_zero, List.set_cons_succ]
          refine wpAnyIn_ready (rs := [3, 7]) (by kernel_rfl) (by simp) ?_
          refine AllReadyIn.cons rfl (fun K hK => ?_) ?_
          · go_simp
            refine hK _ _ ?_
            clear hK K
            try simp only [Act.put, List.setIfInBounds_toArray, List.set_cons_zero, List.set_cons_succ]
            refine wpAnyIn_ready (rs := [7]) (by kernel_rfl) (by simp) ?_
            refine AllReadyIn.cons rfl (fun K hK => ?_) ?_
            · go_simp
              refine hK _ _ ?_
              clear hK K
              try simp only [Act.put, List.setIfInBounds_toArray, List.set_cons_zero, List.set_cons_succ]
              refine wpAnyIn_ready (rs := [8]) (by kernel_rfl) (by simp) ?_
              refine AllReadyIn.cons rfl (fun K hK => ?_) ?_
              rotate_left
              · exact AllReadyIn.nil
              go_simp
              refine (CM _).mono ?_
              rintro e w9 ⟨rfl, rfl⟩
              exact ⟨rfl, hfin _ ⟨rfl, rfl, rfl, rfl⟩⟩
            exact AllReadyIn.nil
          refine AllReadyIn.cons rfl (fun K hK => ?_) ?_
          · go_simp
            refine hK _ _ ?_
            clear hK K
            try simp only [Act.put, List.setIfInBounds_toArray, List.set_cons_zero, List.set_cons_succ]
            refine wpAnyIn_ready (rs := [3]) (by kernel_rfl) (by simp) ?_
            refine AllReadyIn.cons rfl (fun K hK => ?_) ?_
            · go_simp
              refine hK _ _ ?_
              clear hK K
              try simp only [Act.put, List.setIfInBounds_toArray, List.set_cons_zero, List.set_cons_succ]
              refine wpAnyIn_ready (rs := [8]) (by kernel_rfl) (by simp) ?_
              refine AllReadyIn.cons rfl (fun K hK => ?_) ?_
              rotate_left
              · exact AllReadyIn.nil
              go_simp
              refine (CM _).mono ?_
              rintro e w9 ⟨rfl, rfl⟩
              exact ⟨rfl, hfin _ ⟨rfl, rfl, rfl, rfl⟩⟩
            exact AllReadyIn.nil
          exact AllReadyIn.nil
        exact AllReadyIn.nil
      refine AllReadyIn.cons rfl (fun K hK => ?_) ?_
      · go_simp
        refine hK _ _ ?_
        clear hK K
        try simp only [Act.put, List.setIfInBounds_toArray, List.set_cons_zero, List.set_cons_succ]
        refine wpAnyIn_take (i := 6) (v := ?_) rfl rfl (by kernel_rfl) (by kernel_rfl) (by kernel_rfl) (fun _ _ _ h => h) ⟨Or.inl ⟨by rfl, ?_⟩, fun _ => rfl⟩ ?_
        rotate_left
        · ((intro w; go_simp) <;> with_reducible rfl)
        try simp only [Act.put, List.setIfInBounds_toArray, List.set_cons_zero, List.set_cons_succ]
        refine wpAnyIn_ready (rs := [0, 7]) (by kernel_rfl) (by simp) ?_
        refine AllReadyIn.cons rfl (fun K hK => ?_) ?_
        · go_simp
          refine hK _ _ ?_
          clear hK K
          try simp only [Act.put, List.setIfInBounds_toArray, List.set_cons_zero, List.set_cons_succ]
          refine wpAnyIn_take (i := 2) (v := ?_) rfl rfl (by kernel_rfl) (by kernel_rfl) (by kernel_rfl) (fun _ _ _ h => h) ⟨Or.inl ⟨by rfl, ?_⟩, fun _ => rfl⟩ ?_
          rotate_left
          · ((intro w; go_simp) <;> with_reducible rfl)
          try simp only [Act.put, List.setIfInBounds_toArray, List.set_cons_zero, List.set_cons_succ]
          refine wpAnyIn_ready (rs := [3, 7]) (by kernel_rfl) (by simp) ?_
          refine AllReadyIn.cons rfl (fun K hK => ?_) ?_
          · go_simp
            refine hK _ _ ?_
            clear hK K
            try simp only [Act.put, List.setIfInBounds_toArray, List.set_cons_zero, List.set_cons_succ]
            refine wpAnyIn_ready (rs := [7]) (by kernel_rfl) (by simp) ?_
            refine AllReadyIn.cons rfl (fun K hK => ?_) ?_
            · go_simp
              refine hK _ _ ?_
              clear hK K
              try simp only [Act.put, List.setIfInBounds_toArray, List.set_cons_zero, List.set_cons_succ]
              refine wpAnyIn_ready (rs := [8]) (by kernel_rfl) (by simp) ?_
              refine AllReadyIn.cons rfl (fun K hK => ?_) ?_
              rotate_left
              · exact AllReadyIn.nil
              go_simp
              refine (CM _).mono ?_
              rintro e w9 ⟨rfl, rfl⟩
              exact ⟨rfl, hfin _ ⟨rfl, rfl, rfl, rfl⟩⟩
            exact AllReadyIn.nil
          refine AllReadyIn.cons rfl (fun K hK => ?_) ?_
          · go_simp
            refine hK _ _ ?_
            clear hK K
            try simp only [Act.put, List.setIfInBounds_toArray, List.set_cons_zero, List.set_cons_succ]
            refine wpAnyIn_ready (rs := [3]) (by kernel_rfl) (by simp) ?_
            refine AllReadyIn.cons rfl (fun K hK => ?_) ?_
            · go_simp
              refine hK _ _ ?_
              clear hK K
              try simp only [Act.put, List.setIfInBounds_toArray, List.set_cons_zero, List.set_cons_succ]
              refine wpAnyIn_ready (rs := [8]) (by kernel_rfl) (by simp) ?_
              refine AllReadyIn.cons rfl (fun K hK => ?_) ?_
              rotate_left
              · exact AllReadyIn.nil
              go_simp
              refine (CM _).mono ?_
              rintro e w9 ⟨rfl, rfl⟩
              exact ⟨rfl, hfin _ ⟨rfl, rfl, rfl, rfl⟩⟩
            exact AllReadyIn.nil
          exact AllReadyIn.nil
        refine AllReadyIn.cons rfl (fun K hK => ?_) ?_
        · go_simp
          refine hK _ _ ?_
          clear hK K
          try simp only [Act.put, List.setIfInBounds_toArray, List.set_cons_zero, List.set_cons_succ]
          refine wpAnyIn_ready (rs := [0]) (by kernel_rfl) (by simp) ?_
          refine AllReadyIn.cons rfl (fun K hK => ?_) ?_
          · go_simp
            refine hK _ _ ?_
            clear hK K
            try simp only [Act.put, List.setIfInBounds_toArray, List.set_cons_zero, List.set_cons_succ]
            refine wpAnyIn_take (i := 2) (v := ?_) rfl rfl (by kernel_rfl) (by kernel_rfl) (by kernel_rfl) (fun _ _ _ h => h) ⟨Or.inl ⟨by rfl, ?_⟩, fun _ => rfl⟩ ?_
            rotate_left
            · ((intro w; go_simp) <;> with_reducible rfl)
            try simp only [Act.put, List.setIfInBounds_toArray, List.set_cons_zero, List.set_cons_succ]
            refine wpAnyIn_ready (rs := [3]) (by kernel_rfl) (by simp) ?_
            refine AllReadyIn.cons rfl (fun K hK => ?_) ?_
            · go_simp
              refine hK _ _ ?_
              clear hK K
              try simp only [Act.put, List.setIfInBounds_toArray, List.set_cons_zero, List.set_cons_succ]
              refine wpAnyIn_ready (rs := [8]) (by kernel_rfl) (by simp) ?_
              refine AllReadyIn.cons rfl (fun K hK => ?_) ?_
              rotate_left
              · exact AllReadyIn.nil
              go_simp
              refine (CM _).mono ?_
              rintro e w9 ⟨rfl, rfl⟩
              exact ⟨rfl, hfin _ ⟨rfl, rfl, rfl, rfl⟩⟩
            exact AllReadyIn.nil
          exact AllReadyIn.nil
        exact AllReadyIn.nil
      exact AllReadyIn.nil
  case done =>
    rintro D xs W rfl rfl ⟨hpre, hbl⟩ hK
    have hAB := high_all HM.out.2.1 rfl hpre
    have HAB := Lib.hid hAB
    have HBL := Lib.hid hbl
    have HKK := Lib.hid hK
    clear hpre hbl hK hAB
    gi_wp2
    refine ⟨by simp, .inl ⟨_, _, rfl, run_takeDeferred HKK.out, ?_⟩⟩
    refine ⟨.tuple #[], ?_, .inl ⟨rfl, HAB.out, ?_⟩⟩
    · simp [results, Tryd.f60, go_sem]
    · exact below_chg (HBEL.out.trans (HBL.out.mono HBEL.out.size)) (Chg.put (fun i => i = w4.heap.size) _ (.deferred none) rfl) (fun i hi => by have := HBEL.out.size; omega) (HBEL.out.trans (HBL.out.mono HBEL.out.size)).size
  case stop =>
    rintro D c pre W rfl hpre h hK
    exact h.elim
  case panic =>
    rintro D ch pre W rfl hpre ⟨q, i, a, b, rfl, hq, hb, hne, rfl, hbl⟩ hK
    obtain ⟨h1, h2⟩ := high_some HM.out.2.1 hpre hq
    refine ⟨by simp, .inl ⟨_, _, rfl, run_takeDeferred hK, ?_⟩⟩
    refine .inr ⟨i, a, b, rfl, h1, hb, hne, h2, ?_⟩
    exact below_chg (HBEL.out.trans (hbl.mono HBEL.out.size)) (Chg.put (fun i => i = w4.heap.size) _ (.deferred none) rfl) (fun i hi => by have := HBEL.out.size; omega) (HBEL.out.trans (hbl.mono HBEL.out.size)).size
end Go.Proofs.YtdbghgpohdijfaaDoor
/- extract: the texts of two ways up: plain. -/
namespace Go.Scr
set_option linter.unusedVariables false
/-- a step up -/
def nextC (a l : Nat) : Nat × Nat := if isLeft a l then ((skipUp a l).1 / 2, (skipUp a l).2 / 2) else (a / 2, l / 2)
/-- the flags of as many steps as are asked -/
def flagsC : Nat → Nat → Nat → List Bool
  | _, _, 0 => []
  | a, l, k + 1 => isLeft a l :: flagsC (nextC a l).1 (nextC a l).2 k
theorem flagsC_len : ∀ (k a l : Nat), (flagsC a l k).length = k
  | 0, _, _ => rfl
  | k + 1, a, l => by rw [flagsC, List.length_cons, flagsC_len k]
theorem flagsC_step : ∀ (k a l : Nat), k ≤ (stepL a l).length → flagsC a l k = (stepL a l).take k
  | 0, _, _, _ => rfl
  | k + 1, a, l, h => by
    rw [stepL] at h ⊢
    split at h
    · simp at h
    · rename_i hl
      rw [dif_neg hl] 
      rw [List.length_cons] at h
      rw [flagsC, List.take_succ_cons]
      unfold nextC
      by_cases hi : isLeft a l = true
      · rw [if_pos hi] at h ⊢
        rw [flagsC_step k _ _ (Nat.le_of_succ_le_succ h), if_pos hi]
      · rw [if_neg hi] at h ⊢
        rw [flagsC_step k _ _ (Nat.le_of_succ_le_succ h), if_neg hi]
theorem flagsC_all {a l : Nat} {k : Nat} (h : (stepL a l).length = k) : flagsC a l k = stepL a l := by
  rw [flagsC_step k a l (by omega), List.take_of_length_le (by omega)]
/-- the place behind k steps -/
def atC : Nat → Nat → Nat → Nat × Nat
  | a, l, 0 => (a, l)
  | a, l, k + 1 => nextC (atC a l k).1 (atC a l k).2
theorem atC_front : ∀ (k a l : Nat), atC (nextC a l).1 (nextC a l).2 k = atC a l (k + 1)
  | 0, _, _ => rfl
  | k + 1, a, l => by
    rw [atC, atC_front k a l]
    rfl
theorem flagsC_snoc : ∀ (k a l : Nat), flagsC a l (k + 1) = flagsC a l k ++ [isLeft (atC a l k).1 (atC a l k).2]
  | 0, _, _ => rfl
  | k + 1, a, l => by
    rw [flagsC, flagsC_snoc k, flagsC, atC_front]
    rfl
theorem nextC_le (a l : Nat) : (nextC a l).1 ≤ a ∧ (nextC a l).2 ≤ l := by
  unfold nextC
  have := skipUp_le a l
  split <;> constructor <;> (show _ / 2 ≤ _; omega)
theorem atC_le (a l : Nat) : ∀ k, (atC a l k).1 ≤ a ∧ (atC a l k).2 ≤ l
  | 0 => ⟨Nat.le_refl _, Nat.le_refl _⟩
  | k + 1 => by
    have h1 := atC_le a l k
    have h2 := nextC_le (atC a l k).1 (atC a l k).2
    exact ⟨Nat.le_trans h2.1 h1.1, Nat.le_trans h2.2 h1.2⟩
end Go.Scr
namespace Go.Proofs.YtdbghgpohdijfaaDoor
open Go.RowKit Go.Scr
set_option linter.unusedVariables false
/-- a step's text -/
def stT (f : Bool) (p r : ByteArray) : ByteArray := if f then txtS p r else txtS r p
/-- the texts of a way up, from below -/
def textsF : List (Bool × ByteArray) → ByteArray → List ByteArray
  | (f, p) :: s, r => stT f p r :: textsF s (shaS (stT f p r))
  | [], _ => []
/-- what is reached -/
def endF : List (Bool × ByteArray) → ByteArray → ByteArray
  | (f, p) :: s, r => endF s (shaS (stT f p r))
  | [], r => r
theorem textsF_snoc (f : Bool) (p : ByteArray) : ∀ (s : List (Bool × ByteArray)) (r : ByteArray), textsF (s ++ [(f, p)]) r = textsF s r ++ [stT f p (endF s r)] ∧ endF (s ++ [(f, p)]) r = shaS (stT f p (endF s r))
  | [], r => ⟨rfl, rfl⟩
  | (g, q) :: s, r => by
    obtain ⟨h1, h2⟩ := textsF_snoc f p s (shaS (stT g q r))
    exact ⟨by rw [List.cons_append, textsF, h1, textsF, endF]; rfl, by rw [List.cons_append, endF, h2, endF]⟩
theorem textsF_len : ∀ (s : List (Bool × ByteArray)) (r : ByteArray), (textsF s r).length = s.length
  | [], _ => rfl
  | (f, p) :: s, r => by rw [textsF, List.length_cons, textsF_len s, List.length_cons]
theorem shaS_size (s : ByteArray) : (shaS s).size = 32 := by unfold shaS; rw [str_size, sha_length]
theorem stT_size {f : Bool} {p r : ByteArray} (hp : p.size = 32) (hr : r.size = 32) : (stT f p r).size = 65 := by
  unfold stT txtS
  split <;> (rw [ByteArray.size_append, ByteArray.size_append, hp, hr]; rfl)
theorem stT_inj {f : Bool} {p r q s : ByteArray} (hp : p.size = 32) (hr : r.size = 32) (hq : q.size = 32) (hs : s.size = 32) (h : stT f p r = stT f q s) : p = q ∧ r = s := by
  unfold stT at h
  split at h
  · exact txtS_inj h (by rw [hp, hq])
  · exact (txtS_inj h (by rw [hr, hs])).symm
theorem textsF_size : ∀ (s : List (Bool × ByteArray)) (r : ByteArray), (∀ x ∈ s, x.2.size = 32) → r.size = 32 → ∀ t ∈ textsF s r, t.size = 65
  | [], _, _, _, t, ht => nomatch ht
  | (f, p) :: s, r, h, hr, t, ht => by
    rw [textsF] at ht
    rcases List.mem_cons.mp ht with rfl | ht
    · exact stT_size (h _ List.mem_cons_self) hr
    · exact textsF_size s _ (fun x hx => h x (List.mem_cons_of_mem _ hx)) (shaS_size _) t ht
theorem endF_size : ∀ (s : List (Bool × ByteArray)) (r : ByteArray), r.size = 32 → (endF s r).size = 32
  | [], _, h => h
  | (f, p) :: s, r, h => by rw [endF]; exact endF_size s _ (shaS_size _)
/-- a way up is what it ends in -/
theorem climbF_end : ∀ (fs : List Bool) (ps : List ByteArray) (r : ByteArray), fs.length = ps.length → (∀ p ∈ ps, p.size = 32) → r.size = 32 → climbF nodeS fs ps r = endF (fs.zip ps) r
  | [], [], r, _, _, _ => rfl
  | [], p :: ps, r, h, _, _ => by simp at h
  | f :: fs, [], r, h, _, _ => by simp at h
  | f :: fs, p :: ps, r, h, hp, hr => by
    have hp1 := hp p List.mem_cons_self
    have hn : (if f then nodeS p r else nodeS r p) = shaS (stT f p r) := by
      unfold stT nodeS
      cases f
      · simp only [Bool.false_eq_true, if_false]
        rw [if_pos ⟨hr, hp1⟩, hnode_txt]
      · simp only [if_true]
        rw [if_pos ⟨hp1, hr⟩, hnode_txt]
    rw [climbF, hn, List.zip_cons_cons, endF]
    exact climbF_end fs ps _ (by simpa using h) (fun q hq => hp q (List.mem_cons_of_mem _ hq)) (shaS_size _)
/-- all texts are the same: so are the ways -/
theorem way_same : ∀ (fs : List Bool) (P Q : List ByteArray) (r s : ByteArray), fs.length = P.length → fs.length = Q.length → (∀ p ∈ P, p.size = 32) → (∀ p ∈ Q, p.size = 32) → r.size = 32 → s.size = 32 →
    endF (fs.zip P) r = endF (fs.zip Q) s → textsF (fs.zip P) r = textsF (fs.zip Q) s → r = s ∧ P = Q
  | [], [], [], r, s, _, _, _, _, _, _, he, _ => ⟨he, rfl⟩
  | [], p :: P, _, r, s, h, _, _, _, _, _, _, _ => by simp at h
  | [], [], q :: Q, r, s, _, h, _, _, _, _, _, _ => by simp at h
  | f :: fs, [], _, r, s, h, _, _, _, _, _, _, _ => by simp at h
  | f :: fs, p :: P, [], r, s, _, h, _, _, _, _, _, _ => by simp at h
  | f :: fs, p :: P, q :: Q, r, s, h1, h2, hp, hq, hr, hs, he, ht => by
    rw [List.zip_cons_cons, List.zip_cons_cons, textsF, textsF] at ht
    rw [List.zip_cons_cons, List.zip_cons_cons, endF, endF] at he
    obtain ⟨h3, h4⟩ := List.cons.inj ht
    obtain ⟨h5, h6⟩ := stT_inj (hp p List.mem_cons_self) hr (hq q List.mem_cons_self) hs h3
    obtain ⟨_, h8⟩ := way_same fs P Q _ _ (by simpa using h1) (by simpa using h2) (fun x hx => hp x (List.mem_cons_of_mem _ hx)) (fun x hx => hq x (List.mem_cons_of_mem _ hx)) (shaS_size _) (shaS_size _) he h4
    exact ⟨h6, by rw [h5, h8]⟩
/-- the highest texts that are not the same have one digest -/
theorem way_highest : ∀ (fs : List Bool) (P Q : List ByteArray) (r s : ByteArray), fs.length = P.length → fs.length = Q.length → (∀ p ∈ P, p.size = 32) → (∀ p ∈ Q, p.size = 32) → r.size = 32 → s.size = 32 →
    endF (fs.zip P) r = endF (fs.zip Q) s → ∀ (k : Nat) (a b : ByteArray), (textsF (fs.zip P) r)[k]? = some a → (textsF (fs.zip Q) s)[k]? = some b → (∀ j, k < j → (textsF (fs.zip P) r)[j]? = (textsF (fs.zip Q) s)[j]?) → shaS a = shaS b
  | [], [], [], r, s, _, _, _, _, _, _, he, k, a, b, ha, _, _ => by simp [textsF] at ha
  | [], p :: P, _, r, s, h, _, _, _, _, _, _, _, _, _, _, _, _ => by simp at h
  | [], [], q :: Q, r, s, _, h, _, _, _, _, _, _, _, _, _, _, _ => by simp at h
  | f :: fs, [], _, r, s, h, _, _, _, _, _, _, _, _, _, _, _, _ => by simp at h
  | f :: fs, p :: P, [], r, s, _, h, _, _, _, _, _, _, _, _, _, _, _ => by simp at h
  | f :: fs, p :: P, q :: Q, r, s, h1, h2, hp, hq, hr, hs, he, k, a, b, ha, hb, hk => by
    rw [List.zip_cons_cons, textsF] at ha hk
    rw [List.zip_cons_cons, textsF] at hb hk
    rw [List.zip_cons_cons, List.zip_cons_cons, endF, endF] at he
    have hP : ∀ x ∈ P, x.size = 32 := fun x hx => hp x (List.mem_cons_of_mem _ hx)
    have hQ : ∀ x ∈ Q, x.size = 32 := fun x hx => hq x (List.mem_cons_of_mem _ hx)
    cases k with
    | zero =>
      rw [List.getElem?_cons_zero] at ha hb
      rw [← Option.some.inj ha, ← Option.some.inj hb]
      have htt : textsF (fs.zip P) (shaS (stT f p r)) = textsF (fs.zip Q) (shaS (stT f q s)) := by
        apply List.ext_getElem?
        intro j
        have := hk (j + 1) (by omega)
        rwa [List.getElem?_cons_succ, List.getElem?_cons_succ] at this
      exact (way_same fs P Q _ _ (by simpa using h1) (by simpa using h2) hP hQ (shaS_size _) (shaS_size _) he htt).1
    | succ k =>
      rw [List.getElem?_cons_succ] at ha hb
      exact way_highest fs P Q _ _ (by simpa using h1) (by simpa using h2) hP hQ (shaS_size _) (shaS_size _) he k a b ha hb (fun j hj => by
        have := hk (j + 1) (by omega)
        rwa [List.getElem?_cons_succ, List.getElem?_cons_succ] at this)
end Go.Proofs.YtdbghgpohdijfaaDoor
