/- Law 5's play: a new edge, a loaded one, a great one: walked (printed by gen_pl8.py). -/
import Derived.Test.YtdbghgpohdijfaaDoorMa71
import Derived.Test.YtdbghgpohdijfaaDoorMa4
import Derived.Deep.CutBlock
import Derived.Deep.RegionHeld3
import Derived.Deep.Slices
import Derived.ChangeSame
import Derived.Test.YtdbghgpohdijfaaDoorMa13
import Derived.Lib.SmallJoins
import Derived.Deep.Fields
import Derived.Test.YtdbghgpohdijfaaDoorMa35
namespace Go.Proofs.YtdbghgpohdijfaaDoor
open Go.RowKit Go.Scr Bk5 Go.ChangeMaps Go.MapKept
set_option linter.unusedVariables false
theorem BkX.more {W w : World} {b t t' : Nat} {col : Nat → Nat} (H : BkX W w b col t) (ht : t ≤ t') : BkX W w b col t' := by
  obtain ⟨V, fr, wl, ls, gr, h⟩ := H
  exact ⟨V, fr, wl, ls, gr, h.bk, h.wl, h.mkd, Nat.le_trans h.n1 ht, by have := h.n2; omega, h.l1, h.l2, h.gl⟩
theorem PlK.more {W w : World} {wb b t t' : Nat} (H : PlK W w wb b t) (ht : t ≤ t') : PlK W w wb b t' := by
  obtain ⟨col, oc, S, sv, hv, hl, h, hS⟩ := H
  exact ⟨col, oc, S, sv, hv, hl, ⟨h.bl, fun hc => (h.bk hc).more ht, h.bo, h.ol, h.wx, h.wo, h.sd, h.so, h.hd, h.ho, h.ed, h.xd, h.sl, h.hn⟩, hS⟩
theorem two_ptrs (a b : Addr) : ∀ u ∈ [Value.pointer (some a), .pointer (some b)], u.oneCell' = true := fun u hu => by
  rcases List.mem_cons.1 hu with rfl | hu
  · rfl
  · rw [List.mem_singleton.1 hu]; rfl
set_option maxRecDepth 100000 in
set_option maxHeartbeats 16000000 in
theorem play_new {W w : World} {wb b t ln c : Nat} {p : Option Addr} {on n m : Int} {z : ByteArray} {L : List ByteArray} (hB : Bas W W.heap.size) (h : PlK W w wb b t) (hv : Txts W (.slice p ln c) L) (hll : L.length ≤ 1048576) (hon : -9223372036854775808 ≤ on ∧ on ≤ 9223372036854775807) (hn : -9223372036854775808 ≤ n ∧ n ≤ 9223372036854775807) (hm : -9223372036854775808 ≤ m ∧ m ≤ 9223372036854775807) (ht : t ≤ 900) :
    Calls Tryd.prog 22 #[.pointer (some ⟨wb, 0, none⟩), .agg #[.int .i64 1, .int .i64 on, .int .i64 n, .int .i64 m, .string z, .slice p ln c]] w fun o w' => o = .returned (.bool true) ∧ PlK W w' wb b (t + 2) := by
  obtain ⟨col, oc, S, sv, hv0, hl, h, hS⟩ := h
  obtain ⟨g0, hg0⟩ : ∃ x, x = w.heap.size := ⟨_, rfl⟩
  obtain ⟨w1, hw1⟩ : ∃ x, x = w.alloc (.cells #[.int .i64 1, .int .i64 on, .int .i64 n, .int .i64 m, .string z, .slice p ln c] 54) := ⟨_, rfl⟩
  have hbx : w1.heap[g0]? = some (.cells #[.int .i64 1, .int .i64 on, .int .i64 n, .int .i64 m, .string z, .slice p ln c] 54 (0, 0)) := by rw [hw1, hg0]; exact heap_alloc_new w _
  have hb1 : Below w.heap.size w w1 := by rw [hw1]; exact (Below.refl _ _).alloc (Nat.le_refl _) _
  have hog : oc g0 = 0 := by
    by_cases h0 : oc g0 = 0
    · exact h0
    · have := h.ol g0 h0; omega
  have h1 := h.below hb1
  have HH := Lib.hid h1
  have HSY := Lib.hid hS
  have HTX := Lib.hid hv
  have HBAS := Lib.hid hB
  have HW1 := Lib.hid hw1
  have HG0 := Lib.hid hg0
  have HX := Lib.hid hbx
  have HOG := Lib.hid hog
  have HT := Lib.hid ht
  have HLL := Lib.hid hll
  have c0 : w1.cell? ⟨g0, 0, none⟩ = some (.int .i64 1) := cellB hbx rfl
  obtain ⟨ps, ns, cs, SV, hsp⟩ := side_p h1 hS
  have HSP := Lib.hid hsp
  have hns := hsp.n6
  have hl1 : (ns + 1) * 16 ≤ 140737488355328 := by omega
  have hl2 : ns + 1 ≤ 140737488355328 := by omega
  have CX := Lib.hid xwnew_any
  clear hsp
  clear h hS hv hB hw1 hg0 hbx hb1 hog h1 ht hll
  go_enter Tryd.func22, Tryd.ntmps22
  go_upto_region 1 with fail
  rw [← HW1.out, ← HG0.out]
  go_upto_region 4 with (go_at_call 43; (with_reducible refine (ewnew_any _).mono ?_); rintro o w2 ⟨eb, rfl, h⟩; have HEN := Lib.hid h; have HB2 : Hid (Below w1.heap.size w1 w2) := Lib.hid (by obtain ⟨_, _, _, h9⟩ := h; exact h9); clear h)
  clear c0
  have k0 : w2.cell? ⟨wb, 0, none⟩ = some (.slice ps ns cs) := HSP.out.c w2 HB2.out
  by_cases h6 : ns < 6
  · have h6i : (ns : Int) < 6 := by omega
    have HONE : ∀ xb, Hid (∀ u ∈ [Value.pointer (some ⟨eb, 0, none⟩), .pointer (some ⟨xb, 0, none⟩)], u.oneCell' = true) := fun xb => Lib.hid (two_ptrs _ _)
    have HBD : Hid (Below w2.heap.size w2 w2.drew) := Lib.hid (Below.refl _ _).drew
    go_upto_region 5 with fail
    refine wp_region_held_drew (S := fun _ => True) (by kernel_rfl) (trivial) (fun hHeld => ?_)
    refine wpAnyH_take (i := 0) (oi := ⟨_, _, _, _, _, _⟩) (v := ?_) rfl (by kernel_rfl) (by kernel_rfl) (by kernel_rfl) (fun _ _ _ h => h) (Or.inl ⟨by rfl, ?_⟩) hHeld ?_
    rotate_left
    · ((intro w hSw; (try dsimp only at hSw); go_simp) <;> with_reducible rfl)
    try simp only [Act.put, List.setIfInBounds_toArray, List.set_cons_zero, List.set_cons_succ]
    refine wpAnyH_take (i := 1) (oi := ⟨_, _, _, _, _, _⟩) (v := ?_) rfl (by kernel_rfl) (by kernel_rfl) (by kernel_rfl) (fun _ _ _ h => h) (Or.inl ⟨by rfl, ?_⟩) hHeld ?_
    rotate_left
    · ((intro w hSw; (try dsimp only at hSw); go_simp) <;> with_reducible rfl)
    try simp only [Act.put, List.setIfInBounds_toArray, List.set_cons_zero, List.set_cons_succ]
    refine wpAnyH_take (i := 2) (oi := ⟨_, _, _, _, _, _⟩) (v := ?_) rfl (by kernel_rfl) (by kernel_rfl) (by kernel_rfl) (fun _ _ _ h => h) (Or.inl ⟨by rfl, ?_⟩) hHeld ?_
    rotate_left
    · ((intro w hSw; (try dsimp only at hSw); go_simp) <;> with_reducible rfl)
    try simp only [Act.put, List.setIfInBounds_toArray, List.set_cons_zero, List.set_cons_succ]
    refine wpAnyH_take (i := 3) (oi := ⟨_, _, _, _, _, _⟩) (v := ?_) rfl (by kernel_rfl) (by kernel_rfl) (by kernel_rfl) (fun _ _ _ h => h) (Or.inl ⟨by rfl, ?_⟩) hHeld ?_
    rotate_left
    · ((intro w hSw; (try dsimp only at hSw); go_simp) <;> with_reducible rfl)
    try simp only [Act.put, List.setIfInBounds_toArray, List.set_cons_zero, List.set_cons_succ]
    refine wpAnyH_take (i := 5) (oi := ⟨_, _, _, _, _, _⟩) (v := ?_) rfl (by kernel_rfl) (by kernel_rfl) (by kernel_rfl) (fun _ _ _ h => h) (Or.inl ⟨by rfl, ?_⟩) hHeld ?_
    rotate_left
    · ((intro w hSw; (try dsimp only at hSw); go_simp) <;> with_reducible rfl)
    try simp only [Act.put, List.setIfInBounds_toArray, List.set_cons_zero, List.set_cons_succ]
    refine wpAnyH_ready (rs := [4, 6]) (by kernel_rfl) (by simp) ?_
    refine AllReadyH.cons (o := ⟨_, _, _, _, _, _⟩) rfl (fun KC hK => ?_) ?_
    rotate_left
    refine AllReadyH.cons (o := ⟨_, _, _, _, _, _⟩) rfl (fun KC hK => ?_) ?_
    rotate_left
    · exact AllReadyH.nil
    · go_simp
      refine hK.out _ _ (trivial) (fun hHeld => ?_)
      clear hK KC
      try simp only [Act.put, List.setIfInBounds_toArray, List.set_cons_zero, List.set_cons_succ]
      refine wpAnyH_ready (rs := [6]) (by kernel_rfl) (by simp) ?_
      refine AllReadyH.cons (o := ⟨_, _, _, _, _, _⟩) rfl (fun KC hK => ?_) ?_
      rotate_left
      · exact AllReadyH.nil
      go_simp
      go_at_call 71
      (with_reducible refine (CX.out _).mono ?_)
      rintro o w3 ⟨xb, rfl, hx⟩
      have HXN : Hid (XwN w2.drew w3 xb 0 []) := Lib.hid hx
      have HB3 : Hid (Below w1.heap.size w1 w3) := Lib.hid (below_from HB2.out (by obtain ⟨_, _, _, h9⟩ := hx; exact HBD.out.trans h9) HB2.out.size)
      have HONE := HONE xb
      clear hx
      have HHD : Hid (∀ o, Held (w3.alloc o) 58 2 (.slice ps ns cs) ns SV) := Lib.hid (fun o => HSP.out.hd _ (below_from HB3.out ((Below.refl _ _).alloc (Nat.le_refl _) o) HB3.out.size))
      have HADD := Lib.hid (HSP.out.add eb xb _ _ _ _ _ _ HEN.out HBD.out HXN.out (Below.refl _ _) h6)
      have HC3 := Lib.hid (HSP.out.c w3 HB3.out)
      have HC4 : Hid (∀ o, (w3.alloc o).cell? ⟨wb, 0, none⟩ = some (.slice ps ns cs)) := Lib.hid (fun o => HSP.out.c _ (below_from HB3.out ((Below.refl _ _).alloc (Nat.le_refl _) o) HB3.out.size))
      refine hK.out _ _ (trivial) (fun hHeld => ?_)
      clear hK KC
      try simp only [Act.put, List.setIfInBounds_toArray, List.set_cons_zero, List.set_cons_succ]
      refine wpAnyH_take (i := 7) (oi := ⟨_, _, _, _, _, _⟩) (v := ?_) rfl (by kernel_rfl) (by kernel_rfl) (by kernel_rfl) (fun _ _ _ h => h) (Or.inl ⟨by rfl, ?_⟩) hHeld ?_
      rotate_left
      · ((intro w hSw; (try dsimp only at hSw); go_simp) <;> with_reducible rfl)
      try simp only [Act.put, List.setIfInBounds_toArray, List.set_cons_zero, List.set_cons_succ]
      refine wpAnyH_ready (rs := [8]) (by kernel_rfl) (by simp) ?_
      refine AllReadyH.cons (o := ⟨_, _, _, _, _, _⟩) rfl (fun KC hK => ?_) ?_
      rotate_left
      · exact AllReadyH.nil
      go_simp
      refine hK.out _ _ (trivial) (fun hHeld => ?_)
      clear hK KC
      try simp only [Act.put, List.setIfInBounds_toArray, List.set_cons_zero, List.set_cons_succ]
      refine wpAnyH_ready (rs := [9]) (by kernel_rfl) (by simp) ?_
      refine AllReadyH.cons (o := ⟨_, _, _, _, _, _⟩) rfl (fun KC hK => ?_) ?_
      rotate_left
      · exact AllReadyH.nil
      refine step_grew (v := .slice ps ns cs) rfl (.tmp 39) (.tmp 43) rfl Tryd.underlying49 (.agg #[.pointer none, .pointer none]) 2 info_side rfl (by decide) [.pointer (some ⟨eb, 0, none⟩), .pointer (some ⟨xb, 0, none⟩)] 1 ⟨w3.heap.size, 0, none⟩ rfl rfl (HHD.out _) rfl (by decide) cells_alloc HONE.out hl1 hl2 ?_
      intro v5 w5 hg5
      obtain ⟨p5, c5, rfl, _⟩ := hg5.held.cells
      obtain ⟨d5, f5, hp5⟩ := HADD.out _ _ _ _ hg5
      have HP5 := Lib.hid hp5
      clear hg5 hp5
      refine hK.out _ _ (trivial) (fun hHeld => ?_)
      clear hK KC
      try simp only [Act.put, List.setIfInBounds_toArray, List.set_cons_zero, List.set_cons_succ]
      refine wpAnyH_take (i := 10) (oi := ⟨_, _, _, _, _, _⟩) (v := ?_) rfl (by kernel_rfl) (by kernel_rfl) (by kernel_rfl) (fun _ _ _ h => h) (Or.inl ⟨by rfl, ?_⟩) hHeld ?_
      rotate_left
      · ((intro w hSw; (try dsimp only at hSw); go_simp) <;> with_reducible rfl)
      try simp only [Act.put, List.setIfInBounds_toArray, List.set_cons_zero, List.set_cons_succ]
      refine wpAnyH_take (i := 11) (oi := ⟨_, _, _, _, _, _⟩) (v := ?_) rfl (by kernel_rfl) (by kernel_rfl) (by kernel_rfl) (fun _ _ _ h => h) (Or.inl ⟨by rfl, ?_⟩) hHeld ?_
      rotate_left
      · ((intro w hSw; (try dsimp only at hSw); go_simp) <;> with_reducible rfl)
      try simp only [Act.put, List.setIfInBounds_toArray, List.set_cons_zero, List.set_cons_succ]
      refine wpAnyH_ready (rs := [12]) (by kernel_rfl) (by simp) ?_
      refine AllReadyH.cons (o := ⟨_, _, _, _, _, _⟩) rfl (fun KC hK => ?_) ?_
      rotate_left
      · exact AllReadyH.nil
      go_simp
      refine hK.out _ _ (trivial) (fun hHeld => ?_)
      clear hK KC
      try simp only [Act.put, List.setIfInBounds_toArray, List.set_cons_zero, List.set_cons_succ]
      refine wpAnyH_done (by kernel_rfl) ?_ _
      go_wp2_with fail
      go_ret
      exact ⟨rfl, HP5.out.more (Nat.le_add_right _ _)⟩
    · go_simp
      go_at_call 71
      (with_reducible refine (CX.out _).mono ?_)
      rintro o w3 ⟨xb, rfl, hx⟩
      have HXN : Hid (XwN w2.drew w3 xb 0 []) := Lib.hid hx
      have HB3 : Hid (Below w1.heap.size w1 w3) := Lib.hid (below_from HB2.out (by obtain ⟨_, _, _, h9⟩ := hx; exact HBD.out.trans h9) HB2.out.size)
      have HONE := HONE xb
      clear hx
      have HHD : Hid (∀ o, Held (w3.alloc o) 58 2 (.slice ps ns cs) ns SV) := Lib.hid (fun o => HSP.out.hd _ (below_from HB3.out ((Below.refl _ _).alloc (Nat.le_refl _) o) HB3.out.size))
      have HADD := Lib.hid (HSP.out.add eb xb _ _ _ _ _ _ HEN.out HBD.out HXN.out (Below.refl _ _) h6)
      have HC3 := Lib.hid (HSP.out.c w3 HB3.out)
      have HC4 : Hid (∀ o, (w3.alloc o).cell? ⟨wb, 0, none⟩ = some (.slice ps ns cs)) := Lib.hid (fun o => HSP.out.c _ (below_from HB3.out ((Below.refl _ _).alloc (Nat.le_refl _) o) HB3.out.size))
      refine hK.out _ _ (trivial) (fun hHeld => ?_)
      clear hK KC
      try simp only [Act.put, List.setIfInBounds_toArray, List.set_cons_zero, List.set_cons_succ]
      refine wpAnyH_take (i := 7) (oi := ⟨_, _, _, _, _, _⟩) (v := ?_) rfl (by kernel_rfl) (by kernel_rfl) (by kernel_rfl) (fun _ _ _ h => h) (Or.inl ⟨by rfl, ?_⟩) hHeld ?_
      rotate_left
      · ((intro w hSw; (try dsimp only at hSw); go_simp) <;> with_reducible rfl)
      try simp only [Act.put, List.setIfInBounds_toArray, List.set_cons_zero, List.set_cons_succ]
      refine wpAnyH_ready (rs := [4, 8]) (by kernel_rfl) (by simp) ?_
      refine AllReadyH.cons (o := ⟨_, _, _, _, _, _⟩) rfl (fun KC hK => ?_) ?_
      rotate_left
      refine AllReadyH.cons (o := ⟨_, _, _, _, _, _⟩) rfl (fun KC hK => ?_) ?_
      rotate_left
      · exact AllReadyH.nil
      · have k0 := HC3.out
        go_simp
        clear k0
        refine hK.out _ _ (trivial) (fun hHeld => ?_)
        clear hK KC
        try simp only [Act.put, List.setIfInBounds_toArray, List.set_cons_zero, List.set_cons_succ]
        refine wpAnyH_ready (rs := [8]) (by kernel_rfl) (by simp) ?_
        refine AllReadyH.cons (o := ⟨_, _, _, _, _, _⟩) rfl (fun KC hK => ?_) ?_
        rotate_left
        · exact AllReadyH.nil
        go_simp
        refine hK.out _ _ (trivial) (fun hHeld => ?_)
        clear hK KC
        try simp only [Act.put, List.setIfInBounds_toArray, List.set_cons_zero, List.set_cons_succ]
        refine wpAnyH_ready (rs := [9]) (by kernel_rfl) (by simp) ?_
        refine AllReadyH.cons (o := ⟨_, _, _, _, _, _⟩) rfl (fun KC hK => ?_) ?_
        rotate_left
        · exact AllReadyH.nil
        refine step_grew (v := .slice ps ns cs) rfl (.tmp 39) (.tmp 43) rfl Tryd.underlying49 (.agg #[.pointer none, .pointer none]) 2 info_side rfl (by decide) [.pointer (some ⟨eb, 0, none⟩), .pointer (some ⟨xb, 0, none⟩)] 1 ⟨w3.heap.size, 0, none⟩ rfl rfl (HHD.out _) rfl (by decide) cells_alloc HONE.out hl1 hl2 ?_
        intro v5 w5 hg5
        obtain ⟨p5, c5, rfl, _⟩ := hg5.held.cells
        obtain ⟨d5, f5, hp5⟩ := HADD.out _ _ _ _ hg5
        have HP5 := Lib.hid hp5
        clear hg5 hp5
        refine hK.out _ _ (trivial) (fun hHeld => ?_)
        clear hK KC
        try simp only [Act.put, List.setIfInBounds_toArray, List.set_cons_zero, List.set_cons_succ]
        refine wpAnyH_take (i := 10) (oi := ⟨_, _, _, _, _, _⟩) (v := ?_) rfl (by kernel_rfl) (by kernel_rfl) (by kernel_rfl) (fun _ _ _ h => h) (Or.inl ⟨by rfl, ?_⟩) hHeld ?_
        rotate_left
        · ((intro w hSw; (try dsimp only at hSw); go_simp) <;> with_reducible rfl)
        try simp only [Act.put, List.setIfInBounds_toArray, List.set_cons_zero, List.set_cons_succ]
        refine wpAnyH_take (i := 11) (oi := ⟨_, _, _, _, _, _⟩) (v := ?_) rfl (by kernel_rfl) (by kernel_rfl) (by kernel_rfl) (fun _ _ _ h => h) (Or.inl ⟨by rfl, ?_⟩) hHeld ?_
        rotate_left
        · ((intro w hSw; (try dsimp only at hSw); go_simp) <;> with_reducible rfl)
        try simp only [Act.put, List.setIfInBounds_toArray, List.set_cons_zero, List.set_cons_succ]
        refine wpAnyH_ready (rs := [12]) (by kernel_rfl) (by simp) ?_
        refine AllReadyH.cons (o := ⟨_, _, _, _, _, _⟩) rfl (fun KC hK => ?_) ?_
        rotate_left
        · exact AllReadyH.nil
        go_simp
        refine hK.out _ _ (trivial) (fun hHeld => ?_)
        clear hK KC
        try simp only [Act.put, List.setIfInBounds_toArray, List.set_cons_zero, List.set_cons_succ]
        refine wpAnyH_done (by kernel_rfl) ?_ _
        go_wp2_with fail
        go_ret
        exact ⟨rfl, HP5.out.more (Nat.le_add_right _ _)⟩
      · go_simp
        refine hK.out _ _ (trivial) (fun hHeld => ?_)
        clear hK KC
        try simp only [Act.put, List.setIfInBounds_toArray, List.set_cons_zero, List.set_cons_succ]
        refine wpAnyH_ready (rs := [4]) (by kernel_rfl) (by simp) ?_
        refine AllReadyH.cons (o := ⟨_, _, _, _, _, _⟩) rfl (fun KC hK => ?_) ?_
        rotate_left
        · exact AllReadyH.nil
        have k0 := HC4.out
        go_simp
        clear k0
        refine hK.out _ _ (trivial) (fun hHeld => ?_)
        clear hK KC
        try simp only [Act.put, List.setIfInBounds_toArray, List.set_cons_zero, List.set_cons_succ]
        refine wpAnyH_ready (rs := [9]) (by kernel_rfl) (by simp) ?_
        refine AllReadyH.cons (o := ⟨_, _, _, _, _, _⟩) rfl (fun KC hK => ?_) ?_
        rotate_left
        · exact AllReadyH.nil
        refine step_grew (v := .slice ps ns cs) rfl (.tmp 39) (.tmp 43) rfl Tryd.underlying49 (.agg #[.pointer none, .pointer none]) 2 info_side rfl (by decide) [.pointer (some ⟨eb, 0, none⟩), .pointer (some ⟨xb, 0, none⟩)] 1 ⟨w3.heap.size, 0, none⟩ rfl rfl (HHD.out _) rfl (by decide) cells_alloc HONE.out hl1 hl2 ?_
        intro v5 w5 hg5
        obtain ⟨p5, c5, rfl, _⟩ := hg5.held.cells
        obtain ⟨d5, f5, hp5⟩ := HADD.out _ _ _ _ hg5
        have HP5 := Lib.hid hp5
        clear hg5 hp5
        refine hK.out _ _ (trivial) (fun hHeld => ?_)
        clear hK KC
        try simp only [Act.put, List.setIfInBounds_toArray, List.set_cons_zero, List.set_cons_succ]
        refine wpAnyH_take (i := 10) (oi := ⟨_, _, _, _, _, _⟩) (v := ?_) rfl (by kernel_rfl) (by kernel_rfl) (by kernel_rfl) (fun _ _ _ h => h) (Or.inl ⟨by rfl, ?_⟩) hHeld ?_
        rotate_left
        · ((intro w hSw; (try dsimp only at hSw); go_simp) <;> with_reducible rfl)
        try simp only [Act.put, List.setIfInBounds_toArray, List.set_cons_zero, List.set_cons_succ]
        refine wpAnyH_take (i := 11) (oi := ⟨_, _, _, _, _, _⟩) (v := ?_) rfl (by kernel_rfl) (by kernel_rfl) (by kernel_rfl) (fun _ _ _ h => h) (Or.inl ⟨by rfl, ?_⟩) hHeld ?_
        rotate_left
        · ((intro w hSw; (try dsimp only at hSw); go_simp) <;> with_reducible rfl)
        try simp only [Act.put, List.setIfInBounds_toArray, List.set_cons_zero, List.set_cons_succ]
        refine wpAnyH_ready (rs := [12]) (by kernel_rfl) (by simp) ?_
        refine AllReadyH.cons (o := ⟨_, _, _, _, _, _⟩) rfl (fun KC hK => ?_) ?_
        rotate_left
        · exact AllReadyH.nil
        go_simp
        refine hK.out _ _ (trivial) (fun hHeld => ?_)
        clear hK KC
        try simp only [Act.put, List.setIfInBounds_toArray, List.set_cons_zero, List.set_cons_succ]
        refine wpAnyH_done (by kernel_rfl) ?_ _
        go_wp2_with fail
        go_ret
        exact ⟨rfl, HP5.out.more (Nat.le_add_right _ _)⟩
  · have h6i : ¬ (ns : Int) < 6 := by omega
    go_wp2_with fail
    go_ret
    exact ⟨rfl, (HSP.out.pk w2 HB2.out).more (Nat.le_add_right _ _)⟩
set_option maxRecDepth 100000 in
set_option maxHeartbeats 16000000 in
theorem play_load {W w : World} {wb b t ln c : Nat} {p : Option Addr} {on n m : Int} {z : ByteArray} {L : List ByteArray} (hB : Bas W W.heap.size) (h : PlK W w wb b t) (hv : Txts W (.slice p ln c) L) (hll : L.length ≤ 1048576) (hon : -9223372036854775808 ≤ on ∧ on ≤ 9223372036854775807) (hn : -9223372036854775808 ≤ n ∧ n ≤ 9223372036854775807) (hm : -9223372036854775808 ≤ m ∧ m ≤ 9223372036854775807) (ht : t ≤ 900) :
    Calls Tryd.prog 22 #[.pointer (some ⟨wb, 0, none⟩), .agg #[.int .i64 2, .int .i64 on, .int .i64 n, .int .i64 m, .string z, .slice p ln c]] w fun o w' => o = .returned (.bool true) ∧ PlK W w' wb b (t + 2) := by
  obtain ⟨col, oc, S, sv, hv0, hl, h, hS⟩ := h
  obtain ⟨g0, hg0⟩ : ∃ x, x = w.heap.size := ⟨_, rfl⟩
  obtain ⟨w1, hw1⟩ : ∃ x, x = w.alloc (.cells #[.int .i64 2, .int .i64 on, .int .i64 n, .int .i64 m, .string z, .slice p ln c] 54) := ⟨_, rfl⟩
  have hbx : w1.heap[g0]? = some (.cells #[.int .i64 2, .int .i64 on, .int .i64 n, .int .i64 m, .string z, .slice p ln c] 54 (0, 0)) := by rw [hw1, hg0]; exact heap_alloc_new w _
  have hb1 : Below w.heap.size w w1 := by rw [hw1]; exact (Below.refl _ _).alloc (Nat.le_refl _) _
  have hog : oc g0 = 0 := by
    by_cases h0 : oc g0 = 0
    · exact h0
    · have := h.ol g0 h0; omega
  have h1 := h.below hb1
  have HH := Lib.hid h1
  have HSY := Lib.hid hS
  have HTX := Lib.hid hv
  have HBAS := Lib.hid hB
  have HW1 := Lib.hid hw1
  have HG0 := Lib.hid hg0
  have HX := Lib.hid hbx
  have HOG := Lib.hid hog
  have HT := Lib.hid ht
  have HLL := Lib.hid hll
  have c0 : w1.cell? ⟨g0, 0, none⟩ = some (.int .i64 2) := cellB hbx rfl
  have CL : Hid (Calls Tryd.prog 72 #[.pointer (some ⟨wb, 0, none⟩), .int .i64 n, .slice p ln c] w1 fun o w' => o = .returned (.bool true) ∧ PlK W w' wb b t ∧ Kp oc w1 w') := Lib.hid (loads_any hB h1 hS (hv.below h1.bl (Nat.le_refl _)) (els_arg h1 hv) hll)
  have d2 : w1.cell? ⟨g0, 2, none⟩ = some (.int .i64 n) := cellB hbx rfl
  have d5 : w1.cell? ⟨g0, 5, none⟩ = some (.slice p ln c) := cellB hbx rfl
  clear h hS hv hB hw1 hg0 hbx hb1 hog h1 ht hll
  go_enter Tryd.func22, Tryd.ntmps22
  go_upto_region 1 with fail
  rw [← HW1.out, ← HG0.out]
  go_wp2_with (go_at_call 72; (with_reducible refine (CL.out).mono ?_); rintro o w2 ⟨rfl, h2, _⟩; have H2 := Lib.hid h2; clear h2)
  go_ret
  exact ⟨rfl, H2.out.more (Nat.le_add_right _ _)⟩
set_option maxRecDepth 100000 in
set_option maxHeartbeats 16000000 in
theorem play_great {W w : World} {wb b t ln c : Nat} {p : Option Addr} {on n m : Int} {z : ByteArray} {L : List ByteArray} (hB : Bas W W.heap.size) (h : PlK W w wb b t) (hv : Txts W (.slice p ln c) L) (hll : L.length ≤ 1048576) (hon : -9223372036854775808 ≤ on ∧ on ≤ 9223372036854775807) (hn : -9223372036854775808 ≤ n ∧ n ≤ 9223372036854775807) (hm : -9223372036854775808 ≤ m ∧ m ≤ 9223372036854775807) (ht : t ≤ 900) :
    Calls Tryd.prog 22 #[.pointer (some ⟨wb, 0, none⟩), .agg #[.int .i64 3, .int .i64 on, .int .i64 n, .int .i64 m, .string z, .slice p ln c]] w fun o w' => o = .returned (.bool true) ∧ PlK W w' wb b (t + 2) := by
  obtain ⟨col, oc, S, sv, hv0, hl, h, hS⟩ := h
  obtain ⟨g0, hg0⟩ : ∃ x, x = w.heap.size := ⟨_, rfl⟩
  obtain ⟨w1, hw1⟩ : ∃ x, x = w.alloc (.cells #[.int .i64 3, .int .i64 on, .int .i64 n, .int .i64 m, .string z, .slice p ln c] 54) := ⟨_, rfl⟩
  have hbx : w1.heap[g0]? = some (.cells #[.int .i64 3, .int .i64 on, .int .i64 n, .int .i64 m, .string z, .slice p ln c] 54 (0, 0)) := by rw [hw1, hg0]; exact heap_alloc_new w _
  have hb1 : Below w.heap.size w w1 := by rw [hw1]; exact (Below.refl _ _).alloc (Nat.le_refl _) _
  have hog : oc g0 = 0 := by
    by_cases h0 : oc g0 = 0
    · exact h0
    · have := h.ol g0 h0; omega
  have h1 := h.below hb1
  have HH := Lib.hid h1
  have HSY := Lib.hid hS
  have HTX := Lib.hid hv
  have HBAS := Lib.hid hB
  have HW1 := Lib.hid hw1
  have HG0 := Lib.hid hg0
  have HX := Lib.hid hbx
  have HOG := Lib.hid hog
  have HT := Lib.hid ht
  have HLL := Lib.hid hll
  have c0 : w1.cell? ⟨g0, 0, none⟩ = some (.int .i64 3) := cellB hbx rfl
  have d2 : w1.cell? ⟨g0, 2, none⟩ = some (.int .i64 n) := cellB hbx rfl
  have d3 : w1.cell? ⟨g0, 3, none⟩ = some (.int .i64 m) := cellB hbx rfl
  have CG := Lib.hid (great_any n m w1 hn hm)
  have CLF : Hid (∀ (c : Int) w', Calls Tryd.prog 48 #[.int .i64 c] w' fun e w'' => ∃ lx, e = .returned (.string lx) ∧ Below w'.heap.size w' w'') := Lib.hid (fun c w' => (leafU_any c w').mono (fun e w'' ⟨h1, h2⟩ => ⟨_, h1, h2⟩))
  clear h hS hv hB hw1 hg0 hbx hb1 hog h1 ht hll
  go_enter Tryd.func22, Tryd.ntmps22
  go_upto_region 1 with fail
  rw [← HW1.out, ← HG0.out]
  go_upto_region 11 with (go_at_call 73; (with_reducible refine (CG.out).mono ?_); rintro o w2 ⟨k, rfl, hk, h⟩; have HK := Lib.hid hk; have HB2 := Lib.hid h; clear h hk)
  clear c0 d2 d3
  obtain ⟨nc, hnc⟩ : ∃ x, x = (cutA 0 k).length := ⟨_, rfl⟩
  have hnc80 : nc ≤ 80 := by rw [hnc]; exact cutA_80 HK.out
  have CC : Hid (∀ w', Calls Tryd.prog 74 #[.int .i64 0, .int .i64 (k : Int)] w' fun o z => ∃ p c, o = .returned (.slice p nc c) ∧ Below w'.heap.size w' z) := Lib.hid (fun w' => by
    refine (cut5_any 0 k w' (Nat.zero_le _) HK.out).mono ?_
    rintro o z ⟨u, rfl, hu⟩
    obtain ⟨p, c, rfl, _⟩ := hu.h.cells
    exact ⟨p, c, by rw [hnc], hu.b⟩)
  have HC3 : Hid (∀ w', Below w1.heap.size w1 w' → w'.cell? ⟨g0, 3, none⟩ = some (.int .i64 m)) := Lib.hid (fun w' hb => cellB (blk_below HX.out hb (blk_lt HX.out)) rfl)
  clear hnc
  go_wp2_with fail
  go_loopw [7, 8] (fun l q wr => ∃ (i : Nat) (pl : Option Addr) (cl : Nat) (Lx : List ByteArray), i ≤ nc ∧ q = .int .i64 (i : Int) ∧ l = .slice pl i cl ∧ Hid (Below w1.heap.size w1 wr ∧ LfI w1 wr (.slice pl i cl) i Lx ∧ Lx.length = i)) (fun _ q _ => nc - (intOf q).toNat)
  case atStart => exact ⟨0, none, 0, [], Nat.zero_le _, rfl, rfl, Lib.hid ⟨HB2.out, ⟨HB2.out, ⟨rfl, .inl ⟨rfl, rfl⟩⟩, fun g hg => nomatch hg⟩, rfl⟩⟩
  case round =>
    clear HB2
    obtain ⟨i, pl, cl, Lx, hi, rfl, rfl, HI⟩ := hrel
    by_cases hlt : i < nc
    · have hli : (i : Int) < (nc : Int) := by omega
      have hi0 : (0 : Int) ≤ (i : Int) := by omega
      have hl1 : (i + 1) * 16 ≤ 140737488355328 := by omega
      have hl2 : i + 1 ≤ 140737488355328 := by omega
      go_upto_if 68 with (go_at_call 74; (with_reducible refine (CC.out _).mono ?_); rintro o w3 ⟨p5, c5, rfl, h⟩; have HB3 : Hid (Below w1.heap.size w1 w3) := Lib.hid (below_from HI.out.1 h HI.out.1.size); have HL3 := Lib.hid (HI.out.2.1.below h); clear h)
      have k3 := HC3.out w3 HB3.out
      go_upto_region 15 with fail
      go_wp2_with (first
        | (go_at_call 48; (with_reducible refine (CLF.out _ _).mono ?_); rintro o w4 ⟨lx, rfl, h⟩; have HB4 : Hid (Below w1.heap.size w1 w4) := Lib.hid (below_from HB3.out h HB3.out.size); have HL4 := Lib.hid (HL3.out.below h); clear h; have HONE : Hid (∀ u ∈ [Value.string lx], u.oneCell' = true) := Lib.hid (one_txt [lx]))
        | (at_builtin; refine wpList_grew (v := .slice pl i cl) rfl _ _ rfl Tryd.underlying22 (.string ⟨#[]⟩) 1 info_strT rfl (by decide) [.string lx] 1 (by simp [Act.eval]) (by simp [Act.eval]) HL4.out.h rfl rfl (by decide) HONE.out hl1 hl2 ?_; intro v5 w5 hg5; obtain ⟨p5, c5, rfl, _⟩ := hg5.held.cells; have HI5 := Lib.hid (HL4.out.push hg5); clear hg5))
      exact ⟨⟨i + 1, p5, c5, Lx ++ [lx], by omega, by simp, rfl, Lib.hid ⟨HI5.out.b, HI5.out, by rw [List.length_append, HI.out.2.2]; rfl⟩⟩, by show nc - ((i : Int) + 1).toNat < nc - (i : Int).toNat; omega⟩
    · have hli : ¬ (i : Int) < (nc : Int) := by omega
      have hi80 : i ≤ 80 := by omega
      have CL : Hid (∀ w3, Below wr.heap.size wr w3 → Calls Tryd.prog 72 #[.pointer (some ⟨wb, 0, none⟩), .int .i64 (k : Int), .slice pl i cl] w3 fun o w' => o = .returned (.bool true) ∧ PlK W w' wb b t) := Lib.hid (fun w3 hb => by
        obtain ⟨i1, i2, i3⟩ := HI.out
        have hl3 := i2.below hb
        refine (loads_any (z := (k : Int)) HBAS.out (HH.out.below hl3.b) HSY.out (hl3.tx (by omega)) (els_new HH.out hl3) (by omega)).mono ?_
        rintro o w' ⟨rfl, h2, _⟩
        exact ⟨rfl, h2⟩)
      go_wp2_with (first
        | (go_at_call 74; (with_reducible refine (CC.out _).mono ?_); rintro o w3 ⟨p5, c5, rfl, h⟩; have HB3 := Lib.hid h; clear h)
        | (go_at_call 72; (with_reducible refine (CL.out _ HB3.out).mono ?_); rintro o w4 ⟨rfl, h2⟩; have H2 := Lib.hid h2; clear h2))
      go_ret
      exact ⟨rfl, H2.out.more (Nat.le_add_right _ _)⟩
end Go.Proofs.YtdbghgpohdijfaaDoor
/- Law 5's play: a step on a side, walked (printed by gen_pl8.py). -/
namespace Go.Proofs.YtdbghgpohdijfaaDoor
open Go.RowKit Go.Scr Bk5 Go.ChangeMaps Go.MapKept
set_option linter.unusedVariables false
theorem sbox_newD (w : World) : ∃ wa x, (w.alloc (.cells #[.pointer none, .pointer none] 58)).drew = wa ∧ w.heap.size = x ∧ Hid (wa.heap[x]? = some (.cells #[.pointer none, .pointer none] 58 (0, 0))) ∧ Hid (Below w.heap.size w wa) :=
  ⟨_, _, rfl, rfl, Lib.hid (heap_alloc_new w _), Lib.hid ((Below.refl _ _).alloc (Nat.le_refl _) _).drew⟩
theorem sbox_c {w : World} {x : Nat} {a b : Value} (h : w.heap[x]? = some (.cells #[a, b] 58 (0, 0))) : w.cell? ⟨x, 0, none⟩ = some a ∧ w.cell? ⟨x, 1, none⟩ = some b := ⟨cellB h rfl, cellB h rfl⟩
theorem ps_make {W w w2 : World} {wb b t g0 sx i e x n : Nat} {col oc : Nat → Nat} {S : List Sd} {sv hv : Value} {hl H : List ByteArray} {O : Array Value} (h : PlJ noC W w wb b col oc S sv hv hl t) (hS : Sync S) (hs : S[i]? = some ⟨e, n, H, x, n, H⟩) (hx : w.heap[g0]? = some (.cells O 54 (0, 0))) (ho : oc g0 = 0)
    (h2 : w2.heap[sx]? = some (.cells #[.pointer none, .pointer none] 58 (0, 0))) (hb : Below w.heap.size w w2) (hsx : w.heap.size ≤ sx) :
    PsX W ((w2.setCell ⟨sx, 0, none⟩ (.pointer (some ⟨e, 0, none⟩))).setCell ⟨sx, 1, none⟩ (.pointer (some ⟨x, 0, none⟩))) wb b t g0 sx i e x O n H n H := by
  have hb2 := (hb.setCell (p := ⟨sx, 0, none⟩) hsx (.pointer (some ⟨e, 0, none⟩))).setCell (p := ⟨sx, 1, none⟩) hsx (.pointer (some ⟨x, 0, none⟩))
  obtain ⟨v, h1, _⟩ := h.ed i _ hs id
  refine ⟨col, oc, S, sv, hv, hl, h.below hb2, hs, blk_below hx hb2 (blk_lt hx), ho, blk_set (blk_set h2 0 _) 1 _, ?_, h1.ok, fun j s' hj _ => hS s' (List.mem_of_getElem? hj)⟩
  by_cases h0 : oc sx = 0
  · exact h0
  · have := h.ol sx h0; omega
theorem same_self {w : World} {a b : Value} {L : List ByteArray} (h : Calls Tryd.prog 25 #[a, b] w fun e w' => e = .returned (.bool (decide (L = L))) ∧ Below w.heap.size w w') : Calls Tryd.prog 25 #[a, b] w fun e w' => e = .returned (.bool true) ∧ Below w.heap.size w w' := h.mono fun e w' ⟨h1, h2⟩ => ⟨by rw [h1]; simp, h2⟩
set_option maxRecDepth 100000 in
set_option maxHeartbeats 16000000 in
theorem play_4 {W w : World} {wb b t ln c : Nat} {p : Option Addr} {on n m : Int} {z : ByteArray} {L : List ByteArray} (hB : Bas W W.heap.size) (h : PlK W w wb b t) (hv : Txts W (.slice p ln c) L) (hll : L.length ≤ 1048576) (hon : -9223372036854775808 ≤ on ∧ on ≤ 9223372036854775807) (hn : -9223372036854775808 ≤ n ∧ n ≤ 9223372036854775807) (hm : -9223372036854775808 ≤ m ∧ m ≤ 9223372036854775807) (ht : t ≤ 900) :
    Calls Tryd.prog 22 #[.pointer (some ⟨wb, 0, none⟩), .agg #[.int .i64 4, .int .i64 on, .int .i64 n, .int .i64 m, .string z, .slice p ln c]] w fun o w' => o = .returned (.bool true) ∧ PlK W w' wb b (t + 2) := by
  obtain ⟨col, oc, S, sv, hv0, hl, h, hS⟩ := h
  obtain ⟨g0, hg0⟩ : ∃ x, x = w.heap.size := ⟨_, rfl⟩
  obtain ⟨w1, hw1⟩ : ∃ x, x = w.alloc (.cells #[.int .i64 4, .int .i64 on, .int .i64 n, .int .i64 m, .string z, .slice p ln c] 54) := ⟨_, rfl⟩
  have hbx : w1.heap[g0]? = some (.cells #[.int .i64 4, .int .i64 on, .int .i64 n, .int .i64 m, .string z, .slice p ln c] 54 (0, 0)) := by rw [hw1, hg0]; exact heap_alloc_new w _
  have hb1 : Below w.heap.size w w1 := by rw [hw1]; exact (Below.refl _ _).alloc (Nat.le_refl _) _
  have hog : oc g0 = 0 := by
    by_cases h0 : oc g0 = 0
    · exact h0
    · have := h.ol g0 h0; omega
  have h1 := h.below hb1
  have HH := Lib.hid h1
  have HSY := Lib.hid hS
  have HTX := Lib.hid hv
  have HBAS := Lib.hid hB
  have HW1 := Lib.hid hw1
  have HG0 := Lib.hid hg0
  have HX := Lib.hid hbx
  have HOG := Lib.hid hog
  have HT := Lib.hid ht
  have HLL := Lib.hid hll
  have c0 : w1.cell? ⟨g0, 0, none⟩ = some (.int .i64 4) := cellB hbx rfl
  obtain ⟨ns, hns⟩ : ∃ x, x = S.length := ⟨_, rfl⟩
  have hsd := h1.sd id
  rw [← hns] at hsd
  obtain ⟨ps, cs, rfl, _⟩ := hsd.cells
  have HSD := Lib.hid hsd
  have hns6 : ns ≤ 6 := by rw [hns]; exact h1.sl
  have HNS := Lib.hid hns
  have c1 : w1.cell? ⟨wb, 0, none⟩ = some (.slice ps ns cs) := cellB (h1.wx id) rfl
  clear hsd hns
  clear h hS hv hB hw1 hg0 hbx hb1 hog h1 ht hll
  go_enter Tryd.func22, Tryd.ntmps22
  go_upto_region 1 with fail
  rw [← HW1.out, ← HG0.out]
  go_upto_region 17 with fail
  by_cases hz : ns = 0
  · subst hz
    go_wp2_with fail
    go_ret
    exact ⟨rfl, PlK.more (t := t) ⟨col, oc, S, _, hv0, hl, HH.out, HSY.out⟩ (Nat.le_add_right _ _)⟩
  have hz1 : ((ns : Int) == 0) = false := by rw [beq_eq_false_iff_ne]; omega
  have hz2 : ¬ (ns : Int) = 0 := by omega
  obtain ⟨i, hi⟩ : ∃ i, i = pickN on ns := ⟨_, rfl⟩
  have hin : i < ns := by rw [hi]; exact pickN_lt on (by omega)
  obtain ⟨s, hs⟩ : ∃ s, S[i]? = some s := ⟨S[i]'(by rw [← HNS.out]; exact hin), List.getElem?_eq_getElem _⟩
  have CP : Hid (∀ w', Calls Tryd.prog 49 #[.int .i64 on, .int .i64 (ns : Int)] w' fun e w'' => e = .returned (.int .i64 (i : Int)) ∧ w'' = w') := Lib.hid (fun w' => by rw [hi]; exact pickU_any on ns w' (by omega) (by omega) hon)
  obtain ⟨sb, rfl⟩ : ∃ sb, ps = some ⟨sb, 0, none⟩ := by
    rcases HSD.out.2 with ⟨e, e2⟩ | ⟨g, cap, cur, e, _⟩
    · omega
    · injection e with e1 _ _; exact ⟨g, e1⟩
  obtain ⟨⟨e, ne, He, x, mx, Kx⟩, hse⟩ : ∃ s', s' = s := ⟨_, rfl⟩
  subst hse
  have hsync := HSY.out _ (List.mem_of_getElem? hs)
  obtain ⟨rfl, rfl⟩ : ne = mx ∧ He = Kx := hsync
  have HSS : Hid (∀ w', Below w1.heap.size w1 w' → w'.cell? ⟨wb, 0, none⟩ = some (.slice (some ⟨sb, 0, none⟩) ns cs) ∧ w'.cell? ⟨g0, 1, none⟩ = some (.int .i64 on) ∧ w'.cell? ⟨sb, i * 2, none⟩ = some (.pointer (some ⟨e, 0, none⟩)) ∧ w'.cell? ⟨sb, i * 2 + 1, none⟩ = some (.pointer (some ⟨x, 0, none⟩))) := Lib.hid (fun w' hb => by
    obtain ⟨k1, k2⟩ := sdV_get hs
    obtain ⟨p', c', e1, _, _, hc⟩ := (HSD.out.below hb).cells
    injection e1 with e1 _ _
    have hadd : ∀ j, (⟨sb, 0, none⟩ : Addr).add j = ⟨sb, j, none⟩ := fun j => by unfold Addr.add; split <;> simp_all
    obtain ⟨a1, ha1, _, hc1⟩ := hc _ _ k1
    obtain ⟨a2, ha2, _, hc2⟩ := hc _ _ k2
    rw [← e1] at ha1 ha2
    obtain rfl := Option.some.inj ha1
    obtain rfl := Option.some.inj ha2
    rw [hadd] at hc1 hc2
    exact ⟨cellB ((HH.out.below hb).wx id) rfl, cellB (blk_below HX.out hb (blk_lt HX.out)) rfl, hc1, hc2⟩)
  have hii : (i : Int) < (ns : Int) := by omega
  have hi0 : (0 : Int) ≤ (i : Int) := by omega
  have hwi : IntKind.i64.wrap (i : Int) = (i : Int) := wrap_i64_id _ (by omega) (by omega)
  obtain ⟨O, hO⟩ : ∃ O : Array Value, O = #[.int .i64 4, .int .i64 on, .int .i64 n, .int .i64 m, .string z, .slice p ln c] := ⟨_, rfl⟩
  have HOO := Lib.hid hO
  have HSI := Lib.hid hs
  have HB0 : Hid (Below w1.heap.size w1 w1.drew) := Lib.hid (Below.refl _ _).drew
  clear hi hs c0 hO
  go_upto_region 19 with fail
  clear c1 hz1 hz2
  go_cut [9] from 83 to 103 (fun x9 wx => ∃ sx, x9 = .pointer (some ⟨sx, 0, none⟩) ∧ Hid (PsX W wx wb b t g0 sx i e x O ne He ne He))
  case first =>
    refine wp_region_held_drew (S := fun w' => w'.cell? ⟨wb, 0, none⟩ = some (.slice (some ⟨sb, 0, none⟩) ns cs) ∧ w'.cell? ⟨g0, 1, none⟩ = some (.int .i64 on) ∧ w'.cell? ⟨sb, i * 2, none⟩ = some (.pointer (some ⟨e, 0, none⟩)) ∧ w'.cell? ⟨sb, i * 2 + 1, none⟩ = some (.pointer (some ⟨x, 0, none⟩))) (by kernel_rfl) (by exact HSS.out _ (by first | exact HBs.out | exact HBy.out | exact HB0.out)) (fun hHeld => ?_)
    refine wpAnyH_take (i := 0) (oi := ⟨_, _, _, _, _, _⟩) (v := ?_) rfl (by kernel_rfl) (by kernel_rfl) (by kernel_rfl) (fun _ _ _ h => h) (Or.inl ⟨by rfl, ?_⟩) hHeld ?_
    rotate_left
    · ((intro w hSw; (try dsimp only at hSw); go_simp) <;> with_reducible rfl)
    try simp only [Act.put, List.setIfInBounds_toArray, List.set_cons_zero, List.set_cons_succ]
    refine wpAnyH_take (i := 1) (oi := ⟨_, _, _, _, _, _⟩) (v := ?_) rfl (by kernel_rfl) (by kernel_rfl) (by kernel_rfl) (fun _ _ _ h => h) (Or.inl ⟨by rfl, ?_⟩) hHeld ?_
    rotate_left
    · ((intro w hSw; (try dsimp only at hSw); go_simp) <;> with_reducible rfl)
    try simp only [Act.put, List.setIfInBounds_toArray, List.set_cons_zero, List.set_cons_succ]
    refine wpAnyH_take (i := 2) (oi := ⟨_, _, _, _, _, _⟩) (v := ?_) rfl (by kernel_rfl) (by kernel_rfl) (by kernel_rfl) (fun _ _ _ h => h) (Or.inl ⟨by rfl, ?_⟩) hHeld ?_
    rotate_left
    · ((intro w hSw; (try dsimp only at hSw); go_simp) <;> with_reducible rfl)
    try simp only [Act.put, List.setIfInBounds_toArray, List.set_cons_zero, List.set_cons_succ]
    refine wpAnyH_take (i := 3) (oi := ⟨_, _, _, _, _, _⟩) (v := ?_) rfl (by kernel_rfl) (by kernel_rfl) (by kernel_rfl) (fun _ _ _ h => h) (Or.inl ⟨by rfl, ?_⟩) hHeld ?_
    rotate_left
    · ((intro w hSw; (try dsimp only at hSw); go_simp) <;> with_reducible rfl)
    try simp only [Act.put, List.setIfInBounds_toArray, List.set_cons_zero, List.set_cons_succ]
    refine wpAnyH_take (i := 4) (oi := ⟨_, _, _, _, _, _⟩) (v := ?_) rfl (by kernel_rfl) (by kernel_rfl) (by kernel_rfl) (fun _ _ _ h => h) (Or.inl ⟨by rfl, ?_⟩) hHeld ?_
    rotate_left
    · ((intro w hSw; (try dsimp only at hSw); go_simp) <;> with_reducible rfl)
    try simp only [Act.put, List.setIfInBounds_toArray, List.set_cons_zero, List.set_cons_succ]
    refine wpAnyH_take (i := 5) (oi := ⟨_, _, _, _, _, _⟩) (v := ?_) rfl (by kernel_rfl) (by kernel_rfl) (by kernel_rfl) (fun _ _ _ h => h) (Or.inl ⟨by rfl, ?_⟩) hHeld ?_
    rotate_left
    · ((intro w hSw; (try dsimp only at hSw); go_simp) <;> with_reducible rfl)
    try simp only [Act.put, List.setIfInBounds_toArray, List.set_cons_zero, List.set_cons_succ]
    refine wpAnyH_take (i := 6) (oi := ⟨_, _, _, _, _, _⟩) (v := ?_) rfl (by kernel_rfl) (by kernel_rfl) (by kernel_rfl) (fun _ _ _ h => h) (Or.inl ⟨by rfl, ?_⟩) hHeld ?_
    rotate_left
    · ((intro w hSw; (try dsimp only at hSw); go_simp) <;> with_reducible rfl)
    try simp only [Act.put, List.setIfInBounds_toArray, List.set_cons_zero, List.set_cons_succ]
    refine wpAnyH_take (i := 7) (oi := ⟨_, _, _, _, _, _⟩) (v := ?_) rfl (by kernel_rfl) (by kernel_rfl) (by kernel_rfl) (fun _ _ _ h => h) (Or.inl ⟨by rfl, ?_⟩) hHeld ?_
    rotate_left
    · ((intro w hSw; (try dsimp only at hSw); go_simp) <;> with_reducible rfl)
    try simp only [Act.put, List.setIfInBounds_toArray, List.set_cons_zero, List.set_cons_succ]
    refine wpAnyH_take (i := 8) (oi := ⟨_, _, _, _, _, _⟩) (v := ?_) rfl (by kernel_rfl) (by kernel_rfl) (by kernel_rfl) (fun _ _ _ h => h) (Or.inl ⟨by rfl, ?_⟩) hHeld ?_
    rotate_left
    · ((intro w hSw; (try dsimp only at hSw); go_simp) <;> with_reducible rfl)
    try simp only [Act.put, List.setIfInBounds_toArray, List.set_cons_zero, List.set_cons_succ]
    refine wpAnyH_take (i := 9) (oi := ⟨_, _, _, _, _, _⟩) (v := ?_) rfl (by kernel_rfl) (by kernel_rfl) (by kernel_rfl) (fun _ _ _ h => h) (Or.inl ⟨by rfl, ?_⟩) hHeld ?_
    rotate_left
    · ((intro w hSw; (try dsimp only at hSw); go_simp) <;> with_reducible rfl)
    try simp only [Act.put, List.setIfInBounds_toArray, List.set_cons_zero, List.set_cons_succ]
    refine wpAnyH_take (i := 10) (oi := ⟨_, _, _, _, _, _⟩) (v := ?_) rfl (by kernel_rfl) (by kernel_rfl) (by kernel_rfl) (fun _ _ _ h => h) (Or.inl ⟨by rfl, ?_⟩) hHeld ?_
    rotate_left
    · ((intro w hSw; (try dsimp only at hSw); go_simp) <;> with_reducible rfl)
    try simp only [Act.put, List.setIfInBounds_toArray, List.set_cons_zero, List.set_cons_succ]
    refine wpAnyH_ready (rs := [11, 14]) (by kernel_rfl) (by simp) ?_
    refine AllReadyH.cons (o := ⟨_, _, _, _, _, _⟩) rfl (fun KC hK => ?_) ?_
    rotate_left
    refine AllReadyH.cons (o := ⟨_, _, _, _, _, _⟩) rfl (fun KC hK => ?_) ?_
    rotate_left
    · exact AllReadyH.nil
    · go_simp
      go_at_call 49
      (with_reducible refine (CP.out _).mono ?_)
      rintro o w9 ⟨rfl, hww⟩
      rw [hww]
      clear hww w9
      refine hK.out _ _ (by exact HSS.out _ (by first | exact HBs.out | exact HBy.out | exact HB0.out)) (fun hHeld => ?_)
      clear hK KC
      try simp only [Act.put, List.setIfInBounds_toArray, List.set_cons_zero, List.set_cons_succ]
      refine wpAnyH_take (i := 12) (oi := ⟨_, _, _, _, _, _⟩) (v := ?_) rfl (by kernel_rfl) (by kernel_rfl) (by kernel_rfl) (fun _ _ _ h => h) (Or.inl ⟨by rfl, ?_⟩) hHeld ?_
      rotate_left
      · ((intro w hSw; (try dsimp only at hSw); go_simp) <;> with_reducible rfl)
      try simp only [Act.put, List.setIfInBounds_toArray, List.set_cons_zero, List.set_cons_succ]
      refine wpAnyH_take (i := 13) (oi := ⟨_, _, _, _, _, _⟩) (v := ?_) rfl (by kernel_rfl) (by kernel_rfl) (by kernel_rfl) (fun _ _ _ h => h) (Or.inl ⟨by rfl, ?_⟩) hHeld ?_
      rotate_left
      · ((intro w hSw; (try dsimp only at hSw); go_simp) <;> with_reducible rfl)
      try simp only [Act.put, List.setIfInBounds_toArray, List.set_cons_zero, List.set_cons_succ]
      refine wpAnyH_ready (rs := [14]) (by kernel_rfl) (by simp) ?_
      refine AllReadyH.cons (o := ⟨_, _, _, _, _, _⟩) rfl (fun KC hK => ?_) ?_
      rotate_left
      · exact AllReadyH.nil
      go_simp
      obtain ⟨w2, sx, e1, e2, HS2, HBy⟩ := sbox_newD w1
      rw [e1, e2]
      have HSX := Lib.hid e2
      clear e1 e2
      refine hK.out _ _ (by exact HSS.out _ (by first | exact HBs.out | exact HBy.out | exact HB0.out)) (fun hHeld => ?_)
      clear hK KC
      try simp only [Act.put, List.setIfInBounds_toArray, List.set_cons_zero, List.set_cons_succ]
      refine wpAnyH_ready (rs := [15]) (by kernel_rfl) (by simp) ?_
      refine AllReadyH.cons (o := ⟨_, _, _, _, _, _⟩) rfl (fun KC hK => ?_) ?_
      rotate_left
      · exact AllReadyH.nil
      obtain ⟨k0, k1⟩ := sbox_c HS2.out
      have f0 : w2.frozen? ⟨sx, 0, none⟩ = false := frozB HS2.out
      have f1 : w2.frozen? ⟨sx, 1, none⟩ = false := frozB HS2.out
      go_simp
      have HPS : Hid (PsX W ((w2.setCell ⟨sx, 0, none⟩ (.pointer (some ⟨e, 0, none⟩))).setCell ⟨sx, 1, none⟩ (.pointer (some ⟨x, 0, none⟩))) wb b t g0 sx i e x O ne He ne He) := Lib.hid (ps_make HH.out HSY.out HSI.out (by rw [HOO.out]; exact HX.out) HOG.out HS2.out HBy.out (Nat.le_of_eq HSX.out))
      have HBs : Hid (Below w1.heap.size w1 ((w2.setCell ⟨sx, 0, none⟩ (.pointer (some ⟨e, 0, none⟩))).setCell ⟨sx, 1, none⟩ (.pointer (some ⟨x, 0, none⟩)))) := Lib.hid ((HBy.out.setCell (p := ⟨sx, 0, none⟩) (Nat.le_of_eq HSX.out) _).setCell (p := ⟨sx, 1, none⟩) (Nat.le_of_eq HSX.out) _)
      refine hK.out _ _ (by exact HSS.out _ (by first | exact HBs.out | exact HBy.out | exact HB0.out)) (fun hHeld => ?_)
      clear hK KC
      try simp only [Act.put, List.setIfInBounds_toArray, List.set_cons_zero, List.set_cons_succ]
      refine wpAnyH_done (by kernel_rfl) ?_ _
      go_wp2_with fail
      go_meet
      exact ⟨sx, rfl, HPS⟩
    · go_simp
      obtain ⟨w2, sx, e1, e2, HS2, HBy⟩ := sbox_newD w1
      rw [e1, e2]
      have HSX := Lib.hid e2
      clear e1 e2
      refine hK.out _ _ (by exact HSS.out _ (by first | exact HBs.out | exact HBy.out | exact HB0.out)) (fun hHeld => ?_)
      clear hK KC
      try simp only [Act.put, List.setIfInBounds_toArray, List.set_cons_zero, List.set_cons_succ]
      refine wpAnyH_ready (rs := [11]) (by kernel_rfl) (by simp) ?_
      refine AllReadyH.cons (o := ⟨_, _, _, _, _, _⟩) rfl (fun KC hK => ?_) ?_
      rotate_left
      · exact AllReadyH.nil
      go_simp
      go_at_call 49
      (with_reducible refine (CP.out _).mono ?_)
      rintro o w9 ⟨rfl, hww⟩
      rw [hww]
      clear hww w9
      refine hK.out _ _ (by exact HSS.out _ (by first | exact HBs.out | exact HBy.out | exact HB0.out)) (fun hHeld => ?_)
      clear hK KC
      try simp only [Act.put, List.setIfInBounds_toArray, List.set_cons_zero, List.set_cons_succ]
      refine wpAnyH_take (i := 12) (oi := ⟨_, _, _, _, _, _⟩) (v := ?_) rfl (by kernel_rfl) (by kernel_rfl) (by kernel_rfl) (fun _ _ _ h => h) (Or.inl ⟨by rfl, ?_⟩) hHeld ?_
      rotate_left
      · ((intro w hSw; (try dsimp only at hSw); go_simp) <;> with_reducible rfl)
      try simp only [Act.put, List.setIfInBounds_toArray, List.set_cons_zero, List.set_cons_succ]
      refine wpAnyH_take (i := 13) (oi := ⟨_, _, _, _, _, _⟩) (v := ?_) rfl (by kernel_rfl) (by kernel_rfl) (by kernel_rfl) (fun _ _ _ h => h) (Or.inl ⟨by rfl, ?_⟩) hHeld ?_
      rotate_left
      · ((intro w hSw; (try dsimp only at hSw); go_simp) <;> with_reducible rfl)
      try simp only [Act.put, List.setIfInBounds_toArray, List.set_cons_zero, List.set_cons_succ]
      refine wpAnyH_ready (rs := [15]) (by kernel_rfl) (by simp) ?_
      refine AllReadyH.cons (o := ⟨_, _, _, _, _, _⟩) rfl (fun KC hK => ?_) ?_
      rotate_left
      · exact AllReadyH.nil
      obtain ⟨k0, k1⟩ := sbox_c HS2.out
      have f0 : w2.frozen? ⟨sx, 0, none⟩ = false := frozB HS2.out
      have f1 : w2.frozen? ⟨sx, 1, none⟩ = false := frozB HS2.out
      go_simp
      have HPS : Hid (PsX W ((w2.setCell ⟨sx, 0, none⟩ (.pointer (some ⟨e, 0, none⟩))).setCell ⟨sx, 1, none⟩ (.pointer (some ⟨x, 0, none⟩))) wb b t g0 sx i e x O ne He ne He) := Lib.hid (ps_make HH.out HSY.out HSI.out (by rw [HOO.out]; exact HX.out) HOG.out HS2.out HBy.out (Nat.le_of_eq HSX.out))
      have HBs : Hid (Below w1.heap.size w1 ((w2.setCell ⟨sx, 0, none⟩ (.pointer (some ⟨e, 0, none⟩))).setCell ⟨sx, 1, none⟩ (.pointer (some ⟨x, 0, none⟩)))) := Lib.hid ((HBy.out.setCell (p := ⟨sx, 0, none⟩) (Nat.le_of_eq HSX.out) _).setCell (p := ⟨sx, 1, none⟩) (Nat.le_of_eq HSX.out) _)
      refine hK.out _ _ (by exact HSS.out _ (by first | exact HBs.out | exact HBy.out | exact HB0.out)) (fun hHeld => ?_)
      clear hK KC
      try simp only [Act.put, List.setIfInBounds_toArray, List.set_cons_zero, List.set_cons_succ]
      refine wpAnyH_done (by kernel_rfl) ?_ _
      go_wp2_with fail
      go_meet
      exact ⟨sx, rfl, HPS⟩
  case rest =>
    obtain ⟨sx, rfl, HP⟩ := hcut
    clear HSS HSD HNS CP hii hin hz hns6 hi0 hwi HH HX HSI HB0 HOG HW1 HG0
    have HCC : Hid (∀ w' a1 a2 a3 a4, PsX W w' wb b t g0 sx i e x O a1 a2 a3 a4 → w'.cell? ⟨sx, 0, none⟩ = some (.pointer (some ⟨e, 0, none⟩)) ∧ w'.cell? ⟨sx, 1, none⟩ = some (.pointer (some ⟨x, 0, none⟩)) ∧ w'.cell? ⟨g0, 0, none⟩ = some (.int .i64 4) ∧ w'.cell? ⟨g0, 2, none⟩ = some (.int .i64 n) ∧ w'.cell? ⟨g0, 3, none⟩ = some (.int .i64 m) ∧ w'.cell? ⟨g0, 4, none⟩ = some (.string z) ∧ w'.cell? ⟨wb, 1, none⟩ = some (.pointer (some ⟨b, 0, none⟩))) := Lib.hid (fun w' a1 a2 a3 a4 h => by
      obtain ⟨k1, k2, k3, k4⟩ := h.c
      rw [HOO.out] at k3
      exact ⟨k1, k2, k3 0 _ rfl, k3 2 _ rfl, k3 3 _ rfl, k3 4 _ rfl, k4⟩)
    clear HOO
    have CLF : Hid (∀ (c : Int) w', Calls Tryd.prog 48 #[.int .i64 c] w' fun e w'' => e = .returned (.string (leafSU c)) ∧ Below w'.heap.size w' w'') := Lib.hid leafU_any
    obtain ⟨c0, c1, c2, c3, c4, c5, c6⟩ := HCC.out _ _ _ _ _ HP.out
    go_upto_region 23 with (go_at_call 44; (with_reducible refine (HP.out.addE HBAS.out z).mono ?_); rintro o wa ⟨rfl, h⟩; have HPa := Lib.hid h; clear h)
    obtain ⟨d0, d1, d2, d3, d4, d5, d6⟩ := HCC.out _ _ _ _ _ HPa.out
    go_wp2_with (go_at_call 75; (with_reducible refine (HPa.out.addX z).mono ?_); rintro o wb2 ⟨rfl, h⟩; have HPb := Lib.hid h; clear h)
    go_ret
    exact ⟨by simp, HPb.out.ends.more (Nat.le_add_right _ _)⟩
set_option maxRecDepth 100000 in
set_option maxHeartbeats 16000000 in
theorem play_5 {W w : World} {wb b t ln c : Nat} {p : Option Addr} {on n m : Int} {z : ByteArray} {L : List ByteArray} (hB : Bas W W.heap.size) (h : PlK W w wb b t) (hv : Txts W (.slice p ln c) L) (hll : L.length ≤ 1048576) (hon : -9223372036854775808 ≤ on ∧ on ≤ 9223372036854775807) (hn : -9223372036854775808 ≤ n ∧ n ≤ 9223372036854775807) (hm : -9223372036854775808 ≤ m ∧ m ≤ 9223372036854775807) (ht : t ≤ 900) :
    Calls Tryd.prog 22 #[.pointer (some ⟨wb, 0, none⟩), .agg #[.int .i64 5, .int .i64 on, .int .i64 n, .int .i64 m, .string z, .slice p ln c]] w fun o w' => o = .returned (.bool true) ∧ PlK W w' wb b (t + 2) := by
  obtain ⟨col, oc, S, sv, hv0, hl, h, hS⟩ := h
  obtain ⟨g0, hg0⟩ : ∃ x, x = w.heap.size := ⟨_, rfl⟩
  obtain ⟨w1, hw1⟩ : ∃ x, x = w.alloc (.cells #[.int .i64 5, .int .i64 on, .int .i64 n, .int .i64 m, .string z, .slice p ln c] 54) := ⟨_, rfl⟩
  have hbx : w1.heap[g0]? = some (.cells #[.int .i64 5, .int .i64 on, .int .i64 n, .int .i64 m, .string z, .slice p ln c] 54 (0, 0)) := by rw [hw1, hg0]; exact heap_alloc_new w _
  have hb1 : Below w.heap.size w w1 := by rw [hw1]; exact (Below.refl _ _).alloc (Nat.le_refl _) _
  have hog : oc g0 = 0 := by
    by_cases h0 : oc g0 = 0
    · exact h0
    · have := h.ol g0 h0; omega
  have h1 := h.below hb1
  have HH := Lib.hid h1
  have HSY := Lib.hid hS
  have HTX := Lib.hid hv
  have HBAS := Lib.hid hB
  have HW1 := Lib.hid hw1
  have HG0 := Lib.hid hg0
  have HX := Lib.hid hbx
  have HOG := Lib.hid hog
  have HT := Lib.hid ht
  have HLL := Lib.hid hll
  have c0 : w1.cell? ⟨g0, 0, none⟩ = some (.int .i64 5) := cellB hbx rfl
  obtain ⟨ns, hns⟩ : ∃ x, x = S.length := ⟨_, rfl⟩
  have hsd := h1.sd id
  rw [← hns] at hsd
  obtain ⟨ps, cs, rfl, _⟩ := hsd.cells
  have HSD := Lib.hid hsd
  have hns6 : ns ≤ 6 := by rw [hns]; exact h1.sl
  have HNS := Lib.hid hns
  have c1 : w1.cell? ⟨wb, 0, none⟩ = some (.slice ps ns cs) := cellB (h1.wx id) rfl
  clear hsd hns
  clear h hS hv hB hw1 hg0 hbx hb1 hog h1 ht hll
  go_enter Tryd.func22, Tryd.ntmps22
  go_upto_region 1 with fail
  rw [← HW1.out, ← HG0.out]
  go_upto_region 17 with fail
  by_cases hz : ns = 0
  · subst hz
    go_wp2_with fail
    go_ret
    exact ⟨rfl, PlK.more (t := t) ⟨col, oc, S, _, hv0, hl, HH.out, HSY.out⟩ (Nat.le_add_right _ _)⟩
  have hz1 : ((ns : Int) == 0) = false := by rw [beq_eq_false_iff_ne]; omega
  have hz2 : ¬ (ns : Int) = 0 := by omega
  obtain ⟨i, hi⟩ : ∃ i, i = pickN on ns := ⟨_, rfl⟩
  have hin : i < ns := by rw [hi]; exact pickN_lt on (by omega)
  obtain ⟨s, hs⟩ : ∃ s, S[i]? = some s := ⟨S[i]'(by rw [← HNS.out]; exact hin), List.getElem?_eq_getElem _⟩
  have CP : Hid (∀ w', Calls Tryd.prog 49 #[.int .i64 on, .int .i64 (ns : Int)] w' fun e w'' => e = .returned (.int .i64 (i : Int)) ∧ w'' = w') := Lib.hid (fun w' => by rw [hi]; exact pickU_any on ns w' (by omega) (by omega) hon)
  obtain ⟨sb, rfl⟩ : ∃ sb, ps = some ⟨sb, 0, none⟩ := by
    rcases HSD.out.2 with ⟨e, e2⟩ | ⟨g, cap, cur, e, _⟩
    · omega
    · injection e with e1 _ _; exact ⟨g, e1⟩
  obtain ⟨⟨e, ne, He, x, mx, Kx⟩, hse⟩ : ∃ s', s' = s := ⟨_, rfl⟩
  subst hse
  have hsync := HSY.out _ (List.mem_of_getElem? hs)
  obtain ⟨rfl, rfl⟩ : ne = mx ∧ He = Kx := hsync
  have HSS : Hid (∀ w', Below w1.heap.size w1 w' → w'.cell? ⟨wb, 0, none⟩ = some (.slice (some ⟨sb, 0, none⟩) ns cs) ∧ w'.cell? ⟨g0, 1, none⟩ = some (.int .i64 on) ∧ w'.cell? ⟨sb, i * 2, none⟩ = some (.pointer (some ⟨e, 0, none⟩)) ∧ w'.cell? ⟨sb, i * 2 + 1, none⟩ = some (.pointer (some ⟨x, 0, none⟩))) := Lib.hid (fun w' hb => by
    obtain ⟨k1, k2⟩ := sdV_get hs
    obtain ⟨p', c', e1, _, _, hc⟩ := (HSD.out.below hb).cells
    injection e1 with e1 _ _
    have hadd : ∀ j, (⟨sb, 0, none⟩ : Addr).add j = ⟨sb, j, none⟩ := fun j => by unfold Addr.add; split <;> simp_all
    obtain ⟨a1, ha1, _, hc1⟩ := hc _ _ k1
    obtain ⟨a2, ha2, _, hc2⟩ := hc _ _ k2
    rw [← e1] at ha1 ha2
    obtain rfl := Option.some.inj ha1
    obtain rfl := Option.some.inj ha2
    rw [hadd] at hc1 hc2
    exact ⟨cellB ((HH.out.below hb).wx id) rfl, cellB (blk_below HX.out hb (blk_lt HX.out)) rfl, hc1, hc2⟩)
  have hii : (i : Int) < (ns : Int) := by omega
  have hi0 : (0 : Int) ≤ (i : Int) := by omega
  have hwi : IntKind.i64.wrap (i : Int) = (i : Int) := wrap_i64_id _ (by omega) (by omega)
  obtain ⟨O, hO⟩ : ∃ O : Array Value, O = #[.int .i64 5, .int .i64 on, .int .i64 n, .int .i64 m, .string z, .slice p ln c] := ⟨_, rfl⟩
  have HOO := Lib.hid hO
  have HSI := Lib.hid hs
  have HB0 : Hid (Below w1.heap.size w1 w1.drew) := Lib.hid (Below.refl _ _).drew
  clear hi hs c0 hO
  go_upto_region 19 with fail
  clear c1 hz1 hz2
  go_cut [9] from 83 to 103 (fun x9 wx => ∃ sx, x9 = .pointer (some ⟨sx, 0, none⟩) ∧ Hid (PsX W wx wb b t g0 sx i e x O ne He ne He))
  case first =>
    refine wp_region_held_drew (S := fun w' => w'.cell? ⟨wb, 0, none⟩ = some (.slice (some ⟨sb, 0, none⟩) ns cs) ∧ w'.cell? ⟨g0, 1, none⟩ = some (.int .i64 on) ∧ w'.cell? ⟨sb, i * 2, none⟩ = some (.pointer (some ⟨e, 0, none⟩)) ∧ w'.cell? ⟨sb, i * 2 + 1, none⟩ = some (.pointer (some ⟨x, 0, none⟩))) (by kernel_rfl) (by exact HSS.out _ (by first | exact HBs.out | exact HBy.out | exact HB0.out)) (fun hHeld => ?_)
    refine wpAnyH_take (i := 0) (oi := ⟨_, _, _, _, _, _⟩) (v := ?_) rfl (by kernel_rfl) (by kernel_rfl) (by kernel_rfl) (fun _ _ _ h => h) (Or.inl ⟨by rfl, ?_⟩) hHeld ?_
    rotate_left
    · ((intro w hSw; (try dsimp only at hSw); go_simp) <;> with_reducible rfl)
    try simp only [Act.put, List.setIfInBounds_toArray, List.set_cons_zero, List.set_cons_succ]
    refine wpAnyH_take (i := 1) (oi := ⟨_, _, _, _, _, _⟩) (v := ?_) rfl (by kernel_rfl) (by kernel_rfl) (by kernel_rfl) (fun _ _ _ h => h) (Or.inl ⟨by rfl, ?_⟩) hHeld ?_
    rotate_left
    · ((intro w hSw; (try dsimp only at hSw); go_simp) <;> with_reducible rfl)
    try simp only [Act.put, List.setIfInBounds_toArray, List.set_cons_zero, List.set_cons_succ]
    refine wpAnyH_take (i := 2) (oi := ⟨_, _, _, _, _, _⟩) (v := ?_) rfl (by kernel_rfl) (by kernel_rfl) (by kernel_rfl) (fun _ _ _ h => h) (Or.inl ⟨by rfl, ?_⟩) hHeld ?_
    rotate_left
    · ((intro w hSw; (try dsimp only at hSw); go_simp) <;> with_reducible rfl)
    try simp only [Act.put, List.setIfInBounds_toArray, List.set_cons_zero, List.set_cons_succ]
    refine wpAnyH_take (i := 3) (oi := ⟨_, _, _, _, _, _⟩) (v := ?_) rfl (by kernel_rfl) (by kernel_rfl) (by kernel_rfl) (fun _ _ _ h => h) (Or.inl ⟨by rfl, ?_⟩) hHeld ?_
    rotate_left
    · ((intro w hSw; (try dsimp only at hSw); go_simp) <;> with_reducible rfl)
    try simp only [Act.put, List.setIfInBounds_toArray, List.set_cons_zero, List.set_cons_succ]
    refine wpAnyH_take (i := 4) (oi := ⟨_, _, _, _, _, _⟩) (v := ?_) rfl (by kernel_rfl) (by kernel_rfl) (by kernel_rfl) (fun _ _ _ h => h) (Or.inl ⟨by rfl, ?_⟩) hHeld ?_
    rotate_left
    · ((intro w hSw; (try dsimp only at hSw); go_simp) <;> with_reducible rfl)
    try simp only [Act.put, List.setIfInBounds_toArray, List.set_cons_zero, List.set_cons_succ]
    refine wpAnyH_take (i := 5) (oi := ⟨_, _, _, _, _, _⟩) (v := ?_) rfl (by kernel_rfl) (by kernel_rfl) (by kernel_rfl) (fun _ _ _ h => h) (Or.inl ⟨by rfl, ?_⟩) hHeld ?_
    rotate_left
    · ((intro w hSw; (try dsimp only at hSw); go_simp) <;> with_reducible rfl)
    try simp only [Act.put, List.setIfInBounds_toArray, List.set_cons_zero, List.set_cons_succ]
    refine wpAnyH_take (i := 6) (oi := ⟨_, _, _, _, _, _⟩) (v := ?_) rfl (by kernel_rfl) (by kernel_rfl) (by kernel_rfl) (fun _ _ _ h => h) (Or.inl ⟨by rfl, ?_⟩) hHeld ?_
    rotate_left
    · ((intro w hSw; (try dsimp only at hSw); go_simp) <;> with_reducible rfl)
    try simp only [Act.put, List.setIfInBounds_toArray, List.set_cons_zero, List.set_cons_succ]
    refine wpAnyH_take (i := 7) (oi := ⟨_, _, _, _, _, _⟩) (v := ?_) rfl (by kernel_rfl) (by kernel_rfl) (by kernel_rfl) (fun _ _ _ h => h) (Or.inl ⟨by rfl, ?_⟩) hHeld ?_
    rotate_left
    · ((intro w hSw; (try dsimp only at hSw); go_simp) <;> with_reducible rfl)
    try simp only [Act.put, List.setIfInBounds_toArray, List.set_cons_zero, List.set_cons_succ]
    refine wpAnyH_take (i := 8) (oi := ⟨_, _, _, _, _, _⟩) (v := ?_) rfl (by kernel_rfl) (by kernel_rfl) (by kernel_rfl) (fun _ _ _ h => h) (Or.inl ⟨by rfl, ?_⟩) hHeld ?_
    rotate_left
    · ((intro w hSw; (try dsimp only at hSw); go_simp) <;> with_reducible rfl)
    try simp only [Act.put, List.setIfInBounds_toArray, List.set_cons_zero, List.set_cons_succ]
    refine wpAnyH_take (i := 9) (oi := ⟨_, _, _, _, _, _⟩) (v := ?_) rfl (by kernel_rfl) (by kernel_rfl) (by kernel_rfl) (fun _ _ _ h => h) (Or.inl ⟨by rfl, ?_⟩) hHeld ?_
    rotate_left
    · ((intro w hSw; (try dsimp only at hSw); go_simp) <;> with_reducible rfl)
    try simp only [Act.put, List.setIfInBounds_toArray, List.set_cons_zero, List.set_cons_succ]
    refine wpAnyH_take (i := 10) (oi := ⟨_, _, _, _, _, _⟩) (v := ?_) rfl (by kernel_rfl) (by kernel_rfl) (by kernel_rfl) (fun _ _ _ h => h) (Or.inl ⟨by rfl, ?_⟩) hHeld ?_
    rotate_left
    · ((intro w hSw; (try dsimp only at hSw); go_simp) <;> with_reducible rfl)
    try simp only [Act.put, List.setIfInBounds_toArray, List.set_cons_zero, List.set_cons_succ]
    refine wpAnyH_ready (rs := [11, 14]) (by kernel_rfl) (by simp) ?_
    refine AllReadyH.cons (o := ⟨_, _, _, _, _, _⟩) rfl (fun KC hK => ?_) ?_
    rotate_left
    refine AllReadyH.cons (o := ⟨_, _, _, _, _, _⟩) rfl (fun KC hK => ?_) ?_
    rotate_left
    · exact AllReadyH.nil
    · go_simp
      go_at_call 49
      (with_reducible refine (CP.out _).mono ?_)
      rintro o w9 ⟨rfl, hww⟩
      rw [hww]
      clear hww w9
      refine hK.out _ _ (by exact HSS.out _ (by first | exact HBs.out | exact HBy.out | exact HB0.out)) (fun hHeld => ?_)
      clear hK KC
      try simp only [Act.put, List.setIfInBounds_toArray, List.set_cons_zero, List.set_cons_succ]
      refine wpAnyH_take (i := 12) (oi := ⟨_, _, _, _, _, _⟩) (v := ?_) rfl (by kernel_rfl) (by kernel_rfl) (by kernel_rfl) (fun _ _ _ h => h) (Or.inl ⟨by rfl, ?_⟩) hHeld ?_
      rotate_left
      · ((intro w hSw; (try dsimp only at hSw); go_simp) <;> with_reducible rfl)
      try simp only [Act.put, List.setIfInBounds_toArray, List.set_cons_zero, List.set_cons_succ]
      refine wpAnyH_take (i := 13) (oi := ⟨_, _, _, _, _, _⟩) (v := ?_) rfl (by kernel_rfl) (by kernel_rfl) (by kernel_rfl) (fun _ _ _ h => h) (Or.inl ⟨by rfl, ?_⟩) hHeld ?_
      rotate_left
      · ((intro w hSw; (try dsimp only at hSw); go_simp) <;> with_reducible rfl)
      try simp only [Act.put, List.setIfInBounds_toArray, List.set_cons_zero, List.set_cons_succ]
      refine wpAnyH_ready (rs := [14]) (by kernel_rfl) (by simp) ?_
      refine AllReadyH.cons (o := ⟨_, _, _, _, _, _⟩) rfl (fun KC hK => ?_) ?_
      rotate_left
      · exact AllReadyH.nil
      go_simp
      obtain ⟨w2, sx, e1, e2, HS2, HBy⟩ := sbox_newD w1
      rw [e1, e2]
      have HSX := Lib.hid e2
      clear e1 e2
      refine hK.out _ _ (by exact HSS.out _ (by first | exact HBs.out | exact HBy.out | exact HB0.out)) (fun hHeld => ?_)
      clear hK KC
      try simp only [Act.put, List.setIfInBounds_toArray, List.set_cons_zero, List.set_cons_succ]
      refine wpAnyH_ready (rs := [15]) (by kernel_rfl) (by simp) ?_
      refine AllReadyH.cons (o := ⟨_, _, _, _, _, _⟩) rfl (fun KC hK => ?_) ?_
      rotate_left
      · exact AllReadyH.nil
      obtain ⟨k0, k1⟩ := sbox_c HS2.out
      have f0 : w2.frozen? ⟨sx, 0, none⟩ = false := frozB HS2.out
      have f1 : w2.frozen? ⟨sx, 1, none⟩ = false := frozB HS2.out
      go_simp
      have HPS : Hid (PsX W ((w2.setCell ⟨sx, 0, none⟩ (.pointer (some ⟨e, 0, none⟩))).setCell ⟨sx, 1, none⟩ (.pointer (some ⟨x, 0, none⟩))) wb b t g0 sx i e x O ne He ne He) := Lib.hid (ps_make HH.out HSY.out HSI.out (by rw [HOO.out]; exact HX.out) HOG.out HS2.out HBy.out (Nat.le_of_eq HSX.out))
      have HBs : Hid (Below w1.heap.size w1 ((w2.setCell ⟨sx, 0, none⟩ (.pointer (some ⟨e, 0, none⟩))).setCell ⟨sx, 1, none⟩ (.pointer (some ⟨x, 0, none⟩)))) := Lib.hid ((HBy.out.setCell (p := ⟨sx, 0, none⟩) (Nat.le_of_eq HSX.out) _).setCell (p := ⟨sx, 1, none⟩) (Nat.le_of_eq HSX.out) _)
      refine hK.out _ _ (by exact HSS.out _ (by first | exact HBs.out | exact HBy.out | exact HB0.out)) (fun hHeld => ?_)
      clear hK KC
      try simp only [Act.put, List.setIfInBounds_toArray, List.set_cons_zero, List.set_cons_succ]
      refine wpAnyH_done (by kernel_rfl) ?_ _
      go_wp2_with fail
      go_meet
      exact ⟨sx, rfl, HPS⟩
    · go_simp
      obtain ⟨w2, sx, e1, e2, HS2, HBy⟩ := sbox_newD w1
      rw [e1, e2]
      have HSX := Lib.hid e2
      clear e1 e2
      refine hK.out _ _ (by exact HSS.out _ (by first | exact HBs.out | exact HBy.out | exact HB0.out)) (fun hHeld => ?_)
      clear hK KC
      try simp only [Act.put, List.setIfInBounds_toArray, List.set_cons_zero, List.set_cons_succ]
      refine wpAnyH_ready (rs := [11]) (by kernel_rfl) (by simp) ?_
      refine AllReadyH.cons (o := ⟨_, _, _, _, _, _⟩) rfl (fun KC hK => ?_) ?_
      rotate_left
      · exact AllReadyH.nil
      go_simp
      go_at_call 49
      (with_reducible refine (CP.out _).mono ?_)
      rintro o w9 ⟨rfl, hww⟩
      rw [hww]
      clear hww w9
      refine hK.out _ _ (by exact HSS.out _ (by first | exact HBs.out | exact HBy.out | exact HB0.out)) (fun hHeld => ?_)
      clear hK KC
      try simp only [Act.put, List.setIfInBounds_toArray, List.set_cons_zero, List.set_cons_succ]
      refine wpAnyH_take (i := 12) (oi := ⟨_, _, _, _, _, _⟩) (v := ?_) rfl (by kernel_rfl) (by kernel_rfl) (by kernel_rfl) (fun _ _ _ h => h) (Or.inl ⟨by rfl, ?_⟩) hHeld ?_
      rotate_left
      · ((intro w hSw; (try dsimp only at hSw); go_simp) <;> with_reducible rfl)
      try simp only [Act.put, List.setIfInBounds_toArray, List.set_cons_zero, List.set_cons_succ]
      refine wpAnyH_take (i := 13) (oi := ⟨_, _, _, _, _, _⟩) (v := ?_) rfl (by kernel_rfl) (by kernel_rfl) (by kernel_rfl) (fun _ _ _ h => h) (Or.inl ⟨by rfl, ?_⟩) hHeld ?_
      rotate_left
      · ((intro w hSw; (try dsimp only at hSw); go_simp) <;> with_reducible rfl)
      try simp only [Act.put, List.setIfInBounds_toArray, List.set_cons_zero, List.set_cons_succ]
      refine wpAnyH_ready (rs := [15]) (by kernel_rfl) (by simp) ?_
      refine AllReadyH.cons (o := ⟨_, _, _, _, _, _⟩) rfl (fun KC hK => ?_) ?_
      rotate_left
      · exact AllReadyH.nil
      obtain ⟨k0, k1⟩ := sbox_c HS2.out
      have f0 : w2.frozen? ⟨sx, 0, none⟩ = false := frozB HS2.out
      have f1 : w2.frozen? ⟨sx, 1, none⟩ = false := frozB HS2.out
      go_simp
      have HPS : Hid (PsX W ((w2.setCell ⟨sx, 0, none⟩ (.pointer (some ⟨e, 0, none⟩))).setCell ⟨sx, 1, none⟩ (.pointer (some ⟨x, 0, none⟩))) wb b t g0 sx i e x O ne He ne He) := Lib.hid (ps_make HH.out HSY.out HSI.out (by rw [HOO.out]; exact HX.out) HOG.out HS2.out HBy.out (Nat.le_of_eq HSX.out))
      have HBs : Hid (Below w1.heap.size w1 ((w2.setCell ⟨sx, 0, none⟩ (.pointer (some ⟨e, 0, none⟩))).setCell ⟨sx, 1, none⟩ (.pointer (some ⟨x, 0, none⟩)))) := Lib.hid ((HBy.out.setCell (p := ⟨sx, 0, none⟩) (Nat.le_of_eq HSX.out) _).setCell (p := ⟨sx, 1, none⟩) (Nat.le_of_eq HSX.out) _)
      refine hK.out _ _ (by exact HSS.out _ (by first | exact HBs.out | exact HBy.out | exact HB0.out)) (fun hHeld => ?_)
      clear hK KC
      try simp only [Act.put, List.setIfInBounds_toArray, List.set_cons_zero, List.set_cons_succ]
      refine wpAnyH_done (by kernel_rfl) ?_ _
      go_wp2_with fail
      go_meet
      exact ⟨sx, rfl, HPS⟩
  case rest =>
    obtain ⟨sx, rfl, HP⟩ := hcut
    clear HSS HSD HNS CP hii hin hz hns6 hi0 hwi HH HX HSI HB0 HOG HW1 HG0
    have HCC : Hid (∀ w' a1 a2 a3 a4, PsX W w' wb b t g0 sx i e x O a1 a2 a3 a4 → w'.cell? ⟨sx, 0, none⟩ = some (.pointer (some ⟨e, 0, none⟩)) ∧ w'.cell? ⟨sx, 1, none⟩ = some (.pointer (some ⟨x, 0, none⟩)) ∧ w'.cell? ⟨g0, 0, none⟩ = some (.int .i64 5) ∧ w'.cell? ⟨g0, 2, none⟩ = some (.int .i64 n) ∧ w'.cell? ⟨g0, 3, none⟩ = some (.int .i64 m) ∧ w'.cell? ⟨g0, 4, none⟩ = some (.string z) ∧ w'.cell? ⟨wb, 1, none⟩ = some (.pointer (some ⟨b, 0, none⟩))) := Lib.hid (fun w' a1 a2 a3 a4 h => by
      obtain ⟨k1, k2, k3, k4⟩ := h.c
      rw [HOO.out] at k3
      exact ⟨k1, k2, k3 0 _ rfl, k3 2 _ rfl, k3 3 _ rfl, k3 4 _ rfl, k4⟩)
    clear HOO
    have CLF : Hid (∀ (c : Int) w', Calls Tryd.prog 48 #[.int .i64 c] w' fun e w'' => e = .returned (.string (leafSU c)) ∧ Below w'.heap.size w' w'') := Lib.hid leafU_any
    obtain ⟨c0, c1, c2, c3, c4, c5, c6⟩ := HCC.out _ _ _ _ _ HP.out
    have HQ0 : Hid (PsX W wc.drew wb b t g0 sx i e x O ne He ne He) := Lib.hid (HP.out.below (Below.refl _ _).drew)
    have HS0 : Hid (∀ w' a1 a2 a3 a4, PsX W w' wb b t g0 sx i e x O a1 a2 a3 a4 → w'.cell? ⟨sx, 0, none⟩ = some (.pointer (some ⟨e, 0, none⟩)) ∧ w'.cell? ⟨g0, 2, none⟩ = some (.int .i64 n)) := Lib.hid (fun w' a1 a2 a3 a4 h => by have := HCC.out w' a1 a2 a3 a4 h; exact ⟨this.1, this.2.2.2.1⟩)
    have HS1 : Hid (∀ w' a1 a2 a3 a4, PsX W w' wb b t g0 sx i e x O a1 a2 a3 a4 → w'.cell? ⟨sx, 1, none⟩ = some (.pointer (some ⟨x, 0, none⟩)) ∧ w'.cell? ⟨g0, 2, none⟩ = some (.int .i64 n)) := Lib.hid (fun w' a1 a2 a3 a4 h => by have := HCC.out w' a1 a2 a3 a4 h; exact ⟨this.2.1, this.2.2.2.1⟩)
    go_upto_region 25 with fail
    clear c0 c1 c2 c3 c4 c5 c6
    go_region_held3 (fun w' => w'.cell? ⟨sx, 0, none⟩ = some (.pointer (some ⟨e, 0, none⟩)) ∧ w'.cell? ⟨g0, 2, none⟩ = some (.int .i64 n)) (first | exact HS0.out _ _ _ _ _ HPa.out | exact HS0.out _ _ _ _ _ HQ1.out | exact HS0.out _ _ _ _ _ HQ0.out) (first
      | (go_at_call 48; (with_reducible refine (CLF.out _ _).mono ?_); rintro o w2 ⟨rfl, h⟩; have HQ1 := Lib.hid (HQ0.out.below h); clear h)
      | (go_at_call 44; (with_reducible refine (HQ1.out.addE HBAS.out _).mono ?_); rintro o wa ⟨rfl, h⟩; have HPa := Lib.hid h; clear h))
    go_upto_region 26 with fail
    have HR0 := Lib.hid (HPa.out.below (Below.refl _ _).drew)
    go_region_held3 (fun w' => w'.cell? ⟨sx, 1, none⟩ = some (.pointer (some ⟨x, 0, none⟩)) ∧ w'.cell? ⟨g0, 2, none⟩ = some (.int .i64 n)) (first | exact HS1.out _ _ _ _ _ HPb.out | exact HS1.out _ _ _ _ _ HR1.out | exact HS1.out _ _ _ _ _ HR0.out) (first
      | (go_at_call 48; (with_reducible refine (CLF.out _ _).mono ?_); rintro o w3 ⟨rfl, h⟩; have HR1 := Lib.hid (HR0.out.below h); clear h)
      | (go_at_call 75; (with_reducible refine (HR1.out.addX _).mono ?_); rintro o wb2 ⟨rfl, h⟩; have HPb := Lib.hid h; clear h))
    go_wp2_with fail
    go_ret
    exact ⟨by simp, HPb.out.ends.more (Nat.le_add_right _ _)⟩
end Go.Proofs.YtdbghgpohdijfaaDoor
/- Law 5's play: a step on a side, walked (printed by gen_pl8.py). -/
namespace Go.Proofs.YtdbghgpohdijfaaDoor
open Go.RowKit Go.Scr Bk5 Go.ChangeMaps Go.MapKept
set_option linter.unusedVariables false
set_option maxRecDepth 100000 in
set_option maxHeartbeats 16000000 in
theorem play_6 {W w : World} {wb b t ln c : Nat} {p : Option Addr} {on n m : Int} {z : ByteArray} {L : List ByteArray} (hB : Bas W W.heap.size) (h : PlK W w wb b t) (hv : Txts W (.slice p ln c) L) (hll : L.length ≤ 1048576) (hon : -9223372036854775808 ≤ on ∧ on ≤ 9223372036854775807) (hn : -9223372036854775808 ≤ n ∧ n ≤ 9223372036854775807) (hm : -9223372036854775808 ≤ m ∧ m ≤ 9223372036854775807) (ht : t ≤ 900) :
    Calls Tryd.prog 22 #[.pointer (some ⟨wb, 0, none⟩), .agg #[.int .i64 6, .int .i64 on, .int .i64 n, .int .i64 m, .string z, .slice p ln c]] w fun o w' => o = .returned (.bool true) ∧ PlK W w' wb b (t + 2) := by
  obtain ⟨col, oc, S, sv, hv0, hl, h, hS⟩ := h
  obtain ⟨g0, hg0⟩ : ∃ x, x = w.heap.size := ⟨_, rfl⟩
  obtain ⟨w1, hw1⟩ : ∃ x, x = w.alloc (.cells #[.int .i64 6, .int .i64 on, .int .i64 n, .int .i64 m, .string z, .slice p ln c] 54) := ⟨_, rfl⟩
  have hbx : w1.heap[g0]? = some (.cells #[.int .i64 6, .int .i64 on, .int .i64 n, .int .i64 m, .string z, .slice p ln c] 54 (0, 0)) := by rw [hw1, hg0]; exact heap_alloc_new w _
  have hb1 : Below w.heap.size w w1 := by rw [hw1]; exact (Below.refl _ _).alloc (Nat.le_refl _) _
  have hog : oc g0 = 0 := by
    by_cases h0 : oc g0 = 0
    · exact h0
    · have := h.ol g0 h0; omega
  have h1 := h.below hb1
  have HH := Lib.hid h1
  have HSY := Lib.hid hS
  have HTX := Lib.hid hv
  have HBAS := Lib.hid hB
  have HW1 := Lib.hid hw1
  have HG0 := Lib.hid hg0
  have HX := Lib.hid hbx
  have HOG := Lib.hid hog
  have HT := Lib.hid ht
  have HLL := Lib.hid hll
  have c0 : w1.cell? ⟨g0, 0, none⟩ = some (.int .i64 6) := cellB hbx rfl
  obtain ⟨ns, hns⟩ : ∃ x, x = S.length := ⟨_, rfl⟩
  have hsd := h1.sd id
  rw [← hns] at hsd
  obtain ⟨ps, cs, rfl, _⟩ := hsd.cells
  have HSD := Lib.hid hsd
  have hns6 : ns ≤ 6 := by rw [hns]; exact h1.sl
  have HNS := Lib.hid hns
  have c1 : w1.cell? ⟨wb, 0, none⟩ = some (.slice ps ns cs) := cellB (h1.wx id) rfl
  clear hsd hns
  clear h hS hv hB hw1 hg0 hbx hb1 hog h1 ht hll
  go_enter Tryd.func22, Tryd.ntmps22
  go_upto_region 1 with fail
  rw [← HW1.out, ← HG0.out]
  go_upto_region 17 with fail
  by_cases hz : ns = 0
  · subst hz
    go_wp2_with fail
    go_ret
    exact ⟨rfl, PlK.more (t := t) ⟨col, oc, S, _, hv0, hl, HH.out, HSY.out⟩ (Nat.le_add_right _ _)⟩
  have hz1 : ((ns : Int) == 0) = false := by rw [beq_eq_false_iff_ne]; omega
  have hz2 : ¬ (ns : Int) = 0 := by omega
  obtain ⟨i, hi⟩ : ∃ i, i = pickN on ns := ⟨_, rfl⟩
  have hin : i < ns := by rw [hi]; exact pickN_lt on (by omega)
  obtain ⟨s, hs⟩ : ∃ s, S[i]? = some s := ⟨S[i]'(by rw [← HNS.out]; exact hin), List.getElem?_eq_getElem _⟩
  have CP : Hid (∀ w', Calls Tryd.prog 49 #[.int .i64 on, .int .i64 (ns : Int)] w' fun e w'' => e = .returned (.int .i64 (i : Int)) ∧ w'' = w') := Lib.hid (fun w' => by rw [hi]; exact pickU_any on ns w' (by omega) (by omega) hon)
  obtain ⟨sb, rfl⟩ : ∃ sb, ps = some ⟨sb, 0, none⟩ := by
    rcases HSD.out.2 with ⟨e, e2⟩ | ⟨g, cap, cur, e, _⟩
    · omega
    · injection e with e1 _ _; exact ⟨g, e1⟩
  obtain ⟨⟨e, ne, He, x, mx, Kx⟩, hse⟩ : ∃ s', s' = s := ⟨_, rfl⟩
  subst hse
  have hsync := HSY.out _ (List.mem_of_getElem? hs)
  obtain ⟨rfl, rfl⟩ : ne = mx ∧ He = Kx := hsync
  have HSS : Hid (∀ w', Below w1.heap.size w1 w' → w'.cell? ⟨wb, 0, none⟩ = some (.slice (some ⟨sb, 0, none⟩) ns cs) ∧ w'.cell? ⟨g0, 1, none⟩ = some (.int .i64 on) ∧ w'.cell? ⟨sb, i * 2, none⟩ = some (.pointer (some ⟨e, 0, none⟩)) ∧ w'.cell? ⟨sb, i * 2 + 1, none⟩ = some (.pointer (some ⟨x, 0, none⟩))) := Lib.hid (fun w' hb => by
    obtain ⟨k1, k2⟩ := sdV_get hs
    obtain ⟨p', c', e1, _, _, hc⟩ := (HSD.out.below hb).cells
    injection e1 with e1 _ _
    have hadd : ∀ j, (⟨sb, 0, none⟩ : Addr).add j = ⟨sb, j, none⟩ := fun j => by unfold Addr.add; split <;> simp_all
    obtain ⟨a1, ha1, _, hc1⟩ := hc _ _ k1
    obtain ⟨a2, ha2, _, hc2⟩ := hc _ _ k2
    rw [← e1] at ha1 ha2
    obtain rfl := Option.some.inj ha1
    obtain rfl := Option.some.inj ha2
    rw [hadd] at hc1 hc2
    exact ⟨cellB ((HH.out.below hb).wx id) rfl, cellB (blk_below HX.out hb (blk_lt HX.out)) rfl, hc1, hc2⟩)
  have hii : (i : Int) < (ns : Int) := by omega
  have hi0 : (0 : Int) ≤ (i : Int) := by omega
  have hwi : IntKind.i64.wrap (i : Int) = (i : Int) := wrap_i64_id _ (by omega) (by omega)
  obtain ⟨O, hO⟩ : ∃ O : Array Value, O = #[.int .i64 6, .int .i64 on, .int .i64 n, .int .i64 m, .string z, .slice p ln c] := ⟨_, rfl⟩
  have HOO := Lib.hid hO
  have HSI := Lib.hid hs
  have HB0 : Hid (Below w1.heap.size w1 w1.drew) := Lib.hid (Below.refl _ _).drew
  clear hi hs c0 hO
  go_upto_region 19 with fail
  clear c1 hz1 hz2
  go_cut [9] from 83 to 103 (fun x9 wx => ∃ sx, x9 = .pointer (some ⟨sx, 0, none⟩) ∧ Hid (PsX W wx wb b t g0 sx i e x O ne He ne He))
  case first =>
    refine wp_region_held_drew (S := fun w' => w'.cell? ⟨wb, 0, none⟩ = some (.slice (some ⟨sb, 0, none⟩) ns cs) ∧ w'.cell? ⟨g0, 1, none⟩ = some (.int .i64 on) ∧ w'.cell? ⟨sb, i * 2, none⟩ = some (.pointer (some ⟨e, 0, none⟩)) ∧ w'.cell? ⟨sb, i * 2 + 1, none⟩ = some (.pointer (some ⟨x, 0, none⟩))) (by kernel_rfl) (by exact HSS.out _ (by first | exact HBs.out | exact HBy.out | exact HB0.out)) (fun hHeld => ?_)
    refine wpAnyH_take (i := 0) (oi := ⟨_, _, _, _, _, _⟩) (v := ?_) rfl (by kernel_rfl) (by kernel_rfl) (by kernel_rfl) (fun _ _ _ h => h) (Or.inl ⟨by rfl, ?_⟩) hHeld ?_
    rotate_left
    · ((intro w hSw; (try dsimp only at hSw); go_simp) <;> with_reducible rfl)
    try simp only [Act.put, List.setIfInBounds_toArray, List.set_cons_zero, List.set_cons_succ]
    refine wpAnyH_take (i := 1) (oi := ⟨_, _, _, _, _, _⟩) (v := ?_) rfl (by kernel_rfl) (by kernel_rfl) (by kernel_rfl) (fun _ _ _ h => h) (Or.inl ⟨by rfl, ?_⟩) hHeld ?_
    rotate_left
    · ((intro w hSw; (try dsimp only at hSw); go_simp) <;> with_reducible rfl)
    try simp only [Act.put, List.setIfInBounds_toArray, List.set_cons_zero, List.set_cons_succ]
    refine wpAnyH_take (i := 2) (oi := ⟨_, _, _, _, _, _⟩) (v := ?_) rfl (by kernel_rfl) (by kernel_rfl) (by kernel_rfl) (fun _ _ _ h => h) (Or.inl ⟨by rfl, ?_⟩) hHeld ?_
    rotate_left
    · ((intro w hSw; (try dsimp only at hSw); go_simp) <;> with_reducible rfl)
    try simp only [Act.put, List.setIfInBounds_toArray, List.set_cons_zero, List.set_cons_succ]
    refine wpAnyH_take (i := 3) (oi := ⟨_, _, _, _, _, _⟩) (v := ?_) rfl (by kernel_rfl) (by kernel_rfl) (by kernel_rfl) (fun _ _ _ h => h) (Or.inl ⟨by rfl, ?_⟩) hHeld ?_
    rotate_left
    · ((intro w hSw; (try dsimp only at hSw); go_simp) <;> with_reducible rfl)
    try simp only [Act.put, List.setIfInBounds_toArray, List.set_cons_zero, List.set_cons_succ]
    refine wpAnyH_take (i := 4) (oi := ⟨_, _, _, _, _, _⟩) (v := ?_) rfl (by kernel_rfl) (by kernel_rfl) (by kernel_rfl) (fun _ _ _ h => h) (Or.inl ⟨by rfl, ?_⟩) hHeld ?_
    rotate_left
    · ((intro w hSw; (try dsimp only at hSw); go_simp) <;> with_reducible rfl)
    try simp only [Act.put, List.setIfInBounds_toArray, List.set_cons_zero, List.set_cons_succ]
    refine wpAnyH_take (i := 5) (oi := ⟨_, _, _, _, _, _⟩) (v := ?_) rfl (by kernel_rfl) (by kernel_rfl) (by kernel_rfl) (fun _ _ _ h => h) (Or.inl ⟨by rfl, ?_⟩) hHeld ?_
    rotate_left
    · ((intro w hSw; (try dsimp only at hSw); go_simp) <;> with_reducible rfl)
    try simp only [Act.put, List.setIfInBounds_toArray, List.set_cons_zero, List.set_cons_succ]
    refine wpAnyH_take (i := 6) (oi := ⟨_, _, _, _, _, _⟩) (v := ?_) rfl (by kernel_rfl) (by kernel_rfl) (by kernel_rfl) (fun _ _ _ h => h) (Or.inl ⟨by rfl, ?_⟩) hHeld ?_
    rotate_left
    · ((intro w hSw; (try dsimp only at hSw); go_simp) <;> with_reducible rfl)
    try simp only [Act.put, List.setIfInBounds_toArray, List.set_cons_zero, List.set_cons_succ]
    refine wpAnyH_take (i := 7) (oi := ⟨_, _, _, _, _, _⟩) (v := ?_) rfl (by kernel_rfl) (by kernel_rfl) (by kernel_rfl) (fun _ _ _ h => h) (Or.inl ⟨by rfl, ?_⟩) hHeld ?_
    rotate_left
    · ((intro w hSw; (try dsimp only at hSw); go_simp) <;> with_reducible rfl)
    try simp only [Act.put, List.setIfInBounds_toArray, List.set_cons_zero, List.set_cons_succ]
    refine wpAnyH_take (i := 8) (oi := ⟨_, _, _, _, _, _⟩) (v := ?_) rfl (by kernel_rfl) (by kernel_rfl) (by kernel_rfl) (fun _ _ _ h => h) (Or.inl ⟨by rfl, ?_⟩) hHeld ?_
    rotate_left
    · ((intro w hSw; (try dsimp only at hSw); go_simp) <;> with_reducible rfl)
    try simp only [Act.put, List.setIfInBounds_toArray, List.set_cons_zero, List.set_cons_succ]
    refine wpAnyH_take (i := 9) (oi := ⟨_, _, _, _, _, _⟩) (v := ?_) rfl (by kernel_rfl) (by kernel_rfl) (by kernel_rfl) (fun _ _ _ h => h) (Or.inl ⟨by rfl, ?_⟩) hHeld ?_
    rotate_left
    · ((intro w hSw; (try dsimp only at hSw); go_simp) <;> with_reducible rfl)
    try simp only [Act.put, List.setIfInBounds_toArray, List.set_cons_zero, List.set_cons_succ]
    refine wpAnyH_take (i := 10) (oi := ⟨_, _, _, _, _, _⟩) (v := ?_) rfl (by kernel_rfl) (by kernel_rfl) (by kernel_rfl) (fun _ _ _ h => h) (Or.inl ⟨by rfl, ?_⟩) hHeld ?_
    rotate_left
    · ((intro w hSw; (try dsimp only at hSw); go_simp) <;> with_reducible rfl)
    try simp only [Act.put, List.setIfInBounds_toArray, List.set_cons_zero, List.set_cons_succ]
    refine wpAnyH_ready (rs := [11, 14]) (by kernel_rfl) (by simp) ?_
    refine AllReadyH.cons (o := ⟨_, _, _, _, _, _⟩) rfl (fun KC hK => ?_) ?_
    rotate_left
    refine AllReadyH.cons (o := ⟨_, _, _, _, _, _⟩) rfl (fun KC hK => ?_) ?_
    rotate_left
    · exact AllReadyH.nil
    · go_simp
      go_at_call 49
      (with_reducible refine (CP.out _).mono ?_)
      rintro o w9 ⟨rfl, hww⟩
      rw [hww]
      clear hww w9
      refine hK.out _ _ (by exact HSS.out _ (by first | exact HBs.out | exact HBy.out | exact HB0.out)) (fun hHeld => ?_)
      clear hK KC
      try simp only [Act.put, List.setIfInBounds_toArray, List.set_cons_zero, List.set_cons_succ]
      refine wpAnyH_take (i := 12) (oi := ⟨_, _, _, _, _, _⟩) (v := ?_) rfl (by kernel_rfl) (by kernel_rfl) (by kernel_rfl) (fun _ _ _ h => h) (Or.inl ⟨by rfl, ?_⟩) hHeld ?_
      rotate_left
      · ((intro w hSw; (try dsimp only at hSw); go_simp) <;> with_reducible rfl)
      try simp only [Act.put, List.setIfInBounds_toArray, List.set_cons_zero, List.set_cons_succ]
      refine wpAnyH_take (i := 13) (oi := ⟨_, _, _, _, _, _⟩) (v := ?_) rfl (by kernel_rfl) (by kernel_rfl) (by kernel_rfl) (fun _ _ _ h => h) (Or.inl ⟨by rfl, ?_⟩) hHeld ?_
      rotate_left
      · ((intro w hSw; (try dsimp only at hSw); go_simp) <;> with_reducible rfl)
      try simp only [Act.put, List.setIfInBounds_toArray, List.set_cons_zero, List.set_cons_succ]
      refine wpAnyH_ready (rs := [14]) (by kernel_rfl) (by simp) ?_
      refine AllReadyH.cons (o := ⟨_, _, _, _, _, _⟩) rfl (fun KC hK => ?_) ?_
      rotate_left
      · exact AllReadyH.nil
      go_simp
      obtain ⟨w2, sx, e1, e2, HS2, HBy⟩ := sbox_newD w1
      rw [e1, e2]
      have HSX := Lib.hid e2
      clear e1 e2
      refine hK.out _ _ (by exact HSS.out _ (by first | exact HBs.out | exact HBy.out | exact HB0.out)) (fun hHeld => ?_)
      clear hK KC
      try simp only [Act.put, List.setIfInBounds_toArray, List.set_cons_zero, List.set_cons_succ]
      refine wpAnyH_ready (rs := [15]) (by kernel_rfl) (by simp) ?_
      refine AllReadyH.cons (o := ⟨_, _, _, _, _, _⟩) rfl (fun KC hK => ?_) ?_
      rotate_left
      · exact AllReadyH.nil
      obtain ⟨k0, k1⟩ := sbox_c HS2.out
      have f0 : w2.frozen? ⟨sx, 0, none⟩ = false := frozB HS2.out
      have f1 : w2.frozen? ⟨sx, 1, none⟩ = false := frozB HS2.out
      go_simp
      have HPS : Hid (PsX W ((w2.setCell ⟨sx, 0, none⟩ (.pointer (some ⟨e, 0, none⟩))).setCell ⟨sx, 1, none⟩ (.pointer (some ⟨x, 0, none⟩))) wb b t g0 sx i e x O ne He ne He) := Lib.hid (ps_make HH.out HSY.out HSI.out (by rw [HOO.out]; exact HX.out) HOG.out HS2.out HBy.out (Nat.le_of_eq HSX.out))
      have HBs : Hid (Below w1.heap.size w1 ((w2.setCell ⟨sx, 0, none⟩ (.pointer (some ⟨e, 0, none⟩))).setCell ⟨sx, 1, none⟩ (.pointer (some ⟨x, 0, none⟩)))) := Lib.hid ((HBy.out.setCell (p := ⟨sx, 0, none⟩) (Nat.le_of_eq HSX.out) _).setCell (p := ⟨sx, 1, none⟩) (Nat.le_of_eq HSX.out) _)
      refine hK.out _ _ (by exact HSS.out _ (by first | exact HBs.out | exact HBy.out | exact HB0.out)) (fun hHeld => ?_)
      clear hK KC
      try simp only [Act.put, List.setIfInBounds_toArray, List.set_cons_zero, List.set_cons_succ]
      refine wpAnyH_done (by kernel_rfl) ?_ _
      go_wp2_with fail
      go_meet
      exact ⟨sx, rfl, HPS⟩
    · go_simp
      obtain ⟨w2, sx, e1, e2, HS2, HBy⟩ := sbox_newD w1
      rw [e1, e2]
      have HSX := Lib.hid e2
      clear e1 e2
      refine hK.out _ _ (by exact HSS.out _ (by first | exact HBs.out | exact HBy.out | exact HB0.out)) (fun hHeld => ?_)
      clear hK KC
      try simp only [Act.put, List.setIfInBounds_toArray, List.set_cons_zero, List.set_cons_succ]
      refine wpAnyH_ready (rs := [11]) (by kernel_rfl) (by simp) ?_
      refine AllReadyH.cons (o := ⟨_, _, _, _, _, _⟩) rfl (fun KC hK => ?_) ?_
      rotate_left
      · exact AllReadyH.nil
      go_simp
      go_at_call 49
      (with_reducible refine (CP.out _).mono ?_)
      rintro o w9 ⟨rfl, hww⟩
      rw [hww]
      clear hww w9
      refine hK.out _ _ (by exact HSS.out _ (by first | exact HBs.out | exact HBy.out | exact HB0.out)) (fun hHeld => ?_)
      clear hK KC
      try simp only [Act.put, List.setIfInBounds_toArray, List.set_cons_zero, List.set_cons_succ]
      refine wpAnyH_take (i := 12) (oi := ⟨_, _, _, _, _, _⟩) (v := ?_) rfl (by kernel_rfl) (by kernel_rfl) (by kernel_rfl) (fun _ _ _ h => h) (Or.inl ⟨by rfl, ?_⟩) hHeld ?_
      rotate_left
      · ((intro w hSw; (try dsimp only at hSw); go_simp) <;> with_reducible rfl)
      try simp only [Act.put, List.setIfInBounds_toArray, List.set_cons_zero, List.set_cons_succ]
      refine wpAnyH_take (i := 13) (oi := ⟨_, _, _, _, _, _⟩) (v := ?_) rfl (by kernel_rfl) (by kernel_rfl) (by kernel_rfl) (fun _ _ _ h => h) (Or.inl ⟨by rfl, ?_⟩) hHeld ?_
      rotate_left
      · ((intro w hSw; (try dsimp only at hSw); go_simp) <;> with_reducible rfl)
      try simp only [Act.put, List.setIfInBounds_toArray, List.set_cons_zero, List.set_cons_succ]
      refine wpAnyH_ready (rs := [15]) (by kernel_rfl) (by simp) ?_
      refine AllReadyH.cons (o := ⟨_, _, _, _, _, _⟩) rfl (fun KC hK => ?_) ?_
      rotate_left
      · exact AllReadyH.nil
      obtain ⟨k0, k1⟩ := sbox_c HS2.out
      have f0 : w2.frozen? ⟨sx, 0, none⟩ = false := frozB HS2.out
      have f1 : w2.frozen? ⟨sx, 1, none⟩ = false := frozB HS2.out
      go_simp
      have HPS : Hid (PsX W ((w2.setCell ⟨sx, 0, none⟩ (.pointer (some ⟨e, 0, none⟩))).setCell ⟨sx, 1, none⟩ (.pointer (some ⟨x, 0, none⟩))) wb b t g0 sx i e x O ne He ne He) := Lib.hid (ps_make HH.out HSY.out HSI.out (by rw [HOO.out]; exact HX.out) HOG.out HS2.out HBy.out (Nat.le_of_eq HSX.out))
      have HBs : Hid (Below w1.heap.size w1 ((w2.setCell ⟨sx, 0, none⟩ (.pointer (some ⟨e, 0, none⟩))).setCell ⟨sx, 1, none⟩ (.pointer (some ⟨x, 0, none⟩)))) := Lib.hid ((HBy.out.setCell (p := ⟨sx, 0, none⟩) (Nat.le_of_eq HSX.out) _).setCell (p := ⟨sx, 1, none⟩) (Nat.le_of_eq HSX.out) _)
      refine hK.out _ _ (by exact HSS.out _ (by first | exact HBs.out | exact HBy.out | exact HB0.out)) (fun hHeld => ?_)
      clear hK KC
      try simp only [Act.put, List.setIfInBounds_toArray, List.set_cons_zero, List.set_cons_succ]
      refine wpAnyH_done (by kernel_rfl) ?_ _
      go_wp2_with fail
      go_meet
      exact ⟨sx, rfl, HPS⟩
  case rest =>
    obtain ⟨sx, rfl, HP⟩ := hcut
    clear HSS HSD HNS CP hii hin hz hns6 hi0 hwi HH HX HSI HB0 HOG HW1 HG0
    have HCC : Hid (∀ w' a1 a2 a3 a4, PsX W w' wb b t g0 sx i e x O a1 a2 a3 a4 → w'.cell? ⟨sx, 0, none⟩ = some (.pointer (some ⟨e, 0, none⟩)) ∧ w'.cell? ⟨sx, 1, none⟩ = some (.pointer (some ⟨x, 0, none⟩)) ∧ w'.cell? ⟨g0, 0, none⟩ = some (.int .i64 6) ∧ w'.cell? ⟨g0, 2, none⟩ = some (.int .i64 n) ∧ w'.cell? ⟨g0, 3, none⟩ = some (.int .i64 m) ∧ w'.cell? ⟨g0, 4, none⟩ = some (.string z) ∧ w'.cell? ⟨wb, 1, none⟩ = some (.pointer (some ⟨b, 0, none⟩))) := Lib.hid (fun w' a1 a2 a3 a4 h => by
      obtain ⟨k1, k2, k3, k4⟩ := h.c
      rw [HOO.out] at k3
      exact ⟨k1, k2, k3 0 _ rfl, k3 2 _ rfl, k3 3 _ rfl, k3 4 _ rfl, k4⟩)
    clear HOO
    have CLF : Hid (∀ (c : Int) w', Calls Tryd.prog 48 #[.int .i64 c] w' fun e w'' => e = .returned (.string (leafSU c)) ∧ Below w'.heap.size w' w'') := Lib.hid leafU_any
    obtain ⟨c0, c1, c2, c3, c4, c5, c6⟩ := HCC.out _ _ _ _ _ HP.out
    obtain ⟨r, hr⟩ : ∃ r, r = pickN n 40 := ⟨_, rfl⟩
    have hr40 : r < 40 := by rw [hr]; exact pickN_lt n (by decide)
    have CP4 : Hid (∀ w', Calls Tryd.prog 49 #[.int .i64 n, .int .i64 40] w' fun e w'' => e = .returned (.int .i64 (r : Int)) ∧ w'' = w') := Lib.hid (fun w' => by rw [hr]; exact pickU_any n 40 w' (by decide) (by decide) hn)
    have HS0 : Hid (∀ w' a1 a2 a3 a4, PsX W w' wb b t g0 sx i e x O a1 a2 a3 a4 → w'.cell? ⟨sx, 0, none⟩ = some (.pointer (some ⟨e, 0, none⟩)) ∧ w'.cell? ⟨g0, 3, none⟩ = some (.int .i64 m)) := Lib.hid (fun w' a1 a2 a3 a4 h => by have := HCC.out w' a1 a2 a3 a4 h; exact ⟨this.1, this.2.2.2.2.1⟩)
    have HS1 : Hid (∀ w' a1 a2 a3 a4, PsX W w' wb b t g0 sx i e x O a1 a2 a3 a4 → w'.cell? ⟨sx, 1, none⟩ = some (.pointer (some ⟨x, 0, none⟩)) ∧ w'.cell? ⟨g0, 3, none⟩ = some (.int .i64 m)) := Lib.hid (fun w' a1 a2 a3 a4 h => by have := HCC.out w' a1 a2 a3 a4 h; exact ⟨this.2.1, this.2.2.2.2.1⟩)
    clear hr
    go_wp2_with fail
    clear c0 c1 c2 c3 c4 c5 c6
    go_loopw [12, 13, 14] (fun q _ _ wr => ∃ (j : Nat) (n' : Nat) (H' : List ByteArray), j ≤ r ∧ q = .int .i64 (j : Int) ∧ Hid (PsX W wr wb b t g0 sx i e x O n' H' n' H')) (fun q _ _ _ => r - (intOf q).toNat)
    case atStart => exact ⟨0, ne, He, Nat.zero_le _, rfl, HP⟩
    case round =>
      clear HP
      obtain ⟨j, n', H', hj, rfl, HP⟩ := hrel
      obtain ⟨c0, c1, c2, c3, c4, c5, c6⟩ := HCC.out _ _ _ _ _ HP.out
      by_cases hlt : j < r
      · have hji : (j : Int) < (r : Int) := by omega
        go_upto_region 31 with (go_at_call 49; (with_reducible refine (CP4.out _).mono ?_); rintro o w9 ⟨rfl, hww⟩; replace hww := hww.symm; subst hww)
        clear c0 c1 c2 c3 c4 c5 c6
        have HQ0 : Hid (PsX W wr.drew wb b t g0 sx i e x O n' H' n' H') := Lib.hid (HP.out.below (Below.refl _ _).drew)
        go_region_held3 (fun w' => w'.cell? ⟨sx, 0, none⟩ = some (.pointer (some ⟨e, 0, none⟩)) ∧ w'.cell? ⟨g0, 3, none⟩ = some (.int .i64 m)) (first | exact HS0.out _ _ _ _ _ HPa.out | exact HS0.out _ _ _ _ _ HQ1.out | exact HS0.out _ _ _ _ _ HQ0.out) (first
          | (go_at_call 48; (with_reducible refine (CLF.out _ _).mono ?_); rintro o w2 ⟨rfl, h⟩; have HQ1 := Lib.hid (HQ0.out.below h); clear h)
          | (go_at_call 44; (with_reducible refine (HQ1.out.addE HBAS.out _).mono ?_); rintro o wa ⟨rfl, h⟩; have HPa := Lib.hid h; clear h))
        go_upto_region 32 with fail
        have HR0 := Lib.hid (HPa.out.below (Below.refl _ _).drew)
        go_region_held3 (fun w' => w'.cell? ⟨sx, 1, none⟩ = some (.pointer (some ⟨x, 0, none⟩)) ∧ w'.cell? ⟨g0, 3, none⟩ = some (.int .i64 m)) (first | exact HS1.out _ _ _ _ _ HPb.out | exact HS1.out _ _ _ _ _ HR1.out | exact HS1.out _ _ _ _ _ HR0.out) (first
          | (go_at_call 48; (with_reducible refine (CLF.out _ _).mono ?_); rintro o w3 ⟨rfl, h⟩; have HR1 := Lib.hid (HR0.out.below h); clear h)
          | (go_at_call 75; (with_reducible refine (HR1.out.addX _).mono ?_); rintro o wb2 ⟨rfl, h⟩; have HPb := Lib.hid h; clear h))
        go_wp2_with fail
        exact ⟨⟨j + 1, _, _, by omega, by simp, HPb⟩, by show r - ((j : Int) + 1).toNat < r - (j : Int).toNat; omega⟩
      · have hji : ¬ (j : Int) < (r : Int) := by omega
        go_wp2_with (go_at_call 49; (with_reducible refine (CP4.out _).mono ?_); rintro o w9 ⟨rfl, hww⟩; replace hww := hww.symm; subst hww)
        go_ret
        exact ⟨rfl, HP.out.ends.more (Nat.le_add_right _ _)⟩
set_option maxRecDepth 100000 in
set_option maxHeartbeats 16000000 in
theorem play_7 {W w : World} {wb b t ln c : Nat} {p : Option Addr} {on n m : Int} {z : ByteArray} {L : List ByteArray} (hB : Bas W W.heap.size) (h : PlK W w wb b t) (hv : Txts W (.slice p ln c) L) (hll : L.length ≤ 1048576) (hon : -9223372036854775808 ≤ on ∧ on ≤ 9223372036854775807) (hn : -9223372036854775808 ≤ n ∧ n ≤ 9223372036854775807) (hm : -9223372036854775808 ≤ m ∧ m ≤ 9223372036854775807) (ht : t ≤ 900) :
    Calls Tryd.prog 22 #[.pointer (some ⟨wb, 0, none⟩), .agg #[.int .i64 7, .int .i64 on, .int .i64 n, .int .i64 m, .string z, .slice p ln c]] w fun o w' => o = .returned (.bool true) ∧ PlK W w' wb b (t + 2) := by
  obtain ⟨col, oc, S, sv, hv0, hl, h, hS⟩ := h
  obtain ⟨g0, hg0⟩ : ∃ x, x = w.heap.size := ⟨_, rfl⟩
  obtain ⟨w1, hw1⟩ : ∃ x, x = w.alloc (.cells #[.int .i64 7, .int .i64 on, .int .i64 n, .int .i64 m, .string z, .slice p ln c] 54) := ⟨_, rfl⟩
  have hbx : w1.heap[g0]? = some (.cells #[.int .i64 7, .int .i64 on, .int .i64 n, .int .i64 m, .string z, .slice p ln c] 54 (0, 0)) := by rw [hw1, hg0]; exact heap_alloc_new w _
  have hb1 : Below w.heap.size w w1 := by rw [hw1]; exact (Below.refl _ _).alloc (Nat.le_refl _) _
  have hog : oc g0 = 0 := by
    by_cases h0 : oc g0 = 0
    · exact h0
    · have := h.ol g0 h0; omega
  have h1 := h.below hb1
  have HH := Lib.hid h1
  have HSY := Lib.hid hS
  have HTX := Lib.hid hv
  have HBAS := Lib.hid hB
  have HW1 := Lib.hid hw1
  have HG0 := Lib.hid hg0
  have HX := Lib.hid hbx
  have HOG := Lib.hid hog
  have HT := Lib.hid ht
  have HLL := Lib.hid hll
  have c0 : w1.cell? ⟨g0, 0, none⟩ = some (.int .i64 7) := cellB hbx rfl
  obtain ⟨ns, hns⟩ : ∃ x, x = S.length := ⟨_, rfl⟩
  have hsd := h1.sd id
  rw [← hns] at hsd
  obtain ⟨ps, cs, rfl, _⟩ := hsd.cells
  have HSD := Lib.hid hsd
  have hns6 : ns ≤ 6 := by rw [hns]; exact h1.sl
  have HNS := Lib.hid hns
  have c1 : w1.cell? ⟨wb, 0, none⟩ = some (.slice ps ns cs) := cellB (h1.wx id) rfl
  clear hsd hns
  clear h hS hv hB hw1 hg0 hbx hb1 hog h1 ht hll
  go_enter Tryd.func22, Tryd.ntmps22
  go_upto_region 1 with fail
  rw [← HW1.out, ← HG0.out]
  go_upto_region 17 with fail
  by_cases hz : ns = 0
  · subst hz
    go_wp2_with fail
    go_ret
    exact ⟨rfl, PlK.more (t := t) ⟨col, oc, S, _, hv0, hl, HH.out, HSY.out⟩ (Nat.le_add_right _ _)⟩
  have hz1 : ((ns : Int) == 0) = false := by rw [beq_eq_false_iff_ne]; omega
  have hz2 : ¬ (ns : Int) = 0 := by omega
  obtain ⟨i, hi⟩ : ∃ i, i = pickN on ns := ⟨_, rfl⟩
  have hin : i < ns := by rw [hi]; exact pickN_lt on (by omega)
  obtain ⟨s, hs⟩ : ∃ s, S[i]? = some s := ⟨S[i]'(by rw [← HNS.out]; exact hin), List.getElem?_eq_getElem _⟩
  have CP : Hid (∀ w', Calls Tryd.prog 49 #[.int .i64 on, .int .i64 (ns : Int)] w' fun e w'' => e = .returned (.int .i64 (i : Int)) ∧ w'' = w') := Lib.hid (fun w' => by rw [hi]; exact pickU_any on ns w' (by omega) (by omega) hon)
  obtain ⟨sb, rfl⟩ : ∃ sb, ps = some ⟨sb, 0, none⟩ := by
    rcases HSD.out.2 with ⟨e, e2⟩ | ⟨g, cap, cur, e, _⟩
    · omega
    · injection e with e1 _ _; exact ⟨g, e1⟩
  obtain ⟨⟨e, ne, He, x, mx, Kx⟩, hse⟩ : ∃ s', s' = s := ⟨_, rfl⟩
  subst hse
  have hsync := HSY.out _ (List.mem_of_getElem? hs)
  obtain ⟨rfl, rfl⟩ : ne = mx ∧ He = Kx := hsync
  have HSS : Hid (∀ w', Below w1.heap.size w1 w' → w'.cell? ⟨wb, 0, none⟩ = some (.slice (some ⟨sb, 0, none⟩) ns cs) ∧ w'.cell? ⟨g0, 1, none⟩ = some (.int .i64 on) ∧ w'.cell? ⟨sb, i * 2, none⟩ = some (.pointer (some ⟨e, 0, none⟩)) ∧ w'.cell? ⟨sb, i * 2 + 1, none⟩ = some (.pointer (some ⟨x, 0, none⟩))) := Lib.hid (fun w' hb => by
    obtain ⟨k1, k2⟩ := sdV_get hs
    obtain ⟨p', c', e1, _, _, hc⟩ := (HSD.out.below hb).cells
    injection e1 with e1 _ _
    have hadd : ∀ j, (⟨sb, 0, none⟩ : Addr).add j = ⟨sb, j, none⟩ := fun j => by unfold Addr.add; split <;> simp_all
    obtain ⟨a1, ha1, _, hc1⟩ := hc _ _ k1
    obtain ⟨a2, ha2, _, hc2⟩ := hc _ _ k2
    rw [← e1] at ha1 ha2
    obtain rfl := Option.some.inj ha1
    obtain rfl := Option.some.inj ha2
    rw [hadd] at hc1 hc2
    exact ⟨cellB ((HH.out.below hb).wx id) rfl, cellB (blk_below HX.out hb (blk_lt HX.out)) rfl, hc1, hc2⟩)
  have hii : (i : Int) < (ns : Int) := by omega
  have hi0 : (0 : Int) ≤ (i : Int) := by omega
  have hwi : IntKind.i64.wrap (i : Int) = (i : Int) := wrap_i64_id _ (by omega) (by omega)
  obtain ⟨O, hO⟩ : ∃ O : Array Value, O = #[.int .i64 7, .int .i64 on, .int .i64 n, .int .i64 m, .string z, .slice p ln c] := ⟨_, rfl⟩
  have HOO := Lib.hid hO
  have HSI := Lib.hid hs
  have HB0 : Hid (Below w1.heap.size w1 w1.drew) := Lib.hid (Below.refl _ _).drew
  clear hi hs c0 hO
  go_upto_region 19 with fail
  clear c1 hz1 hz2
  go_cut [9] from 83 to 103 (fun x9 wx => ∃ sx, x9 = .pointer (some ⟨sx, 0, none⟩) ∧ Hid (PsX W wx wb b t g0 sx i e x O ne He ne He))
  case first =>
    refine wp_region_held_drew (S := fun w' => w'.cell? ⟨wb, 0, none⟩ = some (.slice (some ⟨sb, 0, none⟩) ns cs) ∧ w'.cell? ⟨g0, 1, none⟩ = some (.int .i64 on) ∧ w'.cell? ⟨sb, i * 2, none⟩ = some (.pointer (some ⟨e, 0, none⟩)) ∧ w'.cell? ⟨sb, i * 2 + 1, none⟩ = some (.pointer (some ⟨x, 0, none⟩))) (by kernel_rfl) (by exact HSS.out _ (by first | exact HBs.out | exact HBy.out | exact HB0.out)) (fun hHeld => ?_)
    refine wpAnyH_take (i := 0) (oi := ⟨_, _, _, _, _, _⟩) (v := ?_) rfl (by kernel_rfl) (by kernel_rfl) (by kernel_rfl) (fun _ _ _ h => h) (Or.inl ⟨by rfl, ?_⟩) hHeld ?_
    rotate_left
    · ((intro w hSw; (try dsimp only at hSw); go_simp) <;> with_reducible rfl)
    try simp only [Act.put, List.setIfInBounds_toArray, List.set_cons_zero, List.set_cons_succ]
    refine wpAnyH_take (i := 1) (oi := ⟨_, _, _, _, _, _⟩) (v := ?_) rfl (by kernel_rfl) (by kernel_rfl) (by kernel_rfl) (fun _ _ _ h => h) (Or.inl ⟨by rfl, ?_⟩) hHeld ?_
    rotate_left
    · ((intro w hSw; (try dsimp only at hSw); go_simp) <;> with_reducible rfl)
    try simp only [Act.put, List.setIfInBounds_toArray, List.set_cons_zero, List.set_cons_succ]
    refine wpAnyH_take (i := 2) (oi := ⟨_, _, _, _, _, _⟩) (v := ?_) rfl (by kernel_rfl) (by kernel_rfl) (by kernel_rfl) (fun _ _ _ h => h) (Or.inl ⟨by rfl, ?_⟩) hHeld ?_
    rotate_left
    · ((intro w hSw; (try dsimp only at hSw); go_simp) <;> with_reducible rfl)
    try simp only [Act.put, List.setIfInBounds_toArray, List.set_cons_zero, List.set_cons_succ]
    refine wpAnyH_take (i := 3) (oi := ⟨_, _, _, _, _, _⟩) (v := ?_) rfl (by kernel_rfl) (by kernel_rfl) (by kernel_rfl) (fun _ _ _ h => h) (Or.inl ⟨by rfl, ?_⟩) hHeld ?_
    rotate_left
    · ((intro w hSw; (try dsimp only at hSw); go_simp) <;> with_reducible rfl)
    try simp only [Act.put, List.setIfInBounds_toArray, List.set_cons_zero, List.set_cons_succ]
    refine wpAnyH_take (i := 4) (oi := ⟨_, _, _, _, _, _⟩) (v := ?_) rfl (by kernel_rfl) (by kernel_rfl) (by kernel_rfl) (fun _ _ _ h => h) (Or.inl ⟨by rfl, ?_⟩) hHeld ?_
    rotate_left
    · ((intro w hSw; (try dsimp only at hSw); go_simp) <;> with_reducible rfl)
    try simp only [Act.put, List.setIfInBounds_toArray, List.set_cons_zero, List.set_cons_succ]
    refine wpAnyH_take (i := 5) (oi := ⟨_, _, _, _, _, _⟩) (v := ?_) rfl (by kernel_rfl) (by kernel_rfl) (by kernel_rfl) (fun _ _ _ h => h) (Or.inl ⟨by rfl, ?_⟩) hHeld ?_
    rotate_left
    · ((intro w hSw; (try dsimp only at hSw); go_simp) <;> with_reducible rfl)
    try simp only [Act.put, List.setIfInBounds_toArray, List.set_cons_zero, List.set_cons_succ]
    refine wpAnyH_take (i := 6) (oi := ⟨_, _, _, _, _, _⟩) (v := ?_) rfl (by kernel_rfl) (by kernel_rfl) (by kernel_rfl) (fun _ _ _ h => h) (Or.inl ⟨by rfl, ?_⟩) hHeld ?_
    rotate_left
    · ((intro w hSw; (try dsimp only at hSw); go_simp) <;> with_reducible rfl)
    try simp only [Act.put, List.setIfInBounds_toArray, List.set_cons_zero, List.set_cons_succ]
    refine wpAnyH_take (i := 7) (oi := ⟨_, _, _, _, _, _⟩) (v := ?_) rfl (by kernel_rfl) (by kernel_rfl) (by kernel_rfl) (fun _ _ _ h => h) (Or.inl ⟨by rfl, ?_⟩) hHeld ?_
    rotate_left
    · ((intro w hSw; (try dsimp only at hSw); go_simp) <;> with_reducible rfl)
    try simp only [Act.put, List.setIfInBounds_toArray, List.set_cons_zero, List.set_cons_succ]
    refine wpAnyH_take (i := 8) (oi := ⟨_, _, _, _, _, _⟩) (v := ?_) rfl (by kernel_rfl) (by kernel_rfl) (by kernel_rfl) (fun _ _ _ h => h) (Or.inl ⟨by rfl, ?_⟩) hHeld ?_
    rotate_left
    · ((intro w hSw; (try dsimp only at hSw); go_simp) <;> with_reducible rfl)
    try simp only [Act.put, List.setIfInBounds_toArray, List.set_cons_zero, List.set_cons_succ]
    refine wpAnyH_take (i := 9) (oi := ⟨_, _, _, _, _, _⟩) (v := ?_) rfl (by kernel_rfl) (by kernel_rfl) (by kernel_rfl) (fun _ _ _ h => h) (Or.inl ⟨by rfl, ?_⟩) hHeld ?_
    rotate_left
    · ((intro w hSw; (try dsimp only at hSw); go_simp) <;> with_reducible rfl)
    try simp only [Act.put, List.setIfInBounds_toArray, List.set_cons_zero, List.set_cons_succ]
    refine wpAnyH_take (i := 10) (oi := ⟨_, _, _, _, _, _⟩) (v := ?_) rfl (by kernel_rfl) (by kernel_rfl) (by kernel_rfl) (fun _ _ _ h => h) (Or.inl ⟨by rfl, ?_⟩) hHeld ?_
    rotate_left
    · ((intro w hSw; (try dsimp only at hSw); go_simp) <;> with_reducible rfl)
    try simp only [Act.put, List.setIfInBounds_toArray, List.set_cons_zero, List.set_cons_succ]
    refine wpAnyH_ready (rs := [11, 14]) (by kernel_rfl) (by simp) ?_
    refine AllReadyH.cons (o := ⟨_, _, _, _, _, _⟩) rfl (fun KC hK => ?_) ?_
    rotate_left
    refine AllReadyH.cons (o := ⟨_, _, _, _, _, _⟩) rfl (fun KC hK => ?_) ?_
    rotate_left
    · exact AllReadyH.nil
    · go_simp
      go_at_call 49
      (with_reducible refine (CP.out _).mono ?_)
      rintro o w9 ⟨rfl, hww⟩
      rw [hww]
      clear hww w9
      refine hK.out _ _ (by exact HSS.out _ (by first | exact HBs.out | exact HBy.out | exact HB0.out)) (fun hHeld => ?_)
      clear hK KC
      try simp only [Act.put, List.setIfInBounds_toArray, List.set_cons_zero, List.set_cons_succ]
      refine wpAnyH_take (i := 12) (oi := ⟨_, _, _, _, _, _⟩) (v := ?_) rfl (by kernel_rfl) (by kernel_rfl) (by kernel_rfl) (fun _ _ _ h => h) (Or.inl ⟨by rfl, ?_⟩) hHeld ?_
      rotate_left
      · ((intro w hSw; (try dsimp only at hSw); go_simp) <;> with_reducible rfl)
      try simp only [Act.put, List.setIfInBounds_toArray, List.set_cons_zero, List.set_cons_succ]
      refine wpAnyH_take (i := 13) (oi := ⟨_, _, _, _, _, _⟩) (v := ?_) rfl (by kernel_rfl) (by kernel_rfl) (by kernel_rfl) (fun _ _ _ h => h) (Or.inl ⟨by rfl, ?_⟩) hHeld ?_
      rotate_left
      · ((intro w hSw; (try dsimp only at hSw); go_simp) <;> with_reducible rfl)
      try simp only [Act.put, List.setIfInBounds_toArray, List.set_cons_zero, List.set_cons_succ]
      refine wpAnyH_ready (rs := [14]) (by kernel_rfl) (by simp) ?_
      refine AllReadyH.cons (o := ⟨_, _, _, _, _, _⟩) rfl (fun KC hK => ?_) ?_
      rotate_left
      · exact AllReadyH.nil
      go_simp
      obtain ⟨w2, sx, e1, e2, HS2, HBy⟩ := sbox_newD w1
      rw [e1, e2]
      have HSX := Lib.hid e2
      clear e1 e2
      refine hK.out _ _ (by exact HSS.out _ (by first | exact HBs.out | exact HBy.out | exact HB0.out)) (fun hHeld => ?_)
      clear hK KC
      try simp only [Act.put, List.setIfInBounds_toArray, List.set_cons_zero, List.set_cons_succ]
      refine wpAnyH_ready (rs := [15]) (by kernel_rfl) (by simp) ?_
      refine AllReadyH.cons (o := ⟨_, _, _, _, _, _⟩) rfl (fun KC hK => ?_) ?_
      rotate_left
      · exact AllReadyH.nil
      obtain ⟨k0, k1⟩ := sbox_c HS2.out
      have f0 : w2.frozen? ⟨sx, 0, none⟩ = false := frozB HS2.out
      have f1 : w2.frozen? ⟨sx, 1, none⟩ = false := frozB HS2.out
      go_simp
      have HPS : Hid (PsX W ((w2.setCell ⟨sx, 0, none⟩ (.pointer (some ⟨e, 0, none⟩))).setCell ⟨sx, 1, none⟩ (.pointer (some ⟨x, 0, none⟩))) wb b t g0 sx i e x O ne He ne He) := Lib.hid (ps_make HH.out HSY.out HSI.out (by rw [HOO.out]; exact HX.out) HOG.out HS2.out HBy.out (Nat.le_of_eq HSX.out))
      have HBs : Hid (Below w1.heap.size w1 ((w2.setCell ⟨sx, 0, none⟩ (.pointer (some ⟨e, 0, none⟩))).setCell ⟨sx, 1, none⟩ (.pointer (some ⟨x, 0, none⟩)))) := Lib.hid ((HBy.out.setCell (p := ⟨sx, 0, none⟩) (Nat.le_of_eq HSX.out) _).setCell (p := ⟨sx, 1, none⟩) (Nat.le_of_eq HSX.out) _)
      refine hK.out _ _ (by exact HSS.out _ (by first | exact HBs.out | exact HBy.out | exact HB0.out)) (fun hHeld => ?_)
      clear hK KC
      try simp only [Act.put, List.setIfInBounds_toArray, List.set_cons_zero, List.set_cons_succ]
      refine wpAnyH_done (by kernel_rfl) ?_ _
      go_wp2_with fail
      go_meet
      exact ⟨sx, rfl, HPS⟩
    · go_simp
      obtain ⟨w2, sx, e1, e2, HS2, HBy⟩ := sbox_newD w1
      rw [e1, e2]
      have HSX := Lib.hid e2
      clear e1 e2
      refine hK.out _ _ (by exact HSS.out _ (by first | exact HBs.out | exact HBy.out | exact HB0.out)) (fun hHeld => ?_)
      clear hK KC
      try simp only [Act.put, List.setIfInBounds_toArray, List.set_cons_zero, List.set_cons_succ]
      refine wpAnyH_ready (rs := [11]) (by kernel_rfl) (by simp) ?_
      refine AllReadyH.cons (o := ⟨_, _, _, _, _, _⟩) rfl (fun KC hK => ?_) ?_
      rotate_left
      · exact AllReadyH.nil
      go_simp
      go_at_call 49
      (with_reducible refine (CP.out _).mono ?_)
      rintro o w9 ⟨rfl, hww⟩
      rw [hww]
      clear hww w9
      refine hK.out _ _ (by exact HSS.out _ (by first | exact HBs.out | exact HBy.out | exact HB0.out)) (fun hHeld => ?_)
      clear hK KC
      try simp only [Act.put, List.setIfInBounds_toArray, List.set_cons_zero, List.set_cons_succ]
      refine wpAnyH_take (i := 12) (oi := ⟨_, _, _, _, _, _⟩) (v := ?_) rfl (by kernel_rfl) (by kernel_rfl) (by kernel_rfl) (fun _ _ _ h => h) (Or.inl ⟨by rfl, ?_⟩) hHeld ?_
      rotate_left
      · ((intro w hSw; (try dsimp only at hSw); go_simp) <;> with_reducible rfl)
      try simp only [Act.put, List.setIfInBounds_toArray, List.set_cons_zero, List.set_cons_succ]
      refine wpAnyH_take (i := 13) (oi := ⟨_, _, _, _, _, _⟩) (v := ?_) rfl (by kernel_rfl) (by kernel_rfl) (by kernel_rfl) (fun _ _ _ h => h) (Or.inl ⟨by rfl, ?_⟩) hHeld ?_
      rotate_left
      · ((intro w hSw; (try dsimp only at hSw); go_simp) <;> with_reducible rfl)
      try simp only [Act.put, List.setIfInBounds_toArray, List.set_cons_zero, List.set_cons_succ]
      refine wpAnyH_ready (rs := [15]) (by kernel_rfl) (by simp) ?_
      refine AllReadyH.cons (o := ⟨_, _, _, _, _, _⟩) rfl (fun KC hK => ?_) ?_
      rotate_left
      · exact AllReadyH.nil
      obtain ⟨k0, k1⟩ := sbox_c HS2.out
      have f0 : w2.frozen? ⟨sx, 0, none⟩ = false := frozB HS2.out
      have f1 : w2.frozen? ⟨sx, 1, none⟩ = false := frozB HS2.out
      go_simp
      have HPS : Hid (PsX W ((w2.setCell ⟨sx, 0, none⟩ (.pointer (some ⟨e, 0, none⟩))).setCell ⟨sx, 1, none⟩ (.pointer (some ⟨x, 0, none⟩))) wb b t g0 sx i e x O ne He ne He) := Lib.hid (ps_make HH.out HSY.out HSI.out (by rw [HOO.out]; exact HX.out) HOG.out HS2.out HBy.out (Nat.le_of_eq HSX.out))
      have HBs : Hid (Below w1.heap.size w1 ((w2.setCell ⟨sx, 0, none⟩ (.pointer (some ⟨e, 0, none⟩))).setCell ⟨sx, 1, none⟩ (.pointer (some ⟨x, 0, none⟩)))) := Lib.hid ((HBy.out.setCell (p := ⟨sx, 0, none⟩) (Nat.le_of_eq HSX.out) _).setCell (p := ⟨sx, 1, none⟩) (Nat.le_of_eq HSX.out) _)
      refine hK.out _ _ (by exact HSS.out _ (by first | exact HBs.out | exact HBy.out | exact HB0.out)) (fun hHeld => ?_)
      clear hK KC
      try simp only [Act.put, List.setIfInBounds_toArray, List.set_cons_zero, List.set_cons_succ]
      refine wpAnyH_done (by kernel_rfl) ?_ _
      go_wp2_with fail
      go_meet
      exact ⟨sx, rfl, HPS⟩
  case rest =>
    obtain ⟨sx, rfl, HP⟩ := hcut
    clear HSS HSD HNS CP hii hin hz hns6 hi0 hwi HH HX HSI HB0 HOG HW1 HG0
    have HCC : Hid (∀ w' a1 a2 a3 a4, PsX W w' wb b t g0 sx i e x O a1 a2 a3 a4 → w'.cell? ⟨sx, 0, none⟩ = some (.pointer (some ⟨e, 0, none⟩)) ∧ w'.cell? ⟨sx, 1, none⟩ = some (.pointer (some ⟨x, 0, none⟩)) ∧ w'.cell? ⟨g0, 0, none⟩ = some (.int .i64 7) ∧ w'.cell? ⟨g0, 2, none⟩ = some (.int .i64 n) ∧ w'.cell? ⟨g0, 3, none⟩ = some (.int .i64 m) ∧ w'.cell? ⟨g0, 4, none⟩ = some (.string z) ∧ w'.cell? ⟨wb, 1, none⟩ = some (.pointer (some ⟨b, 0, none⟩))) := Lib.hid (fun w' a1 a2 a3 a4 h => by
      obtain ⟨k1, k2, k3, k4⟩ := h.c
      rw [HOO.out] at k3
      exact ⟨k1, k2, k3 0 _ rfl, k3 2 _ rfl, k3 3 _ rfl, k3 4 _ rfl, k4⟩)
    clear HOO
    have CLF : Hid (∀ (c : Int) w', Calls Tryd.prog 48 #[.int .i64 c] w' fun e w'' => e = .returned (.string (leafSU c)) ∧ Below w'.heap.size w' w'') := Lib.hid leafU_any
    obtain ⟨c0, c1, c2, c3, c4, c5, c6⟩ := HCC.out _ _ _ _ _ HP.out
    obtain ⟨rr, hrr⟩ : ∃ y, y = rootF He := ⟨_, rfl⟩
    have hst := text5_same rr
    have CRE : Hid (∀ w', PsX W w' wb b t g0 sx i e x O ne He ne He → Calls Tryd.prog 27 #[.pointer (some ⟨e, 0, none⟩)] w' fun o w'' => o = .returned (.string rr) ∧ Below w'.heap.size w' w'') := Lib.hid (fun w' h => by rw [hrr]; exact h.rootE HBAS.out)
    have CRX : Hid (∀ w', PsX W w' wb b t g0 sx i e x O ne He ne He → Calls Tryd.prog 28 #[.pointer (some ⟨x, 0, none⟩)] w' fun o w'' => o = .returned (.string rr) ∧ Below w'.heap.size w' w'') := Lib.hid (fun w' h => by rw [hrr]; exact h.rootX)
    have HS0 : Hid (∀ w', PsX W w' wb b t g0 sx i e x O ne He ne He → w'.cell? ⟨sx, 0, none⟩ = some (.pointer (some ⟨e, 0, none⟩)) ∧ w'.cell? ⟨sx, 1, none⟩ = some (.pointer (some ⟨x, 0, none⟩))) := Lib.hid (fun w' h => by have := HCC.out w' _ _ _ _ h; exact ⟨this.1, this.2.1⟩)
    have HQ0 : Hid (PsX W wc.drew wb b t g0 sx i e x O ne He ne He) := Lib.hid (HP.out.below (Below.refl _ _).drew)
    clear hrr
    go_upto_region 36 with fail
    clear c0 c1 c2 c3 c4 c5 c6
    go_region_held3 (fun w' => w'.cell? ⟨sx, 0, none⟩ = some (.pointer (some ⟨e, 0, none⟩)) ∧ w'.cell? ⟨sx, 1, none⟩ = some (.pointer (some ⟨x, 0, none⟩))) (first | exact HS0.out _ HQ2.out | exact HS0.out _ HQ1.out | exact HS0.out _ HQ0.out) (first
      | (go_at_call 27; (with_reducible refine (CRE.out _ HQ0.out).mono ?_); rintro o w2 ⟨rfl, h⟩; have HQ1 := Lib.hid (HQ0.out.below h); clear h)
      | (go_at_call 28; (with_reducible refine (CRX.out _ HQ1.out).mono ?_); rintro o w3 ⟨rfl, h⟩; have HQ2 := Lib.hid (HQ1.out.below h); clear h)
      | (go_at_call 46; (with_reducible refine (HQ2.out.sizeE).mono ?_); rintro o w9 ⟨rfl, hww⟩; replace hww := hww.symm; subst hww)
      | (go_at_call 76; (with_reducible refine (HQ2.out.sizeX).mono ?_); rintro o w9 ⟨rfl, hww⟩; replace hww := hww.symm; subst hww))
    go_wp2_with fail
    go_ret
    exact ⟨by simp, HQ2.out.ends.more (Nat.le_add_right _ _)⟩
end Go.Proofs.YtdbghgpohdijfaaDoor
/- Law 5's play: a step on a side, walked (printed by gen_pl8.py). -/
namespace Go.Proofs.YtdbghgpohdijfaaDoor
open Go.RowKit Go.Scr Bk5 Go.ChangeMaps Go.MapKept
set_option linter.unusedVariables false
set_option maxRecDepth 100000 in
set_option maxHeartbeats 16000000 in
theorem play_8 {W w : World} {wb b t ln c : Nat} {p : Option Addr} {on n m : Int} {z : ByteArray} {L : List ByteArray} (hB : Bas W W.heap.size) (h : PlK W w wb b t) (hv : Txts W (.slice p ln c) L) (hll : L.length ≤ 1048576) (hon : -9223372036854775808 ≤ on ∧ on ≤ 9223372036854775807) (hn : -9223372036854775808 ≤ n ∧ n ≤ 9223372036854775807) (hm : -9223372036854775808 ≤ m ∧ m ≤ 9223372036854775807) (ht : t ≤ 900) :
    Calls Tryd.prog 22 #[.pointer (some ⟨wb, 0, none⟩), .agg #[.int .i64 8, .int .i64 on, .int .i64 n, .int .i64 m, .string z, .slice p ln c]] w fun o w' => o = .returned (.bool true) ∧ PlK W w' wb b (t + 2) := by
  obtain ⟨col, oc, S, sv, hv0, hl, h, hS⟩ := h
  obtain ⟨g0, hg0⟩ : ∃ x, x = w.heap.size := ⟨_, rfl⟩
  obtain ⟨w1, hw1⟩ : ∃ x, x = w.alloc (.cells #[.int .i64 8, .int .i64 on, .int .i64 n, .int .i64 m, .string z, .slice p ln c] 54) := ⟨_, rfl⟩
  have hbx : w1.heap[g0]? = some (.cells #[.int .i64 8, .int .i64 on, .int .i64 n, .int .i64 m, .string z, .slice p ln c] 54 (0, 0)) := by rw [hw1, hg0]; exact heap_alloc_new w _
  have hb1 : Below w.heap.size w w1 := by rw [hw1]; exact (Below.refl _ _).alloc (Nat.le_refl _) _
  have hog : oc g0 = 0 := by
    by_cases h0 : oc g0 = 0
    · exact h0
    · have := h.ol g0 h0; omega
  have h1 := h.below hb1
  have HH := Lib.hid h1
  have HSY := Lib.hid hS
  have HTX := Lib.hid hv
  have HBAS := Lib.hid hB
  have HW1 := Lib.hid hw1
  have HG0 := Lib.hid hg0
  have HX := Lib.hid hbx
  have HOG := Lib.hid hog
  have HT := Lib.hid ht
  have HLL := Lib.hid hll
  have c0 : w1.cell? ⟨g0, 0, none⟩ = some (.int .i64 8) := cellB hbx rfl
  obtain ⟨ns, hns⟩ : ∃ x, x = S.length := ⟨_, rfl⟩
  have hsd := h1.sd id
  rw [← hns] at hsd
  obtain ⟨ps, cs, rfl, _⟩ := hsd.cells
  have HSD := Lib.hid hsd
  have hns6 : ns ≤ 6 := by rw [hns]; exact h1.sl
  have HNS := Lib.hid hns
  have c1 : w1.cell? ⟨wb, 0, none⟩ = some (.slice ps ns cs) := cellB (h1.wx id) rfl
  clear hsd hns
  clear h hS hv hB hw1 hg0 hbx hb1 hog h1 ht hll
  go_enter Tryd.func22, Tryd.ntmps22
  go_upto_region 1 with fail
  rw [← HW1.out, ← HG0.out]
  go_upto_region 17 with fail
  by_cases hz : ns = 0
  · subst hz
    go_wp2_with fail
    go_ret
    exact ⟨rfl, PlK.more (t := t) ⟨col, oc, S, _, hv0, hl, HH.out, HSY.out⟩ (Nat.le_add_right _ _)⟩
  have hz1 : ((ns : Int) == 0) = false := by rw [beq_eq_false_iff_ne]; omega
  have hz2 : ¬ (ns : Int) = 0 := by omega
  obtain ⟨i, hi⟩ : ∃ i, i = pickN on ns := ⟨_, rfl⟩
  have hin : i < ns := by rw [hi]; exact pickN_lt on (by omega)
  obtain ⟨s, hs⟩ : ∃ s, S[i]? = some s := ⟨S[i]'(by rw [← HNS.out]; exact hin), List.getElem?_eq_getElem _⟩
  have CP : Hid (∀ w', Calls Tryd.prog 49 #[.int .i64 on, .int .i64 (ns : Int)] w' fun e w'' => e = .returned (.int .i64 (i : Int)) ∧ w'' = w') := Lib.hid (fun w' => by rw [hi]; exact pickU_any on ns w' (by omega) (by omega) hon)
  obtain ⟨sb, rfl⟩ : ∃ sb, ps = some ⟨sb, 0, none⟩ := by
    rcases HSD.out.2 with ⟨e, e2⟩ | ⟨g, cap, cur, e, _⟩
    · omega
    · injection e with e1 _ _; exact ⟨g, e1⟩
  obtain ⟨⟨e, ne, He, x, mx, Kx⟩, hse⟩ : ∃ s', s' = s := ⟨_, rfl⟩
  subst hse
  have hsync := HSY.out _ (List.mem_of_getElem? hs)
  obtain ⟨rfl, rfl⟩ : ne = mx ∧ He = Kx := hsync
  have HSS : Hid (∀ w', Below w1.heap.size w1 w' → w'.cell? ⟨wb, 0, none⟩ = some (.slice (some ⟨sb, 0, none⟩) ns cs) ∧ w'.cell? ⟨g0, 1, none⟩ = some (.int .i64 on) ∧ w'.cell? ⟨sb, i * 2, none⟩ = some (.pointer (some ⟨e, 0, none⟩)) ∧ w'.cell? ⟨sb, i * 2 + 1, none⟩ = some (.pointer (some ⟨x, 0, none⟩))) := Lib.hid (fun w' hb => by
    obtain ⟨k1, k2⟩ := sdV_get hs
    obtain ⟨p', c', e1, _, _, hc⟩ := (HSD.out.below hb).cells
    injection e1 with e1 _ _
    have hadd : ∀ j, (⟨sb, 0, none⟩ : Addr).add j = ⟨sb, j, none⟩ := fun j => by unfold Addr.add; split <;> simp_all
    obtain ⟨a1, ha1, _, hc1⟩ := hc _ _ k1
    obtain ⟨a2, ha2, _, hc2⟩ := hc _ _ k2
    rw [← e1] at ha1 ha2
    obtain rfl := Option.some.inj ha1
    obtain rfl := Option.some.inj ha2
    rw [hadd] at hc1 hc2
    exact ⟨cellB ((HH.out.below hb).wx id) rfl, cellB (blk_below HX.out hb (blk_lt HX.out)) rfl, hc1, hc2⟩)
  have hii : (i : Int) < (ns : Int) := by omega
  have hi0 : (0 : Int) ≤ (i : Int) := by omega
  have hwi : IntKind.i64.wrap (i : Int) = (i : Int) := wrap_i64_id _ (by omega) (by omega)
  obtain ⟨O, hO⟩ : ∃ O : Array Value, O = #[.int .i64 8, .int .i64 on, .int .i64 n, .int .i64 m, .string z, .slice p ln c] := ⟨_, rfl⟩
  have HOO := Lib.hid hO
  have HSI := Lib.hid hs
  have HB0 : Hid (Below w1.heap.size w1 w1.drew) := Lib.hid (Below.refl _ _).drew
  clear hi hs c0 hO
  go_upto_region 19 with fail
  clear c1 hz1 hz2
  go_cut [9] from 83 to 103 (fun x9 wx => ∃ sx, x9 = .pointer (some ⟨sx, 0, none⟩) ∧ Hid (PsX W wx wb b t g0 sx i e x O ne He ne He))
  case first =>
    refine wp_region_held_drew (S := fun w' => w'.cell? ⟨wb, 0, none⟩ = some (.slice (some ⟨sb, 0, none⟩) ns cs) ∧ w'.cell? ⟨g0, 1, none⟩ = some (.int .i64 on) ∧ w'.cell? ⟨sb, i * 2, none⟩ = some (.pointer (some ⟨e, 0, none⟩)) ∧ w'.cell? ⟨sb, i * 2 + 1, none⟩ = some (.pointer (some ⟨x, 0, none⟩))) (by kernel_rfl) (by exact HSS.out _ (by first | exact HBs.out | exact HBy.out | exact HB0.out)) (fun hHeld => ?_)
    refine wpAnyH_take (i := 0) (oi := ⟨_, _, _, _, _, _⟩) (v := ?_) rfl (by kernel_rfl) (by kernel_rfl) (by kernel_rfl) (fun _ _ _ h => h) (Or.inl ⟨by rfl, ?_⟩) hHeld ?_
    rotate_left
    · ((intro w hSw; (try dsimp only at hSw); go_simp) <;> with_reducible rfl)
    try simp only [Act.put, List.setIfInBounds_toArray, List.set_cons_zero, List.set_cons_succ]
    refine wpAnyH_take (i := 1) (oi := ⟨_, _, _, _, _, _⟩) (v := ?_) rfl (by kernel_rfl) (by kernel_rfl) (by kernel_rfl) (fun _ _ _ h => h) (Or.inl ⟨by rfl, ?_⟩) hHeld ?_
    rotate_left
    · ((intro w hSw; (try dsimp only at hSw); go_simp) <;> with_reducible rfl)
    try simp only [Act.put, List.setIfInBounds_toArray, List.set_cons_zero, List.set_cons_succ]
    refine wpAnyH_take (i := 2) (oi := ⟨_, _, _, _, _, _⟩) (v := ?_) rfl (by kernel_rfl) (by kernel_rfl) (by kernel_rfl) (fun _ _ _ h => h) (Or.inl ⟨by rfl, ?_⟩) hHeld ?_
    rotate_left
    · ((intro w hSw; (try dsimp only at hSw); go_simp) <;> with_reducible rfl)
    try simp only [Act.put, List.setIfInBounds_toArray, List.set_cons_zero, List.set_cons_succ]
    refine wpAnyH_take (i := 3) (oi := ⟨_, _, _, _, _, _⟩) (v := ?_) rfl (by kernel_rfl) (by kernel_rfl) (by kernel_rfl) (fun _ _ _ h => h) (Or.inl ⟨by rfl, ?_⟩) hHeld ?_
    rotate_left
    · ((intro w hSw; (try dsimp only at hSw); go_simp) <;> with_reducible rfl)
    try simp only [Act.put, List.setIfInBounds_toArray, List.set_cons_zero, List.set_cons_succ]
    refine wpAnyH_take (i := 4) (oi := ⟨_, _, _, _, _, _⟩) (v := ?_) rfl (by kernel_rfl) (by kernel_rfl) (by kernel_rfl) (fun _ _ _ h => h) (Or.inl ⟨by rfl, ?_⟩) hHeld ?_
    rotate_left
    · ((intro w hSw; (try dsimp only at hSw); go_simp) <;> with_reducible rfl)
    try simp only [Act.put, List.setIfInBounds_toArray, List.set_cons_zero, List.set_cons_succ]
    refine wpAnyH_take (i := 5) (oi := ⟨_, _, _, _, _, _⟩) (v := ?_) rfl (by kernel_rfl) (by kernel_rfl) (by kernel_rfl) (fun _ _ _ h => h) (Or.inl ⟨by rfl, ?_⟩) hHeld ?_
    rotate_left
    · ((intro w hSw; (try dsimp only at hSw); go_simp) <;> with_reducible rfl)
    try simp only [Act.put, List.setIfInBounds_toArray, List.set_cons_zero, List.set_cons_succ]
    refine wpAnyH_take (i := 6) (oi := ⟨_, _, _, _, _, _⟩) (v := ?_) rfl (by kernel_rfl) (by kernel_rfl) (by kernel_rfl) (fun _ _ _ h => h) (Or.inl ⟨by rfl, ?_⟩) hHeld ?_
    rotate_left
    · ((intro w hSw; (try dsimp only at hSw); go_simp) <;> with_reducible rfl)
    try simp only [Act.put, List.setIfInBounds_toArray, List.set_cons_zero, List.set_cons_succ]
    refine wpAnyH_take (i := 7) (oi := ⟨_, _, _, _, _, _⟩) (v := ?_) rfl (by kernel_rfl) (by kernel_rfl) (by kernel_rfl) (fun _ _ _ h => h) (Or.inl ⟨by rfl, ?_⟩) hHeld ?_
    rotate_left
    · ((intro w hSw; (try dsimp only at hSw); go_simp) <;> with_reducible rfl)
    try simp only [Act.put, List.setIfInBounds_toArray, List.set_cons_zero, List.set_cons_succ]
    refine wpAnyH_take (i := 8) (oi := ⟨_, _, _, _, _, _⟩) (v := ?_) rfl (by kernel_rfl) (by kernel_rfl) (by kernel_rfl) (fun _ _ _ h => h) (Or.inl ⟨by rfl, ?_⟩) hHeld ?_
    rotate_left
    · ((intro w hSw; (try dsimp only at hSw); go_simp) <;> with_reducible rfl)
    try simp only [Act.put, List.setIfInBounds_toArray, List.set_cons_zero, List.set_cons_succ]
    refine wpAnyH_take (i := 9) (oi := ⟨_, _, _, _, _, _⟩) (v := ?_) rfl (by kernel_rfl) (by kernel_rfl) (by kernel_rfl) (fun _ _ _ h => h) (Or.inl ⟨by rfl, ?_⟩) hHeld ?_
    rotate_left
    · ((intro w hSw; (try dsimp only at hSw); go_simp) <;> with_reducible rfl)
    try simp only [Act.put, List.setIfInBounds_toArray, List.set_cons_zero, List.set_cons_succ]
    refine wpAnyH_take (i := 10) (oi := ⟨_, _, _, _, _, _⟩) (v := ?_) rfl (by kernel_rfl) (by kernel_rfl) (by kernel_rfl) (fun _ _ _ h => h) (Or.inl ⟨by rfl, ?_⟩) hHeld ?_
    rotate_left
    · ((intro w hSw; (try dsimp only at hSw); go_simp) <;> with_reducible rfl)
    try simp only [Act.put, List.setIfInBounds_toArray, List.set_cons_zero, List.set_cons_succ]
    refine wpAnyH_ready (rs := [11, 14]) (by kernel_rfl) (by simp) ?_
    refine AllReadyH.cons (o := ⟨_, _, _, _, _, _⟩) rfl (fun KC hK => ?_) ?_
    rotate_left
    refine AllReadyH.cons (o := ⟨_, _, _, _, _, _⟩) rfl (fun KC hK => ?_) ?_
    rotate_left
    · exact AllReadyH.nil
    · go_simp
      go_at_call 49
      (with_reducible refine (CP.out _).mono ?_)
      rintro o w9 ⟨rfl, hww⟩
      rw [hww]
      clear hww w9
      refine hK.out _ _ (by exact HSS.out _ (by first | exact HBs.out | exact HBy.out | exact HB0.out)) (fun hHeld => ?_)
      clear hK KC
      try simp only [Act.put, List.setIfInBounds_toArray, List.set_cons_zero, List.set_cons_succ]
      refine wpAnyH_take (i := 12) (oi := ⟨_, _, _, _, _, _⟩) (v := ?_) rfl (by kernel_rfl) (by kernel_rfl) (by kernel_rfl) (fun _ _ _ h => h) (Or.inl ⟨by rfl, ?_⟩) hHeld ?_
      rotate_left
      · ((intro w hSw; (try dsimp only at hSw); go_simp) <;> with_reducible rfl)
      try simp only [Act.put, List.setIfInBounds_toArray, List.set_cons_zero, List.set_cons_succ]
      refine wpAnyH_take (i := 13) (oi := ⟨_, _, _, _, _, _⟩) (v := ?_) rfl (by kernel_rfl) (by kernel_rfl) (by kernel_rfl) (fun _ _ _ h => h) (Or.inl ⟨by rfl, ?_⟩) hHeld ?_
      rotate_left
      · ((intro w hSw; (try dsimp only at hSw); go_simp) <;> with_reducible rfl)
      try simp only [Act.put, List.setIfInBounds_toArray, List.set_cons_zero, List.set_cons_succ]
      refine wpAnyH_ready (rs := [14]) (by kernel_rfl) (by simp) ?_
      refine AllReadyH.cons (o := ⟨_, _, _, _, _, _⟩) rfl (fun KC hK => ?_) ?_
      rotate_left
      · exact AllReadyH.nil
      go_simp
      obtain ⟨w2, sx, e1, e2, HS2, HBy⟩ := sbox_newD w1
      rw [e1, e2]
      have HSX := Lib.hid e2
      clear e1 e2
      refine hK.out _ _ (by exact HSS.out _ (by first | exact HBs.out | exact HBy.out | exact HB0.out)) (fun hHeld => ?_)
      clear hK KC
      try simp only [Act.put, List.setIfInBounds_toArray, List.set_cons_zero, List.set_cons_succ]
      refine wpAnyH_ready (rs := [15]) (by kernel_rfl) (by simp) ?_
      refine AllReadyH.cons (o := ⟨_, _, _, _, _, _⟩) rfl (fun KC hK => ?_) ?_
      rotate_left
      · exact AllReadyH.nil
      obtain ⟨k0, k1⟩ := sbox_c HS2.out
      have f0 : w2.frozen? ⟨sx, 0, none⟩ = false := frozB HS2.out
      have f1 : w2.frozen? ⟨sx, 1, none⟩ = false := frozB HS2.out
      go_simp
      have HPS : Hid (PsX W ((w2.setCell ⟨sx, 0, none⟩ (.pointer (some ⟨e, 0, none⟩))).setCell ⟨sx, 1, none⟩ (.pointer (some ⟨x, 0, none⟩))) wb b t g0 sx i e x O ne He ne He) := Lib.hid (ps_make HH.out HSY.out HSI.out (by rw [HOO.out]; exact HX.out) HOG.out HS2.out HBy.out (Nat.le_of_eq HSX.out))
      have HBs : Hid (Below w1.heap.size w1 ((w2.setCell ⟨sx, 0, none⟩ (.pointer (some ⟨e, 0, none⟩))).setCell ⟨sx, 1, none⟩ (.pointer (some ⟨x, 0, none⟩)))) := Lib.hid ((HBy.out.setCell (p := ⟨sx, 0, none⟩) (Nat.le_of_eq HSX.out) _).setCell (p := ⟨sx, 1, none⟩) (Nat.le_of_eq HSX.out) _)
      refine hK.out _ _ (by exact HSS.out _ (by first | exact HBs.out | exact HBy.out | exact HB0.out)) (fun hHeld => ?_)
      clear hK KC
      try simp only [Act.put, List.setIfInBounds_toArray, List.set_cons_zero, List.set_cons_succ]
      refine wpAnyH_done (by kernel_rfl) ?_ _
      go_wp2_with fail
      go_meet
      exact ⟨sx, rfl, HPS⟩
    · go_simp
      obtain ⟨w2, sx, e1, e2, HS2, HBy⟩ := sbox_newD w1
      rw [e1, e2]
      have HSX := Lib.hid e2
      clear e1 e2
      refine hK.out _ _ (by exact HSS.out _ (by first | exact HBs.out | exact HBy.out | exact HB0.out)) (fun hHeld => ?_)
      clear hK KC
      try simp only [Act.put, List.setIfInBounds_toArray, List.set_cons_zero, List.set_cons_succ]
      refine wpAnyH_ready (rs := [11]) (by kernel_rfl) (by simp) ?_
      refine AllReadyH.cons (o := ⟨_, _, _, _, _, _⟩) rfl (fun KC hK => ?_) ?_
      rotate_left
      · exact AllReadyH.nil
      go_simp
      go_at_call 49
      (with_reducible refine (CP.out _).mono ?_)
      rintro o w9 ⟨rfl, hww⟩
      rw [hww]
      clear hww w9
      refine hK.out _ _ (by exact HSS.out _ (by first | exact HBs.out | exact HBy.out | exact HB0.out)) (fun hHeld => ?_)
      clear hK KC
      try simp only [Act.put, List.setIfInBounds_toArray, List.set_cons_zero, List.set_cons_succ]
      refine wpAnyH_take (i := 12) (oi := ⟨_, _, _, _, _, _⟩) (v := ?_) rfl (by kernel_rfl) (by kernel_rfl) (by kernel_rfl) (fun _ _ _ h => h) (Or.inl ⟨by rfl, ?_⟩) hHeld ?_
      rotate_left
      · ((intro w hSw; (try dsimp only at hSw); go_simp) <;> with_reducible rfl)
      try simp only [Act.put, List.setIfInBounds_toArray, List.set_cons_zero, List.set_cons_succ]
      refine wpAnyH_take (i := 13) (oi := ⟨_, _, _, _, _, _⟩) (v := ?_) rfl (by kernel_rfl) (by kernel_rfl) (by kernel_rfl) (fun _ _ _ h => h) (Or.inl ⟨by rfl, ?_⟩) hHeld ?_
      rotate_left
      · ((intro w hSw; (try dsimp only at hSw); go_simp) <;> with_reducible rfl)
      try simp only [Act.put, List.setIfInBounds_toArray, List.set_cons_zero, List.set_cons_succ]
      refine wpAnyH_ready (rs := [15]) (by kernel_rfl) (by simp) ?_
      refine AllReadyH.cons (o := ⟨_, _, _, _, _, _⟩) rfl (fun KC hK => ?_) ?_
      rotate_left
      · exact AllReadyH.nil
      obtain ⟨k0, k1⟩ := sbox_c HS2.out
      have f0 : w2.frozen? ⟨sx, 0, none⟩ = false := frozB HS2.out
      have f1 : w2.frozen? ⟨sx, 1, none⟩ = false := frozB HS2.out
      go_simp
      have HPS : Hid (PsX W ((w2.setCell ⟨sx, 0, none⟩ (.pointer (some ⟨e, 0, none⟩))).setCell ⟨sx, 1, none⟩ (.pointer (some ⟨x, 0, none⟩))) wb b t g0 sx i e x O ne He ne He) := Lib.hid (ps_make HH.out HSY.out HSI.out (by rw [HOO.out]; exact HX.out) HOG.out HS2.out HBy.out (Nat.le_of_eq HSX.out))
      have HBs : Hid (Below w1.heap.size w1 ((w2.setCell ⟨sx, 0, none⟩ (.pointer (some ⟨e, 0, none⟩))).setCell ⟨sx, 1, none⟩ (.pointer (some ⟨x, 0, none⟩)))) := Lib.hid ((HBy.out.setCell (p := ⟨sx, 0, none⟩) (Nat.le_of_eq HSX.out) _).setCell (p := ⟨sx, 1, none⟩) (Nat.le_of_eq HSX.out) _)
      refine hK.out _ _ (by exact HSS.out _ (by first | exact HBs.out | exact HBy.out | exact HB0.out)) (fun hHeld => ?_)
      clear hK KC
      try simp only [Act.put, List.setIfInBounds_toArray, List.set_cons_zero, List.set_cons_succ]
      refine wpAnyH_done (by kernel_rfl) ?_ _
      go_wp2_with fail
      go_meet
      exact ⟨sx, rfl, HPS⟩
  case rest =>
    obtain ⟨sx, rfl, HP⟩ := hcut
    clear HSS HSD HNS CP hii hin hz hns6 hi0 hwi HH HX HSI HB0 HOG HW1 HG0
    have HCC : Hid (∀ w' a1 a2 a3 a4, PsX W w' wb b t g0 sx i e x O a1 a2 a3 a4 → w'.cell? ⟨sx, 0, none⟩ = some (.pointer (some ⟨e, 0, none⟩)) ∧ w'.cell? ⟨sx, 1, none⟩ = some (.pointer (some ⟨x, 0, none⟩)) ∧ w'.cell? ⟨g0, 0, none⟩ = some (.int .i64 8) ∧ w'.cell? ⟨g0, 2, none⟩ = some (.int .i64 n) ∧ w'.cell? ⟨g0, 3, none⟩ = some (.int .i64 m) ∧ w'.cell? ⟨g0, 4, none⟩ = some (.string z) ∧ w'.cell? ⟨wb, 1, none⟩ = some (.pointer (some ⟨b, 0, none⟩))) := Lib.hid (fun w' a1 a2 a3 a4 h => by
      obtain ⟨k1, k2, k3, k4⟩ := h.c
      rw [HOO.out] at k3
      exact ⟨k1, k2, k3 0 _ rfl, k3 2 _ rfl, k3 3 _ rfl, k3 4 _ rfl, k4⟩)
    clear HOO
    have CLF : Hid (∀ (c : Int) w', Calls Tryd.prog 48 #[.int .i64 c] w' fun e w'' => e = .returned (.string (leafSU c)) ∧ Below w'.heap.size w' w'') := Lib.hid leafU_any
    obtain ⟨c0, c1, c2, c3, c4, c5, c6⟩ := HCC.out _ _ _ _ _ HP.out
    obtain ⟨nh, hnh⟩ : ∃ y, y = He.length := ⟨_, rfl⟩
    have hn80 : nh ≤ 80 := by rw [hnh]; exact HP.out.okE.1.l80
    have HNH := Lib.hid hnh
    have CNE : Hid (∀ w', PsX W w' wb b t g0 sx i e x O ne He ne He → Calls Tryd.prog 24 #[.pointer (some ⟨e, 0, none⟩)] w' fun o w'' => ∃ p c, o = .returned (.slice p nh c) ∧ LfI w' w'' (.slice p nh c) nh He) := Lib.hid (fun w' h => by rw [hnh]; exact h.nodesE)
    have CNX : Hid (∀ w', PsX W w' wb b t g0 sx i e x O ne He ne He → Calls Tryd.prog 26 #[.pointer (some ⟨x, 0, none⟩)] w' fun o w'' => ∃ p c, o = .returned (.slice p nh c) ∧ LfI w' w'' (.slice p nh c) nh He) := Lib.hid (fun w' h => by rw [hnh]; exact h.nodesX)
    have CSM : Hid (∀ w' p1 q1 p2 q2, Held w' 9 1 (.slice p1 nh q1) nh (He.map Value.string) → Held w' 9 1 (.slice p2 nh q2) nh (He.map Value.string) → Calls Tryd.prog 25 #[.slice p1 nh q1, .slice p2 nh q2] w' fun o w'' => o = .returned (.bool true) ∧ Below w'.heap.size w' w'') := Lib.hid (fun w' p1 q1 p2 q2 h1 h2 => by
      have k1 := held_txts5 h1 hnh (by omega)
      have k2 := held_txts5 h2 hnh (by omega)
      have := same5_any _ _ He He w' k1 k2 (by omega) (by omega)
      exact same_self this)
    clear hnh
    go_upto_region 39 with (go_at_call 24; (with_reducible refine (CNE.out _ HP.out).mono ?_); rintro o w2 ⟨p2, q2, rfl, h⟩; have HL2 := Lib.hid h; clear h)
    have HP2 := Lib.hid (HP.out.below HL2.out.b)
    clear c0 c1 c2 c3 c4 c5 c6
    obtain ⟨c0, c1, c2, c3, c4, c5, c6⟩ := HCC.out _ _ _ _ _ HP2.out
    go_upto_region 40 with (go_at_call 24; (with_reducible refine (CNE.out _ HP2.out).mono ?_); rintro o w3 ⟨p3, q3, rfl, h⟩; have HL3 := Lib.hid h; clear h)
    have HP3 := Lib.hid (HP2.out.below HL3.out.b)
    clear c0 c1 c2 c3 c4 c5 c6
    obtain ⟨c0, c1, c2, c3, c4, c5, c6⟩ := HCC.out _ _ _ _ _ HP3.out
    go_upto_region 41 with (first
      | (go_at_call 26; (with_reducible refine (CNX.out _ HP3.out).mono ?_); rintro o w4 ⟨p4, q4, rfl, h⟩; have HL4 := Lib.hid h; clear h)
      | (go_at_call 25; (with_reducible refine (CSM.out _ _ _ _ _ ((HL2.out.h.below HL3.out.b).below HL4.out.b) HL4.out.h).mono ?_); rintro o w5 ⟨rfl, h⟩; have HB5 : Hid (Below w3.heap.size w3 w5) := Lib.hid (below_from HL4.out.b h HL4.out.b.size); clear h))
    have HP4 := Lib.hid (HP3.out.below HB5.out)
    clear c0 c1 c2 c3 c4 c5 c6
    obtain ⟨c0, c1, c2, c3, c4, c5, c6⟩ := HCC.out _ _ _ _ _ HP4.out
    go_upto_region 42 with (first
      | (go_at_call 26; (with_reducible refine (CNX.out _ HP4.out).mono ?_); rintro o w6 ⟨p5, q5, rfl, h⟩; have HL5 := Lib.hid h; clear h)
      | (go_at_call 25; (with_reducible refine (CSM.out _ _ _ _ _ ((HL3.out.h.below HB5.out).below HL5.out.b) HL5.out.h).mono ?_); rintro o w7 ⟨rfl, h⟩; have HB7 : Hid (Below w5.heap.size w5 w7) := Lib.hid (below_from HL5.out.b h HL5.out.b.size); clear h))
    have HW2 : Hid (PsW2 W w7 wb b t g0 sx i e x O ne He (.slice p2 nh q2) (.slice p3 nh q3)) := Lib.hid (HP.out.wait (by rw [← HNH.out]; exact HL2.out) (by rw [← HNH.out]; exact HL3.out) (below_from HB5.out HB7.out HB5.out.size))
    clear c0 c1 c2 c3 c4 c5 c6 HP HP2 HP3 HP4 HL2 HL3 HL4 HL5
    have c6 := HW2.out.c
    have ht1 : t ≤ 1000 := by have := HT.out; omega
    have ht2 : t + 1 ≤ 1000 := by have := HT.out; omega
    go_upto_region 43 with (go_at_call 38; (with_reducible refine (HW2.out.takes ht1).mono ?_); rintro o w8 ⟨rfl, h⟩; have HW1 := Lib.hid h; clear h)
    clear c6
    have c6 := HW1.out.c
    go_wp2_with (go_at_call 38; (with_reducible refine (HW1.out.takes ht2).mono ?_); rintro o w9 ⟨rfl, h⟩; have HP7 := Lib.hid h; clear h)
    go_ret
    exact ⟨rfl, HP7.out.ends⟩
end Go.Proofs.YtdbghgpohdijfaaDoor
/- Law 5's play: a step on a side, walked (printed by gen_pl8.py). -/
namespace Go.Proofs.YtdbghgpohdijfaaDoor
open Go.RowKit Go.Scr Bk5 Go.ChangeMaps Go.MapKept
set_option linter.unusedVariables false
theorem PsX.far {W w : World} {wb b t g0 sx i e x n m : Nat} {O : Array Value} {H K : List ByteArray} (h : PsX W w wb b t g0 sx i e x O n H m K) {ps : Option Addr} {ns cs : Nat} (hsv : w.cell? ⟨wb, 0, none⟩ = some (.slice ps ns cs)) {w4 w5 : World} (hb : Below w.heap.size w w4) {d : Array Value} {T n' m' : Nat} {v5 : Value} {xs news : List Value}
    (hg : Grew 58 2 (w4.alloc (.cells d T)) (.slice ps ns cs) n' m' xs news v5 w5) : w5.cell? ⟨sx, 1, none⟩ = some (.pointer (some ⟨x, 0, none⟩)) ∧ (w5.setCell ⟨wb, 0, none⟩ v5).cell? ⟨sx, 1, none⟩ = some (.pointer (some ⟨x, 0, none⟩)) := by
  obtain ⟨col, oc, S, sv, hv, hl, h⟩ := h
  have h0 : w.cell? ⟨wb, 0, none⟩ = some sv := cellB (h.pl.wx id) rfl
  rw [hsv] at h0
  obtain rfl := Option.some.inj h0
  have h4 := h.below hb
  have hgw := grown_alloc hg.grown
  have hx : w5.heap[sx]? = w4.heap[sx]? := hgw.block sx (blk_lt h4.bs) (fun e => by have := h.pl.so id sx e.symm; rw [h.o1] at this; exact absurd this (by decide))
  have hne : sx ≠ wb := fun e => by have := h.pl.wo; rw [← e, h.o1] at this; exact absurd this (by decide)
  have hx2 : (w5.setCell ⟨wb, 0, none⟩ v5).heap[sx]? = w4.heap[sx]? := (Below.heap_setCell _ ⟨wb, 0, none⟩ _ sx hne).trans hx
  exact ⟨cellB (hx.trans h4.bs) rfl, cellB (hx2.trans h4.bs) rfl⟩
set_option maxRecDepth 100000 in
set_option maxHeartbeats 16000000 in
theorem play_9 {W w : World} {wb b t ln c : Nat} {p : Option Addr} {on n m : Int} {z : ByteArray} {L : List ByteArray} (hB : Bas W W.heap.size) (h : PlK W w wb b t) (hv : Txts W (.slice p ln c) L) (hll : L.length ≤ 1048576) (hon : -9223372036854775808 ≤ on ∧ on ≤ 9223372036854775807) (hn : -9223372036854775808 ≤ n ∧ n ≤ 9223372036854775807) (hm : -9223372036854775808 ≤ m ∧ m ≤ 9223372036854775807) (ht : t ≤ 900) :
    Calls Tryd.prog 22 #[.pointer (some ⟨wb, 0, none⟩), .agg #[.int .i64 9, .int .i64 on, .int .i64 n, .int .i64 m, .string z, .slice p ln c]] w fun o w' => o = .returned (.bool true) ∧ PlK W w' wb b (t + 2) := by
  obtain ⟨col, oc, S, sv, hv0, hl, h, hS⟩ := h
  obtain ⟨g0, hg0⟩ : ∃ x, x = w.heap.size := ⟨_, rfl⟩
  obtain ⟨w1, hw1⟩ : ∃ x, x = w.alloc (.cells #[.int .i64 9, .int .i64 on, .int .i64 n, .int .i64 m, .string z, .slice p ln c] 54) := ⟨_, rfl⟩
  have hbx : w1.heap[g0]? = some (.cells #[.int .i64 9, .int .i64 on, .int .i64 n, .int .i64 m, .string z, .slice p ln c] 54 (0, 0)) := by rw [hw1, hg0]; exact heap_alloc_new w _
  have hb1 : Below w.heap.size w w1 := by rw [hw1]; exact (Below.refl _ _).alloc (Nat.le_refl _) _
  have hog : oc g0 = 0 := by
    by_cases h0 : oc g0 = 0
    · exact h0
    · have := h.ol g0 h0; omega
  have h1 := h.below hb1
  have HH := Lib.hid h1
  have HSY := Lib.hid hS
  have HTX := Lib.hid hv
  have HBAS := Lib.hid hB
  have HW1 := Lib.hid hw1
  have HG0 := Lib.hid hg0
  have HX := Lib.hid hbx
  have HOG := Lib.hid hog
  have HT := Lib.hid ht
  have HLL := Lib.hid hll
  have c0 : w1.cell? ⟨g0, 0, none⟩ = some (.int .i64 9) := cellB hbx rfl
  obtain ⟨ns, hns⟩ : ∃ x, x = S.length := ⟨_, rfl⟩
  have hsd := h1.sd id
  rw [← hns] at hsd
  obtain ⟨ps, cs, rfl, _⟩ := hsd.cells
  have HSD := Lib.hid hsd
  have hns6 : ns ≤ 6 := by rw [hns]; exact h1.sl
  have HNS := Lib.hid hns
  have c1 : w1.cell? ⟨wb, 0, none⟩ = some (.slice ps ns cs) := cellB (h1.wx id) rfl
  clear hsd hns
  clear h hS hv hB hw1 hg0 hbx hb1 hog h1 ht hll
  go_enter Tryd.func22, Tryd.ntmps22
  go_upto_region 1 with fail
  rw [← HW1.out, ← HG0.out]
  go_upto_region 17 with fail
  by_cases hz : ns = 0
  · subst hz
    go_wp2_with fail
    go_ret
    exact ⟨rfl, PlK.more (t := t) ⟨col, oc, S, _, hv0, hl, HH.out, HSY.out⟩ (Nat.le_add_right _ _)⟩
  have hz1 : ((ns : Int) == 0) = false := by rw [beq_eq_false_iff_ne]; omega
  have hz2 : ¬ (ns : Int) = 0 := by omega
  obtain ⟨i, hi⟩ : ∃ i, i = pickN on ns := ⟨_, rfl⟩
  have hin : i < ns := by rw [hi]; exact pickN_lt on (by omega)
  obtain ⟨s, hs⟩ : ∃ s, S[i]? = some s := ⟨S[i]'(by rw [← HNS.out]; exact hin), List.getElem?_eq_getElem _⟩
  have CP : Hid (∀ w', Calls Tryd.prog 49 #[.int .i64 on, .int .i64 (ns : Int)] w' fun e w'' => e = .returned (.int .i64 (i : Int)) ∧ w'' = w') := Lib.hid (fun w' => by rw [hi]; exact pickU_any on ns w' (by omega) (by omega) hon)
  obtain ⟨sb, rfl⟩ : ∃ sb, ps = some ⟨sb, 0, none⟩ := by
    rcases HSD.out.2 with ⟨e, e2⟩ | ⟨g, cap, cur, e, _⟩
    · omega
    · injection e with e1 _ _; exact ⟨g, e1⟩
  obtain ⟨⟨e, ne, He, x, mx, Kx⟩, hse⟩ : ∃ s', s' = s := ⟨_, rfl⟩
  subst hse
  have hsync := HSY.out _ (List.mem_of_getElem? hs)
  obtain ⟨rfl, rfl⟩ : ne = mx ∧ He = Kx := hsync
  have HSS : Hid (∀ w', Below w1.heap.size w1 w' → w'.cell? ⟨wb, 0, none⟩ = some (.slice (some ⟨sb, 0, none⟩) ns cs) ∧ w'.cell? ⟨g0, 1, none⟩ = some (.int .i64 on) ∧ w'.cell? ⟨sb, i * 2, none⟩ = some (.pointer (some ⟨e, 0, none⟩)) ∧ w'.cell? ⟨sb, i * 2 + 1, none⟩ = some (.pointer (some ⟨x, 0, none⟩))) := Lib.hid (fun w' hb => by
    obtain ⟨k1, k2⟩ := sdV_get hs
    obtain ⟨p', c', e1, _, _, hc⟩ := (HSD.out.below hb).cells
    injection e1 with e1 _ _
    have hadd : ∀ j, (⟨sb, 0, none⟩ : Addr).add j = ⟨sb, j, none⟩ := fun j => by unfold Addr.add; split <;> simp_all
    obtain ⟨a1, ha1, _, hc1⟩ := hc _ _ k1
    obtain ⟨a2, ha2, _, hc2⟩ := hc _ _ k2
    rw [← e1] at ha1 ha2
    obtain rfl := Option.some.inj ha1
    obtain rfl := Option.some.inj ha2
    rw [hadd] at hc1 hc2
    exact ⟨cellB ((HH.out.below hb).wx id) rfl, cellB (blk_below HX.out hb (blk_lt HX.out)) rfl, hc1, hc2⟩)
  have hii : (i : Int) < (ns : Int) := by omega
  have hi0 : (0 : Int) ≤ (i : Int) := by omega
  have hwi : IntKind.i64.wrap (i : Int) = (i : Int) := wrap_i64_id _ (by omega) (by omega)
  obtain ⟨O, hO⟩ : ∃ O : Array Value, O = #[.int .i64 9, .int .i64 on, .int .i64 n, .int .i64 m, .string z, .slice p ln c] := ⟨_, rfl⟩
  have HOO := Lib.hid hO
  have HSI := Lib.hid hs
  have HB0 : Hid (Below w1.heap.size w1 w1.drew) := Lib.hid (Below.refl _ _).drew
  clear hi hs c0 hO
  go_upto_region 19 with fail
  clear c1 hz1 hz2
  go_cut [9] from 83 to 103 (fun x9 wx => ∃ sx, x9 = .pointer (some ⟨sx, 0, none⟩) ∧ Hid (PsX W wx wb b t g0 sx i e x O ne He ne He))
  case first =>
    refine wp_region_held_drew (S := fun w' => w'.cell? ⟨wb, 0, none⟩ = some (.slice (some ⟨sb, 0, none⟩) ns cs) ∧ w'.cell? ⟨g0, 1, none⟩ = some (.int .i64 on) ∧ w'.cell? ⟨sb, i * 2, none⟩ = some (.pointer (some ⟨e, 0, none⟩)) ∧ w'.cell? ⟨sb, i * 2 + 1, none⟩ = some (.pointer (some ⟨x, 0, none⟩))) (by kernel_rfl) (by exact HSS.out _ (by first | exact HBs.out | exact HBy.out | exact HB0.out)) (fun hHeld => ?_)
    refine wpAnyH_take (i := 0) (oi := ⟨_, _, _, _, _, _⟩) (v := ?_) rfl (by kernel_rfl) (by kernel_rfl) (by kernel_rfl) (fun _ _ _ h => h) (Or.inl ⟨by rfl, ?_⟩) hHeld ?_
    rotate_left
    · ((intro w hSw; (try dsimp only at hSw); go_simp) <;> with_reducible rfl)
    try simp only [Act.put, List.setIfInBounds_toArray, List.set_cons_zero, List.set_cons_succ]
    refine wpAnyH_take (i := 1) (oi := ⟨_, _, _, _, _, _⟩) (v := ?_) rfl (by kernel_rfl) (by kernel_rfl) (by kernel_rfl) (fun _ _ _ h => h) (Or.inl ⟨by rfl, ?_⟩) hHeld ?_
    rotate_left
    · ((intro w hSw; (try dsimp only at hSw); go_simp) <;> with_reducible rfl)
    try simp only [Act.put, List.setIfInBounds_toArray, List.set_cons_zero, List.set_cons_succ]
    refine wpAnyH_take (i := 2) (oi := ⟨_, _, _, _, _, _⟩) (v := ?_) rfl (by kernel_rfl) (by kernel_rfl) (by kernel_rfl) (fun _ _ _ h => h) (Or.inl ⟨by rfl, ?_⟩) hHeld ?_
    rotate_left
    · ((intro w hSw; (try dsimp only at hSw); go_simp) <;> with_reducible rfl)
    try simp only [Act.put, List.setIfInBounds_toArray, List.set_cons_zero, List.set_cons_succ]
    refine wpAnyH_take (i := 3) (oi := ⟨_, _, _, _, _, _⟩) (v := ?_) rfl (by kernel_rfl) (by kernel_rfl) (by kernel_rfl) (fun _ _ _ h => h) (Or.inl ⟨by rfl, ?_⟩) hHeld ?_
    rotate_left
    · ((intro w hSw; (try dsimp only at hSw); go_simp) <;> with_reducible rfl)
    try simp only [Act.put, List.setIfInBounds_toArray, List.set_cons_zero, List.set_cons_succ]
    refine wpAnyH_take (i := 4) (oi := ⟨_, _, _, _, _, _⟩) (v := ?_) rfl (by kernel_rfl) (by kernel_rfl) (by kernel_rfl) (fun _ _ _ h => h) (Or.inl ⟨by rfl, ?_⟩) hHeld ?_
    rotate_left
    · ((intro w hSw; (try dsimp only at hSw); go_simp) <;> with_reducible rfl)
    try simp only [Act.put, List.setIfInBounds_toArray, List.set_cons_zero, List.set_cons_succ]
    refine wpAnyH_take (i := 5) (oi := ⟨_, _, _, _, _, _⟩) (v := ?_) rfl (by kernel_rfl) (by kernel_rfl) (by kernel_rfl) (fun _ _ _ h => h) (Or.inl ⟨by rfl, ?_⟩) hHeld ?_
    rotate_left
    · ((intro w hSw; (try dsimp only at hSw); go_simp) <;> with_reducible rfl)
    try simp only [Act.put, List.setIfInBounds_toArray, List.set_cons_zero, List.set_cons_succ]
    refine wpAnyH_take (i := 6) (oi := ⟨_, _, _, _, _, _⟩) (v := ?_) rfl (by kernel_rfl) (by kernel_rfl) (by kernel_rfl) (fun _ _ _ h => h) (Or.inl ⟨by rfl, ?_⟩) hHeld ?_
    rotate_left
    · ((intro w hSw; (try dsimp only at hSw); go_simp) <;> with_reducible rfl)
    try simp only [Act.put, List.setIfInBounds_toArray, List.set_cons_zero, List.set_cons_succ]
    refine wpAnyH_take (i := 7) (oi := ⟨_, _, _, _, _, _⟩) (v := ?_) rfl (by kernel_rfl) (by kernel_rfl) (by kernel_rfl) (fun _ _ _ h => h) (Or.inl ⟨by rfl, ?_⟩) hHeld ?_
    rotate_left
    · ((intro w hSw; (try dsimp only at hSw); go_simp) <;> with_reducible rfl)
    try simp only [Act.put, List.setIfInBounds_toArray, List.set_cons_zero, List.set_cons_succ]
    refine wpAnyH_take (i := 8) (oi := ⟨_, _, _, _, _, _⟩) (v := ?_) rfl (by kernel_rfl) (by kernel_rfl) (by kernel_rfl) (fun _ _ _ h => h) (Or.inl ⟨by rfl, ?_⟩) hHeld ?_
    rotate_left
    · ((intro w hSw; (try dsimp only at hSw); go_simp) <;> with_reducible rfl)
    try simp only [Act.put, List.setIfInBounds_toArray, List.set_cons_zero, List.set_cons_succ]
    refine wpAnyH_take (i := 9) (oi := ⟨_, _, _, _, _, _⟩) (v := ?_) rfl (by kernel_rfl) (by kernel_rfl) (by kernel_rfl) (fun _ _ _ h => h) (Or.inl ⟨by rfl, ?_⟩) hHeld ?_
    rotate_left
    · ((intro w hSw; (try dsimp only at hSw); go_simp) <;> with_reducible rfl)
    try simp only [Act.put, List.setIfInBounds_toArray, List.set_cons_zero, List.set_cons_succ]
    refine wpAnyH_take (i := 10) (oi := ⟨_, _, _, _, _, _⟩) (v := ?_) rfl (by kernel_rfl) (by kernel_rfl) (by kernel_rfl) (fun _ _ _ h => h) (Or.inl ⟨by rfl, ?_⟩) hHeld ?_
    rotate_left
    · ((intro w hSw; (try dsimp only at hSw); go_simp) <;> with_reducible rfl)
    try simp only [Act.put, List.setIfInBounds_toArray, List.set_cons_zero, List.set_cons_succ]
    refine wpAnyH_ready (rs := [11, 14]) (by kernel_rfl) (by simp) ?_
    refine AllReadyH.cons (o := ⟨_, _, _, _, _, _⟩) rfl (fun KC hK => ?_) ?_
    rotate_left
    refine AllReadyH.cons (o := ⟨_, _, _, _, _, _⟩) rfl (fun KC hK => ?_) ?_
    rotate_left
    · exact AllReadyH.nil
    · go_simp
      go_at_call 49
      (with_reducible refine (CP.out _).mono ?_)
      rintro o w9 ⟨rfl, hww⟩
      rw [hww]
      clear hww w9
      refine hK.out _ _ (by exact HSS.out _ (by first | exact HBs.out | exact HBy.out | exact HB0.out)) (fun hHeld => ?_)
      clear hK KC
      try simp only [Act.put, List.setIfInBounds_toArray, List.set_cons_zero, List.set_cons_succ]
      refine wpAnyH_take (i := 12) (oi := ⟨_, _, _, _, _, _⟩) (v := ?_) rfl (by kernel_rfl) (by kernel_rfl) (by kernel_rfl) (fun _ _ _ h => h) (Or.inl ⟨by rfl, ?_⟩) hHeld ?_
      rotate_left
      · ((intro w hSw; (try dsimp only at hSw); go_simp) <;> with_reducible rfl)
      try simp only [Act.put, List.setIfInBounds_toArray, List.set_cons_zero, List.set_cons_succ]
      refine wpAnyH_take (i := 13) (oi := ⟨_, _, _, _, _, _⟩) (v := ?_) rfl (by kernel_rfl) (by kernel_rfl) (by kernel_rfl) (fun _ _ _ h => h) (Or.inl ⟨by rfl, ?_⟩) hHeld ?_
      rotate_left
      · ((intro w hSw; (try dsimp only at hSw); go_simp) <;> with_reducible rfl)
      try simp only [Act.put, List.setIfInBounds_toArray, List.set_cons_zero, List.set_cons_succ]
      refine wpAnyH_ready (rs := [14]) (by kernel_rfl) (by simp) ?_
      refine AllReadyH.cons (o := ⟨_, _, _, _, _, _⟩) rfl (fun KC hK => ?_) ?_
      rotate_left
      · exact AllReadyH.nil
      go_simp
      obtain ⟨w2, sx, e1, e2, HS2, HBy⟩ := sbox_newD w1
      rw [e1, e2]
      have HSX := Lib.hid e2
      clear e1 e2
      refine hK.out _ _ (by exact HSS.out _ (by first | exact HBs.out | exact HBy.out | exact HB0.out)) (fun hHeld => ?_)
      clear hK KC
      try simp only [Act.put, List.setIfInBounds_toArray, List.set_cons_zero, List.set_cons_succ]
      refine wpAnyH_ready (rs := [15]) (by kernel_rfl) (by simp) ?_
      refine AllReadyH.cons (o := ⟨_, _, _, _, _, _⟩) rfl (fun KC hK => ?_) ?_
      rotate_left
      · exact AllReadyH.nil
      obtain ⟨k0, k1⟩ := sbox_c HS2.out
      have f0 : w2.frozen? ⟨sx, 0, none⟩ = false := frozB HS2.out
      have f1 : w2.frozen? ⟨sx, 1, none⟩ = false := frozB HS2.out
      go_simp
      have HPS : Hid (PsX W ((w2.setCell ⟨sx, 0, none⟩ (.pointer (some ⟨e, 0, none⟩))).setCell ⟨sx, 1, none⟩ (.pointer (some ⟨x, 0, none⟩))) wb b t g0 sx i e x O ne He ne He) := Lib.hid (ps_make HH.out HSY.out HSI.out (by rw [HOO.out]; exact HX.out) HOG.out HS2.out HBy.out (Nat.le_of_eq HSX.out))
      have HBs : Hid (Below w1.heap.size w1 ((w2.setCell ⟨sx, 0, none⟩ (.pointer (some ⟨e, 0, none⟩))).setCell ⟨sx, 1, none⟩ (.pointer (some ⟨x, 0, none⟩)))) := Lib.hid ((HBy.out.setCell (p := ⟨sx, 0, none⟩) (Nat.le_of_eq HSX.out) _).setCell (p := ⟨sx, 1, none⟩) (Nat.le_of_eq HSX.out) _)
      refine hK.out _ _ (by exact HSS.out _ (by first | exact HBs.out | exact HBy.out | exact HB0.out)) (fun hHeld => ?_)
      clear hK KC
      try simp only [Act.put, List.setIfInBounds_toArray, List.set_cons_zero, List.set_cons_succ]
      refine wpAnyH_done (by kernel_rfl) ?_ _
      go_wp2_with fail
      go_meet
      exact ⟨sx, rfl, HPS⟩
    · go_simp
      obtain ⟨w2, sx, e1, e2, HS2, HBy⟩ := sbox_newD w1
      rw [e1, e2]
      have HSX := Lib.hid e2
      clear e1 e2
      refine hK.out _ _ (by exact HSS.out _ (by first | exact HBs.out | exact HBy.out | exact HB0.out)) (fun hHeld => ?_)
      clear hK KC
      try simp only [Act.put, List.setIfInBounds_toArray, List.set_cons_zero, List.set_cons_succ]
      refine wpAnyH_ready (rs := [11]) (by kernel_rfl) (by simp) ?_
      refine AllReadyH.cons (o := ⟨_, _, _, _, _, _⟩) rfl (fun KC hK => ?_) ?_
      rotate_left
      · exact AllReadyH.nil
      go_simp
      go_at_call 49
      (with_reducible refine (CP.out _).mono ?_)
      rintro o w9 ⟨rfl, hww⟩
      rw [hww]
      clear hww w9
      refine hK.out _ _ (by exact HSS.out _ (by first | exact HBs.out | exact HBy.out | exact HB0.out)) (fun hHeld => ?_)
      clear hK KC
      try simp only [Act.put, List.setIfInBounds_toArray, List.set_cons_zero, List.set_cons_succ]
      refine wpAnyH_take (i := 12) (oi := ⟨_, _, _, _, _, _⟩) (v := ?_) rfl (by kernel_rfl) (by kernel_rfl) (by kernel_rfl) (fun _ _ _ h => h) (Or.inl ⟨by rfl, ?_⟩) hHeld ?_
      rotate_left
      · ((intro w hSw; (try dsimp only at hSw); go_simp) <;> with_reducible rfl)
      try simp only [Act.put, List.setIfInBounds_toArray, List.set_cons_zero, List.set_cons_succ]
      refine wpAnyH_take (i := 13) (oi := ⟨_, _, _, _, _, _⟩) (v := ?_) rfl (by kernel_rfl) (by kernel_rfl) (by kernel_rfl) (fun _ _ _ h => h) (Or.inl ⟨by rfl, ?_⟩) hHeld ?_
      rotate_left
      · ((intro w hSw; (try dsimp only at hSw); go_simp) <;> with_reducible rfl)
      try simp only [Act.put, List.setIfInBounds_toArray, List.set_cons_zero, List.set_cons_succ]
      refine wpAnyH_ready (rs := [15]) (by kernel_rfl) (by simp) ?_
      refine AllReadyH.cons (o := ⟨_, _, _, _, _, _⟩) rfl (fun KC hK => ?_) ?_
      rotate_left
      · exact AllReadyH.nil
      obtain ⟨k0, k1⟩ := sbox_c HS2.out
      have f0 : w2.frozen? ⟨sx, 0, none⟩ = false := frozB HS2.out
      have f1 : w2.frozen? ⟨sx, 1, none⟩ = false := frozB HS2.out
      go_simp
      have HPS : Hid (PsX W ((w2.setCell ⟨sx, 0, none⟩ (.pointer (some ⟨e, 0, none⟩))).setCell ⟨sx, 1, none⟩ (.pointer (some ⟨x, 0, none⟩))) wb b t g0 sx i e x O ne He ne He) := Lib.hid (ps_make HH.out HSY.out HSI.out (by rw [HOO.out]; exact HX.out) HOG.out HS2.out HBy.out (Nat.le_of_eq HSX.out))
      have HBs : Hid (Below w1.heap.size w1 ((w2.setCell ⟨sx, 0, none⟩ (.pointer (some ⟨e, 0, none⟩))).setCell ⟨sx, 1, none⟩ (.pointer (some ⟨x, 0, none⟩)))) := Lib.hid ((HBy.out.setCell (p := ⟨sx, 0, none⟩) (Nat.le_of_eq HSX.out) _).setCell (p := ⟨sx, 1, none⟩) (Nat.le_of_eq HSX.out) _)
      refine hK.out _ _ (by exact HSS.out _ (by first | exact HBs.out | exact HBy.out | exact HB0.out)) (fun hHeld => ?_)
      clear hK KC
      try simp only [Act.put, List.setIfInBounds_toArray, List.set_cons_zero, List.set_cons_succ]
      refine wpAnyH_done (by kernel_rfl) ?_ _
      go_wp2_with fail
      go_meet
      exact ⟨sx, rfl, HPS⟩
  case rest =>
    obtain ⟨sx, rfl, HP⟩ := hcut
    clear HSS HSD HNS CP hii hin hz hns6 hi0 hwi HH HX HSI HB0 HOG HW1 HG0
    have HCC : Hid (∀ w' a1 a2 a3 a4, PsX W w' wb b t g0 sx i e x O a1 a2 a3 a4 → w'.cell? ⟨sx, 0, none⟩ = some (.pointer (some ⟨e, 0, none⟩)) ∧ w'.cell? ⟨sx, 1, none⟩ = some (.pointer (some ⟨x, 0, none⟩)) ∧ w'.cell? ⟨g0, 0, none⟩ = some (.int .i64 9) ∧ w'.cell? ⟨g0, 2, none⟩ = some (.int .i64 n) ∧ w'.cell? ⟨g0, 3, none⟩ = some (.int .i64 m) ∧ w'.cell? ⟨g0, 4, none⟩ = some (.string z) ∧ w'.cell? ⟨wb, 1, none⟩ = some (.pointer (some ⟨b, 0, none⟩))) := Lib.hid (fun w' a1 a2 a3 a4 h => by
      obtain ⟨k1, k2, k3, k4⟩ := h.c
      rw [HOO.out] at k3
      exact ⟨k1, k2, k3 0 _ rfl, k3 2 _ rfl, k3 3 _ rfl, k3 4 _ rfl, k4⟩)
    clear HOO
    have CLF : Hid (∀ (c : Int) w', Calls Tryd.prog 48 #[.int .i64 c] w' fun e w'' => e = .returned (.string (leafSU c)) ∧ Below w'.heap.size w' w'') := Lib.hid leafU_any
    obtain ⟨c0, c1, c2, c3, c4, c5, c6⟩ := HCC.out _ _ _ _ _ HP.out
    obtain ⟨ps, nz, cz, SV, hsp⟩ := HP.out.side
    have HSP := Lib.hid hsp
    have hnz := hsp.n6
    have hl1 : (nz + 1) * 16 ≤ 140737488355328 := by omega
    have hl2 : nz + 1 ≤ 140737488355328 := by omega
    have HK0 := Lib.hid (hsp.c _ (Below.refl _ _))
    clear hsp
    go_upto_region 47 with (go_at_call 47; (with_reducible refine (HP.out.cloneE).mono ?_); rintro o w2 ⟨eb, rfl, h⟩; have HEN := Lib.hid h; have HB2 : Hid (Below wc.heap.size wc w2) := Lib.hid (by obtain ⟨_, _, _, h9⟩ := h; exact h9); clear h)
    clear c0 c1 c2 c3 c4 c5 c6
    have k0 : w2.cell? ⟨wb, 0, none⟩ = some (.slice ps nz cz) := HSP.out.c w2 HB2.out
    by_cases h6 : nz < 6
    · have h6i : (nz : Int) < 6 := by omega
      have HP2 := Lib.hid (HP.out.below HB2.out)
      have HONE : ∀ xb, Hid (∀ u ∈ [Value.pointer (some ⟨eb, 0, none⟩), .pointer (some ⟨xb, 0, none⟩)], u.oneCell' = true) := fun xb => Lib.hid (two_ptrs _ _)
      have HBD : Hid (Below w2.heap.size w2 w2.drew) := Lib.hid (Below.refl _ _).drew
      have HPD := Lib.hid (HP2.out.below HBD.out)
      have HSC : Hid (∀ w', PsX W w' wb b t g0 sx i e x O ne He ne He → w'.cell? ⟨sx, 1, none⟩ = some (.pointer (some ⟨x, 0, none⟩))) := Lib.hid (fun w' h => (HCC.out w' _ _ _ _ h).2.1)
      have HSH : Hid (w2.drew.cell? ⟨sx, 1, none⟩ = some (.pointer (some ⟨x, 0, none⟩))) := Lib.hid (HSC.out _ HPD.out)
      go_upto_region 48 with fail
      refine wp_region_held_drew (S := fun w' => w'.cell? ⟨sx, 1, none⟩ = some (.pointer (some ⟨x, 0, none⟩))) (by kernel_rfl) (by first | exact HSE.out | exact HS5.out | exact HSA.out _ | exact HSH.out) (fun hHeld => ?_)
      refine wpAnyH_take (i := 0) (oi := ⟨_, _, _, _, _, _⟩) (v := ?_) rfl (by kernel_rfl) (by kernel_rfl) (by kernel_rfl) (fun _ _ _ h => h) (Or.inl ⟨by rfl, ?_⟩) hHeld ?_
      rotate_left
      · ((intro w hSw; (try dsimp only at hSw); go_simp) <;> with_reducible rfl)
      try simp only [Act.put, List.setIfInBounds_toArray, List.set_cons_zero, List.set_cons_succ]
      refine wpAnyH_take (i := 1) (oi := ⟨_, _, _, _, _, _⟩) (v := ?_) rfl (by kernel_rfl) (by kernel_rfl) (by kernel_rfl) (fun _ _ _ h => h) (Or.inl ⟨by rfl, ?_⟩) hHeld ?_
      rotate_left
      · ((intro w hSw; (try dsimp only at hSw); go_simp) <;> with_reducible rfl)
      try simp only [Act.put, List.setIfInBounds_toArray, List.set_cons_zero, List.set_cons_succ]
      refine wpAnyH_take (i := 2) (oi := ⟨_, _, _, _, _, _⟩) (v := ?_) rfl (by kernel_rfl) (by kernel_rfl) (by kernel_rfl) (fun _ _ _ h => h) (Or.inl ⟨by rfl, ?_⟩) hHeld ?_
      rotate_left
      · ((intro w hSw; (try dsimp only at hSw); go_simp) <;> with_reducible rfl)
      try simp only [Act.put, List.setIfInBounds_toArray, List.set_cons_zero, List.set_cons_succ]
      refine wpAnyH_take (i := 3) (oi := ⟨_, _, _, _, _, _⟩) (v := ?_) rfl (by kernel_rfl) (by kernel_rfl) (by kernel_rfl) (fun _ _ _ h => h) (Or.inl ⟨by rfl, ?_⟩) hHeld ?_
      rotate_left
      · ((intro w hSw; (try dsimp only at hSw); go_simp) <;> with_reducible rfl)
      try simp only [Act.put, List.setIfInBounds_toArray, List.set_cons_zero, List.set_cons_succ]
      refine wpAnyH_take (i := 5) (oi := ⟨_, _, _, _, _, _⟩) (v := ?_) rfl (by kernel_rfl) (by kernel_rfl) (by kernel_rfl) (fun _ _ _ h => h) (Or.inl ⟨by rfl, ?_⟩) hHeld ?_
      rotate_left
      · ((intro w hSw; (try dsimp only at hSw); go_simp) <;> with_reducible rfl)
      try simp only [Act.put, List.setIfInBounds_toArray, List.set_cons_zero, List.set_cons_succ]
      refine wpAnyH_take (i := 6) (oi := ⟨_, _, _, _, _, _⟩) (v := ?_) rfl (by kernel_rfl) (by kernel_rfl) (by kernel_rfl) (fun _ _ _ h => h) (Or.inl ⟨by rfl, ?_⟩) hHeld ?_
      rotate_left
      · ((intro w hSw; (try dsimp only at hSw); go_simp) <;> with_reducible rfl)
      try simp only [Act.put, List.setIfInBounds_toArray, List.set_cons_zero, List.set_cons_succ]
      refine wpAnyH_take (i := 7) (oi := ⟨_, _, _, _, _, _⟩) (v := ?_) rfl (by kernel_rfl) (by kernel_rfl) (by kernel_rfl) (fun _ _ _ h => h) (Or.inl ⟨by rfl, ?_⟩) hHeld ?_
      rotate_left
      · ((intro w hSw; (try dsimp only at hSw); go_simp) <;> with_reducible rfl)
      try simp only [Act.put, List.setIfInBounds_toArray, List.set_cons_zero, List.set_cons_succ]
      refine wpAnyH_ready (rs := [4, 8]) (by kernel_rfl) (by simp) ?_
      refine AllReadyH.cons (o := ⟨_, _, _, _, _, _⟩) rfl (fun KC hK => ?_) ?_
      rotate_left
      refine AllReadyH.cons (o := ⟨_, _, _, _, _, _⟩) rfl (fun KC hK => ?_) ?_
      rotate_left
      · exact AllReadyH.nil
      · go_simp
        refine hK.out _ _ (by first | exact HSE.out | exact HS5.out | exact HSA.out _ | exact HSH.out) (fun hHeld => ?_)
        clear hK KC
        try simp only [Act.put, List.setIfInBounds_toArray, List.set_cons_zero, List.set_cons_succ]
        refine wpAnyH_ready (rs := [8]) (by kernel_rfl) (by simp) ?_
        refine AllReadyH.cons (o := ⟨_, _, _, _, _, _⟩) rfl (fun KC hK => ?_) ?_
        rotate_left
        · exact AllReadyH.nil
        go_simp
        go_at_call 77
        (with_reducible refine (HPD.out.cloneX).mono ?_)
        rintro o w3 ⟨xb, rfl, hx⟩
        have HXN : Hid (XwN w2.drew w3 xb ne He) := Lib.hid hx
        have HBX : Hid (Below w2.drew.heap.size w2.drew w3) := Lib.hid (by obtain ⟨_, _, _, h9⟩ := hx; exact h9)
        have HB3 : Hid (Below wc.heap.size wc w3) := Lib.hid (below_from HB2.out (HBD.out.trans HBX.out) HB2.out.size)
        have HONE := HONE xb
        clear hx
        have HHD : Hid (∀ o, Held (w3.alloc o) 58 2 (.slice ps nz cz) nz SV) := Lib.hid (fun o => HSP.out.hd _ (below_from HB3.out ((Below.refl _ _).alloc (Nat.le_refl _) o) HB3.out.size))
        have HADD := Lib.hid (HSP.out.add eb xb _ _ _ _ _ _ HEN.out HBD.out HXN.out (Below.refl _ _) h6)
        have HC3 := Lib.hid (HSP.out.c w3 HB3.out); have HP3 := Lib.hid (HPD.out.below HBX.out); have HSH : Hid (w3.cell? ⟨sx, 1, none⟩ = some (.pointer (some ⟨x, 0, none⟩))) := Lib.hid (HSC.out _ HP3.out); have HSA : Hid (∀ o, (w3.alloc o).cell? ⟨sx, 1, none⟩ = some (.pointer (some ⟨x, 0, none⟩))) := Lib.hid (fun o => HSC.out _ (HP3.out.below ((Below.refl _ _).alloc (Nat.le_refl _) o)))
        have HC4 : Hid (∀ o, (w3.alloc o).cell? ⟨wb, 0, none⟩ = some (.slice ps nz cz)) := Lib.hid (fun o => HSP.out.c _ (below_from HB3.out ((Below.refl _ _).alloc (Nat.le_refl _) o) HB3.out.size))
        refine hK.out _ _ (by first | exact HSE.out | exact HS5.out | exact HSA.out _ | exact HSH.out) (fun hHeld => ?_)
        clear hK KC
        try simp only [Act.put, List.setIfInBounds_toArray, List.set_cons_zero, List.set_cons_succ]
        refine wpAnyH_take (i := 9) (oi := ⟨_, _, _, _, _, _⟩) (v := ?_) rfl (by kernel_rfl) (by kernel_rfl) (by kernel_rfl) (fun _ _ _ h => h) (Or.inl ⟨by rfl, ?_⟩) hHeld ?_
        rotate_left
        · ((intro w hSw; (try dsimp only at hSw); go_simp) <;> with_reducible rfl)
        try simp only [Act.put, List.setIfInBounds_toArray, List.set_cons_zero, List.set_cons_succ]
        refine wpAnyH_ready (rs := [10]) (by kernel_rfl) (by simp) ?_
        refine AllReadyH.cons (o := ⟨_, _, _, _, _, _⟩) rfl (fun KC hK => ?_) ?_
        rotate_left
        · exact AllReadyH.nil
        go_simp
        refine hK.out _ _ (by first | exact HSE.out | exact HS5.out | exact HSA.out _ | exact HSH.out) (fun hHeld => ?_)
        clear hK KC
        try simp only [Act.put, List.setIfInBounds_toArray, List.set_cons_zero, List.set_cons_succ]
        refine wpAnyH_ready (rs := [11]) (by kernel_rfl) (by simp) ?_
        refine AllReadyH.cons (o := ⟨_, _, _, _, _, _⟩) rfl (fun KC hK => ?_) ?_
        rotate_left
        · exact AllReadyH.nil
        refine step_grew (v := .slice ps nz cz) rfl (.tmp 240) (.tmp 246) rfl Tryd.underlying49 (.agg #[.pointer none, .pointer none]) 2 info_side rfl (by decide) [.pointer (some ⟨eb, 0, none⟩), .pointer (some ⟨xb, 0, none⟩)] 1 ⟨w3.heap.size, 0, none⟩ rfl rfl (HHD.out _) rfl (by decide) cells_alloc HONE.out hl1 hl2 ?_
        intro v5 w5 hg5
        obtain ⟨p5, c5, rfl, _⟩ := hg5.held.cells
        obtain ⟨d5, f5, hp5⟩ := HADD.out _ _ _ _ hg5; obtain ⟨s5, s6⟩ := HP.out.far HK0.out HB3.out hg5; have HS5 := Lib.hid s5; have HSE := Lib.hid s6; clear s5 s6
        have HP5 := Lib.hid hp5
        clear hg5 hp5
        refine hK.out _ _ (by first | exact HSE.out | exact HS5.out | exact HSA.out _ | exact HSH.out) (fun hHeld => ?_)
        clear hK KC
        try simp only [Act.put, List.setIfInBounds_toArray, List.set_cons_zero, List.set_cons_succ]
        refine wpAnyH_take (i := 12) (oi := ⟨_, _, _, _, _, _⟩) (v := ?_) rfl (by kernel_rfl) (by kernel_rfl) (by kernel_rfl) (fun _ _ _ h => h) (Or.inl ⟨by rfl, ?_⟩) hHeld ?_
        rotate_left
        · ((intro w hSw; (try dsimp only at hSw); go_simp) <;> with_reducible rfl)
        try simp only [Act.put, List.setIfInBounds_toArray, List.set_cons_zero, List.set_cons_succ]
        refine wpAnyH_take (i := 13) (oi := ⟨_, _, _, _, _, _⟩) (v := ?_) rfl (by kernel_rfl) (by kernel_rfl) (by kernel_rfl) (fun _ _ _ h => h) (Or.inl ⟨by rfl, ?_⟩) hHeld ?_
        rotate_left
        · ((intro w hSw; (try dsimp only at hSw); go_simp) <;> with_reducible rfl)
        try simp only [Act.put, List.setIfInBounds_toArray, List.set_cons_zero, List.set_cons_succ]
        refine wpAnyH_ready (rs := [14]) (by kernel_rfl) (by simp) ?_
        refine AllReadyH.cons (o := ⟨_, _, _, _, _, _⟩) rfl (fun KC hK => ?_) ?_
        rotate_left
        · exact AllReadyH.nil
        go_simp
        refine hK.out _ _ (by first | exact HSE.out | exact HS5.out | exact HSA.out _ | exact HSH.out) (fun hHeld => ?_)
        clear hK KC
        try simp only [Act.put, List.setIfInBounds_toArray, List.set_cons_zero, List.set_cons_succ]
        refine wpAnyH_done (by kernel_rfl) ?_ _
        go_wp2_with fail
        go_ret
        exact ⟨rfl, HP5.out.more (Nat.le_add_right _ _)⟩
      · go_simp
        go_at_call 77
        (with_reducible refine (HPD.out.cloneX).mono ?_)
        rintro o w3 ⟨xb, rfl, hx⟩
        have HXN : Hid (XwN w2.drew w3 xb ne He) := Lib.hid hx
        have HBX : Hid (Below w2.drew.heap.size w2.drew w3) := Lib.hid (by obtain ⟨_, _, _, h9⟩ := hx; exact h9)
        have HB3 : Hid (Below wc.heap.size wc w3) := Lib.hid (below_from HB2.out (HBD.out.trans HBX.out) HB2.out.size)
        have HONE := HONE xb
        clear hx
        have HHD : Hid (∀ o, Held (w3.alloc o) 58 2 (.slice ps nz cz) nz SV) := Lib.hid (fun o => HSP.out.hd _ (below_from HB3.out ((Below.refl _ _).alloc (Nat.le_refl _) o) HB3.out.size))
        have HADD := Lib.hid (HSP.out.add eb xb _ _ _ _ _ _ HEN.out HBD.out HXN.out (Below.refl _ _) h6)
        have HC3 := Lib.hid (HSP.out.c w3 HB3.out); have HP3 := Lib.hid (HPD.out.below HBX.out); have HSH : Hid (w3.cell? ⟨sx, 1, none⟩ = some (.pointer (some ⟨x, 0, none⟩))) := Lib.hid (HSC.out _ HP3.out); have HSA : Hid (∀ o, (w3.alloc o).cell? ⟨sx, 1, none⟩ = some (.pointer (some ⟨x, 0, none⟩))) := Lib.hid (fun o => HSC.out _ (HP3.out.below ((Below.refl _ _).alloc (Nat.le_refl _) o)))
        have HC4 : Hid (∀ o, (w3.alloc o).cell? ⟨wb, 0, none⟩ = some (.slice ps nz cz)) := Lib.hid (fun o => HSP.out.c _ (below_from HB3.out ((Below.refl _ _).alloc (Nat.le_refl _) o) HB3.out.size))
        refine hK.out _ _ (by first | exact HSE.out | exact HS5.out | exact HSA.out _ | exact HSH.out) (fun hHeld => ?_)
        clear hK KC
        try simp only [Act.put, List.setIfInBounds_toArray, List.set_cons_zero, List.set_cons_succ]
        refine wpAnyH_take (i := 9) (oi := ⟨_, _, _, _, _, _⟩) (v := ?_) rfl (by kernel_rfl) (by kernel_rfl) (by kernel_rfl) (fun _ _ _ h => h) (Or.inl ⟨by rfl, ?_⟩) hHeld ?_
        rotate_left
        · ((intro w hSw; (try dsimp only at hSw); go_simp) <;> with_reducible rfl)
        try simp only [Act.put, List.setIfInBounds_toArray, List.set_cons_zero, List.set_cons_succ]
        refine wpAnyH_ready (rs := [4, 10]) (by kernel_rfl) (by simp) ?_
        refine AllReadyH.cons (o := ⟨_, _, _, _, _, _⟩) rfl (fun KC hK => ?_) ?_
        rotate_left
        refine AllReadyH.cons (o := ⟨_, _, _, _, _, _⟩) rfl (fun KC hK => ?_) ?_
        rotate_left
        · exact AllReadyH.nil
        · have k0 := HC3.out
          go_simp
          clear k0
          refine hK.out _ _ (by first | exact HSE.out | exact HS5.out | exact HSA.out _ | exact HSH.out) (fun hHeld => ?_)
          clear hK KC
          try simp only [Act.put, List.setIfInBounds_toArray, List.set_cons_zero, List.set_cons_succ]
          refine wpAnyH_ready (rs := [10]) (by kernel_rfl) (by simp) ?_
          refine AllReadyH.cons (o := ⟨_, _, _, _, _, _⟩) rfl (fun KC hK => ?_) ?_
          rotate_left
          · exact AllReadyH.nil
          go_simp
          refine hK.out _ _ (by first | exact HSE.out | exact HS5.out | exact HSA.out _ | exact HSH.out) (fun hHeld => ?_)
          clear hK KC
          try simp only [Act.put, List.setIfInBounds_toArray, List.set_cons_zero, List.set_cons_succ]
          refine wpAnyH_ready (rs := [11]) (by kernel_rfl) (by simp) ?_
          refine AllReadyH.cons (o := ⟨_, _, _, _, _, _⟩) rfl (fun KC hK => ?_) ?_
          rotate_left
          · exact AllReadyH.nil
          refine step_grew (v := .slice ps nz cz) rfl (.tmp 240) (.tmp 246) rfl Tryd.underlying49 (.agg #[.pointer none, .pointer none]) 2 info_side rfl (by decide) [.pointer (some ⟨eb, 0, none⟩), .pointer (some ⟨xb, 0, none⟩)] 1 ⟨w3.heap.size, 0, none⟩ rfl rfl (HHD.out _) rfl (by decide) cells_alloc HONE.out hl1 hl2 ?_
          intro v5 w5 hg5
          obtain ⟨p5, c5, rfl, _⟩ := hg5.held.cells
          obtain ⟨d5, f5, hp5⟩ := HADD.out _ _ _ _ hg5; obtain ⟨s5, s6⟩ := HP.out.far HK0.out HB3.out hg5; have HS5 := Lib.hid s5; have HSE := Lib.hid s6; clear s5 s6
          have HP5 := Lib.hid hp5
          clear hg5 hp5
          refine hK.out _ _ (by first | exact HSE.out | exact HS5.out | exact HSA.out _ | exact HSH.out) (fun hHeld => ?_)
          clear hK KC
          try simp only [Act.put, List.setIfInBounds_toArray, List.set_cons_zero, List.set_cons_succ]
          refine wpAnyH_take (i := 12) (oi := ⟨_, _, _, _, _, _⟩) (v := ?_) rfl (by kernel_rfl) (by kernel_rfl) (by kernel_rfl) (fun _ _ _ h => h) (Or.inl ⟨by rfl, ?_⟩) hHeld ?_
          rotate_left
          · ((intro w hSw; (try dsimp only at hSw); go_simp) <;> with_reducible rfl)
          try simp only [Act.put, List.setIfInBounds_toArray, List.set_cons_zero, List.set_cons_succ]
          refine wpAnyH_take (i := 13) (oi := ⟨_, _, _, _, _, _⟩) (v := ?_) rfl (by kernel_rfl) (by kernel_rfl) (by kernel_rfl) (fun _ _ _ h => h) (Or.inl ⟨by rfl, ?_⟩) hHeld ?_
          rotate_left
          · ((intro w hSw; (try dsimp only at hSw); go_simp) <;> with_reducible rfl)
          try simp only [Act.put, List.setIfInBounds_toArray, List.set_cons_zero, List.set_cons_succ]
          refine wpAnyH_ready (rs := [14]) (by kernel_rfl) (by simp) ?_
          refine AllReadyH.cons (o := ⟨_, _, _, _, _, _⟩) rfl (fun KC hK => ?_) ?_
          rotate_left
          · exact AllReadyH.nil
          go_simp
          refine hK.out _ _ (by first | exact HSE.out | exact HS5.out | exact HSA.out _ | exact HSH.out) (fun hHeld => ?_)
          clear hK KC
          try simp only [Act.put, List.setIfInBounds_toArray, List.set_cons_zero, List.set_cons_succ]
          refine wpAnyH_done (by kernel_rfl) ?_ _
          go_wp2_with fail
          go_ret
          exact ⟨rfl, HP5.out.more (Nat.le_add_right _ _)⟩
        · go_simp
          refine hK.out _ _ (by first | exact HSE.out | exact HS5.out | exact HSA.out _ | exact HSH.out) (fun hHeld => ?_)
          clear hK KC
          try simp only [Act.put, List.setIfInBounds_toArray, List.set_cons_zero, List.set_cons_succ]
          refine wpAnyH_ready (rs := [4]) (by kernel_rfl) (by simp) ?_
          refine AllReadyH.cons (o := ⟨_, _, _, _, _, _⟩) rfl (fun KC hK => ?_) ?_
          rotate_left
          · exact AllReadyH.nil
          have k0 := HC4.out
          go_simp
          clear k0
          refine hK.out _ _ (by first | exact HSE.out | exact HS5.out | exact HSA.out _ | exact HSH.out) (fun hHeld => ?_)
          clear hK KC
          try simp only [Act.put, List.setIfInBounds_toArray, List.set_cons_zero, List.set_cons_succ]
          refine wpAnyH_ready (rs := [11]) (by kernel_rfl) (by simp) ?_
          refine AllReadyH.cons (o := ⟨_, _, _, _, _, _⟩) rfl (fun KC hK => ?_) ?_
          rotate_left
          · exact AllReadyH.nil
          refine step_grew (v := .slice ps nz cz) rfl (.tmp 240) (.tmp 246) rfl Tryd.underlying49 (.agg #[.pointer none, .pointer none]) 2 info_side rfl (by decide) [.pointer (some ⟨eb, 0, none⟩), .pointer (some ⟨xb, 0, none⟩)] 1 ⟨w3.heap.size, 0, none⟩ rfl rfl (HHD.out _) rfl (by decide) cells_alloc HONE.out hl1 hl2 ?_
          intro v5 w5 hg5
          obtain ⟨p5, c5, rfl, _⟩ := hg5.held.cells
          obtain ⟨d5, f5, hp5⟩ := HADD.out _ _ _ _ hg5; obtain ⟨s5, s6⟩ := HP.out.far HK0.out HB3.out hg5; have HS5 := Lib.hid s5; have HSE := Lib.hid s6; clear s5 s6
          have HP5 := Lib.hid hp5
          clear hg5 hp5
          refine hK.out _ _ (by first | exact HSE.out | exact HS5.out | exact HSA.out _ | exact HSH.out) (fun hHeld => ?_)
          clear hK KC
          try simp only [Act.put, List.setIfInBounds_toArray, List.set_cons_zero, List.set_cons_succ]
          refine wpAnyH_take (i := 12) (oi := ⟨_, _, _, _, _, _⟩) (v := ?_) rfl (by kernel_rfl) (by kernel_rfl) (by kernel_rfl) (fun _ _ _ h => h) (Or.inl ⟨by rfl, ?_⟩) hHeld ?_
          rotate_left
          · ((intro w hSw; (try dsimp only at hSw); go_simp) <;> with_reducible rfl)
          try simp only [Act.put, List.setIfInBounds_toArray, List.set_cons_zero, List.set_cons_succ]
          refine wpAnyH_take (i := 13) (oi := ⟨_, _, _, _, _, _⟩) (v := ?_) rfl (by kernel_rfl) (by kernel_rfl) (by kernel_rfl) (fun _ _ _ h => h) (Or.inl ⟨by rfl, ?_⟩) hHeld ?_
          rotate_left
          · ((intro w hSw; (try dsimp only at hSw); go_simp) <;> with_reducible rfl)
          try simp only [Act.put, List.setIfInBounds_toArray, List.set_cons_zero, List.set_cons_succ]
          refine wpAnyH_ready (rs := [14]) (by kernel_rfl) (by simp) ?_
          refine AllReadyH.cons (o := ⟨_, _, _, _, _, _⟩) rfl (fun KC hK => ?_) ?_
          rotate_left
          · exact AllReadyH.nil
          go_simp
          refine hK.out _ _ (by first | exact HSE.out | exact HS5.out | exact HSA.out _ | exact HSH.out) (fun hHeld => ?_)
          clear hK KC
          try simp only [Act.put, List.setIfInBounds_toArray, List.set_cons_zero, List.set_cons_succ]
          refine wpAnyH_done (by kernel_rfl) ?_ _
          go_wp2_with fail
          go_ret
          exact ⟨rfl, HP5.out.more (Nat.le_add_right _ _)⟩
    · have h6i : ¬ (nz : Int) < 6 := by omega
      go_wp2_with fail
      go_ret
      exact ⟨rfl, (HSP.out.pk w2 HB2.out).more (Nat.le_add_right _ _)⟩
set_option maxRecDepth 100000 in
set_option maxHeartbeats 16000000 in
theorem play_10 {W w : World} {wb b t ln c : Nat} {p : Option Addr} {on n m : Int} {z : ByteArray} {L : List ByteArray} (hB : Bas W W.heap.size) (h : PlK W w wb b t) (hv : Txts W (.slice p ln c) L) (hll : L.length ≤ 1048576) (hon : -9223372036854775808 ≤ on ∧ on ≤ 9223372036854775807) (hn : -9223372036854775808 ≤ n ∧ n ≤ 9223372036854775807) (hm : -9223372036854775808 ≤ m ∧ m ≤ 9223372036854775807) (ht : t ≤ 900) :
    Calls Tryd.prog 22 #[.pointer (some ⟨wb, 0, none⟩), .agg #[.int .i64 10, .int .i64 on, .int .i64 n, .int .i64 m, .string z, .slice p ln c]] w fun o w' => o = .returned (.bool true) ∧ PlK W w' wb b (t + 2) := by
  obtain ⟨col, oc, S, sv, hv0, hl, h, hS⟩ := h
  obtain ⟨g0, hg0⟩ : ∃ x, x = w.heap.size := ⟨_, rfl⟩
  obtain ⟨w1, hw1⟩ : ∃ x, x = w.alloc (.cells #[.int .i64 10, .int .i64 on, .int .i64 n, .int .i64 m, .string z, .slice p ln c] 54) := ⟨_, rfl⟩
  have hbx : w1.heap[g0]? = some (.cells #[.int .i64 10, .int .i64 on, .int .i64 n, .int .i64 m, .string z, .slice p ln c] 54 (0, 0)) := by rw [hw1, hg0]; exact heap_alloc_new w _
  have hb1 : Below w.heap.size w w1 := by rw [hw1]; exact (Below.refl _ _).alloc (Nat.le_refl _) _
  have hog : oc g0 = 0 := by
    by_cases h0 : oc g0 = 0
    · exact h0
    · have := h.ol g0 h0; omega
  have h1 := h.below hb1
  have HH := Lib.hid h1
  have HSY := Lib.hid hS
  have HTX := Lib.hid hv
  have HBAS := Lib.hid hB
  have HW1 := Lib.hid hw1
  have HG0 := Lib.hid hg0
  have HX := Lib.hid hbx
  have HOG := Lib.hid hog
  have HT := Lib.hid ht
  have HLL := Lib.hid hll
  have c0 : w1.cell? ⟨g0, 0, none⟩ = some (.int .i64 10) := cellB hbx rfl
  obtain ⟨ns, hns⟩ : ∃ x, x = S.length := ⟨_, rfl⟩
  have hsd := h1.sd id
  rw [← hns] at hsd
  obtain ⟨ps, cs, rfl, _⟩ := hsd.cells
  have HSD := Lib.hid hsd
  have hns6 : ns ≤ 6 := by rw [hns]; exact h1.sl
  have HNS := Lib.hid hns
  have c1 : w1.cell? ⟨wb, 0, none⟩ = some (.slice ps ns cs) := cellB (h1.wx id) rfl
  clear hsd hns
  clear h hS hv hB hw1 hg0 hbx hb1 hog h1 ht hll
  go_enter Tryd.func22, Tryd.ntmps22
  go_upto_region 1 with fail
  rw [← HW1.out, ← HG0.out]
  go_upto_region 17 with fail
  by_cases hz : ns = 0
  · subst hz
    go_wp2_with fail
    go_ret
    exact ⟨rfl, PlK.more (t := t) ⟨col, oc, S, _, hv0, hl, HH.out, HSY.out⟩ (Nat.le_add_right _ _)⟩
  have hz1 : ((ns : Int) == 0) = false := by rw [beq_eq_false_iff_ne]; omega
  have hz2 : ¬ (ns : Int) = 0 := by omega
  obtain ⟨i, hi⟩ : ∃ i, i = pickN on ns := ⟨_, rfl⟩
  have hin : i < ns := by rw [hi]; exact pickN_lt on (by omega)
  obtain ⟨s, hs⟩ : ∃ s, S[i]? = some s := ⟨S[i]'(by rw [← HNS.out]; exact hin), List.getElem?_eq_getElem _⟩
  have CP : Hid (∀ w', Calls Tryd.prog 49 #[.int .i64 on, .int .i64 (ns : Int)] w' fun e w'' => e = .returned (.int .i64 (i : Int)) ∧ w'' = w') := Lib.hid (fun w' => by rw [hi]; exact pickU_any on ns w' (by omega) (by omega) hon)
  obtain ⟨sb, rfl⟩ : ∃ sb, ps = some ⟨sb, 0, none⟩ := by
    rcases HSD.out.2 with ⟨e, e2⟩ | ⟨g, cap, cur, e, _⟩
    · omega
    · injection e with e1 _ _; exact ⟨g, e1⟩
  obtain ⟨⟨e, ne, He, x, mx, Kx⟩, hse⟩ : ∃ s', s' = s := ⟨_, rfl⟩
  subst hse
  have hsync := HSY.out _ (List.mem_of_getElem? hs)
  obtain ⟨rfl, rfl⟩ : ne = mx ∧ He = Kx := hsync
  have HSS : Hid (∀ w', Below w1.heap.size w1 w' → w'.cell? ⟨wb, 0, none⟩ = some (.slice (some ⟨sb, 0, none⟩) ns cs) ∧ w'.cell? ⟨g0, 1, none⟩ = some (.int .i64 on) ∧ w'.cell? ⟨sb, i * 2, none⟩ = some (.pointer (some ⟨e, 0, none⟩)) ∧ w'.cell? ⟨sb, i * 2 + 1, none⟩ = some (.pointer (some ⟨x, 0, none⟩))) := Lib.hid (fun w' hb => by
    obtain ⟨k1, k2⟩ := sdV_get hs
    obtain ⟨p', c', e1, _, _, hc⟩ := (HSD.out.below hb).cells
    injection e1 with e1 _ _
    have hadd : ∀ j, (⟨sb, 0, none⟩ : Addr).add j = ⟨sb, j, none⟩ := fun j => by unfold Addr.add; split <;> simp_all
    obtain ⟨a1, ha1, _, hc1⟩ := hc _ _ k1
    obtain ⟨a2, ha2, _, hc2⟩ := hc _ _ k2
    rw [← e1] at ha1 ha2
    obtain rfl := Option.some.inj ha1
    obtain rfl := Option.some.inj ha2
    rw [hadd] at hc1 hc2
    exact ⟨cellB ((HH.out.below hb).wx id) rfl, cellB (blk_below HX.out hb (blk_lt HX.out)) rfl, hc1, hc2⟩)
  have hii : (i : Int) < (ns : Int) := by omega
  have hi0 : (0 : Int) ≤ (i : Int) := by omega
  have hwi : IntKind.i64.wrap (i : Int) = (i : Int) := wrap_i64_id _ (by omega) (by omega)
  obtain ⟨O, hO⟩ : ∃ O : Array Value, O = #[.int .i64 10, .int .i64 on, .int .i64 n, .int .i64 m, .string z, .slice p ln c] := ⟨_, rfl⟩
  have HOO := Lib.hid hO
  have HSI := Lib.hid hs
  have HB0 : Hid (Below w1.heap.size w1 w1.drew) := Lib.hid (Below.refl _ _).drew
  clear hi hs c0 hO
  go_upto_region 19 with fail
  clear c1 hz1 hz2
  go_cut [9] from 83 to 103 (fun x9 wx => ∃ sx, x9 = .pointer (some ⟨sx, 0, none⟩) ∧ Hid (PsX W wx wb b t g0 sx i e x O ne He ne He))
  case first =>
    refine wp_region_held_drew (S := fun w' => w'.cell? ⟨wb, 0, none⟩ = some (.slice (some ⟨sb, 0, none⟩) ns cs) ∧ w'.cell? ⟨g0, 1, none⟩ = some (.int .i64 on) ∧ w'.cell? ⟨sb, i * 2, none⟩ = some (.pointer (some ⟨e, 0, none⟩)) ∧ w'.cell? ⟨sb, i * 2 + 1, none⟩ = some (.pointer (some ⟨x, 0, none⟩))) (by kernel_rfl) (by exact HSS.out _ (by first | exact HBs.out | exact HBy.out | exact HB0.out)) (fun hHeld => ?_)
    refine wpAnyH_take (i := 0) (oi := ⟨_, _, _, _, _, _⟩) (v := ?_) rfl (by kernel_rfl) (by kernel_rfl) (by kernel_rfl) (fun _ _ _ h => h) (Or.inl ⟨by rfl, ?_⟩) hHeld ?_
    rotate_left
    · ((intro w hSw; (try dsimp only at hSw); go_simp) <;> with_reducible rfl)
    try simp only [Act.put, List.setIfInBounds_toArray, List.set_cons_zero, List.set_cons_succ]
    refine wpAnyH_take (i := 1) (oi := ⟨_, _, _, _, _, _⟩) (v := ?_) rfl (by kernel_rfl) (by kernel_rfl) (by kernel_rfl) (fun _ _ _ h => h) (Or.inl ⟨by rfl, ?_⟩) hHeld ?_
    rotate_left
    · ((intro w hSw; (try dsimp only at hSw); go_simp) <;> with_reducible rfl)
    try simp only [Act.put, List.setIfInBounds_toArray, List.set_cons_zero, List.set_cons_succ]
    refine wpAnyH_take (i := 2) (oi := ⟨_, _, _, _, _, _⟩) (v := ?_) rfl (by kernel_rfl) (by kernel_rfl) (by kernel_rfl) (fun _ _ _ h => h) (Or.inl ⟨by rfl, ?_⟩) hHeld ?_
    rotate_left
    · ((intro w hSw; (try dsimp only at hSw); go_simp) <;> with_reducible rfl)
    try simp only [Act.put, List.setIfInBounds_toArray, List.set_cons_zero, List.set_cons_succ]
    refine wpAnyH_take (i := 3) (oi := ⟨_, _, _, _, _, _⟩) (v := ?_) rfl (by kernel_rfl) (by kernel_rfl) (by kernel_rfl) (fun _ _ _ h => h) (Or.inl ⟨by rfl, ?_⟩) hHeld ?_
    rotate_left
    · ((intro w hSw; (try dsimp only at hSw); go_simp) <;> with_reducible rfl)
    try simp only [Act.put, List.setIfInBounds_toArray, List.set_cons_zero, List.set_cons_succ]
    refine wpAnyH_take (i := 4) (oi := ⟨_, _, _, _, _, _⟩) (v := ?_) rfl (by kernel_rfl) (by kernel_rfl) (by kernel_rfl) (fun _ _ _ h => h) (Or.inl ⟨by rfl, ?_⟩) hHeld ?_
    rotate_left
    · ((intro w hSw; (try dsimp only at hSw); go_simp) <;> with_reducible rfl)
    try simp only [Act.put, List.setIfInBounds_toArray, List.set_cons_zero, List.set_cons_succ]
    refine wpAnyH_take (i := 5) (oi := ⟨_, _, _, _, _, _⟩) (v := ?_) rfl (by kernel_rfl) (by kernel_rfl) (by kernel_rfl) (fun _ _ _ h => h) (Or.inl ⟨by rfl, ?_⟩) hHeld ?_
    rotate_left
    · ((intro w hSw; (try dsimp only at hSw); go_simp) <;> with_reducible rfl)
    try simp only [Act.put, List.setIfInBounds_toArray, List.set_cons_zero, List.set_cons_succ]
    refine wpAnyH_take (i := 6) (oi := ⟨_, _, _, _, _, _⟩) (v := ?_) rfl (by kernel_rfl) (by kernel_rfl) (by kernel_rfl) (fun _ _ _ h => h) (Or.inl ⟨by rfl, ?_⟩) hHeld ?_
    rotate_left
    · ((intro w hSw; (try dsimp only at hSw); go_simp) <;> with_reducible rfl)
    try simp only [Act.put, List.setIfInBounds_toArray, List.set_cons_zero, List.set_cons_succ]
    refine wpAnyH_take (i := 7) (oi := ⟨_, _, _, _, _, _⟩) (v := ?_) rfl (by kernel_rfl) (by kernel_rfl) (by kernel_rfl) (fun _ _ _ h => h) (Or.inl ⟨by rfl, ?_⟩) hHeld ?_
    rotate_left
    · ((intro w hSw; (try dsimp only at hSw); go_simp) <;> with_reducible rfl)
    try simp only [Act.put, List.setIfInBounds_toArray, List.set_cons_zero, List.set_cons_succ]
    refine wpAnyH_take (i := 8) (oi := ⟨_, _, _, _, _, _⟩) (v := ?_) rfl (by kernel_rfl) (by kernel_rfl) (by kernel_rfl) (fun _ _ _ h => h) (Or.inl ⟨by rfl, ?_⟩) hHeld ?_
    rotate_left
    · ((intro w hSw; (try dsimp only at hSw); go_simp) <;> with_reducible rfl)
    try simp only [Act.put, List.setIfInBounds_toArray, List.set_cons_zero, List.set_cons_succ]
    refine wpAnyH_take (i := 9) (oi := ⟨_, _, _, _, _, _⟩) (v := ?_) rfl (by kernel_rfl) (by kernel_rfl) (by kernel_rfl) (fun _ _ _ h => h) (Or.inl ⟨by rfl, ?_⟩) hHeld ?_
    rotate_left
    · ((intro w hSw; (try dsimp only at hSw); go_simp) <;> with_reducible rfl)
    try simp only [Act.put, List.setIfInBounds_toArray, List.set_cons_zero, List.set_cons_succ]
    refine wpAnyH_take (i := 10) (oi := ⟨_, _, _, _, _, _⟩) (v := ?_) rfl (by kernel_rfl) (by kernel_rfl) (by kernel_rfl) (fun _ _ _ h => h) (Or.inl ⟨by rfl, ?_⟩) hHeld ?_
    rotate_left
    · ((intro w hSw; (try dsimp only at hSw); go_simp) <;> with_reducible rfl)
    try simp only [Act.put, List.setIfInBounds_toArray, List.set_cons_zero, List.set_cons_succ]
    refine wpAnyH_ready (rs := [11, 14]) (by kernel_rfl) (by simp) ?_
    refine AllReadyH.cons (o := ⟨_, _, _, _, _, _⟩) rfl (fun KC hK => ?_) ?_
    rotate_left
    refine AllReadyH.cons (o := ⟨_, _, _, _, _, _⟩) rfl (fun KC hK => ?_) ?_
    rotate_left
    · exact AllReadyH.nil
    · go_simp
      go_at_call 49
      (with_reducible refine (CP.out _).mono ?_)
      rintro o w9 ⟨rfl, hww⟩
      rw [hww]
      clear hww w9
      refine hK.out _ _ (by exact HSS.out _ (by first | exact HBs.out | exact HBy.out | exact HB0.out)) (fun hHeld => ?_)
      clear hK KC
      try simp only [Act.put, List.setIfInBounds_toArray, List.set_cons_zero, List.set_cons_succ]
      refine wpAnyH_take (i := 12) (oi := ⟨_, _, _, _, _, _⟩) (v := ?_) rfl (by kernel_rfl) (by kernel_rfl) (by kernel_rfl) (fun _ _ _ h => h) (Or.inl ⟨by rfl, ?_⟩) hHeld ?_
      rotate_left
      · ((intro w hSw; (try dsimp only at hSw); go_simp) <;> with_reducible rfl)
      try simp only [Act.put, List.setIfInBounds_toArray, List.set_cons_zero, List.set_cons_succ]
      refine wpAnyH_take (i := 13) (oi := ⟨_, _, _, _, _, _⟩) (v := ?_) rfl (by kernel_rfl) (by kernel_rfl) (by kernel_rfl) (fun _ _ _ h => h) (Or.inl ⟨by rfl, ?_⟩) hHeld ?_
      rotate_left
      · ((intro w hSw; (try dsimp only at hSw); go_simp) <;> with_reducible rfl)
      try simp only [Act.put, List.setIfInBounds_toArray, List.set_cons_zero, List.set_cons_succ]
      refine wpAnyH_ready (rs := [14]) (by kernel_rfl) (by simp) ?_
      refine AllReadyH.cons (o := ⟨_, _, _, _, _, _⟩) rfl (fun KC hK => ?_) ?_
      rotate_left
      · exact AllReadyH.nil
      go_simp
      obtain ⟨w2, sx, e1, e2, HS2, HBy⟩ := sbox_newD w1
      rw [e1, e2]
      have HSX := Lib.hid e2
      clear e1 e2
      refine hK.out _ _ (by exact HSS.out _ (by first | exact HBs.out | exact HBy.out | exact HB0.out)) (fun hHeld => ?_)
      clear hK KC
      try simp only [Act.put, List.setIfInBounds_toArray, List.set_cons_zero, List.set_cons_succ]
      refine wpAnyH_ready (rs := [15]) (by kernel_rfl) (by simp) ?_
      refine AllReadyH.cons (o := ⟨_, _, _, _, _, _⟩) rfl (fun KC hK => ?_) ?_
      rotate_left
      · exact AllReadyH.nil
      obtain ⟨k0, k1⟩ := sbox_c HS2.out
      have f0 : w2.frozen? ⟨sx, 0, none⟩ = false := frozB HS2.out
      have f1 : w2.frozen? ⟨sx, 1, none⟩ = false := frozB HS2.out
      go_simp
      have HPS : Hid (PsX W ((w2.setCell ⟨sx, 0, none⟩ (.pointer (some ⟨e, 0, none⟩))).setCell ⟨sx, 1, none⟩ (.pointer (some ⟨x, 0, none⟩))) wb b t g0 sx i e x O ne He ne He) := Lib.hid (ps_make HH.out HSY.out HSI.out (by rw [HOO.out]; exact HX.out) HOG.out HS2.out HBy.out (Nat.le_of_eq HSX.out))
      have HBs : Hid (Below w1.heap.size w1 ((w2.setCell ⟨sx, 0, none⟩ (.pointer (some ⟨e, 0, none⟩))).setCell ⟨sx, 1, none⟩ (.pointer (some ⟨x, 0, none⟩)))) := Lib.hid ((HBy.out.setCell (p := ⟨sx, 0, none⟩) (Nat.le_of_eq HSX.out) _).setCell (p := ⟨sx, 1, none⟩) (Nat.le_of_eq HSX.out) _)
      refine hK.out _ _ (by exact HSS.out _ (by first | exact HBs.out | exact HBy.out | exact HB0.out)) (fun hHeld => ?_)
      clear hK KC
      try simp only [Act.put, List.setIfInBounds_toArray, List.set_cons_zero, List.set_cons_succ]
      refine wpAnyH_done (by kernel_rfl) ?_ _
      go_wp2_with fail
      go_meet
      exact ⟨sx, rfl, HPS⟩
    · go_simp
      obtain ⟨w2, sx, e1, e2, HS2, HBy⟩ := sbox_newD w1
      rw [e1, e2]
      have HSX := Lib.hid e2
      clear e1 e2
      refine hK.out _ _ (by exact HSS.out _ (by first | exact HBs.out | exact HBy.out | exact HB0.out)) (fun hHeld => ?_)
      clear hK KC
      try simp only [Act.put, List.setIfInBounds_toArray, List.set_cons_zero, List.set_cons_succ]
      refine wpAnyH_ready (rs := [11]) (by kernel_rfl) (by simp) ?_
      refine AllReadyH.cons (o := ⟨_, _, _, _, _, _⟩) rfl (fun KC hK => ?_) ?_
      rotate_left
      · exact AllReadyH.nil
      go_simp
      go_at_call 49
      (with_reducible refine (CP.out _).mono ?_)
      rintro o w9 ⟨rfl, hww⟩
      rw [hww]
      clear hww w9
      refine hK.out _ _ (by exact HSS.out _ (by first | exact HBs.out | exact HBy.out | exact HB0.out)) (fun hHeld => ?_)
      clear hK KC
      try simp only [Act.put, List.setIfInBounds_toArray, List.set_cons_zero, List.set_cons_succ]
      refine wpAnyH_take (i := 12) (oi := ⟨_, _, _, _, _, _⟩) (v := ?_) rfl (by kernel_rfl) (by kernel_rfl) (by kernel_rfl) (fun _ _ _ h => h) (Or.inl ⟨by rfl, ?_⟩) hHeld ?_
      rotate_left
      · ((intro w hSw; (try dsimp only at hSw); go_simp) <;> with_reducible rfl)
      try simp only [Act.put, List.setIfInBounds_toArray, List.set_cons_zero, List.set_cons_succ]
      refine wpAnyH_take (i := 13) (oi := ⟨_, _, _, _, _, _⟩) (v := ?_) rfl (by kernel_rfl) (by kernel_rfl) (by kernel_rfl) (fun _ _ _ h => h) (Or.inl ⟨by rfl, ?_⟩) hHeld ?_
      rotate_left
      · ((intro w hSw; (try dsimp only at hSw); go_simp) <;> with_reducible rfl)
      try simp only [Act.put, List.setIfInBounds_toArray, List.set_cons_zero, List.set_cons_succ]
      refine wpAnyH_ready (rs := [15]) (by kernel_rfl) (by simp) ?_
      refine AllReadyH.cons (o := ⟨_, _, _, _, _, _⟩) rfl (fun KC hK => ?_) ?_
      rotate_left
      · exact AllReadyH.nil
      obtain ⟨k0, k1⟩ := sbox_c HS2.out
      have f0 : w2.frozen? ⟨sx, 0, none⟩ = false := frozB HS2.out
      have f1 : w2.frozen? ⟨sx, 1, none⟩ = false := frozB HS2.out
      go_simp
      have HPS : Hid (PsX W ((w2.setCell ⟨sx, 0, none⟩ (.pointer (some ⟨e, 0, none⟩))).setCell ⟨sx, 1, none⟩ (.pointer (some ⟨x, 0, none⟩))) wb b t g0 sx i e x O ne He ne He) := Lib.hid (ps_make HH.out HSY.out HSI.out (by rw [HOO.out]; exact HX.out) HOG.out HS2.out HBy.out (Nat.le_of_eq HSX.out))
      have HBs : Hid (Below w1.heap.size w1 ((w2.setCell ⟨sx, 0, none⟩ (.pointer (some ⟨e, 0, none⟩))).setCell ⟨sx, 1, none⟩ (.pointer (some ⟨x, 0, none⟩)))) := Lib.hid ((HBy.out.setCell (p := ⟨sx, 0, none⟩) (Nat.le_of_eq HSX.out) _).setCell (p := ⟨sx, 1, none⟩) (Nat.le_of_eq HSX.out) _)
      refine hK.out _ _ (by exact HSS.out _ (by first | exact HBs.out | exact HBy.out | exact HB0.out)) (fun hHeld => ?_)
      clear hK KC
      try simp only [Act.put, List.setIfInBounds_toArray, List.set_cons_zero, List.set_cons_succ]
      refine wpAnyH_done (by kernel_rfl) ?_ _
      go_wp2_with fail
      go_meet
      exact ⟨sx, rfl, HPS⟩
  case rest =>
    obtain ⟨sx, rfl, HP⟩ := hcut
    clear HSS HSD HNS CP hii hin hz hns6 hi0 hwi HH HX HSI HB0 HOG HW1 HG0
    have HCC : Hid (∀ w' a1 a2 a3 a4, PsX W w' wb b t g0 sx i e x O a1 a2 a3 a4 → w'.cell? ⟨sx, 0, none⟩ = some (.pointer (some ⟨e, 0, none⟩)) ∧ w'.cell? ⟨sx, 1, none⟩ = some (.pointer (some ⟨x, 0, none⟩)) ∧ w'.cell? ⟨g0, 0, none⟩ = some (.int .i64 10) ∧ w'.cell? ⟨g0, 2, none⟩ = some (.int .i64 n) ∧ w'.cell? ⟨g0, 3, none⟩ = some (.int .i64 m) ∧ w'.cell? ⟨g0, 4, none⟩ = some (.string z) ∧ w'.cell? ⟨wb, 1, none⟩ = some (.pointer (some ⟨b, 0, none⟩))) := Lib.hid (fun w' a1 a2 a3 a4 h => by
      obtain ⟨k1, k2, k3, k4⟩ := h.c
      rw [HOO.out] at k3
      exact ⟨k1, k2, k3 0 _ rfl, k3 2 _ rfl, k3 3 _ rfl, k3 4 _ rfl, k4⟩)
    clear HOO
    have CLF : Hid (∀ (c : Int) w', Calls Tryd.prog 48 #[.int .i64 c] w' fun e w'' => e = .returned (.string (leafSU c)) ∧ Below w'.heap.size w' w'') := Lib.hid leafU_any
    obtain ⟨c0, c1, c2, c3, c4, c5, c6⟩ := HCC.out _ _ _ _ _ HP.out
    have HS0 : Hid (∀ w', PsX W w' wb b t g0 sx i e x O ne He ne He → w'.cell? ⟨sx, 0, none⟩ = some (.pointer (some ⟨e, 0, none⟩)) ∧ w'.cell? ⟨sx, 1, none⟩ = some (.pointer (some ⟨x, 0, none⟩))) := Lib.hid (fun w' h => by have := HCC.out w' _ _ _ _ h; exact ⟨this.1, this.2.1⟩)
    obtain ⟨nh, hnh⟩ : ∃ y, y = He.length := ⟨_, rfl⟩
    have CNX : Hid (∀ w', PsX W w' wb b t g0 sx i e x O ne He ne He → Calls Tryd.prog 26 #[.pointer (some ⟨x, 0, none⟩)] w' fun o w'' => ∃ p c, o = .returned (.slice p nh c) ∧ LfI w' w'' (.slice p nh c) nh He) := Lib.hid (fun w' h => by rw [hnh]; exact h.nodesX)
    have CLD : Hid (∀ w' w'' v (z' : Int), PsX W w' wb b t g0 sx i e x O ne He ne He → LfI w' w'' v nh He → Calls Tryd.prog 72 #[.pointer (some ⟨wb, 0, none⟩), .int .i64 z', v] w'' fun o w3 => o = .returned (.bool true) ∧ PlK W w3 wb b t ∧ w3.cell? ⟨sx, 0, none⟩ = some (.pointer (some ⟨e, 0, none⟩)) ∧ w3.cell? ⟨sx, 1, none⟩ = some (.pointer (some ⟨x, 0, none⟩))) := Lib.hid (fun w' w'' v z' h hl => by rw [hnh] at hl; exact h.loads HBAS.out hl)
    have HQ0 : Hid (PsX W wc.drew wb b t g0 sx i e x O ne He ne He) := Lib.hid (HP.out.below (Below.refl _ _).drew)
    clear hnh
    go_upto_region 51 with fail
    clear c0 c1 c2 c3 c4 c5 c6
    go_region_held3 (fun w' => w'.cell? ⟨sx, 0, none⟩ = some (.pointer (some ⟨e, 0, none⟩)) ∧ w'.cell? ⟨sx, 1, none⟩ = some (.pointer (some ⟨x, 0, none⟩))) (first | exact HZ.out.2 | exact HS0.out _ HQ1.out | exact HS0.out _ HQ0.out) (first
      | (go_at_call 46; (with_reducible refine (HQ0.out.sizeE).mono ?_); rintro o w9 ⟨rfl, hww⟩; replace hww := hww.symm; subst hww)
      | (go_at_call 26; (with_reducible refine (CNX.out _ HQ0.out).mono ?_); rintro o w4 ⟨p4, q4, rfl, h⟩; have HL4 := Lib.hid h; have HQ1 := Lib.hid (HQ0.out.below h.b); clear h)
      | (go_at_call 72; (with_reducible refine (CLD.out _ _ _ _ HQ0.out HL4.out).mono ?_); rintro o w5 ⟨rfl, h2, h3⟩; have HZ := Lib.hid (And.intro h2 h3); clear h2 h3))
    go_wp2_with fail
    go_ret
    exact ⟨rfl, HZ.out.1.more (Nat.le_add_right _ _)⟩
set_option maxRecDepth 100000 in
set_option maxHeartbeats 16000000 in
theorem play_other {W w : World} {wb b t ln c : Nat} {p : Option Addr} {k on n m : Int} {z : ByteArray} {L : List ByteArray} (hB : Bas W W.heap.size) (h : PlK W w wb b t) (hv : Txts W (.slice p ln c) L) (hll : L.length ≤ 1048576) (hon : -9223372036854775808 ≤ on ∧ on ≤ 9223372036854775807) (hn : -9223372036854775808 ≤ n ∧ n ≤ 9223372036854775807) (hm : -9223372036854775808 ≤ m ∧ m ≤ 9223372036854775807) (ht : t ≤ 900) (hk : ∀ j : Nat, 1 ≤ j → j ≤ 10 → k ≠ (j : Int)) :
    Calls Tryd.prog 22 #[.pointer (some ⟨wb, 0, none⟩), .agg #[.int .i64 k, .int .i64 on, .int .i64 n, .int .i64 m, .string z, .slice p ln c]] w fun o w' => o = .returned (.bool true) ∧ PlK W w' wb b (t + 2) := by
  obtain ⟨col, oc, S, sv, hv0, hl, h, hS⟩ := h
  obtain ⟨g0, hg0⟩ : ∃ x, x = w.heap.size := ⟨_, rfl⟩
  obtain ⟨w1, hw1⟩ : ∃ x, x = w.alloc (.cells #[.int .i64 k, .int .i64 on, .int .i64 n, .int .i64 m, .string z, .slice p ln c] 54) := ⟨_, rfl⟩
  have hbx : w1.heap[g0]? = some (.cells #[.int .i64 k, .int .i64 on, .int .i64 n, .int .i64 m, .string z, .slice p ln c] 54 (0, 0)) := by rw [hw1, hg0]; exact heap_alloc_new w _
  have hb1 : Below w.heap.size w w1 := by rw [hw1]; exact (Below.refl _ _).alloc (Nat.le_refl _) _
  have hog : oc g0 = 0 := by
    by_cases h0 : oc g0 = 0
    · exact h0
    · have := h.ol g0 h0; omega
  have h1 := h.below hb1
  have HH := Lib.hid h1
  have HSY := Lib.hid hS
  have HTX := Lib.hid hv
  have HBAS := Lib.hid hB
  have HW1 := Lib.hid hw1
  have HG0 := Lib.hid hg0
  have HX := Lib.hid hbx
  have HOG := Lib.hid hog
  have HT := Lib.hid ht
  have HLL := Lib.hid hll
  have c0 : w1.cell? ⟨g0, 0, none⟩ = some (.int .i64 k) := cellB hbx rfl
  obtain ⟨ns, hns⟩ : ∃ x, x = S.length := ⟨_, rfl⟩
  have hsd := h1.sd id
  rw [← hns] at hsd
  obtain ⟨ps, cs, rfl, _⟩ := hsd.cells
  have HSD := Lib.hid hsd
  have hns6 : ns ≤ 6 := by rw [hns]; exact h1.sl
  have HNS := Lib.hid hns
  have c1 : w1.cell? ⟨wb, 0, none⟩ = some (.slice ps ns cs) := cellB (h1.wx id) rfl
  clear hsd hns
  have q1 : (k == 1) = false := beq_eq_false_iff_ne.2 (hk 1 (by decide) (by decide))
  have q2 : (k == 2) = false := beq_eq_false_iff_ne.2 (hk 2 (by decide) (by decide))
  have q3 : (k == 3) = false := beq_eq_false_iff_ne.2 (hk 3 (by decide) (by decide))
  have q4 : (k == 4) = false := beq_eq_false_iff_ne.2 (hk 4 (by decide) (by decide))
  have q5 : (k == 5) = false := beq_eq_false_iff_ne.2 (hk 5 (by decide) (by decide))
  have q6 : (k == 6) = false := beq_eq_false_iff_ne.2 (hk 6 (by decide) (by decide))
  have q7 : (k == 7) = false := beq_eq_false_iff_ne.2 (hk 7 (by decide) (by decide))
  have q8 : (k == 8) = false := beq_eq_false_iff_ne.2 (hk 8 (by decide) (by decide))
  have q9 : (k == 9) = false := beq_eq_false_iff_ne.2 (hk 9 (by decide) (by decide))
  have q10 : (k == 10) = false := beq_eq_false_iff_ne.2 (hk 10 (by decide) (by decide))
  have r1 : ¬ k = 1 := hk 1 (by decide) (by decide)
  have r2 : ¬ k = 2 := hk 2 (by decide) (by decide)
  have r3 : ¬ k = 3 := hk 3 (by decide) (by decide)
  have r4 : ¬ k = 4 := hk 4 (by decide) (by decide)
  have r5 : ¬ k = 5 := hk 5 (by decide) (by decide)
  have r6 : ¬ k = 6 := hk 6 (by decide) (by decide)
  have r7 : ¬ k = 7 := hk 7 (by decide) (by decide)
  have r8 : ¬ k = 8 := hk 8 (by decide) (by decide)
  have r9 : ¬ k = 9 := hk 9 (by decide) (by decide)
  have r10 : ¬ k = 10 := hk 10 (by decide) (by decide)
  clear h hS hv hB hw1 hg0 hbx hb1 hog h1 ht hll
  go_enter Tryd.func22, Tryd.ntmps22
  go_upto_region 1 with fail
  rw [← HW1.out, ← HG0.out]
  go_upto_region 17 with fail
  by_cases hz : ns = 0
  · subst hz
    go_wp2_with fail
    go_ret
    exact ⟨rfl, PlK.more (t := t) ⟨col, oc, S, _, hv0, hl, HH.out, HSY.out⟩ (Nat.le_add_right _ _)⟩
  have hz1 : ((ns : Int) == 0) = false := by rw [beq_eq_false_iff_ne]; omega
  have hz2 : ¬ (ns : Int) = 0 := by omega
  obtain ⟨i, hi⟩ : ∃ i, i = pickN on ns := ⟨_, rfl⟩
  have hin : i < ns := by rw [hi]; exact pickN_lt on (by omega)
  obtain ⟨s, hs⟩ : ∃ s, S[i]? = some s := ⟨S[i]'(by rw [← HNS.out]; exact hin), List.getElem?_eq_getElem _⟩
  have CP : Hid (∀ w', Calls Tryd.prog 49 #[.int .i64 on, .int .i64 (ns : Int)] w' fun e w'' => e = .returned (.int .i64 (i : Int)) ∧ w'' = w') := Lib.hid (fun w' => by rw [hi]; exact pickU_any on ns w' (by omega) (by omega) hon)
  obtain ⟨sb, rfl⟩ : ∃ sb, ps = some ⟨sb, 0, none⟩ := by
    rcases HSD.out.2 with ⟨e, e2⟩ | ⟨g, cap, cur, e, _⟩
    · omega
    · injection e with e1 _ _; exact ⟨g, e1⟩
  obtain ⟨⟨e, ne, He, x, mx, Kx⟩, hse⟩ : ∃ s', s' = s := ⟨_, rfl⟩
  subst hse
  have hsync := HSY.out _ (List.mem_of_getElem? hs)
  obtain ⟨rfl, rfl⟩ : ne = mx ∧ He = Kx := hsync
  have HSS : Hid (∀ w', Below w1.heap.size w1 w' → w'.cell? ⟨wb, 0, none⟩ = some (.slice (some ⟨sb, 0, none⟩) ns cs) ∧ w'.cell? ⟨g0, 1, none⟩ = some (.int .i64 on) ∧ w'.cell? ⟨sb, i * 2, none⟩ = some (.pointer (some ⟨e, 0, none⟩)) ∧ w'.cell? ⟨sb, i * 2 + 1, none⟩ = some (.pointer (some ⟨x, 0, none⟩))) := Lib.hid (fun w' hb => by
    obtain ⟨k1, k2⟩ := sdV_get hs
    obtain ⟨p', c', e1, _, _, hc⟩ := (HSD.out.below hb).cells
    injection e1 with e1 _ _
    have hadd : ∀ j, (⟨sb, 0, none⟩ : Addr).add j = ⟨sb, j, none⟩ := fun j => by unfold Addr.add; split <;> simp_all
    obtain ⟨a1, ha1, _, hc1⟩ := hc _ _ k1
    obtain ⟨a2, ha2, _, hc2⟩ := hc _ _ k2
    rw [← e1] at ha1 ha2
    obtain rfl := Option.some.inj ha1
    obtain rfl := Option.some.inj ha2
    rw [hadd] at hc1 hc2
    exact ⟨cellB ((HH.out.below hb).wx id) rfl, cellB (blk_below HX.out hb (blk_lt HX.out)) rfl, hc1, hc2⟩)
  have hii : (i : Int) < (ns : Int) := by omega
  have hi0 : (0 : Int) ≤ (i : Int) := by omega
  have hwi : IntKind.i64.wrap (i : Int) = (i : Int) := wrap_i64_id _ (by omega) (by omega)
  obtain ⟨O, hO⟩ : ∃ O : Array Value, O = #[.int .i64 k, .int .i64 on, .int .i64 n, .int .i64 m, .string z, .slice p ln c] := ⟨_, rfl⟩
  have HOO := Lib.hid hO
  have HSI := Lib.hid hs
  have HB0 : Hid (Below w1.heap.size w1 w1.drew) := Lib.hid (Below.refl _ _).drew
  clear hi hs c0 hO
  go_upto_region 19 with fail
  clear c1 hz1 hz2
  go_cut [9] from 83 to 103 (fun x9 wx => ∃ sx, x9 = .pointer (some ⟨sx, 0, none⟩) ∧ Hid (PsX W wx wb b t g0 sx i e x O ne He ne He))
  case first =>
    refine wp_region_held_drew (S := fun w' => w'.cell? ⟨wb, 0, none⟩ = some (.slice (some ⟨sb, 0, none⟩) ns cs) ∧ w'.cell? ⟨g0, 1, none⟩ = some (.int .i64 on) ∧ w'.cell? ⟨sb, i * 2, none⟩ = some (.pointer (some ⟨e, 0, none⟩)) ∧ w'.cell? ⟨sb, i * 2 + 1, none⟩ = some (.pointer (some ⟨x, 0, none⟩))) (by kernel_rfl) (by exact HSS.out _ (by first | exact HBs.out | exact HBy.out | exact HB0.out)) (fun hHeld => ?_)
    refine wpAnyH_take (i := 0) (oi := ⟨_, _, _, _, _, _⟩) (v := ?_) rfl (by kernel_rfl) (by kernel_rfl) (by kernel_rfl) (fun _ _ _ h => h) (Or.inl ⟨by rfl, ?_⟩) hHeld ?_
    rotate_left
    · ((intro w hSw; (try dsimp only at hSw); go_simp) <;> with_reducible rfl)
    try simp only [Act.put, List.setIfInBounds_toArray, List.set_cons_zero, List.set_cons_succ]
    refine wpAnyH_take (i := 1) (oi := ⟨_, _, _, _, _, _⟩) (v := ?_) rfl (by kernel_rfl) (by kernel_rfl) (by kernel_rfl) (fun _ _ _ h => h) (Or.inl ⟨by rfl, ?_⟩) hHeld ?_
    rotate_left
    · ((intro w hSw; (try dsimp only at hSw); go_simp) <;> with_reducible rfl)
    try simp only [Act.put, List.setIfInBounds_toArray, List.set_cons_zero, List.set_cons_succ]
    refine wpAnyH_take (i := 2) (oi := ⟨_, _, _, _, _, _⟩) (v := ?_) rfl (by kernel_rfl) (by kernel_rfl) (by kernel_rfl) (fun _ _ _ h => h) (Or.inl ⟨by rfl, ?_⟩) hHeld ?_
    rotate_left
    · ((intro w hSw; (try dsimp only at hSw); go_simp) <;> with_reducible rfl)
    try simp only [Act.put, List.setIfInBounds_toArray, List.set_cons_zero, List.set_cons_succ]
    refine wpAnyH_take (i := 3) (oi := ⟨_, _, _, _, _, _⟩) (v := ?_) rfl (by kernel_rfl) (by kernel_rfl) (by kernel_rfl) (fun _ _ _ h => h) (Or.inl ⟨by rfl, ?_⟩) hHeld ?_
    rotate_left
    · ((intro w hSw; (try dsimp only at hSw); go_simp) <;> with_reducible rfl)
    try simp only [Act.put, List.setIfInBounds_toArray, List.set_cons_zero, List.set_cons_succ]
    refine wpAnyH_take (i := 4) (oi := ⟨_, _, _, _, _, _⟩) (v := ?_) rfl (by kernel_rfl) (by kernel_rfl) (by kernel_rfl) (fun _ _ _ h => h) (Or.inl ⟨by rfl, ?_⟩) hHeld ?_
    rotate_left
    · ((intro w hSw; (try dsimp only at hSw); go_simp) <;> with_reducible rfl)
    try simp only [Act.put, List.setIfInBounds_toArray, List.set_cons_zero, List.set_cons_succ]
    refine wpAnyH_take (i := 5) (oi := ⟨_, _, _, _, _, _⟩) (v := ?_) rfl (by kernel_rfl) (by kernel_rfl) (by kernel_rfl) (fun _ _ _ h => h) (Or.inl ⟨by rfl, ?_⟩) hHeld ?_
    rotate_left
    · ((intro w hSw; (try dsimp only at hSw); go_simp) <;> with_reducible rfl)
    try simp only [Act.put, List.setIfInBounds_toArray, List.set_cons_zero, List.set_cons_succ]
    refine wpAnyH_take (i := 6) (oi := ⟨_, _, _, _, _, _⟩) (v := ?_) rfl (by kernel_rfl) (by kernel_rfl) (by kernel_rfl) (fun _ _ _ h => h) (Or.inl ⟨by rfl, ?_⟩) hHeld ?_
    rotate_left
    · ((intro w hSw; (try dsimp only at hSw); go_simp) <;> with_reducible rfl)
    try simp only [Act.put, List.setIfInBounds_toArray, List.set_cons_zero, List.set_cons_succ]
    refine wpAnyH_take (i := 7) (oi := ⟨_, _, _, _, _, _⟩) (v := ?_) rfl (by kernel_rfl) (by kernel_rfl) (by kernel_rfl) (fun _ _ _ h => h) (Or.inl ⟨by rfl, ?_⟩) hHeld ?_
    rotate_left
    · ((intro w hSw; (try dsimp only at hSw); go_simp) <;> with_reducible rfl)
    try simp only [Act.put, List.setIfInBounds_toArray, List.set_cons_zero, List.set_cons_succ]
    refine wpAnyH_take (i := 8) (oi := ⟨_, _, _, _, _, _⟩) (v := ?_) rfl (by kernel_rfl) (by kernel_rfl) (by kernel_rfl) (fun _ _ _ h => h) (Or.inl ⟨by rfl, ?_⟩) hHeld ?_
    rotate_left
    · ((intro w hSw; (try dsimp only at hSw); go_simp) <;> with_reducible rfl)
    try simp only [Act.put, List.setIfInBounds_toArray, List.set_cons_zero, List.set_cons_succ]
    refine wpAnyH_take (i := 9) (oi := ⟨_, _, _, _, _, _⟩) (v := ?_) rfl (by kernel_rfl) (by kernel_rfl) (by kernel_rfl) (fun _ _ _ h => h) (Or.inl ⟨by rfl, ?_⟩) hHeld ?_
    rotate_left
    · ((intro w hSw; (try dsimp only at hSw); go_simp) <;> with_reducible rfl)
    try simp only [Act.put, List.setIfInBounds_toArray, List.set_cons_zero, List.set_cons_succ]
    refine wpAnyH_take (i := 10) (oi := ⟨_, _, _, _, _, _⟩) (v := ?_) rfl (by kernel_rfl) (by kernel_rfl) (by kernel_rfl) (fun _ _ _ h => h) (Or.inl ⟨by rfl, ?_⟩) hHeld ?_
    rotate_left
    · ((intro w hSw; (try dsimp only at hSw); go_simp) <;> with_reducible rfl)
    try simp only [Act.put, List.setIfInBounds_toArray, List.set_cons_zero, List.set_cons_succ]
    refine wpAnyH_ready (rs := [11, 14]) (by kernel_rfl) (by simp) ?_
    refine AllReadyH.cons (o := ⟨_, _, _, _, _, _⟩) rfl (fun KC hK => ?_) ?_
    rotate_left
    refine AllReadyH.cons (o := ⟨_, _, _, _, _, _⟩) rfl (fun KC hK => ?_) ?_
    rotate_left
    · exact AllReadyH.nil
    · go_simp
      go_at_call 49
      (with_reducible refine (CP.out _).mono ?_)
      rintro o w9 ⟨rfl, hww⟩
      rw [hww]
      clear hww w9
      refine hK.out _ _ (by exact HSS.out _ (by first | exact HBs.out | exact HBy.out | exact HB0.out)) (fun hHeld => ?_)
      clear hK KC
      try simp only [Act.put, List.setIfInBounds_toArray, List.set_cons_zero, List.set_cons_succ]
      refine wpAnyH_take (i := 12) (oi := ⟨_, _, _, _, _, _⟩) (v := ?_) rfl (by kernel_rfl) (by kernel_rfl) (by kernel_rfl) (fun _ _ _ h => h) (Or.inl ⟨by rfl, ?_⟩) hHeld ?_
      rotate_left
      · ((intro w hSw; (try dsimp only at hSw); go_simp) <;> with_reducible rfl)
      try simp only [Act.put, List.setIfInBounds_toArray, List.set_cons_zero, List.set_cons_succ]
      refine wpAnyH_take (i := 13) (oi := ⟨_, _, _, _, _, _⟩) (v := ?_) rfl (by kernel_rfl) (by kernel_rfl) (by kernel_rfl) (fun _ _ _ h => h) (Or.inl ⟨by rfl, ?_⟩) hHeld ?_
      rotate_left
      · ((intro w hSw; (try dsimp only at hSw); go_simp) <;> with_reducible rfl)
      try simp only [Act.put, List.setIfInBounds_toArray, List.set_cons_zero, List.set_cons_succ]
      refine wpAnyH_ready (rs := [14]) (by kernel_rfl) (by simp) ?_
      refine AllReadyH.cons (o := ⟨_, _, _, _, _, _⟩) rfl (fun KC hK => ?_) ?_
      rotate_left
      · exact AllReadyH.nil
      go_simp
      obtain ⟨w2, sx, e1, e2, HS2, HBy⟩ := sbox_newD w1
      rw [e1, e2]
      have HSX := Lib.hid e2
      clear e1 e2
      refine hK.out _ _ (by exact HSS.out _ (by first | exact HBs.out | exact HBy.out | exact HB0.out)) (fun hHeld => ?_)
      clear hK KC
      try simp only [Act.put, List.setIfInBounds_toArray, List.set_cons_zero, List.set_cons_succ]
      refine wpAnyH_ready (rs := [15]) (by kernel_rfl) (by simp) ?_
      refine AllReadyH.cons (o := ⟨_, _, _, _, _, _⟩) rfl (fun KC hK => ?_) ?_
      rotate_left
      · exact AllReadyH.nil
      obtain ⟨k0, k1⟩ := sbox_c HS2.out
      have f0 : w2.frozen? ⟨sx, 0, none⟩ = false := frozB HS2.out
      have f1 : w2.frozen? ⟨sx, 1, none⟩ = false := frozB HS2.out
      go_simp
      have HPS : Hid (PsX W ((w2.setCell ⟨sx, 0, none⟩ (.pointer (some ⟨e, 0, none⟩))).setCell ⟨sx, 1, none⟩ (.pointer (some ⟨x, 0, none⟩))) wb b t g0 sx i e x O ne He ne He) := Lib.hid (ps_make HH.out HSY.out HSI.out (by rw [HOO.out]; exact HX.out) HOG.out HS2.out HBy.out (Nat.le_of_eq HSX.out))
      have HBs : Hid (Below w1.heap.size w1 ((w2.setCell ⟨sx, 0, none⟩ (.pointer (some ⟨e, 0, none⟩))).setCell ⟨sx, 1, none⟩ (.pointer (some ⟨x, 0, none⟩)))) := Lib.hid ((HBy.out.setCell (p := ⟨sx, 0, none⟩) (Nat.le_of_eq HSX.out) _).setCell (p := ⟨sx, 1, none⟩) (Nat.le_of_eq HSX.out) _)
      refine hK.out _ _ (by exact HSS.out _ (by first | exact HBs.out | exact HBy.out | exact HB0.out)) (fun hHeld => ?_)
      clear hK KC
      try simp only [Act.put, List.setIfInBounds_toArray, List.set_cons_zero, List.set_cons_succ]
      refine wpAnyH_done (by kernel_rfl) ?_ _
      go_wp2_with fail
      go_meet
      exact ⟨sx, rfl, HPS⟩
    · go_simp
      obtain ⟨w2, sx, e1, e2, HS2, HBy⟩ := sbox_newD w1
      rw [e1, e2]
      have HSX := Lib.hid e2
      clear e1 e2
      refine hK.out _ _ (by exact HSS.out _ (by first | exact HBs.out | exact HBy.out | exact HB0.out)) (fun hHeld => ?_)
      clear hK KC
      try simp only [Act.put, List.setIfInBounds_toArray, List.set_cons_zero, List.set_cons_succ]
      refine wpAnyH_ready (rs := [11]) (by kernel_rfl) (by simp) ?_
      refine AllReadyH.cons (o := ⟨_, _, _, _, _, _⟩) rfl (fun KC hK => ?_) ?_
      rotate_left
      · exact AllReadyH.nil
      go_simp
      go_at_call 49
      (with_reducible refine (CP.out _).mono ?_)
      rintro o w9 ⟨rfl, hww⟩
      rw [hww]
      clear hww w9
      refine hK.out _ _ (by exact HSS.out _ (by first | exact HBs.out | exact HBy.out | exact HB0.out)) (fun hHeld => ?_)
      clear hK KC
      try simp only [Act.put, List.setIfInBounds_toArray, List.set_cons_zero, List.set_cons_succ]
      refine wpAnyH_take (i := 12) (oi := ⟨_, _, _, _, _, _⟩) (v := ?_) rfl (by kernel_rfl) (by kernel_rfl) (by kernel_rfl) (fun _ _ _ h => h) (Or.inl ⟨by rfl, ?_⟩) hHeld ?_
      rotate_left
      · ((intro w hSw; (try dsimp only at hSw); go_simp) <;> with_reducible rfl)
      try simp only [Act.put, List.setIfInBounds_toArray, List.set_cons_zero, List.set_cons_succ]
      refine wpAnyH_take (i := 13) (oi := ⟨_, _, _, _, _, _⟩) (v := ?_) rfl (by kernel_rfl) (by kernel_rfl) (by kernel_rfl) (fun _ _ _ h => h) (Or.inl ⟨by rfl, ?_⟩) hHeld ?_
      rotate_left
      · ((intro w hSw; (try dsimp only at hSw); go_simp) <;> with_reducible rfl)
      try simp only [Act.put, List.setIfInBounds_toArray, List.set_cons_zero, List.set_cons_succ]
      refine wpAnyH_ready (rs := [15]) (by kernel_rfl) (by simp) ?_
      refine AllReadyH.cons (o := ⟨_, _, _, _, _, _⟩) rfl (fun KC hK => ?_) ?_
      rotate_left
      · exact AllReadyH.nil
      obtain ⟨k0, k1⟩ := sbox_c HS2.out
      have f0 : w2.frozen? ⟨sx, 0, none⟩ = false := frozB HS2.out
      have f1 : w2.frozen? ⟨sx, 1, none⟩ = false := frozB HS2.out
      go_simp
      have HPS : Hid (PsX W ((w2.setCell ⟨sx, 0, none⟩ (.pointer (some ⟨e, 0, none⟩))).setCell ⟨sx, 1, none⟩ (.pointer (some ⟨x, 0, none⟩))) wb b t g0 sx i e x O ne He ne He) := Lib.hid (ps_make HH.out HSY.out HSI.out (by rw [HOO.out]; exact HX.out) HOG.out HS2.out HBy.out (Nat.le_of_eq HSX.out))
      have HBs : Hid (Below w1.heap.size w1 ((w2.setCell ⟨sx, 0, none⟩ (.pointer (some ⟨e, 0, none⟩))).setCell ⟨sx, 1, none⟩ (.pointer (some ⟨x, 0, none⟩)))) := Lib.hid ((HBy.out.setCell (p := ⟨sx, 0, none⟩) (Nat.le_of_eq HSX.out) _).setCell (p := ⟨sx, 1, none⟩) (Nat.le_of_eq HSX.out) _)
      refine hK.out _ _ (by exact HSS.out _ (by first | exact HBs.out | exact HBy.out | exact HB0.out)) (fun hHeld => ?_)
      clear hK KC
      try simp only [Act.put, List.setIfInBounds_toArray, List.set_cons_zero, List.set_cons_succ]
      refine wpAnyH_done (by kernel_rfl) ?_ _
      go_wp2_with fail
      go_meet
      exact ⟨sx, rfl, HPS⟩
  case rest =>
    obtain ⟨sx, rfl, HP⟩ := hcut
    clear HSS HSD HNS CP hii hin hz hns6 hi0 hwi HH HX HSI HB0 HOG HW1 HG0
    have HCC : Hid (∀ w' a1 a2 a3 a4, PsX W w' wb b t g0 sx i e x O a1 a2 a3 a4 → w'.cell? ⟨sx, 0, none⟩ = some (.pointer (some ⟨e, 0, none⟩)) ∧ w'.cell? ⟨sx, 1, none⟩ = some (.pointer (some ⟨x, 0, none⟩)) ∧ w'.cell? ⟨g0, 0, none⟩ = some (.int .i64 k) ∧ w'.cell? ⟨g0, 2, none⟩ = some (.int .i64 n) ∧ w'.cell? ⟨g0, 3, none⟩ = some (.int .i64 m) ∧ w'.cell? ⟨g0, 4, none⟩ = some (.string z) ∧ w'.cell? ⟨wb, 1, none⟩ = some (.pointer (some ⟨b, 0, none⟩))) := Lib.hid (fun w' a1 a2 a3 a4 h => by
      obtain ⟨k1, k2, k3, k4⟩ := h.c
      rw [HOO.out] at k3
      exact ⟨k1, k2, k3 0 _ rfl, k3 2 _ rfl, k3 3 _ rfl, k3 4 _ rfl, k4⟩)
    clear HOO
    have CLF : Hid (∀ (c : Int) w', Calls Tryd.prog 48 #[.int .i64 c] w' fun e w'' => e = .returned (.string (leafSU c)) ∧ Below w'.heap.size w' w'') := Lib.hid leafU_any
    obtain ⟨c0, c1, c2, c3, c4, c5, c6⟩ := HCC.out _ _ _ _ _ HP.out
    go_wp2_with fail
    go_ret
    exact ⟨rfl, HP.out.ends.more (Nat.le_add_right _ _)⟩
end Go.Proofs.YtdbghgpohdijfaaDoor
/- Arguments that are slices of structs of one-cell fields. -/
namespace Go.Scr
open Go.ChangeShapes Go.WideShapes Go.Deep
set_option linter.unusedVariables false
section
variable {H : Type} {enc : TypeId × Value → H} {P : Program} {w : World} {base : Nat} {spare : Nat → Bool} {held : Bool}
theorem open_slice_fields {t e : TypeId} {fs : Array Field} {fuel : Nat} {cs : List Value} {x : DataW H × List MemPlace} (ht : P.underlying t = some (.slice e)) (he : P.underlying e = some (.struct fs))
    (ce : P.cellsOf e = fs.size) (ho : ∀ (j : Nat) (f : Field), fs[j]? = some f → f.offset = j ∧ P.cellsOf f.type = 1) (h : DataW.trod enc P w base spare held fuel t cs = some x) :
    (cs = [.slice none 0 0] ∧ x = (.nil, [])) ∨
    ∃ (a : Addr) (len cap n : Nat) (V : Nat → List Value) (Y : Nat → List (DataW H × List MemPlace)) (q : List (DataW H)) (ps : List MemPlace), cs = [.slice (some a) len cap] ∧ len ≤ cap ∧ cap ≤ maxLen ∧
      x = (.slice ((List.range len).map fun i => .agg ((Y i).map (·.1))) q, ps) ∧
      ∀ i, i < len → (Y i).length = fs.size ∧ (V i).length = fs.size ∧ (∀ j v, (V i)[j]? = some v → w.cell? (a.add (i * fs.size + j)) = some v) ∧
        ∀ (j : Nat) (f : Field) (v : Value), fs[j]? = some f → (V i)[j]? = some v → ∃ y, (Y i)[j]? = some y ∧ DataW.trod enc P w base spare held n f.type [v] = some y := by
  rcases open_slice ht h with h0 | ⟨a, len, cap, m, n, D, Pl, rfl, hb, hl, hm, hmm, rfl, hx⟩
  · exact Or.inl h0
  right
  have hlm : len ≤ m := by rw [hmm]; split <;> omega
  have each : ∀ i, i < m → ∃ q : List Value × List (DataW H × List MemPlace), D i = .agg (q.2.map (·.1)) ∧ q.2.length = fs.size ∧ q.1.length = fs.size ∧ (∀ j v, q.1[j]? = some v → w.cell? (a.add (i * fs.size + j)) = some v) ∧
        ∀ (j : Nat) (f : Field) (v : Value), fs[j]? = some f → q.1[j]? = some v → ∃ y, q.2[j]? = some y ∧ DataW.trod enc P w base spare held (n - 1) f.type [v] = some y := by
    intro i hi
    obtain ⟨cs', h1, h2⟩ := hx i hi
    rw [ce] at h1
    obtain ⟨_, hlen, hcell⟩ := World.cells?_some h1
    obtain ⟨xs, k, hk, hxy, _, hxl, hf⟩ := DataW.trod_struct he h2
    have hk' : k = n - 1 := by omega
    subst hk'
    simp only [Prod.mk.injEq] at hxy
    refine ⟨(cs', xs), hxy.1, hxl, hlen, fun j v hv => ?_, fun j f v hj hv => ?_⟩
    · have hj0 : j < cs'.length := (List.getElem?_eq_some_iff.mp hv).1
      have hj : j < fs.size := by omega
      have := hcell j hj
      rw [add_add] at this
      rw [this]; exact hv
    · have hjs : j < fs.size := (Array.getElem?_eq_some_iff.mp hj).1
      obtain ⟨o1, o2⟩ := ho j f hj
      have := hf j f hj
      rw [o1, o2] at this
      obtain ⟨hjl, rfl⟩ := List.getElem?_eq_some_iff.mp hv
      have e : (cs'.drop j).take 1 = [cs'[j]] := by
        rw [List.drop_eq_getElem_cons hjl]
        rfl
      rw [e] at this
      rw [List.getElem?_eq_getElem (by omega : j < xs.length)] at this
      exact ⟨xs[j]'(by omega), List.getElem?_eq_getElem _, this⟩
  have : Inhabited (List Value × List (DataW H × List MemPlace)) := ⟨([], [])⟩
  obtain ⟨q, hq⟩ := choose_lt each
  have e : (List.range len).map D = (List.range len).map fun i => DataW.agg ((q i).2.map (·.1)) :=
    List.map_congr_left fun i hi => (hq i (by have := List.mem_range.1 hi; omega)).1
  rw [e]
  exact ⟨a, len, cap, n - 1, fun i => (q i).1, fun i => (q i).2, _, _, rfl, hl, hm, rfl, fun i hi => (hq i (by omega)).2⟩
end
end Go.Scr
/- A script of FrontPlays' steps, as an argument: each step holds a list of its own. -/
namespace Go.Proofs.YtdbghgpohdijfaaDoor
open Go.ChangeShapes Go.WideShapes Go.ChangeAt Go.RowKit Go.Scr Go.Deep
set_option linter.unusedVariables false
/-- one step -/
structure OpF where
  k : Int
  on : Int
  n : Int
  m : Int
  s : ByteArray
  lv : Value
  ll : List ByteArray
instance : Inhabited OpF := ⟨⟨0, 0, 0, 0, ⟨#[]⟩, .slice none 0 0, []⟩⟩
def i64Ok (z : Int) : Prop := -9223372036854775808 ≤ z ∧ z ≤ 9223372036854775807
def OpsF (w : World) (v : Value) (L : List OpF) : Prop :=
  ∃ (p : Option Addr) (c : Nat), v = .slice p L.length c ∧ L.length ≤ c ∧ L.length ≤ 281474976710656 ∧ ∀ (i : Nat) (q : OpF), L[i]? = some q →
    (i64Ok q.k ∧ i64Ok q.on ∧ i64Ok q.n ∧ i64Ok q.m) ∧ Txts w q.lv q.ll ∧ q.ll.length ≤ 1048576 ∧
      ∃ a, p = some a ∧ w.cell? (a.add (i * 6)) = some (.int .i64 q.k) ∧ w.cell? (a.add (i * 6 + 1)) = some (.int .i64 q.on) ∧ w.cell? (a.add (i * 6 + 2)) = some (.int .i64 q.n) ∧ w.cell? (a.add (i * 6 + 3)) = some (.int .i64 q.m) ∧ w.cell? (a.add (i * 6 + 4)) = some (.string q.s) ∧ w.cell? (a.add (i * 6 + 5)) = some q.lv
theorem list6F {α : Type} {l : List α} (h : l.length = 6) : ∃ a b c d e f, l = [a, b, c, d, e, f] := by
  match l, h with
  | [a, b, c, d, e, f], _ => exact ⟨a, b, c, d, e, f, rfl⟩
theorem bulk_memF {H : Type} {l : List (DataW H)} {d : DataW H} (h : d ∈ l) : Rows.uptoBulk d ≤ Rows.uptoBulkAll l := by
  induction l with
  | nil => cases h
  | cons x l ih =>
    simp only [Rows.uptoBulkAll]
    rcases List.mem_cons.mp h with rfl | h
    · omega
    · have := ih h; omega
theorem bulk_aggF {H : Type} {l : List (DataW H)} {d : DataW H} (h : d ∈ l) : Rows.uptoBulk d ≤ Rows.uptoBulk (.agg l) := by
  have := bulk_memF h
  simp only [Rows.uptoBulk]
  omega
theorem choose_ltF {α : Type} [Inhabited α] {P : Nat → α → Prop} {n : Nat} (h : ∀ i, i < n → ∃ x, P i x) : ∃ f : Nat → α, ∀ i, i < n → P i (f i) := by
  refine ⟨fun i => if hi : i < n then Classical.choose (h i hi) else default, fun i hi => ?_⟩
  simp only [dif_pos hi]
  exact Classical.choose_spec (h i hi)
section
variable {H : Type} {enc : TypeId × Value → H} {W : World} {base b0 : Nat} {sp : Nat → Bool} {held : Bool}
set_option maxRecDepth 100000 in
theorem txts_trod {v2 : Value} {y2 : DataW H × List MemPlace} {n : Nat} (h2 : DataW.trod enc Tryd.prog W base sp held n 22 [v2] = some y2) (hb3 : Rows.uptoBulk y2.1 ≤ 1048576) : ∃ L, Txts W v2 L ∧ L.length ≤ 1048576 := by
  obtain ⟨a, l, c, hs⟩ := Go.Joins.slice_form Tryd.underlying22 h2
  injection hs with hs _
  subst hs
  rcases open_strings Tryd.underlying22 (show Tryd.prog.underlying 9 = some .string by kernel_rfl) (by kernel_rfl) h2 with ⟨hcs, hx⟩ | ⟨a', len, cap, zs, hcs, _, hl, hm, hz, hx, hcell, hw⟩
  · simp at hcs
    obtain ⟨rfl, rfl, rfl⟩ := hcs
    exact ⟨[], ⟨none, 0, rfl, Nat.le_refl _, by simp, fun j z h => by simp at h⟩, by simp⟩
  · simp at hcs
    obtain ⟨rfl, rfl, rfl⟩ := hcs
    obtain ⟨yd, yp⟩ := y2
    simp only [Prod.mk.injEq] at hx
    simp only at hb3
    have hlen : l ≤ zs.length := by rw [hz]; split <;> omega
    have hl2 : (zs.take l).length = l := by rw [List.length_take]; omega
    have hbb : l + (cat (zs.take l)).length ≤ Rows.uptoBulk yd := by
      rw [hx.1]
      have h1 := bulk_elems (strs (H := H) (zs.take l)) (strs (zs.drop l))
      rw [bulk_strs] at h1
      omega
    refine ⟨zs.take l, ⟨some a', c, by rw [hl2], by omega, by omega, fun j z hj => ?_⟩, by omega⟩
    obtain ⟨hj1, rfl⟩ := List.getElem?_eq_some_iff.mp hj
    refine ⟨a', rfl, ?_⟩
    rw [hcell j (by omega), List.getElem_take, List.getD_eq_getElem?_getD, List.getElem?_eq_getElem (by omega)]
    rfl
set_option maxRecDepth 100000 in
theorem arg_opsF {t e : TypeId} {f0 f1 f2 f3 f4 f5 : Field} {v : Value} {d : DataW H} {ps : List MemPlace} (ht : Tryd.prog.underlying t = some (.slice e)) (he : Tryd.prog.underlying e = some (.struct #[f0, f1, f2, f3, f4, f5])) (hone : oneCellFields Tryd.prog #[f0, f1, f2, f3, f4, f5] = true) (hC : Tryd.prog.cellsOf e = 6)
    (t0 : Tryd.prog.underlying f0.type = some (.int .i64)) (t1 : Tryd.prog.underlying f1.type = some (.int .i64)) (t2 : Tryd.prog.underlying f2.type = some (.int .i64)) (t3 : Tryd.prog.underlying f3.type = some (.int .i64)) (t4 : Tryd.prog.underlying f4.type = some .string) (t5 : f5.type = 22)
    (hval : Value.okWide Tryd.prog W .any b0 t v) (h : DataW.Trod enc Tryd.prog W base sp held t v d ps) (hb : Rows.uptoBulk d ≤ 1048576) : ∃ L, OpsF W v L := by
  obtain ⟨p0, n0, c0, rfl⟩ := okWide_slice ht hval
  obtain ⟨fuel, hf⟩ := h
  rcases open_slice_fields ht he hC (hone_of hone) hf with ⟨hcs, hx⟩ | ⟨a, len, cap, m, V, Y, q, ps', hcs, hl, hm, hx, hall⟩
  · simp [Value.cells] at hcs
    obtain ⟨rfl, rfl, rfl⟩ := hcs
    exact ⟨[], ⟨none, 0, rfl, Nat.le_refl _, by simp, fun i q h => by simp at h⟩⟩
  · simp [Value.cells] at hcs
    obtain ⟨rfl, rfl, rfl⟩ := hcs
    simp only [Prod.mk.injEq] at hx
    have hin : ∀ i, i < n0 → ∀ y ∈ (Y i).map (·.1), Rows.uptoBulk y ≤ 1048576 := by
      intro i hi y hy
      have h1 := bulk_aggF hy
      have h2 := bulk_memF (l := (List.range n0).map fun i => DataW.agg ((Y i).map (·.1))) (List.mem_map_of_mem (List.mem_range.mpr hi))
      have h3 := bulk_elems (H := H) ((List.range n0).map fun i => .agg ((Y i).map (·.1))) q
      rw [hx.1] at hb
      omega
    have hn0 : n0 ≤ 1048576 := by
      have h3 := bulk_elems (H := H) ((List.range n0).map fun i => .agg ((Y i).map (·.1))) q
      have h4 := bulk_length ((List.range n0).map fun i => DataW.agg ((Y i).map (·.1)))
      rw [hx.1] at hb
      simp at h4
      omega
    have each : ∀ i, i < n0 → ∃ r : OpF, (i64Ok r.k ∧ i64Ok r.on ∧ i64Ok r.n ∧ i64Ok r.m) ∧ Txts W r.lv r.ll ∧ r.ll.length ≤ 1048576 ∧
        W.cell? (a.add (i * 6)) = some (.int .i64 r.k) ∧ W.cell? (a.add (i * 6 + 1)) = some (.int .i64 r.on) ∧ W.cell? (a.add (i * 6 + 2)) = some (.int .i64 r.n) ∧ W.cell? (a.add (i * 6 + 3)) = some (.int .i64 r.m) ∧ W.cell? (a.add (i * 6 + 4)) = some (.string r.s) ∧ W.cell? (a.add (i * 6 + 5)) = some r.lv := by
      intro i hi
      obtain ⟨hY, hV, hcell, hf⟩ := hall i hi
      have hY6 : (Y i).length = 6 := hY
      have hV6 : (V i).length = 6 := hV
      have hbi := hin i hi
      obtain ⟨y0, y1, y2, y3, y4, y5, hYe⟩ := list6F hY6
      obtain ⟨u0, u1, u2, u3, u4, u5, hVe⟩ := list6F hV6
      rw [hYe, hVe] at hf
      rw [hVe] at hcell
      rw [hYe] at hbi
      obtain ⟨z0, hz0, g0⟩ := hf 0 f0 u0 rfl rfl
      obtain ⟨z1, hz1, g1⟩ := hf 1 f1 u1 rfl rfl
      obtain ⟨z2, hz2, g2⟩ := hf 2 f2 u2 rfl rfl
      obtain ⟨z3, hz3, g3⟩ := hf 3 f3 u3 rfl rfl
      obtain ⟨z4, hz4, g4⟩ := hf 4 f4 u4 rfl rfl
      obtain ⟨z5, hz5, g5⟩ := hf 5 f5 u5 rfl rfl
      cases hz0; cases hz1; cases hz2; cases hz3; cases hz4; cases hz5
      obtain ⟨k0, hk0, rfl, w0⟩ := DataW.trod_int t0 g0
      obtain ⟨k1, hk1, rfl, w1⟩ := DataW.trod_int t1 g1
      obtain ⟨k2, hk2, rfl, w2⟩ := DataW.trod_int t2 g2
      obtain ⟨k3, hk3, rfl, w3⟩ := DataW.trod_int t3 g3
      obtain ⟨s, hs, rfl, w4⟩ := DataW.trod_string t4 g4
      cases hk0; cases hk1; cases hk2; cases hk3; cases hs
      rw [t5] at g5
      obtain ⟨L5, hL5, hN5⟩ := txts_trod g5 (hbi y5.1 (by simp))
      simp only [Lit.wf, Bool.and_eq_true, decide_eq_true_eq] at w0 w1 w2 w3
      exact ⟨⟨k0, k1, k2, k3, s, u5, L5⟩, ⟨w0, w1, w2, w3⟩, hL5, hN5, hcell 0 _ rfl, hcell 1 _ rfl, hcell 2 _ rfl, hcell 3 _ rfl, hcell 4 _ rfl, hcell 5 _ rfl⟩
    obtain ⟨r, hr⟩ := choose_ltF each
    have hlen : ((List.range n0).map r).length = n0 := by simp
    refine ⟨(List.range n0).map r, ⟨some a, c0, by rw [hlen], by omega, by omega, fun i qq hi => ?_⟩⟩
    rw [List.getElem?_map] at hi
    obtain ⟨j, hj, he⟩ := Option.map_eq_some_iff.mp hi
    obtain ⟨hj1, hj2⟩ := List.getElem?_eq_some_iff.mp hj
    rw [List.getElem_range] at hj2
    subst hj2
    obtain ⟨b1, b2, b3, b4, b5, b6, b7, b8, b9⟩ := hr i (by simpa using hj1)
    rw [he] at b1 b2 b3 b4 b5 b6 b7 b8 b9
    exact ⟨b1, b2, b3, a, rfl, b4, b5, b6, b7, b8, b9⟩
end
end Go.Proofs.YtdbghgpohdijfaaDoor
/- FrontPlays, walked. -/
namespace Go.Proofs.YtdbghgpohdijfaaDoor
open Go.RowKit Go.Scr Bk5 Go.ChangeMaps Go.MapKept
set_option linter.unusedVariables false
theorem play_any {W w : World} {wb b t ln c : Nat} {p : Option Addr} {k on n m : Int} {z : ByteArray} {L : List ByteArray} (hB : Bas W W.heap.size) (h : PlK W w wb b t) (hv : Txts W (.slice p ln c) L) (hll : L.length ≤ 1048576) (hon : i64Ok on) (hn : i64Ok n) (hm : i64Ok m) (ht : t ≤ 900) :
    Calls Tryd.prog 22 #[.pointer (some ⟨wb, 0, none⟩), .agg #[.int .i64 k, .int .i64 on, .int .i64 n, .int .i64 m, .string z, .slice p ln c]] w fun o w' => o = .returned (.bool true) ∧ PlK W w' wb b (t + 2) := by
  by_cases k1 : k = 1
  · subst k1; exact play_new hB h hv hll hon hn hm ht
  by_cases k2 : k = 2
  · subst k2; exact play_load hB h hv hll hon hn hm ht
  by_cases k3 : k = 3
  · subst k3; exact play_great hB h hv hll hon hn hm ht
  by_cases k4 : k = 4
  · subst k4; exact play_4 hB h hv hll hon hn hm ht
  by_cases k5 : k = 5
  · subst k5; exact play_5 hB h hv hll hon hn hm ht
  by_cases k6 : k = 6
  · subst k6; exact play_6 hB h hv hll hon hn hm ht
  by_cases k7 : k = 7
  · subst k7; exact play_7 hB h hv hll hon hn hm ht
  by_cases k8 : k = 8
  · subst k8; exact play_8 hB h hv hll hon hn hm ht
  by_cases k9 : k = 9
  · subst k9; exact play_9 hB h hv hll hon hn hm ht
  by_cases k10 : k = 10
  · subst k10; exact play_10 hB h hv hll hon hn hm ht
  exact play_other hB h hv hll hon hn hm ht (fun j h1 h2 => by omega)
/-- the new world: no sides, a new book -/
theorem pl_begin {W w : World} (hb : Below W.heap.size W w) : PlK W ((w.alloc (.cells #[.slice none 0 0, .slice none 0 0, .slice none 0 0, .slice none 0 0, .slice none 0 0] 48)).alloc (.cells #[.slice none 0 0, .pointer (some ⟨w.heap.size, 0, none⟩), .slice none 0 0] 51)) (w.heap.size + 1) w.heap.size 0 := by
  obtain ⟨w1, hw1⟩ : ∃ x, x = w.alloc (.cells #[.slice none 0 0, .slice none 0 0, .slice none 0 0, .slice none 0 0, .slice none 0 0] 48) := ⟨_, rfl⟩
  have hs1 : w1.heap.size = w.heap.size + 1 := by rw [hw1]; simp
  have hbk : BkX W w1 w.heap.size (fun i => if i = w.heap.size then 1 else 0) 0 := by rw [hw1]; exact BkX.begin W w hb
  have hb1 : Below w.heap.size w w1 := by rw [hw1]; exact (Below.refl _ _).alloc (Nat.le_refl _) _
  rw [← hw1, ← hs1]
  obtain ⟨w2, hw2⟩ : ∃ x, x = w1.alloc (.cells #[.slice none 0 0, .pointer (some ⟨w.heap.size, 0, none⟩), .slice none 0 0] 51) := ⟨_, rfl⟩
  have hx : w2.heap[w1.heap.size]? = some (.cells #[.slice none 0 0, .pointer (some ⟨w.heap.size, 0, none⟩), .slice none 0 0] 51 (0, 0)) := by rw [hw2]; exact heap_alloc_new w1 _
  have hb2 : Below w1.heap.size w1 w2 := by rw [hw2]; exact (Below.refl _ _).alloc (Nat.le_refl _) _
  have hs2 : w2.heap.size = w1.heap.size + 1 := by rw [hw2]; simp
  rw [← hw2]
  have hW := hb.size
  refine ⟨fun i => if i = w.heap.size then 1 else 0, fun i => if i = w.heap.size then 1 else if i = w1.heap.size then 2 else 0, [], .slice none 0 0, .slice none 0 0, [], ⟨below_from hb (below_from hb1 hb2 hb1.size) hW, fun _ => ?_, fun _ g hg => ?_, fun g hg => ?_, fun _ => hx, ?_, fun _ => ⟨rfl, .inl ⟨rfl, rfl⟩⟩, (fun _ g hg => nomatch hg), fun _ => .inl ⟨rfl, rfl⟩, (fun _ g hg => nomatch hg), (fun i s hs => by simp at hs), (fun i s hs => by simp at hs), by simp, by simp⟩, (fun s hs => by simp at hs)⟩
  · obtain ⟨V, fr, wl, ls, gr, h⟩ := hbk
    exact ⟨V, fr, wl, ls, gr, h.below hb2⟩
  · by_cases e : g = w.heap.size
    · show (if _ then _ else _) = _
      rw [if_pos e]
    · rw [if_neg e] at hg; exact absurd rfl hg
  · by_cases e : g = w.heap.size
    · omega
    · by_cases e2 : g = w1.heap.size
      · omega
      · exfalso
        apply hg
        show (if _ then _ else _) = _
        rw [if_neg e, if_neg e2]
  · show (if _ then _ else _) = _
    rw [if_neg (by omega), if_pos rfl]
theorem PlK.still {W w : World} {wb b t : Nat} (h : PlK W w wb b t) (ht : t ≤ 900) :
    w.cell? ⟨wb, 1, none⟩ = some (.pointer (some ⟨b, 0, none⟩)) ∧ Calls Tryd.prog 23 #[.pointer (some ⟨b, 0, none⟩)] w fun e w' => e = .returned (.bool true) ∧ PlK W w' wb b t := by
  obtain ⟨col, oc, S, sv, hv, hl, h, hS⟩ := h
  refine ⟨cellB (h.wx id) rfl, ((h.bk id).still (by omega) h.bl.size).mono fun e w' ⟨h1, col', h2, h3⟩ => ⟨h1, ?_⟩⟩
  obtain ⟨oc', p, _⟩ := h.book h2 h3
  exact ⟨col', oc', S, sv, hv, hl, p, hS⟩
theorem addF (a : Addr) (k j : Nat) : a.add (k + j) = (a.add k).add j := by
  unfold Addr.add
  split <;> split <;> split <;> simp_all <;> omega
set_option maxRecDepth 100000 in
set_option maxHeartbeats 16000000 in
theorem frontplays_any {W : World} {v : Value} {L : List OpF} (hB : Bas W W.heap.size) (hv : OpsF W v L) :
    Calls Tryd.prog 6 #[v] W fun o w' => o = .returned (.bool true) ∧ Below W.heap.size W w' := by
  obtain ⟨p, c, rfl, hc1, hc2, hat⟩ := hv
  obtain ⟨n, hn⟩ : ∃ n, n = L.length := ⟨_, rfl⟩
  rw [← hn] at hc1 hc2 ⊢
  have HAT := Lib.hid hat
  have HN := Lib.hid hn
  have CK := Lib.hid (known5_any hB)
  have HBAS := Lib.hid hB
  clear hat hn hB
  go_enter Tryd.func6, Tryd.ntmps6
  go_upto_region 4 with (go_at_call 21; (with_reducible refine (CK.out).mono ?_); rintro o w1 ⟨rfl, h⟩; have HB1 := Lib.hid h; clear h)
  clear CK
  have hbeg := pl_begin HB1.out
  go_upto_region 5 with fail
  change Code.wp _ _ _ _ ((w1.alloc (.cells #[.slice none 0 0, .slice none 0 0, .slice none 0 0, .slice none 0 0, .slice none 0 0] 48)).alloc (.cells #[.slice none 0 0, .pointer (some ⟨w1.heap.size, 0, none⟩), .slice none 0 0] 51))
  generalize (w1.alloc (.cells #[.slice none 0 0, .slice none 0 0, .slice none 0 0, .slice none 0 0, .slice none 0 0] 48)).alloc (.cells #[.slice none 0 0, .pointer (some ⟨w1.heap.size, 0, none⟩), .slice none 0 0] 51) = w2 at hbeg ⊢
  obtain ⟨b, hb⟩ : ∃ b, b = w1.heap.size := ⟨_, rfl⟩
  obtain ⟨wb, hwb⟩ : ∃ b, b = w1.heap.size + 1 := ⟨_, rfl⟩
  rw [← hwb, ← hb] at hbeg
  rw [← hwb]
  have HBEG := Lib.hid hbeg
  clear hbeg hb hwb HB1
  go_wp2_with fail
  go_loopw [5, 6, 7] (fun q _ _ wr => ∃ i : Nat, i ≤ n ∧ i ≤ 80 ∧ q = .int .i64 (i : Int) ∧ Hid (PlK W wr wb b (2 * i))) (fun q _ _ _ => n - (intOf q).toNat)
  case atStart => exact ⟨0, Nat.zero_le _, Nat.zero_le _, rfl, HBEG⟩
  case round =>
    clear HBEG
    obtain ⟨i, hi, hi80, rfl, HP⟩ := hrel
    by_cases hlt : i < n ∧ i < 80
    · have hii : (i : Int) < (n : Int) := by omega
      have hi8 : (i : Int) < 80 := by omega
      have hi0 : (0 : Int) ≤ (i : Int) := by omega
      obtain ⟨⟨kd, on, m1, m2, zs, lv, ll⟩, hq⟩ : ∃ s, L[i]? = some s := ⟨L[i]'(by rw [← HN.out]; exact hlt.1), List.getElem?_eq_getElem _⟩
      obtain ⟨⟨_, b1, b2, b3⟩, htx, hll, a, rfl, hc0, hc1', hc2', hc3, hc4, hc5⟩ := HAT.out i _ hq
      obtain ⟨pl, cl, rfl⟩ : ∃ pl cl, lv = .slice pl ll.length cl := by obtain ⟨pl, cl, e, _⟩ := htx; exact ⟨pl, cl, e⟩
      obtain ⟨ln, hln⟩ : ∃ ln, ln = ll.length := ⟨_, rfl⟩
      have CPL : Hid (∀ w', PlK W w' wb b (2 * i) → Calls Tryd.prog 22 #[.pointer (some ⟨wb, 0, none⟩), .agg #[.int .i64 kd, .int .i64 on, .int .i64 m1, .int .i64 m2, .string zs, .slice pl ln cl]] w' fun o w'' => o = .returned (.bool true) ∧ PlK W w'' wb b (2 * i + 2)) := Lib.hid (fun w' h => by rw [hln]; exact play_any HBAS.out h htx hll b1 b2 b3 (by omega))
      have hbl : ∀ {a u}, W.cell? a = some u → wr.cell? a = some u := fun h => by
        obtain ⟨_, _, _, _, _, _, h9, _⟩ := HP.out
        exact (h9.bl.cell (block_lt_of_cell h)).trans h
      rw [addF] at hc1' hc2' hc3 hc4 hc5
      have d0 := hbl hc0
      have d1 : wr.cell? ⟨(a.add (i * 6)).block, (a.add (i * 6)).off + 1, none⟩ = some (.int .i64 on) := hbl hc1'
      have d2 : wr.cell? ⟨(a.add (i * 6)).block, (a.add (i * 6)).off + 2, none⟩ = some (.int .i64 m1) := hbl hc2'
      have d3 : wr.cell? ⟨(a.add (i * 6)).block, (a.add (i * 6)).off + 3, none⟩ = some (.int .i64 m2) := hbl hc3
      have d4 : wr.cell? ⟨(a.add (i * 6)).block, (a.add (i * 6)).off + 4, none⟩ = some (.string zs) := hbl hc4
      have d5 : wr.cell? ⟨(a.add (i * 6)).block, (a.add (i * 6)).off + 5, none⟩ = some (.slice pl ln cl) := by rw [hln]; exact hbl hc5
      clear hq htx hll hc0 hc1' hc2' hc3 hc4 hc5 hbl b1 b2 b3 hln
      have HLT := Lib.hid hlt
      clear hlt
      by_cases h3 : i % 3 = 2
      · have e3 : (i : Int).tmod 3 = 2 := by rw [Int.tmod_eq_emod_of_nonneg hi0]; omega
        go_upto_region 12 with (go_at_call 22; (with_reducible refine (CPL.out _ HP.out).mono ?_); rintro o w4 ⟨rfl, h⟩; have HP4 := Lib.hid h; clear h)
        clear d0 d1 d2 d3 d4 d5
        obtain ⟨k1, k2⟩ := HP4.out.still (by omega)
        have CS := Lib.hid k2
        clear k2
        go_wp2_with (go_at_call 23; (with_reducible refine (CS.out).mono ?_); rintro o w5 ⟨rfl, h⟩; have HP5 := Lib.hid h; clear h)
        exact ⟨⟨i + 1, by have := HLT.out; omega, by have := HLT.out; omega, by simp, HP5⟩, by show n - ((i : Int) + 1).toNat < n - (i : Int).toNat; have := HLT.out; omega⟩
      · have e3 : ∃ r : Int, (i : Int).tmod 3 = r ∧ (r == 2) = false ∧ ¬ r = 2 := ⟨_, rfl, by rw [Int.tmod_eq_emod_of_nonneg hi0, beq_eq_false_iff_ne]; omega, by rw [Int.tmod_eq_emod_of_nonneg hi0]; omega⟩
        obtain ⟨r, e3, e4, e5⟩ := e3
        go_wp2_with (go_at_call 22; (with_reducible refine (CPL.out _ HP.out).mono ?_); rintro o w4 ⟨rfl, h⟩; have HP4 := Lib.hid h; clear h)
        exact ⟨⟨i + 1, by have := HLT.out; omega, by have := HLT.out; omega, by simp, HP4⟩, by show n - ((i : Int) + 1).toNat < n - (i : Int).toNat; have := HLT.out; omega⟩
    · have hend : ¬ (i : Int) < (n : Int) ∨ ((i : Int) < (n : Int) ∧ ¬ (i : Int) < 80) := by omega
      obtain ⟨col, oc, S, sv, hv0, hl, hpl, hS⟩ := HP.out
      obtain ⟨ns, hns⟩ : ∃ x, x = S.length := ⟨_, rfl⟩
      have hsd := hpl.sd id
      rw [← hns] at hsd
      obtain ⟨ps, cs, rfl, _⟩ := hsd.cells
      have HPL := Lib.hid hpl
      have HSY := Lib.hid hS
      have HSD := Lib.hid hsd
      have HNS := Lib.hid hns
      have hns6 : ns ≤ 6 := by rw [hns]; exact hpl.sl
      have HI := Lib.hid hi80
      clear hlt hpl hS hsd hns HP hi80
      obtain ⟨w8, hw8⟩ : ∃ z, z = wr := ⟨_, rfl⟩
      have HPL : Hid (PlJ noC W w8 wb b col oc S (.slice ps ns cs) hv0 hl (2 * i)) := Lib.hid (by rw [hw8]; exact HPL.out)
      have HSD : Hid (Held w8 58 2 (.slice ps ns cs) ns (sdV S)) := Lib.hid (by rw [hw8]; exact HSD.out)
      have HB8 : Hid (Below w8.heap.size w8 wr) := Lib.hid (by rw [hw8]; exact Below.refl _ _)
      clear hw8
      rcases hend with q1 | ⟨q1, q2⟩
      · go_wp2_with fail
        go_loopw [8, 9, 10] (fun q _ _ wr => ∃ j : Nat, j ≤ ns ∧ q = .int .i64 (j : Int) ∧ Hid (Below w8.heap.size w8 wr)) (fun q _ _ _ => ns - (intOf q).toNat)
        case atStart => exact ⟨0, Nat.zero_le _, rfl, HB8⟩
        case round =>
          clear HB8
          obtain ⟨j, hj, rfl, HBR⟩ := hrel
          have c0 : wr.cell? ⟨wb, 0, none⟩ = some (.slice ps ns cs) := cellB ((HPL.out.below HBR.out).wx id) rfl
          by_cases hjn : j < ns
          · have hjj : (j : Int) < (ns : Int) := by omega
            have hj0 : (0 : Int) ≤ (j : Int) := by omega
            have hwj : IntKind.i64.wrap (j : Int) = (j : Int) := wrap_i64_id _ (by omega) (by omega)
            obtain ⟨s, hs⟩ : ∃ s, S[j]? = some s := ⟨S[j]'(by rw [← HNS.out]; exact hjn), List.getElem?_eq_getElem _⟩
            obtain ⟨sb, rfl⟩ : ∃ sb, ps = some ⟨sb, 0, none⟩ := by
              rcases HSD.out.2 with ⟨e, e2⟩ | ⟨g, cap, cur, e, _⟩
              · omega
              · injection e with e1 _ _; exact ⟨g, e1⟩
            obtain ⟨⟨e, ne, He, x, mx, Kx⟩, hse⟩ : ∃ s', s' = s := ⟨_, rfl⟩
            subst hse
            obtain ⟨rfl, rfl⟩ : ne = mx ∧ He = Kx := HSY.out _ (List.mem_of_getElem? hs)
            have HSS : Hid (∀ w', Below w8.heap.size w8 w' → w'.cell? ⟨wb, 0, none⟩ = some (.slice (some ⟨sb, 0, none⟩) ns cs) ∧ w'.cell? ⟨sb, j * 2, none⟩ = some (.pointer (some ⟨e, 0, none⟩)) ∧ w'.cell? ⟨sb, j * 2 + 1, none⟩ = some (.pointer (some ⟨x, 0, none⟩))) := Lib.hid (fun w' hb => by
              obtain ⟨k1, k2⟩ := sdV_get hs
              obtain ⟨p', c', e1, _, _, hc⟩ := (HSD.out.below hb).cells
              injection e1 with e1 _ _
              have hadd : ∀ j, (⟨sb, 0, none⟩ : Addr).add j = ⟨sb, j, none⟩ := fun j => by unfold Addr.add; split <;> simp_all
              obtain ⟨a1, ha1, _, hc1⟩ := hc _ _ k1
              obtain ⟨a2, ha2, _, hc2⟩ := hc _ _ k2
              rw [← e1] at ha1 ha2
              obtain rfl := Option.some.inj ha1
              obtain rfl := Option.some.inj ha2
              rw [hadd] at hc1 hc2
              exact ⟨cellB ((HPL.out.below hb).wx id) rfl, hc1, hc2⟩)
            obtain ⟨ve, e1, _⟩ := HPL.out.ed j _ hs id
            obtain ⟨vx, x1, _⟩ := HPL.out.xd j _ hs id
            have e1 : EwI w8 e ne He ve := e1
            have x1 : EdX w8 x ne He vx := x1
            have hl80 := e1.ok.l80
            obtain ⟨nh, hnh⟩ : ∃ y, y = He.length := ⟨_, rfl⟩
            obtain ⟨rr, hrr⟩ : ∃ y, y = rootF He := ⟨_, rfl⟩
            have hst := text5_same rr
            have CNE : Hid (∀ w', Below w8.heap.size w8 w' → Calls Tryd.prog 24 #[.pointer (some ⟨e, 0, none⟩)] w' fun o w'' => ∃ p c, o = .returned (.slice p nh c) ∧ LfI w' w'' (.slice p nh c) nh He) := Lib.hid (fun w' h => by rw [hnh]; exact ewnodes_any (e1.below h))
            have CNX : Hid (∀ w', Below w8.heap.size w8 w' → Calls Tryd.prog 26 #[.pointer (some ⟨x, 0, none⟩)] w' fun o w'' => ∃ p c, o = .returned (.slice p nh c) ∧ LfI w' w'' (.slice p nh c) nh He) := Lib.hid (fun w' h => by rw [hnh]; exact xwnodes_any (x1.below h) hl80)
            have CSM : Hid (∀ w' p1 q1 p2 q2, Held w' 9 1 (.slice p1 nh q1) nh (He.map Value.string) → Held w' 9 1 (.slice p2 nh q2) nh (He.map Value.string) → Calls Tryd.prog 25 #[.slice p1 nh q1, .slice p2 nh q2] w' fun o w'' => o = .returned (.bool true) ∧ Below w'.heap.size w' w'') := Lib.hid (fun w' p1 q1 p2 q2 h1 h2 => same_self (same5_any _ _ He He w' (held_txts5 h1 hnh (by omega)) (held_txts5 h2 hnh (by omega)) (by omega) (by omega)))
            have CRE : Hid (∀ w', Below w8.heap.size w8 w' → Calls Tryd.prog 27 #[.pointer (some ⟨e, 0, none⟩)] w' fun o w'' => o = .returned (.string rr) ∧ Below w'.heap.size w' w'') := Lib.hid (fun w' h => by rw [hrr]; exact ewroot_any (e1.below h) (HBAS.out.below (HPL.out.below h).bl).tabs)
            have CRX : Hid (∀ w', Below w8.heap.size w8 w' → Calls Tryd.prog 28 #[.pointer (some ⟨x, 0, none⟩)] w' fun o w'' => o = .returned (.string rr) ∧ Below w'.heap.size w' w'') := Lib.hid (fun w' h => by rw [hrr]; exact xwroot_any (x1.below h) hl80)
            obtain ⟨k0, k1, k2⟩ := HSS.out wr HBR.out
            have HJN := Lib.hid hjn
            clear hs e1 x1 hl80 hnh hrr c0 hjn
            go_upto_region 19 with (go_at_call 24; (with_reducible refine (CNE.out _ HBR.out).mono ?_); rintro o w4 ⟨p4, q4, rfl, h⟩; have HL4 := Lib.hid h; have HB4 : Hid (Below w8.heap.size w8 w4) := Lib.hid (below_from HBR.out h.b HBR.out.size); clear h)
            clear k0 k1 k2
            obtain ⟨k0, k1, k2⟩ := HSS.out w4 HB4.out
            go_upto_region 20 with (first
              | (go_at_call 26; (with_reducible refine (CNX.out _ HB4.out).mono ?_); rintro o w5 ⟨p5, q5, rfl, h⟩; have HL5 := Lib.hid h; have HB5 : Hid (Below w8.heap.size w8 w5) := Lib.hid (below_from HB4.out h.b HB4.out.size); clear h)
              | (go_at_call 25; (with_reducible refine (CSM.out _ _ _ _ _ (HL4.out.h.below HL5.out.b) HL5.out.h).mono ?_); rintro o w6 ⟨rfl, h⟩; have HB6 : Hid (Below w8.heap.size w8 w6) := Lib.hid (below_from HB5.out h HB5.out.size); clear h))
            clear k0 k1 k2
            have HQ0 : Hid (Below w8.heap.size w8 w6.drew) := Lib.hid HB6.out.drew
            go_region_held3 (fun w' => w'.cell? ⟨wb, 0, none⟩ = some (.slice (some ⟨sb, 0, none⟩) ns cs) ∧ w'.cell? ⟨sb, j * 2, none⟩ = some (.pointer (some ⟨e, 0, none⟩)) ∧ w'.cell? ⟨sb, j * 2 + 1, none⟩ = some (.pointer (some ⟨x, 0, none⟩))) (first | exact HSS.out _ HQ2.out | exact HSS.out _ HQ1.out | exact HSS.out _ HQ0.out) (first
              | (go_at_call 27; (with_reducible refine (CRE.out _ HQ0.out).mono ?_); rintro o w7 ⟨rfl, h⟩; have HQ1 : Hid (Below w8.heap.size w8 w7) := Lib.hid (below_from HQ0.out h HQ0.out.size); clear h)
              | (go_at_call 28; (with_reducible refine (CRX.out _ HQ1.out).mono ?_); rintro o w9 ⟨rfl, h⟩; have HQ2 : Hid (Below w8.heap.size w8 w9) := Lib.hid (below_from HQ1.out h HQ1.out.size); clear h))
            go_wp2_with fail
            exact ⟨⟨j + 1, HJN.out, by simp, HQ2⟩, by show ns - ((j : Int) + 1).toNat < ns - (j : Int).toNat; have := HJN.out; omega⟩
          · have hjj : ¬ (j : Int) < (ns : Int) := by omega
            have hpk : PlK W wr wb b (2 * i) := ⟨col, oc, S, _, hv0, hl, HPL.out.below HBR.out, HSY.out⟩
            obtain ⟨k1, k2⟩ := hpk.still (by have := HI.out; omega)
            have CS := Lib.hid k2
            clear k2 hpk
            go_wp2_with (go_at_call 23; (with_reducible refine (CS.out).mono ?_); rintro o w5 ⟨rfl, h⟩; have HP5 := Lib.hid h; clear h)
            go_ret
            obtain ⟨_, _, _, _, _, _, h9, _⟩ := HP5.out
            exact ⟨rfl, h9.bl⟩

      · go_wp2_with fail
        go_loopw [8, 9, 10] (fun q _ _ wr => ∃ j : Nat, j ≤ ns ∧ q = .int .i64 (j : Int) ∧ Hid (Below w8.heap.size w8 wr)) (fun q _ _ _ => ns - (intOf q).toNat)
        case atStart => exact ⟨0, Nat.zero_le _, rfl, HB8⟩
        case round =>
          clear HB8
          obtain ⟨j, hj, rfl, HBR⟩ := hrel
          have c0 : wr.cell? ⟨wb, 0, none⟩ = some (.slice ps ns cs) := cellB ((HPL.out.below HBR.out).wx id) rfl
          by_cases hjn : j < ns
          · have hjj : (j : Int) < (ns : Int) := by omega
            have hj0 : (0 : Int) ≤ (j : Int) := by omega
            have hwj : IntKind.i64.wrap (j : Int) = (j : Int) := wrap_i64_id _ (by omega) (by omega)
            obtain ⟨s, hs⟩ : ∃ s, S[j]? = some s := ⟨S[j]'(by rw [← HNS.out]; exact hjn), List.getElem?_eq_getElem _⟩
            obtain ⟨sb, rfl⟩ : ∃ sb, ps = some ⟨sb, 0, none⟩ := by
              rcases HSD.out.2 with ⟨e, e2⟩ | ⟨g, cap, cur, e, _⟩
              · omega
              · injection e with e1 _ _; exact ⟨g, e1⟩
            obtain ⟨⟨e, ne, He, x, mx, Kx⟩, hse⟩ : ∃ s', s' = s := ⟨_, rfl⟩
            subst hse
            obtain ⟨rfl, rfl⟩ : ne = mx ∧ He = Kx := HSY.out _ (List.mem_of_getElem? hs)
            have HSS : Hid (∀ w', Below w8.heap.size w8 w' → w'.cell? ⟨wb, 0, none⟩ = some (.slice (some ⟨sb, 0, none⟩) ns cs) ∧ w'.cell? ⟨sb, j * 2, none⟩ = some (.pointer (some ⟨e, 0, none⟩)) ∧ w'.cell? ⟨sb, j * 2 + 1, none⟩ = some (.pointer (some ⟨x, 0, none⟩))) := Lib.hid (fun w' hb => by
              obtain ⟨k1, k2⟩ := sdV_get hs
              obtain ⟨p', c', e1, _, _, hc⟩ := (HSD.out.below hb).cells
              injection e1 with e1 _ _
              have hadd : ∀ j, (⟨sb, 0, none⟩ : Addr).add j = ⟨sb, j, none⟩ := fun j => by unfold Addr.add; split <;> simp_all
              obtain ⟨a1, ha1, _, hc1⟩ := hc _ _ k1
              obtain ⟨a2, ha2, _, hc2⟩ := hc _ _ k2
              rw [← e1] at ha1 ha2
              obtain rfl := Option.some.inj ha1
              obtain rfl := Option.some.inj ha2
              rw [hadd] at hc1 hc2
              exact ⟨cellB ((HPL.out.below hb).wx id) rfl, hc1, hc2⟩)
            obtain ⟨ve, e1, _⟩ := HPL.out.ed j _ hs id
            obtain ⟨vx, x1, _⟩ := HPL.out.xd j _ hs id
            have e1 : EwI w8 e ne He ve := e1
            have x1 : EdX w8 x ne He vx := x1
            have hl80 := e1.ok.l80
            obtain ⟨nh, hnh⟩ : ∃ y, y = He.length := ⟨_, rfl⟩
            obtain ⟨rr, hrr⟩ : ∃ y, y = rootF He := ⟨_, rfl⟩
            have hst := text5_same rr
            have CNE : Hid (∀ w', Below w8.heap.size w8 w' → Calls Tryd.prog 24 #[.pointer (some ⟨e, 0, none⟩)] w' fun o w'' => ∃ p c, o = .returned (.slice p nh c) ∧ LfI w' w'' (.slice p nh c) nh He) := Lib.hid (fun w' h => by rw [hnh]; exact ewnodes_any (e1.below h))
            have CNX : Hid (∀ w', Below w8.heap.size w8 w' → Calls Tryd.prog 26 #[.pointer (some ⟨x, 0, none⟩)] w' fun o w'' => ∃ p c, o = .returned (.slice p nh c) ∧ LfI w' w'' (.slice p nh c) nh He) := Lib.hid (fun w' h => by rw [hnh]; exact xwnodes_any (x1.below h) hl80)
            have CSM : Hid (∀ w' p1 q1 p2 q2, Held w' 9 1 (.slice p1 nh q1) nh (He.map Value.string) → Held w' 9 1 (.slice p2 nh q2) nh (He.map Value.string) → Calls Tryd.prog 25 #[.slice p1 nh q1, .slice p2 nh q2] w' fun o w'' => o = .returned (.bool true) ∧ Below w'.heap.size w' w'') := Lib.hid (fun w' p1 q1 p2 q2 h1 h2 => same_self (same5_any _ _ He He w' (held_txts5 h1 hnh (by omega)) (held_txts5 h2 hnh (by omega)) (by omega) (by omega)))
            have CRE : Hid (∀ w', Below w8.heap.size w8 w' → Calls Tryd.prog 27 #[.pointer (some ⟨e, 0, none⟩)] w' fun o w'' => o = .returned (.string rr) ∧ Below w'.heap.size w' w'') := Lib.hid (fun w' h => by rw [hrr]; exact ewroot_any (e1.below h) (HBAS.out.below (HPL.out.below h).bl).tabs)
            have CRX : Hid (∀ w', Below w8.heap.size w8 w' → Calls Tryd.prog 28 #[.pointer (some ⟨x, 0, none⟩)] w' fun o w'' => o = .returned (.string rr) ∧ Below w'.heap.size w' w'') := Lib.hid (fun w' h => by rw [hrr]; exact xwroot_any (x1.below h) hl80)
            obtain ⟨k0, k1, k2⟩ := HSS.out wr HBR.out
            have HJN := Lib.hid hjn
            clear hs e1 x1 hl80 hnh hrr c0 hjn
            go_upto_region 19 with (go_at_call 24; (with_reducible refine (CNE.out _ HBR.out).mono ?_); rintro o w4 ⟨p4, q4, rfl, h⟩; have HL4 := Lib.hid h; have HB4 : Hid (Below w8.heap.size w8 w4) := Lib.hid (below_from HBR.out h.b HBR.out.size); clear h)
            clear k0 k1 k2
            obtain ⟨k0, k1, k2⟩ := HSS.out w4 HB4.out
            go_upto_region 20 with (first
              | (go_at_call 26; (with_reducible refine (CNX.out _ HB4.out).mono ?_); rintro o w5 ⟨p5, q5, rfl, h⟩; have HL5 := Lib.hid h; have HB5 : Hid (Below w8.heap.size w8 w5) := Lib.hid (below_from HB4.out h.b HB4.out.size); clear h)
              | (go_at_call 25; (with_reducible refine (CSM.out _ _ _ _ _ (HL4.out.h.below HL5.out.b) HL5.out.h).mono ?_); rintro o w6 ⟨rfl, h⟩; have HB6 : Hid (Below w8.heap.size w8 w6) := Lib.hid (below_from HB5.out h HB5.out.size); clear h))
            clear k0 k1 k2
            have HQ0 : Hid (Below w8.heap.size w8 w6.drew) := Lib.hid HB6.out.drew
            go_region_held3 (fun w' => w'.cell? ⟨wb, 0, none⟩ = some (.slice (some ⟨sb, 0, none⟩) ns cs) ∧ w'.cell? ⟨sb, j * 2, none⟩ = some (.pointer (some ⟨e, 0, none⟩)) ∧ w'.cell? ⟨sb, j * 2 + 1, none⟩ = some (.pointer (some ⟨x, 0, none⟩))) (first | exact HSS.out _ HQ2.out | exact HSS.out _ HQ1.out | exact HSS.out _ HQ0.out) (first
              | (go_at_call 27; (with_reducible refine (CRE.out _ HQ0.out).mono ?_); rintro o w7 ⟨rfl, h⟩; have HQ1 : Hid (Below w8.heap.size w8 w7) := Lib.hid (below_from HQ0.out h HQ0.out.size); clear h)
              | (go_at_call 28; (with_reducible refine (CRX.out _ HQ1.out).mono ?_); rintro o w9 ⟨rfl, h⟩; have HQ2 : Hid (Below w8.heap.size w8 w9) := Lib.hid (below_from HQ1.out h HQ1.out.size); clear h))
            go_wp2_with fail
            exact ⟨⟨j + 1, HJN.out, by simp, HQ2⟩, by show ns - ((j : Int) + 1).toNat < ns - (j : Int).toNat; have := HJN.out; omega⟩
          · have hjj : ¬ (j : Int) < (ns : Int) := by omega
            have hpk : PlK W wr wb b (2 * i) := ⟨col, oc, S, _, hv0, hl, HPL.out.below HBR.out, HSY.out⟩
            obtain ⟨k1, k2⟩ := hpk.still (by have := HI.out; omega)
            have CS := Lib.hid k2
            clear k2 hpk
            go_wp2_with (go_at_call 23; (with_reducible refine (CS.out).mono ?_); rintro o w5 ⟨rfl, h⟩; have HP5 := Lib.hid h; clear h)
            go_ret
            obtain ⟨_, _, _, _, _, _, h9, _⟩ := HP5.out
            exact ⟨rfl, h9.bl⟩

end Go.Proofs.YtdbghgpohdijfaaDoor
