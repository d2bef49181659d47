/- The document's shape, walked: left, right. -/
import Derived.Test.YteknpnanmbfhfaaDoorMa28
namespace Go.Proofs.YteknpnanmbfhfaaDoor
open Go.RowKit Go.Scr Go.Shelf
set_option linter.unusedVariables false
set_option maxRecDepth 100000 in
set_option maxHeartbeats 1000000 in
theorem rleft_any (b e : Nat) (w : World) (h : b ≤ e) (he : e ≤ 4398046511104) :
    Calls Tryd.prog 49 #[spV b e] w fun r w' => r = .returned (spV b (b + spl (e - b))) ∧ Below w.heap.size w w' := by
  obtain ⟨m, hm⟩ : ∃ m, m = b + spl (e - b) := ⟨_, rfl⟩
  have hmid := fun w => rmiddle_any b e w h he
  rw [← hm] at hmid ⊢
  have CM := Lib.hid hmid
  obtain ⟨bb, hbb⟩ : ∃ x, x = w.heap.size := ⟨_, rfl⟩
  obtain ⟨w1, hw1⟩ : ∃ x, x = (w.alloc (.cells #[.int .i64 (b : Int), .int .i64 (e : Int)] 29)).alloc (.cells #[.int .i64 0, .int .i64 0] 29) := ⟨_, rfl⟩
  have hbel : Below w.heap.size w w1 := by rw [hw1]; exact ((Below.refl _ _).alloc (Nat.le_refl _) _).alloc (by simp) _
  have r0 : spRow w1 bb b e := by rw [hw1, hbb]; exact blk_alloc (heap_alloc_new w _)
  have r1 : spRow w1 (bb + 1) 0 0 := by rw [hw1, hbb]; exact heap_alloc_at _ _ _ (by simp)
  have HW := Lib.hid hw1
  have HB := Lib.hid hbb
  have HBB : Hid (w.heap.size ≤ bb) := Lib.hid (Nat.le_of_eq hbb.symm)
  have HS : Hid (w1.drew.cell? ⟨bb, 0, none⟩ = some (.int .i64 (b : Int)) ∧ w1.drew.cell? ⟨bb, 1, none⟩ = some (.int .i64 (e : Int)) ∧ Below w.heap.size w w1.drew) := Lib.hid ⟨r0.at.1, r0.at.2.1, hbel.drew⟩
  have HT : Hid (∀ w', Below w1.drew.heap.size w1.drew w' → (w'.cell? ⟨bb, 0, none⟩ = some (.int .i64 (b : Int)) ∧ w'.cell? ⟨bb, 1, none⟩ = some (.int .i64 (e : Int)) ∧ Below w.heap.size w w') ∧ spRow w' (bb + 1) 0 0 ∧
      (((w'.setCell ⟨bb + 1, 0, none⟩ (.int .i64 (b : Int))).setCell ⟨bb + 1, 1, none⟩ (.int .i64 (m : Int))).cell? ⟨bb, 0, none⟩ = some (.int .i64 (b : Int)) ∧ ((w'.setCell ⟨bb + 1, 0, none⟩ (.int .i64 (b : Int))).setCell ⟨bb + 1, 1, none⟩ (.int .i64 (m : Int))).cell? ⟨bb, 1, none⟩ = some (.int .i64 (e : Int)) ∧ Below w.heap.size w ((w'.setCell ⟨bb + 1, 0, none⟩ (.int .i64 (b : Int))).setCell ⟨bb + 1, 1, none⟩ (.int .i64 (m : Int)))) ∧ spRow ((w'.setCell ⟨bb + 1, 0, none⟩ (.int .i64 (b : Int))).setCell ⟨bb + 1, 1, none⟩ (.int .i64 (m : Int))) (bb + 1) b m) := Lib.hid (fun w' hb => by
    have k0 := r0.keep (hb.block _ r0.lt)
    have k1 := r1.keep (hb.block _ r1.lt)
    have k2 := below_onS hbel.drew hb hbel.size
    have k3 : spRow ((w'.setCell ⟨bb + 1, 0, none⟩ (.int .i64 (b : Int))).setCell ⟨bb + 1, 1, none⟩ (.int .i64 (m : Int))) bb b e := k0.keep ((Below.heap_setCell _ ⟨bb + 1, 1, none⟩ _ bb (by show bb ≠ bb + 1; omega)).trans (Below.heap_setCell _ ⟨bb + 1, 0, none⟩ _ bb (by show bb ≠ bb + 1; omega)))
    exact ⟨⟨k0.at.1, k0.at.2.1, k2⟩, k1, ⟨k3.at.1, k3.at.2.1, (k2.setCell (p := ⟨bb + 1, 0, none⟩) (by show w.heap.size ≤ bb + 1; omega) _).setCell (p := ⟨bb + 1, 1, none⟩) (by show w.heap.size ≤ bb + 1; omega) _⟩, k1.set b m⟩)
  clear hm hmid h he hw1 hbb hbel r0 r1
  go_enter Tryd.func49, Tryd.ntmps49
  go_upto_region 1 with fail
  rw [← HW.out, ← HB.out]
  go_region_held3 (fun w' => w'.cell? ⟨bb, 0, none⟩ = some (.int .i64 (b : Int)) ∧ w'.cell? ⟨bb, 1, none⟩ = some (.int .i64 (e : Int)) ∧ Below w.heap.size w w') (first | exact HS5.out.1 | exact HS3.out | exact HS.out) (first
    | (go_at_call 48; (with_reducible refine (CM.out _).mono ?_); rintro r w3 ⟨rfl, hb3⟩; obtain ⟨hs3, k1, hs5, k5⟩ := HT.out w3 hb3; obtain ⟨e0, e1, ef⟩ := k1.at; have HS3 := Lib.hid hs3; have HS5 := Lib.hid (And.intro hs5 k5); clear hb3 hs3 hs5 k1 k5))
  go_wp2
  obtain ⟨c0, c1, _⟩ := HS5.out.2.at
  refine bodyPost_ret (v := spV b m) (by simp [results, Tryd.results49, go_sem, c0, c1]) rfl ⟨rfl, HS5.out.1.2.2⟩
set_option maxRecDepth 100000 in
set_option maxHeartbeats 1000000 in
theorem rright_any (b e : Nat) (w : World) (h : b ≤ e) (he : e ≤ 4398046511104) :
    Calls Tryd.prog 50 #[spV b e] w fun r w' => r = .returned (spV (b + spl (e - b)) e) ∧ Below w.heap.size w w' := by
  obtain ⟨m, hm⟩ : ∃ m, m = b + spl (e - b) := ⟨_, rfl⟩
  have hmid := fun w => rmiddle_any b e w h he
  rw [← hm] at hmid ⊢
  have CM := Lib.hid hmid
  obtain ⟨bb, hbb⟩ : ∃ x, x = w.heap.size := ⟨_, rfl⟩
  obtain ⟨w1, hw1⟩ : ∃ x, x = (w.alloc (.cells #[.int .i64 (b : Int), .int .i64 (e : Int)] 29)).alloc (.cells #[.int .i64 0, .int .i64 0] 29) := ⟨_, rfl⟩
  have hbel : Below w.heap.size w w1 := by rw [hw1]; exact ((Below.refl _ _).alloc (Nat.le_refl _) _).alloc (by simp) _
  have r0 : spRow w1 bb b e := by rw [hw1, hbb]; exact blk_alloc (heap_alloc_new w _)
  have r1 : spRow w1 (bb + 1) 0 0 := by rw [hw1, hbb]; exact heap_alloc_at _ _ _ (by simp)
  have HW := Lib.hid hw1
  have HB := Lib.hid hbb
  have HBB : Hid (w.heap.size ≤ bb) := Lib.hid (Nat.le_of_eq hbb.symm)
  have HS : Hid (w1.drew.cell? ⟨bb, 0, none⟩ = some (.int .i64 (b : Int)) ∧ w1.drew.cell? ⟨bb, 1, none⟩ = some (.int .i64 (e : Int)) ∧ Below w.heap.size w w1.drew) := Lib.hid ⟨r0.at.1, r0.at.2.1, hbel.drew⟩
  have HT : Hid (∀ w', Below w1.drew.heap.size w1.drew w' → (w'.cell? ⟨bb, 0, none⟩ = some (.int .i64 (b : Int)) ∧ w'.cell? ⟨bb, 1, none⟩ = some (.int .i64 (e : Int)) ∧ Below w.heap.size w w') ∧ spRow w' (bb + 1) 0 0 ∧
      (((w'.setCell ⟨bb + 1, 0, none⟩ (.int .i64 (m : Int))).setCell ⟨bb + 1, 1, none⟩ (.int .i64 (e : Int))).cell? ⟨bb, 0, none⟩ = some (.int .i64 (b : Int)) ∧ ((w'.setCell ⟨bb + 1, 0, none⟩ (.int .i64 (m : Int))).setCell ⟨bb + 1, 1, none⟩ (.int .i64 (e : Int))).cell? ⟨bb, 1, none⟩ = some (.int .i64 (e : Int)) ∧ Below w.heap.size w ((w'.setCell ⟨bb + 1, 0, none⟩ (.int .i64 (m : Int))).setCell ⟨bb + 1, 1, none⟩ (.int .i64 (e : Int)))) ∧ spRow ((w'.setCell ⟨bb + 1, 0, none⟩ (.int .i64 (m : Int))).setCell ⟨bb + 1, 1, none⟩ (.int .i64 (e : Int))) (bb + 1) m e) := Lib.hid (fun w' hb => by
    have k0 := r0.keep (hb.block _ r0.lt)
    have k1 := r1.keep (hb.block _ r1.lt)
    have k2 := below_onS hbel.drew hb hbel.size
    have k3 : spRow ((w'.setCell ⟨bb + 1, 0, none⟩ (.int .i64 (m : Int))).setCell ⟨bb + 1, 1, none⟩ (.int .i64 (e : Int))) bb b e := k0.keep ((Below.heap_setCell _ ⟨bb + 1, 1, none⟩ _ bb (by show bb ≠ bb + 1; omega)).trans (Below.heap_setCell _ ⟨bb + 1, 0, none⟩ _ bb (by show bb ≠ bb + 1; omega)))
    exact ⟨⟨k0.at.1, k0.at.2.1, k2⟩, k1, ⟨k3.at.1, k3.at.2.1, (k2.setCell (p := ⟨bb + 1, 0, none⟩) (by show w.heap.size ≤ bb + 1; omega) _).setCell (p := ⟨bb + 1, 1, none⟩) (by show w.heap.size ≤ bb + 1; omega) _⟩, k1.set m e⟩)
  clear hm hmid h he hw1 hbb hbel r0 r1
  go_enter Tryd.func50, Tryd.ntmps50
  go_upto_region 1 with fail
  rw [← HW.out, ← HB.out]
  go_region_held3 (fun w' => w'.cell? ⟨bb, 0, none⟩ = some (.int .i64 (b : Int)) ∧ w'.cell? ⟨bb, 1, none⟩ = some (.int .i64 (e : Int)) ∧ Below w.heap.size w w') (first | exact HS5.out.1 | exact HS3.out | exact HS.out) (first
    | (go_at_call 48; (with_reducible refine (CM.out _).mono ?_); rintro r w3 ⟨rfl, hb3⟩; obtain ⟨hs3, k1, hs5, k5⟩ := HT.out w3 hb3; obtain ⟨e0, e1, ef⟩ := k1.at; have HS3 := Lib.hid hs3; have HS5 := Lib.hid (And.intro hs5 k5); clear hb3 hs3 hs5 k1 k5))
  go_wp2
  obtain ⟨c0, c1, _⟩ := HS5.out.2.at
  refine bodyPost_ret (v := spV m e) (by simp [results, Tryd.results50, go_sem, c0, c1]) rfl ⟨rfl, HS5.out.1.2.2⟩
end Go.Proofs.YteknpnanmbfhfaaDoor
/- The document's shape, walked: touched, others, Batch. -/
namespace Go.Scr
def hitZ (Z : List Int) (b e : Nat) : Bool := Z.any fun z => decide ((b : Int) ≤ z ∧ z < (e : Int))
open Go.RowKit in
/-- a list appended to a list, as an arm of a walk -/
theorem wpList_catH {P : Program} {ops : Array Oper} {rest : List Oper} {o : Oper} {a : Act} {Q : Exit → Act → World → Prop} {w : World} {T S : TypeId} (hgd : o.guard = none) (s x : Operand)
    (ho : o.op = .call { callee := .builtin .append, args := #[s, x], argTypes := #[S, S] }) (hu : P.underlying S = some (.slice T)) (z : Value) (sz : Nat) {byt : Nat} (hi : (P.info? T).map (fun i => (i.zero, i.size, i.bytes)) = some (some z, sz, byt))
    (hzs : z.cells.size = sz) (hsz : 0 < sz) {v u : Value} {n m : Nat} (l xs : List Value) (hs : a.eval s = v) (hx : a.eval x = u) (hown : Held w T sz v n l) (hsrc : Held w T sz u m xs)
    (hone : ∀ u ∈ xs, u.oneCell' = true) (hl : (n + m) * byt ≤ 140737488355328) (hl2 : n + m ≤ 140737488355328)
    (h : ∀ v' w', Held w' T sz v' (n + m) (l ++ xs) → w.grownBy w' v.ownBlock → (v'.ownBlock = v.ownBlock ∨ v'.ownBlock = some w.heap.size) → wpList P ops Q rest (a.put o.dst v') w') :
    wpList P ops Q (o :: rest) a w := by
  obtain ⟨i, hi0, hz, hsi, hbi⟩ := info_parts hi
  obtain ⟨v', w', hrun, r1, r2, r3⟩ := run_cat (P := P) w S o.type T i z sz byt hu hi0 hz hsi hbi hzs hsz v u n m l xs hown hsrc hone (by simp only [maxLen]; omega) hl
  refine wpList_plain hgd fun _ hK => ?_
  unfold Oper.wp execOp
  simp only [ho, resolve, invoke, builtin, Sem.run_bind, Sem.run_pure, Result.andThen_ok, List.map_toArray, List.map_cons, List.map_nil, hs, hx, hrun]
  exact hK _ _ (h v' w' r1 r2 r3)
theorem lookZ_hit (Z : List Int) (b e : Nat) : lookZ Z b e = if hitZ Z b e then (if e - b = 1 then 2 else 1) else 0 := rfl
end Go.Scr
namespace Go.Proofs.YteknpnanmbfhfaaDoor
open Go.RowKit Go.Scr Go.Shelf
set_option linter.unusedVariables false
theorem spRow.drewN {w : World} {B b e : Nat} (h : spRow w B b e) (k : Nat) : spRow (w.drewN k) B b e := h
theorem ints_drewN {w : World} {v : Value} {Z : List Int} (h : Ints w v Z) (k : Nat) : Ints (w.drewN k) v Z := h
set_option maxRecDepth 100000 in
set_option maxHeartbeats 2000000 in
theorem touched_any (b e : Nat) (v : Value) (Z : List Int) (w : World) (hv : Ints w v Z) :
    Calls Tryd.prog 87 #[spV b e, v] w fun r w' => r = .returned (.bool (hitZ Z b e)) ∧ Below w.heap.size w w' := by
  obtain ⟨p, c, rfl, s1, s2, s3, s4⟩ := id hv
  obtain ⟨n, hn⟩ : ∃ n, n = Z.length := ⟨_, rfl⟩
  obtain ⟨bx, hbx⟩ : ∃ x, x = w.heap.size := ⟨_, rfl⟩
  obtain ⟨w1, hw1⟩ : ∃ x, x = w.alloc (.cells #[.int .i64 (b : Int), .int .i64 (e : Int)] 29) := ⟨_, rfl⟩
  have hbel : Below w.heap.size w w1 := by rw [hw1]; exact (Below.refl _ _).alloc (Nat.le_refl _) _
  have r0 : spRow w1 bx b e := by rw [hw1, hbx]; exact heap_alloc_new w _
  have HI0 : Hid (spRow w1 bx b e ∧ Ints w1 (.slice p Z.length c) Z ∧ Below w.heap.size w w1) := Lib.hid ⟨r0, ints_belowH hv hbel (Nat.le_refl _), hbel⟩
  have HW := Lib.hid hw1
  have HB := Lib.hid hbx
  have HN := Lib.hid hn
  rw [← hn] at s1 s2
  rw [← hn]
  clear hv s3 s4 hw1 hbx hn r0 hbel
  go_enter Tryd.func87, Tryd.ntmps87
  go_upto_region 1 with fail
  rw [← HW.out, ← HB.out]
  go_wp2_with fail
  go_loopw [5] (fun x wr => ∃ i : Nat, x = .int .i64 (i : Int) ∧ i ≤ n ∧ Hid ((spRow wr bx b e ∧ Ints wr (.slice p Z.length c) Z ∧ Below w.heap.size w wr) ∧ ∀ (j : Nat) (z : Int), j < i → Z[j]? = some z → ¬ ((b : Int) ≤ z ∧ z < (e : Int)))) (fun x _ => n - (intOf x).toNat)
  case atStart => exact ⟨0, rfl, by omega, Lib.hid ⟨HI0.out, fun j z hj => by omega⟩⟩
  case round =>
    clear HI0
    obtain ⟨i, rfl, hi, HI⟩ := hrel
    by_cases hlt : i < n
    · have hlti : (i : Int) < (n : Int) := by omega
      have hi0 : (0 : Int) ≤ (i : Int) := by omega
      obtain ⟨z, hz⟩ : ∃ z, Z[i]? = some z := ⟨Z[i]'(by have := HN.out; omega), List.getElem?_eq_getElem _⟩
      obtain ⟨p', c', hpe, _, _, hzb, hzc⟩ := HI.out.1.2.1
      cases hpe
      obtain ⟨ad, rfl, hcz⟩ := hzc i z hz
      obtain ⟨d0, d1, _⟩ := HI.out.1.1.at
      have HZ : Hid (Z[i]? = some z ∧ i < n) := Lib.hid ⟨hz, hlt⟩
      clear hlt hz hzb hzc
      by_cases hbz : (b : Int) ≤ z
      · by_cases hze : z < (e : Int)
        · have HT : Hid (hitZ Z b e = true) := Lib.hid (List.any_eq_true.2 ⟨z, List.mem_of_getElem? HZ.out.1, decide_eq_true ⟨hbz, hze⟩⟩)
          go_wp2_with fail
          go_quiet (fail)
          go_wp2_with fail
          go_ret
          exact ⟨by rw [HT.out]; rfl, below_drewN HI.out.1.2.2 nq⟩
        · go_wp2_with fail
          go_quiet (fail)
          go_wp2_with fail
          refine ⟨⟨i + 1, by simp, HZ.out.2, Lib.hid ⟨⟨HI.out.1.1.drewN nq, ints_drewN HI.out.1.2.1 nq, below_drewN HI.out.1.2.2 nq⟩, fun j y hj hy hh => ?_⟩⟩, ?_⟩
          · rcases Nat.lt_or_ge j i with h | h
            · exact HI.out.2 j y h hy hh
            · have : j = i := by omega
              subst this
              have := Option.some.inj (HZ.out.1.symm.trans hy)
              omega
          · show n - ((i : Int) + 1).toNat < n - ((i : Int)).toNat
            have := HZ.out
            omega
      · have hbz' : decide ((b : Int) ≤ z) = false := decide_eq_false hbz
        go_wp2_with fail
        go_quiet (fail)
        go_wp2_with fail
        refine ⟨⟨i + 1, by simp, HZ.out.2, Lib.hid ⟨⟨HI.out.1.1.drewN nq, ints_drewN HI.out.1.2.1 nq, below_drewN HI.out.1.2.2 nq⟩, fun j y hj hy hh => ?_⟩⟩, ?_⟩
        · rcases Nat.lt_or_ge j i with h | h
          · exact HI.out.2 j y h hy hh
          · have : j = i := by omega
            subst this
            have := Option.some.inj (HZ.out.1.symm.trans hy)
            omega
        · show n - ((i : Int) + 1).toNat < n - ((i : Int)).toNat
          have := HZ.out
          omega
    · have hlti : ¬ (i : Int) < (n : Int) := by omega
      have HT : Hid (hitZ Z b e = false) := Lib.hid (by
        unfold hitZ
        rw [List.any_eq_false]
        intro z hz
        obtain ⟨j, hj⟩ := List.getElem?_of_mem hz
        have hjl : j < Z.length := (List.getElem?_eq_some_iff.mp hj).1
        have := HI.out.2 j z (by have := HN.out; omega) hj
        simpa using this)
      clear hlt
      go_wp2_with fail
      go_ret
      exact ⟨by rw [HT.out]; rfl, HI.out.1.2.2⟩
theorem prsV_one (L : List (Nat × Nat)) : ∀ u ∈ prsV L, u.oneCell' = true := by
  intro u hu
  unfold prsV at hu
  obtain ⟨x, hx, hu⟩ := List.mem_flatten.1 hu
  obtain ⟨y, _, rfl⟩ := List.mem_map.1 hx
  rcases List.mem_cons.1 hu with rfl | hu
  · rfl
  · rw [List.mem_singleton.1 hu]; rfl
/-- a list of spans that comes out: what it holds -/
def OutL (w : World) (L : List (Nat × Nat)) (r : Ending) (w' : World) : Prop :=
  (∃ p c, r = .returned (.slice p L.length c) ∧ Held w' 29 2 (.slice p L.length c) L.length (prsV L) ∧ ∀ g, (Value.slice p L.length c).ownBlock = some g → w.heap.size ≤ g) ∧ Below w.heap.size w w'
set_option maxRecDepth 100000 in
set_option maxHeartbeats 4000000 in
theorem others_any (Z : List Int) (v : Value) (n : Nat) : ∀ (b : Nat) (w : World), 1 ≤ n → b + n ≤ 1099511627776 → Ints w v Z →
    Calls Tryd.prog 62 #[spV b (b + n), v] w (OutL w (restT (lookZ Z) b n)) := by
  induction n using Nat.strongRecOn with
  | ind n ih =>
    intro b w hn hbn hv
    obtain ⟨e, he⟩ : ∃ e, e = b + n := ⟨_, rfl⟩
    obtain ⟨bx, hbx⟩ : ∃ x, x = w.heap.size := ⟨_, rfl⟩
    obtain ⟨w1, hw1⟩ : ∃ x, x = w.alloc (.cells #[.int .i64 (b : Int), .int .i64 (e : Int)] 29) := ⟨_, rfl⟩
    have hbel : Below w.heap.size w w1 := by rw [hw1]; exact (Below.refl _ _).alloc (Nat.le_refl _) _
    have r0 : spRow w1 bx b e := by rw [hw1, hbx]; exact heap_alloc_new w _
    obtain ⟨d0, d1, _⟩ := r0.at
    have HST : Hid (∀ w2, Below w1.heap.size w1 w2 → Below w.heap.size w w2 ∧ spRow w2 bx b e ∧ Ints w2 v Z) := Lib.hid (fun w2 h => by
      have hb2 := below_onS hbel h hbel.size
      exact ⟨hb2, r0.keep (h.block _ r0.lt), ints_belowH hv hb2 (Nat.le_refl _)⟩)
    have CT := Lib.hid (touched_any b e v Z w1 (ints_belowH hv hbel (Nat.le_refl _)))
    have hlk := lookZ_hit Z b (b + n)
    rw [← he] at hlk ⊢
    rw [show e - b = n by omega] at hlk
    have HW := Lib.hid hw1
    have HB := Lib.hid hbx
    have HN : Hid (1 ≤ n ∧ b + n ≤ 1099511627776 ∧ e = b + n) := Lib.hid ⟨hn, hbn, he⟩
    have HIH := Lib.hid ih
    have heb : e ≤ 1099511627776 := by omega
    have HV := Lib.hid hv
    obtain ⟨p, c, rfl, _⟩ := id HV.out
    clear hw1 hbx hbel r0 hv hn hbn he ih
    cases hh : hitZ Z b e with
    | false =>
      rw [hh] at CT hlk
      have HR : Hid (restT (lookZ Z) b n = [(b, e)]) := Lib.hid (by rw [HN.out.2.2]; exact restT_none (by rw [← HN.out.2.2]; exact hlk))
      clear hh hlk
      go_enter Tryd.func62, Tryd.ntmps62
      go_upto_region 1 with fail
      rw [← HW.out, ← HB.out]
      go_upto_region 2 with (go_at_call 87; with_reducible refine CT.out.mono ?_; rintro r w2 ⟨rfl, hb2⟩; have HB2 := Lib.hid hb2; clear hb2)
      clear d0 d1
      obtain ⟨d0, d1, _⟩ := (HST.out _ HB2.out).2.1.at
      go_wp2_with fail
      go_ret
      have hb2 := (HST.out _ HB2.out).1
      unfold OutL
      rw [HR.out]
      refine ⟨⟨_, _, rfl, held_lit w2 _ 1 (prsV [(b, e)]) rfl (by decide), fun g hg => ?_⟩, hb2.alloc hb2.size _⟩
      cases hg
      exact hb2.size
    | true =>
      rw [hh] at CT hlk
      by_cases h1 : n = 1
      · subst h1
        have hlk2 : lookZ Z b e = 2 := hlk
        have HR : Hid (restT (lookZ Z) b 1 = []) := Lib.hid (restT_all (by rw [← HN.out.2.2]; exact hlk2))
        have hsub : (e : Int) - (b : Int) = 1 := by have := HN.out; omega
        clear hh hlk hlk2
        go_enter Tryd.func62, Tryd.ntmps62
        go_upto_region 1 with fail
        rw [← HW.out, ← HB.out]
        go_upto_region 2 with (go_at_call 87; with_reducible refine CT.out.mono ?_; rintro r w2 ⟨rfl, hb2⟩; have HB2 := Lib.hid hb2; clear hb2)
        clear d0 d1
        obtain ⟨d0, d1, _⟩ := (HST.out _ HB2.out).2.1.at
        go_wp2_with fail
        go_ret
        unfold OutL
        rw [HR.out]
        exact ⟨⟨none, 0, rfl, ⟨rfl, .inl ⟨rfl, rfl⟩⟩, fun g hg => by cases hg⟩, (HST.out _ HB2.out).1⟩
      · have hlk2 : lookZ Z b e = 1 := by rw [hlk]; simp [h1]
        have hsp := spl_lt (show 2 ≤ n by have := HN.out; omega)
        have HR : Hid (restT (lookZ Z) b n = restT (lookZ Z) b (spl n) ++ restT (lookZ Z) (b + spl n) (n - spl n)) := Lib.hid (restT_some (by rw [← HN.out.2.2, hlk2]; decide) (by rw [← HN.out.2.2, hlk2]; decide) (by omega))
        obtain ⟨ln, hln⟩ : ∃ x, x = n := ⟨_, rfl⟩
        have hsub : (e : Int) - (b : Int) = (ln : Int) := by have := HN.out; omega
        have hl1 : ((ln : Int) == 1) = false := by rw [beq_eq_false_iff_ne]; omega
        have hlb : ln ≤ 1099511627776 := by have := HN.out; omega
        obtain ⟨md, hmd⟩ : ∃ x, x = b + spl n := ⟨_, rfl⟩
        have CL : Hid (∀ w', Calls Tryd.prog 49 #[.agg #[.int .i64 (b : Int), .int .i64 (e : Int)]] w' fun r w2 => r = .returned (spV b md) ∧ Below w'.heap.size w' w2) := Lib.hid (fun w' => by
          have := rleft_any b e w' (by have := HN.out; omega) (by omega)
          rwa [show e - b = n by have := HN.out; omega, ← hmd] at this)
        have CR : Hid (∀ w', Calls Tryd.prog 50 #[.agg #[.int .i64 (b : Int), .int .i64 (e : Int)]] w' fun r w2 => r = .returned (spV md e) ∧ Below w'.heap.size w' w2) := Lib.hid (fun w' => by
          have := rright_any b e w' (by have := HN.out; omega) (by omega)
          rwa [show e - b = n by have := HN.out; omega, ← hmd] at this)
        obtain ⟨L1, hL1⟩ : ∃ x, x = restT (lookZ Z) b (spl n) := ⟨_, rfl⟩
        obtain ⟨L2, hL2⟩ : ∃ x, x = restT (lookZ Z) md (n - spl n) := ⟨_, rfl⟩
        rw [← hmd] at HR
        have C1 : Hid (∀ w', Ints w' (.slice p Z.length c) Z → Calls Tryd.prog 62 #[spV b md, .slice p Z.length c] w' (OutL w' L1)) := Lib.hid (fun w' h => by
          have := HIH.out (spl n) hsp.2.1 b w' hsp.1 (by have := HN.out; omega) h
          rwa [← hmd, ← hL1] at this)
        have C2 : Hid (∀ w', Ints w' (.slice p Z.length c) Z → Calls Tryd.prog 62 #[spV md e, .slice p Z.length c] w' (OutL w' L2)) := Lib.hid (fun w' h => by
          have := HIH.out (n - spl n) (by omega) (b + spl n) w' (by omega) (by have := HN.out; omega) h
          rwa [show b + spl n + (n - spl n) = e by have := HN.out; omega, ← hmd, ← hL2] at this)
        have hlen : L1.length + L2.length ≤ 1099511627776 := by
          have h1 := restT_length (lookZ Z) (spl n) b hsp.1
          have h2 := restT_length (lookZ Z) (n - spl n) md (by omega)
          rw [hL1, hL2]
          have := HN.out
          omega
        rw [← hL1, ← hL2] at HR
        have HLEN := Lib.hid hlen
        have hz1 : (L1.length + L2.length) * 16 ≤ 140737488355328 := by omega
        have hz2 : L1.length + L2.length ≤ 140737488355328 := by omega
        have HONE : Hid (∀ u ∈ prsV L2, u.oneCell' = true) := Lib.hid (prsV_one L2)
        clear hh hlk hlk2 h1 hsp hln hmd hL1 hL2
        go_enter Tryd.func62, Tryd.ntmps62
        go_upto_region 1 with fail
        rw [← HW.out, ← HB.out]
        go_upto_region 2 with (go_at_call 87; with_reducible refine CT.out.mono ?_; rintro r w2 ⟨rfl, hb2⟩; have HB2 := Lib.hid hb2; clear hb2)
        clear d0 d1
        obtain ⟨k1, k2, k3⟩ := HST.out _ HB2.out
        obtain ⟨d0, d1, _⟩ := k2.at
        have HK := Lib.hid (And.intro k1 (And.intro k2 k3))
        clear k1 k2 k3
        go_upto_region 7 with (first
          | (go_at_call 49; (with_reducible refine (CL.out _).mono ?_); rintro r w3 ⟨rfl, hb3⟩; have HB3 := Lib.hid hb3; have HI3 := Lib.hid (ints_belowH HK.out.2.2 hb3 (Nat.le_refl _)); clear hb3)
          | (go_at_call 62; (with_reducible refine (C1.out _ HI3.out).mono ?_); rintro r w4 ⟨⟨p4, c4, rfl, hh4, ho4⟩, hb4⟩; have HB4 := Lib.hid (below_onS HB3.out hb4 HB3.out.size); have HO4 := Lib.hid (And.intro hh4 (And.intro ho4 hb4)); clear hh4 ho4 hb4))
        clear d0 d1
        obtain ⟨d0, d1, _⟩ := (HK.out.2.1.keep (HB4.out.block _ HK.out.2.1.lt)).at
        go_wp2_with (first
          | (go_at_call 50; (with_reducible refine (CR.out _).mono ?_); rintro r w5 ⟨rfl, hb5⟩; have HB5 := Lib.hid hb5; have HI5 := Lib.hid (ints_belowH (ints_belowH HK.out.2.2 HB4.out (Nat.le_refl _)) hb5 (Nat.le_refl _)); clear hb5)
          | (go_at_call 62; (with_reducible refine (C2.out _ HI5.out).mono ?_); rintro r w6 ⟨⟨p6, c6, rfl, hh6, ho6⟩, hb6⟩; have HO6 := Lib.hid (And.intro hh6 (And.intro ho6 hb6)); have HH4 := Lib.hid ((HO4.out.1.below HB5.out).below hb6); clear hh6 ho6 hb6)
          | (at_builtin; refine wpList_catH (v := .slice p4 L1.length c4) (u := .slice p6 L2.length c6) rfl _ _ rfl Tryd.underlying31 (.agg #[.int .i64 0, .int .i64 0]) 2 info_spanP rfl (by decide) (prsV L1) (prsV L2) (by simp [Act.eval]) (by simp [Act.eval]) HH4.out HO6.out.1 HONE.out hz1 hz2 ?_; intro v7 w7 hh7 hg7 ho7; obtain ⟨p7, c7, rfl, _⟩ := hh7.cells; have HO7 := Lib.hid (And.intro hh7 (And.intro hg7 ho7)); clear hh7 hg7 ho7))
        go_ret
        have hb4 := below_onS HK.out.1 HB4.out HK.out.1.size
        have hb5 := below_onS hb4 HB5.out hb4.size
        have hb6 := below_onS hb5 HO6.out.2.2 hb5.size
        have hown4 : ∀ g, (Value.slice p4 L1.length c4).ownBlock = some g → w.heap.size ≤ g := fun g hg => by
          have h1 := HO4.out.2.1 g hg
          have h2 := HK.out.1.size
          have h3 := HB3.out.size
          omega
        have hb7 := hb6.grown HO7.out.2.1 hb6.size hown4
        unfold OutL
        rw [HR.out]
        refine ⟨⟨p7, c7, by rw [List.length_append]; rfl, by rw [List.length_append, prsV_append]; exact HO7.out.1, fun g hg => ?_⟩, hb7⟩
        rw [List.length_append] at hg
        rcases HO7.out.2.2 with h | h
        · exact hown4 g (by rw [← h]; exact hg)
        · rw [hg] at h
          cases h
          exact hb6.size
end Go.Proofs.YteknpnanmbfhfaaDoor
/- The document's shape, walked: Batch. -/
namespace Go.Proofs.YteknpnanmbfhfaaDoor
open Go.RowKit Go.Scr Go.Shelf
set_option linter.unusedVariables false
set_option maxRecDepth 100000 in
set_option maxHeartbeats 4000000 in
theorem rbatch_any (n : Int) (v : Value) (Z : List Int) (w : World) (hv : Ints w v Z) :
    Calls Tryd.prog 29 #[.int .i64 n, v] w (BatP n Z w) := by
  obtain ⟨p, c, rfl, s1, s2, s3, s4⟩ := id hv
  obtain ⟨m, hm⟩ : ∃ m, m = Z.length := ⟨_, rfl⟩
  have HM := Lib.hid hm
  have HV := Lib.hid hv
  rw [← hm] at s1 s2
  rw [← hm]
  clear hv s3 s4 hm
  have HB0 := Lib.hid (Below.refl w.heap.size w)
  by_cases hn : n < 1 ∨ 1099511627776 < n
  · have HE : Hid (batE n Z = 81) := Lib.hid (by unfold batE; rw [if_pos hn])
    by_cases hn1 : n < 1
    · clear hn
      go_enter Tryd.func29, Tryd.ntmps29
      go_wp2_with fail
      go_ret2
      exact batP_no HE.out (by decide) HB0.out
    · have hn2 : 1099511627776 < n := by omega
      clear hn
      go_enter Tryd.func29, Tryd.ntmps29
      go_wp2_with fail
      go_ret2
      exact batP_no HE.out (by decide) HB0.out
  · have HN := Lib.hid hn
    have hn1 : ¬ n < 1 := by omega
    have hn2 : ¬ 1099511627776 < n := by omega
    clear hn
    by_cases hm0 : m = 0
    · subst hm0
      have HE : Hid (batE n Z = 83) := Lib.hid (by unfold batE; rw [if_neg HN.out, if_pos (.inl HM.out.symm)])
      go_enter Tryd.func29, Tryd.ntmps29
      go_wp2_with fail
      go_ret2
      exact batP_no HE.out (by decide) HB0.out
    · have hm1 : ¬ (m : Int) < 1 := by omega
      by_cases h256 : 256 < m
      · have h2i : (256 : Int) < (m : Int) := by omega
        have HE : Hid (batE n Z = 83) := Lib.hid (by unfold batE; rw [if_neg HN.out, if_pos (.inr (by have := HM.out; omega))])
        clear h256 hm0
        go_enter Tryd.func29, Tryd.ntmps29
        go_wp2_with fail
        go_ret2
        exact batP_no HE.out (by decide) HB0.out
      · have h2i : ¬ (256 : Int) < (m : Int) := by omega
        have HB2 : Hid (0 < m ∧ m ≤ 256) := Lib.hid ⟨by omega, by omega⟩
        have hm256 : m ≤ 256 := by omega
        clear h256 hm0
        go_enter Tryd.func29, Tryd.ntmps29
        go_wp2_with fail
        go_loopw [6] (fun y wr => ∃ (i : Nat), y = .int .i64 (i : Int) ∧ Hid (1 ≤ i ∧ i ≤ m ∧ RisTo Z i ∧ Ints wr (.slice p Z.length c) Z ∧ Below w.heap.size w wr)) (fun y _ => m - (intOf y).toNat)
        case atStart => exact ⟨1, rfl, Lib.hid ⟨Nat.le_refl _, HB2.out.1, (fun j x y hj => by omega), by have h := HV.out; exact h, HB0.out⟩⟩
        case round =>
          obtain ⟨i, rfl, hinv⟩ := hrel
          have him : i ≤ 256 := by have := hinv.out.2.1; omega
          by_cases hlt : i < m
          · have hlti : (i : Int) < (m : Int) := by omega
            have hi0 : (0 : Int) ≤ (i : Int) := by omega
            obtain ⟨k, hk⟩ : ∃ k, k = i - 1 := ⟨_, rfl⟩
            have hik : i = k + 1 := by have := hinv.out.1; omega
            have hsub : (i : Int) - 1 = (k : Int) := by omega
            have hklt : (k : Int) < (m : Int) := by omega
            have hk0 : (0 : Int) ≤ (k : Int) := by omega
            have HLT : Hid (i < m ∧ i = k + 1) := Lib.hid ⟨hlt, hik⟩
            obtain ⟨x, hx⟩ : ∃ x, Z[k]? = some x := ⟨Z[k]'(by have := HM.out; omega), List.getElem?_eq_getElem _⟩
            obtain ⟨y, hy⟩ : ∃ x, Z[k + 1]? = some x := ⟨Z[k + 1]'(by have := HM.out; omega), List.getElem?_eq_getElem _⟩
            obtain ⟨p', c', hpe, _, _, _, g4⟩ := hinv.out.2.2.2.1
            cases hpe
            obtain ⟨a, rfl, hcx⟩ := g4 k x hx
            obtain ⟨a', ha', hcy⟩ := g4 (k + 1) y hy
            cases ha'
            rw [← hik] at hcy
            have hst := risTo_step hx hy
            have HST := Lib.hid hst
            clear hst hx hy g4 hlt hk hik
            by_cases hxy : x < y
            · have hxyi : ¬ y ≤ x := by omega
              go_wp2_with fail
              go_quiet (fail)
              go_wp2_with fail
              refine ⟨⟨i + 1, by simp, Lib.hid ⟨by omega, HLT.out.1, ?_, hinv.out.2.2.2.1, below_drewN hinv.out.2.2.2.2 nq⟩⟩, ?_⟩
              · have h1 := hinv.out.2.2.1
                rw [HLT.out.2] at h1 ⊢
                exact HST.out.2 ⟨h1, hxy⟩
              · show m - ((i : Int) + 1).toNat < m - ((i : Int)).toNat
                have := HLT.out
                omega
            · have hxyi : y ≤ x := by omega
              have HE : Hid (batE n Z = 82) := Lib.hid (by
                unfold batE
                rw [if_neg HN.out, if_neg (by have := HM.out; have := HB2.out; omega), if_pos (fun h => by
                  have h1 := (risTo_iff Z Z.length (Nat.le_refl _)).2 h
                  have h2 : RisTo Z (k + 2) := fun j a b hj ha hb => h1 j a b (by have := (List.getElem?_eq_some_iff.mp hb).1; omega) ha hb
                  exact hxy (HST.out.1 h2).2)])
              go_wp2_with fail
              go_quiet (fail)
              go_wp2_with fail
              go_ret2
              exact batP_no HE.out (by decide) (below_drewN hinv.out.2.2.2.2 nq)
          · have hlti : ¬ (i : Int) < (m : Int) := by omega
            have HRISE : Hid (Z.Pairwise (· < ·)) := Lib.hid ((risTo_iff Z i (by have := HM.out; omega)).1 hinv.out.2.2.1)
            have HX : Hid (Ints wr (.slice p Z.length c) Z ∧ Below w.heap.size w wr) := Lib.hid hinv.out.2.2.2
            clear hinv hlt
            have hmp0 : (0 : Int) < (m : Int) := by omega
            obtain ⟨k, hk⟩ : ∃ k, k = m - 1 := ⟨_, rfl⟩
            have hsub : (m : Int) - 1 = (k : Int) := by omega
            have hk0 : (0 : Int) ≤ (k : Int) := by omega
            have hkm : (k : Int) < (m : Int) := by omega
            obtain ⟨x, hx⟩ : ∃ x, Z[0]? = some x := ⟨Z[0]'(by have := HM.out; have := HB2.out; omega), List.getElem?_eq_getElem _⟩
            obtain ⟨y, hy⟩ : ∃ x, Z[k]? = some x := ⟨Z[k]'(by have := HM.out; have := HB2.out; omega), List.getElem?_eq_getElem _⟩
            have HXY : Hid (Z[0]? = some x ∧ Z[Z.length - 1]? = some y) := Lib.hid ⟨hx, by rw [← HM.out, ← hk]; exact hy⟩
            obtain ⟨p', c', hpe, _, _, _, g4⟩ := HX.out.1
            cases hpe
            obtain ⟨a, rfl, hcx⟩ := g4 0 x hx
            obtain ⟨a', ha', hcy⟩ := g4 k y hy
            cases ha'
            have hcx0 : wr.cell? a = some (.int .i64 x) := by
              have e : a.add 0 = a := by unfold Addr.add; split <;> simp_all
              rwa [e] at hcx
            clear hx hy g4
            have hE4 : ∀ q : Nat, ((if (∃ z, Z[0]? = some z ∧ z < 0) ∨ (∃ z, Z[Z.length - 1]? = some z ∧ n ≤ z) then 80 else 0 : Nat) = q) → batE n Z = q := fun q h => by
              unfold batE
              rw [if_neg HN.out, if_neg (by have := HM.out; have := HB2.out; omega), if_neg (fun hh => hh HRISE.out)]
              exact h
            have HE4 := Lib.hid hE4
            clear hE4 hk
            by_cases hx0 : x < 0
            · have HE : Hid (batE n Z = 80) := Lib.hid (HE4.out _ (if_pos (.inl ⟨x, HXY.out.1, hx0⟩)))
              go_wp2_with fail
              go_ret2
              exact batP_no HE.out (by decide) HX.out.2
            · by_cases hyn : n ≤ y
              · have HE : Hid (batE n Z = 80) := Lib.hid (HE4.out _ (if_pos (.inr ⟨y, HXY.out.2, hyn⟩)))
                go_wp2_with fail
                go_ret2
                exact batP_no HE.out (by decide) HX.out.2
              · have HE : Hid (batE n Z = 0) := Lib.hid (HE4.out _ (if_neg (by
                  rintro (⟨z, h1, h2⟩ | ⟨z, h1, h2⟩)
                  · rw [HXY.out.1] at h1; cases h1; exact hx0 h2
                  · rw [HXY.out.2] at h1; cases h1; exact hyn h2)))
                obtain ⟨N, hNn⟩ : ∃ N : Nat, n = (N : Int) := ⟨n.toNat, by have := HN.out; omega⟩
                subst hNn
                have CO : Hid (Calls Tryd.prog 62 #[.agg #[.int .i64 0, .int .i64 (N : Int)], .slice (some a) m c] wr (OutL wr (restT (lookZ Z) 0 N))) := Lib.hid (by
                  have h := others_any Z (.slice (some a) Z.length c) N 0 wr (by have := HN.out; omega) (by have := HN.out; omega) HX.out.1
                  rw [Nat.zero_add, ← HM.out] at h
                  exact h)
                go_wp2_with (go_at_call 62; (with_reducible refine CO.out.mono ?_); rintro r w6 ⟨⟨p6, c6, rfl, hh, ho⟩, hb⟩; have HR := Lib.hid (And.intro hh (And.intro ho hb)); clear hh ho hb)
                go_ret2
                exact ⟨fun e => absurd HE.out e, fun _ => ⟨p6, c6, by rw [Int.toNat_natCast]; rfl, by rw [Int.toNat_natCast]; exact HR.out.1, by rw [Int.toNat_natCast]; exact fun g hg => Nat.le_trans HX.out.2.size (HR.out.2.1 g hg)⟩, below_onS HX.out.2 HR.out.2.2 HX.out.2.size⟩
end Go.Proofs.YteknpnanmbfhfaaDoor
