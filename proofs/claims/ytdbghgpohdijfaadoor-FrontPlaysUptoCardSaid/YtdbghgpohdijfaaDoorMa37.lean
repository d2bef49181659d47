/- Plain: pieces pushed one by one over a span; the hashes of a span of a span. -/
import Derived.Test.YtdbghgpohdijfaaDoorMa34
import Derived.Test.YtdbghgpohdijfaaDoorMa35
namespace Go.Proofs.YtdbghgpohdijfaaDoor
open Go.RowKit Go.Scr Go.ChangeMaps Go.MapKept
set_option linter.unusedVariables false
/-- where the j-th piece of a span begins -/
def begA (b e j : Nat) : Nat := match (cutA b e)[j]? with | some x => x.1 | none => e
theorem begA_zero {b e : Nat} (h : b ≤ e) : begA b e 0 = b := by
  unfold begA
  by_cases hb : b < e
  · rw [cutA_cons hb]; rfl
  · rw [cutA_nil (by omega)]
    show e = b
    omega
theorem begA_succ {b e : Nat} (h : b < e) (j : Nat) : begA b e (j + 1) = begA (b + 2 ^ lvA b (e - b)) e j := by
  unfold begA
  rw [cutA_cons h]
  rfl
theorem rowA_length (val : Nat → Nat → ByteArray) (b e : Nat) : (rowA val b e).length = (cutA b e).length := by unfold rowA; rw [List.length_map]
theorem begA_next {val : Nat → Nat → ByteArray} {x : Pc} (d : Nat) : ∀ b e j, e - b = d → b ≤ e → (rowA val b e)[j]? = some x → x.1 = begA b e j ∧ begA b e (j + 1) = x.1 + 2 ^ x.2.1 ∧ 2 ^ x.2.1 ∣ x.1 ∧ x.2.2 = val x.1 x.2.1 ∧ x.1 + 2 ^ x.2.1 ≤ e ∧ b ≤ x.1 := by
  induction d using Nat.strongRecOn with
  | ind d ih =>
  intro b e j hd hbe hx
  by_cases h : b < e
  · have hp : 0 < 2 ^ lvA b (e - b) := Nat.pos_of_ne_zero (by simp)
    have hle := lvA_le (b := b) (d := e - b) (by omega)
    have hdv := lvA_dvd (b := b) (d := e - b) (by omega)
    rw [rowA_cons h] at hx
    cases j with
    | zero =>
      simp at hx
      subst hx
      refine ⟨(begA_zero hbe).symm, ?_, hdv, rfl, by show b + 2 ^ lvA b (e - b) ≤ e; omega, Nat.le_refl _⟩
      rw [begA_succ h, begA_zero (by omega)]
    | succ j =>
      obtain ⟨h1, h2, h3, h4, h5, h6⟩ := ih (e - (b + 2 ^ lvA b (e - b))) (by omega) (b + 2 ^ lvA b (e - b)) e j rfl (by omega) (by simpa using hx)
      exact ⟨by rw [begA_succ h]; exact h1, by rw [begA_succ h]; exact h2, h3, h4, h5, by omega⟩
  · rw [rowA_nil (by omega)] at hx
    simp at hx
end Go.Proofs.YtdbghgpohdijfaaDoor
/- A row's nodes; what it tells as a range. -/
namespace Go.Proofs.YtdbghgpohdijfaaDoor
open Go.RowKit Go.Scr Go.ChangeMaps Go.MapKept
set_option linter.unusedVariables false
set_option maxRecDepth 100000 in
set_option maxHeartbeats 4000000 in
theorem fnodesF_any {w : World} {eb : Nat} {T : TypeId} {rest : List Value} {P : List Pc} {v : Value} (H : FrI w eb T rest P v) (hl : P.length ≤ 4096) :
    Calls Tryd.prog 24 #[rowP eb] w fun o w' => ∃ v, o = .returned v ∧ LfI w w' v (P.map fun x => x.2.2).length (P.map fun x => x.2.2) := by
  have hfr := H
  obtain ⟨K, hK⟩ : ∃ K, K = P.map fun x => x.2.2 := ⟨_, rfl⟩
  have hKP : K = P.map fun x => x.2.2 := hK
  rw [← hK]
  obtain ⟨n, hn⟩ : ∃ n, n = P.length := ⟨_, rfl⟩
  have hKn : K.length = n := by rw [hKP, List.length_map, hn]
  obtain ⟨p, c, rfl, hnc, _⟩ := hfr.hd.cells
  rw [hKn]
  rw [← hn] at hfr hnc hl
  have c0 : w.cell? ⟨eb, 0, none⟩ = some (.slice p n c) := cellB hfr.box rfl
  have HF := Lib.hid hfr.hd
  have HK : Hid (n = P.length ∧ K.length = n ∧ K = P.map fun x => x.2.2) := Lib.hid ⟨hn, hKn, hKP⟩
  have HI0 : Hid (LfI w w (.slice none 0 0) 0 (K.take 0)) := Lib.hid ⟨Below.refl _ _, ⟨by rw [List.take_zero]; rfl, .inl ⟨rfl, rfl⟩⟩, fun g hg => nomatch hg⟩
  clear H hfr hK hKP hKn hn
  go_enter Tryd.func24, Tryd.ntmps24
  go_wp2_with fail
  clear c0
  go_loopw [3, 11] (fun l k wr => ∃ (i : Nat) (q : Option Addr) (d : Nat), k = .int .i64 (i : Int) ∧ l = .slice q i d ∧ i ≤ n ∧ Hid (LfI w wr (.slice q i d) i (K.take i))) (fun _ k _ => n - (intOf k).toNat)
  case atStart => exact ⟨0, none, 0, rfl, rfl, Nat.zero_le _, HI0⟩
  case round =>
    clear HI0
    obtain ⟨i, q, d, rfl, rfl, hi, HI⟩ := hrel
    by_cases hlt : i < n
    · have hli : (i : Int) < (n : Int) := by omega
      have hi0 : (0 : Int) ≤ (i : Int) := by omega
      obtain ⟨⟨xb, xl, xs⟩, hx⟩ : ∃ x, P[i]? = some x := ⟨P[i]'(by have := HK.out; omega), List.getElem?_eq_getElem _⟩
      obtain ⟨g, rfl, hg⟩ := pcs_get HF.out hx
      obtain ⟨d0, d1, d2⟩ := hg wr HI.out.b
      have HTK : Hid (K.take (i + 1) = K.take i ++ [xs]) := Lib.hid (by rw [List.take_add_one, HK.out.2.2, List.getElem?_map, hx]; rfl)
      have HONE : Hid (∀ u ∈ [Value.string xs], u.oneCell' = true) := Lib.hid (fun u hu => by rw [List.mem_singleton.1 hu]; rfl)
      have HHD : Hid (∀ o, Held (wr.alloc o) 9 1 (.slice q i d) i ((K.take i).map Value.string)) := Lib.hid (fun o => HI.out.h.below ((Below.refl _ _).alloc (Nat.le_refl _) o))
      have HP5 : Hid (∀ o cs T v5 w5, Grew 9 1 ((wr.alloc o).alloc (.cells cs T)) (.slice q i d) i 1 ((K.take i).map Value.string) [.string xs] v5 w5 → LfI w w5 v5 (i + 1) (K.take (i + 1))) := Lib.hid (fun o cs T v5 w5 g5 => by rw [HTK.out]; exact (HI.out.below ((Below.refl _ _).alloc (Nat.le_refl _) o)).push g5)
      have hl1 : (i + 1) * 16 ≤ 140737488355328 := by omega
      have hl2 : i + 1 ≤ 140737488355328 := by omega
      have HLT := Lib.hid hlt
      clear hlt hx hg
      go_wp2_with (at_builtin; refine wpList_grew (v := .slice q i d) rfl _ _ rfl Tryd.underlying22 (.string ⟨#[]⟩) 1 info_strT rfl (by decide) [.string xs] 1 (by simp [Act.eval]) (by simp [Act.eval]) (HHD.out _) rfl rfl (by decide) HONE.out hl1 hl2 ?_; intro v5 w5 hg5; obtain ⟨p5, c5, rfl, _⟩ := hg5.held.cells; have HI5 := Lib.hid (HP5.out _ _ _ _ _ hg5); clear hg5)
      exact ⟨⟨i + 1, p5, c5, by simp, rfl, HLT.out, HI5⟩, by show n - ((i : Int) + 1).toNat < n - (i : Int).toNat; have := HLT.out; omega⟩
    · obtain rfl : i = n := by omega
      have hli : ¬ (i : Int) < (i : Int) := by omega
      clear hlt
      go_wp2_with fail
      go_ret
      exact ⟨_, rfl, by have := HI.out; rwa [List.take_of_length_le (by have := HK.out.2.1; omega)] at this⟩
abbrev rgA (b e : Nat) (v : Value) : Value := .agg #[.int .i64 (b : Int), .int .i64 (e : Int), v]
theorem blk_set3 {w : World} {g : Nat} {a b c x y z : Value} {T : TypeId} (h : w.heap[g]? = some (.cells #[a, b, c] T (0, 0))) : (((w.setCell ⟨g, 0, none⟩ x).setCell ⟨g, 1, none⟩ y).setCell ⟨g, 2, none⟩ z).heap[g]? = some (.cells #[x, y, z] T (0, 0)) := by
  have := blk_set (blk_set (blk_set h 0 x) 1 y) 2 z
  exact this
set_option maxRecDepth 100000 in
set_option maxHeartbeats 4000000 in
theorem told_any {w : World} {eb : Nat} {T : TypeId} {rest : List Value} {P : List Pc} {v : Value} (H : FrI w eb T rest P v) (hl : P.length ≤ 4096) (b e : Nat) :
    Calls Tryd.prog 89 #[rowP eb, .int .i64 (b : Int), .int .i64 (e : Int)] w fun o w' => ∃ u, o = .returned (rgA b e u) ∧ LfI w w' u (P.map fun x => x.2.2).length (P.map fun x => x.2.2) := by
  obtain ⟨K, hK⟩ : ∃ K, K = P.map fun x => x.2.2 := ⟨_, rfl⟩
  rw [← hK]
  obtain ⟨n, hn⟩ : ∃ n, n = K.length := ⟨_, rfl⟩
  rw [← hn]
  obtain ⟨bs, hbs⟩ : ∃ x, x = w.heap.size := ⟨_, rfl⟩
  obtain ⟨w1, hw1⟩ : ∃ x, x = w.alloc (.cells #[.int .i64 0, .int .i64 0, .slice none 0 0] 68) := ⟨_, rfl⟩
  have hb1 : Below w.heap.size w w1 := by rw [hw1]; exact (Below.refl _ _).alloc (Nat.le_refl _) _
  have hx1 : w1.heap[bs]? = some (.cells #[.int .i64 0, .int .i64 0, .slice none 0 0] 68 (0, 0)) := by rw [hw1, hbs]; exact heap_alloc_new w _
  have CN : Hid (Calls Tryd.prog 24 #[rowP eb] w1 fun o w' => ∃ u, o = .returned u ∧ LfI w1 w' u n K ∧ w'.heap[bs]? = some (.cells #[.int .i64 0, .int .i64 0, .slice none 0 0] 68 (0, 0))) := Lib.hid ((fnodesF_any (H.below hb1) hl).mono (by
    rintro o w' ⟨u, rfl, h⟩
    rw [← hK, ← hn] at h
    exact ⟨u, rfl, h, blk_below hx1 h.b (blk_lt hx1)⟩))
  have HB1 : Hid (Below w.heap.size w w1 ∧ bs = w.heap.size) := Lib.hid ⟨hb1, hbs⟩
  have HW1 := Lib.hid hw1
  have HBS := Lib.hid hbs
  clear H hl hK hn hb1 hx1 hw1 hbs
  go_enter Tryd.func89, Tryd.ntmps89
  go_upto_region 1 with fail
  rw [← HW1.out, ← HBS.out]
  go_wp2_with (go_at_call 24; with_reducible refine CN.out.mono ?_; rintro o w5 ⟨u, rfl, h, hx5⟩; obtain ⟨pu, cu, rfl, _⟩ := h.h.cells; have H5 := Lib.hid h; have HX5 := Lib.hid hx5; have k0 : w5.cell? ⟨bs, 0, none⟩ = some (.int .i64 0) := cellB hx5 rfl; have k1 : w5.cell? ⟨bs, 1, none⟩ = some (.int .i64 0) := cellB hx5 rfl; have k2 : w5.cell? ⟨bs, 2, none⟩ = some (.slice none 0 0) := cellB hx5 rfl; have f0 : w5.frozen? ⟨bs, 0, none⟩ = false := frozB hx5; have f1 : w5.frozen? ⟨bs, 1, none⟩ = false := frozB hx5; have f2 : w5.frozen? ⟨bs, 2, none⟩ = false := frozB hx5; clear h hx5)
  have hx6 := blk_set3 (x := .int .i64 (b : Int)) (y := .int .i64 (e : Int)) (z := .slice pu n cu) HX5.out
  have m0 := cellB (k := 0) hx6 rfl
  have m1 := cellB (k := 1) hx6 rfl
  have m2 := cellB (k := 2) hx6 rfl
  have h5 := H5.out
  have hb := HB1.out
  have hle : w.heap.size ≤ bs := by omega
  refine bodyPost_ret (v := rgA b e (.slice pu n cu)) (by simp [results, Tryd.results89, go_sem, m0, m1, m2]) rfl ⟨_, rfl, ⟨?_, ?_, ?_⟩⟩
  · exact (((hb.1.trans (h5.b.mono hb.1.size)).setCell (p := ⟨bs, 0, none⟩) hle _).setCell (p := ⟨bs, 1, none⟩) hle _).setCell (p := ⟨bs, 2, none⟩) hle _
  · refine h5.h.keep fun g hg => ?_
    have hgb : g ≠ bs := fun e => by
      have h9 := h5.o g hg
      have h8 := blk_lt (show w1.heap[bs]? = some _ by rw [HW1.out, HBS.out]; exact heap_alloc_new w _)
      omega
    rw [Below.heap_setCell _ ⟨bs, 2, none⟩ _ g hgb, Below.heap_setCell _ ⟨bs, 1, none⟩ _ g hgb, Below.heap_setCell _ ⟨bs, 0, none⟩ _ g hgb]
  · exact fun g hg => Nat.le_trans hb.1.size (h5.o g hg)
end Go.Proofs.YtdbghgpohdijfaaDoor
