/- The right edge of a growing tree: made, a leaf taken, its root. -/
import Derived.Test.YtdbghgpohdijfaaDoorMa28
import Derived.Test.YtdbghgpohdijfaaDoorMa25
import Derived.Test.YtdbghgpohdijfaaDoorMa23
namespace Go.Proofs.YtdbghgpohdijfaaDoor
open Go.RowKit Go.Scr Go.ChangeMaps Go.MapKept
set_option linter.unusedVariables false
theorem cutA_mem {x : Nat × Nat} (d : Nat) : ∀ b e, e - b = d → x ∈ cutA b e → b ≤ x.1 ∧ x.1 + 2 ^ x.2 ≤ e := by
  induction d using Nat.strongRecOn with
  | ind d ih =>
  intro b e hd hx
  by_cases h : b < e
  · rw [cutA_cons h] at hx
    have hp : 0 < 2 ^ lvA b (e - b) := Nat.pos_of_ne_zero (by simp)
    have hle := lvA_le (b := b) (d := e - b) (by omega)
    rcases List.mem_cons.1 hx with rfl | h2
    · exact ⟨Nat.le_refl _, by show b + 2 ^ lvA b (e - b) ≤ e; omega⟩
    · have := ih (e - (b + 2 ^ lvA b (e - b))) (by omega) _ _ rfl h2
      exact ⟨by omega, this.2⟩
  · rw [cutA_nil (by omega)] at hx
    exact nomatch hx
theorem cutA_len (d : Nat) : ∀ b e, e - b = d → (cutA b e).length ≤ d := by
  induction d using Nat.strongRecOn with
  | ind d ih =>
  intro b e hd
  by_cases h : b < e
  · rw [cutA_cons h]
    have hp : 0 < 2 ^ lvA b (e - b) := Nat.pos_of_ne_zero (by simp)
    have := ih (e - (b + 2 ^ lvA b (e - b))) (by omega) (b + 2 ^ lvA b (e - b)) e rfl
    simp only [List.length_cons]
    omega
  · rw [cutA_nil (by omega)]
    exact Nat.zero_le _
theorem rowA_len (val : Nat → Nat → ByteArray) (b e : Nat) : (rowA val b e).length ≤ e - b := by
  unfold rowA
  rw [List.length_map]
  exact cutA_len _ b e rfl
theorem rowA_mem {val : Nat → Nat → ByteArray} {b e : Nat} {x : Pc} (h : x ∈ rowA val b e) : b ≤ x.1 ∧ x.1 + 2 ^ x.2.1 ≤ e := by
  unfold rowA at h
  obtain ⟨y, hy, rfl⟩ := List.mem_map.1 h
  exact cutA_mem _ b e rfl hy
theorem rowA_congr {val val' : Nat → Nat → ByteArray} {b e : Nat} (h : ∀ x l, b ≤ x → x + 2 ^ l ≤ e → val x l = val' x l) : rowA val b e = rowA val' b e := by
  unfold rowA
  refine List.map_congr_left fun y hy => ?_
  have := cutA_mem _ b e rfl hy
  rw [h y.1 y.2 this.1 this.2]
theorem partL_left {L M : List ByteArray} {b e : Nat} (he : e ≤ L.length) : partL (L ++ M) b e = partL L b e := by
  unfold partL
  by_cases hbe : b ≤ e
  · rw [List.drop_append_of_le_length (by omega), List.take_append_of_le_length (by rw [List.length_drop]; omega)]
  · rw [show e - b = 0 by omega, List.take_zero, List.take_zero]
theorem partL_last (L : List ByteArray) (x : ByteArray) : partL (L ++ [x]) L.length (L.length + 1) = x := by
  unfold partL
  rw [List.drop_left, Nat.add_sub_cancel_left, List.take_of_length_le (by simp)]
  exact rootL_one _ _ _
/-- one leaf more, pushed -/
theorem push_leaf (L : List ByteArray) (x : ByteArray) : (pushR nodeS (rowA (valF L 0) 0 L.length).reverse (L.length, 0, x)).reverse = rowA (valF (L ++ [x]) 0) 0 (L.length + 1) := by
  have e1 : rowA (valF L 0) 0 L.length = rowA (valF (L ++ [x]) 0) 0 L.length := rowA_congr fun b l _ h => by
    unfold valF
    rw [Nat.sub_zero, partL_left h]
  have e2 : valF (L ++ [x]) 0 L.length 0 = x := by
    unfold valF
    rw [Nat.sub_zero, Nat.pow_zero, partL_last]
  have := pushR_row (nd := nodeS) (val := valF (L ++ [x]) 0) (E := L.length + 1) (l := 0) _ 0 L.length rfl (Nat.zero_le _) (by simp) (by simp) (by
    have h9 := valF_nd (L ++ [x]) 0
    rw [List.length_append, Nat.zero_add] at h9
    exact h9)
  rw [e2, Nat.pow_zero, ← e1] at this
  rw [this, List.reverse_reverse]
/-- an edge that has taken the leaves L; its blocks lie above W -/
structure EdI (W w : World) (eb : Nat) (L : List ByteArray) (v : Value) : Prop where
  b : Below W.heap.size W w
  fr : FrI w eb 64 [.int .i64 (L.length : Int)] (rowA (valF L 0) 0 L.length) v
  lo : W.heap.size ≤ eb ∧ ∀ g, v.ownBlock = some g → W.heap.size ≤ g
  n : L.length ≤ 4096
def EdU (W w : World) (eb : Nat) (L : List ByteArray) : Prop := ∃ v, EdI W w eb L v
theorem EdU.below {W w w' : World} {eb : Nat} {L : List ByteArray} (H : EdU W w eb L) (hb : Below w.heap.size w w') : EdU W w' eb L := by
  obtain ⟨v, h⟩ := H
  exact ⟨v, h.b.trans (hb.mono h.b.size), h.fr.below hb, h.lo, h.n⟩
theorem EdU.b {W w : World} {eb : Nat} {L : List ByteArray} (H : EdU W w eb L) : Below W.heap.size W w := by
  obtain ⟨v, h⟩ := H
  exact h.b
theorem FrI.size {w : World} {eb : Nat} {T : TypeId} {a u : Value} {P : List Pc} {v : Value} (H : FrI w eb T [a] P v) : FrI (w.setCell ⟨eb, 1, none⟩ u) eb T [u] P v :=
  ⟨blk_set H.box 1 u, H.hd.keep fun q hq => Below.heap_setCell w ⟨eb, 1, none⟩ u q (fun e => H.ne (by rw [← show q = eb from e]; exact hq)), H.ne⟩
theorem EdU.root {W w : World} {eb : Nat} {L : List ByteArray} (H : EdU W w eb L) (ht : Tabs w) :
    Calls Tryd.prog 27 #[rowP eb] w fun o w' => o = .returned (.string (partL L 0 L.length)) ∧ Below w.heap.size w w' := by
  obtain ⟨v, h⟩ := H
  by_cases e : L.length = 0
  · have hL : L = [] := List.eq_nil_of_length_eq_zero e
    subst hL
    have h1 : rowA (valF [] 0) 0 0 = [] := rowA_nil (Nat.le_refl _)
    have h2 := h.fr
    rw [show (([] : List ByteArray).length) = 0 from rfl, h1] at h2
    have h3 : partL [] 0 0 = hempty := by unfold partL; rw [List.drop_zero, Nat.sub_self, List.take_zero]; exact rootL_nil _ _
    show Calls _ _ _ _ fun o w' => o = .returned (.string (partL [] 0 0)) ∧ _
    rw [h3]
    exact froot_none h2 ht
  · have hr : rootA nodeS (rowA (valF L 0) 0 L.length) = partL L 0 L.length := by
      have := rootA_row (L := L) L.length 0 (by omega) (by omega) (.inl rfl)
      rwa [Nat.zero_add] at this
    have hl := rowA_len (valF L 0) 0 L.length
    have hne : rowA (valF L 0) 0 L.length ≠ [] := rowA_ne (by omega)
    have hn := h.n
    have h2 := h.fr
    rw [← hr]
    obtain ⟨P, x, hP⟩ : ∃ P x, rowA (valF L 0) 0 L.length = P ++ [x] := ⟨_, _, (List.dropLast_concat_getLast hne).symm⟩
    rw [hP] at h2 hl ⊢
    refine froot_some h2 ht ?_
    rw [List.length_append] at hl
    omega
set_option maxRecDepth 100000 in
set_option maxHeartbeats 1000000 in
theorem fnew_any {W w : World} (hb : Below W.heap.size W w) : Calls Tryd.prog 43 #[] w fun o w' => ∃ eb, o = .returned (.pointer (some ⟨eb, 0, none⟩)) ∧ EdU W w' eb [] := by
  have HB := Lib.hid hb
  clear hb
  go_enter Tryd.func43, Tryd.ntmps43
  go_wp2
  go_ret
  refine ⟨w.heap.size, rfl, .slice none 0 0, HB.out.trans (((Below.refl _ _).alloc (Nat.le_refl _) _).mono HB.out.size), ⟨heap_alloc_new w _, ?_, fun e => nomatch e⟩, ⟨HB.out.size, fun g hg => nomatch hg⟩, Nat.zero_le _⟩
  rw [show rowA (valF [] 0) 0 (([] : List ByteArray).length) = [] from rowA_nil (Nat.le_refl _)]
  exact ⟨rfl, .inl ⟨rfl, rfl⟩⟩
set_option maxRecDepth 100000 in
set_option maxHeartbeats 2000000 in
theorem fadd_any {W w : World} {eb : Nat} {L : List ByteArray} {x : ByteArray} {v : Value} (h : EdI W w eb L v) (hB : Bas W W.heap.size) (hx : x.size = 32) (hn : L.length < 4096) :
    Calls Tryd.prog 44 #[.pointer (some ⟨eb, 0, none⟩), .string x] w fun o w' => o = .returned (.int .i64 0) ∧ ∃ v', EdI W w' eb (L ++ [x]) v' ∧ Chg (ebQ eb v) w w' ∧ ∀ q, v'.ownBlock = some q → v.ownBlock = some q ∨ w.heap.size ≤ q := by
  obtain ⟨n, hnn⟩ : ∃ n, n = L.length := ⟨_, rfl⟩
  have hnb : n < 4096 := by omega
  have hfr := h.fr
  rw [← hnn] at hfr
  have hxs : (x.size : Int) = 32 := by omega
  have c0 : w.cell? ⟨eb, 1, none⟩ = some (.int .i64 (n : Int)) := cellB hfr.box rfl
  have hni : ((n : Int) == 1099511627776) = false := by rw [beq_eq_false_iff_ne]; omega
  have hni2 : ¬ (n : Int) = 1099511627776 := by omega
  have HP : Hid (∀ w2, Below w.heap.size w w2 → Calls Tryd.prog 88 #[rowP eb, .agg #[.int .i64 (n : Int), .int .i64 0, .string x]] w2 fun o w' => o = .returned (.tuple #[]) ∧ w'.cell? ⟨eb, 1, none⟩ = some (.int .i64 (n : Int)) ∧ w'.frozen? ⟨eb, 1, none⟩ = false ∧ ∃ v', EdI W (w'.setCell ⟨eb, 1, none⟩ (.int .i64 ((n : Int) + 1))) eb (L ++ [x]) v' ∧ Chg (ebQ eb v) w (w'.setCell ⟨eb, 1, none⟩ (.int .i64 ((n : Int) + 1))) ∧ ∀ q, v'.ownBlock = some q → v.ownBlock = some q ∨ w.heap.size ≤ q) := Lib.hid fun w2 hb2 => by
    have hf2 := hfr.below hb2
    have hW2 := h.b.trans (hb2.mono h.b.size)
    rw [hnn, ← List.reverse_reverse (rowA (valF L 0) 0 L.length)] at hf2
    have hlen := rowA_len (valF L 0) 0 L.length
    have hmem : ∀ y ∈ (rowA (valF L 0) 0 L.length).reverse, y.1 ≤ 1099511627776 ∧ y.2.1 ≤ 40 := fun y hy => by
      have h1 := rowA_mem (List.mem_reverse.1 hy)
      have h2 := lt_two y.2.1
      refine ⟨by omega, ?_⟩
      have h3 : 2 ^ y.2.1 ≤ 2 ^ 12 := by omega
      have := two_le' h3
      omega
    refine (fpush_any (p := (L.length, 0, x)) hf2 (hB.below hW2) h.lo hmem ⟨by show L.length ≤ _; omega, by show 0 ≤ 41; omega⟩ (by rw [List.length_reverse]; omega)).mono ?_ |> fun hc => by
      rw [hnn]; exact hc
    rintro o w' ⟨rfl, v', f', c', o'⟩
    rw [push_leaf] at f'
    refine ⟨rfl, cellB f'.box rfl, frozB f'.box, v', ⟨?_, ?_, ⟨h.lo.1, fun g hg => ?_⟩, ?_⟩, Chg.set (Chg.below_to hb2 c') (.inl rfl) _, fun q hq => (o' q hq).imp id (fun h5 => Nat.le_trans hb2.size h5)⟩
    · have hq : ∀ i, ebQ eb v i → W.heap.size ≤ i := fun i hi => by
        rcases hi with rfl | hi
        · exact h.lo.1
        · exact h.lo.2 i hi
      exact (below_chg hW2 c' hq hW2.size).setCell (p := ⟨eb, 1, none⟩) (by show W.heap.size ≤ eb; exact h.lo.1) _
    · have := f'.size (u := .int .i64 ((L.length : Int) + 1))
      rw [List.length_append]
      exact this
    · rcases o' g hg with h1 | h1
      · exact h.lo.2 g h1
      · exact Nat.le_trans hW2.size h1
    · rw [List.length_append]
      show L.length + 1 ≤ 4096
      omega
  have HD : Hid (Below w.heap.size w w.drew) := Lib.hid (Below.refl _ _).drew
  have hd0 : w.drew.cell? ⟨eb, 1, none⟩ = some (.int .i64 (n : Int)) := c0
  have HS := Lib.hid hd0
  clear h hn hfr hnn hx hB
  go_enter Tryd.func44, Tryd.ntmps44
  go_upto_region 5 with fail
  go_region_held3 (fun w' => w'.cell? ⟨eb, 1, none⟩ = some (.int .i64 (n : Int))) (first | exact HS2.out | exact HS.out) (first
    | (go_at_call 88; (with_reducible refine (HP.out _ HD.out).mono ?_); rintro o w2 ⟨rfl, d0, d1, hd⟩; have HS2 := Lib.hid d0; have HE := Lib.hid hd; clear hd))
  go_wp2
  go_ret
  exact ⟨rfl, HE.out⟩
end Go.Proofs.YtdbghgpohdijfaaDoor
/- Leaves of a span that is there. -/
namespace Go.Proofs.YtdbghgpohdijfaaDoor
open Go.RowKit Go.Scr Go.ChangeMaps Go.MapKept
set_option linter.unusedVariables false
/-- an own list of texts, above w -/
structure LfI (w wr : World) (v : Value) (n : Nat) (P : List ByteArray) : Prop where
  b : Below w.heap.size w wr
  h : Held wr 9 1 v n (P.map Value.string)
  o : ∀ g, v.ownBlock = some g → w.heap.size ≤ g
theorem LfI.below {w wr w' : World} {v : Value} {n : Nat} {P : List ByteArray} (H : LfI w wr v n P) (hb : Below wr.heap.size wr w') : LfI w w' v n P :=
  ⟨H.b.trans (hb.mono H.b.size), H.h.below hb, H.o⟩
theorem LfI.push {w wr w' : World} {v v' : Value} {n : Nat} {P : List ByteArray} {x : ByteArray} {cs : Array Value} {T : TypeId} (H : LfI w wr v n P) (g : Grew 9 1 (wr.alloc (.cells cs T)) v n 1 (P.map Value.string) [.string x] v' w') : LfI w w' v' (n + 1) (P ++ [x]) := by
  have hb1 : Below w.heap.size w (wr.alloc (.cells cs T)) := H.b.alloc H.b.size _
  have hgr := g.grown
  refine ⟨⟨hgr.os.trans hb1.os, hgr.tape.trans hb1.tape, hgr.output.trans hb1.output, Nat.le_trans hb1.size hgr.size, fun i hi => (hgr.block i (Nat.lt_of_lt_of_le hi hb1.size) (fun e => by have := H.o i e.symm; omega)).trans (hb1.block i hi)⟩, ?_, fun q hq => ?_⟩
  · rw [List.map_append]
    exact g.held
  · rcases g.at with ⟨e, _⟩ | ⟨e, _⟩
    · exact H.o q (by rw [← e]; exact hq)
    · rw [hq] at e
      have h1 := Option.some.inj e
      have h2 := hb1.size
      omega
end Go.Proofs.YtdbghgpohdijfaaDoor
