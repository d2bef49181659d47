/- The right edge of a growing tree: made, a leaf taken, its root. -/
import Derived.Test.YtblacbfkaamdgaaDoorMa40
import Derived.Test.YtblacbfkaamdgaaDoorMa30
import Derived.Test.YtblacbfkaamdgaaDoorMa25
import Derived.Test.YtblacbfkaamdgaaDoorMa12
import Derived.BigQuiet
import Derived.LoopTactic
import Derived.Deep.CutBlock
namespace Go.Proofs.YtblacbfkaamdgaaDoor
open Go.RowKit Go.Scr Go.ChangeMaps Go.MapKept
set_option linter.unusedVariables false
theorem cutA_mem {x : Nat × Nat} (d : Nat) : ∀ b e, e - b = d → x ∈ cutA b e → b ≤ x.1 ∧ x.1 + 2 ^ x.2 ≤ e := by
  induction d using Nat.strongRecOn with
  | ind d ih =>
  intro b e hd hx
  by_cases h : b < e
  · rw [cutA_cons h] at hx
    have hp : 0 < 2 ^ lvA b (e - b) := Nat.pos_of_ne_zero (by simp)
    have hle := lvA_le (b := b) (d := e - b) (by omega)
    rcases List.mem_cons.1 hx with rfl | h2
    · exact ⟨Nat.le_refl _, by show b + 2 ^ lvA b (e - b) ≤ e; omega⟩
    · have := ih (e - (b + 2 ^ lvA b (e - b))) (by omega) _ _ rfl h2
      exact ⟨by omega, this.2⟩
  · rw [cutA_nil (by omega)] at hx
    exact nomatch hx
theorem cutA_len (d : Nat) : ∀ b e, e - b = d → (cutA b e).length ≤ d := by
  induction d using Nat.strongRecOn with
  | ind d ih =>
  intro b e hd
  by_cases h : b < e
  · rw [cutA_cons h]
    have hp : 0 < 2 ^ lvA b (e - b) := Nat.pos_of_ne_zero (by simp)
    have := ih (e - (b + 2 ^ lvA b (e - b))) (by omega) (b + 2 ^ lvA b (e - b)) e rfl
    simp only [List.length_cons]
    omega
  · rw [cutA_nil (by omega)]
    exact Nat.zero_le _
theorem rowA_len (val : Nat → Nat → ByteArray) (b e : Nat) : (rowA val b e).length ≤ e - b := by
  unfold rowA
  rw [List.length_map]
  exact cutA_len _ b e rfl
theorem rowA_mem {val : Nat → Nat → ByteArray} {b e : Nat} {x : Pc} (h : x ∈ rowA val b e) : b ≤ x.1 ∧ x.1 + 2 ^ x.2.1 ≤ e := by
  unfold rowA at h
  obtain ⟨y, hy, rfl⟩ := List.mem_map.1 h
  exact cutA_mem _ b e rfl hy
theorem rowA_congr {val val' : Nat → Nat → ByteArray} {b e : Nat} (h : ∀ x l, b ≤ x → x + 2 ^ l ≤ e → val x l = val' x l) : rowA val b e = rowA val' b e := by
  unfold rowA
  refine List.map_congr_left fun y hy => ?_
  have := cutA_mem _ b e rfl hy
  rw [h y.1 y.2 this.1 this.2]
theorem partL_left {L M : List ByteArray} {b e : Nat} (he : e ≤ L.length) : partL (L ++ M) b e = partL L b e := by
  unfold partL
  by_cases hbe : b ≤ e
  · rw [List.drop_append_of_le_length (by omega), List.take_append_of_le_length (by rw [List.length_drop]; omega)]
  · rw [show e - b = 0 by omega, List.take_zero, List.take_zero]
theorem partL_last (L : List ByteArray) (x : ByteArray) : partL (L ++ [x]) L.length (L.length + 1) = x := by
  unfold partL
  rw [List.drop_left, Nat.add_sub_cancel_left, List.take_of_length_le (by simp)]
  exact rootL_one _ _ _
/-- one leaf more, pushed -/
theorem push_leaf (L : List ByteArray) (x : ByteArray) : (pushR nodeS (rowA (valF L 0) 0 L.length).reverse (L.length, 0, x)).reverse = rowA (valF (L ++ [x]) 0) 0 (L.length + 1) := by
  have e1 : rowA (valF L 0) 0 L.length = rowA (valF (L ++ [x]) 0) 0 L.length := rowA_congr fun b l _ h => by
    unfold valF
    rw [Nat.sub_zero, partL_left h]
  have e2 : valF (L ++ [x]) 0 L.length 0 = x := by
    unfold valF
    rw [Nat.sub_zero, Nat.pow_zero, partL_last]
  have := pushR_row (nd := nodeS) (val := valF (L ++ [x]) 0) (E := L.length + 1) (l := 0) _ 0 L.length rfl (Nat.zero_le _) (by simp) (by simp) (by
    have h9 := valF_nd (L ++ [x]) 0
    rw [List.length_append, Nat.zero_add] at h9
    exact h9)
  rw [e2, Nat.pow_zero, ← e1] at this
  rw [this, List.reverse_reverse]
/-- an edge that has taken the leaves L; its blocks lie above W -/
structure EdI (W w : World) (eb : Nat) (L : List ByteArray) (v : Value) : Prop where
  b : Below W.heap.size W w
  fr : FrI w eb 70 [.int .i64 (L.length : Int)] (rowA (valF L 0) 0 L.length) v
  lo : W.heap.size ≤ eb ∧ ∀ g, v.ownBlock = some g → W.heap.size ≤ g
  n : L.length ≤ 4096
def EdU (W w : World) (eb : Nat) (L : List ByteArray) : Prop := ∃ v, EdI W w eb L v
theorem EdU.below {W w w' : World} {eb : Nat} {L : List ByteArray} (H : EdU W w eb L) (hb : Below w.heap.size w w') : EdU W w' eb L := by
  obtain ⟨v, h⟩ := H
  exact ⟨v, h.b.trans (hb.mono h.b.size), h.fr.below hb, h.lo, h.n⟩
theorem EdU.b {W w : World} {eb : Nat} {L : List ByteArray} (H : EdU W w eb L) : Below W.heap.size W w := by
  obtain ⟨v, h⟩ := H
  exact h.b
theorem FrI.size {w : World} {eb : Nat} {T : TypeId} {a u : Value} {P : List Pc} {v : Value} (H : FrI w eb T [a] P v) : FrI (w.setCell ⟨eb, 1, none⟩ u) eb T [u] P v :=
  ⟨blk_set H.box 1 u, H.hd.keep fun q hq => Below.heap_setCell w ⟨eb, 1, none⟩ u q (fun e => H.ne (by rw [← show q = eb from e]; exact hq)), H.ne⟩
theorem EdU.root {W w : World} {eb : Nat} {L : List ByteArray} (H : EdU W w eb L) (ht : Tabs w) :
    Calls Tryd.prog 29 #[rowP eb] w fun o w' => o = .returned (.string (partL L 0 L.length)) ∧ Below w.heap.size w w' := by
  obtain ⟨v, h⟩ := H
  by_cases e : L.length = 0
  · have hL : L = [] := List.eq_nil_of_length_eq_zero e
    subst hL
    have h1 : rowA (valF [] 0) 0 0 = [] := rowA_nil (Nat.le_refl _)
    have h2 := h.fr
    rw [show (([] : List ByteArray).length) = 0 from rfl, h1] at h2
    have h3 : partL [] 0 0 = hempty := by unfold partL; rw [List.drop_zero, Nat.sub_self, List.take_zero]; exact rootL_nil _ _
    show Calls _ _ _ _ fun o w' => o = .returned (.string (partL [] 0 0)) ∧ _
    rw [h3]
    exact froot_none h2 ht
  · have hr : rootA nodeS (rowA (valF L 0) 0 L.length) = partL L 0 L.length := by
      have := rootA_row (L := L) L.length 0 (by omega) (by omega) (.inl rfl)
      rwa [Nat.zero_add] at this
    have hl := rowA_len (valF L 0) 0 L.length
    have hne : rowA (valF L 0) 0 L.length ≠ [] := rowA_ne (by omega)
    have hn := h.n
    have h2 := h.fr
    rw [← hr]
    obtain ⟨P, x, hP⟩ : ∃ P x, rowA (valF L 0) 0 L.length = P ++ [x] := ⟨_, _, (List.dropLast_concat_getLast hne).symm⟩
    rw [hP] at h2 hl ⊢
    refine froot_some h2 ht ?_
    rw [List.length_append] at hl
    omega
set_option maxRecDepth 100000 in
set_option maxHeartbeats 1000000 in
theorem fnew_any {W w : World} (hb : Below W.heap.size W w) : Calls Tryd.prog 28 #[] w fun o w' => ∃ eb, o = .returned (.pointer (some ⟨eb, 0, none⟩)) ∧ EdU W w' eb [] := by
  have HB := Lib.hid hb
  clear hb
  go_enter Tryd.func28, Tryd.ntmps28
  go_wp2
  go_ret
  refine ⟨w.heap.size, rfl, .slice none 0 0, HB.out.trans (((Below.refl _ _).alloc (Nat.le_refl _) _).mono HB.out.size), ⟨heap_alloc_new w _, ?_, fun e => nomatch e⟩, ⟨HB.out.size, fun g hg => nomatch hg⟩, Nat.zero_le _⟩
  rw [show rowA (valF [] 0) 0 (([] : List ByteArray).length) = [] from rowA_nil (Nat.le_refl _)]
  exact ⟨rfl, .inl ⟨rfl, rfl⟩⟩
set_option maxRecDepth 100000 in
set_option maxHeartbeats 2000000 in
theorem fadd_any {W w : World} {eb : Nat} {L : List ByteArray} {x : ByteArray} {v : Value} (h : EdI W w eb L v) (hB : Bas W W.heap.size) (hx : x.size = 32) (hn : L.length < 4096) :
    Calls Tryd.prog 30 #[.pointer (some ⟨eb, 0, none⟩), .string x] w fun o w' => o = .returned (.int .i64 0) ∧ ∃ v', EdI W w' eb (L ++ [x]) v' ∧ Chg (ebQ eb v) w w' ∧ ∀ q, v'.ownBlock = some q → v.ownBlock = some q ∨ w.heap.size ≤ q := by
  obtain ⟨n, hnn⟩ : ∃ n, n = L.length := ⟨_, rfl⟩
  have hnb : n < 4096 := by omega
  have hfr := h.fr
  rw [← hnn] at hfr
  have hxs : (x.size : Int) = 32 := by omega
  have c0 : w.cell? ⟨eb, 1, none⟩ = some (.int .i64 (n : Int)) := cellB hfr.box rfl
  have hni : ((n : Int) == 1099511627776) = false := by rw [beq_eq_false_iff_ne]; omega
  have hni2 : ¬ (n : Int) = 1099511627776 := by omega
  have HP : Hid (∀ w2, Below w.heap.size w w2 → Calls Tryd.prog 73 #[rowP eb, .agg #[.int .i64 (n : Int), .int .i64 0, .string x]] w2 fun o w' => o = .returned (.tuple #[]) ∧ w'.cell? ⟨eb, 1, none⟩ = some (.int .i64 (n : Int)) ∧ w'.frozen? ⟨eb, 1, none⟩ = false ∧ ∃ v', EdI W (w'.setCell ⟨eb, 1, none⟩ (.int .i64 ((n : Int) + 1))) eb (L ++ [x]) v' ∧ Chg (ebQ eb v) w (w'.setCell ⟨eb, 1, none⟩ (.int .i64 ((n : Int) + 1))) ∧ ∀ q, v'.ownBlock = some q → v.ownBlock = some q ∨ w.heap.size ≤ q) := Lib.hid fun w2 hb2 => by
    have hf2 := hfr.below hb2
    have hW2 := h.b.trans (hb2.mono h.b.size)
    rw [hnn, ← List.reverse_reverse (rowA (valF L 0) 0 L.length)] at hf2
    have hlen := rowA_len (valF L 0) 0 L.length
    have hmem : ∀ y ∈ (rowA (valF L 0) 0 L.length).reverse, y.1 ≤ 1099511627776 ∧ y.2.1 ≤ 40 := fun y hy => by
      have h1 := rowA_mem (List.mem_reverse.1 hy)
      have h2 := lt_two y.2.1
      refine ⟨by omega, ?_⟩
      have h3 : 2 ^ y.2.1 ≤ 2 ^ 12 := by omega
      have := two_le' h3
      omega
    refine (fpush_any (p := (L.length, 0, x)) hf2 (hB.below hW2) h.lo hmem ⟨by show L.length ≤ _; omega, by show 0 ≤ 41; omega⟩ (by rw [List.length_reverse]; omega)).mono ?_ |> fun hc => by
      rw [hnn]; exact hc
    rintro o w' ⟨rfl, v', f', c', o'⟩
    rw [push_leaf] at f'
    refine ⟨rfl, cellB f'.box rfl, frozB f'.box, v', ⟨?_, ?_, ⟨h.lo.1, fun g hg => ?_⟩, ?_⟩, Chg.set (Chg.below_to hb2 c') (.inl rfl) _, fun q hq => (o' q hq).imp id (fun h5 => Nat.le_trans hb2.size h5)⟩
    · have hq : ∀ i, ebQ eb v i → W.heap.size ≤ i := fun i hi => by
        rcases hi with rfl | hi
        · exact h.lo.1
        · exact h.lo.2 i hi
      exact (below_chg hW2 c' hq hW2.size).setCell (p := ⟨eb, 1, none⟩) (by show W.heap.size ≤ eb; exact h.lo.1) _
    · have := f'.size (u := .int .i64 ((L.length : Int) + 1))
      rw [List.length_append]
      exact this
    · rcases o' g hg with h1 | h1
      · exact h.lo.2 g h1
      · exact Nat.le_trans hW2.size h1
    · rw [List.length_append]
      show L.length + 1 ≤ 4096
      omega
  have HD : Hid (Below w.heap.size w w.drew) := Lib.hid (Below.refl _ _).drew
  have hd0 : w.drew.cell? ⟨eb, 1, none⟩ = some (.int .i64 (n : Int)) := c0
  have HS := Lib.hid hd0
  clear h hn hfr hnn hx hB
  go_enter Tryd.func30, Tryd.ntmps30
  go_upto_region 5 with fail
  go_region_held3 (fun w' => w'.cell? ⟨eb, 1, none⟩ = some (.int .i64 (n : Int))) (first | exact HS2.out | exact HS.out) (first
    | (go_at_call 73; (with_reducible refine (HP.out _ HD.out).mono ?_); rintro o w2 ⟨rfl, d0, d1, hd⟩; have HS2 := Lib.hid d0; have HE := Lib.hid hd; clear hd))
  go_wp2
  go_ret
  exact ⟨rfl, HE.out⟩
end Go.Proofs.YtblacbfkaamdgaaDoor
/- Leaves of a span that is there. -/
namespace Go.Proofs.YtblacbfkaamdgaaDoor
open Go.RowKit Go.Scr Go.ChangeMaps Go.MapKept
set_option linter.unusedVariables false
/-- an own list of texts, above w -/
structure LfI (w wr : World) (v : Value) (n : Nat) (P : List ByteArray) : Prop where
  b : Below w.heap.size w wr
  h : Held wr 9 1 v n (P.map Value.string)
  o : ∀ g, v.ownBlock = some g → w.heap.size ≤ g
theorem LfI.below {w wr w' : World} {v : Value} {n : Nat} {P : List ByteArray} (H : LfI w wr v n P) (hb : Below wr.heap.size wr w') : LfI w w' v n P :=
  ⟨H.b.trans (hb.mono H.b.size), H.h.below hb, H.o⟩
theorem LfI.push {w wr w' : World} {v v' : Value} {n : Nat} {P : List ByteArray} {x : ByteArray} {cs : Array Value} {T : TypeId} (H : LfI w wr v n P) (g : Grew 9 1 (wr.alloc (.cells cs T)) v n 1 (P.map Value.string) [.string x] v' w') : LfI w w' v' (n + 1) (P ++ [x]) := by
  have hb1 : Below w.heap.size w (wr.alloc (.cells cs T)) := H.b.alloc H.b.size _
  have hgr := g.grown
  refine ⟨⟨hgr.os.trans hb1.os, hgr.tape.trans hb1.tape, hgr.output.trans hb1.output, Nat.le_trans hb1.size hgr.size, fun i hi => (hgr.block i (Nat.lt_of_lt_of_le hi hb1.size) (fun e => by have := H.o i e.symm; omega)).trans (hb1.block i hi)⟩, ?_, fun q hq => ?_⟩
  · rw [List.map_append]
    exact g.held
  · rcases g.at with ⟨e, _⟩ | ⟨e, _⟩
    · exact H.o q (by rw [← e]; exact hq)
    · rw [hq] at e
      have h1 := Option.some.inj e
      have h2 := hb1.size
      omega
set_option maxRecDepth 100000 in
set_option maxHeartbeats 4000000 in
theorem leaves_any {w : World} {B tb h : Nat} {L : List ByteArray} {col : Col} (t : TreeU w B tb h L col) {b e : Nat} (hbe : b ≤ e) (he : e ≤ L.length) :
    Calls Tryd.prog 33 #[bpT tb, .agg #[.int .i64 (b : Int), .int .i64 (e : Int)]] w fun o w' => ∃ v, o = .returned (.tuple #[v, .int .i64 0]) ∧ LfI w w' v (e - b) ((L.drop b).take (e - b)) := by
  have HT := Lib.hid t
  have hL20 : L.length ≤ 1048576 := t.n
  have HTH : Hid (∀ w3, Below w.heap.size w w3 → Calls Tryd.prog 64 #[bpT tb, .agg #[.int .i64 (b : Int), .int .i64 (e : Int)]] w3 fun o w' => o = .returned (.bool true) ∧ Below w3.heap.size w3 w') := Lib.hid (fun w3 hb3 => there_yes (HT.out.below hb3).t hbe he)
  have HNO : Hid (∀ w3 (i : Nat) (x : ByteArray), Below w.heap.size w w3 → L[i]? = some x → Calls Tryd.prog 51 #[bpT tb, .agg #[.int .i64 0, .int .i64 (i : Int)]] w3 fun o w' => o = .returned (.string x) ∧ Below w3.heap.size w3 w') := Lib.hid (fun w3 i x hb3 hx => by
    have hi : i < L.length := (List.getElem?_eq_some_iff.mp hx).1
    have h1 := node_at (HT.out.below hb3).t (l := 0) (i := i) (by omega) (by omega) (by show i < cL L.length 0; unfold cL; rw [Nat.pow_zero, Nat.div_one]; exact hi)
    rwa [valL_zero hx] at h1)
  obtain ⟨w2, hw2⟩ : ∃ y, y = w.alloc (.cells #[.int .i64 (b : Int), .int .i64 (e : Int)] 56) := ⟨_, rfl⟩
  have HBE : Hid (Below w.heap.size w w2) := Lib.hid (by rw [hw2]; exact (Below.refl _ _).alloc (Nat.le_refl _) _)
  obtain ⟨sb, hsb⟩ : ∃ y, y = w.heap.size := ⟨_, rfl⟩
  have hbx : w2.heap[sb]? = some (.cells #[.int .i64 (b : Int), .int .i64 (e : Int)] 56 (0, 0)) := by rw [hw2, hsb]; exact heap_alloc_new w _
  have HSB := Lib.hid hbx
  have HSZ := Lib.hid hsb
  have HW2 := Lib.hid hw2
  have HS2 : Hid (sb < w2.heap.size) := Lib.hid (blk_lt hbx)
  have c0 : w2.cell? ⟨sb, 0, none⟩ = some (.int .i64 (b : Int)) := cellB hbx rfl
  have c1 : w2.cell? ⟨sb, 1, none⟩ = some (.int .i64 (e : Int)) := cellB hbx rfl
  obtain ⟨M, hM⟩ : ∃ M, M = (L.drop b).take (e - b) := ⟨_, rfl⟩
  rw [← hM]
  have hML : M.length = e - b := by rw [hM, List.length_take, List.length_drop]; omega
  have HM : Hid (M.length = e - b ∧ ∀ j x, M[j]? = some x → L[b + j]? = some x) := Lib.hid ⟨hML, fun j x hj => by
    have hj2 : j < e - b := by have := (List.getElem?_eq_some_iff.mp hj).1; omega
    rw [hM, List.getElem?_take_of_lt hj2, List.getElem?_drop] at hj
    exact hj⟩
  obtain ⟨m, hm⟩ : ∃ m, m = e - b := ⟨_, rfl⟩
  have hebm : e = b + m := by omega
  have HMM : Hid (M.length = m ∧ ∀ j x, M[j]? = some x → L[b + j]? = some x) := Lib.hid (by rw [hm]; exact HM.out)
  rw [← hm]
  have heB : e ≤ 1048576 := by omega
  have HEBM := Lib.hid hebm
  clear hebm
  clear t hbe he hbx hsb hw2 hM hML HM hm hL20
  go_enter Tryd.func33, Tryd.ntmps33
  go_upto_region 1 with fail
  rw [← HW2.out, ← HSZ.out]
  go_upto_region 4 with (go_at_call 64; refine (HTH.out _ HBE.out).mono ?_; rintro o w3 ⟨rfl, hb3⟩; have HB3 : Hid (Below w.heap.size w w3) := Lib.hid (HBE.out.trans (hb3.mono HBE.out.size)); have HX3 : Hid (w3.heap[sb]? = some (.cells #[.int .i64 (b : Int), .int .i64 (e : Int)] 56 (0, 0))) := Lib.hid (blk_below HSB.out hb3 HS2.out); have k0 : w3.cell? ⟨sb, 0, none⟩ = some (.int .i64 (b : Int)) := cellB HX3.out rfl; have k1 : w3.cell? ⟨sb, 1, none⟩ = some (.int .i64 (e : Int)) := cellB HX3.out rfl; clear hb3 c0 c1)
  have HS3 : Hid (sb < w3.heap.size) := Lib.hid (blk_lt HX3.out)
  have HL0 : Hid (LfI w3 w3 (.slice none 0 0) 0 (M.take 0)) := Lib.hid ⟨Below.refl _ _, by rw [List.take_zero]; exact ⟨rfl, .inl ⟨rfl, rfl⟩⟩, fun g hg => nomatch hg⟩
  go_wp2_with fail
  clear k0 k1
  go_loopw [6, 7] (fun l k wr => ∃ (j : Nat) (p : Option Addr) (c : Nat), k = .int .i64 ((b + j : Nat) : Int) ∧ l = .slice p j c ∧ j ≤ m ∧ Hid (LfI w3 wr (.slice p j c) j (M.take j))) (fun _ k _ => e - (intOf k).toNat)
  case atStart => exact ⟨0, none, 0, rfl, rfl, Nat.zero_le _, HL0⟩
  case round =>
    clear HL0
    obtain ⟨j, p, c, rfl, rfl, hj, HI⟩ := hrel
    obtain ⟨i, hi⟩ : ∃ i, i = b + j := ⟨_, rfl⟩
    rw [← hi]
    have hx4 : wr.heap[sb]? = some (.cells #[.int .i64 (b : Int), .int .i64 (e : Int)] 56 (0, 0)) := blk_below HX3.out HI.out.b HS3.out
    have k1 : wr.cell? ⟨sb, 1, none⟩ = some (.int .i64 (e : Int)) := cellB hx4 rfl
    clear hx4
    have hi20 : i ≤ 1048576 := by have := HEBM.out; omega
    have hebm := HEBM.out
    by_cases hlt : j < m
    · have hie : (i : Int) < (e : Int) := by omega
      obtain ⟨x, hx⟩ : ∃ x, M[j]? = some x := ⟨M[j]'(by have := HMM.out; omega), List.getElem?_eq_getElem _⟩
      have HX : Hid (L[i]? = some x ∧ M.take (j + 1) = M.take j ++ [x]) := Lib.hid ⟨by rw [hi]; exact HMM.out.2 j x hx, by rw [List.take_add_one, hx]; rfl⟩
      have HONE : Hid (∀ u ∈ [Value.string x], u.oneCell' = true) := Lib.hid (fun u hu => by rw [List.mem_singleton.1 hu]; rfl)
      have hl1 : (j + 1) * 16 ≤ 140737488355328 := by omega
      have hl2 : j + 1 ≤ 140737488355328 := by omega
      have HLT : Hid (j < m ∧ i = b + j ∧ e = b + m) := Lib.hid ⟨hlt, hi, hebm⟩
      clear hlt hx hi hebm hj
      go_wp2_with (first
        | (go_at_call 51; with_reducible refine (HNO.out _ i x (HB3.out.trans (HI.out.b.mono HB3.out.size)) HX.out.1).mono ?_; rintro o w4 ⟨rfl, hb4⟩; have HI4 := Lib.hid (HI.out.below hb4); have HHD := Lib.hid HI4.out.h; clear hb4 k1)
        | (at_builtin; refine wpList_grew (v := .slice p j c) rfl _ _ rfl Tryd.underlying33 (.string ⟨#[]⟩) 1 info_strT rfl (by decide) [.string x] 1 (by simp [Act.eval]) (by simp [Act.eval]) HHD.out rfl rfl (by decide) HONE.out hl1 hl2 ?_; intro v5 w5 hg5; obtain ⟨p5, c5, rfl, _⟩ := hg5.held.cells; have HI5 := Lib.hid (HI4.out.push hg5); clear hg5))
      have h9 := HLT.out
      exact ⟨⟨j + 1, p5, c5, congrArg (Value.int .i64) (by omega), rfl, by omega, Lib.hid (by rw [HX.out.2]; exact HI5.out)⟩, by show e - ((i : Int) + 1).toNat < e - (i : Int).toNat; omega⟩
    · obtain rfl : j = m := by omega
      have hie : ¬ (i : Int) < (e : Int) := by omega
      have HTK : Hid (M.take j = M) := Lib.hid (List.take_of_length_le (by have := HMM.out.1; omega))
      rw [HTK.out] at HI
      clear hlt hebm hi
      go_wp2_with fail
      go_ret2
      exact ⟨_, rfl, HB3.out.trans (HI.out.b.mono HB3.out.size), HI.out.h, fun g hg => Nat.le_trans HB3.out.size (HI.out.o g hg)⟩
end Go.Proofs.YtblacbfkaamdgaaDoor
/- scrivenerlaw7: the same lists? -/
namespace Go.Proofs.YtblacbfkaamdgaaDoor
open Go.RowKit Go.Scr
set_option linter.unusedVariables false
theorem textW_ne {a b : ByteArray} (h : a ≠ b) : (a.toList == b.toList) = false := by
  refine beq_eq_false_iff_ne.2 fun h2 => h ?_
  rw [ByteArray.toList_eq, ByteArray.toList_eq] at h2
  exact ByteArray.ext (Array.toList_inj.mp h2)
theorem textW_same (a : ByteArray) : (a.toList == a.toList) = true := beq_self_eq_true _
set_option maxRecDepth 100000 in
set_option maxHeartbeats 1000000 in
theorem sameW_any (v v2 : Value) (L M : List ByteArray) (w : World) (hv : Txts w v L) (hv2 : Txts w v2 M) (hl : L.length ≤ 1048576) (hl2 : M.length ≤ 1048576) :
    Calls Tryd.prog 34 #[v, v2] w fun e w' => e = .returned (.bool (decide (L = M))) ∧ Below w.heap.size w w' := by
  obtain ⟨p, c, rfl, hv1, hv2', hv3⟩ := hv
  obtain ⟨p2, c2, rfl, hw1, hw2', hw3⟩ := hv2
  obtain ⟨n, hn⟩ : ∃ n, n = L.length := ⟨_, rfl⟩
  obtain ⟨m, hm⟩ : ∃ m, m = M.length := ⟨_, rfl⟩
  rw [← hn] at hv1 hl ⊢
  rw [← hm] at hw1 hl2 ⊢
  have HNL := Lib.hid hn
  have HML := Lib.hid hm
  have HP := Lib.hid hv3
  have HP2 := Lib.hid hw3
  clear hn hm hv1 hv2' hv3 hw1 hw2' hw3
  by_cases hnm : n = m
  · have HNM := Lib.hid hnm
    have e0 : ((n : Int) == (m : Int)) = true := beq_iff_eq.2 (by omega)
    clear hnm
    go_enter Tryd.func34, Tryd.ntmps34
    go_wp2
    go_loopw [5] (fun q wr => ∃ i : Nat, i ≤ n ∧ q = .int .i64 i ∧ Hid (∀ j, j < i → L[j]? = M[j]?) ∧ Below w.heap.size w wr) (fun q _ => n - (intOf q).toNat)
    case atStart => exact ⟨0, by omega, rfl, Lib.hid (fun j h => absurd h (by omega)), Below.refl _ _⟩
    case round =>
      obtain ⟨i, hi, rfl, hinv, hbel⟩ := hrel
      have HBEL := Lib.hid hbel
      have HINV := Lib.hid hinv.out
      clear hbel hinv
      by_cases hlt : i < n
      · have hl8 : (i : Int) < (n : Int) := by omega
        have him : (i : Int) < (m : Int) := by have := HNM.out; omega
        obtain ⟨s, hs⟩ : ∃ s, L[i]? = some s := ⟨L[i]'(by rw [← HNL.out]; exact hlt), List.getElem?_eq_getElem _⟩
        obtain ⟨t, ht⟩ : ∃ s, M[i]? = some s := ⟨M[i]'(by rw [← HML.out, ← HNM.out]; exact hlt), List.getElem?_eq_getElem _⟩
        obtain ⟨a, rfl, hc⟩ := HP.out i s hs
        obtain ⟨b, rfl, hd⟩ := HP2.out i t ht
        have hcell1 : wr.cell? (a.add i) = some (.string s) := (HBEL.out.cell (block_lt_of_cell hc)).trans hc
        have hcell2 : wr.cell? (b.add i) = some (.string t) := (HBEL.out.cell (block_lt_of_cell hd)).trans hd
        have HS := Lib.hid hs
        have HT := Lib.hid ht
        clear hs ht hc hd
        by_cases hst : s = t
        · have e1 : (s.toList == t.toList) = true := by rw [hst]; exact textW_same _
          have HST := Lib.hid hst
          clear hst
          go_upto_region 6 with fail
          go_quiet (fail)
          have HBEL2 : Hid (Below w.heap.size w (wr.drewN nq)) := below_drewN HBEL.out nq
          generalize wr.drewN nq = wx at *
          go_wp2_with fail
          refine ⟨⟨i + 1, by omega, rfl, Lib.hid (fun j hj => ?_), HBEL2.out⟩, (by show n - ((i : Int) + 1).toNat < n - (i : Int).toNat; omega)⟩
          rcases Nat.lt_or_ge j i with h1 | h1
          · exact HINV.out j h1
          · have : j = i := by omega
            subst this
            rw [HS.out, HT.out, HST.out]
        · have e1 : (s.toList == t.toList) = false := textW_ne hst
          have HST := Lib.hid hst
          clear hst
          go_upto_region 6 with fail
          go_quiet (fail)
          have HBEL2 : Hid (Below w.heap.size w (wr.drewN nq)) := below_drewN HBEL.out nq
          generalize wr.drewN nq = wx at *
          go_wp2_with fail
          go_ret
          have hd : decide (L = M) = false := decide_eq_false (by
            intro he
            have h1 := HS.out
            rw [he, HT.out] at h1
            exact HST.out (Option.some.inj h1).symm)
          exact ⟨by rw [hd]; rfl, HBEL2.out⟩
      · have hl8 : ¬ ((i : Int) < (n : Int)) := by omega
        go_wp2_with fail
        go_ret
        have hd : decide (L = M) = true := decide_eq_true (by
          refine List.ext_getElem? fun j => ?_
          rcases Nat.lt_or_ge j i with h1 | h1
          · exact HINV.out j h1
          · rw [List.getElem?_eq_none (by have := HNL.out; omega), List.getElem?_eq_none (by have := HML.out; have := HNM.out; omega)])
        exact ⟨by rw [hd]; rfl, HBEL.out⟩
  · have e0 : ((n : Int) == (m : Int)) = false := beq_eq_false_iff_ne.2 (by omega)
    have e1 : decide (L = M) = false := decide_eq_false (by intro h; apply hnm; rw [HNL.out, HML.out, h])
    rw [e1]
    clear hnm e1
    go_enter Tryd.func34, Tryd.ntmps34
    go_wp2
    go_ret
    exact ⟨rfl, Below.refl _ _⟩
end Go.Proofs.YtblacbfkaamdgaaDoor
