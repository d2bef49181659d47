/- Leaves of a span that is there. -/
import Derived.Test.YtafookdllnhdaaaDoorMa25
import Derived.Test.YtafookdllnhdaaaDoorMa29
import Derived.Test.YtafookdllnhdaaaDoorMa10
import Derived.Test.YtafookdllnhdaaaDoorMa1
import Derived.Test.YtafookdllnhdaaaDoorMa14
import Derived.Deep.RegionHeld3
import Derived.Test.YtafookdllnhdaaaDoorMa2
import Derived.BigQuiet
namespace Go.Proofs.YtafookdllnhdaaaDoor
open Go.RowKit Go.Scr Go.ChangeMaps Go.MapKept
set_option linter.unusedVariables false
/-- an own list of texts, above w -/
structure LfI (w wr : World) (v : Value) (n : Nat) (P : List ByteArray) : Prop where
  b : Below w.heap.size w wr
  h : Held wr 9 1 v n (P.map Value.string)
  o : ∀ g, v.ownBlock = some g → w.heap.size ≤ g
theorem LfI.below {w wr w' : World} {v : Value} {n : Nat} {P : List ByteArray} (H : LfI w wr v n P) (hb : Below wr.heap.size wr w') : LfI w w' v n P :=
  ⟨H.b.trans (hb.mono H.b.size), H.h.below hb, H.o⟩
theorem LfI.push {w wr w' : World} {v v' : Value} {n : Nat} {P : List ByteArray} {x : ByteArray} {cs : Array Value} {T : TypeId} (H : LfI w wr v n P) (g : Grew 9 1 (wr.alloc (.cells cs T)) v n 1 (P.map Value.string) [.string x] v' w') : LfI w w' v' (n + 1) (P ++ [x]) := by
  have hb1 : Below w.heap.size w (wr.alloc (.cells cs T)) := H.b.alloc H.b.size _
  have hgr := g.grown
  refine ⟨⟨hgr.os.trans hb1.os, hgr.tape.trans hb1.tape, hgr.output.trans hb1.output, Nat.le_trans hb1.size hgr.size, fun i hi => (hgr.block i (Nat.lt_of_lt_of_le hi hb1.size) (fun e => by have := H.o i e.symm; omega)).trans (hb1.block i hi)⟩, ?_, fun q hq => ?_⟩
  · rw [List.map_append]
    exact g.held
  · rcases g.at with ⟨e, _⟩ | ⟨e, _⟩
    · exact H.o q (by rw [← e]; exact hq)
    · rw [hq] at e
      have h1 := Option.some.inj e
      have h2 := hb1.size
      omega
set_option maxRecDepth 100000 in
set_option maxHeartbeats 4000000 in
theorem leaves_any {w : World} {B tb h : Nat} {L : List ByteArray} {col : Col} (t : TreeU w B tb h L col) {b e : Nat} (hbe : b ≤ e) (he : e ≤ L.length) :
    Calls Tryd.prog 64 #[bpT tb, .agg #[.int .i64 (b : Int), .int .i64 (e : Int)]] w fun o w' => ∃ v, o = .returned (.tuple #[v, .int .i64 0]) ∧ LfI w w' v (e - b) ((L.drop b).take (e - b)) := by
  have HT := Lib.hid t
  have hL20 : L.length ≤ 1048576 := t.n
  have HTH : Hid (∀ w3, Below w.heap.size w w3 → Calls Tryd.prog 45 #[bpT tb, .agg #[.int .i64 (b : Int), .int .i64 (e : Int)]] w3 fun o w' => o = .returned (.bool true) ∧ Below w3.heap.size w3 w') := Lib.hid (fun w3 hb3 => there_yes (HT.out.below hb3).t hbe he)
  have HNO : Hid (∀ w3 (i : Nat) (x : ByteArray), Below w.heap.size w w3 → L[i]? = some x → Calls Tryd.prog 43 #[bpT tb, .agg #[.int .i64 0, .int .i64 (i : Int)]] w3 fun o w' => o = .returned (.string x) ∧ Below w3.heap.size w3 w') := Lib.hid (fun w3 i x hb3 hx => by
    have hi : i < L.length := (List.getElem?_eq_some_iff.mp hx).1
    have h1 := node_at (HT.out.below hb3).t (l := 0) (i := i) (by omega) (by omega) (by show i < cL L.length 0; unfold cL; rw [Nat.pow_zero, Nat.div_one]; exact hi)
    rwa [valL_zero hx] at h1)
  obtain ⟨w2, hw2⟩ : ∃ y, y = w.alloc (.cells #[.int .i64 (b : Int), .int .i64 (e : Int)] 46) := ⟨_, rfl⟩
  have HBE : Hid (Below w.heap.size w w2) := Lib.hid (by rw [hw2]; exact (Below.refl _ _).alloc (Nat.le_refl _) _)
  obtain ⟨sb, hsb⟩ : ∃ y, y = w.heap.size := ⟨_, rfl⟩
  have hbx : w2.heap[sb]? = some (.cells #[.int .i64 (b : Int), .int .i64 (e : Int)] 46 (0, 0)) := by rw [hw2, hsb]; exact heap_alloc_new w _
  have HSB := Lib.hid hbx
  have HSZ := Lib.hid hsb
  have HW2 := Lib.hid hw2
  have HS2 : Hid (sb < w2.heap.size) := Lib.hid (blk_lt hbx)
  have c0 : w2.cell? ⟨sb, 0, none⟩ = some (.int .i64 (b : Int)) := cellB hbx rfl
  have c1 : w2.cell? ⟨sb, 1, none⟩ = some (.int .i64 (e : Int)) := cellB hbx rfl
  obtain ⟨M, hM⟩ : ∃ M, M = (L.drop b).take (e - b) := ⟨_, rfl⟩
  rw [← hM]
  have hML : M.length = e - b := by rw [hM, List.length_take, List.length_drop]; omega
  have HM : Hid (M.length = e - b ∧ ∀ j x, M[j]? = some x → L[b + j]? = some x) := Lib.hid ⟨hML, fun j x hj => by
    have hj2 : j < e - b := by have := (List.getElem?_eq_some_iff.mp hj).1; omega
    rw [hM, List.getElem?_take_of_lt hj2, List.getElem?_drop] at hj
    exact hj⟩
  obtain ⟨m, hm⟩ : ∃ m, m = e - b := ⟨_, rfl⟩
  have hebm : e = b + m := by omega
  have HMM : Hid (M.length = m ∧ ∀ j x, M[j]? = some x → L[b + j]? = some x) := Lib.hid (by rw [hm]; exact HM.out)
  rw [← hm]
  have heB : e ≤ 1048576 := by omega
  have HEBM := Lib.hid hebm
  clear hebm
  clear t hbe he hbx hsb hw2 hM hML HM hm hL20
  go_enter Tryd.func64, Tryd.ntmps64
  go_upto_region 1 with fail
  rw [← HW2.out, ← HSZ.out]
  go_upto_region 4 with (go_at_call 45; refine (HTH.out _ HBE.out).mono ?_; rintro o w3 ⟨rfl, hb3⟩; have HB3 : Hid (Below w.heap.size w w3) := Lib.hid (HBE.out.trans (hb3.mono HBE.out.size)); have HX3 : Hid (w3.heap[sb]? = some (.cells #[.int .i64 (b : Int), .int .i64 (e : Int)] 46 (0, 0))) := Lib.hid (blk_below HSB.out hb3 HS2.out); have k0 : w3.cell? ⟨sb, 0, none⟩ = some (.int .i64 (b : Int)) := cellB HX3.out rfl; have k1 : w3.cell? ⟨sb, 1, none⟩ = some (.int .i64 (e : Int)) := cellB HX3.out rfl; clear hb3 c0 c1)
  have HS3 : Hid (sb < w3.heap.size) := Lib.hid (blk_lt HX3.out)
  have HL0 : Hid (LfI w3 w3 (.slice none 0 0) 0 (M.take 0)) := Lib.hid ⟨Below.refl _ _, by rw [List.take_zero]; exact ⟨rfl, .inl ⟨rfl, rfl⟩⟩, fun g hg => nomatch hg⟩
  go_wp2_with fail
  clear k0 k1
  go_loopw [6, 7] (fun l k wr => ∃ (j : Nat) (p : Option Addr) (c : Nat), k = .int .i64 ((b + j : Nat) : Int) ∧ l = .slice p j c ∧ j ≤ m ∧ Hid (LfI w3 wr (.slice p j c) j (M.take j))) (fun _ k _ => e - (intOf k).toNat)
  case atStart => exact ⟨0, none, 0, rfl, rfl, Nat.zero_le _, HL0⟩
  case round =>
    clear HL0
    obtain ⟨j, p, c, rfl, rfl, hj, HI⟩ := hrel
    obtain ⟨i, hi⟩ : ∃ i, i = b + j := ⟨_, rfl⟩
    rw [← hi]
    have hx4 : wr.heap[sb]? = some (.cells #[.int .i64 (b : Int), .int .i64 (e : Int)] 46 (0, 0)) := blk_below HX3.out HI.out.b HS3.out
    have k1 : wr.cell? ⟨sb, 1, none⟩ = some (.int .i64 (e : Int)) := cellB hx4 rfl
    clear hx4
    have hi20 : i ≤ 1048576 := by have := HEBM.out; omega
    have hebm := HEBM.out
    by_cases hlt : j < m
    · have hie : (i : Int) < (e : Int) := by omega
      obtain ⟨x, hx⟩ : ∃ x, M[j]? = some x := ⟨M[j]'(by have := HMM.out; omega), List.getElem?_eq_getElem _⟩
      have HX : Hid (L[i]? = some x ∧ M.take (j + 1) = M.take j ++ [x]) := Lib.hid ⟨by rw [hi]; exact HMM.out.2 j x hx, by rw [List.take_add_one, hx]; rfl⟩
      have HONE : Hid (∀ u ∈ [Value.string x], u.oneCell' = true) := Lib.hid (fun u hu => by rw [List.mem_singleton.1 hu]; rfl)
      have hl1 : (j + 1) * 16 ≤ 140737488355328 := by omega
      have hl2 : j + 1 ≤ 140737488355328 := by omega
      have HLT : Hid (j < m ∧ i = b + j ∧ e = b + m) := Lib.hid ⟨hlt, hi, hebm⟩
      clear hlt hx hi hebm hj
      go_wp2_with (first
        | (go_at_call 43; with_reducible refine (HNO.out _ i x (HB3.out.trans (HI.out.b.mono HB3.out.size)) HX.out.1).mono ?_; rintro o w4 ⟨rfl, hb4⟩; have HI4 := Lib.hid (HI.out.below hb4); have HHD := Lib.hid HI4.out.h; clear hb4 k1)
        | (at_builtin; refine wpList_grew (v := .slice p j c) rfl _ _ rfl Tryd.underlying52 (.string ⟨#[]⟩) 1 info_strT rfl (by decide) [.string x] 1 (by simp [Act.eval]) (by simp [Act.eval]) HHD.out rfl rfl (by decide) HONE.out hl1 hl2 ?_; intro v5 w5 hg5; obtain ⟨p5, c5, rfl, _⟩ := hg5.held.cells; have HI5 := Lib.hid (HI4.out.push hg5); clear hg5))
      have h9 := HLT.out
      exact ⟨⟨j + 1, p5, c5, congrArg (Value.int .i64) (by omega), rfl, by omega, Lib.hid (by rw [HX.out.2]; exact HI5.out)⟩, by show e - ((i : Int) + 1).toNat < e - (i : Int).toNat; omega⟩
    · obtain rfl : j = m := by omega
      have hie : ¬ (i : Int) < (e : Int) := by omega
      have HTK : Hid (M.take j = M) := Lib.hid (List.take_of_length_le (by have := HMM.out.1; omega))
      rw [HTK.out] at HI
      clear hlt hebm hi
      go_wp2_with fail
      go_ret2
      exact ⟨_, rfl, HB3.out.trans (HI.out.b.mono HB3.out.size), HI.out.h, fun g hg => Nat.le_trans HB3.out.size (HI.out.o g hg)⟩
end Go.Proofs.YtafookdllnhdaaaDoor
/- The document's tree: the hash of some leaves; the greatest power of two below a number: walked. -/
namespace Go.Proofs.YtafookdllnhdaaaDoor
open Go.RowKit Go.Scr
set_option linter.unusedVariables false
set_option maxRecDepth 100000 in
set_option maxHeartbeats 1000000 in
theorem node7_any (l r : ByteArray) (w : World) (hl : l.size = 32) (hr : r.size = 32) :
    Calls Tryd.prog 88 #[.string l, .string r] w fun e w' => e = .returned (.string (nodeS l r)) ∧ Below w.heap.size w w' := by
  obtain ⟨x, hx⟩ : ∃ x : ByteArray, x = ⟨#[1]⟩ ++ l ++ r := ⟨_, rfl⟩
  have hxs : x.size = 65 := by rw [hx, ByteArray.size_append, ByteArray.size_append, hl, hr]; rfl
  have h := rsum_any x w (by omega)
  have he : (⟨(sha x.data.toList).toArray⟩ : ByteArray) = hnode l r := by rw [hx, ByteArray.data_append, Array.toList_append, ByteArray.data_append, Array.toList_append]; simp [hnode, str]
  rw [he] at h
  have H := Lib.hid h
  have HX := Lib.hid hx
  clear h hx hxs he
  have hn1 : nodeS l r = hnode l r := if_pos ⟨hl, hr⟩
  rw [hn1]
  clear hn1
  have hl' : (l.size : Int) = 32 := by omega
  have hr' : (r.size : Int) = 32 := by omega
  have hb1 : (⟨#[1]⟩ : ByteArray).size = 1 := rfl
  go_enter Tryd.func88, Tryd.ntmps88
  go_wp2_with (go_at_call 87; rw [← HX.out]; refine H.out.mono ?_; rintro e w1 ⟨rfl, hb⟩)
  go_ret
  exact ⟨rfl, hb⟩
theorem rootR_size7 {L : List ByteArray} (h : ∀ s ∈ L, s.size = 32) (n : Nat) (hn : n = L.length) : (rootR L).size = 32 := by
  by_cases h0 : L.length ≤ 1
  · match L, h, h0 with
    | [], _, _ => rw [show rootR [] = hempty from rootL_nil _ _]; unfold hempty; rw [str_size, sha_length]
    | [x], h, _ => rw [show rootR [x] = x from rootL_one _ _ _]; exact h x (by simp)
    | _ :: _ :: _, _, h0 => simp at h0
  · rw [rootR_split (by omega)]
    unfold nodeS
    split
    · unfold hnode; rw [str_size, sha_length]
    · rename_i hne
      exfalso
      apply hne
      have hs := spl_lt (show 2 ≤ L.length by omega)
      exact ⟨rootR_size7 (fun s hs => h s (List.mem_of_mem_take hs)) _ rfl, rootR_size7 (fun s hs => h s (List.mem_of_mem_drop hs)) _ rfl⟩
termination_by L.length
decreasing_by
  · rw [List.length_take]; omega
  · rw [List.length_drop]; omega
set_option maxRecDepth 100000 in
set_option maxHeartbeats 1000000 in
theorem split11_any (n : Nat) (w : World) (h2 : 2 ≤ n) (hn : n ≤ 1048576) :
    Calls Tryd.prog 72 #[.int .i64 (n : Int)] w fun e w' => e = .returned (.int .i64 (spl n : Int)) ∧ w' = w := by
  obtain ⟨R, hR⟩ : ∃ R, R = spl n := ⟨_, rfl⟩
  rw [← hR]
  have HR := Lib.hid (show splF 1 n = R from hR.symm)
  clear hR
  go_enter Tryd.func72, Tryd.ntmps72
  go_wp2
  go_loop [3] (fun v => ∃ k : Nat, 0 < k ∧ k < n ∧ v = .int .i64 k ∧ Hid (splF k n = R)) (fun v => 9223372036854775807 - (intOf v).toNat)
  case atStart => exact ⟨1, by decide, by omega, rfl, HR⟩
  case round =>
    obtain ⟨k, hk0, hkn, rfl, HS⟩ := hrel
    obtain ⟨k2, hk2⟩ : ∃ k2, k2 = 2 * k := ⟨_, rfl⟩
    have hk2i : 2 * (k : Int) = (k2 : Int) := by omega
    have hk2b : k2 ≤ 9223372036854775807 := by omega
    by_cases hlt : 2 * k < n
    · have h1 : (k2 : Int) < (n : Int) := by omega
      have HS2 := Lib.hid ((splF_spl hk0 hlt).trans HS.out)
      have hk2n : k2 < n := by omega
      rw [← hk2] at HS2
      have hkk : k < k2 := by omega
      clear hlt hk2
      go_wp2
      exact ⟨⟨k2, by omega, hk2n, rfl, HS2⟩, (by show 9223372036854775807 - (k2 : Int).toNat < 9223372036854775807 - (k : Int).toNat; omega)⟩
    · have h1 : ¬ ((k2 : Int) < (n : Int)) := by omega
      have HS2 := Lib.hid ((splF_end hlt).symm.trans HS.out)
      clear hlt hk2
      go_wp2
      go_ret
      exact ⟨by rw [← HS2.out]; rfl, rfl⟩
set_option maxRecDepth 100000 in
set_option maxHeartbeats 4000000 in
theorem hash7_any (n : Nat) : ∀ (L : List ByteArray) (p : Option Addr) (c : Nat) (w : World), Txts w (.slice p n c) L → L.length = n → n ≤ 1048576 → (∀ s ∈ L, s.size = 32) →
    Calls Tryd.prog 80 #[.slice p n c] w fun e w' => e = .returned (.string (rootR L)) ∧ Below w.heap.size w w' := by
  induction n using Nat.strongRecOn with
  | ind n ih =>
    intro L p c w hv hL hn hz
    have IH := Lib.hid ih
    have HV := Lib.hid hv
    have HZ := Lib.hid hz
    obtain ⟨p', c', he, hv1, hv2, hv3⟩ := hv
    simp only [Value.slice.injEq] at he
    obtain ⟨rfl, hnl, rfl⟩ := he
    clear ih hnl hz
    rcases Nat.lt_trichotomy n 1 with h0 | h1 | h2
    · have hL0 : L = [] := List.eq_nil_of_length_eq_zero (by omega)
      have hr0 : rootR L = hempty := by rw [hL0]; exact rootL_nil _ _
      rw [hr0]
      obtain rfl : n = 0 := by omega
      have he0 : hempty = ⟨(sha (⟨#[]⟩ : ByteArray).data.toList).toArray⟩ := rfl
      have HE := Lib.hid (rsum_any ⟨#[]⟩ w (by decide))
      rw [← he0] at HE
      clear hv1 hv2 hv3 hL0 hr0 h0 hL he0
      go_enter Tryd.func80, Tryd.ntmps80
      go_wp2_with (go_at_call 87; with_reducible refine (HE.out).mono ?_; rintro e w2 ⟨rfl, hb⟩; have HB := Lib.hid hb; clear hb)
      go_ret
      exact ⟨rfl, HB.out⟩
    · subst h1
      obtain ⟨x, rfl⟩ : ∃ x, L = [x] := by
        cases L with
        | nil => simp at hL
        | cons x t => cases t with
          | nil => exact ⟨x, rfl⟩
          | cons y t => simp at hL
      have hr1 : rootR [x] = x := rootL_one _ _ _
      rw [hr1]
      obtain ⟨a, rfl, hc⟩ := hv3 0 x rfl
      rw [Addr.add_zero'] at hc
      clear hv1 hv2 hv3 hr1 hL
      go_enter Tryd.func80, Tryd.ntmps80
      go_wp2
      go_ret
      exact ⟨rfl, Below.refl _ _⟩
    · have hni : ((n : Int) == 0) = false := beq_eq_false_iff_ne.2 (by omega)
      have hni1 : ((n : Int) == 1) = false := beq_eq_false_iff_ne.2 (by omega)
      have hni2 : ¬ (n : Int) = 0 := by omega
      have hni3 : ¬ (n : Int) = 1 := by omega
      obtain ⟨R, hR0⟩ : ∃ R, R = spl n := ⟨_, rfl⟩
      have HSP : Hid (splF 1 n = R) := Lib.hid hR0.symm
      have hnc : (n : Int) ≤ (c : Int) := by omega
      have hncn : n ≤ c := by omega
      have HRR := Lib.hid hR0
      have HLL := Lib.hid hL
      clear hv1 hv2 hv3 hL hR0
      go_enter Tryd.func80, Tryd.ntmps80
      go_wp2_with fail
      go_loop [3] (fun v => ∃ k : Nat, 0 < k ∧ k < n ∧ v = .int .i64 k ∧ Hid (splF k n = R)) (fun v => 9223372036854775807 - (intOf v).toNat)
      case atStart => exact ⟨1, by decide, by omega, rfl, HSP⟩
      case round =>
        clear HSP
        obtain ⟨k, hk0, hkn, rfl, HS⟩ := hrel
        obtain ⟨k2, hk2⟩ : ∃ k2, k2 = 2 * k := ⟨_, rfl⟩
        have hk2i : 2 * (k : Int) = (k2 : Int) := by omega
        have hk2b : k2 ≤ 9223372036854775807 := by omega
        by_cases hlt : 2 * k < n
        · have h1 : (k2 : Int) < (n : Int) := by omega
          have HS2 := Lib.hid ((splF_spl hk0 hlt).trans HS.out)
          have hk2n : k2 < n := by omega
          rw [← hk2] at HS2
          have hkk : k < k2 := by omega
          clear hlt hk2
          go_wp2_with fail
          exact ⟨⟨k2, by omega, hk2n, rfl, HS2⟩, (by show 9223372036854775807 - (k2 : Int).toNat < 9223372036854775807 - (k : Int).toNat; omega)⟩
        · have h1 : ¬ ((k2 : Int) < (n : Int)) := by omega
          have hkR : k = spl n := ((splF_end hlt).symm.trans HS.out).trans HRR.out
          have hsp := spl_lt (show 2 ≤ n by omega)
          rw [← hkR] at hsp
          have hR := rootR_split (L := L) (by have := HLL.out; omega)
          rw [HLL.out, ← hkR] at hR
          obtain ⟨X1, hX1⟩ : ∃ X, X = rootR (L.take k) := ⟨_, rfl⟩
          obtain ⟨X2, hX2⟩ : ∃ X, X = rootR (L.drop k) := ⟨_, rfl⟩
          rw [← hX1, ← hX2] at hR
          have HRT := Lib.hid hR
          have hz1 : ∀ s ∈ L.take k, s.size = 32 := fun s hs => HZ.out s (List.mem_of_mem_take hs)
          have hz2 : ∀ s ∈ L.drop k, s.size = 32 := fun s hs => HZ.out s (List.mem_of_mem_drop hs)
          have hLn := HLL.out
          have IHA := Lib.hid (fun w' (h : Below w.heap.size w w') => IH.out k hsp.2.1 (L.take k) p c w' ((HV.out.cutC (by omega)).below h (Nat.le_refl _)) (by rw [List.length_take]; omega) (by omega) hz1)
          have IHB := Lib.hid (fun w' (h : Below w.heap.size w w') => IH.out (n - k) (by omega) (L.drop k) (p.map (·.add k)) (c - k) w' ((HV.out.rightC (k := k) (by omega)).below h (Nat.le_refl _)) (by rw [List.length_drop]; omega) (by omega) hz2)
          rw [← hX1] at IHA
          rw [← hX2] at IHB
          have hs1 : X1.size = 32 := by rw [hX1]; exact rootR_size7 hz1 _ rfl
          have hs2 : X2.size = 32 := by rw [hX2]; exact rootR_size7 hz2 _ rfl
          have HND := Lib.hid (fun w' => node7_any X1 X2 w' hs1 hs2)
          have hkc : (k : Int) ≤ (c : Int) := by omega
          have hkn' : (k : Int) ≤ (n : Int) := by omega
          have hk0' : (0 : Int) ≤ (k : Int) := by omega
          have hck : ¬ (c - k = 0) := by omega
          have HB0 : Hid (Below w.heap.size w w.drew) := Lib.hid (Below.refl _ _).drew
          clear hlt hkR hR hX1 hX2 hz1 hz2 hLn hs1 hs2 hk2 hncn HS
          go_upto_region 9 with fail
          go_region_held3 (fun _ => True) (trivial) (first
            | (go_at_call 80; (with_reducible refine (IHA.out _ HB0.out).mono ?_); rintro e w3 ⟨rfl, hb⟩; have HB3 : Hid (Below w.heap.size w w3) := Lib.hid (below_from HB0.out hb HB0.out.size); clear hb)
            | (go_at_call 80; (with_reducible refine (IHB.out _ HB3.out).mono ?_); rintro e w4 ⟨rfl, hb⟩; have HB4 : Hid (Below w.heap.size w w4) := Lib.hid (below_from HB3.out hb HB3.out.size); clear hb)
            | (go_at_call 88; (with_reducible refine (HND.out _).mono ?_); rintro e w5 ⟨rfl, hb⟩; have HB5 : Hid (Below w.heap.size w w5) := Lib.hid (below_from HB4.out hb HB4.out.size); clear hb))
          go_wp2_with fail
          go_ret
          exact ⟨by rw [HRT.out]; rfl, HB5.out⟩
end Go.Proofs.YtafookdllnhdaaaDoor
/- The document's tree (layer 7): made, a leaf more, its size, the hash of a span: walked. -/
namespace Go.Proofs.YtafookdllnhdaaaDoor
open Go.RowKit Go.Scr
set_option linter.unusedVariables false
theorem below_drewNQ {B : Nat} {w w1 : World} (h : Below B w w1) (n : Nat) : Below B w (w1.drewN n) := ⟨h.os, h.tape, h.output, h.size, h.block⟩
def bxQ (b : Nat) (v : Value) : Nat → Prop := fun g => g = b ∨ v.ownBlock = some g
theorem Chg.setQ {Q : Nat → Prop} {a c : World} (h : Chg Q a c) {b i : Nat} (hb : Q b) (v : Value) : Chg Q a (c.setCell ⟨b, i, none⟩ v) :=
  ⟨h.os, h.tape, h.output, by simpa [World.setCell] using h.size, fun j hj hn => (Below.heap_setCell c _ v j (fun e => hn (by have e' : j = b := e; rw [e']; exact hb))).trans (h.same j hj hn)⟩
/-- a tree of the document: the leaves L in a list of its own -/
structure D7I (w : World) (xb : Nat) (H : Int) (L : List ByteArray) (v : Value) : Prop where
  box : w.heap[xb]? = some (.cells #[.int .i64 H, v] 67 (0, 0))
  hd : Held w 9 1 v L.length (L.map Value.string)
  ne : v.ownBlock ≠ some xb
  z : ∀ s ∈ L, s.size = 32
  n : L.length ≤ 1048576
theorem D7I.below {w w' : World} {xb : Nat} {H : Int} {L : List ByteArray} {v : Value} (h : D7I w xb H L v) (hb : Below w.heap.size w w') : D7I w' xb H L v := ⟨blk_below h.box hb (blk_lt h.box), h.hd.below hb, h.ne, h.z, h.n⟩
theorem D7I.keep {w w' : World} {xb : Nat} {H : Int} {L : List ByteArray} {v : Value} (h : D7I w xb H L v) (hk : ∀ g, bxQ xb v g → w'.heap[g]? = w.heap[g]?) : D7I w' xb H L v :=
  ⟨(hk xb (.inl rfl)).trans h.box, h.hd.keep (fun g hg => hk g (.inr hg)), h.ne, h.z, h.n⟩
theorem D7I.q_lt {w : World} {xb : Nat} {H : Int} {L : List ByteArray} {v : Value} (h : D7I w xb H L v) {g : Nat} (hq : bxQ xb v g) : g < w.heap.size := by
  rcases hq with rfl | hq
  · exact blk_lt h.box
  · exact h.hd.lt hq
theorem D7I.tx {w : World} {xb : Nat} {H : Int} {L : List ByteArray} {v : Value} (h : D7I w xb H L v) : ∃ p c, v = .slice p L.length c ∧ L.length ≤ c ∧ Txts w (.slice p L.length c) L := by
  obtain ⟨p, c, h1, h2, h3⟩ := txts_held h.hd rfl
  exact ⟨p, c, h1, h2, p, c, rfl, h2, by have := h.n; omega, h3⟩
set_option maxRecDepth 100000 in
set_option maxHeartbeats 1000000 in
theorem new7_any (w : World) : Calls Tryd.prog 8 #[.int .i64 1] w fun o w' => ∃ xb v, o = .returned (.tuple #[.pointer (some ⟨xb, 0, none⟩), .int .i64 0]) ∧ D7I w' xb 1 [] v ∧ (∀ g, bxQ xb v g → w.heap.size ≤ g) ∧ Below w.heap.size w w' := by
  go_enter Tryd.func8, Tryd.ntmps8
  go_wp2
  go_ret2
  refine ⟨w.heap.size, .slice none 0 0, rfl, ⟨heap_alloc_new w _, ⟨rfl, .inl ⟨rfl, rfl⟩⟩, (fun e => nomatch e), (fun s hs => by simp at hs), by simp⟩, fun g hg => ?_, (Below.refl _ _).alloc (Nat.le_refl _) _⟩
  rcases hg with rfl | hg
  · exact Nat.le_refl _
  · exact nomatch hg
set_option maxRecDepth 100000 in
set_option maxHeartbeats 4000000 in
theorem add7_any {w : World} {xb : Nat} {H : Int} {L : List ByteArray} {v : Value} {x : ByteArray} (h : D7I w xb H L v) (hx : x.size = 32) (hn : L.length < 1048576) :
    Calls Tryd.prog 17 #[.pointer (some ⟨xb, 0, none⟩), .string x] w fun o w' => o = .returned (.int .i64 0) ∧ ∃ v', D7I w' xb H (L ++ [x]) v' ∧ Chg (bxQ xb v) w w' ∧ ∀ q, v'.ownBlock = some q → v.ownBlock = some q ∨ w.heap.size ≤ q := by
  obtain ⟨n, hnn⟩ : ∃ n, n = L.length := ⟨_, rfl⟩
  have hnb : n < 1048576 := by omega
  have hxs : (x.size : Int) = 32 := by omega
  have hni : ¬ (1048576 : Int) ≤ (n : Int) := by omega
  have HH := Lib.hid h
  have hhd := h.hd
  rw [← hnn] at hhd
  obtain ⟨p, c, rfl, _⟩ := hhd.cells
  have c1 : w.cell? ⟨xb, 1, none⟩ = some (.slice p n c) := cellB h.box rfl
  have HHD := Lib.hid hhd
  have HONE : Hid (∀ u ∈ [Value.string x], u.oneCell' = true) := Lib.hid (fun u hu => by rw [List.mem_singleton.1 hu]; rfl)
  have hl1 : (n + 1) * 16 ≤ 140737488355328 := by omega
  have hl2 : n + 1 ≤ 140737488355328 := by omega
  have HN := Lib.hid hnn
  have HADD : Hid (∀ cs T v5 w5, Grew 9 1 (w.alloc (.cells cs T)) (.slice p n c) n 1 (L.map Value.string) [.string x] v5 w5 → w5.cell? ⟨xb, 1, none⟩ = some (.slice p n c) ∧ w5.frozen? ⟨xb, 1, none⟩ = false ∧ ∃ v', v' = v5 ∧ D7I (w5.setCell ⟨xb, 1, none⟩ v5) xb H (L ++ [x]) v' ∧ Chg (bxQ xb (.slice p n c)) w (w5.setCell ⟨xb, 1, none⟩ v5) ∧ ∀ q, v'.ownBlock = some q → (Value.slice p n c).ownBlock = some q ∨ w.heap.size ≤ q) := Lib.hid (fun cs T v5 w5 hg => by
    have hgw := grown_alloc hg.grown
    have hat := hg.at'
    have hh := hg.held
    have hbx : w5.heap[xb]? = some (.cells #[.int .i64 H, .slice p n c] 67 (0, 0)) := (hgw.block xb (blk_lt h.box) (fun e => h.ne e.symm)).trans h.box
    have hne : v5.ownBlock ≠ some xb := fun e => by
      rcases hat with e2 | ⟨G, e2, hG⟩
      · exact h.ne (e2.symm.trans e)
      · rw [e] at e2; have := Option.some.inj e2; have := blk_lt h.box; omega
    refine ⟨cellB hbx rfl, frozB hbx, v5, rfl, ⟨blk_set hbx 1 _, ?_, hne, fun s hs => ?_, by rw [List.length_append]; show L.length + 1 ≤ _; omega⟩, Chg.setQ ⟨hgw.os, hgw.tape, hgw.output, hgw.size, fun i hi hn => hgw.block i hi (fun e => hn (.inr e.symm))⟩ (.inl rfl) _, fun q hq => ?_⟩
    · rw [List.length_append, List.map_append, ← hnn]
      exact hh.keep fun g hg => Below.heap_setCell _ ⟨xb, 1, none⟩ _ g (fun e => hne (by rw [← show g = xb from e]; exact hg))
    · rcases List.mem_append.1 hs with h1 | h1
      · exact h.z s h1
      · rw [List.mem_singleton.1 h1]; exact hx
    · rcases hat with e2 | ⟨G, e2, hG⟩
      · exact .inl (e2.symm.trans hq)
      · rw [hq] at e2; have := Option.some.inj e2; exact .inr (by omega))
  clear h hx hn hhd hnn
  go_enter Tryd.func17, Tryd.ntmps17
  go_wp2_with (at_builtin; refine wpList_grew (v := .slice p n c) rfl _ _ rfl Tryd.underlying52 (.string ⟨#[]⟩) 1 info_strT rfl (by decide) [.string x] 1 (by simp [Act.eval]) (by simp [Act.eval]) HHD.out rfl rfl (by decide) HONE.out hl1 hl2 ?_; intro v5 w5 hg5; obtain ⟨p5, c5, rfl, _⟩ := hg5.held.cells; obtain ⟨d5, f5, hp5⟩ := HADD.out _ _ _ _ hg5; have HP5 := Lib.hid hp5; clear hg5 hp5)
  go_ret
  obtain ⟨v', rfl, h1, h2, h3⟩ := HP5.out
  exact ⟨rfl, _, h1, h2, h3⟩
set_option maxRecDepth 100000 in
theorem size7_any {w : World} {xb : Nat} {H : Int} {L : List ByteArray} {v : Value} (h : D7I w xb H L v) : Calls Tryd.prog 27 #[.pointer (some ⟨xb, 0, none⟩)] w fun o w' => o = .returned (.int .i64 (L.length : Int)) ∧ w' = w := by
  have c1 : w.cell? ⟨xb, 1, none⟩ = some v := cellB h.box rfl
  obtain ⟨p, c, rfl, _⟩ := h.hd.cells
  generalize L.length = n at c1 ⊢
  clear h
  go_enter Tryd.func27, Tryd.ntmps27
  go_wp2
  go_ret
  exact ⟨rfl, rfl⟩
set_option maxRecDepth 100000 in
set_option maxHeartbeats 4000000 in
theorem inside7_any {w : World} {xb : Nat} {H : Int} {L : List ByteArray} {v : Value} {b e : Nat} (h : D7I w xb H L v) (hb : b ≤ e) (he : e ≤ L.length) :
    Calls Tryd.prog 79 #[.pointer (some ⟨xb, 0, none⟩), .agg #[.int .i64 (b : Int), .int .i64 (e : Int)]] w fun o w' => o = .returned (.bool true) ∧ Below w.heap.size w w' := by
  obtain ⟨n, hn⟩ : ∃ n, n = L.length := ⟨_, rfl⟩
  obtain ⟨w1, hw1⟩ : ∃ x, x = w.alloc (.cells #[.int .i64 (b : Int), .int .i64 (e : Int)] 46) := ⟨_, rfl⟩
  obtain ⟨sb, hsb⟩ : ∃ x, x = w.heap.size := ⟨_, rfl⟩
  have hx : w1.heap[sb]? = some (.cells #[.int .i64 (b : Int), .int .i64 (e : Int)] 46 (0, 0)) := by rw [hw1, hsb]; exact heap_alloc_new w _
  have hbw : Below w.heap.size w w1 := by rw [hw1]; exact (Below.refl _ _).alloc (Nat.le_refl _) _
  have h1 := h.below hbw
  obtain ⟨p, c, rfl, _⟩ := h1.tx
  have c1 : w1.cell? ⟨xb, 1, none⟩ = some (.slice p n c) := by rw [hn]; exact cellB h1.box rfl
  have k0 : w1.cell? ⟨sb, 0, none⟩ = some (.int .i64 (b : Int)) := cellB hx rfl
  have k1 : w1.cell? ⟨sb, 1, none⟩ = some (.int .i64 (e : Int)) := cellB hx rfl
  have hb0 : (0 : Int) ≤ (b : Int) := by omega
  have hbe : (b : Int) ≤ (e : Int) := by omega
  have hen : (e : Int) ≤ (n : Int) := by omega
  have HW := Lib.hid hw1
  have HS := Lib.hid hsb
  have HB := Lib.hid hbw
  clear h h1 hn hw1 hsb hx hbw hb he
  go_enter Tryd.func79, Tryd.ntmps79
  go_upto_region 1 with fail
  rw [← HW.out, ← HS.out]
  go_wp2_with fail
  go_quiet (fail)
  go_wp2_with fail
  go_ret
  exact ⟨rfl, below_drewNQ HB.out _⟩
set_option maxRecDepth 100000 in
set_option maxHeartbeats 4000000 in
/-- the hash of a span that there is, and not empty -/
theorem part7_any {w : World} {xb : Nat} {H : Int} {L : List ByteArray} {v : Value} {b e : Nat} (h : D7I w xb H L v) (hbe : b < e) (he : e ≤ L.length) :
    Calls Tryd.prog 57 #[.pointer (some ⟨xb, 0, none⟩), .agg #[.int .i64 (b : Int), .int .i64 (e : Int)]] w fun o w' => o = .returned (.tuple #[.string (partL L b e), .int .i64 0]) ∧ Below w.heap.size w w' := by
  obtain ⟨n, hn⟩ : ∃ n, n = L.length := ⟨_, rfl⟩
  obtain ⟨w1, hw1⟩ : ∃ x, x = w.alloc (.cells #[.int .i64 (b : Int), .int .i64 (e : Int)] 46) := ⟨_, rfl⟩
  obtain ⟨sb, hsb⟩ : ∃ x, x = w.heap.size := ⟨_, rfl⟩
  have hx : w1.heap[sb]? = some (.cells #[.int .i64 (b : Int), .int .i64 (e : Int)] 46 (0, 0)) := by rw [hw1, hsb]; exact heap_alloc_new w _
  have hbw : Below w.heap.size w w1 := by rw [hw1]; exact (Below.refl _ _).alloc (Nat.le_refl _) _
  have h1 := h.below hbw
  obtain ⟨p, c, rfl, hnc, htx⟩ := h1.tx
  obtain ⟨X, hX⟩ : ∃ X, X = partL L b e := ⟨_, rfl⟩
  obtain ⟨d, hd⟩ : ∃ d, d = e - b := ⟨_, rfl⟩
  have hCI : Hid (Calls Tryd.prog 79 #[.pointer (some ⟨xb, 0, none⟩), .agg #[.int .i64 (b : Int), .int .i64 (e : Int)]] w1 fun o w' => o = .returned (.bool true) ∧ Below w1.heap.size w1 w') := Lib.hid (inside7_any h1 (Nat.le_of_lt hbe) he)
  have HCH : Hid (∀ w', Below w1.heap.size w1 w' → Calls Tryd.prog 80 #[.slice (p.map (·.add b)) d (c - b)] w' fun o w'' => o = .returned (.string X) ∧ Below w'.heap.size w' w'') := Lib.hid (fun w' hb' => by
    have t1 := (htx.below hb' (Nat.le_refl _)).rightC (k := b) (by omega)
    have t2 := t1.cutC (k := d) (by omega)
    have hl : ((L.drop b).take d).length = d := by rw [List.length_take, List.length_drop]; omega
    have := hash7_any d ((L.drop b).take d) (p.map (·.add b)) (c - b) w' t2 hl (by have := h.n; omega) (fun s hs => h.z s (List.mem_of_mem_drop (List.mem_of_mem_take hs)))
    rw [hX]
    unfold partL
    rw [← hd]
    exact this)
  have HSS : Hid (∀ w', Below w1.heap.size w1 w' → w'.cell? ⟨xb, 1, none⟩ = some (.slice p n c) ∧ w'.cell? ⟨sb, 0, none⟩ = some (.int .i64 (b : Int)) ∧ w'.cell? ⟨sb, 1, none⟩ = some (.int .i64 (e : Int))) := Lib.hid (fun w' hb' => ⟨by rw [hn]; exact cellB (h1.below hb').box rfl, cellB (blk_below hx hb' (blk_lt hx)) rfl, cellB (blk_below hx hb' (blk_lt hx)) rfl⟩)
  obtain ⟨c1, k0, k1⟩ := HSS.out w1 (Below.refl _ _)
  have hb0 : (0 : Int) ≤ (b : Int) := by omega
  have hbi : (b : Int) ≤ (e : Int) := by omega
  have hen : (e : Int) ≤ (n : Int) := by omega
  have hec : (e : Int) ≤ (c : Int) := by omega
  have hcb : ¬ (c = b) := by omega
  have hdi : e - b = d := hd.symm
  rw [← hX]
  have HW := Lib.hid hw1
  have HS := Lib.hid hsb
  have HB := Lib.hid hbw
  clear h h1 hn hw1 hsb hx hbw hX hd hbe he htx hnc
  go_enter Tryd.func57, Tryd.ntmps57
  go_upto_region 1 with fail
  rw [← HW.out, ← HS.out]
  go_upto_region 4 with (go_at_call 79; (with_reducible refine (hCI.out).mono ?_); rintro o w2 ⟨rfl, h2⟩; have HB2 := Lib.hid h2; clear h2)
  clear c1 k0 k1
  have HB0 : Hid (Below w1.heap.size w1 w2.drew) := Lib.hid HB2.out.drew
  go_region_held3 (fun w' => w'.cell? ⟨xb, 1, none⟩ = some (.slice p n c) ∧ w'.cell? ⟨sb, 0, none⟩ = some (.int .i64 (b : Int)) ∧ w'.cell? ⟨sb, 1, none⟩ = some (.int .i64 (e : Int))) (first | exact HSS.out _ HB3.out | exact HSS.out _ HB0.out) (first
    | (go_at_call 80; (with_reducible refine (HCH.out _ HB0.out).mono ?_); rintro o w3 ⟨rfl, h3⟩; have HB3 : Hid (Below w1.heap.size w1 w3) := Lib.hid (below_from HB0.out h3 HB0.out.size); clear h3))
  go_wp2_with fail
  go_ret2
  exact ⟨rfl, below_from HB.out HB3.out HB.out.size⟩
set_option maxRecDepth 100000 in
theorem root7_any {w : World} {xb : Nat} {H : Int} {L : List ByteArray} {v : Value} {e : Nat} (h : D7I w xb H L v) (h0 : 0 < e) (he : e ≤ L.length) :
    Calls Tryd.prog 26 #[.pointer (some ⟨xb, 0, none⟩), .int .i64 (e : Int)] w fun o w' => o = .returned (.tuple #[.string (partL L 0 e), .int .i64 0]) ∧ Below w.heap.size w w' := by
  obtain ⟨X, hX⟩ : ∃ X, X = partL L 0 e := ⟨_, rfl⟩
  have CP : Hid (Calls Tryd.prog 57 #[.pointer (some ⟨xb, 0, none⟩), .agg #[.int .i64 0, .int .i64 (e : Int)]] w fun o w' => o = .returned (.tuple #[.string X, .int .i64 0]) ∧ Below w.heap.size w w') := Lib.hid (by rw [hX]; exact part7_any (b := 0) h h0 he)
  rw [← hX]
  clear h hX
  go_enter Tryd.func26, Tryd.ntmps26
  go_wp2_with (go_at_call 57; (with_reducible refine (CP.out).mono ?_); rintro o w2 ⟨rfl, h2⟩; have HB2 := Lib.hid h2; clear h2)
  go_ret2
  exact ⟨rfl, HB2.out⟩
end Go.Proofs.YtafookdllnhdaaaDoor
