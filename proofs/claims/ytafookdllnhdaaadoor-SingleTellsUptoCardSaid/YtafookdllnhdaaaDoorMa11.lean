/- digest.New, walked. -/
import Derived.Test.YtafookdllnhdaaaDoorMa6
import Derived.Test.YtafookdllnhdaaaDoorMa4
import Derived.Test.YtafookdllnhdaaaDoorMa10
namespace Go.Proofs.YtafookdllnhdaaaDoor
open Go.RowKit Go.Scr
set_option linter.unusedVariables false

theorem run_loadVar_cells {P : Program} (w : World) (g : Nat) (ty : TypeId) (cs : Array Value) (d : TypeDesc) (hc : ∀ j (v : Value), cs[j]? = some v → w.cell? ⟨g, j, none⟩ = some v)
    (hu : P.underlying ty = some d) (hd : (match d with | .struct _ | .array _ _ => true | _ => false) = true) (hi : (P.info? ty).map (·.size) = some cs.size) :
    (loadVar ty ⟨g, 0, none⟩).run P w = .ok (.agg cs) w := by
  have hl : (loadCells ⟨g, 0, none⟩ cs.toList.length).run P w = .ok cs.toList.toArray w :=
    run_loadCells_list (P := P) w ⟨g, 0, none⟩ cs.toList (fun j v hv => by
      have hadd : (⟨g, 0, none⟩ : Addr).add j = ⟨g, j, none⟩ := by unfold Addr.add; split <;> simp_all
      rw [hadd]
      exact hc j v (by simpa using hv))
  cases hq : P.info? ty with
  | none => simp [hq] at hi
  | some i =>
    have hs : i.size = cs.size := by simpa [hq] using hi
    have hagg : (isAgg ty).run P w = .ok true w := by
      unfold isAgg
      rw [Sem.run_bind, run_underlying hu w]
      cases d <;> simp_all
    simp only [Array.length_toList, Array.toArray_toList] at hl
    simp [loadVar, Sem.run_bind, hagg, sizeOf, typeInfo, hq, hs, hl]

theorem wpList_load_cells {P : Program} {ops : Array Oper} {rest : List Oper} {o : Oper} {a : Act} {w : World} {Q : Exit → Act → World → Prop} (hgd : o.guard = none) (ty : TypeId) (x : Operand) (ho : o.op = .load ty x)
    (g : Nat) (hx : a.eval x = .pointer (some ⟨g, 0, none⟩)) (cs : Array Value) (d : TypeDesc) (hc : ∀ j (v : Value), cs[j]? = some v → w.cell? ⟨g, j, none⟩ = some v)
    (hu : P.underlying ty = some d) (hd : (match d with | .struct _ | .array _ _ => true | _ => false) = true) (hi : (P.info? ty).map (·.size) = some cs.size)
    (h : wpList P ops Q rest (a.put o.dst (.agg cs)) w) : wpList P ops Q (o :: rest) a w :=
  wpList_plain hgd fun K hK => by
    unfold Oper.wp execOp
    simp only [ho, hx, Instr.loadAt, Instr.sureAddr, Sem.run_bind, Sem.run_pure, Result.andThen_ok, run_loadVar_cells w g ty cs d hc hu hd hi]
    exact hK _ _ h

def first8 : Array Value := (Hs.map (fun x : Nat => Value.int .u32 (x : Int))).toArray
theorem first8_get (j : Nat) (v : Value) (h : first8[j]? = some v) : j < 8 ∧ v = .int .u32 ((Hs.getD j 0 : Nat) : Int) := by
  unfold first8 at h
  rw [List.getElem?_toArray, List.getElem?_map] at h
  cases hq : Hs[j]? with
  | none => simp [hq] at h
  | some x =>
    have hj : j < 8 := by
      obtain ⟨hj, _⟩ := List.getElem?_eq_some_iff.mp hq
      exact hj
    refine ⟨hj, ?_⟩
    rw [hq] at h
    rw [List.getD_eq_getElem?_getD, hq]
    simpa using h.symm
def hnew : Array Value := hcells Hs (List.replicate 64 0) 0
theorem built_hasher : Tryd.prog.built 127 [(0, .agg first8)] = some hnew := by kernel_rfl
theorem und_state : Tryd.prog.underlying 125 = some (.array 8 99) := by kernel_rfl

set_option maxRecDepth 100000 in
set_option maxHeartbeats 400000 in
theorem new_any (w : World) (ht : Tabs w) :
    Calls Tryd.prog 81 #[] w fun e w' => ∃ h, e = .returned (.pointer (some ⟨h, 0, none⟩)) ∧ w.heap.size ≤ h ∧ Hm w' h [] ∧ Below w.heap.size w w' := by
  have HT := Lib.hid ht
  have hlt := ht.lt
  clear ht
  go_enter Tryd.func81, Tryd.ntmps81
  go_wp2_with (first
    | ((with_reducible refine wpList_load_cells (o := ⟨some 1, _, _, _, _, _⟩) rfl 125 (.global 2) rfl 2 ?_ first8 _ ?_ und_state rfl ?_ ?_); rfl; (intro j v hv; obtain ⟨hj, rfl⟩ := first8_get j v hv; exact HT.out.2 j hj); kernel_rfl)
    | (with_reducible refine wpList_build_as (o := ⟨some 2, _, _, _, _, _⟩) rfl 127 _ rfl hnew (by kernel_rfl) ?_))
  go_ret
  refine ⟨w.heap.size, rfl, Nat.le_refl _, ⟨List.replicate 64 0, by simp, by simp, ?_⟩, (Below.refl _ _).alloc (Nat.le_refl _) _⟩
  exact heap_alloc_new w _

/-- a []string that can be read: its texts, in order -/
def Txts (w : World) (v : Value) (L : List ByteArray) : Prop :=
  ∃ (p : Option Addr) (c : Nat), v = .slice p L.length c ∧ L.length ≤ c ∧ L.length ≤ 281474976710656 ∧ ∀ j s, L[j]? = some s → ∃ a, p = some a ∧ w.cell? (a.add j) = some (.string s)
theorem Addr_add_block (a : Addr) (n : Nat) : (a.add n).block = a.block := by unfold Addr.add; split <;> rfl
theorem Txts.below {w w' : World} {B : Nat} {v : Value} {L : List ByteArray} (h : Txts w v L) (hb : Below B w w') (hB : w.heap.size ≤ B) : Txts w' v L := by
  obtain ⟨p, c, h1, h2, h3, h4⟩ := h
  refine ⟨p, c, h1, h2, h3, fun j s hs => ?_⟩
  obtain ⟨a, ha, hc⟩ := h4 j s hs
  exact ⟨a, ha, (hb.cell (Nat.lt_of_lt_of_le (block_lt_of_cell hc) hB)).trans hc⟩
theorem Txts.drew {w : World} {v : Value} {L : List ByteArray} (h : Txts w v L) : Txts w.drew v L := h
/-- texts, one behind the other -/
def cat (L : List ByteArray) : List UInt8 := L.flatMap (·.data.toList)
theorem cat_take {L : List ByteArray} {k : Nat} {s : ByteArray} (h : L[k]? = some s) : cat (L.take (k + 1)) = cat (L.take k) ++ s.data.toList := by
  obtain ⟨hk, rfl⟩ := List.getElem?_eq_some_iff.mp h
  unfold cat
  rw [List.take_succ_eq_append_getElem hk, List.flatMap_append]
  simp
theorem cat_take_le (L : List ByteArray) (k : Nat) : (cat (L.take k)).length ≤ (cat L).length := by
  conv => rhs; rw [← List.take_append_drop k L]
  unfold cat
  rw [List.flatMap_append, List.length_append]
  omega

set_option maxRecDepth 100000 in
set_option maxHeartbeats 1000000 in
theorem sum_any (v : Value) (L : List ByteArray) (w : World) (ht : Tabs w) (hv : Txts w v L) (hl : (cat L).length ≤ 1000000000000000000) :
    Calls Tryd.prog 58 #[v] w fun e w' => e = .returned (.string ⟨(sha (cat L)).toArray⟩) ∧ Below w.heap.size w w' := by
  have HT := Lib.hid ht
  have HV0 := Lib.hid hv
  obtain ⟨p, c, rfl, hv1, hv2, hv3⟩ := hv
  obtain ⟨n, hn⟩ : ∃ n, n = L.length := ⟨_, rfl⟩
  rw [← hn] at hv1 HV0 ⊢
  have HN := Lib.hid hn
  have HV := Lib.hid hv3
  have hnb : n ≤ 1000000000000000 := by omega
  clear ht hv3 hv2 hv1 hn
  go_enter Tryd.func58, Tryd.ntmps58
  go_wp2_with (go_at_call 81; refine (new_any _ HT.out).mono ?_; rintro e w1 ⟨h, rfl, hh, hm1, hb1⟩; have HB1 := Lib.hid hb1; have HM1 := Lib.hid hm1; clear hb1 hm1)
  have hhne : h ≠ 3 ∧ h ≠ 2 := by have := HT.out.lt; omega
  go_loopw [9] (fun v wr => ∃ k : Nat, k ≤ n ∧ v = .int .i64 k ∧ Hm wr h (cat (L.take k)) ∧ Below w.heap.size w wr) (fun v _ => n - (intOf v).toNat)
  case atStart => exact ⟨0, by omega, rfl, HM1.out, HB1.out⟩
  case round =>
    clear HM1 HB1
    obtain ⟨k, hk, rfl, hm, hbel⟩ := hrel
    have HM := Lib.hid hm
    have HBEL := Lib.hid hbel
    clear hm hbel
    by_cases hlt : k < n
    · obtain ⟨s, hs⟩ : ∃ s, L[k]? = some s := ⟨L[k]'(by rw [← HN.out]; exact hlt), List.getElem?_eq_getElem _⟩
      obtain ⟨a, rfl, hc⟩ := HV.out k s hs
      have hc' : wr.cell? (a.add k) = some (.string s) := (HBEL.out.cell (block_lt_of_cell hc)).trans hc
      have hct := cat_take hs
      have hml : (cat (L.take k)).length + s.size ≤ 1152921504606846976 := by
        have h1 := cat_take_le L (k + 1)
        have h2 : s.data.toList.length = s.size := by simp
        rw [hct, List.length_append] at h1
        omega
      have HCT := Lib.hid hct
      have HML := Lib.hid hml
      have HNE := Lib.hid hhne
      clear hct hml hs hc hhne
      go_wp2_with (go_at_call 82; refine (write_any h _ s _ HM.out (HT.out.below HBEL.out) HML.out HNE.out.1 HNE.out.2).mono ?_; rintro e w2 ⟨rfl, hm2, hg2⟩; have HM2 := Lib.hid hm2; have HG2 := Lib.hid hg2; clear hm2 hg2)
      refine ⟨⟨k + 1, by omega, rfl, by rw [HCT.out]; exact HM2.out, below_only HBEL.out HG2.out HBEL.out.size hh⟩, ?_⟩
      show n - ((k : Int) + 1).toNat < n - (k : Int).toNat
      omega
    · have HK := Lib.hid (show k = n by omega)
      have hkn : ¬ ((k : Int) < (n : Int)) := by omega
      have hmm : Hm wr h (cat L) := by
        have := HM.out
        rw [HK.out, HN.out, List.take_length] at this
        exact this
      have HMM := Lib.hid hmm
      clear hmm hhne
      go_wp2_with (go_at_call 83; refine (hsum_any h _ _ HMM.out (HT.out.below HBEL.out) hl).mono ?_; rintro e w3 ⟨rfl, hb3⟩; have HB3 := Lib.hid hb3; clear hb3)
      go_ret
      exact ⟨rfl, below_from HBEL.out HB3.out HBEL.out.size⟩
end Go.Proofs.YtafookdllnhdaaaDoor
/- Texts of hashes; the hasher's Len and Clone. -/
namespace Go.Proofs.YtafookdllnhdaaaDoor
open Go.RowKit Go.Scr
set_option linter.unusedVariables false

def str (l : List UInt8) : ByteArray := ⟨l.toArray⟩
theorem str_size (l : List UInt8) : (str l).size = l.length := by
  show l.toArray.size = _
  simp
theorem str_list (l : List UInt8) : (str l).data.toList = l := by simp [str]
theorem sha_length (l : List UInt8) : (sha l).length = 32 := by
  unfold sha
  rw [flat_length, (absorb_St _).1]
def hempty : ByteArray := str (sha [])
def hnode (l r : ByteArray) : ByteArray := str (sha (1 :: (l.data.toList ++ r.data.toList)))
theorem txts_none (w : World) : Txts w (.slice none 0 0) [] := ⟨none, 0, rfl, by simp, by simp, fun j s h => by simp at h⟩
theorem txts_alloc (w : World) (T : TypeId) (L : List ByteArray) (hl : L.length ≤ 281474976710656) :
    Txts (w.alloc (.cells ((L.map Value.string).toArray) T)) (.slice (some ⟨w.heap.size, 0, none⟩) L.length L.length) L := by
  refine ⟨_, _, rfl, Nat.le_refl _, hl, fun j s h => ⟨_, rfl, ?_⟩⟩
  have hadd : (⟨w.heap.size, 0, none⟩ : Addr).add j = ⟨w.heap.size, j, none⟩ := by unfold Addr.add; split <;> simp_all
  rw [hadd, cell_of_row _ _ _ _ _ _ (heap_alloc_new w _)]
  simp [h]

theorem txts_drew (w : World) (T n : TypeId) (L : List ByteArray) (hl : L.length ≤ 281474976710656) (m : Nat) (hm : L.length = m) :
    Txts (w.drewN n |>.alloc (.cells ((L.map Value.string).toArray) T)) (.slice (some ⟨w.heap.size, 0, none⟩) m m) L := by
  subst hm
  exact txts_alloc (w.drewN n) T L hl
end Go.Proofs.YtafookdllnhdaaaDoor
/- The program's Node. -/
namespace Go.Proofs.YtafookdllnhdaaaDoor
open Go.RowKit Go.Scr
set_option linter.unusedVariables false

def okNode (l r : ByteArray) : Bool := decide (l.size = 32) && decide (r.size = 32)
def nodeS (l r : ByteArray) : ByteArray := if l.size = 32 ∧ r.size = 32 then hnode l r else ⟨#[]⟩
def nodeE (l r : ByteArray) : Int := if l.size = 32 ∧ r.size = 32 then 0 else 12

set_option maxRecDepth 100000 in
set_option maxHeartbeats 400000 in
theorem dnode_any (l r : ByteArray) (w : World) (ht : Tabs w) :
    Calls Tryd.prog 29 #[.string l, .string r] w fun e w' => e = .returned (.tuple #[.string (nodeS l r), .int .i64 (nodeE l r)]) ∧ Below w.heap.size w w' := by
  by_cases hl : l.size = 32
  · by_cases hr : r.size = 32
    · have h := sum_any (.slice (some ⟨w.heap.size, 0, none⟩) 3 3) [⟨#[1]⟩, l, r] (w.alloc (.cells #[.string ⟨#[1]⟩, .string l, .string r] 9)) (ht.below ((Below.refl _ _).alloc (Nat.le_refl _) _)) (txts_alloc w 9 [⟨#[1]⟩, l, r] (by simp)) (by simp [cat]; omega)
      have h' : Calls Tryd.prog 58 #[.slice (some ⟨w.heap.size, 0, none⟩) 3 3] (w.alloc (.cells #[.string ⟨#[1]⟩, .string l, .string r] 9)) fun e w' => e = .returned (.string (hnode l r)) ∧ Below w.heap.size w w' := by
        refine h.mono ?_
        rintro e w1 ⟨rfl, hb⟩
        exact ⟨by simp [cat, hnode, str], below_from ((Below.refl _ _).alloc (Nat.le_refl _) _) hb (by simp)⟩
      have H := Lib.hid h'
      clear h h' ht
      have hn1 : nodeS l r = hnode l r := if_pos ⟨hl, hr⟩
      have hn2 : nodeE l r = 0 := if_pos ⟨hl, hr⟩
      rw [hn1, hn2]
      clear hn1 hn2
      have hl' : (l.size : Int) = 32 := by omega
      have hr' : (r.size : Int) = 32 := by omega
      go_enter Tryd.func29, Tryd.ntmps29
      go_wp2_with (go_at_call 58; refine H.out.mono ?_; rintro e w1 ⟨rfl, hb⟩)
      go_ret2
      exact ⟨rfl, hb⟩
    · have hn1 : nodeS l r = ⟨#[]⟩ := if_neg (fun h => hr h.2)
      have hn2 : nodeE l r = 12 := if_neg (fun h => hr h.2)
      rw [hn1, hn2]
      clear hn1 hn2
      have hl' : (l.size : Int) = 32 := by omega
      have hr' : ¬ (r.size : Int) = 32 := by omega
      go_enter Tryd.func29, Tryd.ntmps29
      go_wp2
      go_ret2
      exact ⟨rfl, Below.refl _ _⟩
  · have hn1 : nodeS l r = ⟨#[]⟩ := if_neg (fun h => hl h.1)
    have hn2 : nodeE l r = 12 := if_neg (fun h => hl h.1)
    rw [hn1, hn2]
    clear hn1 hn2
    have hl' : ¬ (l.size : Int) = 32 := by omega
    go_enter Tryd.func29, Tryd.ntmps29
    go_wp2
    go_ret2
    exact ⟨rfl, Below.refl _ _⟩

end Go.Proofs.YtafookdllnhdaaaDoor
/- Empty; the document's Node. -/
namespace Go.Proofs.YtafookdllnhdaaaDoor
open Go.RowKit Go.Scr
set_option linter.unusedVariables false

set_option maxRecDepth 100000 in
set_option maxHeartbeats 400000 in
theorem dempty_any (w : World) (ht : Tabs w) : Calls Tryd.prog 41 #[] w fun e w' => e = .returned (.string hempty) ∧ Below w.heap.size w w' := by
  have h := sum_any _ _ w ht (txts_none w) (by simp [cat])
  have H := Lib.hid h
  clear h ht
  go_enter Tryd.func41, Tryd.ntmps41
  go_wp2_with (go_at_call 58; refine H.out.mono ?_; rintro e w1 ⟨rfl, hb⟩)
  go_ret
  exact ⟨rfl, hb⟩

end Go.Proofs.YtafookdllnhdaaaDoor
