/- What the law of single needs of the shape: paths and proofs lie within, short; a cell of a held list; numbers stay. (Lines of XSu4, XSpn, XSq3 under names of their own, so that few texts are needed.) -/
import Derived.Test.YtafookdllnhdaaaDoorMa17
import Derived.Test.YtafookdllnhdaaaDoorMa12
import Derived.Test.YtafookdllnhdaaaDoorMa25
namespace Go.Proofs.YtafookdllnhdaaaDoor
open Go.RowKit Go.Scr Go.Shelf
set_option linter.unusedVariables false
theorem held_cellK {w : World} {T sz n c : Nat} {p : Option Addr} {xs : List Value} (h : Held w T sz (.slice p n c) n xs) (hn : 0 < n) : ∃ g, p = some ⟨g, 0, none⟩ ∧ ∀ k u, xs[k]? = some u → w.cell? ⟨g, k, none⟩ = some u := by
  obtain ⟨p', c', hpe, _, _, hce⟩ := h.cells
  cases hpe
  obtain ⟨g, rfl⟩ : ∃ g, p = some ⟨g, 0, none⟩ := by
    rcases h.2 with ⟨e, h0⟩ | ⟨g, _, _, e, _⟩
    · omega
    · exact ⟨g, by cases e; rfl⟩
  refine ⟨g, rfl, fun k u hk => ?_⟩
  obtain ⟨a, ha, _, hc⟩ := hce k u hk
  cases ha
  have hadd : (⟨g, 0, none⟩ : Addr).add k = ⟨g, k, none⟩ := by unfold Addr.add; split <;> simp_all
  rw [hadd] at hc
  exact hc
theorem ints_belowHK {w w' : World} {B : Nat} {v : Value} {L : List Int} (h : Ints w v L) (hb : Below B w w') (hB : w.heap.size ≤ B) : Ints w' v L := by
  obtain ⟨p, c, h1, h2, h3, h4, h5⟩ := h
  exact ⟨p, c, h1, h2, h3, h4, fun j x hx => by
    obtain ⟨a, ha, hc⟩ := h5 j x hx
    exact ⟨a, ha, (hb.cell (Nat.lt_of_lt_of_le (block_lt_of_cell hc) hB)).trans hc⟩⟩
theorem pathT_fitsK (n : Nat) : ∀ b m, ∀ x ∈ Go.Scr.pathT b n m, b ≤ x.1 ∧ x.1 < x.2 ∧ x.2 ≤ b + n := by
  induction n using Nat.strongRecOn with
  | ind n ih =>
    intro b m x hx
    by_cases h : n ≤ 1
    · rw [pathT_one b m h] at hx; cases hx
    · have hs := spl_lt (show 2 ≤ n by omega)
      by_cases h2 : m < spl n
      · rw [pathT_left b (by omega) h2] at hx
        rcases List.mem_cons.1 hx with rfl | hx
        · show b ≤ b + spl n ∧ b + spl n < b + n ∧ b + n ≤ b + n; omega
        · have := ih (spl n) hs.2.1 b m x hx; omega
      · rw [pathT_right b (by omega) h2] at hx
        rcases List.mem_cons.1 hx with rfl | hx
        · show b ≤ b ∧ b < b + spl n ∧ b + spl n ≤ b + n; omega
        · have := ih (n - spl n) (by omega) (b + spl n) (m - spl n) x hx; omega
theorem proofT_fitsK (n : Nat) : ∀ b m, 1 ≤ n → m ≤ n → ∀ x ∈ Go.Scr.proofT b n m, b ≤ x.1 ∧ x.1 < x.2 ∧ x.2 ≤ b + n := by
  induction n using Nat.strongRecOn with
  | ind n ih =>
    intro b m hn hm x hx
    by_cases h : m = n
    · subst h
      rw [proofT_end] at hx
      split at hx
      · cases hx
      · rw [List.mem_singleton.1 hx]; show b ≤ b ∧ b < b + m ∧ b + m ≤ b + m; omega
    · by_cases h1 : n ≤ 1
      · rw [Go.Scr.proofT, dif_pos (Or.inr h1)] at hx
        split at hx
        · cases hx
        · rw [List.mem_singleton.1 hx]; show b ≤ b ∧ b < b + n ∧ b + n ≤ b + n; omega
      · have hs := spl_lt (show 2 ≤ n by omega)
        by_cases h2 : m ≤ spl n
        · rw [proofT_left b h (by omega) h2] at hx
          rcases List.mem_cons.1 hx with rfl | hx
          · show b ≤ b + spl n ∧ b + spl n < b + n ∧ b + n ≤ b + n; omega
          · have := ih (spl n) hs.2.1 b m hs.1 h2 x hx; omega
        · rw [proofT_right b h (by omega) h2] at hx
          rcases List.mem_cons.1 hx with rfl | hx
          · show b ≤ b ∧ b < b + spl n ∧ b + spl n ≤ b + n; omega
          · have := ih (n - spl n) (by omega) (b + spl n) (m - spl n) (by omega) (by omega) x hx; omega
theorem pathT_leK (n : Nat) : ∀ b m, (Go.Scr.pathT b n m).length ≤ n := by
  induction n using Nat.strongRecOn with
  | ind n ih =>
    intro b m
    by_cases h : n ≤ 1
    · rw [pathT_one b m h]; simp
    · have hs := spl_lt (show 2 ≤ n by omega)
      by_cases h2 : m < spl n
      · rw [pathT_left b (by omega) h2, List.length_cons]
        have := ih (spl n) hs.2.1 b m
        omega
      · rw [pathT_right b (by omega) h2, List.length_cons]
        have := ih (n - spl n) (by omega) (b + spl n) (m - spl n)
        omega
theorem proofT_leK (n : Nat) : ∀ b m, 1 ≤ n → m ≤ n → (Go.Scr.proofT b n m).length ≤ n := by
  induction n using Nat.strongRecOn with
  | ind n ih =>
    intro b m hn hm
    by_cases h : m = n
    · subst h
      rw [proofT_end]
      split
      · simp
      · simpa using hn
    · have h1 : 1 < n ∨ n = 1 := by omega
      rcases h1 with h1 | rfl
      · have hs := spl_lt (show 2 ≤ n by omega)
        by_cases h2 : m ≤ spl n
        · rw [proofT_left b h h1 h2, List.length_cons]
          have := ih (spl n) hs.2.1 b m hs.1 h2; omega
        · rw [proofT_right b h h1 h2, List.length_cons]
          have := ih (n - spl n) (by omega) (b + spl n) (m - spl n) (by omega) (by omega); omega
      · rw [Go.Scr.proofT, dif_pos (Or.inr (Nat.le_refl _))]
        split <;> simp
def SpOutK (w : World) (C : List (Nat × Nat)) (n : Nat) (r : Ending) (w' : World) : Prop :=
  (∃ p c, r = .returned (.tuple #[.slice p n c, .int .i64 0]) ∧ Held w' 46 2 (.slice p n c) n (prsV C) ∧ ∀ g, (Value.slice p n c).ownBlock = some g → w.heap.size ≤ g) ∧ Below w.heap.size w w'
theorem sPathK {N k n : Nat} (w : World) (h1 : k < N) (h2 : N ≤ 4096) (hn : n = (Go.Scr.pathT 0 N k).reverse.length) :
    Calls Tryd.prog 54 #[.int .i64 (N : Int), .int .i64 (k : Int)] w (SpOutK w (Go.Scr.pathT 0 N k).reverse n) := by
  rw [List.length_reverse] at hn
  subst hn
  refine (path_yes N k w h1 (by omega)).mono ?_
  rintro r w2 h
  exact h
theorem sProofK {N m n : Nat} (w : World) (h0 : 1 ≤ m) (h1 : m ≤ N) (h2 : N ≤ 4096) (hn : n = (Go.Scr.proofT 0 N m).reverse.length) :
    Calls Tryd.prog 56 #[.int .i64 (m : Int), .int .i64 (N : Int)] w (SpOutK w (Go.Scr.proofT 0 N m).reverse n) := by
  rw [List.length_reverse] at hn
  subst hn
  by_cases hM : m = N
  · subst hM
    rw [proofT_end, if_pos rfl]
    refine (proof_eq (m : Int) w (by omega) (by omega)).mono ?_
    rintro r w2 ⟨q1, rfl⟩
    exact ⟨⟨none, 0, q1, ⟨rfl, .inl ⟨rfl, rfl⟩⟩, fun g hg => by cases hg⟩, Below.refl _ _⟩
  · refine (proof_yes m N w h0 (by omega) (by omega)).mono ?_
    rintro r w2 h
    exact h
end Go.Proofs.YtafookdllnhdaaaDoor
/- single: the hashes of spans, one by one; the path of a leaf, the proof of two sizes. -/
namespace Go.Proofs.YtafookdllnhdaaaDoor
open Go.RowKit Go.Scr Go.ChangeMaps Go.MapKept
set_option linter.unusedVariables false
def partsL (L : List ByteArray) (C : List (Nat × Nat)) : List ByteArray := C.map fun x => partL L x.1 x.2
abbrev partF (tb : Nat) : Value := .func (.func 13) #[bpT tb] #[]
structure AlI (w wr : World) (L : List ByteArray) (C : List (Nat × Nat)) (i : Nat) (v : Value) : Prop where
  b : Below w.heap.size w wr
  hd : Held wr 9 1 v i ((partsL L (C.take i)).map Value.string)
  ow : ∀ g, v.ownBlock = some g → w.heap.size ≤ g
theorem AlI.push {w w3 w5 : World} {L : List ByteArray} {C : List (Nat × Nat)} {i : Nat} {v v' : Value} {o : Obj} {x : Nat × Nat} (hb : Below w.heap.size w w3) (ow : ∀ g, v.ownBlock = some g → w.heap.size ≤ g) (hx : C[i]? = some x)
    (g : Grew 9 1 (w3.alloc o) v i 1 ((partsL L (C.take i)).map Value.string) [.string (partL L x.1 x.2)] v' w5) : AlI w w5 L C (i + 1) v' := by
  have hs := hb.size
  have hb2 : Below w.heap.size w (w3.alloc o) := hb.alloc hs o
  refine ⟨hb2.grown g.grown (by simp; omega) (fun k hk => ow k hk), ?_, fun q hq => ?_⟩
  · have := g.held
    have e : partsL L (C.take (i + 1)) = partsL L (C.take i) ++ [partL L x.1 x.2] := by
      unfold partsL
      rw [List.take_add_one, hx, List.map_append]
      rfl
    rw [e, List.map_append]
    exact this
  · rcases grewT_own g q hq with h | h
    · exact ow q h
    · omega
set_option maxRecDepth 100000 in
set_option maxHeartbeats 4000000 in
theorem all_any {w : World} {B tb h n : Nat} {L : List ByteArray} {col : Col} (t : TreeU w B tb h L col) (hB : Bas w B) {C : List (Nat × Nat)} (hC : ∀ x ∈ C, x.1 ≤ x.2 ∧ x.2 ≤ L.length) {p : Option Addr} {c : Nat} (hh : Held w 46 2 (.slice p n c) n (prsV C)) (hn : n = C.length) (hn2 : n ≤ 4096) :
    Calls Tryd.prog 55 #[.slice p n c, partF tb] w fun r w' => ∃ v, r = .returned v ∧ AlI w w' L C n v := by
  have HT := Lib.hid t
  have HH := Lib.hid hh
  have HN : Hid (n = C.length ∧ ∀ x ∈ C, x.1 ≤ x.2 ∧ x.2 ≤ L.length) := Lib.hid ⟨hn, hC⟩
  have HB := Lib.hid hB
  have HI0 : Hid (AlI w w L C 0 (.slice none 0 0)) := Lib.hid ⟨Below.refl _ _, ⟨rfl, .inl ⟨rfl, rfl⟩⟩, fun g hg => nomatch hg⟩
  clear t hh hn hC hB
  go_enter Tryd.func55, Tryd.ntmps55
  go_wp2_with fail
  go_loopw [5, 12] (fun v k wr => ∃ i : Nat, k = .int .i64 (i : Int) ∧ i ≤ n ∧ Hid (AlI w wr L C i v)) (fun _ k _ => n - (intOf k).toNat)
  case atStart => exact ⟨0, rfl, Nat.zero_le _, HI0⟩
  case round =>
    clear HI0
    obtain ⟨i, rfl, hi, HI⟩ := hrel
    obtain ⟨vp, vc, rfl, _⟩ := HI.out.hd.cells
    by_cases hlt : i < n
    · have hli : (i : Int) < (n : Int) := by omega
      have hi0 : (0 : Int) ≤ (i : Int) := by omega
      obtain ⟨⟨xb, xe⟩, hx⟩ : ∃ x, C[i]? = some x := ⟨C[i]'(by have := HN.out.1; omega), List.getElem?_eq_getElem _⟩
      have hxm := HN.out.2 _ (List.mem_of_getElem? hx)
      obtain ⟨q0, q1⟩ := prsV_get hx
      obtain ⟨g, rfl, hg⟩ := held_cellK (HH.out.below HI.out.b) (by omega)
      have k0 := hg _ _ q0
      have k1 := hg _ _ q1
      have HX := Lib.hid hx
      have HP : Hid (∀ w3, Below w.heap.size w w3 → Calls Tryd.prog 13 #[bpT tb, .agg #[.int .i64 (xb : Int), .int .i64 (xe : Int)]] w3 fun o w' => o = .returned (.tuple #[.string (partL L xb xe), .int .i64 0]) ∧ Below w3.heap.size w3 w') := Lib.hid (fun w3 hb3 => tpart_any (HT.out.below hb3) (HB.out.below (hb3.mono HB.out.le)) hxm.1 hxm.2)
      have HONE : Hid (∀ u ∈ [Value.string (partL L xb xe)], u.oneCell' = true) := Lib.hid (fun u hu => by rw [List.mem_singleton.1 hu]; rfl)
      have hl1 : (i + 1) * 16 ≤ 140737488355328 := by omega
      have hl2 : i + 1 ≤ 140737488355328 := by omega
      have HLT := Lib.hid hlt
      clear hx hxm q0 q1 hg
      go_wp2_with (first
        | (go_at_call 13; refine (HP.out _ (HI.out.b.alloc HI.out.b.size _)).mono ?_; rintro o w3 ⟨rfl, hb3⟩; have HB3 : Hid (Below w.heap.size w w3) := Lib.hid ((HI.out.b.alloc HI.out.b.size _).trans (hb3.mono (by have := HI.out.b.size; simp; omega))); have HHD : Hid (Held w3 9 1 (.slice vp i vc) i ((partsL L (C.take i)).map Value.string)) := Lib.hid ((HI.out.hd.below ((Below.refl _ _).alloc (Nat.le_refl _) _)).below hb3); clear hb3)
        | (at_builtin; refine wpList_grew (v := .slice vp i vc) rfl _ _ rfl Tryd.underlying52 (.string ⟨#[]⟩) 1 info_strT rfl (by decide) [.string (partL L xb xe)] 1 (by simp [Act.eval]) (by simp [Act.eval]) HHD.out rfl rfl (by decide) HONE.out hl1 hl2 ?_; intro v5 w5 hg5; have HG5 := Lib.hid (AlI.push HB3.out HI.out.ow HX.out hg5); clear hg5))
      exact ⟨⟨i + 1, by simp, HLT.out, HG5⟩, by show n - ((i : Int) + 1).toNat < n - (i : Int).toNat; have := HLT.out; omega⟩
    · obtain rfl : i = n := by omega
      clear hlt
      go_wp2_with fail
      go_ret
      exact ⟨_, rfl, HI.out⟩
set_option maxRecDepth 100000 in
set_option maxHeartbeats 4000000 in
theorem incl_any {w : World} {B tb h N k m : Nat} {L : List ByteArray} {col : Col} (t : TreeU w B tb h L col) (hB : Bas w B) (hk : k < N) (hN : N ≤ L.length) (hL : L.length ≤ 4096) (hm : m = (Go.Scr.pathT 0 N k).reverse.length) (hm2 : m ≤ 4096) (hC : ∀ x ∈ (Go.Scr.pathT 0 N k).reverse, x.1 ≤ x.2 ∧ x.2 ≤ L.length) :
    Calls Tryd.prog 22 #[bpT tb, .int .i64 (N : Int), .int .i64 (k : Int)] w fun r w' => ∃ v, r = .returned (.tuple #[v, .int .i64 0]) ∧ AlI w w' L (Go.Scr.pathT 0 N k).reverse m v := by
  have e1 : ¬ (N : Int) < 0 := by omega
  have e2 : ¬ (L.length : Int) < (N : Int) := by omega
  have e3 : ¬ (k : Int) < 0 := by omega
  have e4 : ¬ (N : Int) ≤ (k : Int) := by omega
  obtain ⟨C, hCe⟩ : ∃ C, C = (Go.Scr.pathT 0 N k).reverse := ⟨_, rfl⟩
  have CS := Lib.hid (size_any t.t)
  have CP := Lib.hid (sPathK w hk (by omega) hm)
  rw [← hCe] at CP hC hm ⊢
  have CA : Hid (∀ (w2 : World) (p : Option Addr) (c : Nat), Below w.heap.size w w2 → Held w2 46 2 (.slice p m c) m (prsV C) → Calls Tryd.prog 55 #[.slice p m c, partF tb] w2 fun r w' => ∃ v, r = .returned v ∧ AlI w2 w' L C m v) := Lib.hid (fun w2 p c hb hh => all_any (t.below hb) (hB.below (hb.mono hB.le)) hC hh hm hm2)
  obtain ⟨ln, hln⟩ : ∃ x, x = L.length := ⟨_, rfl⟩
  rw [← hln] at e2 CS
  clear t hB hk hN hL hm hC hCe hln
  go_enter Tryd.func22, Tryd.ntmps22
  go_wp2_with (first
    | (go_at_call 11; refine CS.out.mono ?_; rintro o w' ⟨rfl, hww⟩; replace hww := hww.symm; subst hww)
    | (go_at_call 54; refine CP.out.mono ?_; rintro o w2 ⟨⟨p, c, rfl, hh, _⟩, hb⟩; have HH := Lib.hid hh; have HB := Lib.hid hb; clear hh hb)
    | (go_at_call 55; refine (CA.out _ _ _ HB.out HH.out).mono ?_; rintro o w3 ⟨v, rfl, ha⟩; have HA := Lib.hid ha; clear ha))
  go_ret2
  exact ⟨v, rfl, HB.out.trans (HA.out.b.mono HB.out.size), HA.out.hd, fun g hg => Nat.le_trans HB.out.size (HA.out.ow g hg)⟩
set_option maxRecDepth 100000 in
set_option maxHeartbeats 4000000 in
theorem cons_any {w : World} {B tb h N k m : Nat} {L : List ByteArray} {col : Col} (t : TreeU w B tb h L col) (hB : Bas w B) (hk0 : 1 ≤ k) (hk : k ≤ N) (hN : N ≤ L.length) (hL : L.length ≤ 4096) (hm : m = (Go.Scr.proofT 0 N k).reverse.length) (hm2 : m ≤ 4096) (hC : ∀ x ∈ (Go.Scr.proofT 0 N k).reverse, x.1 ≤ x.2 ∧ x.2 ≤ L.length) :
    Calls Tryd.prog 23 #[bpT tb, .int .i64 (k : Int), .int .i64 (N : Int)] w fun r w' => ∃ v, r = .returned (.tuple #[v, .int .i64 0]) ∧ AlI w w' L (Go.Scr.proofT 0 N k).reverse m v := by
  have e1 : ¬ (N : Int) < 0 := by omega
  have e2 : ¬ (L.length : Int) < (N : Int) := by omega
  have e3 : ¬ (k : Int) < 1 := by omega
  have e4 : ¬ (N : Int) < (k : Int) := by omega
  obtain ⟨C, hCe⟩ : ∃ C, C = (Go.Scr.proofT 0 N k).reverse := ⟨_, rfl⟩
  have CS := Lib.hid (size_any t.t)
  have CP := Lib.hid (sProofK w hk0 hk (by omega) hm)
  rw [← hCe] at CP hC hm ⊢
  have CA : Hid (∀ (w2 : World) (p : Option Addr) (c : Nat), Below w.heap.size w w2 → Held w2 46 2 (.slice p m c) m (prsV C) → Calls Tryd.prog 55 #[.slice p m c, partF tb] w2 fun r w' => ∃ v, r = .returned v ∧ AlI w2 w' L C m v) := Lib.hid (fun w2 p c hb hh => all_any (t.below hb) (hB.below (hb.mono hB.le)) hC hh hm hm2)
  obtain ⟨ln, hln⟩ : ∃ x, x = L.length := ⟨_, rfl⟩
  rw [← hln] at e2 CS
  clear t hB hk hN hL hm hC hCe hln
  go_enter Tryd.func23, Tryd.ntmps23
  go_wp2_with (first
    | (go_at_call 11; refine CS.out.mono ?_; rintro o w' ⟨rfl, hww⟩; replace hww := hww.symm; subst hww)
    | (go_at_call 56; refine CP.out.mono ?_; rintro o w2 ⟨⟨p, c, rfl, hh, _⟩, hb⟩; have HH := Lib.hid hh; have HB := Lib.hid hb; clear hh hb)
    | (go_at_call 55; refine (CA.out _ _ _ HB.out HH.out).mono ?_; rintro o w3 ⟨v, rfl, ha⟩; have HA := Lib.hid ha; clear ha))
  go_ret2
  exact ⟨v, rfl, HB.out.trans (HA.out.b.mono HB.out.size), HA.out.hd, fun g hg => Nat.le_trans HB.out.size (HA.out.ow g hg)⟩
end Go.Proofs.YtafookdllnhdaaaDoor
