/- Layer 3, walked: root, R; Root of both. -/
import Derived.Test.YtejdpahgofhioaaDoorRec3
namespace Go.Proofs.YtejdpahgofhioaaDoor
open Go.RowKit Go.Scr
set_option linter.unusedVariables false

theorem Txts.cutC {w : World} {p : Option Addr} {n c k : Nat} {L : List ByteArray} (h : Txts w (.slice p n c) L) (hk : k ≤ n) : Txts w (.slice p k c) (L.take k) := by
  obtain ⟨q, c', he, h1, h2, h3⟩ := h
  simp only [Value.slice.injEq] at he
  obtain ⟨rfl, hn, rfl⟩ := he
  refine ⟨p, c, by rw [List.length_take, Nat.min_eq_left (by omega)], by rw [List.length_take]; omega, by rw [List.length_take]; omega, fun j s hs => h3 j s ?_⟩
  rw [List.getElem?_take] at hs
  split at hs
  · exact hs
  · cases hs
theorem Txts.rightC {w : World} {p : Option Addr} {n c k : Nat} {L : List ByteArray} (h : Txts w (.slice p n c) L) (hk : k ≤ n) : Txts w (.slice (p.map (·.add k)) (n - k) (c - k)) (L.drop k) := by
  obtain ⟨q, c', he, h1, h2, h3⟩ := h
  simp only [Value.slice.injEq] at he
  obtain ⟨rfl, hn, rfl⟩ := he
  refine ⟨_, c - k, by rw [List.length_drop, hn], by rw [List.length_drop]; omega, by rw [List.length_drop]; omega, fun j s hs => ?_⟩
  rw [List.getElem?_drop] at hs
  obtain ⟨a, ha, hc⟩ := h3 (k + j) s hs
  exact ⟨a.add k, by rw [ha]; rfl, by rw [Addr.add_add]; exact hc⟩

theorem store_func (P : Program) (w : World) (T F : Nat) (cap : Array Value) :
    (store ⟨w.heap.size, 0, none⟩ (.func (.func F) #[] cap)).run P (w.alloc (.cells #[.nilFunc] T)) = .ok () (w.alloc (.cells #[.func (.func F) #[] cap] T)) := by
  have h := heap_alloc_new w (.cells #[.nilFunc] T)
  have hc := cell_of_one h
  have hf := free_of_one h
  rw [run_store _ _ _ _ _ rfl, hc]
  simp only [hf, Bool.false_eq_true, if_false]
  rw [World.setCell_alloc_at _ _ _ _ _ rfl]
  rfl
set_option maxRecDepth 100000 in
set_option maxHeartbeats 400000 in
theorem root_any (p : Option Addr) (n c : Nat) (L : List ByteArray) (w : World) (ht : Tabs w) (hv : Txts w (.slice p n c) L) (hL : L.length = n) (hn : n ≤ 1048576) :
    Calls Tryd.prog 69 #[.slice p n c] w fun e w' => e = .returned (.string (rootR L)) ∧ Below w.heap.size w w' := by
  have HT := Lib.hid ht
  have HV := Lib.hid hv
  have HC := Lib.hid (fun (w1 : World) (hb : Below w.heap.size w w1) (hx : BoxF w1 w.heap.size 114) => rootc_any n L p c w.heap.size w1 (HV.out.below hb (Nat.le_refl _)) hL hn hx (HT.out.below hb))
  have hst := store_func Tryd.prog w 91 114 #[.pointer (some ⟨w.heap.size, 0, none⟩)]
  have HX : Hid (BoxF (w.alloc (.cells #[.func (.func 114) #[] #[.pointer (some ⟨w.heap.size, 0, none⟩)]] 91)) w.heap.size 114) := Lib.hid ⟨_, heap_alloc_new w _⟩
  have HB : Hid (Below w.heap.size w (w.alloc (.cells #[.func (.func 114) #[] #[.pointer (some ⟨w.heap.size, 0, none⟩)]] 91))) := Lib.hid ((Below.refl _ _).alloc (Nat.le_refl _) _)
  clear hv ht hL
  go_enter Tryd.func69, Tryd.ntmps69
  go_wp2_with (go_at_call 114; with_reducible refine (HC.out _ HB.out HX.out).mono ?_; rintro e w2 ⟨rfl, hb⟩; have HB2 := Lib.hid (below_from HB.out hb HB.out.size); clear hb)
  go_ret
  exact ⟨rfl, HB2.out⟩

set_option maxRecDepth 100000 in
set_option maxHeartbeats 2000000 in
theorem R_any (n : Nat) : ∀ (L : List ByteArray) (p : Option Addr) (c : Nat) (w : World), Txts w (.slice p n c) L → L.length = n → n ≤ 1048576 →
    Calls Tryd.prog 71 #[.slice p n c] w fun e w' => e = .returned (.string (rootR L)) ∧ Below w.heap.size w w' := by
  induction n using Nat.strongRecOn with
  | ind n ih =>
    intro L p c w hv hL hn
    have IH := Lib.hid ih
    have HV := Lib.hid hv
    obtain ⟨p', c', he, hv1, hv2, hv3⟩ := hv
    simp only [Value.slice.injEq] at he
    obtain ⟨rfl, hnl, rfl⟩ := he
    clear ih hnl
    rcases Nat.lt_trichotomy n 1 with h0 | h1 | h2
    · have hL0 : L = [] := List.eq_nil_of_length_eq_zero (by omega)
      have hr0 : rootR L = hempty := by rw [hL0]; exact rootL_nil _ _
      rw [hr0]
      have hni2 : ((n : Int) == 0) = true := beq_iff_eq.2 (by omega)
      have HE := Lib.hid (fun w' => rempty_any w')
      clear hv1 hv2 hv3 hL0 hr0 h0 hL
      go_enter Tryd.func71, Tryd.ntmps71
      go_wp2_with (go_at_call 116; with_reducible refine (HE.out _).mono ?_; rintro e w2 ⟨rfl, hb⟩; have HB := Lib.hid hb; clear hb)
      go_ret
      exact ⟨rfl, HB.out⟩
    · obtain ⟨x, rfl⟩ : ∃ x, L = [x] := by
        cases L with
        | nil => simp at hL; omega
        | cons x t => cases t with
          | nil => exact ⟨x, rfl⟩
          | cons y t => simp at hL; omega
      have hr1 : rootR [x] = x := rootL_one _ _ _
      rw [hr1]
      obtain ⟨a, rfl, hc⟩ := hv3 0 x rfl
      rw [Addr.add_zero'] at hc
      have hni : ((n : Int) == 0) = false := beq_eq_false_iff_ne.2 (by omega)
      have hni1 : ((n : Int) == 1) = true := beq_iff_eq.2 (by omega)
      have hnp : (0 : Int) < (n : Int) := by omega
      clear hv1 hv2 hv3 hr1 hL h1
      go_enter Tryd.func71, Tryd.ntmps71
      go_wp2
      go_ret
      exact ⟨rfl, Below.refl _ _⟩
    · have hni : ((n : Int) == 0) = false := beq_eq_false_iff_ne.2 (by omega)
      have hni1 : ((n : Int) == 1) = false := beq_eq_false_iff_ne.2 (by omega)
      have HP := Lib.hid (fun w' => splitr_any n w' (by omega))
      rw [splitS_nat h2] at HP
      have hsp := spl_lt (show 2 ≤ n by omega)
      have hR := rootR_split (L := L) (by omega)
      rw [hL] at hR
      obtain ⟨k, hk⟩ : ∃ k, k = spl n := ⟨_, rfl⟩
      rw [← hk] at HP hsp hR
      obtain ⟨m, hm⟩ : ∃ m, m = n - k := ⟨_, rfl⟩
      obtain ⟨X1, hX1⟩ : ∃ X, X = rootR (L.take k) := ⟨_, rfl⟩
      obtain ⟨X2, hX2⟩ : ∃ X, X = rootR (L.drop k) := ⟨_, rfl⟩
      rw [← hX1, ← hX2] at hR
      rw [hR]
      have IHA := Lib.hid (fun w' (h : Below w.heap.size w w') => IH.out k hsp.2.1 (L.take k) p c w' ((HV.out.cutC (by omega)).below h (Nat.le_refl _)) (by rw [List.length_take]; omega) (by omega))
      have IHB := Lib.hid (fun w' (h : Below w.heap.size w w') => IH.out (n - k) (by omega) (L.drop k) (p.map (·.add k)) (c - k) w' ((HV.out.rightC (k := k) (by omega)).below h (Nat.le_refl _)) (by rw [List.length_drop]; omega) (by omega))
      rw [← hX1] at IHA
      rw [← hX2] at IHB
      have HND := Lib.hid (fun w' => rnode_any X1 X2 w')
      have hkc : (k : Int) ≤ (c : Int) := by omega
      have hkn : (k : Int) ≤ (n : Int) := by omega
      have hk0 : (0 : Int) ≤ (k : Int) := by omega
      have hnc : (n : Int) ≤ (c : Int) := by omega
      have hck : ¬ (c - k = 0) := by omega
      clear hv1 hv2 hv3 hL hR hX1 hX2 hk hm
      go_enter Tryd.func71, Tryd.ntmps71
      go_wp2_with (first
        | (go_at_call 17; with_reducible refine (HP.out w).mono ?_; rintro e w2 ⟨rfl, hw⟩; rw [hw]; clear hw w2)
        | (go_at_call 71; with_reducible refine (IHA.out w (Below.refl _ _)).mono ?_; rintro e w3 ⟨rfl, hb⟩; have HB3 := Lib.hid hb; clear hb)
        | (go_at_call 71; with_reducible refine (IHB.out w3 HB3.out).mono ?_; rintro e w4 ⟨rfl, hb⟩; have HB4 := Lib.hid (below_from HB3.out hb HB3.out.size); clear hb)
        | (go_at_call 89; with_reducible refine (HND.out w4).mono ?_; rintro e w5 ⟨rfl, hb⟩; have HB5 := Lib.hid (below_from HB4.out hb HB4.out.size); clear hb))
      go_ret
      exact ⟨rfl, HB5.out⟩
end Go.Proofs.YtejdpahgofhioaaDoor
