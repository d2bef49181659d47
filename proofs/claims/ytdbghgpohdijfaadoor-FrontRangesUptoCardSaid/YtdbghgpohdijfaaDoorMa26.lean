/- Layer 3, walked: refused, wrong; root; R. -/
import Derived.Test.YtdbghgpohdijfaaDoorMa16
import Derived.Test.YtdbghgpohdijfaaDoorMa11
namespace Go.Proofs.YtdbghgpohdijfaaDoor
open Go.RowKit Go.Scr
set_option linter.unusedVariables false

/-- has each text 32 bytes? -/
def ok32 (L : List ByteArray) : Bool := L.all fun s => s.size == 32
theorem ok32_take {L : List ByteArray} {k : Nat} {s : ByteArray} (h : L[k]? = some s) : ok32 (L.take (k + 1)) = (ok32 (L.take k) && (s.size == 32)) := by
  obtain ⟨hk, rfl⟩ := List.getElem?_eq_some_iff.mp h
  unfold ok32
  rw [List.take_succ_eq_append_getElem hk, List.all_append]
  simp
theorem ok32_bad {L : List ByteArray} {k : Nat} {s : ByteArray} (h : L[k]? = some s) (hs : s.size ≠ 32) : ok32 L = false := by
  unfold ok32
  rw [List.all_eq_false]
  exact ⟨s, List.mem_of_getElem? h, by simpa using hs⟩
def refusedE (L : List ByteArray) : Int := if 4096 < L.length then 31 else if ok32 L = false then 32 else 0

set_option maxRecDepth 100000 in
set_option maxHeartbeats 400000 in
theorem refused1_any (s : ByteArray) (w : World) :
    Calls Tryd.prog 113 #[.string s] w fun e w' => e = .returned (.bool (!(s.size == 32))) ∧ w' = w := by
  go_enter Tryd.func113, Tryd.ntmps113
  go_wp2
  go_ret
  refine ⟨?_, rfl⟩
  show Ending.returned (.bool ((s.size : Int) != 32)) = .returned (.bool (!(s.size == 32)))
  by_cases h : s.size = 32
  · have e1 : ((s.size : Int) != 32) = false := by rw [bne_eq_false_iff_eq]; omega
    have e2 : (s.size == 32) = true := beq_iff_eq.2 h
    rw [e1, e2]; rfl
  · have e1 : ((s.size : Int) != 32) = true := by rw [bne_iff_ne]; omega
    have e2 : (s.size == 32) = false := beq_eq_false_iff_ne.2 h
    rw [e1, e2]; rfl

set_option maxRecDepth 100000 in
set_option maxHeartbeats 1000000 in
theorem indexfunc_any (v : Value) (L : List ByteArray) (w : World) (hv : Txts w v L) :
    Calls Tryd.prog 124 #[v, .func (.func 113) #[] #[]] w fun e w' => ∃ z : Int, e = .returned (.int .i64 z) ∧ (ok32 L = true → z = -1) ∧ (ok32 L = false → 0 ≤ z) ∧ w' = w := by
  obtain ⟨p, c, rfl, hv1, hv2, hv3⟩ := hv
  obtain ⟨n, hn⟩ : ∃ n, n = L.length := ⟨_, rfl⟩
  rw [← hn] at hv1 ⊢
  have HN := Lib.hid hn
  have HV := Lib.hid hv3
  have hnb : n ≤ 281474976710656 := by omega
  clear hn hv2 hv3 hv1
  go_enter Tryd.func124, Tryd.ntmps124
  go_wp2
  go_loop [8] (fun q => ∃ k : Nat, k ≤ n ∧ q = .int .i64 k ∧ Hid (ok32 (L.take k) = true)) (fun q => n - (intOf q).toNat)
  case atStart => exact ⟨0, by omega, rfl, Lib.hid rfl⟩
  case round =>
    obtain ⟨k, hk, rfl, hall⟩ := hrel
    by_cases hlt : k < n
    · obtain ⟨s, hs⟩ : ∃ s, L[k]? = some s := ⟨L[k]'(by rw [← HN.out]; exact hlt), List.getElem?_eq_getElem _⟩
      obtain ⟨a, rfl, hc⟩ := HV.out k s hs
      have HS := Lib.hid hs
      clear hs
      have HC := Lib.hid (refused1_any s w)
      by_cases h32 : s.size = 32
      · rw [show (!(s.size == 32)) = false by simp [h32]] at HC
        have HALL := Lib.hid (by rw [ok32_take HS.out, hall.out]; simp [h32] : ok32 (L.take (k + 1)) = true)
        clear h32
        go_wp2_with (go_at_call 113; with_reducible refine (HC.out).mono ?_; rintro e w2 ⟨rfl, hw⟩; rw [hw]; clear hw w2)
        exact ⟨⟨k + 1, by omega, rfl, HALL⟩, (by show n - ((k : Int) + 1).toNat < n - (k : Int).toNat; omega)⟩
      · rw [show (!(s.size == 32)) = true by simp [h32]] at HC
        have HBAD := Lib.hid (ok32_bad HS.out h32)
        clear h32
        go_wp2_with (go_at_call 113; with_reducible refine (HC.out).mono ?_; rintro e w2 ⟨rfl, hw⟩; rw [hw]; clear hw w2)
        go_ret
        exact ⟨(k : Int), rfl, (fun h => (by rw [HBAD.out] at h; cases h)), (fun _ => Int.natCast_nonneg k), rfl⟩
    · have HK := Lib.hid (by have := hall.out; rwa [show k = n by omega, HN.out, List.take_length] at this : ok32 L = true)
      go_wp2
      go_ret
      exact ⟨-1, rfl, fun _ => rfl, fun h => (by rw [HK.out] at h; cases h), rfl⟩

set_option maxRecDepth 100000 in
set_option maxHeartbeats 400000 in
theorem containsfunc_any (v : Value) (L : List ByteArray) (w : World) (hv : Txts w v L) :
    Calls Tryd.prog 86 #[v, .func (.func 113) #[] #[]] w fun e w' => e = .returned (.bool (!ok32 L)) ∧ w' = w := by
  have HI := Lib.hid (indexfunc_any v L w hv)
  obtain ⟨p, c, rfl, hv1, hv2, hv3⟩ := hv
  obtain ⟨b, hb⟩ : ∃ b, b = ok32 L := ⟨_, rfl⟩
  rw [← hb] at HI ⊢
  clear hv1 hv2 hv3 hb
  cases b with
  | true =>
    go_enter Tryd.func86, Tryd.ntmps86
    go_wp2_with (go_at_call 124; with_reducible refine (HI.out).mono ?_; rintro e w2 ⟨z, rfl, hz, _, hw⟩; rw [hw]; clear hw w2; have hz2 := hz rfl; clear hz; subst hz2)
    go_ret
    exact ⟨rfl, rfl⟩
  | false =>
    go_enter Tryd.func86, Tryd.ntmps86
    go_wp2_with (go_at_call 124; with_reducible refine (HI.out).mono ?_; rintro e w2 ⟨z, rfl, _, hz, hw⟩; rw [hw]; clear hw w2; have hz2 : (0 : Int) ≤ z := hz rfl; clear hz)
    go_ret
    exact ⟨rfl, rfl⟩

set_option maxRecDepth 100000 in
set_option maxHeartbeats 400000 in
theorem refused_any (v : Value) (L : List ByteArray) (w : World) (hv : Txts w v L) :
    Calls Tryd.prog 65 #[v] w fun e w' => e = .returned (.int .i64 (refusedE L)) ∧ w' = w := by
  have HI := Lib.hid (containsfunc_any v L w hv)
  obtain ⟨p, c, rfl, hv1, hv2, hv3⟩ := hv
  obtain ⟨n, hn⟩ : ∃ n, n = L.length := ⟨_, rfl⟩
  unfold refusedE
  rw [← hn] at HI hv1 hv2 ⊢
  obtain ⟨b, hb⟩ : ∃ b, b = ok32 L := ⟨_, rfl⟩
  rw [← hb] at HI ⊢
  clear hv3 hn hb
  by_cases hbig : 4096 < n
  · rw [if_pos hbig]
    have hi : (4096 : Int) < (n : Int) := by omega
    clear hbig
    go_enter Tryd.func65, Tryd.ntmps65
    go_wp2
    go_ret
    exact ⟨rfl, rfl⟩
  · rw [if_neg hbig]
    have hi : ¬ ((4096 : Int) < (n : Int)) := by omega
    clear hbig
    cases b with
    | true =>
      go_enter Tryd.func65, Tryd.ntmps65
      go_wp2_with (go_at_call 86; with_reducible refine (HI.out).mono ?_; rintro e w2 ⟨rfl, hw⟩; rw [hw]; clear hw w2)
      go_ret
      exact ⟨rfl, rfl⟩
    | false =>
      go_enter Tryd.func65, Tryd.ntmps65
      go_wp2_with (go_at_call 86; with_reducible refine (HI.out).mono ?_; rintro e w2 ⟨rfl, hw⟩; rw [hw]; clear hw w2)
      go_ret
      exact ⟨rfl, rfl⟩

end Go.Proofs.YtdbghgpohdijfaaDoor
/- Layer 3, walked: root, R; Root of both. -/
namespace Go.Proofs.YtdbghgpohdijfaaDoor
open Go.RowKit Go.Scr
set_option linter.unusedVariables false

theorem Txts.cutC {w : World} {p : Option Addr} {n c k : Nat} {L : List ByteArray} (h : Txts w (.slice p n c) L) (hk : k ≤ n) : Txts w (.slice p k c) (L.take k) := by
  obtain ⟨q, c', he, h1, h2, h3⟩ := h
  simp only [Value.slice.injEq] at he
  obtain ⟨rfl, hn, rfl⟩ := he
  refine ⟨p, c, by rw [List.length_take, Nat.min_eq_left (by omega)], by rw [List.length_take]; omega, by rw [List.length_take]; omega, fun j s hs => h3 j s ?_⟩
  rw [List.getElem?_take] at hs
  split at hs
  · exact hs
  · cases hs
theorem Txts.rightC {w : World} {p : Option Addr} {n c k : Nat} {L : List ByteArray} (h : Txts w (.slice p n c) L) (hk : k ≤ n) : Txts w (.slice (p.map (·.add k)) (n - k) (c - k)) (L.drop k) := by
  obtain ⟨q, c', he, h1, h2, h3⟩ := h
  simp only [Value.slice.injEq] at he
  obtain ⟨rfl, hn, rfl⟩ := he
  refine ⟨_, c - k, by rw [List.length_drop, hn], by rw [List.length_drop]; omega, by rw [List.length_drop]; omega, fun j s hs => ?_⟩
  rw [List.getElem?_drop] at hs
  obtain ⟨a, ha, hc⟩ := h3 (k + j) s hs
  exact ⟨a.add k, by rw [ha]; rfl, by rw [Addr.add_add]; exact hc⟩

theorem store_func (P : Program) (w : World) (T F : Nat) (cap : Array Value) :
    (store ⟨w.heap.size, 0, none⟩ (.func (.func F) #[] cap)).run P (w.alloc (.cells #[.nilFunc] T)) = .ok () (w.alloc (.cells #[.func (.func F) #[] cap] T)) := by
  have h := heap_alloc_new w (.cells #[.nilFunc] T)
  have hc := cell_of_one h
  have hf := free_of_one h
  rw [run_store _ _ _ _ _ rfl, hc]
  simp only [hf, Bool.false_eq_true, if_false]
  rw [World.setCell_alloc_at _ _ _ _ _ rfl]
  rfl
set_option maxRecDepth 100000 in
set_option maxHeartbeats 400000 in
theorem root_any (p : Option Addr) (n c : Nat) (L : List ByteArray) (w : World) (ht : Tabs w) (hv : Txts w (.slice p n c) L) (hL : L.length = n) (hn : n ≤ 1048576) :
    Calls Tryd.prog 66 #[.slice p n c] w fun e w' => e = .returned (.string (rootR L)) ∧ Below w.heap.size w w' := by
  have HT := Lib.hid ht
  have HV := Lib.hid hv
  have HC := Lib.hid (fun (w1 : World) (hb : Below w.heap.size w w1) (hx : BoxF w1 w.heap.size 114) => rootc_any n L p c w.heap.size w1 (HV.out.below hb (Nat.le_refl _)) hL hn hx (HT.out.below hb))
  have hst := store_func Tryd.prog w 103 114 #[.pointer (some ⟨w.heap.size, 0, none⟩)]
  have HX : Hid (BoxF (w.alloc (.cells #[.func (.func 114) #[] #[.pointer (some ⟨w.heap.size, 0, none⟩)]] 103)) w.heap.size 114) := Lib.hid ⟨_, heap_alloc_new w _⟩
  have HB : Hid (Below w.heap.size w (w.alloc (.cells #[.func (.func 114) #[] #[.pointer (some ⟨w.heap.size, 0, none⟩)]] 103))) := Lib.hid ((Below.refl _ _).alloc (Nat.le_refl _) _)
  clear hv ht hL
  go_enter Tryd.func66, Tryd.ntmps66
  go_wp2_with (go_at_call 114; with_reducible refine (HC.out _ HB.out HX.out).mono ?_; rintro e w2 ⟨rfl, hb⟩; have HB2 := Lib.hid (below_from HB.out hb HB.out.size); clear hb)
  go_ret
  exact ⟨rfl, HB2.out⟩

set_option maxRecDepth 100000 in
set_option maxHeartbeats 2000000 in
theorem R_any (n : Nat) : ∀ (L : List ByteArray) (p : Option Addr) (c : Nat) (w : World), Txts w (.slice p n c) L → L.length = n → n ≤ 1048576 →
    Calls Tryd.prog 91 #[.slice p n c] w fun e w' => e = .returned (.string (rootR L)) ∧ Below w.heap.size w w' := by
  induction n using Nat.strongRecOn with
  | ind n ih =>
    intro L p c w hv hL hn
    have IH := Lib.hid ih
    have HV := Lib.hid hv
    obtain ⟨p', c', he, hv1, hv2, hv3⟩ := hv
    simp only [Value.slice.injEq] at he
    obtain ⟨rfl, hnl, rfl⟩ := he
    clear ih hnl
    rcases Nat.lt_trichotomy n 1 with h0 | h1 | h2
    · have hL0 : L = [] := List.eq_nil_of_length_eq_zero (by omega)
      have hr0 : rootR L = hempty := by rw [hL0]; exact rootL_nil _ _
      rw [hr0]
      have hni2 : ((n : Int) == 0) = true := beq_iff_eq.2 (by omega)
      have HE := Lib.hid (fun w' => rempty_any w')
      clear hv1 hv2 hv3 hL0 hr0 h0 hL
      go_enter Tryd.func91, Tryd.ntmps91
      go_wp2_with (go_at_call 122; with_reducible refine (HE.out _).mono ?_; rintro e w2 ⟨rfl, hb⟩; have HB := Lib.hid hb; clear hb)
      go_ret
      exact ⟨rfl, HB.out⟩
    · obtain ⟨x, rfl⟩ : ∃ x, L = [x] := by
        cases L with
        | nil => simp at hL; omega
        | cons x t => cases t with
          | nil => exact ⟨x, rfl⟩
          | cons y t => simp at hL; omega
      have hr1 : rootR [x] = x := rootL_one _ _ _
      rw [hr1]
      obtain ⟨a, rfl, hc⟩ := hv3 0 x rfl
      rw [Addr.add_zero'] at hc
      have hni : ((n : Int) == 0) = false := beq_eq_false_iff_ne.2 (by omega)
      have hni1 : ((n : Int) == 1) = true := beq_iff_eq.2 (by omega)
      have hnp : (0 : Int) < (n : Int) := by omega
      clear hv1 hv2 hv3 hr1 hL h1
      go_enter Tryd.func91, Tryd.ntmps91
      go_wp2
      go_ret
      exact ⟨rfl, Below.refl _ _⟩
    · have hni : ((n : Int) == 0) = false := beq_eq_false_iff_ne.2 (by omega)
      have hni1 : ((n : Int) == 1) = false := beq_eq_false_iff_ne.2 (by omega)
      have HP := Lib.hid (fun w' => splitr_any n w' (by omega))
      rw [splitS_nat h2] at HP
      have hsp := spl_lt (show 2 ≤ n by omega)
      have hR := rootR_split (L := L) (by omega)
      rw [hL] at hR
      obtain ⟨k, hk⟩ : ∃ k, k = spl n := ⟨_, rfl⟩
      rw [← hk] at HP hsp hR
      obtain ⟨m, hm⟩ : ∃ m, m = n - k := ⟨_, rfl⟩
      obtain ⟨X1, hX1⟩ : ∃ X, X = rootR (L.take k) := ⟨_, rfl⟩
      obtain ⟨X2, hX2⟩ : ∃ X, X = rootR (L.drop k) := ⟨_, rfl⟩
      rw [← hX1, ← hX2] at hR
      rw [hR]
      have IHA := Lib.hid (fun w' (h : Below w.heap.size w w') => IH.out k hsp.2.1 (L.take k) p c w' ((HV.out.cutC (by omega)).below h (Nat.le_refl _)) (by rw [List.length_take]; omega) (by omega))
      have IHB := Lib.hid (fun w' (h : Below w.heap.size w w') => IH.out (n - k) (by omega) (L.drop k) (p.map (·.add k)) (c - k) w' ((HV.out.rightC (k := k) (by omega)).below h (Nat.le_refl _)) (by rw [List.length_drop]; omega) (by omega))
      rw [← hX1] at IHA
      rw [← hX2] at IHB
      have HND := Lib.hid (fun w' => rnode_any X1 X2 w')
      have hkc : (k : Int) ≤ (c : Int) := by omega
      have hkn : (k : Int) ≤ (n : Int) := by omega
      have hk0 : (0 : Int) ≤ (k : Int) := by omega
      have hnc : (n : Int) ≤ (c : Int) := by omega
      have hck : ¬ (c - k = 0) := by omega
      clear hv1 hv2 hv3 hL hR hX1 hX2 hk hm
      go_enter Tryd.func91, Tryd.ntmps91
      go_wp2_with (first
        | (go_at_call 125; with_reducible refine (HP.out w).mono ?_; rintro e w2 ⟨rfl, hw⟩; rw [hw]; clear hw w2)
        | (go_at_call 91; with_reducible refine (IHA.out w (Below.refl _ _)).mono ?_; rintro e w3 ⟨rfl, hb⟩; have HB3 := Lib.hid hb; clear hb)
        | (go_at_call 91; with_reducible refine (IHB.out w3 HB3.out).mono ?_; rintro e w4 ⟨rfl, hb⟩; have HB4 := Lib.hid (below_from HB3.out hb HB3.out.size); clear hb)
        | (go_at_call 123; with_reducible refine (HND.out w4).mono ?_; rintro e w5 ⟨rfl, hb⟩; have HB5 := Lib.hid (below_from HB4.out hb HB4.out.size); clear hb))
      go_ret
      exact ⟨rfl, HB5.out⟩
end Go.Proofs.YtdbghgpohdijfaaDoor
/- Layer 3, walked: Root, Part of both. -/
namespace Go.Proofs.YtdbghgpohdijfaaDoor
open Go.RowKit Go.Scr
set_option linter.unusedVariables false

def rootT (L : List ByteArray) : ByteArray := if refusedE L = 0 then rootR L else ⟨#[]⟩
def partE (L : List ByteArray) (b e : Int) : Int := if refusedE L ≠ 0 then refusedE L else if b < 0 ∨ e < b ∨ (L.length : Int) < e then 30 else 0
def partT (L : List ByteArray) (b e : Int) : ByteArray := if partE L b e = 0 then rootR ((L.drop b.toNat).take (e - b).toNat) else ⟨#[]⟩

set_option maxRecDepth 100000 in
set_option maxHeartbeats 400000 in
theorem Root_any (v : Value) (L : List ByteArray) (w : World) (ht : Tabs w) (hv : Txts w v L) :
    Calls Tryd.prog 16 #[v] w fun e w' => e = .returned (.tuple #[.string (rootT L), .int .i64 (refusedE L)]) ∧ Below w.heap.size w w' := by
  have HV := Lib.hid hv
  have HR := Lib.hid (refused_any v L w hv)
  obtain ⟨p, c, rfl, hv1, hv2, hv3⟩ := hv
  obtain ⟨n, hn⟩ : ∃ n, n = L.length := ⟨_, rfl⟩
  rw [← hn] at HV HR hv1 hv2 ⊢
  have hL := hn.symm
  have hC : n ≤ 1048576 → _ := fun h => root_any p n c L w ht HV.out hL h
  obtain ⟨E, hE⟩ : ∃ E, E = refusedE L := ⟨_, rfl⟩
  rw [← hE] at HR ⊢
  by_cases h0 : E = 0
  · have hlen : n ≤ 4096 := by
      rcases Nat.lt_or_ge 4096 n with h | h
      · exfalso
        have : refusedE L = 31 := by unfold refusedE; rw [if_pos (by omega)]
        omega
      · exact h
    have e1 : rootT L = rootR L := by unfold rootT; rw [← hE, if_pos h0]
    rw [e1]
    subst h0
    have HC := Lib.hid (hC (by omega))
    clear hC hE hL hn hv3 e1 ht
    go_enter Tryd.func16, Tryd.ntmps16
    go_wp2_with (first
      | (go_at_call 65; with_reducible refine (HR.out).mono ?_; rintro e w2 ⟨rfl, hw⟩; rw [hw]; clear hw w2)
      | (go_at_call 66; with_reducible refine (HC.out).mono ?_; rintro e w3 ⟨rfl, hb⟩; have HB3 := Lib.hid hb; clear hb))
    go_ret2
    exact ⟨rfl, HB3.out⟩
  · have e1 : rootT L = ⟨#[]⟩ := by unfold rootT; rw [← hE, if_neg h0]
    rw [e1]
    clear hC hE hL hn hv3 e1 ht
    go_enter Tryd.func16, Tryd.ntmps16
    go_wp2_with (go_at_call 65; with_reducible refine (HR.out).mono ?_; rintro e w2 ⟨rfl, hw⟩; rw [hw]; clear hw w2)
    go_ret2
    exact ⟨rfl, Below.refl _ _⟩

end Go.Proofs.YtdbghgpohdijfaaDoor
