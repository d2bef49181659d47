/- Layer 4, the document's answer, walked: both. -/
import Derived.Test.YtmlekeegmdpjkaaDoorVrc
import Derived.Test.YtmlekeegmdpjkaaDoorRec0
namespace Go.Proofs.YtmlekeegmdpjkaaDoor
open Go.RowKit Go.Scr
set_option linter.unusedVariables false

def bothS (f s : Nat) (b : Bool) (old : ByteArray) (L : List ByteArray) : ByteArray × ByteArray :=
  climbB nodeS (fl f s) (restL (wh f s b) L) (seedL (wh f s b) old L, seedL (wh f s b) old L)
theorem bothS_true (f : Nat) (old : ByteArray) (L : List ByteArray) : bothS f f true old L = (old, old) := by
  unfold bothS
  rw [wh, dif_pos (Or.inl rfl), fl, dif_pos (Or.inl rfl)]
  simp [climbB, seedL]
theorem bothS_false (f : Nat) (old x : ByteArray) (L : List ByteArray) : bothS f f false old (x :: L) = (x, x) := by
  unfold bothS
  rw [wh, dif_pos (Or.inl rfl), fl, dif_pos (Or.inl rfl)]
  simp [climbB, seedL]
theorem restL_len (b : Bool) (L : List ByteArray) (n : Nat) (h : L.length = n + (if b then 0 else 1)) : (restL b L).length = n := by
  unfold restL
  cases b <;> simp at h ⊢ <;> omega
theorem bothS_left {f s k : Nat} {b : Bool} {old x : ByteArray} {L : List ByteArray} (hk : k = spl s) (hne : f ≠ s) (hs : 1 < s) (hle : f ≤ k) (hL : L.length = toldN f k b) :
    bothS f s b old (L ++ [x]) = ((bothS f k b old L).1, nodeS (bothS f k b old L).2 x) := by
  subst hk
  have h1 : wh f s b = wh f (spl s) b := by rw [wh.eq_1 f s, dif_neg (by omega), if_pos hle]
  have h2 : fl f s = fl f (spl s) ++ [false] := by rw [fl.eq_1 f s, dif_neg (by omega), if_pos hle]
  have hne2 : wh f (spl s) b = true ∨ L ≠ [] := by
    rcases Bool.eq_false_or_eq_true (wh f (spl s) b) with h | h
    · exact Or.inl h
    · right; intro hc; rw [hc] at hL; unfold toldN at hL; rw [h] at hL; simp at hL
  unfold bothS
  rw [h1, h2, rest_snoc _ _ _ hne2, seed_snoc _ _ _ _ hne2, climbB_snoc _ _ _ _ _ _ (restL_len _ _ _ hL).symm]
  rfl
theorem bothS_right {f s k : Nat} {b : Bool} {old x : ByteArray} {L : List ByteArray} (hk : k = spl s) (hne : f ≠ s) (hs : 1 < s) (hle : ¬ f ≤ k) (hL : L.length = toldN (f - k) (s - k) false) :
    bothS f s b old (L ++ [x]) = (nodeS x (bothS (f - k) (s - k) false old L).1, nodeS x (bothS (f - k) (s - k) false old L).2) := by
  subst hk
  have h1 : wh f s b = wh (f - spl s) (s - spl s) false := by rw [wh.eq_1 f s, dif_neg (by omega), if_neg hle]
  have h2 : fl f s = fl (f - spl s) (s - spl s) ++ [true] := by rw [fl.eq_1 f s, dif_neg (by omega), if_neg hle]
  have hne2 : wh (f - spl s) (s - spl s) false = true ∨ L ≠ [] := by
    right; intro hc; rw [hc] at hL; unfold toldN at hL; rw [wh_false] at hL; simp at hL
  unfold bothS
  rw [h1, h2, rest_snoc _ _ _ hne2, seed_snoc _ _ _ _ hne2, climbB_snoc _ _ _ _ _ _ (restL_len _ _ _ hL).symm]
  rfl

set_option maxRecDepth 100000 in
set_option maxHeartbeats 2000000 in
theorem both4_any (s : Nat) : ∀ (f : Nat) (b : Bool) (old : ByteArray) (L : List ByteArray) (p : Option Addr) (q c : Nat) (w : World), Txts w (.slice p q c) L → L.length = q → q ≤ 1048576 → toldN f s b = q → 1 ≤ f → f ≤ s → s ≤ 1099511627776 →
    Calls Tryd.prog 103 #[.int .i64 f, .int .i64 s, .bool b, .string old, .slice p q c] w fun e w' => e = .returned (.tuple #[.string (bothS f s b old L).1, .string (bothS f s b old L).2]) ∧ Below w.heap.size w w' := by
  induction s using Nat.strongRecOn with
  | ind s ih =>
    intro f b old L p q c w hv hL hq ht h1 h2 h3
    have IH := Lib.hid ih
    clear ih
    by_cases heq : f = s
    · subst heq
      cases b with
      | true =>
        rw [bothS_true]
        clear ht hL hv
        go_enter Tryd.func103, Tryd.ntmps103
        go_wp2
        go_ret2
        exact ⟨rfl, Below.refl _ _⟩
      | false =>
        have hq1 : q = 1 := by rw [← ht, toldN_same]; rfl
        rw [hq1] at hL
        have hqp : (0 : Int) < (q : Int) := by omega
        obtain ⟨x, rfl⟩ : ∃ x, L = [x] := by
          cases L with
          | nil => simp at hL
          | cons x t => cases t with
            | nil => exact ⟨x, rfl⟩
            | cons y t => simp at hL
        rw [bothS_false]
        obtain ⟨p', c', he, hv1, hv2, hv3⟩ := hv
        simp only [Value.slice.injEq] at he
        obtain ⟨rfl, _, rfl⟩ := he
        obtain ⟨a, rfl, hc⟩ := hv3 0 x rfl
        clear hq1
        rw [Addr.add_zero'] at hc
        clear ht hL hv1 hv2 hv3 hq h2 IH
        go_enter Tryd.func103, Tryd.ntmps103
        go_upto_region 4 with fail
        go_quiet (fail)
        go_wp2
        go_ret2
        exact ⟨rfl, below_drewN (Below.refl _ _) _⟩
    · have hs1 : 1 < s := by omega
      have hsp := spl_lt (show 2 ≤ s by omega)
      obtain ⟨k, hk⟩ : ∃ k, k = spl s := ⟨_, rfl⟩
      have HSP := Lib.hid (fun w' => split4_any s w' h3)
      rw [← hk] at HSP hsp
      have HNODE := Lib.hid (fun l r w' => node4_any l r w')
      have hne : ¬ ((f : Int) = (s : Int)) := by omega
      by_cases hle : f ≤ k
      · have ht2 : toldN f s b = toldN f k b + 1 := by have := toldN_left b heq hs1 (by rw [← hk]; exact hle); rw [← hk] at this; exact this
        obtain ⟨q', rfl⟩ : ∃ q', q = q' + 1 := ⟨toldN f k b, by omega⟩
        obtain ⟨L', x, rfl⟩ : ∃ L' x, L = L' ++ [x] := ⟨L.dropLast, L.getLast (by intro h; rw [h] at hL; simp at hL), (List.dropLast_concat_getLast (by intro h; rw [h] at hL; simp at hL)).symm⟩
        obtain ⟨hqL, hv2, a, rfl, hcell, hqc⟩ := hv.init
        have hR := bothS_left (b := b) (old := old) (x := x) (L := L') hk heq hs1 hle (by omega)
        rw [hR]
        have HC := Lib.hid (fun w' (h : Txts w' (.slice (some a) q' c) L') => IH.out k hsp.2.1 f b old L' (some a) q' c w' h hqL.symm (by omega) (by omega) h1 hle (by omega))
        obtain ⟨X, hX⟩ : ∃ X, X = bothS f k b old L' := ⟨_, rfl⟩
        rw [← hX] at HC ⊢
        obtain ⟨X1, X2⟩ := X
        have HV := Lib.hid hv2
        have hlei : (f : Int) ≤ (k : Int) := by omega
        have hqq : (q' : Int) < (q' : Int) + 1 := by omega
        have hq00 : (0 : Int) ≤ (q' : Int) := by omega
        have hqcc : (q' : Int) ≤ (c : Int) := by omega
        have hqb : q' ≤ 1048576 := by omega
        have HCELL := Lib.hid hcell
        clear ht2 hR hX hk hv hv2 hqL hL ht heq hcell
        go_enter Tryd.func103, Tryd.ntmps103
        go_wp2_with (first
          | (go_at_call 96; with_reducible refine (HSP.out w).mono ?_; rintro e w2 ⟨rfl, hw⟩; rw [hw]; clear hw w2)
          | (go_at_call 103; with_reducible refine (HC.out w HV.out).mono ?_; rintro e w2 ⟨rfl, hb⟩; have HB2 := Lib.hid hb; have hcell2 := (hb.cell (block_lt_of_cell HCELL.out)).trans HCELL.out; clear hb)
          | (go_at_call 112; with_reducible refine (HNODE.out _ _ _).mono ?_; rintro e w3 ⟨rfl, hb⟩; have HB3 := Lib.hid (below_from HB2.out hb HB2.out.size); clear hb))
        go_ret2
        exact ⟨rfl, HB3.out⟩
      · have ht2 : toldN f s b = toldN (f - k) (s - k) false + 1 := by have := toldN_right b heq hs1 (by rw [← hk]; exact hle); rw [← hk] at this; exact this
        obtain ⟨q', rfl⟩ : ∃ q', q = q' + 1 := ⟨toldN (f - k) (s - k) false, by omega⟩
        obtain ⟨L', x, rfl⟩ : ∃ L' x, L = L' ++ [x] := ⟨L.dropLast, L.getLast (by intro h; rw [h] at hL; simp at hL), (List.dropLast_concat_getLast (by intro h; rw [h] at hL; simp at hL)).symm⟩
        obtain ⟨hqL, hv2, a, rfl, hcell, hqc⟩ := hv.init
        have hR := bothS_right (b := b) (old := old) (x := x) (L := L') hk heq hs1 hle (by omega)
        rw [hR]
        have HC := Lib.hid (fun w' (h : Txts w' (.slice (some a) q' c) L') => IH.out (s - k) (by omega) (f - k) false old L' (some a) q' c w' h hqL.symm (by omega) (by omega) (by omega) (by omega) (by omega))
        obtain ⟨X, hX⟩ : ∃ X, X = bothS (f - k) (s - k) false old L' := ⟨_, rfl⟩
        rw [← hX] at HC ⊢
        obtain ⟨X1, X2⟩ := X
        have HV := Lib.hid hv2
        have hlei : ¬ ((f : Int) ≤ (k : Int)) := by omega
        have hqq : (q' : Int) < (q' : Int) + 1 := by omega
        have hq00 : (0 : Int) ≤ (q' : Int) := by omega
        have hqcc : (q' : Int) ≤ (c : Int) := by omega
        have hqb : q' ≤ 1048576 := by omega
        obtain ⟨fk, hfk⟩ : ∃ y, y = f - k := ⟨_, rfl⟩
        obtain ⟨sk, hsk⟩ : ∃ y, y = s - k := ⟨_, rfl⟩
        rw [← hfk, ← hsk] at HC
        have q1 : (f : Int) - (k : Int) = (fk : Int) := by omega
        have q2 : (s : Int) - (k : Int) = (sk : Int) := by omega
        have hfkb : fk ≤ 1099511627776 := by omega
        have hskb : sk ≤ 1099511627776 := by omega
        have HCELL := Lib.hid hcell
        clear ht2 hR hX hk hv hv2 hqL hL ht heq hcell hfk hsk
        go_enter Tryd.func103, Tryd.ntmps103
        go_upto_region 11 with (first
          | (go_at_call 96; with_reducible refine (HSP.out w).mono ?_; rintro e w2 ⟨rfl, hw⟩; rw [hw]; clear hw w2)
          | (go_at_call 103; with_reducible refine (HC.out w HV.out).mono ?_; rintro e w2 ⟨rfl, hb⟩; have HB2 := Lib.hid hb; have hcell2 := (hb.cell (block_lt_of_cell HCELL.out)).trans HCELL.out; clear hb))
        have hw1 : IntKind.i64.wrap ((q' : Int) + 1 - 1) = (q' : Int) := by rw [show (q' : Int) + 1 - 1 = (q' : Int) by omega]; exact IntWalk.i64_in _ (by omega)
        have hw2 : IntKind.i64.wrap (q' : Int) = (q' : Int) := IntWalk.i64_in _ (by omega)
        have HS1 : Hid (w2.drew.cell? (a.add q') = some (.string x) ∧ Below w.heap.size w w2.drew) := Lib.hid ⟨hcell2, HB2.out.drew⟩
        have HZ : Hid (w.heap.size ≤ w2.drew.heap.size) := Lib.hid HB2.out.size
        go_region_held3 (fun w' => w'.cell? (a.add q') = some (.string x) ∧ Below w.heap.size w w') (first | exact HS2.out | exact HS1.out) (first
          | (go_at_call 112; with_reducible refine (HNODE.out _ _ _).mono ?_; rintro e w3 ⟨rfl, hb⟩; have HS2 := Lib.hid (keepS (by first | exact HS2.out | exact HS1.out) hb (by first | exact HS2.out.2.size | exact HZ.out)); clear hb))
        all_goals
          go_wp2_with fail
          go_ret2
          exact ⟨rfl, HS2.out.2⟩
end Go.Proofs.YtmlekeegmdpjkaaDoor
