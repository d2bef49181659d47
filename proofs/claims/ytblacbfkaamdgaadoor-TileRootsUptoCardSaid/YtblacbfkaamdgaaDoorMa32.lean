/- A tree that lies above a world; law 7's first calls. -/
import Derived.Test.YtblacbfkaamdgaaDoorMa31
import Derived.Test.YtblacbfkaamdgaaDoorMa30
import Derived.Test.YtblacbfkaamdgaaDoorMa29
namespace Go.Proofs.YtblacbfkaamdgaaDoor
open Go.RowKit Go.Scr Go.ChangeMaps Go.MapKept
set_option linter.unusedVariables false
theorem partL_pair {a b : ByteArray} : partL [a, b] 0 2 = nodeS a b := by
  rw [partL_two (m := 1) (by decide) (by simp) (spl_of (n := 2 - 0) (i := 0) (by decide) (by decide)).symm]
  unfold partL
  simp only [List.drop_succ_cons, List.drop_zero, List.take_succ_cons, List.take_zero, Nat.zero_add, Nat.sub_zero, Nat.reduceSub]
  rw [show rootR [a] = a from rootL_one _ _ _, show rootR [b] = b from rootL_one _ _ _]
theorem valL_pair {a b : ByteArray} : valL [a, b] 1 0 = nodeS a b := by
  rw [← partL_pair]
  unfold valL partL
  simp
set_option maxRecDepth 100000 in
set_option maxHeartbeats 4000000 in
theorem knownT_any {W : World} {B : Nat} (hB : Bas W B) :
    Calls Tryd.prog 9 #[] W fun o w' => o = .returned (.bool true) ∧ Below W.heap.size W w' := by
  have CN : Hid (Calls Tryd.prog 16 #[.int .i64 1] W fun o w' => ∃ tb, o = .returned (.tuple #[bpT tb, .int .i64 0]) ∧ TrU W w' B tb 1 []) := Lib.hid ((tnew_any (w := W) (B := B) (h := 1) hB.le (by decide)).mono (by
    rintro o w' ⟨tb, col, rfl, t, hb, hl⟩
    exact ⟨tb, rfl, hb, col, t, hl⟩))
  obtain ⟨a, ha⟩ : ∃ a, a = leafSU 1 := ⟨_, rfl⟩
  obtain ⟨b, hb⟩ : ∃ b, b = leafSU 2 := ⟨_, rfl⟩
  have has : a.size = 32 := by rw [ha]; exact leafSU_size 1
  have hbs : b.size = 32 := by rw [hb]; exact leafSU_size 2
  have CL1 : Hid (∀ w, Calls Tryd.prog 25 #[.int .i64 1] w fun e w' => e = .returned (.string a) ∧ Below w.heap.size w w') := Lib.hid (fun w => by rw [ha]; exact leafU_any 1 w)
  have CL2 : Hid (∀ w, Calls Tryd.prog 25 #[.int .i64 2] w fun e w' => e = .returned (.string b) ∧ Below w.heap.size w w') := Lib.hid (fun w => by rw [hb]; exact leafU_any 2 w)
  obtain ⟨n, hn⟩ : ∃ n, n = nodeS a b := ⟨_, rfl⟩
  have CND : Hid (∀ w, Bas w B → Calls Tryd.prog 14 #[.string a, .string b] w fun e w' => e = .returned (.tuple #[.string n, .int .i64 0]) ∧ Below w.heap.size w w') := Lib.hid (fun w hw => by
    have := dnode_any a b w hw.tabs
    rw [show nodeE a b = 0 from if_pos ⟨has, hbs⟩] at this
    rw [hn]
    exact this)
  have CA1 : Hid (∀ w tb, TrU W w B tb 1 [] → Calls Tryd.prog 26 #[bpT tb, .string a] w fun o w' => o = .returned (.int .i64 0) ∧ TrU W w' B tb 1 [a]) := Lib.hid (fun w tb h => h.add hB has (by simp))
  have CA2 : Hid (∀ w tb, TrU W w B tb 1 [a] → Calls Tryd.prog 26 #[bpT tb, .string b] w fun o w' => o = .returned (.int .i64 0) ∧ TrU W w' B tb 1 [a, b]) := Lib.hid (fun w tb h => h.add hB hbs (by simp))
  have CR : Hid (∀ w tb, TrU W w B tb 1 [a, b] → Calls Tryd.prog 21 #[bpT tb, .int .i64 2] w fun o w' => o = .returned (.tuple #[.string n, .int .i64 0]) ∧ Below w.heap.size w w') := Lib.hid (fun w tb h => by
    have := h.root (n := 2) hB (by simp)
    rw [partL_pair, ← hn] at this
    exact this)
  have CH : Hid (∀ w tb, TrU W w B tb 1 [a, b] → Calls Tryd.prog 13 #[bpT tb, .agg #[.int .i64 1, .int .i64 0]] w fun o w' => o = .returned (.tuple #[.string n, .int .i64 0]) ∧ Below w.heap.size w w') := Lib.hid (fun w tb h => by
    have := h.hash (l := 1) (i := 0) (by decide) (by decide)
    rw [show hashT [a, b].length (valL [a, b]) 1 0 = .tuple #[.string n, .int .i64 0] by unfold hashT; rw [if_pos (by simp [cL]), valL_pair, ← hn]] at this
    exact this)
  have CS : Hid (∀ w tb, TrU W w B tb 1 [a, b] → Calls Tryd.prog 12 #[bpT tb] w fun o w' => o = .returned (.int .i64 2) ∧ w' = w) := Lib.hid (fun w tb h => h.size)
  have HB := Lib.hid hB
  clear ha hb hn hB has hbs
  go_enter Tryd.func9, Tryd.ntmps9
  go_upto_region 5 with (first
    | (go_at_call 16; with_reducible refine CN.out.mono ?_; rintro o w1 ⟨tb, rfl, h⟩; have H1 := Lib.hid h; clear h)
    | (go_at_call 25; with_reducible refine (CL1.out _).mono ?_; rintro o w2 ⟨rfl, h⟩; have H2 := Lib.hid (H1.out.below h); clear h)
    | (go_at_call 26; with_reducible refine (CA1.out _ _ H2.out).mono ?_; rintro o w3 ⟨rfl, h⟩; have H3 := Lib.hid h; clear h))
  go_upto_region 6 with (first
    | (go_at_call 25; with_reducible refine (CL2.out _).mono ?_; rintro o w4 ⟨rfl, h⟩; have H4 := Lib.hid (H3.out.below h); clear h)
    | (go_at_call 26; with_reducible refine (CA2.out _ _ H4.out).mono ?_; rintro o w5 ⟨rfl, h⟩; have H5 := Lib.hid h; clear h))
  go_wp2_with (first
    | (go_at_call 25; with_reducible refine (CL1.out _).mono ?_; rintro o w6 ⟨rfl, h⟩; have H6 := Lib.hid (H5.out.below h); clear h)
    | (go_at_call 25; with_reducible refine (CL2.out _).mono ?_; rintro o w7 ⟨rfl, h⟩; have H7 := Lib.hid (H6.out.below h); clear h)
    | (go_at_call 14; with_reducible refine (CND.out _ (HB.out.below (H7.out.b.mono HB.out.le))).mono ?_; rintro o w8 ⟨rfl, h⟩; have H8 := Lib.hid (H7.out.below h); clear h)
    | (go_at_call 21; with_reducible refine (CR.out _ _ H8.out).mono ?_; rintro o w9 ⟨rfl, h⟩; have H9 := Lib.hid (H8.out.below h); clear h)
    | (go_at_call 13; with_reducible refine (CH.out _ _ H9.out).mono ?_; rintro o wa ⟨rfl, h⟩; have HA := Lib.hid (H9.out.below h); clear h)
    | (go_at_call 12; with_reducible refine (CS.out _ _ HA.out).mono ?_; rintro o w' ⟨rfl, hww⟩; replace hww := hww.symm; subst hww))
  go_ret
  exact ⟨rfl, HA.out.b⟩
end Go.Proofs.YtblacbfkaamdgaaDoor
/- Law 7: what tiles tell, level by level. -/
namespace Go.Proofs.YtblacbfkaamdgaaDoor
open Go.RowKit Go.Scr Go.ChangeMaps Go.MapKept
set_option linter.unusedVariables false
def sumT (n : Nat) : Nat → Nat
  | 0 => 0
  | k + 1 => sumT n k + n / 2 ^ k
theorem half_le (n k : Nat) : 2 * (n / 2 ^ (k + 1)) ≤ n / 2 ^ k := by
  rw [Nat.pow_succ, ← Nat.div_div_eq_div_mul, Nat.mul_comm]
  exact Nat.div_mul_le_self _ _
theorem sumT_le (n k : Nat) : sumT n k + 2 * (n / 2 ^ k) ≤ 2 * n := by
  induction k with
  | zero => show 0 + 2 * (n / 2 ^ 0) ≤ 2 * n; rw [Nat.pow_zero, Nat.div_one]; omega
  | succ k ih =>
    have := half_le n k
    show sumT n k + n / 2 ^ k + _ ≤ _
    omega
theorem sumT_lt {n k : Nat} (h1 : 1 ≤ n) (h : n / 2 ^ k = 0) : sumT n k < 2 * n := by
  induction k with
  | zero => rw [Nat.pow_zero, Nat.div_one] at h; omega
  | succ k ih =>
    by_cases h2 : n / 2 ^ k = 0
    · show sumT n k + n / 2 ^ k < _
      rw [h2]
      exact ih h2
    · have := sumT_le n k
      show sumT n k + n / 2 ^ k < _
      have h3 := half_le n k
      have h4 : n / 2 ^ k ≤ 1 := by
        rw [Nat.pow_succ, ← Nat.div_div_eq_div_mul] at h
        omega
      omega
theorem sumT_bound {n : Nat} (hn : n ≤ 600) (k : Nat) : sumT n k ≤ 1200 := by have := sumT_le n k; omega
theorem ex_tile {L : List ByteArray} {h l i : Nat} (hh : 0 < h) (hl : l % h = 0) (hi : i < cL L.length l) : exT (cL L.length) h (l / h) (i / 2 ^ h) := by
  have := ex_of (c := cL L.length) (cL_mono L.length) hh hi
  rwa [hl, Nat.sub_zero] at this
theorem row_tile {L : List ByteArray} {h l i : Nat} (hl : l % h = 0) (hi : i < cL L.length l) : (rowT (cL L.length) (valL L) h (l / h) (i / 2 ^ h) 0)[i % 2 ^ h]? = some (valL L l i) := by
  have := row_at (c := cL L.length) (valL L) (h := h) hi
  rwa [hl, Nat.sub_zero] at this
theorem TrU.tile {W w : World} {B tb h l i : Nat} {L : List ByteArray} (H : TrU W w B tb h L) (hl : l % h = 0) (hi : i < cL L.length l) :
    Calls Tryd.prog 15 #[bpT tb, .int .i64 ((l / h : Nat) : Int), .int .i64 ((i / 2 ^ h : Nat) : Int)] w fun o w' => ∃ g m c, o = .returned (.tuple #[.slice (some ⟨g, 0, none⟩) m c, .int .i64 0]) ∧ i % 2 ^ h < m ∧ w'.cell? ⟨g, i % 2 ^ h, none⟩ = some (.string (valL L l i)) ∧ Below w.heap.size w w' := by
  obtain ⟨hb, col, t, _⟩ := H
  have hh := t.t.hh
  have hr := row_tile (h := h) hl hi
  refine (tile_yes t.t (ex_tile (by omega) hl hi)).mono ?_
  rintro o w' ⟨v, rfl, hh, ho, hb⟩
  obtain ⟨p, c, rfl, _⟩ := hh.cells
  obtain ⟨hlt, _⟩ := List.getElem?_eq_some_iff.mp hr
  rw [rowT_length] at hlt
  obtain ⟨g, rfl, hg⟩ := held_cellK hh (by omega)
  exact ⟨g, _, c, rfl, hlt, hg _ _ (by rw [List.getElem?_map, hr]; rfl), hb⟩
theorem fiI_tr {w wr : World} {B tb h i : Nat} {Z : List Int} (H : FiI w wr B tb h Z i) : TrU w wr B tb h ((Z.take i).map leafSU) := ⟨H.b, H.t⟩
end Go.Proofs.YtblacbfkaamdgaaDoor
