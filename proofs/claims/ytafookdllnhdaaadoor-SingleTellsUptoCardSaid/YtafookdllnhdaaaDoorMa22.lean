/- math/bits: how long a number is; how many zeros it ends in. -/
import Derived.Test.YtafookdllnhdaaaDoorMa4
import Derived.Deep.Cut
import Derived.Lib.BitFns
import Derived.Lib.TrailingZeros
import Derived.Laws.Bits64b
import Derived.Shelf.Spec.TrailingZeros
namespace Go.Proofs.YtafookdllnhdaaaDoor
open Go.RowKit Go.Scr
set_option linter.unusedVariables false
theorem tab8_size : Lib.len8tab.size = 256 := by decide +kernel
theorem tab8_all : ∀ n : Fin 256, (Lib.len8tab.data.toList.getD n.val 0).toNat = Lib.bitLen n.val := by decide +kernel
theorem tab8_at (i : Nat) (h : i < Lib.len8tab.size) : (Lib.len8tab[i]'h).toNat = Lib.bitLen i := by
  have h2 : i < 256 := by rw [← tab8_size]; exact h
  rw [← tab8_all ⟨i, h2⟩]
  have h3 : i < Lib.len8tab.data.toList.length := by simpa using h
  rw [List.getD_eq_getElem?_getD, List.getElem?_eq_getElem h3]
  rfl
theorem tab8_le (i : Nat) (h : i < 256) : Lib.bitLen i ≤ 8 := Lib.bitLen_le8 ⟨i, h⟩
theorem run_idx8 {s : ByteArray} (hs : s.size = 256) (hv : ∀ (i : Nat) (h : i < s.size), (s[i]'h).toNat = Lib.bitLen i) (y : Int) (h0 : 0 ≤ y) (hy : y < 256) (w : World) : (Instr.index 9 (.string s) (.int .u8 y)).run Tryd.prog w = .ok (.int .u8 ((Lib.bitLen y.toNat : Nat) : Int)) w := by
  have hi : y.toNat < s.size := by omega
  have hu : Tryd.prog.underlying 9 = some .string := by kernel_rfl
  rw [run_index_string (h := hu), dif_pos ⟨by omega, by omega⟩]
  simp only [hv y.toNat hi]
theorem wpList_idx8 {ops : Array Oper} {rest : List Oper} {o : Oper} {a : Act} {Q : Exit → Act → World → Prop} {w : World} (y : Int) (hg : o.guard = none) (x : Operand) (tb : ByteArray) (htb : tb = Lib.len8tab) (hop : o.op = Op.index 9 (.const (.string tb)) x) (hx : a.eval x = .int .u8 y) (h0 : 0 ≤ y) (hy : y < 256)
    (h : wpList Tryd.prog ops Q rest (a.put o.dst (.int .u8 ((Lib.bitLen y.toNat : Nat) : Int))) w) : wpList Tryd.prog ops Q (o :: rest) a w := by
  refine wpList_plain hg fun K hK => ?_
  have hrun := run_idx8 tab8_size tab8_at y h0 hy w
  rw [← htb] at hrun
  clear htb
  have he : a.eval (.const (.string tb)) = .string tb := rfl
  unfold Oper.wp
  simp only [execOp, hop, hx, he, Sem.run_bind, hrun, Result.andThen_ok, Sem.run_pure]
  exact hK _ _ h
set_option maxHeartbeats 4000000 in
set_option maxRecDepth 100000 in
theorem len64_any (x : Int) (w : World) (h0 : 0 ≤ x) (h1 : x ≤ 4294967295) :
    Calls Tryd.prog 68 #[.int .u64 x] w fun e w' => e = .returned (.int .i64 ((Lib.bitLen x.toNat : Nat) : Int)) ∧ w' = w := by
  go_enter Tryd.func68, Tryd.ntmps68
  go_wp2_with (refine wpList_idx8 _ rfl _ _ (by kernel_rfl) rfl rfl (by omega) (by omega) ?_)
  all_goals go_ret
  all_goals refine ⟨congrArg Ending.returned (congrArg (Value.int IntKind.i64) ?_), rfl⟩
  · have s := Lib.bitLen_shift24 x.toNat (by omega) (by omega)
    have l := tab8_le (x.toNat / 16777216) (by omega)
    rw [show (x / 65536 / 256).toNat = x.toNat / 16777216 by omega, s]
    unfold wrap64
    omega
  · have s := Lib.bitLen_shift16 x.toNat (by omega) (by omega)
    have l := tab8_le (x.toNat / 65536) (by omega)
    rw [show (x / 65536).toNat = x.toNat / 65536 by omega, s]
    unfold wrap64
    omega
  · have s := Lib.bitLen_shift8 x.toNat (by omega) (by omega)
    have l := tab8_le (x.toNat / 256) (by omega)
    rw [show (x / 256).toNat = x.toNat / 256 by omega, s]
    unfold wrap64
    omega
  · have l := tab8_le x.toNat (by omega)
    unfold wrap64
    omega
theorem len_any (x : Nat) (w : World) (h1 : x ≤ 4294967295) :
    Calls Tryd.prog 42 #[.int .u64 (x : Int)] w fun e w' => e = .returned (.int .i64 ((Lib.bitLen x : Nat) : Int)) ∧ w' = w := by
  go_enter Tryd.func42, Tryd.ntmps42
  go_wp2_with (go_at_call 68; refine (len64_any (x : Int) _ (by omega) (by omega)).mono ?_; rintro e w' ⟨rfl, rfl⟩)
  go_ret
  exact ⟨by simp, rfl⟩
def TabZ (w : World) : Prop := ∀ j, j < 64 → w.cell? ⟨1, j, none⟩ = some (.int .u8 (Lib.deBruijn64tab.getD j 0))
set_option maxHeartbeats 1000000 in
theorem tz64_core (x k idx : Nat) (w : World) (hx0 : ((x : Int) == 0) = false)
    (key : IntKind.u64.wrap (bits BinOp.and IntKind.u64 (x : Int) (IntKind.u64.wrap (-(x : Int))) * 285870213051353865) / 288230376151711744 = (idx : Int))
    (hi : idx < 64) (hk : k < 64) (hcell : w.cell? ⟨1, idx, none⟩ = some (.int .u8 k)) :
    Calls Tryd.prog 71 #[.int .u64 x] w fun e w' => e = .returned (.int .i64 k) ∧ w' = w := by
  go_enter Tryd.func71, Tryd.ntmps71
  go_wp2_with (simp only [key])
  go_ret
  exact ⟨rfl, rfl⟩
theorem tz_any (x : Nat) (w : World) (hx0 : x ≠ 0) (hx : x < 18446744073709551616) (hT : TabZ w) :
    Calls Tryd.prog 51 #[.int .u64 (x : Int)] w fun e w' => e = .returned (.int .i64 ((Lib.ctz 64 x : Nat) : Int)) ∧ w' = w := by
  obtain ⟨hlow, hk⟩ := Lib.lowest_bit 64 x hx0 hx
  obtain ⟨hi, htab⟩ := Lib.deBruijn64_at _ hk
  have hcell := hT _ hi
  rw [htab] at hcell
  have HC := Lib.hid (tz64_core x _ _ w (by simp; omega) (Go.Proofs.tz64_key x _ hx hx0 hlow) hi hk hcell)
  clear hcell htab hi hlow hT
  go_enter Tryd.func51, Tryd.ntmps51
  go_wp2_with (go_at_call 71; refine HC.out.mono ?_; rintro e w' ⟨rfl, rfl⟩)
  go_ret
  exact ⟨rfl, rfl⟩
theorem ctz_spec (x : Nat) (hx0 : x ≠ 0) (hx : x < 18446744073709551616) : 2 ^ Lib.ctz 64 x ∣ x ∧ ¬ 2 ^ (Lib.ctz 64 x + 1) ∣ x := by
  obtain ⟨m, hm, _⟩ := Lib.ctzFrom_spec 64 x (by omega) hx
  have e : Lib.ctz 64 x = Lib.ctzFrom 64 x := by simp [Lib.ctz, hx0]
  rw [e]
  generalize Lib.ctzFrom 64 x = k at hm
  refine ⟨⟨_, hm⟩, fun ⟨q, hq⟩ => ?_⟩
  have hp : 0 < 2 ^ k := Nat.pos_of_ne_zero (by simp)
  rw [hm, Nat.pow_succ, Nat.mul_assoc] at hq
  have := Nat.eq_of_mul_eq_mul_left hp hq
  omega
theorem bitLen_spec (x : Nat) (hx0 : x ≠ 0) (hx : x < 18446744073709551616) : ∃ k, Lib.bitLen x = k + 1 ∧ 2 ^ k ≤ x ∧ x < 2 ^ (k + 1) := by
  have hl : x.log2 < 64 := (Nat.log2_lt hx0).2 hx
  have h1 : 2 ^ x.log2 ≤ x := Nat.log2_self_le hx0
  have h2 : x < 2 ^ (x.log2 + 1) := Nat.lt_log2_self
  refine ⟨x.log2, ?_, h1, h2⟩
  rw [Lib.bitLen_shift x.log2 x h1 hx]
  have h3 : x / 2 ^ x.log2 = 1 := by
    apply Nat.div_eq_of_lt_le
    · simpa using h1
    · rw [Nat.pow_succ] at h2; omega
  rw [h3]
  rfl
end Go.Proofs.YtafookdllnhdaaaDoor
