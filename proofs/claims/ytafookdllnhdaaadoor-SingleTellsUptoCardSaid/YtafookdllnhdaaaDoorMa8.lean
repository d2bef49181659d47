/- The reference's own functions of layer 1, walked: ror; the tables. -/
import Derived.Test.YtafookdllnhdaaaDoorRows
import Derived.Test.YtafookdllnhdaaaDoorMa0
import Derived.WalkKit
import Derived.WalkSpells
import Derived.WalkLawsBesides
import Derived.Lib.Hide
import Derived.Deep.QuietTactic
import Derived.BigQuiet
import Derived.StillTailTactics
import Derived.Deep.OwnRows
import Derived.Deep.DeepCutAuto
namespace Go.Proofs.YtafookdllnhdaaaDoor
open Go.RowKit Go.Scr
set_option linter.unusedVariables false

set_option maxHeartbeats 400000 in
theorem rror_any (x : Nat) (n : Int) (hx : x < 4294967296) (hn : 1 ≤ n) (hn' : n ≤ 31) (w : World) :
    Calls Tryd.prog 95 #[.int .i64 x, .int .i64 n] w fun e w' => e = .returned (.int .i64 (ror x n.toNat : Nat)) ∧ w' = w.drew := by
  obtain ⟨m, rfl⟩ := Int.eq_ofNat_of_zero_le (show 0 ≤ n by omega)
  have HR := Lib.hid (ror_low x m hx (by omega) (by omega))
  have h1 : IntKind.i64.wrap (32 - (m : Int)) = 32 - (m : Int) := wrap_i64_id _ (by omega) (by omega)
  have h2 : 0 ≤ 32 - (m : Int) := by omega
  have h2' : (m : Int) ≤ 32 := by omega
  have h3 : (32 - (m : Int)).toNat = 32 - m := by omega
  have h4 : IntKind.i64.wrap ((x : Int) * 2 ^ (32 - m)) = (x : Int) * 2 ^ (32 - m) := by
    have a2 : (x : Int) * 2 ^ (32 - m) = ((x * 2 ^ (32 - m) : Nat) : Int) := by simp
    have hl : x * 2 ^ (32 - m) < 2 ^ 63 := by
      calc x * 2 ^ (32 - m) < 2 ^ 32 * 2 ^ (32 - m) := Nat.mul_lt_mul_of_pos_right (by omega) (Nat.two_pow_pos _)
        _ = 2 ^ (32 + (32 - m)) := by rw [Nat.pow_add]
        _ ≤ 2 ^ 63 := Nat.pow_le_pow_right (by omega) (by omega)
    rw [a2]
    exact wrap_i64_id _ (by omega) (by omega)
  have h5 : min (32 - m) 64 = 32 - m := by omega
  go_enter Tryd.func95, Tryd.ntmps95
  go_wp2
  refine wp_region_still_lit (by kernel_rfl) (by kernel_rfl) ?_
  repeat (refine wpStill_step (fun K hK => ?_); go_simp; refine hK _ ?_; clear hK K)
  refine wpStill_nil ?_
  change Exit.then _ _ _ _ w.drew
  clear h1 h2 h2' h3 h4 h5
  go_wp2
  go_ret
  exact ⟨ret_int HR.out, rfl⟩

def kI : Array Value := (Ks.map (fun x : Nat => Value.int .i64 (x : Int))).toArray
def agg8 (st : List Nat) : Array Value := (st.map (fun x : Nat => Value.int .i64 (x : Int))).toArray
theorem kI_size : kI.size = 64 := rfl
theorem info_64 : (Tryd.prog.info? 137).map (·.size) = some 64 := by kernel_rfl
theorem info_8 : (Tryd.prog.info? 130).map (·.size) = some 8 := by kernel_rfl
def zI : Array Value := (List.replicate 64 (Value.int .i64 0)).toArray
theorem zero_64 (w : World) : (zeroValue 137).run Tryd.prog w = .ok (.agg zI) w := by kernel_rfl
theorem kI_one : kI.all (·.oneCell') = true := by kernel_rfl
theorem zI_size : zI.size = 64 := rfl
theorem und_64 : Tryd.prog.underlying 137 = some (.array 64 3) := by kernel_rfl
theorem und_8 : Tryd.prog.underlying 130 = some (.array 8 3) := by kernel_rfl

set_option maxRecDepth 100000 in
set_option maxHeartbeats 400000 in
theorem rounds_any (w : World) : Calls Tryd.prog 96 #[] w fun e w' => e = .returned (.agg kI) ∧ Below w.heap.size w w' := by
  have hz := zero_64
  go_enter Tryd.func96, Tryd.ntmps96
  go_wp2_with (first
    | (refine wpList_build_as rfl 137 _ rfl kI (by kernel_rfl) ?_)
    | (refine wpList_store_row rfl 137 (.tmp 0) (.tmp 1) rfl w.heap.size kI rfl rfl 137 _ (heap_alloc_new w _) (by rw [kI_size]; exact info_64) (by rw [kI_size]; exact zI_size) kI_one ?_
       rw [setRow_alloc]))
  refine bodyPost_ret (v := .agg kI) ?_ rfl ⟨rfl, (Below.refl _ _).alloc (Nat.le_refl _) _⟩
  exact results_cell_row rfl _ _ w.heap.size 137 kI (0, 0) _ rfl (heap_alloc_new w _) und_64 rfl (by rw [kI_size]; exact info_64)

set_option maxRecDepth 100000 in
set_option maxHeartbeats 400000 in
theorem begins_any (w : World) : Calls Tryd.prog 91 #[] w fun e w' => e = .returned (.agg (agg8 Hs)) ∧ Below w.heap.size w w' := by
  go_enter Tryd.func91, Tryd.ntmps91
  go_wp2
  exact bodyPost_ret (v := .agg (agg8 Hs)) (results_cell_row rfl _ _ w.heap.size 130 (agg8 Hs) (0, 0) _ rfl (heap_alloc_new w _) und_8 rfl (by kernel_rfl)) rfl ⟨rfl, (Below.refl _ _).alloc (Nat.le_refl _) _⟩
end Go.Proofs.YtafookdllnhdaaaDoor
