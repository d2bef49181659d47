/- The reference's block function: walked. -/
import Derived.Test.YtblacbfkaamdgabDoorMa8
namespace Go.Proofs.YtblacbfkaamdgabDoor
open Go.RowKit Go.Scr
set_option linter.unusedVariables false

theorem agg8_get {st : List Nat} {j : Nat} (hl : st.length = 8) (hj : j < 8) : (agg8 st)[j]? = some (.int .i64 ((st.getD j 0 : Nat) : Int)) := by
  unfold agg8
  rw [List.getElem?_toArray, List.getElem?_map, List.getD_eq_getElem?_getD, List.getElem?_eq_getElem (by omega)]
  simp
theorem agg8_set (st : List Nat) (j x : Nat) : (agg8 st).setIfInBounds j (.int .i64 (x : Int)) = agg8 (st.set j x) := by
  unfold agg8
  rw [List.setIfInBounds_toArray, List.map_set]
theorem agg8_size {st : List Nat} (hl : st.length = 8) : (agg8 st).size = 8 := by simp [agg8, hl]
theorem agg8_one (st : List Nat) : (agg8 st).all (·.oneCell') = true := by
  rw [Array.all_eq_true_iff_forall_mem]
  intro v hv
  simp only [agg8, List.mem_toArray, List.mem_map] at hv
  obtain ⟨_, _, rfl⟩ := hv
  rfl
theorem kI_get (j : Nat) (hj : j < 64) : kI[j]? = some (.int .i64 ((Ks.getD j 0 : Nat) : Int)) := by
  unfold kI
  rw [List.getElem?_toArray, List.getElem?_map, List.getD_eq_getElem?_getD, List.getElem?_eq_getElem (show j < Ks.length from hj)]
  simp
def z8 : Array Value := agg8 (List.replicate 8 0)
theorem zI_get (j : Nat) (hj : j < 64) : zI[j]? = some (.int .i64 ((0 : Nat) : Int)) := by
  unfold zI
  rw [List.getElem?_toArray, List.getElem?_replicate, if_pos hj]
  rfl
theorem rowI_step {wr : World} {B T k : Nat} {bs : List UInt8} (h : wr.rowIs B T 64 fun j => .int .i64 ((if j < k then wv bs j else 0 : Nat) : Int)) (hk : k < 64) :
    (wr.setCell ⟨B, k, none⟩ (.int .i64 (wv bs k : Nat))).rowIs B T 64 fun j => .int .i64 ((if j < k + 1 then wv bs j else 0 : Nat) : Int) := by
  refine (h.set k (.int .i64 (wv bs k : Nat))).congr fun j hj => ?_
  split
  · rename_i e; subst e; rw [if_pos (by omega)]
  · by_cases hjk : j < k
    · rw [if_pos hjk, if_pos (by omega)]
    · rw [if_neg hjk, if_neg (by omega)]
def setI8 (w : World) (g : Nat) (x0 x1 x2 x3 x4 x5 x6 x7 : Value) : World :=
  (((((((w.setCell ⟨g, 0, none⟩ x0).setCell ⟨g, 1, none⟩ x1).setCell ⟨g, 2, none⟩ x2).setCell ⟨g, 3, none⟩ x3).setCell ⟨g, 4, none⟩ x4).setCell ⟨g, 5, none⟩ x5).setCell ⟨g, 6, none⟩ x6).setCell ⟨g, 7, none⟩ x7
theorem setI8_row {w : World} {g T : Nat} {f : Nat → Value} (h : w.rowIs g T 8 f) (x0 x1 x2 x3 x4 x5 x6 x7 : Nat) :
    (setI8 w g (.int .i64 x0) (.int .i64 x1) (.int .i64 x2) (.int .i64 x3) (.int .i64 x4) (.int .i64 x5) (.int .i64 x6) (.int .i64 x7)).rowIs g T 8 (fun j => .int .i64 (([x0, x1, x2, x3, x4, x5, x6, x7].getD j 0 : Nat) : Int)) := by
  refine ((((((((h.set 0 _).set 1 _).set 2 _).set 3 _).set 4 _).set 5 _).set 6 _).set 7 _).congr fun j hj => ?_
  match j, hj with
  | 0, _ | 1, _ | 2, _ | 3, _ | 4, _ | 5, _ | 6, _ | 7, _ => rfl
theorem setI8_other {w : World} {g B T n : Nat} {f : Nat → Value} (h : w.rowIs B T n f) (hne : B ≠ g) (x0 x1 x2 x3 x4 x5 x6 x7 : Value) : (setI8 w g x0 x1 x2 x3 x4 x5 x6 x7).rowIs B T n f :=
  (((((((h.setOther hne _).setOther hne _).setOther hne _).setOther hne _).setOther hne _).setOther hne _).setOther hne _).setOther hne _
theorem setI8_below {w0 w : World} {g B : Nat} (h : Below B w0 w) (hB : B ≤ g) (x0 x1 x2 x3 x4 x5 x6 x7 : Value) : Below B w0 (setI8 w g x0 x1 x2 x3 x4 x5 x6 x7) :=
  (((((((h.setCell hB _).setCell hB _).setCell hB _).setCell hB _).setCell hB _).setCell hB _).setCell hB _).setCell hB _

end Go.Proofs.YtblacbfkaamdgabDoor
