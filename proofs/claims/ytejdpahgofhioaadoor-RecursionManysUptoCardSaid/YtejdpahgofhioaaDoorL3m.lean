/- Marks that are written: a row of bools; the places of the marks, step by step. -/
import Derived.Test.YtejdpahgofhioaaDoorL3l
namespace Go.Proofs.YtejdpahgofhioaaDoor
open Go.RowKit Go.Scr
set_option linter.unusedVariables false

def BRow (w : World) (g : Nat) (B : List Bool) : Prop := w.heap[g]? = some (.cells ((B.map Value.bool).toArray) 4 (0, 0))
theorem BRow.cell {w : World} {g : Nat} {B : List Bool} (h : BRow w g B) {j : Nat} {d : Bool} (hd : B[j]? = some d) : w.cell? ⟨g, j, none⟩ = some (.bool d) := by
  rw [cell_of_row w g j _ _ _ h]
  simp [hd]
theorem BRow.frozen {w : World} {g : Nat} {B : List Bool} (h : BRow w g B) (j : Nat) : w.frozen? ⟨g, j, none⟩ = false := by
  unfold World.frozen?
  unfold BRow at h
  simp [h]
theorem BRow.set {w : World} {g : Nat} {B : List Bool} (h : BRow w g B) (j : Nat) (d : Bool) : BRow (w.setCell ⟨g, j, none⟩ (.bool d)) g (B.set j d) := by
  have := blk_set h j (.bool d)
  unfold BRow
  rw [this]
  congr 2
  simp [List.map_set]
theorem BRow.below {w w' : World} {g n : Nat} {B : List Bool} (h : BRow w g B) (hb : Below n w w') (hg : g < n) : BRow w' g B := blk_below h hb hg
theorem BRow.lt {w : World} {g : Nat} {B : List Bool} (h : BRow w g B) : g < w.heap.size := row_lt h
theorem BRow.marks {w : World} {g : Nat} {B : List Bool} (h : BRow w g B) : Marks w (some ⟨g, 0, none⟩) B := by
  intro i d hd
  have hadd : (⟨g, 0, none⟩ : Addr).add i = ⟨g, i, none⟩ := by unfold Addr.add; split <;> simp_all
  exact ⟨_, rfl, by rw [hadd]; exact h.cell hd⟩
theorem madeCells_bools (c : Nat) : madeCells #[Value.bool false] c = (((List.replicate c false).map Value.bool)).toArray := by
  apply Array.ext'
  rw [toList_madeCells_one]
  simp
theorem make_bools (n : Nat) (hn : n ≤ 4194304) (w : World) :
    (Instr.makeSlice 52 (.int .i64 (n : Int)) (.int .i64 (n : Int))).run Tryd.prog w = .ok (.slice (some ⟨w.heap.size, 0, none⟩) n n) (w.alloc (.cells (Array.replicate n (Value.bool false)) 4)) := by
  obtain ⟨i, hi0, hz, hsi, hbi⟩ := info_parts info_bool
  have h := run_make_rowN (P := Tryd.prog) 52 4 i (.bool false) Tryd.underlying52 hi0 hz .i64 .i64 n n (Nat.le_refl _) (by rw [hbi]; omega) (by omega) w
  rw [h, hsi, Nat.mul_one]
  have e : (Value.bool false : Value).cells = #[Value.bool false] := rfl
  rw [e, madeCells_bools]
  simp
theorem brow_made (w : World) (n : Nat) : BRow (w.alloc (.cells (Array.replicate n (Value.bool false)) 4)) w.heap.size (List.replicate n false) := by
  have h := heap_alloc_new w (.cells (Array.replicate n (Value.bool false)) 4)
  unfold BRow
  rw [h]
  simp
theorem plcB_snoc (B : List Bool) (x : Bool) : ∀ b, plcB b (B ++ [x]) = plcB b B ++ (if x then [((b + B.length : Nat) : Int)] else []) := by
  induction B with
  | nil => intro b; cases x <;> simp [plcB]
  | cons y t ih =>
    intro b
    have h := ih (b + 1)
    rw [show b + 1 + t.length = b + (y :: t).length by simp only [List.length_cons]; omega] at h
    cases y with
    | true => show (b : Int) :: plcB (b + 1) (t ++ [x]) = ((b : Int) :: plcB (b + 1) t) ++ _; rw [h]; rfl
    | false => show plcB (b + 1) (t ++ [x]) = plcB (b + 1) t ++ _; exact h
theorem plcB_len (B : List Bool) : ∀ b, (plcB b B).length ≤ B.length := by
  induction B with
  | nil => intro b; exact Nat.le_refl _
  | cons y t ih =>
    intro b
    have := ih (b + 1)
    cases y <;> simp [plcB] <;> omega
theorem wrongZ_marks (B : List Bool) (h : (plcB 0 B).length ≠ 0) (hl : (plcB 0 B).length ≤ 256) : wrongZ B.length (plcB 0 B) = false := by
  have key : ∀ (Z : List Int) (last : Int), Z.Pairwise (· < ·) → (∀ z ∈ Z, last < z ∧ z < (B.length : Int)) → okZ B.length last Z = true := by
    intro Z
    induction Z with
    | nil => intro _ _ _; rfl
    | cons z t ih =>
      intro last hp hb
      have h1 := hb z (by simp)
      have hp' := List.pairwise_cons.mp hp
      unfold okZ
      rw [decide_eq_true h1.1, decide_eq_true h1.2, ih z hp'.2 (fun y hy => ⟨hp'.1 y hy, (hb y (by simp [hy])).2⟩)]
      rfl
  unfold wrongZ
  rw [key _ _ (plcB_rises B 0) (fun z hz => by have := plcB_ge B 0 z hz; omega), decide_eq_false h, decide_eq_false (by omega)]
  rfl
end Go.Proofs.YtejdpahgofhioaaDoor
