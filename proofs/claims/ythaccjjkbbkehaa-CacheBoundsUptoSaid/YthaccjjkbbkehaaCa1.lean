/- A ring of links: one taken out, one put in. -/
import Derived.Test.YthaccjjkbbkehaaMem
import Derived.Test.YthaccjjkbbkehaaCp0
namespace Go.Proofs.Ythaccjjkbbkehaa
open Go.RowKit Go.Scr
set_option linter.unusedVariables false

abbrev bp (b : Nat) : Value := .pointer (some ⟨b, 0, none⟩)
theorem below_on {B : Nat} {a b c : World} (h : Below B a b) (g : Below b.heap.size b c) (hb : B ≤ b.heap.size) : Below B a c :=
  ⟨g.os.trans h.os, g.tape.trans h.tape, g.output.trans h.output, Nat.le_trans h.size g.size, fun i hi => (g.block i (Nat.lt_of_lt_of_le hi hb)).trans (h.block i hi)⟩
theorem neq_link_same (a : Nat) (w : World) : (binOp .neq 60 (bp a) (bp a)).run Try.prog w = .ok (.bool false) w :=
  neq_same Try.underlying60 (n := 4) (by kernel_rfl) a
theorem neq_link_ne {w : World} {a b : Nat} (ha : Thaw w a) (hb : Thaw w b) (h : a ≠ b) : (binOp .neq 60 (bp a) (bp b)).run Try.prog w = .ok (.bool true) w :=
  neq_ne Try.underlying60 (n := 4) (by kernel_rfl) ha hb h
theorem cs_ne {w : World} {a i b j : Nat} (u : Value) (h : a ≠ b ∨ i ≠ j) : (w.setCell ⟨a, i, none⟩ u).cell? ⟨b, j, none⟩ = w.cell? ⟨b, j, none⟩ :=
  by
  apply World.cell?_setCell_other
  intro e
  simp only [Addr.mk.injEq, and_true] at e
  exact h.elim (fun h => h e.1) (fun h => h e.2)
theorem cs_at {w : World} {a i : Nat} {v : Value} (u : Value) (h : w.cell? ⟨a, i, none⟩ = some v) : (w.setCell ⟨a, i, none⟩ u).cell? ⟨a, i, none⟩ = some u := by apply World.cell?_setCell_same; exact h
def Lnk (w : World) (a b : Nat) : Prop := w.cell? ⟨a, 4, none⟩ = some (bp b) ∧ w.cell? ⟨b, 3, none⟩ = some (bp a)
def Chn (w : World) : List Nat → Prop
  | a :: b :: l => Lnk w a b ∧ Chn w (b :: l)
  | _ => True
theorem chn_app {w : World} (a : Nat) (Y : List Nat) : ∀ X : List Nat, Chn w (X ++ a :: Y) ↔ Chn w (X ++ [a]) ∧ Chn w (a :: Y)
  | [] => by simp [Chn]
  | [x] => by simp [Chn]
  | x :: y :: X => by
    have h := chn_app (w := w) a Y (y :: X)
    simp only [List.cons_append] at h ⊢
    show Lnk w x y ∧ Chn w (y :: (X ++ a :: Y)) ↔ (Lnk w x y ∧ Chn w (y :: (X ++ [a]))) ∧ Chn w (a :: Y)
    rw [h, and_assoc]
theorem Chn.frame {w w' : World} : ∀ {l : List Nat}, Chn w l → (∀ x ∈ l.dropLast, w'.cell? ⟨x, 4, none⟩ = w.cell? ⟨x, 4, none⟩) → (∀ y ∈ l.tail, w'.cell? ⟨y, 3, none⟩ = w.cell? ⟨y, 3, none⟩) → Chn w' l
  | [], _, _, _ => trivial
  | [_], _, _, _ => trivial
  | a :: b :: l, h, h4, h3 => by
    obtain ⟨⟨h1, h2⟩, h5⟩ := h
    refine ⟨⟨(h4 a (by simp)).trans h1, (h3 b (by simp)).trans h2⟩, Chn.frame h5 (fun x hx => h4 x (by rw [List.dropLast_cons_cons]; exact List.mem_cons_of_mem _ hx)) (fun y hy => h3 y (List.mem_cons_of_mem _ (by simpa using hy)))⟩
def Ring (w : World) (ob : Nat) (B : List Nat) : Prop := Chn w (ob :: (B ++ [ob]))
theorem Ring.frame {w w' : World} {ob : Nat} {B : List Nat} (h : Ring w ob B) (hk : ∀ b ∈ ob :: B, ∀ i, w'.cell? ⟨b, i, none⟩ = w.cell? ⟨b, i, none⟩) : Ring w' ob B := by
  refine Chn.frame h (fun x hx => hk x ?_ 4) (fun y hy => hk y ?_ 3)
  · have : (ob :: (B ++ [ob])).dropLast = ob :: B := by rw [← List.cons_append, List.dropLast_concat]
    rwa [this] at hx
  · simp only [List.tail_cons, List.mem_append, List.mem_singleton] at hy
    exact List.mem_cons.mpr (hy.symm)
theorem snoc_of {α : Type} (a : α) (X : List α) : ∃ X' b, a :: X = X' ++ [b] := ⟨(a :: X).dropLast, (a :: X).getLast (by simp), (List.dropLast_concat_getLast (by simp)).symm⟩
theorem cons_of {α : Type} (Y : List α) (b : α) : ∃ a Y', Y ++ [b] = a :: Y' := by
  cases Y with
  | nil => exact ⟨b, [], rfl⟩
  | cons y Y => exact ⟨y, Y ++ [b], rfl⟩
/-- one is taken out -/
theorem Ring.take {w : World} {ob l : Nat} {X Y : List Nat} (h : Ring w ob (X ++ l :: Y)) (nd : (ob :: (X ++ l :: Y)).Nodup) :
    ∃ a b, w.cell? ⟨l, 3, none⟩ = some (bp a) ∧ w.cell? ⟨l, 4, none⟩ = some (bp b) ∧ a ∈ ob :: X ∧ b ∈ ob :: Y ∧ w.cell? ⟨a, 4, none⟩ = some (bp l) ∧ w.cell? ⟨b, 3, none⟩ = some (bp l) ∧
      Ring ((w.setCell ⟨a, 4, none⟩ (bp b)).setCell ⟨b, 3, none⟩ (bp a)) ob (X ++ Y) := by
  obtain ⟨X', a, hX⟩ := snoc_of ob X
  obtain ⟨b, Y', hY⟩ := cons_of Y ob
  have e1 : ob :: ((X ++ l :: Y) ++ [ob]) = X' ++ a :: (l :: (b :: Y')) := by rw [List.append_assoc, List.cons_append, hY, ← List.cons_append, hX]; simp
  have e2 : ob :: ((X ++ Y) ++ [ob]) = X' ++ a :: (b :: Y') := by rw [List.append_assoc, hY, ← List.cons_append, hX]; simp
  have ha : a ∈ ob :: X := by rw [hX]; simp
  have hb : b ∈ ob :: Y := by
    have : b ∈ Y ++ [ob] := by rw [hY]; simp
    simp only [List.mem_append, List.mem_singleton] at this
    exact List.mem_cons.mpr this.symm
  unfold Ring at h
  rw [e1, chn_app] at h
  obtain ⟨h1, ⟨h2, h3⟩, ⟨h4, h5⟩, h6⟩ := h
  refine ⟨a, b, h3, h4, ha, hb, h2, h5, ?_⟩
  have n1 : (ob :: X).Nodup := by
    rw [← List.cons_append] at nd
    exact (List.nodup_append.mp nd).1
  have n2 : (Y ++ [ob]).Nodup := by
    have h := nd
    rw [List.nodup_cons, List.nodup_append] at h
    obtain ⟨hn, _, hly, _⟩ := h
    rw [List.nodup_append]
    refine ⟨(List.nodup_cons.mp hly).2, by simp, fun x hx y hy => ?_⟩
    simp only [List.mem_singleton] at hy
    subst hy
    exact fun e => hn (by subst e; simp [hx])
  have hXY : ∀ x ∈ X, x ∉ Y ++ [ob] := by
    intro x hx hxy
    have h := nd
    rw [List.nodup_cons, List.nodup_append] at h
    simp only [List.mem_append, List.mem_singleton] at hxy
    rcases hxy with hxy | rfl
    · exact h.2.2.2 x hx x (List.mem_cons_of_mem _ hxy) rfl
    · exact h.1 (by simp [hx])
  have hYX : ∀ y ∈ Y, y ∉ ob :: X := by
    intro y hy hyx
    rcases List.mem_cons.mp hyx with rfl | hyx
    · exact (List.nodup_cons.mp nd).1 (by simp [hy])
    · exact hXY y hyx (by simp [hy])
  unfold Ring
  rw [e2, chn_app]
  refine ⟨h1.frame (fun x hx => ?_) (fun y hy => ?_), ⟨?_, ?_⟩, h6.frame (fun x hx => ?_) (fun y hy => ?_)⟩
  · rw [List.dropLast_concat] at hx
    have hxa : x ≠ a := by
      rintro rfl
      rw [hX, List.nodup_append] at n1
      exact n1.2.2 x hx x (by simp) rfl
    rw [cs_ne _ (.inr (by decide)), cs_ne _ (.inl (fun e => hxa e.symm))]
  · rw [← hX, List.tail_cons] at hy
    have hyb : y ≠ b := by
      rintro rfl
      exact hXY y hy (by rw [hY]; simp)
    rw [cs_ne _ (.inl (fun e => hyb e.symm)), cs_ne _ (.inr (by decide))]
  · rw [cs_ne _ (.inr (by decide)), cs_at _ h2]
  · rw [cs_at _ (by rw [cs_ne _ (.inr (by decide))]; exact h5)]
  · rw [← hY, List.dropLast_concat] at hx
    have hxa : x ≠ a := fun e => hYX x hx (by rw [e]; exact ha)
    rw [cs_ne _ (.inr (by decide)), cs_ne _ (.inl (fun e => hxa e.symm))]
  · rw [List.tail_cons] at hy
    have hyb : y ≠ b := by
      rintro rfl
      rw [hY, List.nodup_cons] at n2
      exact n2.1 hy
    rw [cs_ne _ (.inl (fun e => hyb e.symm)), cs_ne _ (.inr (by decide))]
/-- the first one behind the ring's own -/
theorem Ring.head {w : World} {ob : Nat} {B : List Nat} (h : Ring w ob B) : ∃ q B', B ++ [ob] = q :: B' ∧ w.cell? ⟨ob, 4, none⟩ = some (bp q) ∧ w.cell? ⟨q, 3, none⟩ = some (bp ob) := by
  obtain ⟨q, B', hB⟩ := cons_of B ob
  unfold Ring at h
  rw [hB] at h
  exact ⟨q, B', hB, h.1.1, h.1.2⟩
/-- the last one -/
theorem Ring.last {w : World} {ob : Nat} {B : List Nat} (h : Ring w ob B) : ∃ B' q, ob :: B = B' ++ [q] ∧ w.cell? ⟨ob, 3, none⟩ = some (bp q) := by
  obtain ⟨B', q, hB⟩ := snoc_of ob B
  refine ⟨B', q, hB, ?_⟩
  unfold Ring at h
  rw [← List.cons_append, hB, List.append_assoc, List.singleton_append, chn_app] at h
  exact h.2.1.2
/-- one is put in ahead of all -/
theorem Ring.first {w : World} {ob l q : Nat} {B B' : List Nat} {u v : Value} (h : Ring w ob B) (nd : (ob :: l :: B).Nodup) (hB : B ++ [ob] = q :: B') (h3 : w.cell? ⟨l, 3, none⟩ = some u) (h4 : w.cell? ⟨l, 4, none⟩ = some v) :
    Ring ((((w.setCell ⟨l, 3, none⟩ (bp ob)).setCell ⟨l, 4, none⟩ (bp q)).setCell ⟨ob, 4, none⟩ (bp l)).setCell ⟨q, 3, none⟩ (bp l)) ob (l :: B) := by
  unfold Ring at h
  rw [hB] at h
  obtain ⟨⟨g1, g2⟩, g3⟩ := h
  rw [List.nodup_cons, List.nodup_cons] at nd
  obtain ⟨n1, n2, n3⟩ := nd
  have hlo : l ≠ ob := fun e => n1 (by simp [e])
  have hob : ob ∉ B := fun e => n1 (by simp [e])
  have hq : q ∈ B ++ [ob] := by rw [hB]; simp
  have hql : q ≠ l := by
    rintro rfl
    simp only [List.mem_append, List.mem_singleton] at hq
    rcases hq with hq | hq
    · exact n2 hq
    · exact hlo hq
  have nB : (B ++ [ob]).Nodup := by
    rw [List.nodup_append]
    refine ⟨n3, by simp, fun x hx y hy => ?_⟩
    simp only [List.mem_singleton] at hy
    subst hy
    exact fun e => hob (by rw [← e]; exact hx)
  unfold Ring
  rw [List.cons_append, hB]
  refine ⟨⟨?_, ?_⟩, ⟨?_, ?_⟩, g3.frame (fun x hx => ?_) (fun y hy => ?_)⟩
  · rw [cs_ne _ (.inr (by decide)), cs_at (v := bp q) _ (by rw [cs_ne _ (.inl hlo), cs_ne _ (.inl hlo)]; exact g1)]
  · rw [cs_ne _ (.inl hql), cs_ne _ (.inr (by decide)), cs_ne _ (.inr (by decide)), cs_at _ h3]
  · rw [cs_ne _ (.inr (by decide)), cs_ne _ (.inl (fun e => hlo e.symm)), cs_at (v := v) _ (by rw [cs_ne _ (.inr (by decide))]; exact h4)]
  · rw [cs_at (v := bp ob) _ (by rw [cs_ne _ (.inr (by decide)), cs_ne _ (.inr (by decide)), cs_ne _ (.inl (fun e => hql e.symm))]; exact g2)]
  · rw [← hB, List.dropLast_concat] at hx
    have hxl : x ≠ l := fun e => n2 (by rw [← e]; exact hx)
    have hxo : x ≠ ob := fun e => hob (by rw [← e]; exact hx)
    rw [cs_ne _ (.inr (by decide)), cs_ne _ (.inl (fun e => hxo e.symm)), cs_ne _ (.inl (fun e => hxl e.symm)), cs_ne _ (.inr (by decide))]
  · rw [List.tail_cons] at hy
    have hyB : y ∈ B ++ [ob] := by rw [hB]; exact List.mem_cons_of_mem _ hy
    have hyq : y ≠ q := by
      rintro rfl
      rw [hB, List.nodup_cons] at nB
      exact nB.1 hy
    have hyl : y ≠ l := by
      rintro rfl
      simp only [List.mem_append, List.mem_singleton] at hyB
      rcases hyB with hyB | hyB
      · exact n2 hyB
      · exact hlo hyB
    rw [cs_ne _ (.inl (fun e => hyq e.symm)), cs_ne _ (.inr (by decide)), cs_ne _ (.inr (by decide)), cs_ne _ (.inl (fun e => hyl e.symm))]
/-- in the middle: the one ahead of it -/
theorem Ring.mid {w : World} {ob l : Nat} {X Y : List Nat} (h : Ring w ob (X ++ l :: Y)) : ∃ X' a, ob :: X = X' ++ [a] ∧ w.cell? ⟨l, 3, none⟩ = some (bp a) := by
  obtain ⟨X', a, hX⟩ := snoc_of ob X
  refine ⟨X', a, hX, ?_⟩
  unfold Ring at h
  rw [List.append_assoc, List.cons_append, ← List.cons_append, hX, List.append_assoc, List.singleton_append, chn_app] at h
  exact h.2.1.2
/-- .. and the one behind it -/
theorem Ring.next {w : World} {ob l : Nat} {X Y : List Nat} (h : Ring w ob (X ++ l :: Y)) : ∃ q Y', Y ++ [ob] = q :: Y' ∧ w.cell? ⟨l, 4, none⟩ = some (bp q) := by
  obtain ⟨q, Y', hY⟩ := cons_of Y ob
  refine ⟨q, Y', hY, ?_⟩
  unfold Ring at h
  rw [List.append_assoc, List.cons_append, hY, ← List.cons_append, chn_app] at h
  exact h.2.1.1
end Go.Proofs.Ythaccjjkbbkehaa
