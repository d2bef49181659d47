/- Law 6: ExtractLists, walked (printed by gen_exc.py). -/
import Derived.Test.YtdbghgpohdijfaaGreatDoorMa34
namespace Go.Proofs.YtdbghgpohdijfaaGreatDoor
open Go.RowKit Go.Scr
set_option linter.unusedVariables false
/-- two unlike texts of one digest -/
def UnP (x y : ByteArray) : Prop := x ≠ y ∧ (shaS x = shaS y ∧ x.size ≤ 2000000 ∧ y.size ≤ 2000000)
def AnsP (c : Int) (w : World) (e : Ending) (w' : World) : Prop := ∃ x y, e = .returned (.tuple #[.agg #[.string x, .string y], .int .i64 c]) ∧ (c = 0 → UnP x y) ∧ Below w.heap.size w w'
theorem ans_none {c : Int} (hc : c ≠ 0) {w w' : World} {e : Ending} (h : NoneP c w e w') : AnsP c w e w' := ⟨_, _, h.1, fun h0 => absurd h0 hc, h.2⟩
theorem ans_pair {w w' : World} {e : Ending} (h : PairP w e w') : AnsP 0 w e w' := by
  obtain ⟨p, q, h1, h2, h3, h4⟩ := h
  exact ⟨p, q, h1, fun _ => ⟨h2, h3⟩, h4⟩
theorem refused_two {A B : List ByteArray} (h : lvNo A B = true) : refusedE A ≠ 0 ∨ (refusedE A = 0 ∧ refusedE B ≠ 0) ∨ (refusedE A = 0 ∧ refusedE B = 0 ∧ A.length ≠ B.length) := by
  by_cases h1 : refusedE A = 0
  · by_cases h2 : refusedE B = 0
    · refine .inr (.inr ⟨h1, h2, fun hl => ?_⟩)
      unfold refusedE at h1 h2
      unfold lvNo at h
      by_cases a1 : 4096 < A.length
      · rw [if_pos a1] at h1; exact absurd h1 (by decide)
      · rw [if_neg a1] at h1
        by_cases a2 : ok32 A = false
        · rw [if_pos a2] at h1; exact absurd h1 (by decide)
        · by_cases b1 : 4096 < B.length
          · rw [if_pos b1] at h2; exact absurd h2 (by decide)
          · rw [if_neg b1] at h2
            by_cases b2 : ok32 B = false
            · rw [if_pos b2] at h2; exact absurd h2 (by decide)
            · have a3 : ok32 A = true := by simpa using a2
              have b3 : ok32 B = true := by simpa using b2
              rw [a3, b3, decide_eq_false a1, decide_eq_false (fun h => h hl)] at h
              exact absurd h (by decide)
    · exact .inr (.inl ⟨h1, h2⟩)
  · exact .inl h1
theorem lvNo_ok {A B : List ByteArray} (hno : lvNo A B = false) : A.length = B.length ∧ A.length ≤ 4096 ∧ (∀ s ∈ A, s.size = 32) ∧ (∀ s ∈ B, s.size = 32) ∧ refusedE A = 0 ∧ refusedE B = 0 := by
  unfold lvNo at hno
  rw [Bool.or_eq_false_iff, Bool.or_eq_false_iff, Bool.or_eq_false_iff] at hno
  obtain ⟨⟨⟨h1, h2⟩, h3⟩, h4⟩ := hno
  have h1 := of_decide_eq_false h1
  have h2 := of_decide_eq_false h2
  have ho1 : ok32 A = true := by simpa using h3
  have ho2 : ok32 B = true := by simpa using h4
  have hl : A.length = B.length := by omega
  refine ⟨hl, by omega, fun s hs => by unfold ok32 at ho1; rw [List.all_eq_true] at ho1; simpa using ho1 s hs, fun s hs => by unfold ok32 at ho2; rw [List.all_eq_true] at ho2; simpa using ho2 s hs, ?_, ?_⟩
  · unfold refusedE; rw [if_neg h2, if_neg (by rw [ho1]; decide)]
  · unfold refusedE; rw [if_neg (by omega), if_neg (by rw [ho2]; decide)]
theorem txts_cellE {w : World} {p : Option Addr} {n c : Nat} {L : List ByteArray} (h : Txts w (.slice p n c) L) {i : Nat} {s : ByteArray} (hs : L[i]? = some s) : ∃ a, p = some a ∧ ∀ w', Below w.heap.size w w' → w'.cell? (a.add i) = some (.string s) := by
  obtain ⟨p', c', hpe, _, _, hq⟩ := h
  obtain rfl : p = p' := by cases hpe; rfl
  obtain ⟨a, ha, hcell⟩ := hq i s hs
  exact ⟨a, ha, fun w' hb => (hb.cell (block_lt_of_cell hcell)).trans hcell⟩
end Go.Proofs.YtdbghgpohdijfaaGreatDoor
