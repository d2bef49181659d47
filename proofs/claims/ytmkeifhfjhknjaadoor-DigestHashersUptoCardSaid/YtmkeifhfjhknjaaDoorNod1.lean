/- The program's Node. -/
import Derived.Test.YtmkeifhfjhknjaaDoorNod0
namespace Go.Proofs.YtmkeifhfjhknjaaDoor
open Go.RowKit Go.Scr
set_option linter.unusedVariables false

def okNode (l r : ByteArray) : Bool := decide (l.size = 32) && decide (r.size = 32)
def nodeS (l r : ByteArray) : ByteArray := if l.size = 32 ∧ r.size = 32 then hnode l r else ⟨#[]⟩
def nodeE (l r : ByteArray) : Int := if l.size = 32 ∧ r.size = 32 then 0 else 12

set_option maxRecDepth 100000 in
set_option maxHeartbeats 400000 in
theorem dnode_any (l r : ByteArray) (w : World) (ht : Tabs w) :
    Calls Tryd.prog 21 #[.string l, .string r] w fun e w' => e = .returned (.tuple #[.string (nodeS l r), .int .i64 (nodeE l r)]) ∧ Below w.heap.size w w' := by
  by_cases hl : l.size = 32
  · by_cases hr : r.size = 32
    · have h := sum_any (.slice (some ⟨w.heap.size, 0, none⟩) 3 3) [⟨#[1]⟩, l, r] (w.alloc (.cells #[.string ⟨#[1]⟩, .string l, .string r] 9)) (ht.below ((Below.refl _ _).alloc (Nat.le_refl _) _)) (txts_alloc w 9 [⟨#[1]⟩, l, r] (by simp)) (by simp [cat]; omega)
      have h' : Calls Tryd.prog 18 #[.slice (some ⟨w.heap.size, 0, none⟩) 3 3] (w.alloc (.cells #[.string ⟨#[1]⟩, .string l, .string r] 9)) fun e w' => e = .returned (.string (hnode l r)) ∧ Below w.heap.size w w' := by
        refine h.mono ?_
        rintro e w1 ⟨rfl, hb⟩
        exact ⟨by simp [cat, hnode, str], below_from ((Below.refl _ _).alloc (Nat.le_refl _) _) hb (by simp)⟩
      have H := Lib.hid h'
      clear h h' ht
      have hn1 : nodeS l r = hnode l r := if_pos ⟨hl, hr⟩
      have hn2 : nodeE l r = 0 := if_pos ⟨hl, hr⟩
      rw [hn1, hn2]
      clear hn1 hn2
      have hl' : (l.size : Int) = 32 := by omega
      have hr' : (r.size : Int) = 32 := by omega
      go_enter Tryd.func21, Tryd.ntmps21
      go_wp2_with (go_at_call 18; refine H.out.mono ?_; rintro e w1 ⟨rfl, hb⟩)
      go_ret2
      exact ⟨rfl, hb⟩
    · have hn1 : nodeS l r = ⟨#[]⟩ := if_neg (fun h => hr h.2)
      have hn2 : nodeE l r = 12 := if_neg (fun h => hr h.2)
      rw [hn1, hn2]
      clear hn1 hn2
      have hl' : (l.size : Int) = 32 := by omega
      have hr' : ¬ (r.size : Int) = 32 := by omega
      go_enter Tryd.func21, Tryd.ntmps21
      go_wp2
      go_ret2
      exact ⟨rfl, Below.refl _ _⟩
  · have hn1 : nodeS l r = ⟨#[]⟩ := if_neg (fun h => hl h.1)
    have hn2 : nodeE l r = 12 := if_neg (fun h => hl h.1)
    rw [hn1, hn2]
    clear hn1 hn2
    have hl' : ¬ (l.size : Int) = 32 := by omega
    go_enter Tryd.func21, Tryd.ntmps21
    go_wp2
    go_ret2
    exact ⟨rfl, Below.refl _ _⟩

end Go.Proofs.YtmkeifhfjhknjaaDoor
