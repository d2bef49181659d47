/- Layer 4, walked: RootOf, Inclusion. -/
import Derived.Test.YtafookdllnhdaaaDoorMa33
import Derived.StillTailTactics
namespace Go.Proofs.YtafookdllnhdaaaDoor
open Go.RowKit Go.Scr
set_option linter.unusedVariables false

theorem txts_one (w : World) (s : ByteArray) : Txts (w.alloc (.cells #[.string s] 9)) (.slice (some ⟨w.heap.size, 0, none⟩) 1 1) [s] := txts_alloc w 9 [s] (by simp)
def joinS (b : Bool) (s r : ByteArray) : ByteArray := if b then nodeS s r else nodeS r s
/-- where a way up stands: its list, k of it gone, in a box; its hash in another one -/
structure Up (L : List ByteArray) (pl ps g gc k : Nat) (r : ByteArray) (w : World) : Prop where
  l : ∃ a, BoxL w pl a (L.length - k) (L.length - k) ∧ (k < L.length → a = some ⟨g, k, none⟩)
  s : BoxS w ps r
  row : SRow w g L
  lt : gc < w.heap.size

theorem Up.only {L : List ByteArray} {pl ps g gc k : Nat} {r : ByteArray} {w w' : World} (h : Up L pl ps g gc k r w) (hg : w.grownBy w' (some gc)) (h1 : pl ≠ gc) (h2 : ps ≠ gc) (h3 : g ≠ gc) : Up L pl ps g gc k r w' := by
  obtain ⟨⟨a, ha, hb⟩, h5, h6, h7⟩ := h
  exact ⟨⟨a, blk_only ha hg (by simpa using h1), hb⟩, blk_only h5 hg (by simpa using h2), blk_only h6 hg (by simpa using h3), Nat.lt_of_lt_of_le h7 hg.size⟩
theorem climb_next {D : List Bool} {L : List ByteArray} {leaf : ByteArray} {k : Nat} {b : Bool} {s : ByteArray} (hb : D[k]? = some b) (hs : L[k]? = some s) :
    joinS b s (climbF nodeS (D.take k) (L.take k) leaf) = climbF nodeS (D.take k ++ [b]) (L.take (k + 1)) leaf := by
  obtain ⟨h1, h2⟩ := List.getElem?_eq_some_iff.mp hs
  obtain ⟨h3, h4⟩ := List.getElem?_eq_some_iff.mp hb
  rw [List.take_succ_eq_append_getElem h1, h2, climbF_snoc _ _ _ _ _ _ (by rw [List.length_take, List.length_take]; omega)]
  rfl
theorem three_below {W w3 : World} (hb : Below W.heap.size W w3) (a b c : Obj) : Below W.heap.size W (((w3.alloc a).alloc b).alloc c) := ((hb.alloc hb.size a).alloc (hb.alloc hb.size a).size b).alloc ((hb.alloc hb.size a).alloc (hb.alloc hb.size a).size b).size c
theorem three_lt (w : World) (a b c : Obj) : w.heap.size + 1 + 1 < (((w.alloc a).alloc b).alloc c).heap.size := by simp
def rootOfE (s i : Int) (leaf : ByteArray) (L : List ByteArray) : Int := if pathLenE s i ≠ 0 then pathLenE s i else if leaf.size ≠ 32 ∨ all32 L = false then 42 else if (L.length : Int) ≠ pathLenS s i then 43 else 0
def rootOfS (s i : Int) (leaf : ByteArray) (L : List ByteArray) : ByteArray := if rootOfE s i leaf L = 0 then climbF nodeS (dn s.toNat i.toNat) L leaf else ⟨#[]⟩

end Go.Proofs.YtafookdllnhdaaaDoor
/- Layer 4, walked: Inclusion. -/
namespace Go.Proofs.YtafookdllnhdaaaDoor
open Go.RowKit Go.Scr
set_option linter.unusedVariables false

def inclS (s i : Int) (leaf : ByteArray) (L : List ByteArray) (root : ByteArray) : Int := if rootOfE s i leaf L ≠ 0 then rootOfE s i leaf L else if root.size ≠ 32 then 42 else if rootOfS s i leaf L ≠ root then 44 else 0
theorem toList_ne {a b : ByteArray} (h : a ≠ b) : (a.toList == b.toList) = false := by
  rw [beq_eq_false_iff_ne]
  intro h2
  apply h
  rw [ByteArray.toList_eq, ByteArray.toList_eq] at h2
  exact ByteArray.ext (Array.ext' h2)

end Go.Proofs.YtafookdllnhdaaaDoor
