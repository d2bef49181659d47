/- Layer 4, walked: RootsOf's closure. -/
import Derived.Test.YtafookdllnhdaaaDoorMa34
import Derived.Test.YtafookdllnhdaaaDoorMa3
namespace Go.Proofs.YtafookdllnhdaaaDoor
open Go.RowKit Go.Scr
set_option linter.unusedVariables false

def joinB (b : Bool) (s : ByteArray) (r : ByteArray × ByteArray) : ByteArray × ByteArray := if b then (nodeS s r.1, nodeS s r.2) else (r.1, nodeS r.2 s)
/-- where two ways up stand -/
structure Up2 (L : List ByteArray) (pl pa pb g gc k : Nat) (r : ByteArray × ByteArray) (w : World) : Prop where
  l : ∃ a, BoxL w pl a (L.length - k) (L.length - k) ∧ (k < L.length → a = some ⟨g, k, none⟩)
  a : BoxS w pa r.1
  b : BoxS w pb r.2
  row : SRow w g L
  lt : gc < w.heap.size
/-- one joined hash stored into a box: what stays -/
theorem Up2.only {L : List ByteArray} {pl pa pb g gc k : Nat} {r : ByteArray × ByteArray} {w w' : World} (h : Up2 L pl pa pb g gc k r w) (hg : w.grownBy w' (some gc)) (h1 : pl ≠ gc) (h2 : pa ≠ gc) (h4 : pb ≠ gc) (h3 : g ≠ gc) : Up2 L pl pa pb g gc k r w' := by
  obtain ⟨⟨a, ha, hb⟩, h5, h6, h7, h8⟩ := h
  exact ⟨⟨a, blk_only ha hg (by simpa using h1), hb⟩, blk_only h5 hg (by simpa using h2), blk_only h6 hg (by simpa using h4), blk_only h7 hg (by simpa using h3), Nat.lt_of_lt_of_le h8 hg.size⟩
theorem Up2.below {L : List ByteArray} {pl pa pb g gc k : Nat} {r : ByteArray × ByteArray} {w w' : World} (h : Up2 L pl pa pb g gc k r w) (hb : Below w.heap.size w w') : Up2 L pl pa pb g gc k r w' := by
  obtain ⟨⟨a, ha, hba⟩, h5, h6, h7, h8⟩ := h
  exact ⟨⟨a, blk_below ha hb (blk_lt ha), hba⟩, blk_below h5 hb (blk_lt h5), blk_below h6 hb (blk_lt h6), blk_below h7 hb (blk_lt h7), Nat.lt_of_lt_of_le h8 hb.size⟩
theorem Up2.seta {L : List ByteArray} {pl pa pb g gc k : Nat} {r : ByteArray × ByteArray} {w : World} (h : Up2 L pl pa pb g gc k r w) (h1 : pl ≠ pa) (h2 : pb ≠ pa) (h3 : g ≠ pa) (x : ByteArray) : Up2 L pl pa pb g gc k (x, r.2) (w.setCell ⟨pa, 0, none⟩ (.string x)) := by
  obtain ⟨⟨a, ha, hba⟩, h5, h6, h7, h8⟩ := h
  exact ⟨⟨a, blk_far (p := ⟨pa, 0, none⟩) ha h1 _, hba⟩, h5.set x, blk_far (p := ⟨pa, 0, none⟩) h6 h2 _, blk_far (p := ⟨pa, 0, none⟩) h7 h3 _, by simpa using h8⟩
theorem Up2.setb {L : List ByteArray} {pl pa pb g gc k : Nat} {r : ByteArray × ByteArray} {w : World} (h : Up2 L pl pa pb g gc k r w) (h1 : pl ≠ pb) (h2 : pa ≠ pb) (h3 : g ≠ pb) (x : ByteArray) : Up2 L pl pa pb g gc k (r.1, x) (w.setCell ⟨pb, 0, none⟩ (.string x)) := by
  obtain ⟨⟨a, ha, hba⟩, h5, h6, h7, h8⟩ := h
  exact ⟨⟨a, blk_far (p := ⟨pb, 0, none⟩) ha h1 _, hba⟩, blk_far (p := ⟨pb, 0, none⟩) h5 h2 _, h6.set x, blk_far (p := ⟨pb, 0, none⟩) h7 h3 _, by simpa using h8⟩
theorem Up2.box {L : List ByteArray} {pl pa pb g gc k : Nat} {r : ByteArray × ByteArray} {w : World} (h : Up2 L pl pa pb g gc k r w) (hk : k < L.length) : BoxL w pl (some ⟨g, k, none⟩) (L.length - k) (L.length - k) := by
  obtain ⟨a, ha, hb⟩ := h.l
  rw [hb hk] at ha
  exact ha
theorem Up2.setl0 {L : List ByteArray} {pl pa pb g gc k n : Nat} {r : ByteArray × ByteArray} {w : World} (h : Up2 L pl pa pb g gc k r w) (hk : k < L.length) (hn : L.length - k = 0 + 1) (h1 : pa ≠ pl) (h2 : pb ≠ pl) (h3 : g ≠ pl) : Up2 L pl pa pb g gc (k + 1) r (w.setCell ⟨pl, 0, none⟩ (.slice (some ⟨g, k, none⟩) 0 0)) := by
  obtain ⟨⟨a, ha, hba⟩, h5, h6, h7, h8⟩ := h
  refine ⟨⟨_, by have := BoxL.set ha (some ⟨g, k, none⟩) 0 0; rwa [show L.length - (k + 1) = 0 by omega], fun h => by omega⟩, blk_far (p := ⟨pl, 0, none⟩) h5 h1 _, blk_far (p := ⟨pl, 0, none⟩) h6 h2 _, blk_far (p := ⟨pl, 0, none⟩) h7 h3 _, by simpa using h8⟩
theorem Up2.setl {L : List ByteArray} {pl pa pb g gc k m : Nat} {r : ByteArray × ByteArray} {w : World} (h : Up2 L pl pa pb g gc k r w) (hk : k < L.length) (hn : L.length - k = m + 1) (h1 : pa ≠ pl) (h2 : pb ≠ pl) (h3 : g ≠ pl) : Up2 L pl pa pb g gc (k + 1) r (w.setCell ⟨pl, 0, none⟩ (.slice (some ⟨g, k + 1, none⟩) m m)) := by
  obtain ⟨⟨a, ha, hba⟩, h5, h6, h7, h8⟩ := h
  refine ⟨⟨_, by have := BoxL.set ha (some ⟨g, k + 1, none⟩) m m; rwa [show L.length - (k + 1) = m by omega], fun h => rfl⟩, blk_far (p := ⟨pl, 0, none⟩) h5 h1 _, blk_far (p := ⟨pl, 0, none⟩) h6 h2 _, blk_far (p := ⟨pl, 0, none⟩) h7 h3 _, by simpa using h8⟩

end Go.Proofs.YtafookdllnhdaaaDoor
/- Layer 4, walked: RootsOf. -/
namespace Go.Proofs.YtafookdllnhdaaaDoor
open Go.RowKit Go.Scr
set_option linter.unusedVariables false

theorem climbB_next {D : List Bool} {L : List ByteArray} {r0 : ByteArray × ByteArray} {k : Nat} {b : Bool} {s : ByteArray} (hb : D[k]? = some b) (hs : L[k]? = some s) :
    joinB b s (climbB nodeS (D.take k) (L.take k) r0) = climbB nodeS (D.take k ++ [b]) (L.take (k + 1)) r0 := by
  obtain ⟨h1, h2⟩ := List.getElem?_eq_some_iff.mp hs
  obtain ⟨h3, h4⟩ := List.getElem?_eq_some_iff.mp hb
  rw [List.take_succ_eq_append_getElem h1, h2, climbB_snoc _ _ _ _ _ _ (by rw [List.length_take, List.length_take]; omega)]
  rfl
def rootsOfE (f s : Int) (old : ByteArray) (L : List ByteArray) : Int := if proofLenE f s ≠ 0 then proofLenE f s else if old.size ≠ 32 ∨ all32 L = false then 42 else if (L.length : Int) ≠ proofLenS f s then 43 else 0
def rootsOfS (f s : Int) (old : ByteArray) (L : List ByteArray) : ByteArray × ByteArray := if rootsOfE f s old L = 0 then climbB nodeS (fl f.toNat s.toNat) (restL (wh f.toNat s.toNat true) L) (seedL (wh f.toNat s.toNat true) old L, seedL (wh f.toNat s.toNat true) old L) else (⟨#[]⟩, ⟨#[]⟩)

end Go.Proofs.YtafookdllnhdaaaDoor
/- Layer 4, walked: Consistency. -/
namespace Go.Proofs.YtafookdllnhdaaaDoor
open Go.RowKit Go.Scr
set_option linter.unusedVariables false

def consS (f s : Int) (old now : ByteArray) (L : List ByteArray) : Int := if rootsOfE f s old L ≠ 0 then rootsOfE f s old L else if now.size ≠ 32 then 42 else if (rootsOfS f s old L).1 ≠ old ∨ (rootsOfS f s old L).2 ≠ now then 44 else 0
theorem toList_same (a : ByteArray) : (a.toList == a.toList) = true := by simp

end Go.Proofs.YtafookdllnhdaaaDoor
