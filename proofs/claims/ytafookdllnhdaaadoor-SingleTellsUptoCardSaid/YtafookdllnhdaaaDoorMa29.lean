/- Layer 3, walked: refused, wrong; root; R. -/
import Derived.Test.YtafookdllnhdaaaDoorMa18
import Derived.Test.YtafookdllnhdaaaDoorMa11
namespace Go.Proofs.YtafookdllnhdaaaDoor
open Go.RowKit Go.Scr
set_option linter.unusedVariables false

/-- has each text 32 bytes? -/
def ok32 (L : List ByteArray) : Bool := L.all fun s => s.size == 32
theorem ok32_take {L : List ByteArray} {k : Nat} {s : ByteArray} (h : L[k]? = some s) : ok32 (L.take (k + 1)) = (ok32 (L.take k) && (s.size == 32)) := by
  obtain ⟨hk, rfl⟩ := List.getElem?_eq_some_iff.mp h
  unfold ok32
  rw [List.take_succ_eq_append_getElem hk, List.all_append]
  simp
theorem ok32_bad {L : List ByteArray} {k : Nat} {s : ByteArray} (h : L[k]? = some s) (hs : s.size ≠ 32) : ok32 L = false := by
  unfold ok32
  rw [List.all_eq_false]
  exact ⟨s, List.mem_of_getElem? h, by simpa using hs⟩
def refusedE (L : List ByteArray) : Int := if 4096 < L.length then 31 else if ok32 L = false then 32 else 0

end Go.Proofs.YtafookdllnhdaaaDoor
/- Layer 3, walked: root, R; Root of both. -/
namespace Go.Proofs.YtafookdllnhdaaaDoor
open Go.RowKit Go.Scr
set_option linter.unusedVariables false

theorem Txts.cutC {w : World} {p : Option Addr} {n c k : Nat} {L : List ByteArray} (h : Txts w (.slice p n c) L) (hk : k ≤ n) : Txts w (.slice p k c) (L.take k) := by
  obtain ⟨q, c', he, h1, h2, h3⟩ := h
  simp only [Value.slice.injEq] at he
  obtain ⟨rfl, hn, rfl⟩ := he
  refine ⟨p, c, by rw [List.length_take, Nat.min_eq_left (by omega)], by rw [List.length_take]; omega, by rw [List.length_take]; omega, fun j s hs => h3 j s ?_⟩
  rw [List.getElem?_take] at hs
  split at hs
  · exact hs
  · cases hs
theorem Txts.rightC {w : World} {p : Option Addr} {n c k : Nat} {L : List ByteArray} (h : Txts w (.slice p n c) L) (hk : k ≤ n) : Txts w (.slice (p.map (·.add k)) (n - k) (c - k)) (L.drop k) := by
  obtain ⟨q, c', he, h1, h2, h3⟩ := h
  simp only [Value.slice.injEq] at he
  obtain ⟨rfl, hn, rfl⟩ := he
  refine ⟨_, c - k, by rw [List.length_drop, hn], by rw [List.length_drop]; omega, by rw [List.length_drop]; omega, fun j s hs => ?_⟩
  rw [List.getElem?_drop] at hs
  obtain ⟨a, ha, hc⟩ := h3 (k + j) s hs
  exact ⟨a.add k, by rw [ha]; rfl, by rw [Addr.add_add]; exact hc⟩

theorem store_func (P : Program) (w : World) (T F : Nat) (cap : Array Value) :
    (store ⟨w.heap.size, 0, none⟩ (.func (.func F) #[] cap)).run P (w.alloc (.cells #[.nilFunc] T)) = .ok () (w.alloc (.cells #[.func (.func F) #[] cap] T)) := by
  have h := heap_alloc_new w (.cells #[.nilFunc] T)
  have hc := cell_of_one h
  have hf := free_of_one h
  rw [run_store _ _ _ _ _ rfl, hc]
  simp only [hf, Bool.false_eq_true, if_false]
  rw [World.setCell_alloc_at _ _ _ _ _ rfl]
  rfl
end Go.Proofs.YtafookdllnhdaaaDoor
/- Layer 3, walked: Root, Part of both. -/
namespace Go.Proofs.YtafookdllnhdaaaDoor
open Go.RowKit Go.Scr
set_option linter.unusedVariables false

def rootT (L : List ByteArray) : ByteArray := if refusedE L = 0 then rootR L else ⟨#[]⟩
def partE (L : List ByteArray) (b e : Int) : Int := if refusedE L ≠ 0 then refusedE L else if b < 0 ∨ e < b ∨ (L.length : Int) < e then 30 else 0
def partT (L : List ByteArray) (b e : Int) : ByteArray := if partE L b e = 0 then rootR ((L.drop b.toNat).take (e - b).toNat) else ⟨#[]⟩

end Go.Proofs.YtafookdllnhdaaaDoor
