/- Law 11: SingleAccepted, walked. -/
import Derived.Test.YtafookdllnhdaaaDoorMa37
import Derived.Test.YtafookdllnhdaaaDoorMa36
namespace Go.Proofs.YtafookdllnhdaaaDoor
open Go.RowKit Go.Scr Go.ChangeMaps Go.MapKept
set_option linter.unusedVariables false
theorem held_txtsU {w : World} {T n : Nat} {v : Value} {L : List ByteArray} (h : Held w T 1 v n (L.map Value.string)) (hl : L.length ≤ 4194304) : n = L.length ∧ Txts w v L := by
  have hn : n = L.length := by have := h.1; simpa using this.symm
  obtain ⟨p, c, rfl, h1, _, h2⟩ := h.cells
  refine ⟨hn, p, c, by rw [hn], by omega, by omega, fun j s hs => ?_⟩
  obtain ⟨a, ha, _, hc⟩ := h2 j (.string s) (by rw [List.getElem?_map, hs]; rfl)
  exact ⟨a, ha, hc⟩
theorem txts_cutU {w : World} {p : Option Addr} {n m c : Nat} {L : List ByteArray} (h : Txts w (.slice p n c) L) (hm : m ≤ n) : Txts w (.slice p m c) (L.take m) := by
  obtain ⟨p2, c2, e, h1, h2, h3⟩ := h
  injection e with e1 e2 e3
  subst e1 e3
  have hl : (L.take m).length = m := by rw [List.length_take]; omega
  refine ⟨p, c, by rw [hl], by omega, by omega, fun j s hs => h3 j s ?_⟩
  rw [List.getElem?_take] at hs
  split at hs
  · exact hs
  · cases hs
theorem txts_rowU {w : World} {B T n : Nat} {v : Value} {L : List ByteArray} (h : w.ownsRow B T 1 v n (L.map Value.string)) (hc : L.length ≤ 4194304) : Txts w v L := by
  have hn : n = L.length := by have := h.1; simpa using this.symm
  subst hn
  rcases h.2 with ⟨rfl, h0⟩ | ⟨g, c, cur, rfl, hB, hg, h1, h2, h3, h4⟩
  · have : L = [] := by
      cases L with
      | nil => rfl
      | cons x t => simp at h0
    subst this
    exact txts_none w
  · exact txts_owned h rfl (by omega)
/-- a tree whose blocks lie above W -/
theorem fiI_trU {w wr : World} {B tb h i : Nat} {Z : List Int} (H : FiI w wr B tb h Z i) : TrU w wr B tb h ((Z.take i).map leafSU) := ⟨H.b, H.t⟩
/-- the leaves so far -/
structure NuI (w wr : World) (L : List ByteArray) (i : Nat) (v : Value) : Prop where
  b : Below w.heap.size w wr
  hd : Held wr 9 1 v i ((L.take i).map Value.string)
  ow : ∀ g, v.ownBlock = some g → w.heap.size ≤ g
theorem NuI.push {w w3 w5 : World} {L : List ByteArray} {i : Nat} {v v' : Value} {o : Obj} {x : ByteArray} (hb : Below w.heap.size w w3) (ow : ∀ g, v.ownBlock = some g → w.heap.size ≤ g) (hx : L[i]? = some x)
    (g : Grew 9 1 (w3.alloc o) v i 1 ((L.take i).map Value.string) [.string x] v' w5) : NuI w w5 L (i + 1) v' := by
  have hs := hb.size
  have hb2 : Below w.heap.size w (w3.alloc o) := hb.alloc hs o
  refine ⟨hb2.grown g.grown (by simp; omega) (fun k hk => ow k hk), ?_, fun q hq => ?_⟩
  · have := g.held
    rw [List.take_add_one, hx, List.map_append]
    exact this
  · rcases grewT_own g q hq with h | h
    · exact ow q h
    · omega
end Go.Proofs.YtafookdllnhdaaaDoor
