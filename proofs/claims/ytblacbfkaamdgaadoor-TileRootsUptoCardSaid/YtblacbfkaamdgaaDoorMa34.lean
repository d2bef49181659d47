/- slices.Clone of texts, none too; a whole tile laid into a tree's memory. -/
import Derived.Test.YtblacbfkaamdgaaDoorMa29
import Derived.Maps.RangeRun
import Derived.Deep.RegionHeld3
import Derived.Deep.CutBlock
import Derived.LoopTactic
namespace Go.Proofs.YtblacbfkaamdgaaDoor
open Go.RowKit Go.Scr Go.ChangeMaps Go.MapKept
set_option linter.unusedVariables false
set_option maxRecDepth 100000 in
set_option maxHeartbeats 1000000 in
theorem cloneN_any (w : World) : Calls Tryd.prog 53 #[.slice none 0 0] w fun r w' => r = .returned (.slice none 0 0) ∧ w' = w := by
  have heN := texts_eqN
  go_enter Tryd.func53, Tryd.ntmps53
  go_wp2
  go_ret
  exact ⟨rfl, rfl⟩
theorem cloneB_any {w : World} {v : Value} {n : Nat} {L : List ByteArray} (h : Held w 9 1 v n (L.map Value.string)) (hn : n ≤ 4096) :
    Calls Tryd.prog 53 #[v] w fun r w' => ∃ v', r = .returned v' ∧ Held w' 9 1 v' n (L.map Value.string) ∧ (∀ q, v'.ownBlock = some q → w.heap.size ≤ q) ∧ Below w.heap.size w w' := by
  have h0 := h
  rcases h.2 with ⟨rfl, e⟩ | ⟨g, cap, cur, rfl, _⟩
  · refine (cloneN_any w).mono ?_
    rintro r w' ⟨rfl, rfl⟩
    have hl : L.map Value.string = [] := List.eq_nil_of_length_eq_zero (by have := h.1; simpa [e] using this)
    exact ⟨_, rfl, h0, (fun q hq => by cases hq), Below.refl _ _⟩
  · exact clone_any h hn
theorem TreeJ.fill {w : World} {tb r h n : Nat} {c : Nat → Nat} {val : Nat → Nat → ByteArray} {ex : Nat → Nat → Prop} {col col' : Nat → Option (Nat × Nat × Nat)} {G : Nat → Nat → Nat} {V : Nat → Nat → Nat → Value} {es : Array MapEntry} {clk : Nat} (t : TreeJ w tb r h n c val ex col G V es clk)
    {lv ix go : Nat} {U : Nat → Value} (hn : ¬ ex lv ix) (hgo : w.heap[go]? = some (.cells ((List.range h).map U).toArray 33 (0, 0)))
    (hc : ∀ g, col g ≠ none → col' g = col g) (hcg : col' go = some (lv, ix, 0)) (hlo : ∀ g, col' g ≠ none → g < w.heap.size)
    (hU : ∀ j, j < h → Held w 9 1 (U j) (cntT c h lv ix j) ((rowT c val h lv ix j).map Value.string) ∧ ∀ g, (U j).ownBlock = some g → col' g = some (lv, ix, j + 1)) :
    TreeJ (setBlock w r (.map (es.push ⟨keyZ lv ix, .slice (some ⟨go, 0, none⟩) h h, clk⟩) (clk + 1))) tb r h n c val (fun a b => ex a b ∨ (a = lv ∧ b = ix)) col' (up2 G lv ix go) (up2 V lv ix U) (es.push ⟨keyZ lv ix, .slice (some ⟨go, 0, none⟩) h h, clk⟩) (clk + 1) := by
  have some_ne : ∀ {g : Nat} {x : Nat × Nat × Nat}, col g = some x → col g ≠ none := fun h e => by rw [h] at e; cases e
  have hold : ∀ g, g ≠ r → (setBlock w r (.map (es.push ⟨keyZ lv ix, .slice (some ⟨go, 0, none⟩) h h, clk⟩) (clk + 1))).heap[g]? = w.heap[g]? := fun g hg => heap_setBlock_other t.mp _ hg
  have hne_r : ∀ {g : Nat} {a b k : Nat}, col g = some (a, b, k) → k ≤ 900 → g ≠ r := fun h hk e => by
    rw [e, t.cr] at h
    injection h with h
    injection h with h1 h2
    injection h2 with h2 h3
    omega
  have hne_r' : ∀ {g : Nat} {a b k : Nat}, col' g = some (a, b, k) → k ≤ 900 → g ≠ r := fun h hk e => by
    rw [e, hc r (some_ne t.cr), t.cr] at h
    injection h with h
    injection h with h1 h2
    injection h2 with h2 h3
    omega
  have htr : tb ≠ r := fun e => by
    have h1 := t.ct
    rw [e, t.cr] at h1
    injection h1 with h1
    injection h1 with h1 h2
    injection h2 with h2 h3
    omega
  have hs : (setBlock w r (.map (es.push ⟨keyZ lv ix, .slice (some ⟨go, 0, none⟩) h h, clk⟩) (clk + 1))).heap.size = w.heap.size := by simp [setBlock]
  refine ⟨(hold tb htr).trans t.box, heap_setBlock_same t.mp _, (hc tb (some_ne t.ct)).trans t.ct, (hc r (some_ne t.cr)).trans t.cr, fun e he => ?_, fun a b hab => ?_, ?_, fun a b hab => ?_, fun a b j hab hj => ?_, fun g hg => by rw [hs]; exact hlo g hg, t.mono, t.hh, fun e he => ?_, ?_⟩
  · rw [Array.toList_push, List.mem_append, List.mem_singleton] at he
    rcases he with he | rfl
    · obtain ⟨a, b, q1, q2, q3⟩ := t.ent e he
      refine ⟨a, b, .inl q1, q2, ?_⟩
      rw [up2_ne (fun e => hn (by rw [← e.1, ← e.2]; exact q1))]
      exact q3
    · exact ⟨lv, ix, .inr ⟨rfl, rfl⟩, rfl, by rw [up2_at]⟩
  · rw [Array.toList_push]
    rcases hab with hab | ⟨rfl, rfl⟩
    · obtain ⟨e, q1, q2⟩ := t.has a b hab
      exact ⟨e, List.mem_append.2 (.inl q1), q2⟩
    · exact ⟨_, List.mem_append.2 (.inr (List.mem_singleton.2 rfl)), rfl⟩
  · rw [Array.toList_push, List.pairwise_append]
    refine ⟨t.one, by simp, fun x hx y hy => ?_⟩
    rw [List.mem_singleton.1 hy]
    obtain ⟨a, b, q1, q2, _⟩ := t.ent x hx
    rw [q2]
    intro e
    have := keyZ_inj e
    exact hn (by rw [show lv = a by omega, show ix = b by omega]; exact q1)
  · by_cases e : a = lv ∧ b = ix
    · obtain ⟨rfl, rfl⟩ := e
      rw [up2_at, up2_at]
      exact ⟨(hold _ (hne_r' hcg (by omega))).trans hgo, hcg⟩
    · rw [up2_ne e, up2_ne e]
      rcases hab with hab | hab
      · obtain ⟨q1, q2⟩ := t.out a b hab
        exact ⟨(hold _ (hne_r q2 (by omega))).trans q1, (hc _ (some_ne q2)).trans q2⟩
      · exact absurd hab e
  · by_cases e : a = lv ∧ b = ix
    · obtain ⟨rfl, rfl⟩ := e
      rw [up2_at]
      obtain ⟨q1, q2⟩ := hU j hj
      exact ⟨q1.keep fun g hg => hold g (hne_r' (q2 g hg) (by have := t.hh; omega)), q2⟩
    · rw [up2_ne e]
      rcases hab with hab | hab
      · obtain ⟨q1, q2⟩ := t.inn a b j hab hj
        exact ⟨q1.keep fun g hg => hold g (hne_r (q2 g hg) (by have := t.hh; omega)), fun g hg => (hc g (some_ne (q2 g hg))).trans (q2 g hg)⟩
      · exact absurd hab e
  · rw [Array.toList_push, List.mem_append, List.mem_singleton] at he
    rcases he with he | rfl
    · exact Nat.lt_succ_of_lt (t.yng e he)
    · exact Nat.lt_succ_self clk
  · rw [Array.toList_push, List.map_append, List.nodup_append]
    refine ⟨t.nod, by simp, fun a ha b hb => ?_⟩
    obtain ⟨e, he, rfl⟩ := List.mem_map.1 ha
    have : b = clk := by simpa using hb
    rw [this]
    exact Nat.ne_of_lt (t.yng e he)
end Go.Proofs.YtblacbfkaamdgaaDoor
/- A tree's clone: walked. -/
namespace Go.Proofs.YtblacbfkaamdgaaDoor
open Go.RowKit Go.Scr Go.ChangeMaps Go.MapKept
set_option linter.unusedVariables false
theorem setB_same {w : World} {r : Nat} {o : Obj} (h : w.heap[r]? = some o) (o' : Obj) : (setBlock w r o').heap[r]? = some o' := by
  have hl := blk_lt h
  simp [setBlock, hl]
theorem setB_other (w : World) {r q : Nat} (o' : Obj) (h : q ≠ r) : (setBlock w r o').heap[q]? = w.heap[q]? := by
  simp [setBlock, Array.getElem?_setIfInBounds_ne (Ne.symm h)]
def exS (es : Array MapEntry) (seen : Array Nat) (lv ix : Nat) : Prop := ∃ e ∈ es.toList, e.key = keyZ lv ix ∧ seen.contains e.born = true
def ClI (w0 wr : World) (it nb r r2 h n clk : Nat) (es : Array MapEntry) (seen : Array Nat) (c : Nat → Nat) (val : Nat → Nat → ByteArray) : Prop :=
  Below w0.heap.size w0 wr ∧ (∃ c0, wr.heap[it]? = some (.mapIter (some r) clk seen c0) ∧ clk ≤ c0) ∧ w0.heap.size ≤ it ∧
  ∃ ex2 col2 G2 V2 es2 clk2, TreeJ wr nb r2 h n c val ex2 col2 G2 V2 es2 clk2 ∧ (∀ lv ix, ex2 lv ix ↔ exS es seen lv ix) ∧ (∀ g, col2 g ≠ none → w0.heap.size ≤ g) ∧ col2 it = none
theorem treeJ_none {w : World} {tb r h n : Nat} {c : Nat → Nat} {val : Nat → Nat → ByteArray} (hm : ∀ l j, c (l + j) * 2 ^ j ≤ c l) (hh : 1 ≤ h ∧ h ≤ 8) (hb : w.heap[tb]? = some (.cells #[.int .i64 (h : Int), .int .i64 (n : Int), .map (some r)] 87 (0, 0))) (hr : w.heap[r]? = some (.map #[] 0)) :
    ∃ col : Nat → Option (Nat × Nat × Nat), TreeJ w tb r h n c val (fun _ _ => False) col (fun _ _ => 0) (fun _ _ _ => .slice none 0 0) #[] 0 ∧ ∀ g, col g ≠ none → g = tb ∨ g = r := by
  have hne : r ≠ tb := fun e => by rw [e, hb] at hr; cases hr
  refine ⟨fun g => if g = tb then some (0, 0, 1000) else if g = r then some (0, 0, 1001) else none, ⟨hb, hr, if_pos rfl, by rw [if_neg hne, if_pos rfl], fun e he => by simp at he, fun _ _ h => h.elim, by simp, fun _ _ h => h.elim, fun _ _ _ h => h.elim, fun g hg => ?_, hm, hh, (fun e he => by simp at he), by simp⟩, fun g hg => ?_⟩
  · by_cases e : g = tb
    · rw [e]; exact blk_lt hb
    · by_cases e2 : g = r
      · rw [e2]; exact blk_lt hr
      · simp [e, e2] at hg
  · by_cases e : g = tb
    · exact .inl e
    · by_cases e2 : g = r
      · exact .inr e2
      · simp [e, e2] at hg
/-- a tile's rows, cloned below i -/
structure OwI (wB wr : World) (go h i : Nat) (c : Nat → Nat) (val : Nat → Nat → ByteArray) (lv ix : Nat) (U : Nat → Value) : Prop where
  b : Below wB.heap.size wB wr
  g : go = wB.heap.size
  row : wr.heap[go]? = some (.cells ((List.range h).map (fun j => if j < i then U j else .slice none 0 0)).toArray 33 (0, 0))
  inn : ∀ j, j < i → Held wr 9 1 (U j) (cntT c h lv ix j) ((rowT c val h lv ix j).map Value.string) ∧ ∀ q, (U j).ownBlock = some q → wB.heap.size < q
  one : ∀ j k, j < i → k < i → j ≠ k → ∀ q, (U j).ownBlock = some q → (U k).ownBlock ≠ some q
theorem OwI.push {wB wr w2 : World} {go h i : Nat} {c : Nat → Nat} {val : Nat → Nat → ByteArray} {lv ix : Nat} {U : Nat → Value} (H : OwI wB wr go h i c val lv ix U) (hi : i < h) {v : Value} (hb : Below wr.heap.size wr w2)
    (hv : Held w2 9 1 v (cntT c h lv ix i) ((rowT c val h lv ix i).map Value.string)) (hn : ∀ q, v.ownBlock = some q → wr.heap.size ≤ q) :
    OwI wB (w2.setCell ⟨go, i, none⟩ v) go h (i + 1) c val lv ix (fun j => if j < i then U j else v) := by
  have hgo := blk_lt H.row
  have hs := H.b.size
  have hs2 := hb.size
  have hgw : ∀ q, q ≠ go → (w2.setCell ⟨go, i, none⟩ v).heap[q]? = w2.heap[q]? := fun q hq => Below.heap_setCell w2 ⟨go, i, none⟩ v q hq
  refine ⟨?_, H.g, ?_, fun j hj => ?_, fun j k hj hk hjk q hq => ?_⟩
  · have h1 := H.b.trans (hb.mono hs)
    refine ⟨h1.os, h1.tape, h1.output, by simpa [World.setCell] using h1.size, fun q hq => ?_⟩
    rw [hgw q (by have := H.g; omega)]
    exact h1.block q hq
  · have h1 := blk_set ((hb.block go hgo).trans H.row) i v
    rw [h1]
    congr 2
    apply Array.ext'
    rw [Array.toList_setIfInBounds]
    apply List.ext_getElem?
    intro k
    rw [List.getElem?_set]
    by_cases e : i = k
    · subst e
      simp [hi]
    · rw [if_neg e]
      simp only [List.getElem?_map]
      by_cases hk : k < h
      · rw [List.getElem?_range hk]
        simp only [Option.map_some, Option.some.injEq]
        by_cases hk2 : k < i
        · rw [if_pos hk2, if_pos (by omega), if_pos hk2]
        · rw [if_neg hk2, if_neg (by omega)]
      · rw [List.getElem?_eq_none (by simp; omega)]
        rfl
  · by_cases e : j < i
    · rw [if_pos e]
      obtain ⟨q1, q2⟩ := H.inn j e
      exact ⟨(q1.below hb).keep fun q hq => hgw q (by have := q2 q hq; have := H.g; omega), q2⟩
    · rw [if_neg e]
      obtain rfl : j = i := by omega
      exact ⟨hv.keep fun q hq => hgw q (by have := hn q hq; omega), fun q hq => by have := hn q hq; have := H.g; omega⟩
  · by_cases ej : j < i
    · rw [if_pos ej] at hq
      by_cases ek : k < i
      · rw [if_pos ek]; exact H.one j k ej ek hjk q hq
      · rw [if_neg ek]
        intro h2
        have := hn q h2
        have := (H.inn j ej).1.lt hq
        omega
    · rw [if_neg ej] at hq
      have h1 := hn q hq
      by_cases ek : k < i
      · rw [if_pos ek]
        intro h2
        have := (H.inn k ek).1.lt h2
        omega
      · omega
theorem find_own {U : Nat → Value} {h g k : Nat} (e : (List.range h).find? (fun j => (U j).ownBlock == some g) = some k) : k < h ∧ (U k).ownBlock = some g := by
  have h1 := List.find?_some e
  exact ⟨List.mem_range.1 (List.mem_of_find?_eq_some e), beq_iff_eq.1 h1⟩
/-- the colours behind a tile -/
def colF (col : Nat → Option (Nat × Nat × Nat)) (go lv ix h : Nat) (U : Nat → Value) : Nat → Option (Nat × Nat × Nat) := fun g =>
  if g = go then some (lv, ix, 0) else match (List.range h).find? (fun j => (U j).ownBlock == some g) with
    | some j => some (lv, ix, j + 1)
    | none => col g
theorem OwI.fill {wB wr : World} {nb r2 h n go lv ix : Nat} {c : Nat → Nat} {val : Nat → Nat → ByteArray} {ex : Nat → Nat → Prop} {col : Nat → Option (Nat × Nat × Nat)} {G : Nat → Nat → Nat} {V : Nat → Nat → Nat → Value} {es : Array MapEntry} {clk : Nat} {U : Nat → Value}
    (t : TreeJ wB nb r2 h n c val ex col G V es clk) (H : OwI wB wr go h h c val lv ix U) (hn : ¬ ex lv ix) :
    TreeJ (setBlock wr r2 (.map (es.push ⟨keyZ lv ix, .slice (some ⟨go, 0, none⟩) h h, clk⟩) (clk + 1))) nb r2 h n c val (fun a b => ex a b ∨ (a = lv ∧ b = ix)) (colF col go lv ix h U) (up2 G lv ix go) (up2 V lv ix U) (es.push ⟨keyZ lv ix, .slice (some ⟨go, 0, none⟩) h h, clk⟩) (clk + 1) := by
  have hs := H.b.size
  have hgo := blk_lt H.row
  have hfind : ∀ j, j < h → ∀ g, (U j).ownBlock = some g → (List.range h).find? (fun j => (U j).ownBlock == some g) = some j := fun j hj g hg => by
    cases e : (List.range h).find? (fun j => (U j).ownBlock == some g) with
    | none =>
      have := List.find?_eq_none.1 e j (List.mem_range.2 hj)
      simp [hg] at this
    | some k =>
      have h1 := List.find?_some e
      have h2 := List.mem_range.1 (List.mem_of_find?_eq_some e)
      by_cases hjk : j = k
      · rw [hjk]
      · exact absurd (beq_iff_eq.1 h1) (H.one j k hj h2 hjk g hg)
  refine (t.below H.b).fill hn ?_ (fun g hg => ?_) (if_pos rfl) (fun g hg => ?_) (fun j hj => ⟨(H.inn j hj).1, fun g hg => ?_⟩)
  · rw [H.row]
    congr 2
    apply Array.ext'
    apply List.map_congr_left
    intro j hj
    rw [if_pos (List.mem_range.1 hj)]
  · have h1 := t.lo g hg
    unfold colF
    rw [if_neg (by have := H.g; omega)]
    cases e : (List.range h).find? (fun j => (U j).ownBlock == some g) with
    | none => rfl
    | some k =>
      have h2 := List.mem_range.1 (List.mem_of_find?_eq_some e)
      have := (H.inn k h2).2 g (find_own e).2
      omega
  · unfold colF at hg
    by_cases e1 : g = go
    · rw [e1]; exact hgo
    · rw [if_neg e1] at hg
      cases e : (List.range h).find? (fun j => (U j).ownBlock == some g) with
      | none =>
        rw [e] at hg
        have := t.lo g hg
        omega
      | some k =>
        have h2 := List.mem_range.1 (List.mem_of_find?_eq_some e)
        exact (H.inn k h2).1.lt (find_own e).2
  · unfold colF
    rw [if_neg (by have := (H.inn j hj).2 g hg; have := H.g; omega), hfind j hj g hg]
theorem colF_lo {wB wr : World} {B go lv ix h : Nat} {c : Nat → Nat} {val : Nat → Nat → ByteArray} {col : Nat → Option (Nat × Nat × Nat)} {U : Nat → Value} (H : OwI wB wr go h h c val lv ix U) (hB : B ≤ wB.heap.size) (hl : ∀ g, col g ≠ none → B ≤ g) : ∀ g, colF col go lv ix h U g ≠ none → B ≤ g := fun g hg => by
  unfold colF at hg
  by_cases e1 : g = go
  · rw [e1, H.g]; exact hB
  · rw [if_neg e1] at hg
    cases e : (List.range h).find? (fun j => (U j).ownBlock == some g) with
    | none => rw [e] at hg; exact hl g hg
    | some k =>
      have h2 := List.mem_range.1 (List.mem_of_find?_eq_some e)
      have := (H.inn k h2).2 g (find_own e).2
      omega
theorem colF_old {wB wr : World} {go lv ix h g : Nat} {c : Nat → Nat} {val : Nat → Nat → ByteArray} {col : Nat → Option (Nat × Nat × Nat)} {U : Nat → Value} (H : OwI wB wr go h h c val lv ix U) (hg : g < wB.heap.size) : colF col go lv ix h U g = col g := by
  unfold colF
  rw [if_neg (by have := H.g; omega)]
  cases e : (List.range h).find? (fun j => (U j).ownBlock == some g) with
  | none => rfl
  | some k =>
    have h2 := List.mem_range.1 (List.mem_of_find?_eq_some e)
    have := (H.inn k h2).2 g (find_own e).2
    omega
end Go.Proofs.YtblacbfkaamdgaaDoor
