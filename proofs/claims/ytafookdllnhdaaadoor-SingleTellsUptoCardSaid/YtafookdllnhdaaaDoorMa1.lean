/- Lists that others may share or that are clipped: what they read as, and where an append lies, exactly; lists of a mark, by colours of blocks. -/
import Derived.Test.YtafookdllnhdaaaDoorMa0
import Derived.Deep.OwnRows
import Derived.OwnWalk
import Derived.Maps.AppendAt
import Derived.OwnWalkIn
namespace Go.Scr
open Go.RowKit
set_option linter.unusedVariables false

/-- v lies at the beginning of a block (or is nil) and reads xs -/
def Held (w : World) (T sz : Nat) (v : Value) (n : Nat) (xs : List Value) : Prop :=
  xs.length = n * sz ∧ ((v = .slice none 0 0 ∧ n = 0) ∨
    ∃ g cap cur, v = .slice (some ⟨g, 0, none⟩) n cap ∧ w.heap[g]? = some (.cells cur T (0, 0)) ∧ n ≤ cap ∧ cap ≤ maxLen ∧ cap * sz ≤ cur.size ∧ cur.toList.take (n * sz) = xs)
theorem held_of_owns {w : World} {B T sz n : Nat} {v : Value} {xs : List Value} (h : w.ownsRow B T sz v n xs) : Held w T sz v n xs := by
  refine ⟨h.1, ?_⟩
  rcases h.2 with h0 | ⟨g, cap, cur, rfl, _, hg, h1, h2, h3, h4⟩
  · exact .inl h0
  · exact .inr ⟨g, cap, cur, rfl, hg, h1, h2, Nat.le_of_eq h3.symm, h4⟩
theorem Held.keep {w w' : World} {T sz n : Nat} {v : Value} {xs : List Value} (h : Held w T sz v n xs) (hk : ∀ g, v.ownBlock = some g → w'.heap[g]? = w.heap[g]?) : Held w' T sz v n xs := by
  refine ⟨h.1, ?_⟩
  rcases h.2 with h0 | ⟨g, cap, cur, rfl, hg, hr⟩
  · exact .inl h0
  · exact .inr ⟨g, cap, cur, rfl, (hk g rfl).trans hg, hr⟩
theorem Held.below {w w' : World} {T sz n : Nat} {v : Value} {xs : List Value} (h : Held w T sz v n xs) (hb : Below w.heap.size w w') : Held w' T sz v n xs := by
  refine h.keep fun g hg => hb.block g ?_
  rcases h.2 with ⟨rfl, _⟩ | ⟨g', cap, cur, rfl, hg', _⟩
  · cases hg
  · cases hg; exact blk_lt hg'
theorem Held.lt {w : World} {T sz n : Nat} {v : Value} {xs : List Value} (h : Held w T sz v n xs) {g : Nat} (hg : v.ownBlock = some g) : g < w.heap.size := by
  rcases h.2 with ⟨rfl, _⟩ | ⟨g', cap, cur, rfl, hg', _⟩
  · cases hg
  · cases hg; exact blk_lt hg'
theorem Held.cells {w : World} {T sz n : Nat} {v : Value} {xs : List Value} (h : Held w T sz v n xs) : ∃ p c, v = .slice p n c ∧ n ≤ c ∧ c ≤ maxLen ∧ ∀ j u, xs[j]? = some u → ∃ a, p = some a ∧ a.spot = none ∧ w.cell? (a.add j) = some u := by
  rcases h.2 with ⟨rfl, rfl⟩ | ⟨g, cap, cur, rfl, hg, h1, h2, h3, h4⟩
  · have : xs = [] := List.eq_nil_of_length_eq_zero (by have := h.1; simpa using this)
    subst this
    exact ⟨none, 0, rfl, Nat.le_refl _, Nat.zero_le _, fun j u hj => by simp at hj⟩
  · refine ⟨_, cap, rfl, h1, h2, fun j u hj => ⟨_, rfl, rfl, ?_⟩⟩
    have hadd : (⟨g, 0, none⟩ : Addr).add j = ⟨g, j, none⟩ := by unfold Addr.add; split <;> simp_all
    rw [hadd, cell_of_row w g j _ _ _ hg, ← Array.getElem?_toList]
    rw [← h4, List.getElem?_take] at hj
    split at hj
    · exact hj
    · cases hj

/-- what an append of m elements (cells: news) to v has left: either it lies where v lies, or in a new block -/
structure Grew (T sz : Nat) (w : World) (v : Value) (n m : Nat) (xs news : List Value) (v' : Value) (w' : World) : Prop where
  os : w'.os = w.os
  tape : w'.tape = w.tape
  output : w'.output = w.output
  size : w.heap.size ≤ w'.heap.size
  what : (∃ g cap cur cur2, v = .slice (some ⟨g, 0, none⟩) n cap ∧ v' = .slice (some ⟨g, 0, none⟩) (n + m) cap ∧ n + m ≤ cap ∧ cap * sz ≤ cur.size ∧ w.heap[g]? = some (.cells cur T (0, 0)) ∧ w'.heap[g]? = some (.cells cur2 T (0, 0)) ∧
      cur2.size = cur.size ∧ (∀ j, cur2[j]? = if n * sz ≤ j ∧ j < n * sz + news.length then news[j - n * sz]? else cur[j]?) ∧ w'.heap.size = w.heap.size ∧ ∀ i, i ≠ g → w'.heap[i]? = w.heap[i]?) ∨
    (∃ c, v' = .slice (some ⟨w.heap.size, 0, none⟩) (n + m) c ∧ w'.heap.size = w.heap.size + 1 ∧ ∀ i, i < w.heap.size → w'.heap[i]? = w.heap[i]?)
  held : Held w' T sz v' (n + m) (xs ++ news)
theorem Grew.grown {T sz : Nat} {w w' : World} {v v' : Value} {n m : Nat} {xs news : List Value} (h : Grew T sz w v n m xs news v' w') : w.grownBy w' v.ownBlock := by
  refine ⟨h.os, h.tape, h.output, h.size, fun i hi hne => ?_⟩
  rcases h.what with ⟨g, cap, cur, cur2, rfl, _, _, _, _, _, _, _, _, hk⟩ | ⟨c, _, _, hk⟩
  · exact hk i (fun e => hne (by rw [e]; rfl))
  · exact hk i hi
theorem Grew.at {T sz : Nat} {w w' : World} {v v' : Value} {n m : Nat} {xs news : List Value} (h : Grew T sz w v n m xs news v' w') : (v'.ownBlock = v.ownBlock ∧ w'.heap.size = w.heap.size) ∨ (v'.ownBlock = some w.heap.size ∧ w'.heap.size = w.heap.size + 1) := by
  rcases h.what with ⟨g, cap, cur, cur2, rfl, rfl, _, _, _, _, _, _, hs, hk⟩ | ⟨c, rfl, hs, hk⟩
  · exact .inl ⟨rfl, hs⟩
  · exact .inr ⟨rfl, hs⟩

theorem run_append_grew {P : Program} (w : World) (t ty e : TypeId) (i : TypeInfo) (z : Value) (size bytes : Nat) (ht : P.underlying t = some (.slice e)) (hi : P.info? e = some i) (hz : i.zero = some z)
    (hsize : i.size = size) (hby : i.bytes = bytes) (hzs : z.cells.size = size) (hsz : 0 < size)
    (v : Value) (n : Nat) (xs : List Value) (hown : Held w e size v n xs)
    (a : Addr) (m c : Nat) (news : List Value) (hm : 0 < m) (hl : news.length = m * size) (hnews : ∀ j u, news[j]? = some u → w.cell? (a.add j) = some u) (h1 : ∀ u ∈ news, u.oneCell' = true)
    (h63 : n + m ≤ maxLen) (hbytes : (n + m) * bytes ≤ 140737488355328) :
    ∃ v' w', (Builtin.append_ #[t, t] ty #[v, .slice (some a) m c]).run P w = .ok v' w' ∧ Grew e size w v n m xs news v' w' := by
  subst hsize
  subst hby
  have hsmall : n + m ≤ 9223372036854775807 := by simp only [maxLen] at h63; omega
  have hlen : (xs ++ news).length = (n + m) * i.size := by rw [List.length_append, hown.1, hl, Nat.add_mul]
  have grown : ∀ (old : Nat), old < n + m →
      Grew e i.size w v n m xs news (.slice (some ⟨w.heap.size, 0, none⟩) (n + m) (grownCap w (n + m) old e))
        (w.drew.alloc (.cells (xs.toArray ++ news.toArray ++ Builtin.zeroCells z.cells (grownCap w (n + m) old e - (n + m))) e)) := by
    intro old ho
    have hge := grownCap_ge w (n + m) old e
    have hcm : grownCap w (n + m) old e ≤ maxLen := grownCap_le_maxLen w (n + m) old e h63
    refine ⟨rfl, rfl, rfl, by simp, .inr ⟨_, rfl, by simp, fun k hk => heap_alloc_old w.drew _ hk⟩, hlen, .inr ⟨w.heap.size, _, _, rfl, heap_alloc_new w.drew _, hge, hcm, ?_, ?_⟩⟩
    · simp only [Array.size_append, List.size_toArray, size_zeroCells, hzs, hown.1, hl, ← Nat.add_mul]
      refine Nat.mul_le_mul_right _ ?_
      omega
    · simp only [Array.toList_append, List.append_assoc]
      rw [← List.append_assoc, ← hlen]
      exact List.take_left
  rcases hown.2 with ⟨rfl, rfl⟩ | ⟨g, cap, cur, rfl, hg, hnc, hcm, hcs, htake⟩
  · have hx : xs = [] := List.eq_nil_of_length_eq_zero (by simpa using hown.1)
    subst hx
    have hr := run_append_nil (P := P) w t ty e i z ht hi hz a m c news hl hnews (by omega) (by omega) (by have hb := hbytes; simp only [Nat.zero_add] at hb; omega)
    have hgr := grown 0 (by omega)
    simp only [Nat.zero_add, Array.empty_append] at hgr ⊢
    exact ⟨_, _, hr, hgr⟩
  · by_cases hroom : n + m ≤ cap
    · have hfit : n * i.size + news.length ≤ cur.size := by
        rw [hl, ← Nat.add_mul]; exact Nat.le_trans (Nat.mul_le_mul_right _ hroom) hcs
      have hr := run_append_room (P := P) w t ty e i ht hi g n cap cur hg a m c news hl hnews h1 hroom hfit
      have hrow := setRow_heap w g cur (cur.toList.take (n * i.size) ++ news ++ cur.toList.drop (n * i.size + news.length)).toArray e _ hg
      have hsize : (cur.toList.take (n * i.size) ++ news ++ cur.toList.drop (n * i.size + news.length)).toArray.size = cur.size := by
        simp only [List.size_toArray, List.length_append, List.length_take, List.length_drop, Array.length_toList]
        omega
      refine ⟨_, _, hr, rfl, rfl, rfl, by simp, .inl ⟨g, cap, cur, _, rfl, rfl, hroom, hcs, hg, hrow, hsize, ?_, by simp, fun k hk => setRow_other w g k _ (fun e => hk (by simp [e]))⟩, hlen, .inr ⟨g, cap, _, rfl, hrow, hroom, hcm, by rw [hsize]; exact hcs, ?_⟩⟩
      · intro j
        have htl : (cur.toList.take (n * i.size)).length = n * i.size := by rw [List.length_take, Array.length_toList]; omega
        simp only [List.getElem?_toArray]
        by_cases hj : j < n * i.size
        · rw [if_neg (by omega), List.append_assoc, List.getElem?_append_left (by omega), List.getElem?_take, if_pos hj, Array.getElem?_toList]
        · by_cases hj2 : j < n * i.size + news.length
          · rw [if_pos ⟨by omega, hj2⟩, List.append_assoc, List.getElem?_append_right (by omega), htl, List.getElem?_append_left (by omega)]
          · rw [if_neg (by omega), List.getElem?_append_right (by rw [List.length_append]; omega), List.getElem?_drop, Array.getElem?_toList, List.length_append, htl]
            congr 1
            omega
      · rw [htake, ← hlen]
        exact List.take_left
    · have holds : ∀ j u, xs[j]? = some u → w.cell? ((⟨g, 0, none⟩ : Addr).add j) = some u := by
        intro j u hj
        have hadd : (⟨g, 0, none⟩ : Addr).add j = ⟨g, j, none⟩ := by unfold Addr.add; split <;> simp_all
        rw [hadd, cell_of_row w g j _ _ _ hg, ← Array.getElem?_toList]
        rw [← htake, List.getElem?_take] at hj
        split at hj
        · exact hj
        · cases hj
      have hr := run_append_grow (P := P) w t ty e i z ht hi hz ⟨g, 0, none⟩ n cap xs hown.1 holds a m c news hl hnews (by omega) (by omega) (growslice_fits (by omega) hbytes)
      exact ⟨_, _, hr, grown cap (by omega)⟩

/-- one append of what has just been laid, as an arm of a walk -/
theorem wpList_grew {P : Program} {ops : Array Oper} {rest : List Oper} {o : Oper} {a : Act} {Q : Exit → Act → World → Prop} {W : World} {cs : Array Value} {T S : TypeId} (hgd : o.guard = none) (s x : Operand)
    (ho : o.op = .call { callee := .builtin .append, args := #[s, x], argTypes := #[S, S] }) (hu : P.underlying S = some (.slice T)) (z : Value) (sz : Nat) {byt : Nat} (hi : (P.info? T).map (fun i => (i.zero, i.size, i.bytes)) = some (some z, sz, byt))
    (hzs : z.cells.size = sz) (hsz : 0 < sz) {v : Value} {n0 : Nat} {l : List Value} (xs : List Value) (m : Nat) (hs : a.eval s = v) (hx : a.eval x = .slice (some ⟨W.heap.size, 0, none⟩) m m) (hown : Held W T sz v n0 l) (hcs : cs = xs.toArray) (hm : xs.length = m * sz) (hm0 : 0 < m)
    (hone : ∀ u ∈ xs, u.oneCell' = true) (hl : (n0 + m) * byt ≤ 140737488355328) (hl2 : n0 + m ≤ 140737488355328)
    (h : ∀ v' w', Grew T sz (W.alloc (.cells cs T)) v n0 m l xs v' w' → wpList P ops Q rest (a.put o.dst v') w') :
    wpList P ops Q (o :: rest) a (W.alloc (.cells cs T)) := by
  subst hcs
  obtain ⟨i, hi0, hz, hsi, hbi⟩ := info_parts hi
  obtain ⟨v', w', hrun, hg⟩ := run_append_grew (P := P) (W.alloc (.cells xs.toArray T)) S o.type T i z sz byt hu hi0 hz hsi hbi hzs hsz v n0 l (hown.below ((Below.refl _ _).alloc (Nat.le_refl _) _)) ⟨W.heap.size, 0, none⟩ m m xs hm0 hm
    (fun j u hj => by
      have hadd : (⟨W.heap.size, 0, none⟩ : Addr).add j = ⟨W.heap.size, j, none⟩ := by unfold Addr.add; split <;> simp_all
      rw [hadd, World.cell?_alloc_at _ _ _ _ rfl]; simpa using hj) hone (by simp only [maxLen]; omega) hl
  refine wpList_plain hgd fun _ hK => ?_
  unfold Oper.wp execOp
  simp only [ho, resolve, invoke, builtin, Sem.run_bind, Sem.run_pure, Result.andThen_ok, List.map_toArray, List.map_cons, List.map_nil, hs, hx, hrun]
  exact hK _ _ (h v' w' hg)
/-- the same as a step of a region that draws its order -/
theorem step_grew {P : Program} {ops : Array Oper} {o : Oper} {a : Act} {w : World} {K : Act → World → Prop} {Q : Exit → Act → World → Prop} {E : Prop} {T S : TypeId}
    (hg : o.guard = none) (s x : Operand) (hop : o.op = Op.call { callee := Callee.builtin Builtin.append, args := #[s, x], argTypes := #[S, S] })
    (hu : P.underlying S = some (.slice T)) (z : Value) (sz : Nat) {byt : Nat} (hi : (P.info? T).map (fun i => (i.zero, i.size, i.bytes)) = some (some z, sz, byt)) (hzs : z.cells.size = sz) (hsz : 0 < sz)
    {v : Value} {n0 c : Nat} {l : List Value} (xs : List Value) (m : Nat) (ad : Addr) (hs : a.eval s = v) (hx : a.eval x = .slice (some ad) m c)
    (hown : Held w T sz v n0 l) (hm : xs.length = m * sz) (hm0 : 0 < m) (hc : ∀ j u, xs[j]? = some u → w.cell? (ad.add j) = some u) (hone : ∀ u ∈ xs, u.oneCell' = true) (hl : (n0 + m) * byt ≤ 140737488355328) (hl2 : n0 + m ≤ 140737488355328)
    (hK : ∀ v' w', Grew T sz w v n0 m l xs v' w' → K (a.put o.dst v') w') :
    if Region.wanted o (yielded ops a.tmps) = true then Oper.wp P o a w K Q else E := by
  have hw : Region.wanted o (yielded ops a.tmps) = true := by simp [Region.wanted, hg]
  rw [if_pos hw]
  obtain ⟨i, hi0, hz, hsi, hbi⟩ := info_parts hi
  obtain ⟨v', w', hrun, r1⟩ := run_append_grew (P := P) w S o.type T i z sz byt hu hi0 hz hsi hbi hzs hsz v n0 l hown ad m c xs hm0 hm hc hone (by simp only [maxLen]; omega) hl
  unfold Oper.wp
  simp [execOp, hop, resolve, invoke, builtin, hs, hx, hrun, Result.andThen]
  exact hK v' w' r1

/-- v is nil, or all of its n elements are the mark M -/
def Full (w : World) (T sz : Nat) (M : List Value) (v : Value) : Prop :=
  v = .slice none 0 0 ∨ ∃ g n cap cur, v = .slice (some ⟨g, 0, none⟩) n cap ∧ w.heap[g]? = some (.cells cur T (0, 0)) ∧ n ≤ cap ∧ cap ≤ maxLen ∧ cap * sz ≤ cur.size ∧ ∀ j, j < n * sz → cur[j]? = M[j % sz]?
theorem Full.keep {w w' : World} {T sz : Nat} {v : Value} {M : List Value} (h : Full w T sz M v) (hk : ∀ g, v.ownBlock = some g → w'.heap[g]? = w.heap[g]?) : Full w' T sz M v := by
  rcases h with h0 | ⟨g, n, cap, cur, rfl, hg, hr⟩
  · exact .inl h0
  · exact .inr ⟨g, n, cap, cur, rfl, (hk g rfl).trans hg, hr⟩
theorem Full.lt {w : World} {T sz : Nat} {v : Value} {M : List Value} (h : Full w T sz M v) {g : Nat} (hg : v.ownBlock = some g) : g < w.heap.size := by
  rcases h with rfl | ⟨g', n, cap, cur, rfl, hg', _⟩
  · cases hg
  · cases hg; exact blk_lt hg'
/-- n marks -/
def marks (M : List Value) (n : Nat) : List Value := (List.replicate n M).flatten
theorem marks_length (M : List Value) (n : Nat) : (marks M n).length = n * M.length := by simp [marks]
theorem marks_snoc (M : List Value) (n : Nat) : marks M n ++ M = marks M (n + 1) := by
  unfold marks
  rw [List.replicate_succ']
  simp
theorem marks_get (M : List Value) (n j : Nat) (hj : j < n * M.length) : (marks M n)[j]? = M[j % M.length]? := by
  induction n with
  | zero => omega
  | succ n ih =>
    rw [← marks_snoc]
    by_cases h : j < n * M.length
    · rw [List.getElem?_append_left (by rw [marks_length]; exact h)]
      exact ih h
    · have hp : (n + 1) * M.length = n * M.length + M.length := by rw [Nat.add_mul, Nat.one_mul]
      rw [List.getElem?_append_right (by rw [marks_length]; omega), marks_length]
      congr 1
      have : j = (j - n * M.length) + M.length * n := by have hc := Nat.mul_comm n M.length; omega
      rw [this, Nat.add_mul_mod_self_left, Nat.mul_comm M.length n, Nat.add_sub_cancel, Nat.mod_eq_of_lt (by omega)]
theorem full_held {w : World} {T : Nat} {v : Value} {M : List Value} (h : Full w T M.length M v) : ∃ n, Held w T M.length v n (marks M n) := by
  rcases h with rfl | ⟨g, n, cap, cur, rfl, hg, h1, h2, h3, h4⟩
  · exact ⟨0, by simp [marks], .inl ⟨rfl, rfl⟩⟩
  · have hle : n * M.length ≤ cur.size := Nat.le_trans (Nat.mul_le_mul_right _ h1) h3
    refine ⟨n, marks_length M n, .inr ⟨g, cap, cur, rfl, hg, h1, h2, h3, ?_⟩⟩
    apply List.ext_getElem?
    intro j
    rw [List.getElem?_take]
    by_cases hj : j < n * M.length
    · rw [if_pos hj, marks_get M n j hj, ← h4 j hj, Array.getElem?_toList]
    · rw [if_neg hj, List.getElem?_eq_none (by rw [marks_length]; omega)]
theorem held_full {w : World} {T n : Nat} {v : Value} {M : List Value} (h : Held w T M.length v n (marks M n)) : Full w T M.length M v := by
  rcases h.2 with ⟨rfl, _⟩ | ⟨g, cap, cur, rfl, hg, h1, h2, h3, h4⟩
  · exact .inl rfl
  · refine .inr ⟨g, n, cap, cur, rfl, hg, h1, h2, h3, fun j hj => ?_⟩
    rw [← marks_get M n j hj, ← h4, List.getElem?_take, if_pos hj, Array.getElem?_toList]
/-- a list of the mark is grown by the mark: every list of the mark stays one -/
theorem Full.grew {T : Nat} {w w' : World} {v v' u : Value} {n : Nat} {xs M : List Value} (hM : 0 < M.length) (hg : Grew T M.length w v n 1 xs M v' w') (h : Full w T M.length M u) : Full w' T M.length M u := by
  rcases hg.what with ⟨g, cap, cur, cur2, rfl, rfl, h1, h2, h3, h4, h5, h6, _, hk⟩ | ⟨c, rfl, _, hk⟩
  · rcases h with rfl | ⟨g', n', cap', cur', rfl, k1, k2, k3, k4, k5⟩
    · exact .inl rfl
    · by_cases hgg : g' = g
      · subst hgg
        rw [h3] at k1
        cases k1
        refine .inr ⟨g', n', cap', cur2, rfl, h4, k2, k3, by rw [h5]; exact k4, fun j hj => ?_⟩
        rw [h6 j]
        split
        · rename_i hj2
          congr 1
          have : j = (j - n * M.length) + M.length * n := by have hc := Nat.mul_comm n M.length; omega
          rw [this, Nat.add_mul_mod_self_left, Nat.mul_comm M.length n, Nat.add_sub_cancel, Nat.mod_eq_of_lt (by omega)]
        · exact k5 j hj
      · exact .inr ⟨g', n', cap', cur', rfl, (hk g' hgg).trans k1, k2, k3, k4, k5⟩
  · exact h.keep fun g' hg' => hk g' (h.lt hg')
theorem Full.new {T : Nat} {w w' : World} {v v' : Value} {n : Nat} {M : List Value} (hg : Grew T M.length w v n 1 (marks M n) M v' w') : Full w' T M.length M v' := by
  have h := hg.held
  rw [marks_snoc] at h
  exact held_full h

/-- lists of marks, each in blocks of its colour -/
def Cols (w : World) (col : Nat → Nat) (T K : Nat) (mk : Nat → List Value) (l : List (Value × Nat)) : Prop :=
  ∀ p ∈ l, Full w T (mk p.2).length (mk p.2) p.1 ∧ ∀ g, p.1.ownBlock = some g → col g = K + p.2
/-- the colours of a world's blocks after one more was made -/
def dye (col : Nat → Nat) (g c : Nat) : Nat → Nat := fun i => if i = g then c else col i
theorem dye_old {col : Nat → Nat} {g c i : Nat} (h : i < g) : dye col g c i = col i := if_neg (by omega)
theorem dye_at (col : Nat → Nat) (g c : Nat) : dye col g c g = c := if_pos rfl
theorem Cols.dyed {w : World} {col : Nat → Nat} {T K : Nat} {mk : Nat → List Value} {l : List (Value × Nat)} (h : Cols w col T K mk l) {g : Nat} (hg : w.heap.size ≤ g) (c : Nat) : Cols w (dye col g c) T K mk l :=
  fun p hp => ⟨(h p hp).1, fun i hi => (dye_old (Nat.lt_of_lt_of_le ((h p hp).1.lt hi) hg)).trans ((h p hp).2 i hi)⟩
theorem Cols.keep {w w' : World} {col : Nat → Nat} {T K : Nat} {mk : Nat → List Value} {l : List (Value × Nat)} (h : Cols w col T K mk l) (hk : ∀ g, g < w.heap.size → K ≤ col g → w'.heap[g]? = w.heap[g]?) : Cols w' col T K mk l :=
  fun p hp => ⟨(h p hp).1.keep fun g hg => hk g ((h p hp).1.lt hg) (by have := (h p hp).2 g hg; omega), (h p hp).2⟩
theorem Cols.below {w w' : World} {col : Nat → Nat} {T K : Nat} {mk : Nat → List Value} {l : List (Value × Nat)} (h : Cols w col T K mk l) (hb : Below w.heap.size w w') : Cols w' col T K mk l :=
  h.keep fun g hg _ => hb.block g hg
/-- one of them is grown by its mark -/
theorem Cols.grew {w w' : World} {col : Nat → Nat} {T K : Nat} {mk : Nat → List Value} {l : List (Value × Nat)} {v v' : Value} {n c : Nat} (hmk : 0 < (mk c).length) (h : Cols w col T K mk l) (hc : ∀ g, v.ownBlock = some g → col g = K + c)
    (hg : Grew T (mk c).length w v n 1 (marks (mk c) n) (mk c) v' w') : Cols w' (dye col w.heap.size (K + c)) T K mk (l ++ [(v', c)]) := by
  intro p hp
  rcases List.mem_append.mp hp with hp | hp
  · obtain ⟨h1, h2⟩ := h p hp
    refine ⟨?_, fun i hi => (dye_old (h1.lt hi)).trans (h2 i hi)⟩
    by_cases hpc : p.2 = c
    · rw [hpc] at h1 ⊢
      exact Full.grew hmk hg h1
    · refine h1.keep fun i hi => hg.grown.block i (h1.lt hi) ?_
      intro e
      have := hc i e.symm
      have := h2 i hi
      omega
  · obtain rfl : p = (v', c) := by simpa using hp
    refine ⟨Full.new hg, fun i hi => ?_⟩
    show dye col w.heap.size (K + c) i = K + c
    rcases hg.what with ⟨g, cap, cur, cur2, rfl, rfl, _, _, h3, _⟩ | ⟨c', rfl, _, _⟩
    · cases hi
      rw [dye_old (blk_lt h3)]
      exact hc g rfl
    · cases hi
      exact dye_at _ _ _
end Go.Scr
/- One append of what has just been laid, as an arm of a walk inside a fence. -/
namespace Go.Scr
open Go.RowKit
set_option linter.unusedVariables false

theorem wpListIn_grew {F : Fence} {n' : Nat} {P : Program} {ops : Array Oper} {rest : List Oper} {o : Oper} {a : Act} {Q : Exit → Act → World → Prop} {W : World} {cs : Array Value} {T S : TypeId} (hgd : o.guard = none) (s x : Operand)
    (ho : o.op = Op.call { callee := Callee.builtin Builtin.append, args := #[s, x], argTypes := #[S, S] }) (hu : P.underlying S = some (.slice T)) (z : Value) (sz : Nat) {byt : Nat} (hi : (P.info? T).map (fun i => (i.zero, i.size, i.bytes)) = some (some z, sz, byt))
    (hzs : z.cells.size = sz) (hsz : 0 < sz) {v : Value} {n0 : Nat} {l : List Value} (xs : List Value) (m : Nat) (hs : a.eval s = v) (hx : a.eval x = .slice (some ⟨W.heap.size, 0, none⟩) m m) (hown : Held W T sz v n0 l) (hcs : cs = xs.toArray) (hm : xs.length = m * sz) (hm0 : 0 < m)
    (hone : ∀ u ∈ xs, u.oneCell' = true) (hl : (n0 + m) * byt ≤ 140737488355328) (hl2 : n0 + m ≤ 140737488355328)
    (h : ∀ v' w', Grew T sz (W.alloc (.cells cs T)) v n0 m l xs v' w' → wpListIn F n' P ops Q rest (a.put o.dst v') w') :
    wpListIn F n' P ops Q (o :: rest) a (W.alloc (.cells cs T)) := by
  subst hcs
  obtain ⟨i, hi0, hz, hsi, hbi⟩ := info_parts hi
  obtain ⟨v', w', hrun, hg⟩ := run_append_grew (P := P) (W.alloc (.cells xs.toArray T)) S o.type T i z sz byt hu hi0 hz hsi hbi hzs hsz v n0 l (hown.below ((Below.refl _ _).alloc (Nat.le_refl _) _)) ⟨W.heap.size, 0, none⟩ m m xs hm0 hm
    (fun j u hj => by
      have hadd : (⟨W.heap.size, 0, none⟩ : Addr).add j = ⟨W.heap.size, j, none⟩ := by unfold Addr.add; split <;> simp_all
      rw [hadd, World.cell?_alloc_at _ _ _ _ rfl]; simpa using hj) hone (by simp only [maxLen]; omega) hl
  refine wpListIn_plain hgd fun K hK => ?_
  unfold Oper.wpIn
  refine ⟨?_, ?_⟩
  · simp [Oper.about, ho, resolve, Target.leads, Sem.run_pure]
  · rw [Oper.semAt_plain F _ _ (by rw [ho]; intro c hc; cases hc)]
    simp [execOp, ho, resolve, invoke, builtin, hs, hx, hrun, Result.andThen]
    exact hK _ _ (h v' w' hg)
end Go.Scr
