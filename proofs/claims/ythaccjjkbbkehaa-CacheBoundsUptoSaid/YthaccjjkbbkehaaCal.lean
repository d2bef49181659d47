/- CacheBounds: the plain law; what stands between the rounds. -/
import Derived.Test.YthaccjjkbbkehaaCak
import Derived.Test.YthaccjjkbbkehaaRcd1
namespace Go.Proofs.Ythaccjjkbbkehaa
open Go.RowKit Go.Scr Go.Maps
set_option linter.unusedVariables false

structure BInv (n : Nat) (L : List Ent) (K V : List ByteArray) (P : List Nat) : Prop where
  nk : K.Nodup
  lv : V.length = K.length
  lp : P.length = K.length
  en : ∀ e ∈ L, ∃ j : Nat, K[j]? = some e.key ∧ V[j]? = some e.val ∧ P[j]? = some e.pins
  pi : ∀ (j : Nat) k p, K[j]? = some k → P[j]? = some p → 0 < p → ∃ e ∈ L, e.key = k
  wt : wts L ≤ n
theorem nodup_at {α : Type} {K : List α} (h : K.Nodup) {i j : Nat} {k : α} (hi : K[i]? = some k) (hj : K[j]? = some k) : i = j := by
  have h1 := (List.getElem?_eq_some_iff.mp hi).1
  exact (List.getElem?_inj h1 h).mp (hi.trans hj.symm)
theorem BInv.at {n : Nat} {L : List Ent} {K V : List ByteArray} {P : List Nat} (h : BInv n L K V P) {e : Ent} {j : Nat} {k : ByteArray} (he : e ∈ L) (hk : e.key = k) (hj : K[j]? = some k) : V[j]? = some e.val ∧ P[j]? = some e.pins := by
  obtain ⟨i, h1, h2, h3⟩ := h.en e he
  rw [hk] at h1
  rw [nodup_at h.nk hj h1]
  exact ⟨h2, h3⟩
theorem BInv.none {n : Nat} {L : List Ent} {K V : List ByteArray} {P : List Nat} (h : BInv n L K V P) {j : Nat} {k : ByteArray} (hn : ∀ e ∈ L, e.key ≠ k) (hj : K[j]? = some k) : P[j]? = some 0 := by
  have hl : j < P.length := by rw [h.lp]; exact (List.getElem?_eq_some_iff.mp hj).1
  cases hp : P[j] with
  | zero => rw [List.getElem?_eq_getElem hl, hp]
  | succ q =>
    obtain ⟨e, he, hk⟩ := h.pi j k _ hj (List.getElem?_eq_getElem hl) (by omega)
    exact absurd hk (hn e he)
theorem BInv.snoc {n : Nat} {L : List Ent} {K V : List ByteArray} {P : List Nat} (h : BInv n L K V P) {k : ByteArray} (hk : ∀ j : Nat, K[j]? ≠ some k) (v : ByteArray) : BInv n L (K ++ [k]) (V ++ [v]) (P ++ [0]) := by
  have hlt : ∀ {j : Nat} {x}, K[j]? = some x → j < K.length := fun hj => (List.getElem?_eq_some_iff.mp hj).1
  refine ⟨?_, by simp [h.lv], by simp [h.lp], fun e he => ?_, fun j x p hj hp h0 => ?_, h.wt⟩
  · rw [List.nodup_append]
    refine ⟨h.nk, by simp, fun a ha b hb => ?_⟩
    simp only [List.mem_singleton] at hb
    subst hb
    rintro rfl
    obtain ⟨j, hj⟩ := List.mem_iff_getElem?.mp ha
    exact hk j hj
  · obtain ⟨j, h1, h2, h3⟩ := h.en e he
    have := hlt h1
    exact ⟨j, by rw [List.getElem?_append_left this]; exact h1, by rw [List.getElem?_append_left (by rw [h.lv]; exact this)]; exact h2, by rw [List.getElem?_append_left (by rw [h.lp]; exact this)]; exact h3⟩
  · by_cases hl : j < K.length
    · rw [List.getElem?_append_left hl] at hj
      rw [List.getElem?_append_left (by rw [h.lp]; exact hl)] at hp
      exact h.pi j x p hj hp h0
    · rw [List.getElem?_append_right (by rw [h.lp]; omega)] at hp
      have : p = 0 := by
        cases hq : j - P.length with
        | zero => rw [hq] at hp; simpa using hp.symm
        | succ q => rw [hq] at hp; simp at hp
      omega
theorem BInv.same {n : Nat} {L L' : List Ent} {K V : List ByteArray} {P : List Nat} (h : BInv n L K V P) (hm : ∀ x, x ∈ L' ↔ x ∈ L) (hw : wts L' = wts L) : BInv n L' K V P :=
  ⟨h.nk, h.lv, h.lp, fun e he => h.en e ((hm e).mp he), fun j k p hj hp h0 => by
    obtain ⟨e, he, hk⟩ := h.pi j k p hj hp h0
    exact ⟨e, (hm e).mpr he, hk⟩, by rw [hw]; exact h.wt⟩
theorem BInv.put {n lb : Nat} {L : List Ent} {K V : List ByteArray} {P : List Nat} (h : BInv n L K V P) (hd : (L.map Ent.key).Nodup) {k v : ByteArray} {j : Nat} (hj : K[j]? = some k) (hfit : pinw (but k L) + (k.size + v.size) ≤ n) :
    BInv n (lput n lb k v L) K (V.set j v) P := by
  have hsub := rest_sub n (k.size + v.size) k L
  have hjv : j < V.length := by rw [h.lv]; exact (List.getElem?_eq_some_iff.mp hj).1
  have hp : P[j]? = some (pinsOf k L) := by
    by_cases he : ∃ e ∈ L, e.key = k
    · obtain ⟨e, he, hek⟩ := he
      rw [pinsOf_in hd he hek]
      exact (h.at he hek hj).2
    · have hn : ∀ e ∈ L, e.key ≠ k := fun e he' hk => he ⟨e, he', hk⟩
      rw [pinsOf_none hn]
      exact h.none hn hj
  refine ⟨h.nk, by simp [h.lv], h.lp, fun e he => ?_, fun i x p hi hpi h0 => ?_, ?_⟩
  · unfold lput at he
    rcases List.mem_cons.mp he with rfl | he
    · exact ⟨j, hj, by rw [List.getElem?_set_self hjv], hp⟩
    · obtain ⟨he, hne⟩ := but_mem.mp he
      obtain ⟨i, h1, h2, h3⟩ := h.en e (hsub.subset he)
      have hij : j ≠ i := by
        rintro rfl
        rw [h1] at hj
        exact hne (Option.some.inj hj)
      exact ⟨i, h1, by rw [List.getElem?_set_ne hij]; exact h2, h3⟩
  · unfold lput
    by_cases hx : x = k
    · exact ⟨_, List.mem_cons_self .., hx.symm⟩
    · obtain ⟨e, he, hek⟩ := h.pi i x p hi hpi h0
      have := (h.at he hek hi).2
      rw [hpi] at this
      have hpe : 0 < e.pins := by have := Option.some.inj this; omega
      exact ⟨e, List.mem_cons_of_mem _ (but_mem.mpr ⟨rest_mem (.inl hpe) he, by rw [hek]; exact hx⟩), hek⟩
  · unfold lput
    rw [wts_cons]
    have := rest_fits hfit
    show k.size + v.size + _ ≤ n
    omega
theorem BInv.pin {n : Nat} {X Y : List Ent} {e : Ent} {K V : List ByteArray} {P : List Nat} (h : BInv n (X ++ e :: Y) K V P) (hd : ((X ++ e :: Y).map Ent.key).Nodup) {j : Nat} (hj : K[j]? = some e.key) (p : Nat) :
    BInv n (X ++ e.at p :: Y) K V (P.set j p) := by
  have hjp : j < P.length := by rw [h.lp]; exact (List.getElem?_eq_some_iff.mp hj).1
  have hke : ∀ x ∈ X ++ Y, x.key ≠ e.key := fun x hx hk => by
    rw [List.map_append, List.map_cons, List.nodup_append, List.nodup_cons] at hd
    rcases List.mem_append.mp hx with hx | hx
    · exact hd.2.2 _ (List.mem_map_of_mem hx) _ (List.mem_cons_self ..) hk
    · exact hd.2.1.1 (by rw [← hk]; exact List.mem_map_of_mem hx)
  refine ⟨h.nk, h.lv, by simp [h.lp], fun x hx => ?_, fun i k q hi hq h0 => ?_, by rw [wts_pin]; exact h.wt⟩
  · rcases pin_mem hx with rfl | hx
    · exact ⟨j, hj, (h.at (by simp) rfl hj).1, by rw [List.getElem?_set_self hjp]; rfl⟩
    · obtain ⟨i, h1, h2, h3⟩ := h.en x (mid_has.mp (List.mem_cons_of_mem _ hx))
      have hij : j ≠ i := by
        rintro rfl
        rw [h1] at hj
        exact hke x hx (Option.some.inj hj)
      exact ⟨i, h1, h2, by rw [List.getElem?_set_ne hij]; exact h3⟩
  · by_cases hij : j = i
    · subst hij
      rw [hj] at hi
      exact ⟨e.at p, by simp, Option.some.inj hi⟩
    · rw [List.getElem?_set_ne hij] at hq
      obtain ⟨x, hx, hxk⟩ := h.pi i k q hi hq h0
      rcases List.mem_cons.mp (mid_has.mpr hx) with rfl | hx
      · exact ⟨x.at p, by simp, hxk⟩
      · have : x ∈ X ++ e.at p :: Y := by
          rcases List.mem_append.mp hx with hx | hx
          · exact List.mem_append_left _ hx
          · exact List.mem_append_right _ (List.mem_cons_of_mem _ hx)
        exact ⟨x, this, hxk⟩
theorem lput_len' (n lb : Nat) (k v : ByteArray) (L : List Ent) : (lput n lb k v L).length ≤ L.length + 1 := by
  unfold lput
  rw [List.length_cons]
  have h1 := (rest_sub n (k.size + v.size) k L).length_le
  have h2 := (but_sub k (rest n (k.size + v.size) k L)).length_le
  omega
/-! ### lists that a call owns, each with a colour -/
structure OwnC (w : World) (col : Nat → Nat) (c : Nat) (T : TypeId) (v : Value) (xs : List Value) : Prop where
  h : Held w T 1 v xs.length xs
  c : ∀ g, v.ownBlock = some g → col g = c
theorem OwnC.turn {w w' : World} {col col' : Nat → Nat} {c d : Nat} {T : TypeId} {v : Value} {xs : List Value} (h : OwnC w col c T v xs) (hne : c ≠ d) (ht : Turn col col' d w w') : OwnC w' col' c T v xs :=
  ⟨h.h.keep (fun g hg => ht.o.block g (h.h.lt hg) (by rw [h.c g hg]; exact hne)), fun g hg => (ht.a g (h.h.lt hg)).trans (h.c g hg)⟩
theorem OwnC.below {w w' : World} {col : Nat → Nat} {c : Nat} {T : TypeId} {v : Value} {xs : List Value} (h : OwnC w col c T v xs) (hb : Below w.heap.size w w') : OwnC w' col c T v xs :=
  ⟨h.h.below hb, h.c⟩
theorem turn_grew {T : TypeId} {w w' : World} {o : Obj} {v v' : Value} {n m : Nat} {xs news : List Value} (hg : Grew T 1 (w.alloc o) v n m xs news v' w') {col : Nat → Nat} {c : Nat} (hlo : ∀ g, col g ≠ 0 → g < w.heap.size) (hc : ∀ g, v.ownBlock = some g → col g = c) :
    ∃ col', Turn col col' c w w' ∧ ∀ g, v'.ownBlock = some g → col' g = c := by
  have hgr := grown_alloc hg.grown
  have ho : Only col (fun k => k = c) w w' := only_of_grown hgr hc
  rcases hg.at with ⟨h1, h2⟩ | ⟨h1, h2⟩
  · exact ⟨col, turn_only ho, fun g hgv => hc g (by rw [← h1]; exact hgv)⟩
  · have hs : (w.alloc o).heap.size = w.heap.size + 1 := by simp
    rw [hs] at h1 h2
    refine ⟨dye col (w.heap.size + 1) c, ⟨ho, fun g hg => dye_old (by omega), fun g hg => ?_⟩, fun g hgv => ?_⟩
    · unfold dye at hg ⊢
      by_cases he : g = w.heap.size + 1
      · rw [if_pos he]
        exact ⟨by omega, by omega, rfl⟩
      · rw [if_neg he] at hg
        exact absurd rfl hg
    · rw [h1] at hgv
      cases hgv
      exact dye_at _ _ _
theorem turn_set {w : World} {col : Nat → Nat} {g c : Nat} (hc : col g = c) (k : Nat) (u : Value) : Turn col col c w (w.setCell ⟨g, k, none⟩ u) := turn_only (only_setCell' (p := ⟨g, k, none⟩) hc u)
/-- what stands between the rounds -/
structure BI (w0 w : World) (cb n i f : Nat) (col : Nat → Nat) (L : List Ent) (fo mi ou : Nat) (K V : List ByteArray) (P : List Nat) (vk vv vp : Value) : Prop where
  st : ST w0 w col
  ca : Cash w col 1 cb n fo mi ou L
  ok : OwnC w col 2 9 vk (K.map Value.string)
  ov : OwnC w col 3 9 vv (V.map Value.string)
  op : OwnC w col 4 3 vp (P.map fun p => Value.int .i64 ((p : Nat) : Int))
  iv : BInv n L K V P
  ki : K.length ≤ i
  li : L.length ≤ i
  fm : fo ≤ f ∧ mi ≤ f ∧ ou ≤ 200 * i
  pb : ∀ p ∈ P, p ≤ i
  kb : ∀ k ∈ K, k.size ≤ 1048576
theorem BI.more {w0 w : World} {cb n i j f g : Nat} {col : Nat → Nat} {L : List Ent} {fo mi ou : Nat} {K V : List ByteArray} {P : List Nat} {vk vv vp : Value} (h : BI w0 w cb n i f col L fo mi ou K V P vk vv vp) (hi : i ≤ j) (hf : f ≤ g) : BI w0 w cb n j g col L fo mi ou K V P vk vv vp :=
  ⟨h.st, h.ca, h.ok, h.ov, h.op, h.iv, Nat.le_trans h.ki hi, Nat.le_trans h.li hi, ⟨Nat.le_trans h.fm.1 hf, Nat.le_trans h.fm.2.1 hf, Nat.le_trans h.fm.2.2 (by omega)⟩, fun p hp => Nat.le_trans (h.pb p hp) hi, h.kb⟩
theorem BI.below {w0 w w' : World} {cb n i f : Nat} {col : Nat → Nat} {L : List Ent} {fo mi ou : Nat} {K V : List ByteArray} {P : List Nat} {vk vv vp : Value} (h : BI w0 w cb n i f col L fo mi ou K V P vk vv vp) (hb : Below w.heap.size w w') : BI w0 w' cb n i f col L fo mi ou K V P vk vv vp :=
  ⟨h.st.below hb, h.ca.below hb, h.ok.below hb, h.ov.below hb, h.op.below hb, h.iv, h.ki, h.li, h.fm, h.pb, h.kb⟩
/-- a call of the cache's -/
theorem BI.cash {w0 w w' : World} {cb n i j f g : Nat} {col col' : Nat → Nat} {L L' : List Ent} {fo mi ou fo' mi' ou' : Nat} {K V : List ByteArray} {P : List Nat} {vk vv vp : Value} (h : BI w0 w cb n i f col L fo mi ou K V P vk vv vp)
    (ht : Turn col col' 1 w w') (hc : Cash w' col' 1 cb n fo' mi' ou' L') (hi : i ≤ j) (hl : L'.length ≤ j) (hf : fo' ≤ g ∧ mi' ≤ g ∧ ou' ≤ 200 * j) {V' : List ByteArray} {P' : List Nat} (hiv : BInv n L' K V' P') (hV : V' = V) (hP : P' = P) : BI w0 w' cb n j g col' L' fo' mi' ou' K V P vk vv vp := by
  subst hV hP
  exact ⟨h.st.turn (by decide) ht, hc, h.ok.turn (by decide) ht, h.ov.turn (by decide) ht, h.op.turn (by decide) ht, hiv, Nat.le_trans h.ki hi, hl, hf, fun p hp => Nat.le_trans (h.pb p hp) hi, h.kb⟩
/-- the three lists as they are, the cache moved, the values or the pins not yet -/
structure BM (w0 w : World) (cb n i f : Nat) (col : Nat → Nat) (L : List Ent) (fo mi ou : Nat) (K V : List ByteArray) (P : List Nat) (vk vv vp : Value) (V' : List ByteArray) (P' : List Nat) : Prop where
  st : ST w0 w col
  ca : Cash w col 1 cb n fo mi ou L
  ok : OwnC w col 2 9 vk (K.map Value.string)
  ov : OwnC w col 3 9 vv (V.map Value.string)
  op : OwnC w col 4 3 vp (P.map fun p => Value.int .i64 ((p : Nat) : Int))
  iv : BInv n L K V' P'
  ki : K.length ≤ i
  li : L.length ≤ i
  fm : fo ≤ f ∧ mi ≤ f ∧ ou ≤ 200 * i
  pb : ∀ p ∈ P', p ≤ i
  kb : ∀ k ∈ K, k.size ≤ 1048576
theorem BI.moved {w0 w w' : World} {cb n i j f g : Nat} {col col' : Nat → Nat} {L L' : List Ent} {fo mi ou fo' mi' ou' : Nat} {K V : List ByteArray} {P : List Nat} {vk vv vp : Value} (h : BI w0 w cb n i f col L fo mi ou K V P vk vv vp)
    (ht : Turn col col' 1 w w') (hc : Cash w' col' 1 cb n fo' mi' ou' L') (hi : i ≤ j) (hl : L'.length ≤ j) (hf : fo' ≤ g ∧ mi' ≤ g ∧ ou' ≤ 200 * j) {V' : List ByteArray} {P' : List Nat} (hiv : BInv n L' K V' P') (hp : ∀ p ∈ P', p ≤ j) : BM w0 w' cb n j g col' L' fo' mi' ou' K V P vk vv vp V' P' :=
  ⟨h.st.turn (by decide) ht, hc, h.ok.turn (by decide) ht, h.ov.turn (by decide) ht, h.op.turn (by decide) ht, hiv, Nat.le_trans h.ki hi, hl, hf, hp, h.kb⟩
theorem map_set {α β : Type} (f : α → β) (l : List α) (i : Nat) (x : α) : (l.set i x).map f = (l.map f).set i (f x) := by
  rw [List.map_set]
theorem BM.vals {w0 w : World} {cb n i f : Nat} {col : Nat → Nat} {L : List Ent} {fo mi ou : Nat} {K V : List ByteArray} {P : List Nat} {vk vv vp : Value} {j : Nat} {v : ByteArray} (h : BM w0 w cb n i f col L fo mi ou K V P vk vv vp (V.set j v) P) {g : Nat} (hg : vv.ownBlock = some g) :
    BI w0 (w.setCell ⟨g, j, none⟩ (.string v)) cb n i f col L fo mi ou K (V.set j v) P vk vv vp := by
  have ht := turn_set (w := w) (h.ov.c g hg) j (.string v)
  refine ⟨h.st.turn (by decide) ht, h.ca.other (by decide) ht, h.ok.turn (by decide) ht, ⟨?_, h.ov.c⟩, h.op.turn (by decide) ht, h.iv, h.ki, h.li, h.fm, h.pb, h.kb⟩
  have := h.ov.h.set hg j (.string v)
  rw [List.map_set]
  simpa using this
theorem BM.pinned {w0 w : World} {cb n i f : Nat} {col : Nat → Nat} {L : List Ent} {fo mi ou : Nat} {K V : List ByteArray} {P : List Nat} {vk vv vp : Value} {j p : Nat} (h : BM w0 w cb n i f col L fo mi ou K V P vk vv vp V (P.set j p)) {g : Nat} (hg : vp.ownBlock = some g) (z : Value) (hz : z = .int .i64 (p : Int)) :
    BI w0 (w.setCell ⟨g, j, none⟩ z) cb n i f col L fo mi ou K V (P.set j p) vk vv vp := by
  subst hz
  have ht := turn_set (w := w) (h.op.c g hg) j (.int .i64 (p : Int))
  refine ⟨h.st.turn (by decide) ht, h.ca.other (by decide) ht, h.ok.turn (by decide) ht, h.ov.turn (by decide) ht, ⟨?_, h.op.c⟩, h.iv, h.ki, h.li, h.fm, h.pb, h.kb⟩
  have := h.op.h.set hg j (.int .i64 (p : Int))
  rw [List.map_set]
  simpa using this
end Go.Proofs.Ythaccjjkbbkehaa
