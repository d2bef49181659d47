/- Plain law of CacheNests: what the lesser cache has is the first part of what the greater one has. -/
import Derived.Test.YthaccjjkbbkehaaCa0
namespace Go.Proofs.Ythaccjjkbbkehaa
set_option linter.unusedVariables false

def Ent.kv (e : Ent) : ByteArray × ByteArray := (e.key, e.val)
theorem wts_kv {A B : List Ent} (h : A.map Ent.kv = B.map Ent.kv) : wts A = wts B := by
  have e : ∀ L : List Ent, wts L = ((L.map Ent.kv).map fun p => p.1.size + p.2.size).sum := by
    intro L
    unfold wts
    rw [List.map_map]
    rfl
  rw [e, e, h]
theorem evr_drop {n : Nat} {k : ByteArray} : ∀ (R : List Ent) (b : Nat), (∀ e ∈ R, e.pins = 0 ∧ e.key ≠ k) →
    ∃ j, j ≤ R.length ∧ evr n k b R = R.drop j ∧ (∀ i, i ≤ R.length → b ≤ n + wts (R.take i) → j ≤ i) ∧ (j = R.length ∨ b ≤ n + wts (R.take j))
  | [], b, _ => ⟨0, Nat.le_refl _, rfl, fun i _ _ => Nat.zero_le _, .inl rfl⟩
  | e :: R, b, h => by
    by_cases hb : b ≤ n
    · refine ⟨0, Nat.zero_le _, ?_, fun i _ _ => Nat.zero_le _, .inr (by omega)⟩
      unfold evr
      rw [if_pos hb, List.drop_zero]
    · obtain ⟨j, h1, h2, h3, h4⟩ := evr_drop (n := n) (k := k) R (b - e.wt) fun x hx => h x (List.mem_cons_of_mem _ hx)
      refine ⟨j + 1, by rw [List.length_cons]; omega, ?_, fun i hi hbi => ?_, ?_⟩
      · unfold evr
        rw [if_neg hb, if_pos (h e (List.mem_cons_self ..)), h2, List.drop_succ_cons]
      · match i, hi, hbi with
        | 0, hi, hbi => rw [List.take_zero, wts_nil] at hbi; omega
        | i + 1, hi, hbi =>
          rw [List.take_succ_cons, wts_cons] at hbi
          have := h3 i (by simpa using hi) (by omega)
          omega
      · rcases h4 with h4 | h4
        · exact .inl (by rw [List.length_cons, h4])
        · exact .inr (by rw [List.take_succ_cons, wts_cons]; omega)
theorem rest_take {n x : Nat} {k : ByteArray} {L : List Ent} (h : ∀ e ∈ L, e.pins = 0 ∧ e.key ≠ k) (hx : x ≤ n) :
    ∃ t, t ≤ L.length ∧ rest n x k L = L.take t ∧ wts (L.take t) + x ≤ n ∧ ∀ s, s ≤ L.length → wts (L.take s) + x ≤ n → s ≤ t := by
  have hsum : ∀ s, wts (L.take s) + wts (L.drop s) = wts L := fun s => by rw [← wts_append, List.take_append_drop]
  have hrev : ∀ j, j ≤ L.length → wts (L.reverse.take j) = wts (L.drop (L.length - j)) := fun j hj => by
    rw [List.take_reverse, wts_reverse]
  obtain ⟨j, h1, h2, h3, h4⟩ := evr_drop (n := n) (k := k) L.reverse (wts (but k L) + x) fun e he => h e (List.mem_reverse.mp he)
  rw [List.length_reverse] at h1 h3 h4
  rw [but_none fun e he => (h e he).2] at h2 h3 h4
  refine ⟨L.length - j, by omega, ?_, ?_, fun s hs hsx => ?_⟩
  · unfold rest
    rw [but_none fun e he => (h e he).2, h2, List.drop_reverse, List.reverse_reverse]
  · rcases h4 with rfl | h4
    · rw [Nat.sub_self, List.take_zero, wts_nil]; omega
    · rw [hrev j h1] at h4
      have := hsum (L.length - j)
      omega
  · have hi := h3 (L.length - s) (by omega) (by rw [hrev _ (by omega), show L.length - (L.length - s) = s by omega]; have := hsum s; omega)
    omega
theorem rest_pre {na nb x : Nat} {k : ByteArray} {A B : List Ent} (hn : na ≤ nb) (hA : ∀ e ∈ A, e.pins = 0 ∧ e.key ≠ k) (hB : ∀ e ∈ B, e.pins = 0 ∧ e.key ≠ k) (hx : x ≤ na) (hp : A.map Ent.kv <+: B.map Ent.kv) :
    (rest na x k A).map Ent.kv <+: (rest nb x k B).map Ent.kv := by
  obtain ⟨s, s1, s2, s3, s4⟩ := rest_take hA hx
  obtain ⟨t, t1, t2, t3, t4⟩ := rest_take hB (Nat.le_trans hx hn)
  have hlen : A.length ≤ B.length := by have := hp.length_le; simpa using this
  have he : A.map Ent.kv = (B.map Ent.kv).take A.length := by have := List.prefix_iff_eq_take.mp hp; rwa [List.length_map] at this
  have hs : (A.take s).map Ent.kv = (B.take s).map Ent.kv := by
    rw [List.map_take, he, List.take_take, List.map_take, Nat.min_eq_left s1]
  have hst : s ≤ t := t4 s (by omega) (by rw [← wts_kv hs]; omega)
  rw [s2, t2, hs]
  have : (B.take s).map Ent.kv = ((B.take t).map Ent.kv).take s := by rw [List.map_take, List.map_take, List.take_take, Nat.min_eq_left hst]
  rw [this]
  exact List.take_prefix _ _
theorem rest_pre1 {n x : Nat} {k : ByteArray} {A : List Ent} (hA : ∀ e ∈ A, e.pins = 0 ∧ e.key ≠ k) (hx : x ≤ n) : (rest n x k A).map Ent.kv <+: A.map Ent.kv := by
  obtain ⟨s, s1, s2, _⟩ := rest_take hA hx
  rw [s2, List.map_take]
  exact List.take_prefix _ _
def butkv (k : ByteArray) (l : List (ByteArray × ByteArray)) : List (ByteArray × ByteArray) := l.filter fun p => decide (p.1 ≠ k)
theorem but_kv (k : ByteArray) (L : List Ent) : (but k L).map Ent.kv = butkv k (L.map Ent.kv) := by
  unfold but butkv
  rw [List.filter_map]
  rfl
theorem butkv_pre {k : ByteArray} {a b : List (ByteArray × ByteArray)} (h : a <+: b) : butkv k a <+: butkv k b := by
  obtain ⟨t, rfl⟩ := h
  unfold butkv
  rw [List.filter_append]
  exact List.prefix_append _ _
/-- what a cache of unpinned things is asked and given: its list behind it -/
def ask (n : Nat) (k v : ByteArray) (lb : Nat) (L L' : List Ent) : Prop :=
  (∃ e ∈ L, e.key = k ∧ L' = e :: but k L) ∨ ((∀ e ∈ L, e.key ≠ k) ∧ L' = lput n lb k v L)
/-- all values are those of their keys, nothing is pinned -/
def Fair (V : ByteArray → ByteArray) (L : List Ent) : Prop := ∀ e ∈ L, e.pins = 0 ∧ e.val = V e.key
theorem pinsOf_none {k : ByteArray} {L : List Ent} (h : ∀ e ∈ L, e.key ≠ k) : pinsOf k L = 0 := by
  unfold pinsOf
  rw [List.find?_eq_none.mpr fun e he => by simpa using h e he]
  rfl
theorem lput_out {n lb : Nat} {k v : ByteArray} {L : List Ent} (h : ∀ e ∈ L, e.key ≠ k) : lput n lb k v L = ⟨lb, k, v, 0⟩ :: rest n (k.size + v.size) k L := by
  unfold lput
  rw [pinsOf_none h, but_none fun e he => h e ((rest_sub _ _ _ _).subset he)]
theorem ask_fair {V : ByteArray → ByteArray} {n lb : Nat} {k v : ByteArray} {L L' : List Ent} (h : ask n k v lb L L') (hf : Fair V L) (hv : v = V k) : Fair V L' := by
  rcases h with ⟨e, he, hk, rfl⟩ | ⟨hn, rfl⟩
  · intro x hx
    rcases List.mem_cons.mp hx with rfl | hx
    · exact hf _ he
    · exact hf x (but_mem.mp hx).1
  · rw [lput_out hn]
    intro x hx
    rcases List.mem_cons.mp hx with rfl | hx
    · exact ⟨rfl, hv⟩
    · exact hf x ((rest_sub _ _ _ _).subset hx)
theorem mem_pre {A B : List Ent} (h : A.map Ent.kv <+: B.map Ent.kv) {e : Ent} (he : e ∈ A) : ∃ e' ∈ B, e'.key = e.key ∧ e'.val = e.val := by
  have : Ent.kv e ∈ B.map Ent.kv := h.subset (List.mem_map_of_mem he)
  obtain ⟨e', h1, h2⟩ := List.mem_map.mp this
  unfold Ent.kv at h2
  simp only [Prod.mk.injEq] at h2
  exact ⟨e', h1, h2.1, h2.2⟩
/-- THE LAW -/
theorem ask_pre {V : ByteArray → ByteArray} {na nb la lb : Nat} {k v : ByteArray} {A A' B B' : List Ent} (hn : na ≤ nb) (fa : Fair V A) (fb : Fair V B) (hv : v = V k) (hx : k.size + v.size ≤ na)
    (ha : ask na k v la A A') (hb : ask nb k v lb B B') (hp : A.map Ent.kv <+: B.map Ent.kv) : A'.map Ent.kv <+: B'.map Ent.kv := by
  rcases ha with ⟨e, he, hk, rfl⟩ | ⟨hno, rfl⟩
  · obtain ⟨e', he', hk', hv'⟩ := mem_pre hp he
    rcases hb with ⟨f, hf, hfk, rfl⟩ | ⟨hno, rfl⟩
    · rw [List.map_cons, List.map_cons, but_kv, but_kv, show e.kv = f.kv by unfold Ent.kv; rw [(fa e he).2, (fb f hf).2, hk, hfk]]
      exact (List.cons_prefix_cons.mpr ⟨rfl, butkv_pre hp⟩)
    · exact absurd (hk'.trans hk) (hno e' he')
  · have hA : ∀ e ∈ A, e.pins = 0 ∧ e.key ≠ k := fun e he => ⟨(fa e he).1, hno e he⟩
    rw [lput_out hno, List.map_cons]
    rcases hb with ⟨f, hf, hfk, rfl⟩ | ⟨hno2, rfl⟩
    · rw [List.map_cons, but_kv, show Ent.kv ⟨la, k, v, 0⟩ = f.kv by unfold Ent.kv; rw [(fb f hf).2, hfk, hv]]
      refine List.cons_prefix_cons.mpr ⟨rfl, (rest_pre1 hA hx).trans ?_⟩
      have h1 := butkv_pre (k := k) hp
      rwa [← but_kv, ← but_kv, but_none hno, but_kv] at h1
    · rw [lput_out hno2, List.map_cons]
      exact List.cons_prefix_cons.mpr ⟨rfl, rest_pre hn hA (fun e he => ⟨(fb e he).1, hno2 e he⟩) hx hp⟩
end Go.Proofs.Ythaccjjkbbkehaa
