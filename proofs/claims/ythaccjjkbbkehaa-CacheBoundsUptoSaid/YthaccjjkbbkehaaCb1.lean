/- CacheNests: one ask, in memory. -/
import Derived.Test.YthaccjjkbbkehaaCag
namespace Go.Proofs.Ythaccjjkbbkehaa
open Go.RowKit Go.Scr Go.Maps
set_option linter.unusedVariables false

theorem ask_hit {k : ByteArray} {L : List Ent} {e : Ent} (nk : (L.map Ent.key).Nodup) (he : e ∈ L) (hk : e.key = k) : ∃ X Y, L = X ++ e :: Y ∧ but k L = X ++ Y := by
  obtain ⟨X, Y, rfl, hX, hY⟩ := split_at he hk nk
  exact ⟨X, Y, rfl, but_split hk hX hY⟩
theorem fair_pinw {V : ByteArray → ByteArray} {L : List Ent} (h : Fair V L) : pinw L = 0 := by
  induction L with
  | nil => rfl
  | cons e L ih =>
    rw [pinw_cons, ih (fun x hx => h x (List.mem_cons_of_mem _ hx)), if_neg (by have := (h e (List.mem_cons_self ..)).1; omega)]
theorem lput_len (n lb : Nat) (k v : ByteArray) (L : List Ent) (h : ∀ e ∈ L, e.key ≠ k) : (lput n lb k v L).length ≤ L.length + 1 := by
  rw [lput_out h, List.length_cons]
  have := (rest_sub n (k.size + v.size) k L).length_le
  omega
theorem lput_wts {V : ByteArray → ByteArray} {n lb : Nat} {k v : ByteArray} {L : List Ent} (hf : Fair V L) (h : ∀ e ∈ L, e.key ≠ k) (hx : k.size + v.size ≤ n) : wts (lput n lb k v L) ≤ n := by
  rw [lput_out h, wts_cons]
  have h1 : pinw (but k L) + (k.size + v.size) ≤ n := by
    rw [but_none h, fair_pinw hf]; omega
  have h2 := rest_fits h1
  rw [but_none fun e he => h e ((rest_sub _ _ _ _).subset he)] at h2
  show k.size + v.size + _ ≤ n
  omega
/-- what stands between the rounds -/
structure NJ (V : ByteArray → ByteArray) (w0 w : World) (a b na nb i : Nat) (col : Nat → Nat) (A B : List Ent) (fa ma oa fb mb ob : Nat) : Prop where
  st : ST w0 w col
  ca : Cash w col 1 a na fa ma oa A
  cb : Cash w col 2 b nb fb mb ob B
  va : Fair V A
  vb : Fair V B
  pr : A.map Ent.kv <+: B.map Ent.kv
  la : A.length ≤ i
  lb : B.length ≤ i
  ff : fa ≤ fb ∧ fb ≤ i ∧ ma ≤ i ∧ mb ≤ i ∧ oa ≤ 1000 * i ∧ ob ≤ 1000 * i
  wt : wts A ≤ na ∧ wts B ≤ nb
def NJ' (V : ByteArray → ByteArray) (w0 w : World) (a b na nb i : Nat) : Prop := ∃ col A B fa ma oa fb mb ob, NJ V w0 w a b na nb i col A B fa ma oa fb mb ob
theorem NJ.below {V : ByteArray → ByteArray} {w0 w w' : World} {a b na nb i : Nat} {col : Nat → Nat} {A B : List Ent} {fa ma oa fb mb ob : Nat} (h : NJ V w0 w a b na nb i col A B fa ma oa fb mb ob) (hb : Below w.heap.size w w') : NJ V w0 w' a b na nb i col A B fa ma oa fb mb ob :=
  ⟨h.st.below hb, h.ca.below hb, h.cb.below hb, h.va, h.vb, h.pr, h.la, h.lb, h.ff, h.wt⟩
theorem NJ'.below {V : ByteArray → ByteArray} {w0 w w' : World} {a b na nb i : Nat} (h : NJ' V w0 w a b na nb i) (hb : Below w.heap.size w w') : NJ' V w0 w' a b na nb i := by
  obtain ⟨col, A, B, fa, ma, oa, fb, mb, ob, h⟩ := h
  exact ⟨col, A, B, fa, ma, oa, fb, mb, ob, h.below hb⟩
/-- the next round's -/
theorem NJ.next {V : ByteArray → ByteArray} {w0 w w' : World} {a b na nb i : Nat} {col col' : Nat → Nat} {A B A' B' : List Ent} {fa ma oa fb mb ob fa' ma' oa' fb' mb' ob' la lb : Nat} {k v : ByteArray} (h : NJ V w0 w a b na nb i col A B fa ma oa fb mb ob) (hn : na ≤ nb) (hv : v = V k) (hx : k.size + v.size ≤ na)
    (hst : ST w0 w' col') (hca : Cash w' col' 1 a na fa' ma' oa' A') (hcb : Cash w' col' 2 b nb fb' mb' ob' B') (ha : ask na k v la A A') (hb : ask nb k v lb B B') (hla : A'.length ≤ i + 1) (hlb : B'.length ≤ i + 1)
    (hff : fa' ≤ fb' ∧ fb' ≤ i + 1 ∧ ma' ≤ i + 1 ∧ mb' ≤ i + 1 ∧ oa' ≤ 1000 * (i + 1) ∧ ob' ≤ 1000 * (i + 1)) (hwt : wts A' ≤ na ∧ wts B' ≤ nb) : NJ' V w0 w' a b na nb (i + 1) :=
  ⟨col', A', B', fa', ma', oa', fb', mb', ob', hst, hca, hcb, ask_fair ha h.va hv, ask_fair hb h.vb hv, ask_pre hn h.va h.vb hv hx ha hb h.pr, hla, hlb, hff, hwt⟩
theorem keys_pre {A B : List Ent} (h : A.map Ent.kv <+: B.map Ent.kv) {j : Nat} {s : Value} (hs : (ksV A)[j]? = some s) : (ksV B)[j]? = some s := by
  obtain ⟨t, ht⟩ := h
  have e : ∀ L : List Ent, ksV L = ((L.map Ent.kv).map fun p => Value.string p.1) := fun L => by
    unfold ksV; rw [List.map_map, List.map_map]; rfl
  rw [e] at hs ⊢
  rw [← ht, List.map_append]
  rw [List.getElem?_append_left (List.getElem?_eq_some_iff.mp hs).1]
  exact hs
end Go.Proofs.Ythaccjjkbbkehaa
