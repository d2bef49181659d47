/- CacheBounds: the calls, said of what stands between the rounds. -/
import Derived.Test.YthaccjjkbbkehaaCal
import Derived.Test.YthaccjjkbbkehaaCah
namespace Go.Proofs.Ythaccjjkbbkehaa
open Go.RowKit Go.Scr Go.Maps
set_option linter.unusedVariables false

/-- the step at hand, in a box of its own -/
def Opr (w : World) (col : Nat → Nat) (pb : Nat) (R : Array Value) : Prop := w.heap[pb]? = some (.cells R 41 (0, 0)) ∧ col pb = 0 ∧ pb < w.heap.size
theorem Opr.turn {w w' : World} {col col' : Nat → Nat} {d pb : Nat} {R : Array Value} (h : Opr w col pb R) (hd : 0 ≠ d) (ht : Turn col col' d w w') : Opr w' col' pb R :=
  ⟨(ht.o.block pb h.2.2 (by rw [h.2.1]; exact hd)).trans h.1, (ht.a pb h.2.2).trans h.2.1, Nat.lt_of_lt_of_le h.2.2 ht.o.size⟩
theorem Opr.below {w w' : World} {col : Nat → Nat} {pb : Nat} {R : Array Value} (h : Opr w col pb R) (hb : Below w.heap.size w w') : Opr w' col pb R :=
  ⟨(hb.block pb h.2.2).trans h.1, h.2.1, Nat.lt_of_lt_of_le h.2.2 hb.size⟩
def BN (w0 w : World) (cb n i f : Nat) (K V : List ByteArray) (P : List Nat) (vk vv vp : Value) : Prop :=
  ∃ col L fo mi ou, BI w0 w cb n i f col L fo mi ou K V P vk vv vp
def BO (w0 w : World) (cb n i f : Nat) (K V : List ByteArray) (P : List Nat) (vk vv vp : Value) (pb : Nat) (R : Array Value) : Prop :=
  ∃ col L fo mi ou, BI w0 w cb n i f col L fo mi ou K V P vk vv vp ∧ Opr w col pb R
def BP (w0 w : World) (cb n i f : Nat) (K V : List ByteArray) (P : List Nat) (vk vv vp : Value) (pb : Nat) (R : Array Value) (V' : List ByteArray) (P' : List Nat) : Prop :=
  ∃ col L fo mi ou, BM w0 w cb n i f col L fo mi ou K V P vk vv vp V' P' ∧ Opr w col pb R
theorem BN.below {w0 w w' : World} {cb n i f : Nat} {K V : List ByteArray} {P : List Nat} {vk vv vp : Value} (h : BN w0 w cb n i f K V P vk vv vp) (hb : Below w.heap.size w w') : BN w0 w' cb n i f K V P vk vv vp := by
  obtain ⟨col, L, fo, mi, ou, h⟩ := h
  exact ⟨col, L, fo, mi, ou, h.below hb⟩
theorem BO.below {w0 w w' : World} {cb n i f : Nat} {K V : List ByteArray} {P : List Nat} {vk vv vp : Value} {pb : Nat} {R : Array Value} (h : BO w0 w cb n i f K V P vk vv vp pb R) (hb : Below w.heap.size w w') : BO w0 w' cb n i f K V P vk vv vp pb R := by
  obtain ⟨col, L, fo, mi, ou, h, ho⟩ := h
  exact ⟨col, L, fo, mi, ou, h.below hb, ho.below hb⟩
theorem BO.more {w0 w : World} {cb n i f j g : Nat} {K V : List ByteArray} {P : List Nat} {vk vv vp : Value} {pb : Nat} {R : Array Value} (h : BO w0 w cb n i f K V P vk vv vp pb R) (hi : i ≤ j) (hf : f ≤ g) : BO w0 w cb n j g K V P vk vv vp pb R := by
  obtain ⟨col, L, fo, mi, ou, h, ho⟩ := h
  exact ⟨col, L, fo, mi, ou, h.more hi hf, ho⟩
theorem BO.bn {w0 w : World} {cb n i f : Nat} {K V : List ByteArray} {P : List Nat} {vk vv vp : Value} {pb : Nat} {R : Array Value} (h : BO w0 w cb n i f K V P vk vv vp pb R) : BN w0 w cb n i f K V P vk vv vp := by
  obtain ⟨col, L, fo, mi, ou, h, ho⟩ := h
  exact ⟨col, L, fo, mi, ou, h⟩
theorem BN.more {w0 w : World} {cb n i f j g : Nat} {K V : List ByteArray} {P : List Nat} {vk vv vp : Value} (h : BN w0 w cb n i f K V P vk vv vp) (hi : i ≤ j) (hf : f ≤ g) : BN w0 w cb n j g K V P vk vv vp := by
  obtain ⟨col, L, fo, mi, ou, h⟩ := h
  exact ⟨col, L, fo, mi, ou, h.more hi hf⟩
theorem BN.box {w0 w : World} {cb n i f : Nat} {K V : List ByteArray} {P : List Nat} {vk vv vp : Value} (h : BN w0 w cb n i f K V P vk vv vp) (R : Array Value) : BO w0 (w.alloc (.cells R 41)) cb n i f K V P vk vv vp w.heap.size R := by
  obtain ⟨col, L, fo, mi, ou, h⟩ := h
  refine ⟨col, L, fo, mi, ou, h.below ((Below.refl _ _).alloc (Nat.le_refl _) _), heap_alloc_new w _, ?_, by simp⟩
  exact Classical.byContradiction fun hne => by have := h.st.hi w.heap.size hne; omega
/-- Get -/
theorem bn_get {w0 w : World} {cb n i f : Nat} {K V : List ByteArray} {P : List Nat} {vk vv vp : Value} (h : BN w0 w cb n i f K V P vk vv vp) {j : Nat} {k : ByteArray} (hj : K[j]? = some k) (hf : f ≤ 1000000) :
    ∃ (v : ByteArray) (is : Bool), ((is = true ∧ V[j]? = some v) ∨ (is = false ∧ v = ⟨#[]⟩ ∧ P[j]? = some 0)) ∧
      Calls Try.prog 9 #[bp cb, .string k] w fun r w' => r = .returned (.tuple #[.string v, .bool is]) ∧ BN w0 w' cb n i (f + 1) K V P vk vv vp := by
  obtain ⟨col, L, fo, mi, ou, h⟩ := h
  have hk : k.size ≤ 1048576 := h.kb k (List.mem_of_getElem? hj)
  have hfm := h.fm
  by_cases he : ∃ e ∈ L, e.key = k
  · obtain ⟨e, he, hek⟩ := he
    obtain ⟨X, Y, hXY, _, _⟩ := split_at he hek (by obtain ⟨_, _, _, _, _, hK⟩ := h.ca; exact hK.nk)
    subst hXY
    refine ⟨e.val, true, .inl ⟨rfl, (h.iv.at he hek hj).1⟩, (cget_in h.ca hek (by omega)).mono ?_⟩
    rintro r w' ⟨rfl, hc, ho⟩
    exact ⟨rfl, col, _, _, _, _, h.cash (turn_only ho) hc (Nat.le_refl _) (by have := h.li; simp at this ⊢; omega) ⟨by omega, by omega, by omega⟩ (h.iv.same (fun x => mid_has) (mid_wts X Y e)) rfl rfl⟩
  · have hn : ∀ e ∈ L, e.key ≠ k := fun e he' hk => he ⟨e, he', hk⟩
    refine ⟨⟨#[]⟩, false, .inr ⟨rfl, rfl, h.iv.none hn hj⟩, (cget_out h.ca hn (by omega) (by omega)).mono ?_⟩
    rintro r w' ⟨rfl, hc, ho⟩
    exact ⟨rfl, col, _, _, _, _, h.cash (turn_only ho) hc (Nat.le_refl _) h.li ⟨by omega, by omega, by omega⟩ h.iv rfl rfl⟩
theorem bo_get {w0 w : World} {cb n i f : Nat} {K V : List ByteArray} {P : List Nat} {vk vv vp : Value} {pb : Nat} {R : Array Value} (h : BO w0 w cb n i f K V P vk vv vp pb R) {j : Nat} {k : ByteArray} (hj : K[j]? = some k) (hf : f ≤ 1000000) :
    ∃ (v : ByteArray) (is : Bool), ((is = true ∧ V[j]? = some v) ∨ (is = false ∧ v = ⟨#[]⟩ ∧ P[j]? = some 0)) ∧
      Calls Try.prog 9 #[bp cb, .string k] w fun r w' => r = .returned (.tuple #[.string v, .bool is]) ∧ BN w0 w' cb n i (f + 1) K V P vk vv vp := bn_get h.bn hj hf
/-- Tally -/
theorem bo_tally {w0 w : World} {cb n i f : Nat} {K V : List ByteArray} {P : List Nat} {vk vv vp : Value} {pb : Nat} {R : Array Value} (h : BO w0 w cb n i f K V P vk vv vp pb R) :
    ∃ t0 b p t3 t4 t5 : Nat, b ≤ n ∧ p ≤ b ∧ ∀ w', Below w.heap.size w w' → Calls Try.prog 12 #[bp cb] w' fun r w2 => r = .returned (.agg #[.int .i64 (t0 : Int), .int .i64 (b : Int), .int .i64 (p : Int), .int .i64 (t3 : Int), .int .i64 (t4 : Int), .int .i64 (t5 : Int)]) ∧ Below w'.heap.size w' w2 := by
  obtain ⟨col, L, fo, mi, ou, h, _⟩ := h
  exact ⟨_, _, _, _, _, _, h.iv.wt, pinw_le L, fun w' hb => ctally_any (h.ca.below hb)⟩
theorem put_fit {w : World} {col : Nat → Nat} {κ cb n f m o : Nat} {L : List Ent} {k v : ByteArray} (hκ : κ ≠ 0) (hlo : ∀ g, col g ≠ 0 → g < w.heap.size) (h : Cash w col κ cb n f m o L) (hn : n ≤ 16777216)
    (hks : k.size ≤ 1099511627776) (hvs : v.size ≤ 1099511627776) (hLl : L.length ≤ 1099511627776) (ho : o ≤ 1099511627776) (hw : wts L ≤ n) (hfit : pinw (but k L) + (k.size + v.size) ≤ n) :
    Calls Try.prog 10 #[bp cb, .string k, .string v] w fun r w' => r = .returned (.int .i64 0) ∧ PutPost w w' col κ cb n f m o k v L := by
  by_cases he : ∃ e ∈ L, e.key = k
  · obtain ⟨e, he, hek⟩ := he
    by_cases hp : e.pins = 0
    · exact put_old0 hκ hlo h hn he hek hp hks hvs hLl ho hw hfit
    · exact put_old1 hκ hlo h hn he hek (by omega) hks hvs hLl ho hw hfit
  · have hno : ∀ e ∈ L, e.key ≠ k := fun e he' hk => he ⟨e, he', hk⟩
    exact put_new hκ hlo h hn hno hks hvs hLl ho hw (by rw [but_none hno] at hfit; exact hfit)
theorem put_not {w : World} {col : Nat → Nat} {κ cb n f m o : Nat} {L : List Ent} {k v : ByteArray} (hκ : κ ≠ 0) (hlo : ∀ g, col g ≠ 0 → g < w.heap.size) (h : Cash w col κ cb n f m o L) (hn : n ≤ 16777216)
    (hks : k.size ≤ 1099511627776) (hvs : v.size ≤ 1099511627776) (hLl : L.length ≤ 1099511627776) (ho : o ≤ 1099511627776) (hw : wts L ≤ n) (hfit : ¬ pinw (but k L) + (k.size + v.size) ≤ n) :
    Calls Try.prog 10 #[bp cb, .string k, .string v] w fun r w' => r = .returned (.int .i64 151) ∧ Below w.heap.size w w' := by
  by_cases he : ∃ e ∈ L, e.key = k
  · obtain ⟨e, he, hek⟩ := he
    by_cases hp : e.pins = 0
    · exact put_ref0 hκ hlo h hn he hek hp hks hvs hLl ho hw hfit
    · exact put_ref1 hκ hlo h hn he hek (by omega) hks hvs hLl ho hw hfit
  · have hno : ∀ e ∈ L, e.key ≠ k := fun e he' hk => he ⟨e, he', hk⟩
    exact put_refN hκ hlo h hn hno hks hvs hLl ho hw (by rw [but_none hno] at hfit; exact hfit)
theorem bo_put {w0 w : World} {cb n i f : Nat} {K V : List ByteArray} {P : List Nat} {vk vv vp : Value} {pb : Nat} {R : Array Value} (h : BO w0 w cb n i f K V P vk vv vp pb R) {j : Nat} {k v : ByteArray} (hj : K[j]? = some k) (hv : v.size ≤ 1048576) (hi : i ≤ 200) (hn : n ≤ 200) :
    (Calls Try.prog 10 #[bp cb, .string k, .string v] w fun r w' => r = .returned (.int .i64 0) ∧ BP w0 w' cb n (i + 1) f K V P vk vv vp pb R (V.set j v) P) ∨
    (Calls Try.prog 10 #[bp cb, .string k, .string v] w fun r w' => r = .returned (.int .i64 151) ∧ Below w.heap.size w w') := by
  obtain ⟨col, L, fo, mi, ou, h, ho⟩ := h
  have hk : k.size ≤ 1048576 := h.kb k (List.mem_of_getElem? hj)
  have hfm := h.fm
  have hli := h.li
  have hnk : (L.map Ent.key).Nodup := by obtain ⟨_, _, _, _, _, hK⟩ := h.ca; exact hK.nk
  by_cases hfit : pinw (but k L) + (k.size + v.size) ≤ n
  · left
    refine (put_fit (by decide) h.st.hi h.ca (by omega) (by omega) (by omega) (by omega) (by omega) h.iv.wt hfit).mono ?_
    rintro r w' ⟨rfl, lb, col', ht, hc⟩
    exact ⟨rfl, col', _, _, _, _, h.moved ht hc (by omega) (by have := lput_len' n lb k v L; omega) ⟨by omega, by omega, by omega⟩ (h.iv.put hnk hj hfit) (fun p hp => by have := h.pb p hp; omega), ho.turn (by decide) ht⟩
  · right
    exact put_not (by decide) h.st.hi h.ca (by omega) (by omega) (by omega) (by omega) (by omega) h.iv.wt hfit
theorem bo_pin {w0 w : World} {cb n i f : Nat} {K V : List ByteArray} {P : List Nat} {vk vv vp : Value} {pb : Nat} {R : Array Value} (h : BO w0 w cb n i f K V P vk vv vp pb R) {j p : Nat} {k : ByteArray} (hj : K[j]? = some k) (hp : P[j]? = some p) (hi : i ≤ 200) (hn : n ≤ 200) :
    (Calls Try.prog 13 #[bp cb, .string k] w fun r w' => r = .returned (.int .i64 0) ∧ BP w0 w' cb n (i + 1) f K V P vk vv vp pb R V (P.set j (p + 1))) ∨
    (Calls Try.prog 13 #[bp cb, .string k] w fun r w' => r = .returned (.int .i64 152) ∧ w' = w) := by
  obtain ⟨col, L, fo, mi, ou, h, ho⟩ := h
  have hk : k.size ≤ 1048576 := h.kb k (List.mem_of_getElem? hj)
  have hfm := h.fm
  have hli := h.li
  have hpi := h.pb p (List.mem_of_getElem? hp)
  have hnk : (L.map Ent.key).Nodup := by obtain ⟨_, _, _, _, _, hK⟩ := h.ca; exact hK.nk
  by_cases he : ∃ e ∈ L, e.key = k
  · left
    obtain ⟨e, he, hek⟩ := he
    obtain ⟨X, Y, hXY, _, _⟩ := split_at he hek hnk
    subst hXY
    have hep : e.pins = p := by have := (h.iv.at he hek hj).2; rw [hp] at this; exact (Option.some.inj this).symm
    have hset : ∀ q ∈ P.set j (p + 1), q ≤ i + 1 := fun q hq => by
      rcases List.mem_or_eq_of_mem_set hq with hq | rfl
      · have := h.pb q hq; omega
      · omega
    have fin : ∀ q w', q = p + 1 → Cash w' col 1 cb n fo mi ou (X ++ e.at q :: Y) → Only col (fun g => g = 1) w w' → BP w0 w' cb n (i + 1) f K V P vk vv vp pb R V (P.set j (p + 1)) := by
      intro q w' hq hc hO
      subst hq
      exact ⟨col, _, _, _, _, h.moved (turn_only hO) hc (by omega) (by simp at hli ⊢; omega) ⟨by omega, by omega, by omega⟩ (h.iv.pin hnk (by rw [hek]; exact hj) (p + 1)) hset, ho.turn (by decide) (turn_only hO)⟩
    by_cases h0 : e.pins = 0
    · refine (cpin_first h.ca hek h0 (by have := h.iv.wt; omega)).mono ?_
      rintro r w' ⟨rfl, hc, hO⟩
      exact ⟨rfl, fin 1 w' (by omega) hc hO⟩
    · refine (cpin_more h.ca hek (by omega) (by omega)).mono ?_
      rintro r w' ⟨rfl, hc, hO⟩
      exact ⟨rfl, fin _ w' (by omega) hc hO⟩
  · right
    exact cpin_out h.ca (fun e he' hk => he ⟨e, he', hk⟩) (by omega)
theorem bo_unpin {w0 w : World} {cb n i f : Nat} {K V : List ByteArray} {P : List Nat} {vk vv vp : Value} {pb : Nat} {R : Array Value} (h : BO w0 w cb n i f K V P vk vv vp pb R) {j p : Nat} {k : ByteArray} (hj : K[j]? = some k) (hp : P[j]? = some p) (hi : i ≤ 200) (hn : n ≤ 200) :
    (0 < p ∧ Calls Try.prog 14 #[bp cb, .string k] w fun r w' => r = .returned (.int .i64 0) ∧ BP w0 w' cb n (i + 1) f K V P vk vv vp pb R V (P.set j (p - 1))) ∨
    (p = 0 ∧ ∃ c : Int, c ≠ 0 ∧ Calls Try.prog 14 #[bp cb, .string k] w fun r w' => r = .returned (.int .i64 c) ∧ w' = w) := by
  obtain ⟨col, L, fo, mi, ou, h, ho⟩ := h
  have hk : k.size ≤ 1048576 := h.kb k (List.mem_of_getElem? hj)
  have hfm := h.fm
  have hli := h.li
  have hpi := h.pb p (List.mem_of_getElem? hp)
  have hnk : (L.map Ent.key).Nodup := by obtain ⟨_, _, _, _, _, hK⟩ := h.ca; exact hK.nk
  by_cases he : ∃ e ∈ L, e.key = k
  · obtain ⟨e, he, hek⟩ := he
    obtain ⟨X, Y, hXY, _, _⟩ := split_at he hek hnk
    subst hXY
    have hep : e.pins = p := by have := (h.iv.at he hek hj).2; rw [hp] at this; exact (Option.some.inj this).symm
    by_cases h0 : p = 0
    · exact .inr ⟨h0, 153, by decide, cunpin_none h.ca hek (by omega)⟩
    left
    refine ⟨by omega, ?_⟩
    have hset : ∀ q ∈ P.set j (p - 1), q ≤ i + 1 := fun q hq => by
      rcases List.mem_or_eq_of_mem_set hq with hq | rfl
      · have := h.pb q hq; omega
      · omega
    have fin : ∀ q w', q = p - 1 → Cash w' col 1 cb n fo mi ou (X ++ e.at q :: Y) → Only col (fun g => g = 1) w w' → BP w0 w' cb n (i + 1) f K V P vk vv vp pb R V (P.set j (p - 1)) := by
      intro q w' hq hc hO
      subst hq
      exact ⟨col, _, _, _, _, h.moved (turn_only hO) hc (by omega) (by simp at hli ⊢; omega) ⟨by omega, by omega, by omega⟩ (h.iv.pin hnk (by rw [hek]; exact hj) (p - 1)) hset, ho.turn (by decide) (turn_only hO)⟩
    by_cases h1 : e.pins = 1
    · refine (cunpin_last h.ca hek h1 (by have := h.iv.wt; omega)).mono ?_
      rintro r w' ⟨rfl, hc, hO⟩
      exact ⟨rfl, fin 0 w' (by omega) hc hO⟩
    · refine (cunpin_more h.ca hek (by omega) (by omega)).mono ?_
      rintro r w' ⟨rfl, hc, hO⟩
      exact ⟨rfl, fin _ w' (by omega) hc hO⟩
  · have hn : ∀ e ∈ L, e.key ≠ k := fun e he' hk => he ⟨e, he', hk⟩
    have h0 := h.iv.none hn hj
    rw [hp] at h0
    exact .inr ⟨Option.some.inj h0, 152, by decide, cunpin_out h.ca hn (by omega)⟩
theorem OwnC.cell {w : World} {col : Nat → Nat} {c N cc : Nat} {T : TypeId} {p : Option Addr} {xs : List Value} (h : OwnC w col c T (.slice p N cc) xs) {j : Nat} {u : Value} (hx : xs[j]? = some u) :
    ∃ g, p = some ⟨g, 0, none⟩ ∧ w.cell? ⟨g, j, none⟩ = some u ∧ w.frozen? ⟨g, j, none⟩ = false ∧ (Value.slice p N cc).ownBlock = some g := by
  have hj := (List.getElem?_eq_some_iff.mp hx).1
  obtain ⟨g, cap, cur, h1, h2, h3, h4, h5⟩ := h.h.block (by omega)
  cases h1
  refine ⟨g, rfl, ?_, frozen_of_row w g j _ _ h2, rfl⟩
  rw [cell_of_row _ _ _ _ _ _ h2]
  rw [← h5, List.getElem?_take, if_pos (by omega)] at hx
  simpa using hx
theorem OwnC.len {w : World} {col : Nat → Nat} {c N cc : Nat} {T : TypeId} {p : Option Addr} {xs : List Value} (h : OwnC w col c T (.slice p N cc) xs) : N = xs.length ∧ N ≤ cc := by
  obtain ⟨q, cq, e, hc, _⟩ := h.h.cells
  simp only [Value.slice.injEq] at e
  obtain ⟨_, e1, e2⟩ := e
  exact ⟨e1, by omega⟩
theorem BN.cellK {w0 w : World} {cb n i f N ck : Nat} {K V : List ByteArray} {P : List Nat} {pk : Option Addr} {vv vp : Value} (h : BN w0 w cb n i f K V P (.slice pk N ck) vv vp) {j : Nat} {s : ByteArray} (hs : K[j]? = some s) :
    ∃ g, pk = some ⟨g, 0, none⟩ ∧ w.cell? ⟨g, j, none⟩ = some (.string s) := by
  obtain ⟨col, L, fo, mi, ou, h⟩ := h
  obtain ⟨g, h1, h2, _⟩ := h.ok.cell (j := j) (u := .string s) (by rw [List.getElem?_map, hs]; rfl)
  exact ⟨g, h1, h2⟩
theorem BN.cellV {w0 w : World} {cb n i f N cv : Nat} {K V : List ByteArray} {P : List Nat} {pv : Option Addr} {vk vp : Value} (h : BN w0 w cb n i f K V P vk (.slice pv N cv) vp) {j : Nat} {s : ByteArray} (hs : V[j]? = some s) :
    ∃ g, pv = some ⟨g, 0, none⟩ ∧ w.cell? ⟨g, j, none⟩ = some (.string s) := by
  obtain ⟨col, L, fo, mi, ou, h⟩ := h
  obtain ⟨g, h1, h2, _⟩ := h.ov.cell (j := j) (u := .string s) (by rw [List.getElem?_map, hs]; rfl)
  exact ⟨g, h1, h2⟩
theorem BN.cellP {w0 w : World} {cb n i f N cp : Nat} {K V : List ByteArray} {P : List Nat} {pp : Option Addr} {vk vv : Value} (h : BN w0 w cb n i f K V P vk vv (.slice pp N cp)) {j p : Nat} (hs : P[j]? = some p) :
    ∃ g, pp = some ⟨g, 0, none⟩ ∧ w.cell? ⟨g, j, none⟩ = some (.int .i64 (p : Int)) := by
  obtain ⟨col, L, fo, mi, ou, h⟩ := h
  obtain ⟨g, h1, h2, _⟩ := h.op.cell (j := j) (u := .int .i64 (p : Int)) (by rw [List.getElem?_map, hs]; rfl)
  exact ⟨g, h1, h2⟩
theorem BN.lens {w0 w : World} {cb n i f N ck cv cp : Nat} {K V : List ByteArray} {P : List Nat} {pk pv pp : Option Addr} (h : BN w0 w cb n i f K V P (.slice pk N ck) (.slice pv N cv) (.slice pp N cp)) : K.length = N ∧ V.length = N ∧ P.length = N ∧ N ≤ ck ∧ N ≤ cv ∧ N ≤ cp := by
  obtain ⟨col, L, fo, mi, ou, h⟩ := h
  have h1 := h.ok.len
  have h2 := h.ov.len
  have h3 := h.op.len
  simp only [List.length_map] at h1 h2 h3
  exact ⟨h1.1.symm, h2.1.symm, h3.1.symm, h1.2, h2.2, h3.2⟩
theorem Opr.cell {w : World} {col : Nat → Nat} {pb : Nat} {R : Array Value} (h : Opr w col pb R) (j : Nat) : w.cell? ⟨pb, j, none⟩ = R[j]? := cell_of_row _ _ _ _ _ _ h.1
theorem BO.cellR {w0 w : World} {cb n i f : Nat} {K V : List ByteArray} {P : List Nat} {vk vv vp : Value} {pb : Nat} {R : Array Value} (h : BO w0 w cb n i f K V P vk vv vp pb R) (j : Nat) : w.cell? ⟨pb, j, none⟩ = R[j]? := by
  obtain ⟨col, L, fo, mi, ou, _, h⟩ := h
  exact h.cell j
/-- values and pins, behind a call -/
theorem BP.cellV {w0 w : World} {cb n i f N cv : Nat} {K V V' : List ByteArray} {P P' : List Nat} {pv : Option Addr} {vk vp : Value} {pb : Nat} {R : Array Value} (h : BP w0 w cb n i f K V P vk (.slice pv N cv) vp pb R V' P') {j : Nat} (hj : j < V.length) :
    ∃ g u, pv = some ⟨g, 0, none⟩ ∧ w.cell? ⟨g, j, none⟩ = some u ∧ w.frozen? ⟨g, j, none⟩ = false ∧ (Value.slice pv N cv).ownBlock = some g ∧ ∀ j, w.cell? ⟨pb, j, none⟩ = R[j]? := by
  obtain ⟨col, L, fo, mi, ou, h, ho⟩ := h
  obtain ⟨g, h1, h2, h3, h4⟩ := h.ov.cell (j := j) (u := .string V[j]) (by rw [List.getElem?_map, List.getElem?_eq_getElem hj]; rfl)
  exact ⟨g, _, h1, h2, h3, h4, ho.cell⟩
theorem BP.cellP {w0 w : World} {cb n i f N cp : Nat} {K V V' : List ByteArray} {P P' : List Nat} {pp : Option Addr} {vk vv : Value} {pb : Nat} {R : Array Value} (h : BP w0 w cb n i f K V P vk vv (.slice pp N cp) pb R V' P') {j p : Nat} (hj : P[j]? = some p) :
    ∃ g, pp = some ⟨g, 0, none⟩ ∧ w.cell? ⟨g, j, none⟩ = some (.int .i64 (p : Int)) ∧ w.frozen? ⟨g, j, none⟩ = false ∧ (Value.slice pp N cp).ownBlock = some g := by
  obtain ⟨col, L, fo, mi, ou, h, ho⟩ := h
  obtain ⟨g, h1, h2, h3, h4⟩ := h.op.cell (j := j) (u := .int .i64 (p : Int)) (by rw [List.getElem?_map, hj]; rfl)
  exact ⟨g, h1, h2, h3, h4⟩
theorem BP.vals {w0 w : World} {cb n i f : Nat} {K V : List ByteArray} {P : List Nat} {vk vv vp : Value} {pb : Nat} {R : Array Value} {j : Nat} {v : ByteArray} (h : BP w0 w cb n i f K V P vk vv vp pb R (V.set j v) P) {g : Nat} (hg : vv.ownBlock = some g) :
    BO w0 (w.setCell ⟨g, j, none⟩ (.string v)) cb n i f K (V.set j v) P vk vv vp pb R := by
  obtain ⟨col, L, fo, mi, ou, h, ho⟩ := h
  exact ⟨col, L, fo, mi, ou, h.vals hg, ho.turn (by decide) (turn_set (h.ov.c g hg) j _)⟩
theorem BP.pinned {w0 w : World} {cb n i f : Nat} {K V : List ByteArray} {P : List Nat} {vk vv vp : Value} {pb : Nat} {R : Array Value} {j p : Nat} (h : BP w0 w cb n i f K V P vk vv vp pb R V (P.set j p)) {g : Nat} (hg : vp.ownBlock = some g) (z : Value) (hz : z = .int .i64 (p : Int)) :
    BO w0 (w.setCell ⟨g, j, none⟩ z) cb n i f K V (P.set j p) vk vv vp pb R := by
  obtain ⟨col, L, fo, mi, ou, h, ho⟩ := h
  exact ⟨col, L, fo, mi, ou, h.pinned hg z hz, ho.turn (by decide) (turn_set (h.op.c g hg) j _)⟩
/-! ### a key more -/
structure BL (w0 w : World) (cb n : Nat) (L : List Ent) (fo mi ou : Nat) (vk vv vp : Value) (xk xv xp : List Value) (pb : Nat) (R : Array Value) (col : Nat → Nat) : Prop where
  st : ST w0 w col
  ca : Cash w col 1 cb n fo mi ou L
  ok : OwnC w col 2 9 vk xk
  ov : OwnC w col 3 9 vv xv
  op : OwnC w col 4 3 vp xp
  re : Opr w col pb R
theorem BL.k {w0 w w' : World} {cb n : Nat} {L : List Ent} {fo mi ou : Nat} {vk vv vp : Value} {xk xv xp : List Value} {pb : Nat} {R : Array Value} {col : Nat → Nat} (h : BL w0 w cb n L fo mi ou vk vv vp xk xv xp pb R col) {o : Obj} {v' : Value} {u : Value} {m : Nat} (hm : m = xk.length)
    (hg : Grew 9 1 (w.alloc o) vk m 1 xk [u] v' w') : ∃ col', BL w0 w' cb n L fo mi ou v' vv vp (xk ++ [u]) xv xp pb R col' := by
  subst hm
  obtain ⟨col', ht, hc⟩ := turn_grew hg h.st.hi h.ok.c
  refine ⟨col', h.st.turn (by decide) ht, h.ca.other (by decide) ht, ⟨by simpa using hg.held, hc⟩, h.ov.turn (by decide) ht, h.op.turn (by decide) ht, h.re.turn (by decide) ht⟩
theorem BL.v {w0 w w' : World} {cb n : Nat} {L : List Ent} {fo mi ou : Nat} {vk vv vp : Value} {xk xv xp : List Value} {pb : Nat} {R : Array Value} {col : Nat → Nat} (h : BL w0 w cb n L fo mi ou vk vv vp xk xv xp pb R col) {o : Obj} {v' : Value} {u : Value} {m : Nat} (hm : m = xv.length)
    (hg : Grew 9 1 (w.alloc o) vv m 1 xv [u] v' w') : ∃ col', BL w0 w' cb n L fo mi ou vk v' vp xk (xv ++ [u]) xp pb R col' := by
  subst hm
  obtain ⟨col', ht, hc⟩ := turn_grew hg h.st.hi h.ov.c
  refine ⟨col', h.st.turn (by decide) ht, h.ca.other (by decide) ht, h.ok.turn (by decide) ht, ⟨by simpa using hg.held, hc⟩, h.op.turn (by decide) ht, h.re.turn (by decide) ht⟩
theorem BL.p {w0 w w' : World} {cb n : Nat} {L : List Ent} {fo mi ou : Nat} {vk vv vp : Value} {xk xv xp : List Value} {pb : Nat} {R : Array Value} {col : Nat → Nat} (h : BL w0 w cb n L fo mi ou vk vv vp xk xv xp pb R col) {o : Obj} {v' : Value} {u : Value} {m : Nat} (hm : m = xp.length)
    (hg : Grew 3 1 (w.alloc o) vp m 1 xp [u] v' w') : ∃ col', BL w0 w' cb n L fo mi ou vk vv v' xk xv (xp ++ [u]) pb R col' := by
  subst hm
  obtain ⟨col', ht, hc⟩ := turn_grew hg h.st.hi h.op.c
  refine ⟨col', h.st.turn (by decide) ht, h.ca.other (by decide) ht, h.ok.turn (by decide) ht, h.ov.turn (by decide) ht, ⟨by simpa using hg.held, hc⟩, h.re.turn (by decide) ht⟩
/-- two equal tallies -/
theorem tally_neq (a b c d e f : Int) (w : World) : (binOp .neq 36 (.agg #[.int .i64 a, .int .i64 b, .int .i64 c, .int .i64 d, .int .i64 e, .int .i64 f]) (.agg #[.int .i64 a, .int .i64 b, .int .i64 c, .int .i64 d, .int .i64 e, .int .i64 f])).run Try.prog w = .ok (.bool false) w := by
  have hu := Try.underlying36
  have hi : Try.prog.underlying 3 = some (.int .i64) := by kernel_rfl
  have h1 : ∀ (d : Nat) (x : Int), (Op.equalIn (d + 1) 3 (.int .i64 x) (.int .i64 x)).run Try.prog w = .ok true w := fun d x => by simp [Op.equalIn, run_underlying hi]
  have p0 : (part 3 #[.int .i64 a, .int .i64 b, .int .i64 c, .int .i64 d, .int .i64 e, .int .i64 f] 0).run Try.prog w = .ok (.int .i64 a) w := by kernel_rfl
  have p1 : (part 3 #[.int .i64 a, .int .i64 b, .int .i64 c, .int .i64 d, .int .i64 e, .int .i64 f] 1).run Try.prog w = .ok (.int .i64 b) w := by kernel_rfl
  have p2 : (part 3 #[.int .i64 a, .int .i64 b, .int .i64 c, .int .i64 d, .int .i64 e, .int .i64 f] 2).run Try.prog w = .ok (.int .i64 c) w := by kernel_rfl
  have p3 : (part 3 #[.int .i64 a, .int .i64 b, .int .i64 c, .int .i64 d, .int .i64 e, .int .i64 f] 3).run Try.prog w = .ok (.int .i64 d) w := by kernel_rfl
  have p4 : (part 3 #[.int .i64 a, .int .i64 b, .int .i64 c, .int .i64 d, .int .i64 e, .int .i64 f] 4).run Try.prog w = .ok (.int .i64 e) w := by kernel_rfl
  have p5 : (part 3 #[.int .i64 a, .int .i64 b, .int .i64 c, .int .i64 d, .int .i64 e, .int .i64 f] 5).run Try.prog w = .ok (.int .i64 f) w := by kernel_rfl
  have h1' : ∀ (x : Int), (Op.equalIn 9999 3 (.int .i64 x) (.int .i64 x)).run Try.prog w = .ok true w := h1 9998
  have h2 : (Op.equalIn (9998 + 1 + 1) 36 (.agg #[.int .i64 a, .int .i64 b, .int .i64 c, .int .i64 d, .int .i64 e, .int .i64 f]) (.agg #[.int .i64 a, .int .i64 b, .int .i64 c, .int .i64 d, .int .i64 e, .int .i64 f])).run Try.prog w = .ok true w := by
    rw [Op.equalIn]
    simp [run_underlying hu, h1', run_underlying hi, p0, p1, p2, p3, p4, p5]
  have h0 : (Op.equal 36 (.agg #[.int .i64 a, .int .i64 b, .int .i64 c, .int .i64 d, .int .i64 e, .int .i64 f]) (.agg #[.int .i64 a, .int .i64 b, .int .i64 c, .int .i64 d, .int .i64 e, .int .i64 f])).run Try.prog w = .ok true w := h2
  simp only [binOp]
  simp [h0]
end Go.Proofs.Ythaccjjkbbkehaa
