/- The law 3's helpers, walked: same, lent, kept. -/
import Derived.Test.YtdbghgpohdijfaaDoorMa66
import Derived.Test.YtdbghgpohdijfaaDoorMa39
import Derived.Test.YtdbghgpohdijfaaDoorMa31
import Derived.Test.YtdbghgpohdijfaaDoorMa1
import Derived.Test.YtdbghgpohdijfaaDoorMa2
import Derived.Deep.RegionHeld3
import Derived.Deep.DrawnRows
namespace Go.Proofs.YtdbghgpohdijfaaDoor
open Go.RowKit Go.Scr
set_option linter.unusedVariables false

theorem text5_ne {a b : ByteArray} (h : a ≠ b) : (a.toList == b.toList) = false := by
  refine beq_eq_false_iff_ne.2 fun h2 => h ?_
  rw [ByteArray.toList_eq, ByteArray.toList_eq] at h2
  exact ByteArray.ext (Array.toList_inj.mp h2)
theorem text5_same (a : ByteArray) : (a.toList == a.toList) = true := beq_self_eq_true _
def spare5 : ByteArray := ⟨#[115, 112, 97, 114, 101]⟩
set_option maxRecDepth 100000 in
set_option maxHeartbeats 1000000 in
theorem same5_any (v v2 : Value) (L M : List ByteArray) (w : World) (hv : Txts w v L) (hv2 : Txts w v2 M) (hl : L.length ≤ 1048576) (hl2 : M.length ≤ 1048576) :
    Calls Tryd.prog 25 #[v, v2] w fun e w' => e = .returned (.bool (decide (L = M))) ∧ Below w.heap.size w w' := by
  obtain ⟨p, c, rfl, hv1, hv2', hv3⟩ := hv
  obtain ⟨p2, c2, rfl, hw1, hw2', hw3⟩ := hv2
  obtain ⟨n, hn⟩ : ∃ n, n = L.length := ⟨_, rfl⟩
  obtain ⟨m, hm⟩ : ∃ m, m = M.length := ⟨_, rfl⟩
  rw [← hn] at hv1 hl ⊢
  rw [← hm] at hw1 hl2 ⊢
  have HNL := Lib.hid hn
  have HML := Lib.hid hm
  have HP := Lib.hid hv3
  have HP2 := Lib.hid hw3
  clear hn hm hv1 hv2' hv3 hw1 hw2' hw3
  by_cases hnm : n = m
  · have HNM := Lib.hid hnm
    have e0 : ((n : Int) == (m : Int)) = true := beq_iff_eq.2 (by omega)
    clear hnm
    go_enter Tryd.func25, Tryd.ntmps25
    go_wp2
    go_loopw [5] (fun q wr => ∃ i : Nat, i ≤ n ∧ q = .int .i64 i ∧ Hid (∀ j, j < i → L[j]? = M[j]?) ∧ Below w.heap.size w wr) (fun q _ => n - (intOf q).toNat)
    case atStart => exact ⟨0, by omega, rfl, Lib.hid (fun j h => absurd h (by omega)), Below.refl _ _⟩
    case round =>
      obtain ⟨i, hi, rfl, hinv, hbel⟩ := hrel
      have HBEL := Lib.hid hbel
      have HINV := Lib.hid hinv.out
      clear hbel hinv
      by_cases hlt : i < n
      · have hl8 : (i : Int) < (n : Int) := by omega
        have him : (i : Int) < (m : Int) := by have := HNM.out; omega
        obtain ⟨s, hs⟩ : ∃ s, L[i]? = some s := ⟨L[i]'(by rw [← HNL.out]; exact hlt), List.getElem?_eq_getElem _⟩
        obtain ⟨t, ht⟩ : ∃ s, M[i]? = some s := ⟨M[i]'(by rw [← HML.out, ← HNM.out]; exact hlt), List.getElem?_eq_getElem _⟩
        obtain ⟨a, rfl, hc⟩ := HP.out i s hs
        obtain ⟨b, rfl, hd⟩ := HP2.out i t ht
        have hcell1 : wr.cell? (a.add i) = some (.string s) := (HBEL.out.cell (block_lt_of_cell hc)).trans hc
        have hcell2 : wr.cell? (b.add i) = some (.string t) := (HBEL.out.cell (block_lt_of_cell hd)).trans hd
        have HS := Lib.hid hs
        have HT := Lib.hid ht
        clear hs ht hc hd
        by_cases hst : s = t
        · have e1 : (s.toList == t.toList) = true := by rw [hst]; exact text5_same _
          have HST := Lib.hid hst
          clear hst
          go_upto_region 6 with fail
          go_quiet (fail)
          have HBEL2 : Hid (Below w.heap.size w (wr.drewN nq)) := below_drewN HBEL.out nq
          generalize wr.drewN nq = wx at *
          go_wp2_with fail
          refine ⟨⟨i + 1, by omega, rfl, Lib.hid (fun j hj => ?_), HBEL2.out⟩, (by show n - ((i : Int) + 1).toNat < n - (i : Int).toNat; omega)⟩
          rcases Nat.lt_or_ge j i with h1 | h1
          · exact HINV.out j h1
          · have : j = i := by omega
            subst this
            rw [HS.out, HT.out, HST.out]
        · have e1 : (s.toList == t.toList) = false := text5_ne hst
          have HST := Lib.hid hst
          clear hst
          go_upto_region 6 with fail
          go_quiet (fail)
          have HBEL2 : Hid (Below w.heap.size w (wr.drewN nq)) := below_drewN HBEL.out nq
          generalize wr.drewN nq = wx at *
          go_wp2_with fail
          go_ret
          have hd : decide (L = M) = false := decide_eq_false (by
            intro he
            have h1 := HS.out
            rw [he, HT.out] at h1
            exact HST.out (Option.some.inj h1).symm)
          exact ⟨by rw [hd]; rfl, HBEL2.out⟩
      · have hl8 : ¬ ((i : Int) < (n : Int)) := by omega
        go_wp2_with fail
        go_ret
        have hd : decide (L = M) = true := decide_eq_true (by
          refine List.ext_getElem? fun j => ?_
          rcases Nat.lt_or_ge j i with h1 | h1
          · exact HINV.out j h1
          · rw [List.getElem?_eq_none (by have := HNL.out; omega), List.getElem?_eq_none (by have := HML.out; have := HNM.out; omega)])
        exact ⟨by rw [hd]; rfl, HBEL.out⟩
  · have e0 : ((n : Int) == (m : Int)) = false := beq_eq_false_iff_ne.2 (by omega)
    have e1 : decide (L = M) = false := decide_eq_false (by intro h; apply hnm; rw [HNL.out, HML.out, h])
    rw [e1]
    clear hnm e1
    go_enter Tryd.func25, Tryd.ntmps25
    go_wp2
    go_ret
    exact ⟨rfl, Below.refl _ _⟩

end Go.Proofs.YtdbghgpohdijfaaDoor
/- Law 5's own and turned, walked. -/
namespace Go.Proofs.YtdbghgpohdijfaaDoor
open Go.RowKit Go.Scr
set_option linter.unusedVariables false
end Go.Proofs.YtdbghgpohdijfaaDoor
/- The law 3's book: mark, reads, walked. -/
namespace Go.Proofs.YtdbghgpohdijfaaDoor.Bk5
open Go.RowKit Go.Scr
set_option linter.unusedVariables false

/-- the n-th mark -/
def markS (i : Nat) : ByteArray := ⟨#[109, 97, 114, 107]⟩ ++ str [UInt8.ofNat ((i : Int) % 256).toNat, UInt8.ofNat ((i : Int) / 256 % 256).toNat]
set_option maxRecDepth 100000 in
set_option maxHeartbeats 400000 in
theorem mark_any (i : Nat) (w : World) (hi : i ≤ 1048576) :
    Calls Tryd.prog 78 #[.int .i64 i] w fun e w' => e = .returned (.string (markS i)) ∧ Below w.heap.size w w' := by
  obtain ⟨a, ha⟩ : ∃ a : UInt8, a = UInt8.ofNat ((i : Int) % 256).toNat := ⟨_, rfl⟩
  obtain ⟨b, hb⟩ : ∃ b : UInt8, b = UInt8.ofNat ((i : Int) / 256 % 256).toNat := ⟨_, rfl⟩
  have e1 : (i : Int) % 256 = (a.toNat : Int) := by rw [ha]; exact byte_intU i
  obtain ⟨d, hd⟩ : ∃ d, d = (i : Int) / 256 := ⟨_, rfl⟩
  have e2 : d % 256 = (b.toNat : Int) := by rw [hb, hd]; exact byte_intU _
  have HS := Lib.hid (by unfold markS; rw [← ha, ← hb] : markS i = ⟨#[109, 97, 114, 107]⟩ ++ str [a, b])
  have hd2 := hd.symm
  have hcv := own_string (P := Tryd.prog) (D := 9) (S := 135) (c := 2) Tryd.underlying135 und_u8 und_string (own_of_blk (n := 2) (w := w.alloc (.cells (bytesV [a, b]).toArray 5)) (heap_alloc_new w _) (by simp) (by simp))
  have hbel : Below w.heap.size w (w.alloc (.cells (bytesV [a, b]).toArray 5)) := (Below.refl _ _).alloc (Nat.le_refl _) _
  have HBEL := Lib.hid hbel
  simp only [bytesV, List.map_cons, List.map_nil] at hcv
  clear ha hb hd hbel
  go_enter Tryd.func78, Tryd.ntmps78
  go_wp2
  go_ret
  exact ⟨by rw [HS.out]; rfl, HBEL.out⟩

set_option maxRecDepth 100000 in
set_option maxHeartbeats 1000000 in
theorem reads_any (v : Value) (m : ByteArray) (n : Nat) (w : World) (hv : Txts w v (List.replicate n m)) (hn : n ≤ 8388608) :
    Calls Tryd.prog 79 #[v, .string m] w fun e w' => e = .returned (.bool true) ∧ w = w' := by
  obtain ⟨p, c, rfl, hv1, hv2, hv3⟩ := hv
  rw [List.length_replicate] at hv1 hv2 ⊢
  have HV := Lib.hid hv3
  clear hv3 hv2
  go_enter Tryd.func79, Tryd.ntmps79
  go_wp2
  go_loop [5] (fun q => ∃ i : Nat, i ≤ n ∧ q = .int .i64 i) (fun q => n - (intOf q).toNat)
  case atStart => exact ⟨0, by omega, rfl⟩
  case round =>
    obtain ⟨i, hi, rfl⟩ := hrel
    by_cases hlt : i < n
    · have hl8 : (i : Int) < (n : Int) := by omega
      have hi0 : (0 : Int) ≤ (i : Int) := by omega
      obtain ⟨a, rfl, hc⟩ := HV.out i m (by rw [List.getElem?_replicate, if_pos hlt])
      have hst := text5_same m
      go_wp2_with fail
      go_round
      case rel => exact ⟨i + 1, by omega, rfl⟩
      case measure => show n - ((i : Int) + 1).toNat < n - (i : Int).toNat; omega
    · have hl8 : ¬ ((i : Int) < (n : Int)) := by omega
      go_wp2_with fail
      go_ret
      exact ⟨rfl, rfl⟩
end Go.Proofs.YtdbghgpohdijfaaDoor.Bk5
/- The law 3's book: what stands in it; takes, walked. -/
namespace Go.Proofs.YtdbghgpohdijfaaDoor.Bk5
open Go.RowKit Go.Scr
set_option linter.unusedVariables false

def bookTy (k : Nat) : TypeId := if k = 4 then 3 else 22
def bookR (fr : List (Value × List ByteArray)) (wl : List Value) (ls : List (Value × List ByteArray)) (gr : List (Value × Nat)) (wh : List Nat) : Nat → List Value
  | 0 => fr.map (·.1)
  | 1 => wl
  | 2 => ls.map (·.1)
  | 3 => gr.map (·.1)
  | _ => wh.map fun c => Value.int .i64 ((c : Nat) : Int)
def mkV (i : Nat) : List Value := [Value.string (markS i)]
/-- the book: lists that are untouched (fr) and what they were (wl), lists that are their owner's (ls), and what they were grown to (gr) -/
structure BookI (w : World) (B b : Nat) (col : Nat → Nat) (V : Nat → Value) (fr : List (Value × List ByteArray)) (wl : List Value) (ls : List (Value × List ByteArray)) (gr : List (Value × Nat)) (wh : List Nat) : Prop where
  st : Rec w B b col 48 5 bookTy V (bookR fr wl ls gr wh)
  fi : Items Value.string w col 9 (8 + ls.length) fr
  wi : ∀ (i : Nat) (v : Value) (p : Value × List ByteArray), wl[i]? = some v → fr[i]? = some p → Held w 9 1 v p.2.length (p.2.map Value.string) ∧ ∀ g, v.ownBlock = some g → col g = 7
  li : Items Value.string w col 9 8 ls
  gi : Cols w col 9 8 mkV gr
  gb : ∀ p ∈ gr, p.2 < ls.length
theorem BookI.move {w w' : World} {B b : Nat} {col col' : Nat → Nat} {V : Nat → Value} {fr ls : List (Value × List ByteArray)} {wl : List Value} {gr : List (Value × Nat)} {wh : List Nat} (h : BookI w B b col V fr wl ls gr wh)
    (hk : ∀ g, g < w.heap.size → 1 ≤ col g → w'.heap[g]? = w.heap[g]?) (hc : ∀ g, g < w.heap.size → col' g = col g) (hl : ∀ g, col' g ≠ 0 → B ≤ g ∧ g < w'.heap.size) : BookI w' B b col' V fr wl ls gr wh :=
  ⟨h.st.move (fun g hg h1 _ => hk g hg h1) hc hl, h.fi.move (fun g hg h1 => hk g hg (by omega)) hc, fun i v p h1 h2 => by
    obtain ⟨a, c⟩ := h.wi i v p h1 h2
    exact ⟨a.keep fun g hg => hk g (a.lt hg) (by have := c g hg; omega), fun g hg => (hc g (a.lt hg)).trans (c g hg)⟩, h.li.move (fun g hg h1 => hk g hg (by omega)) hc, h.gi.move (fun g hg h1 => hk g hg (by omega)) hc, h.gb⟩
theorem BookI.below {w w' : World} {B b : Nat} {col : Nat → Nat} {V : Nat → Value} {fr ls : List (Value × List ByteArray)} {wl : List Value} {gr : List (Value × Nat)} {wh : List Nat} (h : BookI w B b col V fr wl ls gr wh) (hb : Below w.heap.size w w') : BookI w' B b col V fr wl ls gr wh :=
  h.move (fun g hg _ => hb.block g hg) (fun _ _ => rfl) (fun g hg => by have := h.st.lo g hg; have := hb.size; omega)
/-- a list that has come since gets its colour -/
theorem BookI.dye {w w' : World} {B b : Nat} {col : Nat → Nat} {V : Nat → Value} {fr ls : List (Value × List ByteArray)} {wl : List Value} {gr : List (Value × Nat)} {wh : List Nat} (h : BookI w B b col V fr wl ls gr wh) (hb : Below w.heap.size w w') (hB : B ≤ w.heap.size) {v : Value} (c : Nat) (hv : ∀ g, v.ownBlock = some g → w.heap.size ≤ g ∧ g < w'.heap.size) :
    BookI w' B b (dyeV col v c) V fr wl ls gr wh ∧ ∀ g, g < w.heap.size → dyeV col v c g = col g := by
  have hold : ∀ g, g < w.heap.size → dyeV col v c g = col g := fun g hg => dyeV_old fun he => by have := (hv g he).1; omega
  refine ⟨h.move (fun g hg _ => hb.block g hg) hold fun g hg => ?_, hold⟩
  rcases dyeV_ne hg with he | he
  · have := hv g he; omega
  · have := h.st.lo g he; have := hb.size; omega
theorem info_list : (Tryd.prog.info? 22).map (fun i => (i.zero, i.size, i.bytes)) = some (some (.slice none 0 0), 1, 24) := by kernel_rfl
theorem BookI.addF {w w1 : World} {B b : Nat} {col : Nat → Nat} {V : Nat → Value} {fr ls : List (Value × List ByteArray)} {wl : List Value} {gr : List (Value × Nat)} {wh : List Nat} (h : BookI w B b col V fr wl ls gr wh) {v v' : Value} {L : List ByteArray}
    (hown : Held w1 22 1 v' (fr.length + 1) (fr.map (·.1) ++ [v])) (hg : w.grownBy w1 (V 0).ownBlock) (hat : v'.ownBlock = (V 0).ownBlock ∨ ∃ H, v'.ownBlock = some H ∧ w.heap.size ≤ H) (hB : B ≤ w.heap.size)
    (hv : Held w 9 1 v L.length (L.map Value.string)) (hl : L.length ≤ 4194304) (hc : ∀ g, v.ownBlock = some g → col g = 8 + ls.length + fr.length) (hw : wl.length ≤ fr.length) :
    BookI (w1.setCell ⟨b, 0, none⟩ v') B b (dyeV col v' 2) (put1 V 0 v') (fr ++ [(v, L)]) wl ls gr wh ∧ Only col (fun c => c = 1 ∨ c = 2) w (w1.setCell ⟨b, 0, none⟩ v') ∧ ∀ g, g < w.heap.size → dyeV col v' 2 g = col g := by
  obtain ⟨h1, h2, h3⟩ := h.st.grew (k := 0) (by omega) (X := (fr ++ [(v, L)]).map (·.1)) (by
    have e : ((fr ++ [(v, L)]).map (·.1)) = fr.map (·.1) ++ [v] := by simp
    rw [e, List.length_append, List.length_map]
    exact hown) hg hat hB
  have hk : ∀ g, g < w.heap.size → 7 ≤ col g → (w1.setCell ⟨b, 0, none⟩ v').heap[g]? = w.heap[g]? := fun g hgw hc7 => h2.block g hgw (by omega)
  refine ⟨⟨h1.congr fun k hk => ?_, (h.fi.move (fun g hg h1 => hk g hg (by omega)) h3).snoc (hv.keep fun g hg => hk g (hv.lt hg) (by have := hc g hg; omega)) hl fun g hg => (h3 g (hv.lt hg)).trans (hc g hg), fun i x p e1 e2 => ?_, h.li.move (fun g hg h1 => hk g hg (by omega)) h3, h.gi.move (fun g hg h1 => hk g hg (by omega)) h3, h.gb⟩, h2, h3⟩
  · match k, hk with
    | 0, _ => rfl
    | 1, _ => rfl
    | 2, _ => rfl
    | 3, _ => rfl
    | 4, _ => rfl
  · have hi : i < fr.length := Nat.lt_of_lt_of_le (List.getElem?_eq_some_iff.mp e1).1 hw
    rw [List.getElem?_append_left hi] at e2
    obtain ⟨a, c⟩ := h.wi i x p e1 e2
    exact ⟨a.keep fun g hg => hk g (a.lt hg) (by have := c g hg; omega), fun g hg => (h3 g (a.lt hg)).trans (c g hg)⟩
theorem BookI.addW {w w1 : World} {B b : Nat} {col : Nat → Nat} {V : Nat → Value} {fr ls : List (Value × List ByteArray)} {wl : List Value} {gr : List (Value × Nat)} {wh : List Nat} (h : BookI w B b col V fr wl ls gr wh) {x v' : Value} {p : Value × List ByteArray}
    (hown : Held w1 22 1 v' (wl.length + 1) (wl ++ [x])) (hg : w.grownBy w1 (V 1).ownBlock) (hat : v'.ownBlock = (V 1).ownBlock ∨ ∃ H, v'.ownBlock = some H ∧ w.heap.size ≤ H) (hB : B ≤ w.heap.size)
    (hp : fr[wl.length]? = some p) (hv : Held w 9 1 x p.2.length (p.2.map Value.string)) (hc : ∀ g, x.ownBlock = some g → col g = 7) :
    BookI (w1.setCell ⟨b, 1, none⟩ v') B b (dyeV col v' 3) (put1 V 1 v') fr (wl ++ [x]) ls gr wh ∧ Only col (fun c => c = 1 ∨ c = 3) w (w1.setCell ⟨b, 1, none⟩ v') ∧ ∀ g, g < w.heap.size → dyeV col v' 3 g = col g := by
  obtain ⟨h1, h2, h3⟩ := h.st.grew (k := 1) (by omega) (X := wl ++ [x]) (by rw [List.length_append]; exact hown) hg hat hB
  have hk : ∀ g, g < w.heap.size → 7 ≤ col g → (w1.setCell ⟨b, 1, none⟩ v').heap[g]? = w.heap[g]? := fun g hgw hc7 => h2.block g hgw (by omega)
  refine ⟨⟨h1.congr fun k hk => ?_, h.fi.move (fun g hg h1 => hk g hg (by omega)) h3, fun i y q e1 e2 => ?_, h.li.move (fun g hg h1 => hk g hg (by omega)) h3, h.gi.move (fun g hg h1 => hk g hg (by omega)) h3, h.gb⟩, h2, h3⟩
  · match k, hk with
    | 0, _ => rfl
    | 1, _ => rfl
    | 2, _ => rfl
    | 3, _ => rfl
    | 4, _ => rfl
  · by_cases hi : i < wl.length
    · rw [List.getElem?_append_left hi] at e1
      obtain ⟨a, c⟩ := h.wi i y q e1 e2
      exact ⟨a.keep fun g hg => hk g (a.lt hg) (by have := c g hg; omega), fun g hg => (h3 g (a.lt hg)).trans (c g hg)⟩
    · rw [List.getElem?_append_right (by omega)] at e1
      obtain ⟨hj, he⟩ := List.getElem?_eq_some_iff.mp e1
      have hi2 : i = wl.length := by simp at hj; omega
      subst hi2
      rw [hp] at e2
      cases e2
      have he2 : x = y := by simpa using he
      subst he2
      exact ⟨hv.keep fun g hg => hk g (hv.lt hg) (by have := hc g hg; omega), fun g hg => (h3 g (hv.lt hg)).trans (hc g hg)⟩
/-- what does not lie in the book's own rows stays -/
theorem BookI.rest {w w' : World} {B b : Nat} {col col' : Nat → Nat} {V : Nat → Value} {fr ls : List (Value × List ByteArray)} {wl : List Value} {gr : List (Value × Nat)} {wh : List Nat} (h : BookI w B b col V fr wl ls gr wh)
    (hk : ∀ g, g < w.heap.size → 7 ≤ col g → w'.heap[g]? = w.heap[g]?) (h3 : ∀ g, g < w.heap.size → col' g = col g) : Items Value.string w' col' 9 8 ls ∧ Items Value.string w' col' 9 (8 + ls.length) fr ∧ Cols w' col' 9 8 mkV gr :=
  ⟨h.li.move (fun g hg h1 => hk g hg (by omega)) h3, h.fi.move (fun g hg h1 => hk g hg (by omega)) h3, h.gi.move (fun g hg h1 => hk g hg (by omega)) h3⟩
theorem wi_nil (w : World) (col : Nat → Nat) : ∀ i (v : Value) (p : Value × List ByteArray), ([] : List Value)[(i : Nat)]? = some v → ([] : List (Value × List ByteArray))[i]? = some p → Held w 9 1 v p.2.length (p.2.map Value.string) ∧ ∀ g, v.ownBlock = some g → col g = 7 := fun i v p h => by simp at h
/-- the untouched lists become their owner's -/
theorem BookI.moveL {w w1 : World} {B b : Nat} {col : Nat → Nat} {V : Nat → Value} {fr ls : List (Value × List ByteArray)} {wl : List Value} {gr : List (Value × Nat)} {wh : List Nat} (h : BookI w B b col V fr wl ls gr wh) {v' : Value}
    (hown : Held w1 22 1 v' (ls.length + fr.length) (ls.map (·.1) ++ fr.map (·.1))) (hg : w.grownBy w1 (V 2).ownBlock) (hat : v'.ownBlock = (V 2).ownBlock ∨ ∃ H, v'.ownBlock = some H ∧ w.heap.size ≤ H) (hB : B ≤ w.heap.size) :
    BookI (((w1.setCell ⟨b, 2, none⟩ v').setCell ⟨b, 0, none⟩ (.slice none 0 0)).setCell ⟨b, 1, none⟩ (.slice none 0 0)) B b (dyeV col v' 4) (put1 (put1 (put1 V 2 v') 0 (.slice none 0 0)) 1 (.slice none 0 0)) [] [] (ls ++ fr) gr wh ∧
      Only col (fun c => c = 1 ∨ c = 4) w (((w1.setCell ⟨b, 2, none⟩ v').setCell ⟨b, 0, none⟩ (.slice none 0 0)).setCell ⟨b, 1, none⟩ (.slice none 0 0)) ∧ ∀ g, g < w.heap.size → dyeV col v' 4 g = col g := by
  obtain ⟨h1, h2, h3⟩ := h.st.grew (k := 2) (by omega) (X := (ls ++ fr).map (·.1)) (by
    rw [List.map_append, List.length_append, List.length_map, List.length_map]
    exact hown) hg hat hB
  have hsz := h2.size
  obtain ⟨k1, k2⟩ := h1.none (k := 0) (by omega) (by omega)
  have hsz2 := k2.size
  obtain ⟨m1, m2⟩ := k1.none (k := 1) (by omega) (by omega)
  have hall := (h2.trans ((k2.mono (S' := fun c => c = 1 ∨ c = 4) fun _ e => .inl e).trans' (m2.mono (S' := fun c => c = 1 ∨ c = 4) fun _ e => .inl e)) h3)
  obtain ⟨r1, r2, r3⟩ := h.rest (fun g hgw hc7 => hall.block g hgw (by omega)) h3
  refine ⟨⟨m1.congr fun k hk => ?_, Items.nil _ _ _ _ _, wi_nil _ _, r1.cat r2, r3, fun p hp => by rw [List.length_append]; have := h.gb p hp; omega⟩, hall, h3⟩
  match k, hk with
  | 0, _ => rfl
  | 1, _ => rfl
  | 2, _ => rfl
  | 3, _ => rfl
  | 4, _ => rfl
/-- an element of a list is written -/
theorem BookI.mark {w : World} {B b : Nat} {col : Nat → Nat} {V : Nat → Value} {ls : List (Value × List ByteArray)} {gr : List (Value × Nat)} {wh : List Nat} (h : BookI w B b col V [] [] ls gr wh) {i g : Nat} {p : Value × List ByteArray} (hp : ls[i]? = some p) (hg : p.1.ownBlock = some g) (hi : ∀ q ∈ gr, q.2 < i) (k : Nat) (s : ByteArray) :
    BookI (w.setCell ⟨g, k, none⟩ (.string s)) B b col V [] [] (ls.set i (p.1, p.2.set k s)) gr wh ∧ Only col (fun c => c = 8 + i) w (w.setCell ⟨g, k, none⟩ (.string s)) := by
  have hcg := (h.li i p hp).2.2 g hg
  obtain ⟨h1, h2⟩ := h.li.mark hp hg k s
  have hsz : (w.setCell ⟨g, k, none⟩ (.string s)).heap.size = w.heap.size := by simp [World.setCell]
  refine ⟨⟨(h.st.move (col' := col) (fun g' hg' a1 a2 => h2.block g' hg' (by omega)) (fun _ _ => rfl) (fun g' hne => by rw [hsz]; exact h.st.lo g' hne)).congr fun j hj => ?_, Items.nil _ _ _ _ _, wi_nil _ _, h1, fun q hq => ?_, fun q hq => by rw [List.length_set]; exact h.gb q hq⟩, h2⟩
  · match j, hj with
    | 0, _ => rfl
    | 1, _ => rfl
    | 2, _ => exact (map_set_fst ls i p (p.1, p.2.set k s) hp rfl).symm
    | 3, _ => rfl
    | 4, _ => rfl
  · obtain ⟨a, c⟩ := h.gi q hq
    refine ⟨a.keep fun g' hg' => h2.block g' (a.lt hg') ?_, c⟩
    have := c g' hg'
    have := hi q hq
    omega
/-- a list of marks is grown -/
theorem BookI.grow {w w1 : World} {B b : Nat} {col : Nat → Nat} {V : Nat → Value} {ls : List (Value × List ByteArray)} {gr : List (Value × Nat)} {wh : List Nat} (h : BookI w B b col V [] [] ls gr wh) (hm : ∀ i p, ls[i]? = some p → p.2 = List.replicate p.2.length (markS i)) {c n : Nat} {v v' : Value} (hcl : c < ls.length)
    (hc : ∀ g, v.ownBlock = some g → col g = 8 + c) (hg : Grew 9 1 w v n 1 (marks (mkV c) n) (mkV c) v' w1) (hlt : ∀ g, v.ownBlock = some g → g < w.heap.size) (hB : B ≤ w.heap.size) :
    BookI w1 B b (dyeV col v' (8 + c)) V [] [] ls gr wh ∧ (Full w1 9 1 (mkV c) v' ∧ ∀ g, v'.ownBlock = some g → dyeV col v' (8 + c) g = 8 + c) ∧ Only col (fun k => k = 8 + c) w w1 ∧ ∀ g, g < w.heap.size → dyeV col v' (8 + c) g = col g := by
  have hgr := hg.grown
  have hsz := hg.size
  have hold : ∀ g, g < w.heap.size → dyeV col v' (8 + c) g = col g := fun g hgw => dyeV_old fun he => by
    rcases hg.at with ⟨h1, _⟩ | ⟨h1, _⟩
    · exact hc g (by rw [← h1]; exact he)
    · rw [he] at h1; cases h1; omega
  have hfar : ∀ g, g < w.heap.size → col g ≠ 8 + c → w1.heap[g]? = w.heap[g]? := fun g hgw hne => hgr.block g hgw fun e => hne (hc g e.symm)
  refine ⟨⟨h.st.move (fun g' hg' a1 a2 => hfar g' hg' (by omega)) hold (fun g' hne => ?_), Items.nil _ _ _ _ _, wi_nil _ _, fun i p hp => ?_, fun q hq => ?_, h.gb⟩, ⟨Full.new (M := mkV c) hg, fun g he => dyeV_at he⟩, only_of_grown hgr (fun g e => hc g e), hold⟩
  · rcases dyeV_ne hne with he | he
    · rcases hg.at with ⟨h1, h2⟩ | ⟨h1, h2⟩
      · have := h.st.lo g' (by rw [hc g' (by rw [← h1]; exact he)]; omega)
        omega
      · rw [he] at h1; cases h1; omega
    · have := h.st.lo g' he; omega
  · obtain ⟨a1, a2, a3⟩ := h.li i p hp
    refine ⟨?_, a2, fun g he => (hold g (a1.lt he)).trans (a3 g he)⟩
    by_cases hic : i = c
    · subst hic
      obtain ⟨b1, _⟩ := items_col h.li hp (hm i p hp)
      have hf := Full.grew (M := mkV i) Nat.zero_lt_one hg (held_full (M := mkV i) b1)
      obtain ⟨n', hn'⟩ := full_held hf
      have hnn : n' = p.2.length := by
        obtain ⟨q1, c1, e1, _⟩ := a1.cells
        obtain ⟨q2, c2, e2, _⟩ := hn'.cells
        rw [e1] at e2
        simp only [Value.slice.injEq] at e2
        exact e2.2.1.symm
      subst hnn
      have e : p.2.map Value.string = marks (mkV i) p.2.length := by
        have h5 := hm i p hp
        unfold marks mkV
        generalize hnl : p.2.length = n at h5
        rw [h5, List.map_replicate]
        clear h5 hnl
        induction n with
        | zero => rfl
        | succ n ih => rw [List.replicate_succ, List.replicate_succ, List.flatten_cons, ← ih]; rfl
      rw [e]
      exact hn'
    · exact a1.keep fun g he => hfar g (a1.lt he) (by have := a3 g he; omega)
  · obtain ⟨a, k⟩ := h.gi q hq
    refine ⟨?_, fun g he => (hold g (a.lt he)).trans (k g he)⟩
    by_cases hqc : q.2 = c
    · rw [hqc] at a ⊢
      exact Full.grew (M := mkV c) Nat.zero_lt_one hg a
    · exact a.keep fun g he => hfar g (a.lt he) (by have := k g he; omega)
/-- what was grown is laid into the book -/
theorem BookI.addG {w w1 : World} {B b : Nat} {col : Nat → Nat} {V : Nat → Value} {ls : List (Value × List ByteArray)} {gr : List (Value × Nat)} {wh : List Nat} (h : BookI w B b col V [] [] ls gr wh) {x v' : Value} {c : Nat}
    (hown : Held w1 22 1 v' (gr.length + 1) (gr.map (·.1) ++ [x])) (hg : w.grownBy w1 (V 3).ownBlock) (hat : v'.ownBlock = (V 3).ownBlock ∨ ∃ H, v'.ownBlock = some H ∧ w.heap.size ≤ H) (hB : B ≤ w.heap.size)
    (hx : Full w 9 1 (mkV c) x) (hc : ∀ g, x.ownBlock = some g → col g = 8 + c) (hcl : c < ls.length) :
    BookI (w1.setCell ⟨b, 3, none⟩ v') B b (dyeV col v' 5) (put1 V 3 v') [] [] ls (gr ++ [(x, c)]) wh ∧ Only col (fun c => c = 1 ∨ c = 5) w (w1.setCell ⟨b, 3, none⟩ v') ∧ ∀ g, g < w.heap.size → dyeV col v' 5 g = col g := by
  obtain ⟨h1, h2, h3⟩ := h.st.grew (k := 3) (by omega) (X := (gr ++ [(x, c)]).map (·.1)) (by
    have e : ((gr ++ [(x, c)]).map (·.1)) = gr.map (·.1) ++ [x] := by simp
    rw [e, List.length_append, List.length_map]
    exact hown) hg hat hB
  obtain ⟨r1, r2, r3⟩ := h.rest (fun g hgw hc7 => h2.block g hgw (by omega)) h3
  refine ⟨⟨h1.congr fun k hk => ?_, Items.nil _ _ _ _ _, wi_nil _ _, r1, fun q hq => ?_, fun q hq => ?_⟩, h2, h3⟩
  · match k, hk with
    | 0, _ => rfl
    | 1, _ => rfl
    | 2, _ => rfl
    | 3, _ => rfl
    | 4, _ => rfl
  · rcases List.mem_append.mp hq with hq | hq
    · exact r3 q hq
    · obtain rfl : q = (x, c) := by simpa using hq
      exact ⟨hx.keep fun g he => h2.block g (hx.lt he) (by have := hc g he; omega), fun g he => (h3 g (hx.lt he)).trans (hc g he)⟩
  · rcases List.mem_append.mp hq with hq | hq
    · exact h.gb q hq
    · obtain rfl : q = (x, c) := by simpa using hq
      exact hcl
theorem BookI.addH {w w1 : World} {B b : Nat} {col : Nat → Nat} {V : Nat → Value} {ls : List (Value × List ByteArray)} {gr : List (Value × Nat)} {wh : List Nat} (h : BookI w B b col V [] [] ls gr wh) {v' : Value} {c : Nat}
    (hown : Held w1 3 1 v' (wh.length + 1) (wh.map (fun c => Value.int .i64 ((c : Nat) : Int)) ++ [Value.int .i64 (c : Int)])) (hg : w.grownBy w1 (V 4).ownBlock) (hat : v'.ownBlock = (V 4).ownBlock ∨ ∃ H, v'.ownBlock = some H ∧ w.heap.size ≤ H) (hB : B ≤ w.heap.size) :
    BookI (w1.setCell ⟨b, 4, none⟩ v') B b (dyeV col v' 6) (put1 V 4 v') [] [] ls gr (wh ++ [c]) ∧ Only col (fun c => c = 1 ∨ c = 6) w (w1.setCell ⟨b, 4, none⟩ v') ∧ ∀ g, g < w.heap.size → dyeV col v' 6 g = col g := by
  obtain ⟨h1, h2, h3⟩ := h.st.grew (k := 4) (by omega) (X := (wh ++ [c]).map fun c => Value.int .i64 ((c : Nat) : Int)) (by
    rw [List.map_append, List.length_append, List.length_map]
    exact hown) hg hat hB
  obtain ⟨r1, r2, r3⟩ := h.rest (fun g hgw hc7 => h2.block g hgw (by omega)) h3
  refine ⟨⟨h1.congr fun k hk => ?_, Items.nil _ _ _ _ _, wi_nil _ _, r1, r3, h.gb⟩, h2, h3⟩
  match k, hk with
  | 0, _ => rfl
  | 1, _ => rfl
  | 2, _ => rfl
  | 3, _ => rfl
  | 4, _ => rfl

/-- the book behind takes -/
def Took (w w' : World) (B b : Nat) (col : Nat → Nat) (fr : List (Value × List ByteArray)) (wl : List Value) (ls : List (Value × List ByteArray)) (gr : List (Value × Nat)) (wh : List Nat) : Prop :=
  ∃ col' V' x', BookI w' B b col' V' fr (wl ++ [x']) ls gr wh ∧ Only col (fun c => 1 ≤ c ∧ c < 4) w w' ∧ ∀ g, g < w.heap.size → col' g = col g
theorem takes_end {w w2 w3 w5 : World} {B b : Nat} {col col1 : Nat → Nat} {V1 : Nat → Value} {fr ls : List (Value × List ByteArray)} {wl : List Value} {gr : List (Value × Nat)} {wh : List Nat} {x v5 y : Value} {L : List ByteArray} {o : Obj}
    (hp : fr[wl.length]? = some (y, L)) (KD : BookI w2 B b col1 V1 fr wl ls gr wh) (K2 : Only col (fun c => c = 1 ∨ c = 2) w w2) (K3 : ∀ g, g < w.heap.size → col1 g = col g)
    (H3 : Held w3 9 1 x L.length (L.map Value.string)) (hbel : Below w2.heap.size w2 w3) (hat : x.ownBlock = none ∨ x.ownBlock = some w2.heap.size) (HG5 : Grew 22 1 (w3.alloc o) (V1 1) wl.length 1 wl [x] v5 w5) (hB : B ≤ w2.heap.size) :
    ∃ col' V' x', BookI (w5.setCell ⟨b, 1, none⟩ v5) B b col' V' fr (wl ++ [x']) ls gr wh ∧ Only col (fun c => 1 ≤ c ∧ c < 4) w (w5.setCell ⟨b, 1, none⟩ v5) ∧ ∀ g, g < w.heap.size → col' g = col g := by
  obtain ⟨d1, d2⟩ := KD.dye hbel hB (v := x) 7 (fun g hg => by
    refine ⟨?_, H3.lt hg⟩
    rcases hat with e | e
    · rw [e] at hg; cases hg
    · rw [e] at hg; cases hg; exact Nat.le_refl _)
  obtain ⟨e1, e2, e3⟩ := d1.addW (x := x) (v' := v5) (p := (y, L)) HG5.held (grown_alloc HG5.grown) HG5.at' (Nat.le_trans hB hbel.size) hp H3 (fun g hg => dyeV_at hg)
  have h23 := e2.mono (S' := fun c => 1 ≤ c ∧ c < 4) (fun c h => by omega)
  have h13 := (only_of_below' (S := fun c => 1 ≤ c ∧ c < 4) hbel).trans h23 d2
  have hs2 := K2.size
  have hs3 := hbel.size
  refine ⟨_, _, x, e1, (K2.mono (S' := fun c => 1 ≤ c ∧ c < 4) (fun c h => by omega)).trans h13 K3, fun g hg => ?_⟩
  rw [e3 g (by omega), d2 g (by omega), K3 g hg]
theorem below_none {w w' : World} (h : w.grownBy w' none) : Below w.heap.size w w' := ⟨h.os, h.tape, h.output, h.size, fun g hg => h.block g hg (by simp)⟩
theorem one_slice (p : Option Addr) (n c : Nat) : ∀ u ∈ [Value.slice p n c], u.oneCell' = true := by
  intro u hu; simp only [List.mem_singleton] at hu; rw [hu]; rfl
set_option maxRecDepth 100000 in
set_option maxHeartbeats 1000000 in
theorem takes_any (B b : Nat) (col : Nat → Nat) (V : Nat → Value) (fr ls : List (Value × List ByteArray)) (wl : List Value) (gr : List (Value × Nat)) (wh : List Nat) (p : Option Addr) (n c : Nat) (L : List ByteArray) (w : World) (h : BookI w B b col V fr wl ls gr wh) (hwl : wl.length = fr.length)
    (hv : Held w 9 1 (.slice p n c) L.length (L.map Value.string)) (hL : L.length ≤ 4194304) (hc : ∀ g, (Value.slice p n c).ownBlock = some g → col g = 8 + ls.length + fr.length) (hn : fr.length ≤ 100000) (hB : B ≤ w.heap.size) :
    Calls Tryd.prog 38 #[.pointer (some ⟨b, 0, none⟩), .slice p n c] w fun e w' => e = .returned (.tuple #[]) ∧ Took w w' B b col (fr ++ [(.slice p n c, L)]) wl ls gr wh := by
  have H := Lib.hid h
  have HV := Lib.hid hv
  have HC := Lib.hid hc
  have HL := Lib.hid hL
  obtain ⟨nf, hnf⟩ : ∃ x, x = fr.length := ⟨_, rfl⟩
  have HNF := Lib.hid hnf
  have HWL := Lib.hid hwl
  have c0 := h.st.cell (k := 0) (by omega)
  have hF : Held w 22 1 (V 0) nf (fr.map (·.1)) := by
    have := h.st.row 0 (by omega)
    rw [show (bookR fr wl ls gr wh 0).length = nf by rw [hnf]; exact List.length_map _] at this
    exact this
  have HF := Lib.hid hF
  have HB := Lib.hid hB
  have HONE : Hid (∀ u ∈ [Value.slice p n c], u.oneCell' = true) := Lib.hid (by intro u hu; simp only [List.mem_singleton] at hu; rw [hu]; rfl)
  have hl1 : (nf + 1) * 24 ≤ 140737488355328 := by omega
  have hl2 : nf + 1 ≤ 140737488355328 := by omega
  clear h hv hc hL hnf hwl hF hn
  go_enter Tryd.func38, Tryd.ntmps38
  go_upto_region 1 with (at_builtin; refine wpList_grew rfl _ _ rfl Tryd.underlying45 (.slice none 0 0) 1 info_list rfl (by decide) [Value.slice p n c] 1 rfl rfl HF.out rfl rfl (by decide) HONE.out hl1 hl2 ?_; intro v1 w1 hg1; obtain ⟨hc1, hf1⟩ := H.out.st.box_grew (k := 0) (by omega) (grown_alloc hg1.grown) (j := 0) (by omega); obtain ⟨p1, cp1, rfl, _⟩ := hg1.held.cells; have HG1 := Lib.hid hg1; clear hg1)
  obtain ⟨k1, k2, k3⟩ := H.out.addF (v := .slice p n c) (v' := .slice p1 (nf + 1) cp1) (L := L) (by rw [← HNF.out]; exact HG1.out.held) (grown_alloc HG1.out.grown) HG1.out.at' HB.out HV.out HL.out HC.out (Nat.le_of_eq HWL.out)
  obtain ⟨w2, hw2⟩ : ∃ x, x = w1.setCell ⟨b, 0, none⟩ (.slice p1 (nf + 1) cp1) := ⟨_, rfl⟩
  rw [← hw2] at k1 k2 ⊢
  obtain ⟨col1, hcol1⟩ : ∃ x, x = dyeV col (.slice p1 (nf + 1) cp1) 2 := ⟨_, rfl⟩
  rw [← hcol1] at k1 k3
  have kd := k1.below (Below.refl w2.heap.size w2).drew
  have hcl : w2.drew.cell? ⟨b, 1, none⟩ = some (V 1) := kd.st.cell (k := 1) (by omega)
  have HW : Held w2.drew 22 1 (V 1) nf wl := by
    have := kd.st.row 1 (by omega)
    rw [show (bookR (fr ++ [(.slice p n c, L)]) wl ls gr wh 1).length = nf from HWL.out.trans HNF.out.symm] at this
    exact this
  have HSRC := Lib.hid (kd.fi fr.length (.slice p n c, L) (by simp)).1
  have KD := Lib.hid kd
  have K2 := Lib.hid k2
  have K3 := Lib.hid k3
  have HW := Lib.hid HW
  have hl3 : L.length * 16 ≤ 140737488355328 := by have := HL.out; omega
  have hl4 : L.length ≤ 140737488355328 := by have := HL.out; omega
  have HSZ := Lib.hid (show B ≤ w2.drew.heap.size from Nat.le_trans HB.out k2.size)
  clear hw2 hcol1 k1 k2 k3 kd hc1 hf1 HG1
  go_region_law (first
    | (refine step_copied rfl (.const (.slice none 0 0)) (.tmp 19) rfl Tryd.underlying22 (.string ⟨#[]⟩) 1 info_str rfl (by decide) (L.map Value.string) rfl rfl HSRC.out (str_one _) hl3 hl4 ?_; intro v3 w3 h3 hg3 hat3; obtain ⟨p3, c3, rfl, _⟩ := h3.cells; have hbel3 : Below w2.drew.heap.size w2.drew w3 := below_none hg3; have hcl3 := (KD.out.below hbel3).st.cell (k := 1) (by omega); have hcl4 := (KD.out.below (hbel3.alloc hbel3.size (.cells #[.slice p3 L.length c3] 22))).st.cell (k := 1) (by omega); have H3 := Lib.hid h3; have HBEL3 := Lib.hid hbel3; have HAT3 := Lib.hid hat3; clear h3 hg3 hat3 hbel3)
    | (refine step_grew rfl (.tmp 18) (.tmp 21) rfl Tryd.underlying45 (.slice none 0 0) 1 info_list rfl (by decide) [.slice p3 L.length c3] 1 ⟨w3.heap.size, 0, none⟩ rfl rfl ((HW.out.below HBEL3.out).below ((Below.refl _ _).alloc (Nat.le_refl _) _)) rfl (by decide) cells_alloc (one_slice _ _ _) hl1 hl2 ?_; intro v5 w5 hg5; obtain ⟨hc5, hf5⟩ := (KD.out.below HBEL3.out).st.box_grew (k := 1) (by omega) (grown_alloc hg5.grown) (j := 1) (by omega); obtain ⟨p5, cp5, rfl, _⟩ := hg5.held.cells; have HG5 := Lib.hid (show Grew 22 1 (w3.alloc (.cells #[.slice p3 L.length c3] 22)) (put1 V 0 (Value.slice p1 (nf + 1) cp1) 1) nf 1 wl [Value.slice p3 L.length c3] (Value.slice p5 (nf + 1) cp5) w5 from hg5); clear hg5))
  all_goals
    go_wp2_with fail
    go_end0
    have e : nf = wl.length := HNF.out.trans HWL.out.symm
    rw [e] at HG5 HNF
    refine ⟨rfl, ?_⟩
    rw [e]
    exact takes_end (w2 := w2.drew) (y := .slice p n c) (L := L) (by rw [HWL.out]; simp) KD.out (K2.out.drewN 1) K3.out H3.out HBEL3.out HAT3.out HG5.out HSZ.out
end Go.Proofs.YtdbghgpohdijfaaDoor.Bk5
