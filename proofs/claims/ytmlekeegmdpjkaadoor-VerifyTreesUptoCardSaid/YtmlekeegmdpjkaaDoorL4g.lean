/- The law 4's helper path, walked. -/
import Derived.Test.YtmlekeegmdpjkaaDoorL4f
namespace Go.Proofs.YtmlekeegmdpjkaaDoor
open Go.RowKit Go.Scr
set_option linter.unusedVariables false

theorem wpList_copy_only {P : Program} {w : World} {ops : Array Oper} {rest : List Oper} {o : Oper} {a : Act} {Q : Exit → Act → World → Prop} (hgd : o.guard = none) (d s : Operand) (dT sT : TypeId)
    (ho : o.op = .call { callee := .builtin .copy, args := #[d, s], argTypes := #[dT, sT] }) (elem : TypeId) (hu : P.underlying dT = some (.slice elem)) (hsz : (P.info? elem).map (·.size) = some 1)
    (dp sp : Option Addr) (dLen dCap sLen sCap : Nat) (hd : a.eval d = .slice dp dLen dCap) (hs : a.eval s = .slice sp sLen sCap)
    (g off : Nat) (cur : List Value) (t : TypeId) (hg : w.heap[g]? = some (.cells cur.toArray t (0, 0))) (cs : List Value) (hn : cs.length = Nat.min sLen dLen)
    (hpos : 0 < cs.length → dp = some ⟨g, off, none⟩ ∧ ∃ ad, sp = some ad ∧ ∀ j v, cs[j]? = some v → w.cell? (ad.add j) = some v)
    (hfit : off + cs.length ≤ cur.length) (h1 : ∀ v ∈ cs, v.oneCell' = true)
    (h : ∀ w', Hid (w'.heap[g]? = some (.cells (splice cur off cs).toArray t (0, 0))) → w.grownBy w' (some g) → wpList P ops Q rest (a.put o.dst (goInt cs.length)) w') :
    wpList P ops Q (o :: rest) a w := by
  by_cases h0 : cs.length = 0
  · obtain rfl : cs = [] := List.eq_nil_of_length_eq_zero h0
    refine wpList_copy_nothing hgd d s dT sT ho elem hu hsz dp sp dLen dCap sLen sCap hd hs (by simpa using hn.symm) ?_
    exact h w (show _ = _ by simpa [splice] using hg) (only_refl _ _)
  · obtain ⟨rfl, ad, rfl, hsrc⟩ := hpos (by omega)
    refine wpList_copy_own hgd d s dT sT ho elem hu hsz g off dLen dCap ad sLen sCap hd hs cur.toArray t hg cs hn hsrc (by simpa using hfit) h1 ?_
    exact h _ (show _ = _ by simpa [splice] using setRow_heap w g _ _ t _ hg) (only_setRow (only_refl _ _) _)
theorem Txts.only {w w' : World} {p : Option Addr} {n c g : Nat} {L : List ByteArray} (h : Txts w (.slice p n c) L) (hg : w.grownBy w' (some g)) (hne : ∀ a, p = some a → g < a.block) : Txts w' (.slice p n c) L := by
  obtain ⟨q, c', he, h1, h2, h3⟩ := h
  cases he
  refine ⟨p, c, rfl, h1, h2, fun j s hs => ?_⟩
  obtain ⟨a, ha, hc⟩ := h3 j s hs
  have hb : w'.heap[(a.add j).block]? = w.heap[(a.add j).block]? := hg.block _ (block_lt_of_cell hc) (by rw [Addr_add_block]; have := hne a ha; intro h; have := Option.some.inj h; omega)
  exact ⟨a, ha, (World.cell?_of_block hb).trans hc⟩
theorem fill8_txts {w : World} {g : Nat} {L : List ByteArray} (h : SRow w g (fill8 L 8)) (hl : L.length ≤ 1048576) : Txts w (.slice (some ⟨g, 0, none⟩) L.length (L.length + 8)) L := by
  have hf := fill8_length L 8 (Nat.le_refl _)
  have := h.txts (n := L.length) (by omega) (by omega)
  rwa [fill8_take, hf] at this
theorem fill8_splice (L T : List ByteArray) (h : T.length = L.length) : splice ((fill8 L 8).map Value.string) 0 (T.map Value.string) = (fill8 T 8).map Value.string := by
  unfold splice fill8
  rw [List.take_zero, List.nil_append, Nat.zero_add, List.length_map, h, ← List.map_drop, List.drop_left, ← List.map_append]

set_option maxRecDepth 100000 in
set_option maxHeartbeats 4000000 in
theorem path4_any (s i : Int) (leaf : ByteArray) (v : Value) (L : List ByteArray) (root : ByteArray) (w : World) (ht : Tabs w) (hv : Txts w v L) (hl : L.length ≤ 1048576) (hs : ∀ s ∈ L, s.size ≤ 1048576) :
    Calls Tryd.prog 19 #[.int .i64 s, .int .i64 i, .string leaf, v, .string root] w fun e w' => e = .returned (.bool true) ∧ Below w.heap.size w w' := by
  have HT := Lib.hid ht
  have HV := Lib.hid hv
  have clent := lent4_any v L w hv hl
  have ckept := fun g w' (h : Txts w' v L) (hr : SRow w' g (fill8 L 8)) => kept4_any v L g w' h hr hl
  have cturn := fun w' (h : Txts w' v L) => (turned4_any v L w' h hl hs).mono (R' := fun e w'' => ∃ px cx, e = .returned (.slice px L.length cx) ∧ Txts w'' (.slice px L.length cx) (turnL L) ∧ (∀ a, px = some a → w'.heap.size ≤ a.block) ∧ Below w'.heap.size w' w'') (fun e w'' h => by
    obtain ⟨x, rfl, hown, hb⟩ := h
    have htx := txts_own hown (by rw [turnL_length]; omega)
    obtain ⟨px, cx, hx, _⟩ := htx
    rw [turnL_length] at hx
    subst hx
    refine ⟨px, cx, rfl, txts_own hown (by rw [turnL_length]; omega), fun a ha => ?_, hb⟩
    subst ha
    rcases hown.2 with ⟨h0, _⟩ | ⟨g', cap, cur, he, hB, _⟩
    · cases h0
    · cases he; exact hB)
  obtain ⟨T, hT⟩ : ∃ T, T = turnL L := ⟨_, rfl⟩
  have hTl : T.length = L.length := by rw [hT, turnL_length]
  rw [← hT] at cturn
  have HSP := Lib.hid (fill8_splice L T hTl)
  have HTXL := Lib.hid (fun g w' (h : SRow w' g (fill8 L 8)) => fill8_txts h hl)
  have htxt := fun g w' (h : SRow w' g (fill8 T 8)) => fill8_txts h (by omega)
  rw [hTl] at htxt
  have HTXT := Lib.hid htxt
  have HNMIN := Lib.hid (show (T.map Value.string).length = Nat.min L.length L.length by rw [List.length_map, hTl]; exact (Nat.min_self _).symm)
  have HFIT := Lib.hid (show 0 + (T.map Value.string).length ≤ ((fill8 L 8).map Value.string).length by rw [List.length_map, List.length_map, fill8_length L 8 (Nat.le_refl _)]; omega)
  have c1 := fun x w' (ht : Tabs w') (h : Txts w' x L) => rootof_any s i leaf x L w' ht h hl
  have c1r := fun x w' (h : Txts w' x L) => rootof4_any s i leaf x L w' h hl
  have c2 := fun x w' (ht : Tabs w') (h : Txts w' x T) => rootof_any s i leaf x T w' ht h (by omega)
  have c2r := fun x w' (h : Txts w' x T) => rootof4_any s i leaf x T w' h (by omega)
  obtain ⟨R1, hR1⟩ : ∃ R, R = rootOfS s i leaf L := ⟨_, rfl⟩
  obtain ⟨R2, hR2⟩ : ∃ R, R = rootOfS s i leaf T := ⟨_, rfl⟩
  rw [← hR1] at c1 c1r
  rw [← hR2] at c2 c2r
  have i1 := fun x w' (ht : Tabs w') (h : Txts w' x L) => inclusion_any s i leaf x L root w' ht h hl
  have i1r := fun x w' (h : Txts w' x L) => inclusion4_any s i leaf x L root w' h hl
  have i2 := fun x w' (ht : Tabs w') (h : Txts w' x L) => inclusion_any s i leaf x L R1 w' ht h hl
  have i2r := fun x w' (h : Txts w' x L) => inclusion4_any s i leaf x L R1 w' h hl
  have i3 := fun x w' (ht : Tabs w') (h : Txts w' x T) => inclusion_any s i leaf x T R1 w' ht h (by omega)
  have i3r := fun x w' (h : Txts w' x T) => inclusion4_any s i leaf x T R1 w' h (by omega)
  generalize rootOfE s i leaf L = E1 at c1 c1r
  generalize rootOfE s i leaf T = E2 at c2 c2r
  generalize inclS s i leaf L root = V1 at i1 i1r
  generalize inclS s i leaf L R1 = V2 at i2 i2r
  generalize inclS s i leaf T R1 = V3 at i3 i3r
  obtain ⟨p, c, rfl, hv1, hv2, hv3⟩ := hv
  obtain ⟨n, hn⟩ : ∃ n, n = L.length := ⟨_, rfl⟩
  have HN := Lib.hid hn
  rw [← hn] at clent ckept cturn HTXL HTXT HNMIN HV hl
  rw [← hn]
  have CLENT := Lib.hid clent
  have CKEPT := Lib.hid ckept
  have CTURN := Lib.hid cturn
  have C1 := Lib.hid c1
  have C1R := Lib.hid c1r
  have C2 := Lib.hid c2
  have C2R := Lib.hid c2r
  have I1 := Lib.hid i1
  have I1R := Lib.hid i1r
  have I2 := Lib.hid i2
  have I2R := Lib.hid i2r
  have I3 := Lib.hid i3
  have I3R := Lib.hid i3r
  have hnb : n ≤ 1048576 := hl
  have hn8 : (n : Int) ≤ (n : Int) + 8 := by omega
  clear clent ckept cturn hT hTl htxt c1 c1r c2 c2r i1 i1r i2 i2r i3 i3r hR1 hR2 hv1 hv2 hv3 hs ht hn hl
  go_enter Tryd.func19, Tryd.ntmps19
  go_wp2_with (first
    | (go_at_call 62; with_reducible refine (CLENT.out).mono ?_; rintro r w1 ⟨g, rfl, hg, hr, hb⟩; have HB1 := Lib.hid hb; have HR1 := Lib.hid hr; have HG := Lib.hid hg; clear hb hr hg)
    | (go_at_call 24; with_reducible refine (C1.out _ w1 (HT.out.below HB1.out) (HTXL.out g w1 HR1.out)).mono ?_; rintro r w2 ⟨rfl, hb⟩; have HB2 := Lib.hid (below_from HB1.out hb HB1.out.size); have HR2 := Lib.hid (HR1.out.below hb HR1.out.lt); clear hb)
    | (go_at_call 63; with_reducible refine (C1R.out _ w2 (HV.out.below HB2.out (Nat.le_refl _))).mono ?_; rintro r w3 ⟨rfl, hb⟩; have HB3 := Lib.hid (below_from HB2.out hb HB2.out.size); have HR3 := Lib.hid (HR2.out.below hb HR2.out.lt); clear hb)
    | (go_at_call 25; with_reducible refine (I1.out _ w3 (HT.out.below HB3.out) (HTXL.out g w3 HR3.out)).mono ?_; rintro r w4 ⟨rfl, hb⟩; have HB4 := Lib.hid (below_from HB3.out hb HB3.out.size); have HR4 := Lib.hid (HR3.out.below hb HR3.out.lt); clear hb)
    | (go_at_call 64; with_reducible refine (I1R.out _ w4 (HV.out.below HB4.out (Nat.le_refl _))).mono ?_; rintro r w5 ⟨rfl, hb⟩; have HB5 := Lib.hid (below_from HB4.out hb HB4.out.size); have HR5 := Lib.hid (HR4.out.below hb HR4.out.lt); clear hb)
    | (go_at_call 25; with_reducible refine (I2.out _ w5 (HT.out.below HB5.out) (HTXL.out g w5 HR5.out)).mono ?_; rintro r w6 ⟨rfl, hb⟩; have HB6 := Lib.hid (below_from HB5.out hb HB5.out.size); have HR6 := Lib.hid (HR5.out.below hb HR5.out.lt); clear hb)
    | (go_at_call 64; with_reducible refine (I2R.out _ w6 (HV.out.below HB6.out (Nat.le_refl _))).mono ?_; rintro r w7 ⟨rfl, hb⟩; have HB7 := Lib.hid (below_from HB6.out hb HB6.out.size); have HR7 := Lib.hid (HR6.out.below hb HR6.out.lt); clear hb)
    | (go_at_call 65; with_reducible refine (CKEPT.out g w7 (HV.out.below HB7.out (Nat.le_refl _)) HR7.out).mono ?_; rintro r w8 ⟨rfl, hb⟩; have HB8 := Lib.hid (below_from HB7.out hb HB7.out.size); have HR8 := Lib.hid (HR7.out.below hb HR7.out.lt); clear hb)
    | (go_at_call 66; with_reducible refine (CTURN.out w8 (HV.out.below HB8.out (Nat.le_refl _))).mono ?_; rintro r w9 ⟨px, cx, rfl, hx, hxa, hb⟩; have HXA := Lib.hid (fun a ha => Nat.lt_of_lt_of_le HR8.out.lt (hxa a ha)); have HB9 := Lib.hid (below_from HB8.out hb HB8.out.size); have HR9 := Lib.hid (HR8.out.below hb HR8.out.lt); have HX9 := Lib.hid hx; clear hb hx hxa)
    | ((with_reducible refine wpList_copy_only (o := ⟨some 98, _, _, _, _, _⟩) rfl (.tmp 96) (.tmp 97) 27 27 rfl 9 Tryd.underlying27 hsz_str (some ⟨g, 0, none⟩) px n (n + 8) n cx ?_ ?_ g 0 ((fill8 L 8).map Value.string) 9 ?_ (T.map Value.string) HNMIN.out (copy_src (g := g) HX9.out (Below.refl w9.heap.size w9) (Nat.le_refl _)) HFIT.out (str_one _) ?_); rfl; rfl; exact HR9.out; intro w10 hrow10 hb10; rw [HSP.out] at hrow10; have HR10 : Hid (SRow w10 g (fill8 T 8)) := hrow10.out; have HB10 := Lib.hid (below_only HB9.out hb10 HB9.out.size HG.out); have HX10 := Lib.hid (HX9.out.only hb10 HXA.out); clear hrow10 hb10)
    | (go_at_call 24; with_reducible refine (C2.out _ w10 (HT.out.below HB10.out) (HTXT.out g w10 HR10.out)).mono ?_; rintro r w11 ⟨rfl, hb⟩; have HB11 := Lib.hid (below_from HB10.out hb HB10.out.size); have HR11 := Lib.hid (HR10.out.below hb HR10.out.lt); have HX11 := Lib.hid (HX10.out.below hb (Nat.le_refl _)); clear hb)
    | (go_at_call 25; with_reducible refine (I3.out _ w11 (HT.out.below HB11.out) (HTXT.out g w11 HR11.out)).mono ?_; rintro r w12 ⟨rfl, hb⟩; have HB12 := Lib.hid (below_from HB11.out hb HB11.out.size); have HR12 := Lib.hid (HR11.out.below hb HR11.out.lt); have HX12 := Lib.hid (HX11.out.below hb (Nat.le_refl _)); clear hb)
    | (go_at_call 64; with_reducible refine (I3R.out _ w12 (HX12.out)).mono ?_; rintro r w13 ⟨rfl, hb⟩; have HB13 := Lib.hid (below_from HB12.out hb HB12.out.size); have HR13 := Lib.hid (HR12.out.below hb HR12.out.lt); have HX13 := Lib.hid (HX12.out.below hb (Nat.le_refl _)); clear hb)
    | (go_at_call 63; with_reducible refine (C2R.out _ w13 (HX13.out)).mono ?_; rintro r w14 ⟨rfl, hb⟩; have HB14 := Lib.hid (below_from HB13.out hb HB13.out.size); have HR14 := Lib.hid (HR13.out.below hb HR13.out.lt); clear hb))
  go_ret
  exact ⟨rfl, HB14.out⟩
end Go.Proofs.YtmlekeegmdpjkaaDoor
