/- WinternitzAbove: the law's walk and its plain law. -/
import Derived.Test.YtdgblimeehijpaaDoorWin3
import Derived.BigQuiet
namespace Go.Proofs.YtdgblimeehijpaaDoor
open Go.RowKit Go.Scr

theorem nibs_get : ∀ (d : List UInt8) (i : Nat), (nibs d).getD (2 * i) 0 = (d.getD i 0).toNat / 16 ∧ (nibs d).getD (2 * i + 1) 0 = (d.getD i 0).toNat % 16
  | [], i => by simp [nibs]
  | c :: d, 0 => by simp [nibs]
  | c :: d, i + 1 => by
    have h := nibs_get d i
    have e : nibs (c :: d) = c.toNat / 16 :: c.toNat % 16 :: nibs d := rfl
    rw [e, show 2 * (i + 1) = 2 * i + 1 + 1 by omega, List.getD_cons_succ, List.getD_cons_succ, List.getD_cons_succ, List.getD_cons_succ, List.getD_cons_succ]
    exact h
theorem nibs_inj {d e : List UInt8} (hl : d.length = e.length) (h : nibs d = nibs e) : d = e := by
  apply List.ext_getElem hl
  intro i h1 h2
  have ha := nibs_get d i
  have hb := nibs_get e i
  rw [h] at ha
  have e1 : d.getD i 0 = d[i] := by rw [List.getD_eq_getElem?_getD, List.getElem?_eq_getElem h1]; rfl
  have e2 : e.getD i 0 = e[i] := by rw [List.getD_eq_getElem?_getD, List.getElem?_eq_getElem h2]; rfl
  rw [← e1, ← e2]
  apply UInt8.toNat_inj.mp
  omega
theorem short_mono : ∀ (l m : List Nat), l.length = m.length → (∀ j, l.getD j 0 ≤ m.getD j 0) → (∀ x ∈ m, x < 16) → short m ≤ short l ∧ (short m = short l → l = m)
  | [], [], _, _, _ => by simp
  | [], _ :: _, h, _, _ => by simp at h
  | _ :: _, [], h, _, _ => by simp at h
  | a :: l, b :: m, hl, hj, hm => by
    have h0 : a ≤ b := by simpa using hj 0
    have ih := short_mono l m (by simpa using hl) (fun j => by simpa using hj (j + 1)) (fun x hx => hm x (List.mem_cons_of_mem _ hx))
    have hb := hm b List.mem_cons_self
    have e1 : short (a :: l) = (15 - a) + short l := by simp [short]
    have e2 : short (b :: m) = (15 - b) + short m := by simp [short]
    refine ⟨by omega, fun h => ?_⟩
    have : a = b := by omega
    subst this
    rw [ih.2 (by omega)]
theorem digs_low {d : List UInt8} (hd : d.length = 32) {j : Nat} (hj : j < 64) : (digs d).getD j 0 = (nibs d).getD j 0 := by
  unfold digs
  rw [List.getD_eq_getElem?_getD, List.getElem?_append_left (by rw [nibs_length]; omega), ← List.getD_eq_getElem?_getD]
theorem digs_high {d : List UInt8} (hd : d.length = 32) : (digs d).getD 64 0 = short (nibs d) / 256 ∧ (digs d).getD 65 0 = short (nibs d) / 16 % 16 ∧ (digs d).getD 66 0 = short (nibs d) % 16 := by
  have hl : (nibs d).length = 64 := by rw [nibs_length]; omega
  unfold digs
  refine ⟨?_, ?_, ?_⟩ <;> rw [List.getD_eq_getElem?_getD, List.getElem?_append_right (by omega), hl] <;> rfl
theorem digs_take {d : List UInt8} (hd : d.length = 32) : (digs d).take 64 = nibs d := by
  unfold digs
  rw [List.take_append_of_le_length (by rw [nibs_length]; omega), List.take_of_length_le (by rw [nibs_length]; omega)]
theorem nibs_short {d : List UInt8} (hd : d.length = 32) : short (nibs d) ≤ 960 := by
  have := short_le (nibs d)
  rw [nibs_length] at this
  omega
theorem digs_lt {d : List UInt8} (hd : d.length = 32) : ∀ x ∈ digs d, x < 16 := by
  intro x hx
  have hs := nibs_short hd
  unfold digs at hx
  rcases List.mem_append.mp hx with h | h
  · exact nibs_lt d x h
  · simp only [List.mem_cons, List.not_mem_nil, or_false] at h
    omega
/-- of two digests that are not the same each has a digit above the other one's -/
theorem above {d e : List UInt8} (hd : d.length = 32) (he : e.length = 32) (hne : d ≠ e) : ∃ j, j < 67 ∧ (digs e).getD j 0 < (digs d).getD j 0 := by
  apply Classical.byContradiction
  intro hall
  have hle : ∀ j, j < 67 → (digs d).getD j 0 ≤ (digs e).getD j 0 := fun j hj => Nat.le_of_not_lt fun h => hall ⟨j, hj, h⟩
  have hn : ∀ j, (nibs d).getD j 0 ≤ (nibs e).getD j 0 := fun j => by
    by_cases hj : j < 64
    · have := hle j (by omega)
      rwa [digs_low hd hj, digs_low he hj] at this
    · rw [List.getD_eq_getElem?_getD, List.getElem?_eq_none (by rw [nibs_length]; omega)]
      exact Nat.zero_le _
  obtain ⟨h1, h2⟩ := short_mono (nibs d) (nibs e) (by rw [nibs_length, nibs_length, hd, he]) hn (nibs_lt e)
  obtain ⟨d1, d2, d3⟩ := digs_high hd
  obtain ⟨e1, e2, e3⟩ := digs_high he
  have i1 := hle 64 (by omega)
  have i2 := hle 65 (by omega)
  have i3 := hle 66 (by omega)
  have s1 := nibs_short hd
  have s2 := nibs_short he
  exact hne (nibs_inj (by rw [hd, he]) (h2 (by omega)))
/-- some digit of the first k is above the other one's -/
def upTo (a b : List Nat) (k : Nat) : Bool := (List.range k).any fun j => decide (b.getD j 0 < a.getD j 0)
theorem upTo_succ (a b : List Nat) (k : Nat) : upTo a b (k + 1) = (upTo a b k || decide (b.getD k 0 < a.getD k 0)) := by
  unfold upTo
  rw [List.range_succ, List.any_append]
  simp
theorem upTo_above {d e : List UInt8} (hd : d.length = 32) (he : e.length = 32) (hne : d ≠ e) : upTo (digs d) (digs e) 67 = true := by
  obtain ⟨j, hj, h⟩ := above hd he hne
  unfold upTo
  rw [List.any_eq_true]
  exact ⟨j, List.mem_range.mpr hj, by simpa using h⟩
theorem upTo_same (a : List Nat) (k : Nat) : upTo a a k = false := by
  unfold upTo
  rw [List.any_eq_false]
  intro j _
  simp

/-- the digits that a block holds -/
def DigAt (w : World) (g : Nat) (a : List Nat) : Prop := ∀ j, j < 67 → w.cell? ⟨g, j, none⟩ = some (.int .i64 ((a.getD j 0 : Nat) : Int))
theorem DigAt.below {w w' : World} {g : Nat} {a : List Nat} (h : DigAt w g a) (hb : Below w.heap.size w w') : DigAt w' g a := fun j hj => (hb.cell (block_lt_of_cell (h j hj))).trans (h j hj)
theorem digAt_of_own {w : World} {B T g c : Nat} {d : List UInt8} (hd : d.length = 32) (h : w.ownsRow B T 1 (.slice (some ⟨g, 0, none⟩) 67 c) 67 (numV (digs d))) : DigAt w g (digs d) := fun j hj => by
  rw [owns_cell h hj, numV_get (by rw [digs_length d hd]; exact hj)]

set_option maxRecDepth 100000 in
set_option maxHeartbeats 1000000 in
theorem wabove_any (one two : ByteArray) (w : World) (ht : Tabs w) (hl1 : one.size ≤ 140737488355199) (hl2 : two.size ≤ 140737488355199) :
    Calls Tryd.prog 4 #[.string one, .string two] w fun e w' => e = .returned (.bool true) ∧ Below w.heap.size w w' := by
  have HT := Lib.hid ht
  obtain ⟨d, hd⟩ : ∃ d, d = dig one := ⟨_, rfl⟩
  obtain ⟨e, he⟩ : ∃ e, e = dig two := ⟨_, rfl⟩
  have hdl : d.length = 32 := by rw [hd]; exact dig_length _
  have hel : e.length = 32 := by rw [he]; exact dig_length _
  obtain ⟨a, ha⟩ : ∃ a, a = digs d := ⟨_, rfl⟩
  obtain ⟨b, hb⟩ : ∃ b, b = digs e := ⟨_, rfl⟩
  obtain ⟨D, hD⟩ : ∃ D, D = str d := ⟨_, rfl⟩
  obtain ⟨E, hE⟩ : ∃ E, E = str e := ⟨_, rfl⟩
  have hDs : D.size = 32 := by rw [hD, str_size, hdl]
  have hEs : E.size = 32 := by rw [hE, str_size, hel]
  have HD := Lib.hid hd
  have HE := Lib.hid he
  have HDL := Lib.hid hdl
  have HEL := Lib.hid hel
  have HA := Lib.hid ha
  have HB := Lib.hid hb
  have HDS := Lib.hid hD
  have HES := Lib.hid hE
  clear hd he hdl hel ha hb hD hE ht
  go_enter Tryd.func4, Tryd.ntmps4
  go_upto_region 6 with (first
    | (go_at_call 11; refine (wknown_any _ HT.out).mono ?_; rintro r w1 ⟨rfl, hb1⟩; have HB1 := Lib.hid hb1; clear hb1)
    | (go_at_call 12; with_reducible refine (wdigits_any one w1 (HT.out.below HB1.out) hl1).mono ?_; rintro r w2 ⟨ga, ca, rfl, hown, hb2⟩; have HA2 := Lib.hid (digAt_of_own (dig_length one) hown); have HB2 := Lib.hid (below_from HB1.out hb2 HB1.out.size); clear hb2 hown)
    | (go_at_call 12; with_reducible refine (wdigits_any two w2 (HT.out.below HB2.out) hl2).mono ?_; rintro r w3 ⟨gb, cb, rfl, hown, hb3⟩; have HA3 := Lib.hid (HA2.out.below hb3); have HD3 := Lib.hid (digAt_of_own (dig_length two) hown); have HB3 := Lib.hid (below_from HB2.out hb3 HB2.out.size); clear hb3 hown)
    | (go_at_call 14; with_reducible refine (dsumm_any one w3 (HT.out.below HB3.out) hl1).mono ?_; rintro r w4 ⟨rfl, hb4⟩; have HA4 := Lib.hid (HA3.out.below hb4); have HD4 := Lib.hid (HD3.out.below hb4); have HB4 := Lib.hid (below_from HB3.out hb4 HB3.out.size); clear hb4; rw [← HD.out, ← HDS.out])
    | (go_at_call 14; with_reducible refine (dsumm_any two w4 (HT.out.below HB4.out) hl2).mono ?_; rintro r w5 ⟨rfl, hb5⟩; have HA5 := Lib.hid (HA4.out.below hb5); have HD5 := Lib.hid (HD4.out.below hb5); have HB5 := Lib.hid (below_from HB4.out hb5 HB4.out.size); clear hb5; rw [← HE.out, ← HES.out]))
  have hDs' : (D.size : Int) = 32 := by omega
  have hEs' : (E.size : Int) = 32 := by omega
  have HA6 : Hid (DigAt w5 ga a) := by have := HA5.out; rwa [← HD.out, ← HA.out] at this
  have HB6 : Hid (DigAt w5 gb b) := by have := HD5.out; rwa [← HE.out, ← HB.out] at this
  have HLT : Hid ((∀ j, a.getD j 0 < 16) ∧ (∀ j, b.getD j 0 < 16)) := by
    constructor <;> intro j
    · rw [HA.out, List.getD_eq_getElem?_getD]
      cases h : (digs d)[j]? with
      | none => simp
      | some x => exact digs_lt HDL.out x (List.mem_of_getElem? h)
    · rw [HB.out, List.getD_eq_getElem?_getD]
      cases h : (digs e)[j]? with
      | none => simp
      | some x => exact digs_lt HEL.out x (List.mem_of_getElem? h)
  have HAL : Hid (a.length = 67) := by show _ = _; rw [HA.out]; exact digs_length d HDL.out
  clear HA5 HD5 HA4 HA3 HA2 HD4 HD3 HB4 HB3 HB2 HB1
  go_wp2_with fail
  clear hDs' hEs'
  go_loopw [10, 11, 12, 13] (fun u v t q wr => ∃ k : Nat, k ≤ 67 ∧ q = .int .i64 k ∧ u = .bool (upTo a b k) ∧ v = .bool (upTo b a k) ∧ t = .int .i64 ((short (a.take (min k 64)) : Nat) : Int) ∧ DigAt wr ga a ∧ DigAt wr gb b ∧ Below w.heap.size w wr) (fun _ _ _ q _ => 67 - (intOf q).toNat)
  case atStart => exact ⟨0, by omega, rfl, rfl, rfl, rfl, HA6.out, HB6.out, HB5.out⟩
  case round =>
    clear HA6 HB6 HB5
    obtain ⟨k, hk, rfl, rfl, rfl, rfl, hda, hdb, hbel⟩ := hrel
    have HDA := Lib.hid hda
    have HDB := Lib.hid hdb
    have HBEL := Lib.hid hbel
    clear hda hdb hbel
    obtain ⟨S, hS⟩ : ∃ S, S = short (a.take (min k 64)) := ⟨_, rfl⟩
    have hSb : S ≤ 960 := by
      rw [hS]
      have := short_le (a.take (min k 64))
      rw [List.length_take] at this
      omega
    obtain ⟨u, hu⟩ : ∃ u, u = upTo a b k := ⟨_, rfl⟩
    obtain ⟨v, hv⟩ : ∃ v, v = upTo b a k := ⟨_, rfl⟩
    rw [← hS, ← hu, ← hv]
    have HS := Lib.hid hS
    have HU := Lib.hid hu
    have HV := Lib.hid hv
    clear hS hu hv
    by_cases hlt : k < 67
    · obtain ⟨x, hx⟩ : ∃ x, x = a.getD k 0 := ⟨_, rfl⟩
      obtain ⟨y, hy⟩ : ∃ y, y = b.getD k 0 := ⟨_, rfl⟩
      have hxb : x < 16 := by rw [hx]; exact HLT.out.1 k
      have hcx : wr.cell? ⟨ga, k, none⟩ = some (.int .i64 (x : Int)) := by rw [hx]; exact HDA.out k hlt
      have hcy : wr.cell? ⟨gb, k, none⟩ = some (.int .i64 (y : Int)) := by rw [hy]; exact HDB.out k hlt
      have hx0 : ¬ ((x : Int) < 0) := by omega
      have hx15 : ¬ ((15 : Int) < (x : Int)) := by omega
      have HXV := Lib.hid hx
      have HYV := Lib.hid hy
      clear hx hy
      go_upto_region 16 with fail
      by_cases hk64 : k < 64 <;> rcases u with _ | _ <;> rcases v with _ | _
      all_goals
        go_quiet (fail)
        have HDA1 : Hid (DigAt (wr.drewN nq) ga a) := HDA.out
        have HDB1 : Hid (DigAt (wr.drewN nq) gb b) := HDB.out
        have HBEL1 : Hid (Below w.heap.size w (wr.drewN nq)) := below_drewN HBEL.out nq
        replace hcx := cell_drewN hcx nq
        replace hcy := cell_drewN hcy nq
        clear HDA HDB HBEL
        generalize wr.drewN nq = wq at *
        go_upto_region 17 with fail
        go_quiet (fail)
        have HDA2 : Hid (DigAt (wq.drewN nq) ga a) := HDA1.out
        have HDB2 : Hid (DigAt (wq.drewN nq) gb b) := HDB1.out
        have HBEL2 : Hid (Below w.heap.size w (wq.drewN nq)) := below_drewN HBEL1.out nq
        replace hcx := cell_drewN hcx nq
        replace hcy := cell_drewN hcy nq
        clear HDA1 HDB1 HBEL1
        generalize wq.drewN nq = wx at *
        go_wp2_with fail
      all_goals
        refine ⟨⟨k + 1, by omega, rfl, by rw [upTo_succ, ← HU.out, ← HXV.out, ← HYV.out]; simp, by rw [upTo_succ, ← HV.out, ← HXV.out, ← HYV.out]; simp, ?_, HDA2.out, HDB2.out, HBEL2.out⟩, (by show 67 - ((k : Int) + 1).toNat < 67 - (k : Int).toNat; omega)⟩
        first
          | (rw [show min (k + 1) 64 = k + 1 by omega, short_take (x := x) (by rw [HXV.out, List.getD_eq_getElem?_getD, List.getElem?_eq_getElem (by rw [HAL.out]; omega)]; rfl)]
             have := HS.out
             rw [show min k 64 = k by omega] at this
             rw [← this]
             congr 1
             omega)
          | (rw [show min (k + 1) 64 = min k 64 by omega, ← HS.out])
    · have HK := Lib.hid (show k = 67 by omega)
      have hSa : 256 * a.getD 64 0 + 16 * a.getD 65 0 + a.getD 66 0 = S := by
        have h1 := HS.out
        rw [HK.out, show min 67 64 = 64 from rfl, HA.out, digs_take HDL.out] at h1
        obtain ⟨d1, d2, d3⟩ := digs_high HDL.out
        rw [HA.out, d1, d2, d3, h1]
        have := nibs_short HDL.out
        omega
      have HSA := Lib.hid hSa
      have HU2 : Hid (u = upTo a b 67) := by have := HU.out; rwa [HK.out] at this
      have HV2 : Hid (v = upTo b a 67) := by have := HV.out; rwa [HK.out] at this
      clear hSa HS HU HV
      go_wp2_with fail
      go_loopw [14] (fun q wx => ∃ i : Nat, i ≤ 32 ∧ q = .int .i64 i ∧ DigAt wx ga a ∧ Below w.heap.size w wx) (fun q _ => 32 - (intOf q).toNat)
      case atStart => exact ⟨0, by omega, rfl, HDA.out, HBEL.out⟩
      case round =>
        clear HDA HDB HBEL
        obtain ⟨i, hi, rfl, hda, hbel⟩ := hrel
        have HDA := Lib.hid hda
        have HBEL := Lib.hid hbel
        clear hda hbel
        by_cases hi32 : i < 32
        · obtain ⟨x, hx⟩ : ∃ x, x = a.getD (2 * i) 0 := ⟨_, rfl⟩
          obtain ⟨y, hy⟩ : ∃ y, y = a.getD (2 * i + 1) 0 := ⟨_, rfl⟩
          obtain ⟨c, hc⟩ : ∃ c, c = d.getD i 0 := ⟨_, rfl⟩
          have hcx : wr.cell? ⟨ga, 2 * i, none⟩ = some (.int .i64 (x : Int)) := by rw [hx]; exact HDA.out _ (by omega)
          have hcy : wr.cell? ⟨ga, 2 * i + 1, none⟩ = some (.int .i64 (y : Int)) := by rw [hy]; exact HDA.out _ (by omega)
          have hck : ∀ (h : i < D.size), D[i] = c := fun h => by
            rw [hc, List.getD_eq_getElem?_getD, List.getElem?_eq_getElem (by rw [HDL.out]; exact hi32)]
            have e : D.data.toList = d := by rw [HDS.out, str_list]
            show D.data[i] = d[i]'_
            simp [← e]
          have hxy : 16 * (x : Int) + (y : Int) = (c.toNat : Int) := by
            have hl := nibs_get d i
            rw [hx, hy, HA.out, digs_low HDL.out (by omega), digs_low HDL.out (by omega), hl.1, hl.2, hc]
            omega
          have hxb : x < 16 := by rw [hx]; exact HLT.out.1 _
          have hyb : y < 16 := by rw [hy]; exact HLT.out.1 _
          have hcb : c.toNat < 256 := c.toNat_lt
          have ht1 : (2 * (i : Int)).toNat = 2 * i := by omega
          have ht2 : (2 * (i : Int) + 1).toNat = 2 * i + 1 := by omega
          have hb1 : 2 * (i : Int) < 67 := by omega
          have hb2 : 2 * (i : Int) + 1 < 67 := by omega
          have hb3 : (0 : Int) ≤ 2 * (i : Int) := by omega
          have hb4 : (0 : Int) ≤ 2 * (i : Int) + 1 := by omega
          have hb5 : (i : Int) < (D.size : Int) := by omega
          clear hx hy hc
          go_upto_region 23 with fail
          go_quiet (fail)
          have HDA2 : Hid (DigAt (wr.drewN nq) ga a) := HDA.out
          have HBEL2 : Hid (Below w.heap.size w (wr.drewN nq)) := below_drewN HBEL.out nq
          generalize wr.drewN nq = wx at *
          go_wp2_with fail
          exact ⟨⟨i + 1, by omega, rfl, HDA2.out, HBEL2.out⟩, (by show 32 - ((i : Int) + 1).toNat < 32 - (i : Int).toNat; omega)⟩
        · have hi33 : ¬ ((i : Int) < 32) := by omega
          obtain ⟨x, hx⟩ : ∃ x, x = a.getD 64 0 := ⟨_, rfl⟩
          obtain ⟨y, hy⟩ : ∃ y, y = a.getD 65 0 := ⟨_, rfl⟩
          obtain ⟨z, hz⟩ : ∃ z, z = a.getD 66 0 := ⟨_, rfl⟩
          have hcx : wr.cell? ⟨ga, 64, none⟩ = some (.int .i64 (x : Int)) := by rw [hx]; exact HDA.out _ (by omega)
          have hcy : wr.cell? ⟨ga, 65, none⟩ = some (.int .i64 (y : Int)) := by rw [hy]; exact HDA.out _ (by omega)
          have hcz : wr.cell? ⟨ga, 66, none⟩ = some (.int .i64 (z : Int)) := by rw [hz]; exact HDA.out _ (by omega)
          have hxyz : 256 * (x : Int) + 16 * (y : Int) + (z : Int) = (S : Int) := by
            have := HSA.out
            rw [hx, hy, hz]
            omega
          have hxb : x < 16 := by rw [hx]; exact HLT.out.1 _
          have hyb : y < 16 := by rw [hy]; exact HLT.out.1 _
          have hzb : z < 16 := by rw [hz]; exact HLT.out.1 _
          clear hx hy hz
          go_upto_region 25 with fail
          go_quiet (fail)
          have HBEL2 : Hid (Below w.heap.size w (wr.drewN nq)) := below_drewN HBEL.out nq
          generalize wr.drewN nq = wx at *
          by_cases hde : d = e
          · have hDE : D = E := by rw [HDS.out, HES.out, hde]
            have hu : u = false := by rw [HU2.out, HA.out, HB.out, hde]; exact upTo_same _ _
            have hv : v = false := by rw [HV2.out, HA.out, HB.out, hde]; exact upTo_same _ _
            clear hde
            subst hu hv hDE
            go_wp2_with fail
            go_ret
            exact ⟨rfl, HBEL2.out⟩
          · have hDE : (D.toList == E.toList) = false := by rw [ByteArray.toList_eq, ByteArray.toList_eq, HDS.out, HES.out, str_list, str_list]; simpa using hde
            have hu : u = true := by rw [HU2.out, HA.out, HB.out]; exact upTo_above HDL.out HEL.out hde
            have hv : v = true := by rw [HV2.out, HA.out, HB.out]; exact upTo_above HEL.out HDL.out (fun h => hde h.symm)
            clear hde
            subst hu hv
            go_wp2_with fail
            go_ret
            exact ⟨rfl, HBEL2.out⟩
end Go.Proofs.YtdgblimeehijpaaDoor
