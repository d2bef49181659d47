/- DigestCuts: the law's walk. -/
import Derived.Test.YtdgblimeehijpaaDoorDNodes
namespace Go.Proofs.YtdgblimeehijpaaDoor
open Go.RowKit Go.Scr
set_option linter.unusedVariables false

/-- which of n things the raw number speaks of -/
def pickN (c : Int) (n : Nat) : Nat := (if c < 0 then -(c + 1) else c).toNat % n
theorem pickN_lt (c : Int) {n : Nat} (h : 0 < n) : pickN c n < n := Nat.mod_lt _ h

set_option maxRecDepth 100000 in
set_option maxHeartbeats 400000 in
theorem pick1_any (c : Int) (n : Nat) (w : World) (hn : 0 < n) (hn2 : n ≤ 9223372036854775807) (hc : -9223372036854775808 ≤ c ∧ c ≤ 9223372036854775807) :
    Calls Tryd.prog 28 #[.int .i64 c, .int .i64 n] w fun e w' => e = .returned (.int .i64 ((pickN c n : Nat) : Int)) ∧ w' = w := by
  have hn0 : ¬ ((n : Int) = 0) := by omega
  obtain ⟨m, hm⟩ : ∃ m, m = pickN c n := ⟨_, rfl⟩
  rw [← hm]
  by_cases h : c < 0
  · obtain ⟨k, hk⟩ : ∃ k : Nat, (k : Int) = -(c + 1) := ⟨(-(c + 1)).toNat, by omega⟩
    have e1 : -(c + 1) = (k : Int) := hk.symm
    have hkm : m = k % n := by rw [hm]; unfold pickN; rw [if_pos h, ← hk]; rfl
    have e2 : (k : Int).tmod (n : Int) = (m : Int) := by rw [Int.tmod_eq_emod_of_nonneg (Int.natCast_nonneg _), hkm]; rfl
    have hk2 : k ≤ 9223372036854775807 := by omega
    clear hm hk hkm
    go_enter Tryd.func28, Tryd.ntmps28
    go_wp2
    go_ret
    exact ⟨rfl, rfl⟩
  · obtain ⟨k, hk⟩ : ∃ k : Nat, (k : Int) = c := ⟨c.toNat, by omega⟩
    have hkm : m = k % n := by rw [hm]; unfold pickN; rw [if_neg h, ← hk]; rfl
    subst hk
    have e2 : (k : Int).tmod (n : Int) = (m : Int) := by rw [Int.tmod_eq_emod_of_nonneg (Int.natCast_nonneg _), hkm]; rfl
    have h' : ¬ ((k : Int) < 0) := by omega
    clear hm hkm
    go_enter Tryd.func28, Tryd.ntmps28
    go_wp2
    go_ret
    exact ⟨rfl, rfl⟩

/-- numbers that can be read, in order -/
def Ints (w : World) (v : Value) (L : List Int) : Prop :=
  ∃ (p : Option Addr) (c : Nat), v = .slice p L.length c ∧ L.length ≤ c ∧ L.length ≤ 281474976710656 ∧ (∀ z ∈ L, -9223372036854775808 ≤ z ∧ z ≤ 9223372036854775807) ∧ ∀ j z, L[j]? = some z → ∃ a, p = some a ∧ w.cell? (a.add j) = some (.int .i64 z)
theorem txts_owned {w : World} {B T n g c : Nat} {L : List ByteArray} (h : w.ownsRow B T 1 (.slice (some ⟨g, 0, none⟩) n c) n (L.map Value.string)) (hn : n = L.length) (hc : L.length ≤ 281474976710656) : Txts w (.slice (some ⟨g, 0, none⟩) n c) L := by
  subst hn
  refine ⟨_, c, rfl, ?_, hc, fun j s hs => ⟨_, rfl, ?_⟩⟩
  · rcases h.2 with ⟨h0, _⟩ | ⟨g', cap, cur, h1, _, _, h2, _⟩
    · cases h0
    · simp only [Value.slice.injEq] at h1
      omega
  · have hadd : (⟨g, 0, none⟩ : Addr).add j = ⟨g, j, none⟩ := by unfold Addr.add; split <;> simp_all
    obtain ⟨hj, rfl⟩ := List.getElem?_eq_some_iff.mp hs
    rw [hadd, owns_cell h hj, List.getElem?_map, List.getElem?_eq_getElem hj]
    rfl
theorem cat_snoc (P : List ByteArray) (X : ByteArray) : cat (P ++ [X]) = cat P ++ X.data.toList := by simp [cat]
theorem info_str : (Tryd.prog.info? 9).map (fun i => (i.zero, i.size, i.bytes)) = some (some (.string ⟨#[]⟩), 1, 16) := by kernel_rfl
theorem str_one (P : List ByteArray) : ∀ u ∈ P.map Value.string, u.oneCell' = true := by
  intro u hu
  obtain ⟨x, _, rfl⟩ := List.mem_map.mp hu
  rfl

theorem Hm.only {w w' : World} {c h : Nat} {m : List UInt8} (hm : Hm w c m) (hg : w.grownBy w' (some h)) (hne : c ≠ h) : Hm w' c m := by
  obtain ⟨rest, h1, h2, h3⟩ := hm
  exact ⟨rest, h1, h2, blk_only h3 hg (fun e => hne (Option.some.inj e))⟩
theorem owns_only {w w' : World} {B T sz n g h c : Nat} {l : List Value} (ho : w.ownsRow B T sz (.slice (some ⟨g, 0, none⟩) n c) n l) (hg : w.grownBy w' (some h)) (hne : g ≠ h) : w'.ownsRow B T sz (.slice (some ⟨g, 0, none⟩) n c) n l :=
  ho.kept hg (.inr (fun e => hne (Option.some.inj e)))
set_option maxRecDepth 100000 in
set_option maxHeartbeats 2000000 in
theorem dcuts_any (s : ByteArray) (cv : Value) (L : List Int) (w : World) (ht : Tabs w) (hcv : Ints w cv L) (hs : s.size ≤ 1048576) (hL : L.length ≤ 1048576) :
    Calls Tryd.prog 10 #[.string s, cv] w fun e w' => e = .returned (.bool true) ∧ Below w.heap.size w w' := by
  have HT := Lib.hid ht
  obtain ⟨p, cc, rfl, hcl, _, hcw, hcr⟩ := hcv
  obtain ⟨n, hn⟩ : ∃ n, n = L.length := ⟨_, rfl⟩
  have HCW := Lib.hid hcw
  have HCR := Lib.hid hcr
  have HN := Lib.hid hn
  rw [← hn] at hL hcl ⊢
  obtain ⟨d, hd⟩ : ∃ d, d = s.data.toList := ⟨_, rfl⟩
  have hdl : d.length = s.size := by rw [hd]; simp
  obtain ⟨D, hD⟩ : ∃ D, D = str (sha d) := ⟨_, rfl⟩
  have hDs : D.size = 32 := by rw [hD, str_size, sha_length]
  have c1 := fun w (h : Tabs w) => sum_any (.slice (some ⟨w.heap.size, 0, none⟩) 1 1) [s] (w.alloc (.cells #[.string s] 9)) (h.below ((Below.refl _ _).alloc (Nat.le_refl _) _)) (txts_alloc w 9 [s] (by simp)) (by simp [cat]; omega)
  rw [show (⟨(sha (cat [s])).toArray⟩ : ByteArray) = D by rw [hD, hd]; simp [cat, str]] at c1
  have C1 := Lib.hid c1
  have HD := Lib.hid hd
  have HDL := Lib.hid hdl
  have HDD := Lib.hid hD
  have HB0 := Lib.hid (Below.refl w.heap.size w)
  clear ht hcw hcr hn hd hdl hD c1 hcl
  go_enter Tryd.func10, Tryd.ntmps10
  go_wp2_with (first
    | (go_at_call 15; with_reducible refine (known1_any w HT.out).mono ?_; rintro r w1 ⟨rfl, hb⟩; have HB1 := Lib.hid hb; clear hb)
    | (go_at_call 38; refine (new_any w1 (HT.out.below HB1.out)).mono ?_; rintro r w2 ⟨h, rfl, hh, hm, hb⟩; have HB2 := Lib.hid (below_from HB1.out hb HB1.out.size); have HM2 := Lib.hid hm; have HH := Lib.hid hh; clear hb hh hm)
    | (go_at_call 14; with_reducible refine (C1.out w2 (HT.out.below HB2.out)).mono ?_; rintro r w3 ⟨rfl, hb⟩; have hb' := below_from ((Below.refl _ _).alloc (Nat.le_refl _) _) hb (by simp); have HB3 := Lib.hid (below_from HB2.out hb' HB2.out.size); have HM3 := Lib.hid (HM2.out.below hb' HM2.out.lt); have HF0 := Lib.hid hb'.size; clear hb hb'))
  have hne : h ≠ 1 ∧ h ≠ 0 := by have := HT.out.lt; have := HB1.out.size; have := HH.out; omega
  have HNE := Lib.hid hne
  obtain ⟨F, hF⟩ : ∃ F, F = w3.heap.size := ⟨_, rfl⟩
  have HF := Lib.hid (show F ≤ w3.heap.size by omega)
  have HHF := Lib.hid (show h < F by have := HM2.out.lt; have := HF0.out; omega)
  have HFW := Lib.hid (show w.heap.size ≤ F by have := HB3.out.size; omega)
  have HHW := Lib.hid (show w.heap.size ≤ h by have := HB1.out.size; have := HH.out; omega)
  clear hne hF HM2 HB2 HB1 HF0
  go_loopw [8, 9, 10] (fun v x q wr => ∃ (k at_ : Nat) (P : List ByteArray), k ≤ n ∧ at_ ≤ s.size ∧ x = .int .i64 at_ ∧ q = .int .i64 k ∧ Hid (P.length = k) ∧ Hid (cat P = d.take at_) ∧ wr.ownsRow F 9 1 v k (P.map Value.string) ∧ Hm wr h (d.take at_) ∧ Below w.heap.size w wr ∧ F ≤ wr.heap.size) (fun _ _ q _ => n - (intOf q).toNat)
  case atStart => exact ⟨0, 0, [], by omega, by omega, rfl, rfl, rfl, rfl, World.ownsRow_nil _ _ _ _, HM3.out, HB3.out, HF.out⟩
  case round =>
    clear HM3 HB3 HF
    obtain ⟨k, at_, P, hk, hat, rfl, rfl, hPl, hPc, hown, hm, hbel, hsz⟩ := hrel
    have HPL := Lib.hid hPl.out
    have HPC := Lib.hid hPc.out
    have HOWN := Lib.hid hown
    have HM := Lib.hid hm
    have HBEL := Lib.hid hbel
    have HSZ := Lib.hid hsz
    clear hPl hPc hown hm hbel hsz
    by_cases hlt : k < n
    · obtain ⟨z, hz⟩ : ∃ z, L[k]? = some z := ⟨L[k]'(by rw [← HN.out]; exact hlt), List.getElem?_eq_getElem _⟩
      obtain ⟨a, rfl, hc⟩ := HCR.out k z hz
      have hcell : wr.cell? (a.add k) = some (.int .i64 z) := (HBEL.out.cell (block_lt_of_cell hc)).trans hc
      have hzw := HCW.out z (List.mem_of_getElem? hz)
      obtain ⟨q, hq⟩ : ∃ q, q = s.size - at_ + 1 := ⟨_, rfl⟩
      have hqq : (s.size : Int) - (at_ : Int) + 1 = (q : Int) := by omega
      have hq0 : 0 < q := by omega
      have hqb : q ≤ 1048577 := by omega
      obtain ⟨m, hm⟩ : ∃ m, m = pickN z q := ⟨_, rfl⟩
      have hmq : m < q := by rw [hm]; exact pickN_lt z hq0
      have hpick := fun w' => pick1_any z q w' hq0 (by omega) hzw
      rw [← hm] at hpick
      have HPICK := Lib.hid hpick
      obtain ⟨e, he⟩ : ∃ e, e = at_ + m := ⟨_, rfl⟩
      have hee : (at_ : Int) + (m : Int) = (e : Int) := by omega
      have hes : e ≤ s.size := by omega
      have hae : (at_ : Int) ≤ (e : Int) := by omega
      have hes' : (e : Int) ≤ (s.size : Int) := by omega
      have hks : (k : Int) < (n : Int) := by omega
      obtain ⟨X, hX⟩ : ∃ X : ByteArray, X = s.extract at_ e := ⟨_, rfl⟩
      have hXs : X.size = e - at_ := by rw [hX, ByteArray.size_extract]; omega
      have hXl : d.take e = d.take at_ ++ X.data.toList := by
        rw [hX, ByteArray.data_extract, Array.toList_extract, List.extract_eq_take_drop, ← HD.out, show e = at_ + (e - at_) by omega, List.take_add, show at_ + (e - at_) - at_ = e - at_ by omega]
      have hXr : s.extract at_ e = X := hX.symm
      have HXL := Lib.hid hXl
      have hwl : (d.take at_).length + X.size ≤ 1152921504606846976 := by rw [List.length_take]; omega
      have HWL := Lib.hid hwl
      have hk1 : 0 < k + 1 := by omega
      have hk2 : (k + 1) * 16 ≤ 140737488355328 := by omega
      have hk3 : k + 1 ≤ 140737488355328 := by omega
      clear hz hc hm hpick he hX hXl hq hwl
      go_wp2_with (first
        | (go_at_call 28; with_reducible refine (HPICK.out _).mono ?_; rintro r w4 ⟨rfl, rfl⟩)
        | (at_builtin; refine wpList_appendV rfl _ _ rfl Tryd.underlying23 (.string ⟨#[]⟩) 1 info_str rfl (by decide) ([X].map Value.string) 1 (k + 1) rfl rfl HOWN.out rfl rfl (str_one _) HBEL.out HFW.out HSZ.out rfl hk1 hk2 hk3 ?_; intro g' c' w5 hg' hown' hb' hsz' hgr'; have HOWN' := Lib.hid hown'; have HB5 := Lib.hid hb'; have HSZ5 := Lib.hid hsz'; have HBF := Lib.hid ((Below.refl F _).grown hgr' HSZ.out (fun q hq => (World.ownsRow.lt HOWN.out q hq).1)); have HGF := Lib.hid hg'; clear hown' hb' hsz' hgr' hg')
        | (go_at_call 39; refine (write_any h (d.take at_) X _ (HM.out.below HBF.out HHF.out) (HT.out.below HB5.out) HWL.out HNE.out.1 HNE.out.2).mono ?_; rintro r w6 ⟨rfl, hm6, hg6⟩; have HM6 := Lib.hid hm6; have HG6 := Lib.hid hg6; clear hm6 hg6))
      refine ⟨⟨k + 1, e, P ++ [X], by omega, hes, rfl, rfl, (by show _ = _; rw [List.length_append, HPL.out]; rfl), (by show _ = _; rw [cat_snoc, HPC.out, HXL.out]), ?_, (by rw [HXL.out]; exact HM6.out), below_only HB5.out HG6.out (by have := HB5.out.size; omega) HHW.out, Nat.le_trans HSZ.out (Nat.le_trans HSZ5.out HG6.out.size)⟩, (by show n - ((k : Int) + 1).toNat < n - (k : Int).toNat; omega)⟩
      rw [List.map_append]
      exact owns_only HOWN'.out HG6.out (by have := HGF.out; have := HHF.out; omega)
    · have hks : ¬ ((k : Int) < (n : Int)) := by omega
      have ha0 : (0 : Int) ≤ (at_ : Int) := by omega
      have has : (at_ : Int) ≤ (s.size : Int) := by omega
      obtain ⟨Y, hY⟩ : ∃ Y : ByteArray, Y = s.extract at_ s.size := ⟨_, rfl⟩
      have hYs : Y.size = s.size - at_ := by rw [hY, ByteArray.size_extract]; omega
      have hYl : d = d.take at_ ++ Y.data.toList := by rw [hY, extract_tail, ← HD.out, List.take_append_drop]
      have hYr : s.extract at_ s.size = Y := hY.symm
      have HYL := Lib.hid hYl
      have hw1 : (d.take at_).length + Y.size ≤ 1152921504606846976 := by rw [List.length_take]; omega
      have hw2 : (d.take at_).length + (⟨#[111, 116, 104, 101, 114]⟩ : ByteArray).size ≤ 1152921504606846976 := by rw [List.length_take]; show _ + 5 ≤ _; omega
      have hw3 : (d.take at_ ++ [111, 116, 104, 101, 114]).length + s.size ≤ 1152921504606846976 := by rw [List.length_append, List.length_take]; show _ + 5 + _ ≤ _; omega
      have hdd : d.length ≤ 1000000000000000000 := by rw [HDL.out]; omega
      have HW1 := Lib.hid hw1
      have HW2 := Lib.hid hw2
      have HW3 := Lib.hid hw3
      have HDDL := Lib.hid hdd
      have HCAT : Hid (cat (P ++ [Y]) = d) := by show _ = _; rw [cat_snoc, HPC.out, ← HYL.out]
      have HPYL : Hid ((P ++ [Y]).length = k + 1) := by show _ = _; rw [List.length_append, HPL.out]; rfl
      have hk1 : 0 < k + 1 := by omega
      have hk2 : (k + 1) * 16 ≤ 140737488355328 := by omega
      have hk3 : k + 1 ≤ 140737488355328 := by omega
      have hDS : (⟨(sha d).toArray⟩ : ByteArray) = D := HDD.out.symm
      have HDS := Lib.hid hDS
      have HTL := Lib.hid HT.out.lt
      clear hY hYl hw1 hw2 hw3 hdd hDS
      go_wp2_with (first
        | (at_builtin; refine wpList_appendV rfl _ _ rfl Tryd.underlying23 (.string ⟨#[]⟩) 1 info_str rfl (by decide) ([Y].map Value.string) 1 (k + 1) rfl rfl HOWN.out rfl rfl (str_one _) HBEL.out HFW.out HSZ.out rfl hk1 hk2 hk3 ?_; intro g' c' w5 hg' hown' hb' hsz' hgr'; have HOWN5 := Lib.hid hown'; have HB5 := Lib.hid hb'; have HSZ5 := Lib.hid hsz'; have HM5 := Lib.hid (HM.out.below ((Below.refl F _).grown hgr' HSZ.out (fun q hq => (World.ownsRow.lt HOWN.out q hq).1)) HHF.out); have HGF := Lib.hid hg'; clear hown' hb' hsz' hgr' hg')
        | (go_at_call 42; refine (hclone_any h (d.take at_) w5 HM5.out).mono ?_; rintro r w6 ⟨c6, rfl, hc6, hm6, hb6⟩; have HM6 := Lib.hid hm6; have HB6 := Lib.hid (below_from HB5.out hb6 HB5.out.size); have HC6 := Lib.hid hc6; have HMH6 := Lib.hid (HM5.out.below hb6 HM5.out.lt); have HOWN6 := Lib.hid (owns_below HOWN5.out hb6 (Nat.le_refl _)); have HNC := Lib.hid (show c6 ≠ h by have := HM5.out.lt; omega); have HNG := Lib.hid (show g' ≠ c6 by have := (World.ownsRow.lt HOWN5.out g' rfl).2; omega); have HNT := Lib.hid (show c6 ≠ 1 ∧ c6 ≠ 0 by have := HTL.out; have := HB5.out.size; omega); have HCW := Lib.hid (show w.heap.size ≤ c6 by have := HB5.out.size; omega); clear hc6 hm6 hb6)
        | (go_at_call 39; with_reducible refine (write_any h (d.take at_) Y w6 HMH6.out (HT.out.below HB6.out) HW1.out HNE.out.1 HNE.out.2).mono ?_; rintro r w7 ⟨rfl, hm7, hg7⟩; have HMH7 := Lib.hid hm7; have HM7 := Lib.hid (HM6.out.only hg7 HNC.out); have HOWN7 := Lib.hid (owns_only HOWN6.out hg7 (show g' ≠ h by have := HGF.out; have := HHF.out; omega)); have HB7 := Lib.hid (below_only HB6.out hg7 (by have := HB6.out.size; omega) HHW.out); clear hm7 hg7)
        | (go_at_call 39; with_reducible refine (write_any c6 (d.take at_) ⟨#[111, 116, 104, 101, 114]⟩ w7 HM7.out (HT.out.below HB7.out) HW2.out HNT.out.1 HNT.out.2).mono ?_; rintro r w8 ⟨rfl, hm8, hg8⟩; have HM8 := Lib.hid hm8; have HMH8 := Lib.hid (HMH7.out.only hg8 (Ne.symm HNC.out)); have HOWN8 := Lib.hid (owns_only HOWN7.out hg8 HNG.out); have HB8 := Lib.hid (below_only HB7.out hg8 (by have := HB7.out.size; omega) HCW.out); clear hm8 hg8)
        | (go_at_call 39; with_reducible refine (write_any c6 _ s w8 HM8.out (HT.out.below HB8.out) HW3.out HNT.out.1 HNT.out.2).mono ?_; rintro r w9 ⟨rfl, hm9, hg9⟩; have HMH9 := Lib.hid (HMH8.out.only hg9 (Ne.symm HNC.out)); have HOWN9 := Lib.hid (owns_only HOWN8.out hg9 HNG.out); have HB9 := Lib.hid (below_only HB8.out hg9 (by have := HB8.out.size; omega) HCW.out); clear hm9 hg9)
        | (go_at_call 14; refine (sum_any _ (P ++ [Y]) w9 (HT.out.below HB9.out) (txts_owned (by rw [List.map_append]; exact HOWN9.out) HPYL.out.symm (by rw [HPYL.out]; omega)) (by rw [HCAT.out]; exact HDDL.out)).mono ?_; rintro r w10 ⟨rfl, hb10⟩; rw [HCAT.out, HDS.out]; have HB10 := Lib.hid (below_from HB9.out hb10 HB9.out.size); have HMH10 := Lib.hid (HMH9.out.below hb10 HMH9.out.lt); clear hb10)
        | (go_at_call 40; with_reducible refine (hsum_any h _ w10 HMH10.out (HT.out.below HB10.out) (by rw [← HYL.out]; exact HDDL.out)).mono ?_; rintro r w11 ⟨rfl, hb11⟩; rw [← HYL.out, HDS.out]; have HB11 := Lib.hid (below_from HB10.out hb11 HB10.out.size); have HMH11 := Lib.hid (HMH10.out.below hb11 HMH10.out.lt); clear hb11)
        | (go_at_call 40; with_reducible refine (hsum_any h _ w11 HMH11.out (HT.out.below HB11.out) (by rw [← HYL.out]; exact HDDL.out)).mono ?_; rintro r w12 ⟨rfl, hb12⟩; rw [← HYL.out, HDS.out]; have HB12 := Lib.hid (below_from HB11.out hb12 HB11.out.size); have HMH12 := Lib.hid (HMH11.out.below hb12 HMH11.out.lt); clear hb12)
        | (go_at_call 41; refine (hlen_any h _ w12 HMH12.out).mono ?_; rintro r w13 ⟨rfl, rfl⟩; rw [← HYL.out, HDL.out]))
      go_ret
      exact ⟨rfl, HB12.out⟩
end Go.Proofs.YtdgblimeehijpaaDoor
