/- The law 3's told, walked. -/
import Derived.Test.YtejdpahgofhioaaDoorL3k
import Derived.Test.YtejdpahgofhioaaDoorL3j
namespace Go.Proofs.YtejdpahgofhioaaDoor
open Go.RowKit Go.Scr
set_option linter.unusedVariables false

/-- marks that lie somewhere -/
def Marks (w : World) (pb : Option Addr) (B : List Bool) : Prop := ∀ (i : Nat) d, B[i]? = some d → ∃ a, pb = some a ∧ w.cell? (a.add i) = some (.bool d)
theorem Marks.below {w w' : World} {pb : Option Addr} {B : List Bool} (h : Marks w pb B) (hb : Below w.heap.size w w') : Marks w' pb B := by
  intro i d hd
  obtain ⟨a, ha, hc⟩ := h i d hd
  exact ⟨a, ha, (hb.cell (block_lt_of_cell hc)).trans hc⟩

set_option maxRecDepth 100000 in
set_option maxHeartbeats 4000000 in
theorem told3_any (B : List Bool) (L : List ByteArray) (N : Nat) (pb pl : Option Addr) (cb cl : Nat) (hLN : L.length = N) (hBN : B.length = N) (hN : N ≤ 1048576) (n : Nat) :
    ∀ (b e : Nat) (X rest : List ByteArray) (pp : Option Addr) (q cp : Nat) (w : World), e = b + n → 1 ≤ n → e ≤ N → X = (L.drop b).take n → Txts w (.slice pp q cp) (manyZ b X (plcB 0 B) ++ rest) → Txts w (.slice pl N cl) L → Marks w pb B → Tabs w →
    Calls Tryd.prog 41 #[.int .i64 b, .int .i64 e, .slice pl N cl, .slice pb N cb, .slice pp q cp] w fun r w' => ∃ p2 q2 c2, r = .returned (.tuple #[.string (rootR X), .slice p2 q2 c2, .bool true]) ∧ Txts w' (.slice p2 q2 c2) rest ∧ Below w.heap.size w w' := by
  induction n using Nat.strongRecOn with
  | ind n ih =>
    intro b e X rest pp q cp w he h1 heN hX hp hl hm ht
    have IH := Lib.hid ih
    have HP := Lib.hid hp
    have HL := Lib.hid hl
    have HMK := Lib.hid hm
    have HT := Lib.hid ht
    have hXl : X.length = n := by rw [hX, List.length_take, List.length_drop]; omega
    have HXL := Lib.hid hXl
    have HX := Lib.hid hX
    have HE := Lib.hid he
    have HBN := Lib.hid hBN
    have HLN := Lib.hid hLN
    have heb : e ≤ 1048576 := by omega
    have hbb : b ≤ 1048576 := by omega
    have hNb : N ≤ 1048576 := hN
    clear ih hp hl hm ht hXl hX hLN hBN
    obtain ⟨R, hR⟩ : ∃ R, R = rootR X := ⟨_, rfl⟩
    rw [← hR]
    have HR := Lib.hid hR
    clear hR
    obtain ⟨V, hV⟩ : ∃ V, V = inZ b n (plcB 0 B) := ⟨_, rfl⟩
    have HV := Lib.hid hV
    have hbe : (b : Int) < (e : Int) := by omega
    have HN := Lib.hid heN
    have H1 := Lib.hid h1
    clear hV he h1 heN
    go_enter Tryd.func41, Tryd.ntmps41
    go_wp2
    go_loop [13, 14] (fun x y => ∃ (v : Bool) (i : Nat), b ≤ i ∧ i ≤ e ∧ x = .bool v ∧ y = .int .i64 i ∧ Hid (v = true ↔ ∃ j, b ≤ j ∧ j < i ∧ B[j]? = some true)) (fun _ y => e - (intOf y).toNat)
    case atStart => exact ⟨false, b, by omega, by omega, rfl, rfl, Lib.hid ⟨fun h => (by cases h), fun ⟨j, h2, h3, _⟩ => (by omega)⟩⟩
    case round =>
      obtain ⟨v, i, hbi, hie, rfl, rfl, hinv⟩ := hrel
      have HINV := Lib.hid hinv.out
      clear hinv
      by_cases hlt : i < e
      · have hlti : (i : Int) < (e : Int) := by omega
        have hi0 : (0 : Int) ≤ (i : Int) := by omega
        have hiN : (i : Int) < (N : Int) := by have := HN.out; omega
        have hib : i ≤ 1048576 := by omega
        obtain ⟨d, hd⟩ : ∃ s, B[i]? = some s := ⟨B[i]'(by have := HBN.out; omega), List.getElem?_eq_getElem _⟩
        obtain ⟨a, rfl, hc⟩ := HMK.out i d hd
        have HD := Lib.hid hd
        have HLT := Lib.hid hlt
        have HBI := Lib.hid hbi
        clear hd hlt
        cases v with
        | true =>
          go_wp2
          refine ⟨⟨true, i + 1, by omega, by have := HLT.out; omega, rfl, rfl, Lib.hid ⟨fun _ => ?_, fun _ => rfl⟩⟩, (by show e - ((i : Int) + 1).toNat < e - (i : Int).toNat; have := HLT.out; omega)⟩
          obtain ⟨j, h2, h3, h4⟩ := HINV.out.mp rfl
          exact ⟨j, h2, by omega, h4⟩
        | false =>
          go_wp2
          refine ⟨⟨d, i + 1, by omega, by have := HLT.out; omega, rfl, rfl, Lib.hid ⟨fun h => ⟨i, HBI.out, by omega, by rw [HD.out, h]⟩, fun ⟨j, h2, h3, h4⟩ => ?_⟩⟩, (by show e - ((i : Int) + 1).toNat < e - (i : Int).toNat; have := HLT.out; omega)⟩
          rcases Nat.lt_or_ge j i with h5 | h5
          · have := HINV.out.mpr ⟨j, h2, h5, h4⟩
            cases this
          · have : j = i := by omega
            subst this
            rw [HD.out] at h4
            exact Option.some.inj h4
      · have hlti : ¬ ((i : Int) < (e : Int)) := by omega
        have hvV : v = V := by
          have h1 := HINV.out
          have h2 : V = true ↔ v = true := by
            rw [HV.out, inZ_marks, h1]
            have := HE.out
            constructor
            · rintro ⟨j, h3, h4, h5⟩; exact ⟨j, h3, by omega, h5⟩
            · rintro ⟨j, h3, h4, h5⟩; exact ⟨j, h3, by omega, h5⟩
          cases v <;> cases V <;> simp_all
        subst hvV
        clear hbi hie hlt HINV
        cases v with
        | false =>
          have hz : manyZ b X (plcB 0 B) = [R] := by rw [HR.out]; exact manyZ_out (by rw [HXL.out]; exact HV.out.symm)
          have hp := HP.out
          rw [hz] at hp
          obtain ⟨a0, rfl, hc0⟩ := txt_at hp (i := 0) (s := R) rfl
          rw [Addr.add_zero'] at hc0
          have hqr : q = rest.length + 1 ∧ q ≤ cp := by
            obtain ⟨_, _, he, h2, _⟩ := hp
            cases he
            exact ⟨by simp, by simp at h2 ⊢; omega⟩
          have hq0 : ((q : Int) == 0) = false := beq_eq_false_iff_ne.2 (by omega)
          have hq1 : (0 : Int) < (q : Int) := by omega
          have hq2 : (1 : Int) ≤ (q : Int) := by omega
          have hcp : (q : Int) ≤ (cp : Int) := by omega
          by_cases hc1 : cp - 1 = 0
          · have hrn : rest = [] := List.eq_nil_of_length_eq_zero (by omega)
            subst hrn
            have hcp1 : cp = 1 := by omega
            have hqq : q = 1 := by have := hqr.1; simpa using this
            clear hz hp hqr hc1
            go_upto_region 9 with fail
            go_quiet (fail)
            have HB := Lib.hid (below_drewN (Below.refl w.heap.size w) nq)
            generalize w.drewN nq = wx at *
            go_wp2_with fail
            go_ret3
            exact ⟨_, _, _, rfl, ⟨_, _, rfl, Nat.le_refl _, by simp, fun j s h => by simp at h⟩, HB.out⟩
          · have htl := hp.rightC (k := 1) (by omega)
            have HTL := Lib.hid htl
            clear hz hp hqr htl
            go_upto_region 9 with fail
            go_quiet (fail)
            have HB := Lib.hid (below_drewN (Below.refl w.heap.size w) nq)
            have HTD : Hid (Txts (w.drewN nq) _ (([R] ++ rest).drop 1)) := HTL
            generalize w.drewN nq = wx at *
            go_wp2_with fail
            go_ret3
            exact ⟨_, _, _, rfl, HTD.out, HB.out⟩
        | true =>
          by_cases hn2 : 2 ≤ n
          · obtain ⟨k, hk⟩ : ∃ k, k = spl n := ⟨_, rfl⟩
            have hs := spl_lt hn2
            rw [← hk] at hs
            obtain ⟨m, hmm⟩ : ∃ m, m = n - k := ⟨_, rfl⟩
            obtain ⟨bk, hbk⟩ : ∃ x, x = b + k := ⟨_, rfl⟩
            have hee := HE.out
            have hNN := HN.out
            have hXt : X.take k = (L.drop b).take k := by rw [HX.out, List.take_take, Nat.min_eq_left (by omega)]
            have hXd : X.drop k = (L.drop bk).take m := by rw [HX.out, List.drop_take, List.drop_drop, ← hbk, hmm]
            have hz : manyZ b X (plcB 0 B) ++ rest = manyZ b (X.take k) (plcB 0 B) ++ (manyZ bk (X.drop k) (plcB 0 B) ++ rest) := by
              rw [manyZ_two (k := k) (by rw [HXL.out, hk]) (by rw [HXL.out]; exact HV.out.symm) (by rw [HXL.out]; exact hn2), List.append_assoc, ← hbk]
            have hp := HP.out
            rw [hz] at hp
            have hR2 : R = nodeS (rootR (X.take k)) (rootR (X.drop k)) := by rw [HR.out, rootR_split (by rw [HXL.out]; omega), HXL.out, ← hk]
            have iha := IH.out k hs.2.1 b bk (X.take k) (manyZ bk (X.drop k) (plcB 0 B) ++ rest) pp q cp w hbk (by omega) (by omega) hXt hp HL.out HMK.out HT.out
            have ihb := fun p2 q2 c2 w' h1 h2 h3 h4 => IH.out m (by omega) bk e (X.drop k) rest p2 q2 c2 w' (by omega) (by omega) (by omega) hXd h1 h2 h3 h4
            generalize rootR (X.take k) = R1 at iha hR2
            generalize rootR (X.drop k) = R2 at ihb hR2
            have hh := fun w' => half3_any n w' (by omega)
            rw [← hk] at hh
            have hnei : ((e : Int) - (b : Int)) = (n : Int) := by omega
            have hn1i : ((n : Int) == 1) = false := beq_eq_false_iff_ne.2 (by omega)
            have hbki : (b : Int) + (k : Int) = (bk : Int) := by omega
            have hkb : k ≤ 1048576 := by omega
            have hnb : n ≤ 1048576 := by omega
            have hbkb : bk ≤ 1048576 := by omega
            have IHA := Lib.hid iha
            have IHB := Lib.hid ihb
            have HH := Lib.hid hh
            have HR2 := Lib.hid hR2
            have HND := Lib.hid (fun l r w' (h : Below w.heap.size w w') => node3_any l r w' (HT.out.below h))
            clear hk hs hmm hbk hee hNN hXt hXd hz hp hR2 iha ihb hh hn2 IH
            go_wp2_with (first
              | (go_at_call 84; with_reducible refine (HH.out _).mono ?_; rintro r wx ⟨rfl, hw⟩; rw [hw]; clear hw wx)
              | (go_at_call 41; with_reducible refine IHA.out.mono ?_; rintro r w1 ⟨p2, q2, c2, rfl, htx, hb⟩; have HB1 := Lib.hid hb; have HP1 := Lib.hid htx; clear hb htx)
              | (go_at_call 41; with_reducible refine (IHB.out p2 q2 c2 w1 HP1.out (HL.out.below HB1.out (Nat.le_refl _)) (HMK.out.below HB1.out) (HT.out.below HB1.out)).mono ?_; rintro r w2 ⟨p3, q3, c3, rfl, htx, hb⟩; have HB2 := Lib.hid (below_from HB1.out hb HB1.out.size); have HP2 := Lib.hid htx; clear hb htx)
              | (go_at_call 40; with_reducible refine (HND.out R1 R2 w2 HB2.out).mono ?_; rintro r w3 ⟨rfl, hb⟩; have HB3 := Lib.hid (below_from HB2.out hb HB2.out.size); have HP3 := Lib.hid (HP2.out.below hb (Nat.le_refl _)); clear hb))
            go_ret3
            exact ⟨_, _, _, by rw [HR2.out]; rfl, HP3.out, HB3.out⟩
          · have hn1 : n = 1 := by have := H1.out; omega
            have hz : manyZ b X (plcB 0 B) = [] := manyZ_one (by rw [HXL.out]; exact HV.out.symm) (by rw [HXL.out]; omega)
            have hp := HP.out
            rw [hz, List.nil_append] at hp
            obtain ⟨x, hx⟩ : ∃ x, L[b]? = some x := ⟨L[b]'(by have := HLN.out; have := HN.out; have := HE.out; omega), List.getElem?_eq_getElem _⟩
            have hRx : R = x := by
              rw [HR.out, HX.out, hn1]
              obtain ⟨hb1, hb2⟩ := List.getElem?_eq_some_iff.mp hx
              rw [List.drop_eq_getElem_cons hb1, hb2]
              exact rootL_one _ _ _
            obtain ⟨al, rfl, hcl⟩ := txt_at HL.out hx
            have hnei : ((e : Int) - (b : Int) == 1) = true := beq_iff_eq.2 (by have := HE.out; omega)
            have hb0 : (0 : Int) ≤ (b : Int) := by omega
            have hbN : (b : Int) < (N : Int) := by have := HN.out; have := HE.out; omega
            have HPR := Lib.hid hp
            have HRX := Lib.hid hRx
            clear hn1 hn2 hz hp hx hRx IH
            go_wp2_with fail
            go_ret3
            exact ⟨_, _, _, by rw [HRX.out]; rfl, HPR.out, Below.refl _ _⟩
end Go.Proofs.YtejdpahgofhioaaDoor
