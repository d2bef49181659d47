/- The document's own proof of many, walked. -/
import Derived.Test.YtejdpahgofhioaaDoorL3i
import Derived.Test.YtejdpahgofhioaaDoorRee
namespace Go.Proofs.YtejdpahgofhioaaDoor
open Go.RowKit Go.Scr
set_option linter.unusedVariables false

theorem inZ_step {b n : Nat} {Z : List Int} {i : Nat} {z : Int} (hz : Z[i]? = some z) : inZ b n (Z.drop i) = ((decide ((b : Int) ≤ z) && decide (z < (b : Int) + (n : Int))) || inZ b n (Z.drop (i + 1))) := by
  obtain ⟨hi, rfl⟩ := List.getElem?_eq_some_iff.mp hz
  rw [List.drop_eq_getElem_cons hi]
  rfl

theorem own_ge {w : World} {B T sz n k : Nat} {v : Value} {l : List Value} (h : w.ownsRow B T sz v n l) (e : some k = v.ownBlock ∨ v.ownBlock = some k ∨ False) : B ≤ k := by
  rcases h.2 with ⟨rfl, _⟩ | ⟨g, cap, cur, rfl, hB, _⟩
  · rcases e with e | e | e
    · cases e
    · cases e
    · exact e.elim
  · rcases e with e | e | e
    · cases e; exact hB
    · cases e; exact hB
    · exact e.elim
set_option maxRecDepth 100000 in
set_option maxHeartbeats 2000000 in
theorem manyr_any (n : Nat) : ∀ (b : Nat) (L : List ByteArray) (p : Option Addr) (c : Nat) (v : Value) (Z : List Int) (w : World), Txts w (.slice p n c) L → L.length = n → 1 ≤ n → b + n ≤ 1048576 → Ints w v Z → Z.length ≤ 1048576 →
    Calls Tryd.prog 81 #[.int .i64 b, .slice p n c, v] w fun e w' => ∃ x, e = .returned x ∧ w'.ownsRow w.heap.size 9 1 x (manyZ b L Z).length ((manyZ b L Z).map Value.string) ∧ Below w.heap.size w w' := by
  induction n using Nat.strongRecOn with
  | ind n ih =>
    intro b L p c v Z w hv hL hn hbn hz hzl
    have IH := Lib.hid ih
    have HV := Lib.hid hv
    have HZ := Lib.hid hz
    obtain ⟨p', c', he, hv1, hv2, hv3⟩ := hv
    simp only [Value.slice.injEq] at he
    obtain ⟨rfl, hnl, rfl⟩ := he
    obtain ⟨q, cq, rfl, hz1, hz2, hzb, hz3⟩ := hz
    obtain ⟨m, hm⟩ : ∃ m, m = Z.length := ⟨_, rfl⟩
    rw [← hm] at hz1 hzl HZ ⊢
    have HM := Lib.hid hm
    have HZ3 := Lib.hid hz3
    have HZB := Lib.hid hzb
    have HL := Lib.hid hL
    obtain ⟨bn, hbn2⟩ : ∃ x, x = b + n := ⟨_, rfl⟩
    have hbni : (b : Int) + (n : Int) = (bn : Int) := by omega
    have hbnb : bn ≤ 1048576 := by omega
    have HBN := Lib.hid hbn2
    clear ih hnl hm hz1 hz2 hz3 hzb hL hbn2
    go_enter Tryd.func81, Tryd.ntmps81
    go_wp2_with fail
    go_loop [7, 8] (fun x y => ∃ (u : Bool) (i : Nat), i ≤ m ∧ x = .bool u ∧ y = .int .i64 i ∧ Hid (inZ b n Z = (u || inZ b n (Z.drop i)))) (fun _ y => m - (intOf y).toNat)
    case atStart => exact ⟨false, 0, by omega, rfl, rfl, Lib.hid (by rw [List.drop_zero, Bool.false_or])⟩
    case round =>
      obtain ⟨u, i, hi, rfl, rfl, hinv⟩ := hrel
      have HI := Lib.hid hinv.out
      clear hinv
      by_cases hlt : i < m
      · have hlti : (i : Int) < (m : Int) := by omega
        have hi0 : (0 : Int) ≤ (i : Int) := by omega
        obtain ⟨z, hz⟩ : ∃ z, Z[i]? = some z := ⟨Z[i]'(by have := HM.out; omega), List.getElem?_eq_getElem _⟩
        obtain ⟨a, rfl, hc⟩ := HZ3.out i z hz
        have hst := inZ_step (b := b) (n := n) hz
        have HST := Lib.hid (HI.out.trans (by rw [hst]))
        have HLT := Lib.hid hlt
        clear hz hst hlt
        cases u with
        | true =>
          go_wp2_with fail
          exact ⟨⟨true, i + 1, by have := HLT.out; omega, rfl, rfl, Lib.hid (by rw [HST.out]; rfl)⟩, (by show m - ((i : Int) + 1).toNat < m - (i : Int).toNat; have := HLT.out; omega)⟩
        | false =>
          by_cases h1 : (b : Int) ≤ z
          · by_cases h2 : z < (bn : Int)
            · go_wp2_with fail
              exact ⟨⟨true, i + 1, by have := HLT.out; omega, rfl, rfl, Lib.hid (by rw [HST.out, decide_eq_true h1, decide_eq_true (show z < (b : Int) + (n : Int) by omega)]; rfl)⟩, (by show m - ((i : Int) + 1).toNat < m - (i : Int).toNat; have := HLT.out; omega)⟩
            · go_wp2_with fail
              exact ⟨⟨false, i + 1, by have := HLT.out; omega, rfl, rfl, Lib.hid (by rw [HST.out, decide_eq_false (show ¬ z < (b : Int) + (n : Int) by omega), Bool.and_false, Bool.false_or])⟩, (by show m - ((i : Int) + 1).toNat < m - (i : Int).toNat; have := HLT.out; omega)⟩
          · go_wp2_with fail
            exact ⟨⟨false, i + 1, by have := HLT.out; omega, rfl, rfl, Lib.hid (by rw [HST.out, decide_eq_false h1, Bool.false_and, Bool.false_or])⟩, (by show m - ((i : Int) + 1).toNat < m - (i : Int).toNat; have := HLT.out; omega)⟩
      · have hlti : ¬ ((i : Int) < (m : Int)) := by omega
        have hu : inZ b L.length Z = u := by
          rw [HL.out, HI.out, List.drop_eq_nil_of_le (by have := HM.out; omega)]
          show (u || false) = u
          rw [Bool.or_false]
        have HU := Lib.hid hu
        clear hlt hi hu
        cases u with
        | false =>
          have hx : manyZ b L Z = [rootR L] := manyZ_out HU.out
          obtain ⟨X, hX⟩ : ∃ X, X = rootR L := ⟨_, rfl⟩
          have HR := Lib.hid (fun w' (h : Below w.heap.size w w') => R_any n L p c w' (HV.out.below h (Nat.le_refl _)) HL.out (by omega))
          rw [← hX] at HR hx
          have HX := Lib.hid hx
          clear hx hX
          go_wp2_with (go_at_call 71; with_reducible refine (HR.out w (Below.refl w.heap.size w)).mono ?_; rintro e w4 ⟨rfl, hb⟩; have HB4 := Lib.hid (hb : Below w.heap.size w w4); clear hb)
          go_ret
          exact ⟨_, rfl, by rw [HX.out]; exact owns_one HB4.out.size, HB4.out.alloc HB4.out.size _⟩
        | true =>
          by_cases h1 : n = 1
          · have hni : ((n : Int) == 1) = true := beq_iff_eq.2 (by omega)
            have hx : manyZ b L Z = [] := manyZ_one HU.out (by rw [HL.out]; omega)
            have HX := Lib.hid hx
            clear hx h1
            go_wp2_with fail
            go_ret
            exact ⟨.slice none 0 0, rfl, by rw [HX.out]; exact World.ownsRow_nil w w.heap.size 9 1, Below.refl _ _⟩
          · have hni : ((n : Int) == 1) = false := beq_eq_false_iff_ne.2 (by omega)
            have h2 : 2 ≤ n := by omega
            have HP := Lib.hid (fun w' => splitr_any n w' (by omega))
            rw [splitS_nat h2] at HP
            have hsp := spl_lt h2
            obtain ⟨k, hk⟩ : ∃ k, k = spl n := ⟨_, rfl⟩
            rw [← hk] at HP hsp
            have hkL : k = spl L.length := by rw [HL.out]; exact hk
            have hX := manyZ_two hkL HU.out (by rw [HL.out]; exact h2)
            have hkc : (k : Int) ≤ (c : Int) := by have := HL.out; omega
            have hkn : (k : Int) ≤ (n : Int) := by omega
            have hk0 : (0 : Int) ≤ (k : Int) := by omega
            have hnc : (n : Int) ≤ (c : Int) := by have := HL.out; omega
            have hck : ¬ (c - k = 0) := by have := HL.out; omega
            have hf1 := manyZ_len k b (L.take k) Z (by rw [List.length_take, HL.out]; omega) (by omega)
            have hf2 := manyZ_len (n - k) (b + k) (L.drop k) Z (by rw [List.length_drop, HL.out]) (by omega)
            obtain ⟨A1, hA1⟩ : ∃ A, A = manyZ b (L.take k) Z := ⟨_, rfl⟩
            obtain ⟨A2, hA2⟩ : ∃ A, A = manyZ (b + k) (L.drop k) Z := ⟨_, rfl⟩
            have HA := Lib.hid (fun w' (h : Below w.heap.size w w') => IH.out k hsp.2.1 b (L.take k) p c (.slice q m cq) Z w' ((HV.out.cutC (by omega)).below h (Nat.le_refl _)) (by rw [List.length_take, HL.out]; omega) (by omega) (by omega) (ints_below HZ.out h (Nat.le_refl _)) (by rw [← HM.out]; exact hzl))
            have HBB := Lib.hid (fun w' (h : Below w.heap.size w w') => IH.out (n - k) (by omega) (b + k) (L.drop k) (p.map (·.add k)) (c - k) (.slice q m cq) Z w' ((HV.out.rightC (k := k) (by omega)).below h (Nat.le_refl _)) (by rw [List.length_drop, HL.out]) (by omega) (by omega) (ints_below HZ.out h (Nat.le_refl _)) (by rw [← HM.out]; exact hzl))
            rw [← hA1] at HA hX hf1
            rw [← hA2] at HBB hX hf2
            obtain ⟨bk, hbk⟩ : ∃ x, x = b + k := ⟨_, rfl⟩
            rw [← hbk] at HBB
            have hbki : (b : Int) + (k : Int) = (bk : Int) := by omega
            have hbkb : bk ≤ 1048576 := by omega
            obtain ⟨n1, hn1⟩ : ∃ x, x = A1.length := ⟨_, rfl⟩
            obtain ⟨n2, hn2⟩ : ∃ x, x = A2.length := ⟨_, rfl⟩
            have hq2 : (n1 + n2) * 16 ≤ 140737488355328 := by omega
            have hq3 : n1 + n2 ≤ 140737488355328 := by omega
            rw [← hn1] at HA
            rw [← hn2] at HBB
            have HXX := Lib.hid (by rw [hX, List.length_append, hn1, hn2] : (manyZ b L Z).length = n1 + n2)
            have HXM := Lib.hid (by rw [hX, List.map_append] : (manyZ b L Z).map Value.string = A1.map Value.string ++ A2.map Value.string)
            clear hv2 hv3 hv1 hX hkL hf1 hf2 hA1 hA2 hn1 hn2 hbk hk IH h1
            go_wp2_with (first
              | (go_at_call 17; with_reducible refine (HP.out w).mono ?_; rintro e w2 ⟨rfl, hw⟩; rw [hw]; clear hw w2)
              | (go_at_call 81; with_reducible refine (HA.out w (Below.refl w.heap.size w)).mono ?_; rintro e w3 ⟨x, rfl, hown, hb⟩; have HB3 := Lib.hid (hb : Below w.heap.size w w3); have HO3 := Lib.hid hown; clear hb hown HA)
              | (go_at_call 81; with_reducible refine (HBB.out w3 HB3.out).mono ?_; rintro e w4 ⟨y, rfl, hown, hb⟩; have HB4 := Lib.hid (below_from HB3.out hb HB3.out.size); have HO4 := Lib.hid (owns_below HO3.out hb (Nat.le_refl _)); have HO5 := Lib.hid hown; clear hb hown)
              | (at_builtin; refine wpList_cat rfl _ _ rfl Tryd.underlying25 (.string ⟨#[]⟩) info_str rfl (v := x) (u := y) (by simp [Act.eval]) (by simp [Act.eval]) HO4.out HO5.out (str_one _) HB4.out.size hq2 hq3 ?_; intro v' w5 hown' hgr' hat'; have HO6 := Lib.hid hown'; have HG6 := Lib.hid hgr'; clear hown' hgr' hat'))
            go_ret
            exact ⟨_, rfl, by rw [HXX.out, HXM.out]; exact HO6.out, HB4.out.grown HG6.out HB4.out.size (fun k e => own_ge HO4.out (.inr (.inl e)))⟩
end Go.Proofs.YtejdpahgofhioaaDoor
