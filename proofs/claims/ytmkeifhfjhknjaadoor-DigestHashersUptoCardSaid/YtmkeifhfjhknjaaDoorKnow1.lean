/- The digest laws' first calls, walked. -/
import Derived.Test.YtmkeifhfjhknjaaDoorTxt6
namespace Go.Proofs.YtmkeifhfjhknjaaDoor
open Go.RowKit Go.Scr
set_option linter.unusedVariables false

theorem k_hex1 : hexL (sha []) = [101, 51, 98, 48, 99, 52, 52, 50, 57, 56, 102, 99, 49, 99, 49, 52, 57, 97, 102, 98, 102, 52, 99, 56, 57, 57, 54, 102, 98, 57, 50, 52, 50, 55, 97, 101, 52, 49, 101, 52, 54, 52, 57, 98, 57, 51, 52, 99, 97, 52, 57, 53, 57, 57, 49, 98, 55, 56, 53, 50, 98, 56, 53, 53] := by decide +kernel
theorem k_hex2 : hexL (sha [97, 98, 99]) = [98, 97, 55, 56, 49, 54, 98, 102, 56, 102, 48, 49, 99, 102, 101, 97, 52, 49, 52, 49, 52, 48, 100, 101, 53, 100, 97, 101, 50, 50, 50, 51, 98, 48, 48, 51, 54, 49, 97, 51, 57, 54, 49, 55, 55, 97, 57, 99, 98, 52, 49, 48, 102, 102, 54, 49, 102, 50, 48, 48, 49, 53, 97, 100] := by decide +kernel
theorem k_fh1 : fhS [48, 48, 102, 102] = ⟨#[0, 255]⟩ ∧ fhE [48, 48, 102, 102] = 0 := by
  have h : ([48, 48, 102, 102] : List UInt8).length % 2 = 0 ∧ hexOk [48, 48, 102, 102] ([48, 48, 102, 102] : List UInt8).length = true := by decide +kernel
  have h2 : unhexL [48, 48, 102, 102] (([48, 48, 102, 102] : List UInt8).length / 2) = [0, 255] := by decide +kernel
  unfold fhS fhE
  rw [if_pos h, if_pos h, h2]
  exact ⟨rfl, rfl⟩
theorem k_fh2 : fhS [48, 70] = ⟨#[]⟩ ∧ fhE [48, 70] = 10 := by
  have h : ¬ (([48, 70] : List UInt8).length % 2 = 0 ∧ hexOk [48, 70] ([48, 70] : List UInt8).length = true) := by decide +kernel
  unfold fhS fhE
  rw [if_neg h, if_neg h]
  exact ⟨rfl, rfl⟩
theorem k_fb1 : fbS [89, 81, 61, 61] = ⟨#[97]⟩ ∧ fbE [89, 81, 61, 61] = 0 := by
  have e : b64 [97] = [89, 81, 61, 61] := by decide +kernel
  obtain ⟨h1, h2⟩ := fbOk_b64 [97]
  rw [e] at h1 h2
  unfold fbS fbE
  rw [if_pos h1, if_pos h1, h2]
  exact ⟨rfl, rfl⟩
theorem k_fb2 : fbS [89, 82, 61, 61] = ⟨#[]⟩ ∧ fbE [89, 82, 61, 61] = 11 := by
  have h : ¬ fbOk [89, 82, 61, 61] := by unfold fbOk; decide +kernel
  unfold fbS fbE
  rw [if_neg h, if_neg h]
  exact ⟨rfl, rfl⟩
theorem k_b64 : b64 [97, 98, 99] = [89, 87, 74, 106] := by decide +kernel

set_option maxRecDepth 100000 in
set_option maxHeartbeats 1000000 in
theorem known1_any (w : World) (ht : Tabs w) :
    Calls Tryd.prog 9 #[] w fun e w' => e = .returned (.bool true) ∧ Below w.heap.size w w' := by
  have HT := Lib.hid ht
  clear ht
  obtain ⟨D1, hD1⟩ : ∃ D1 : ByteArray, D1 = ⟨(sha (cat [])).toArray⟩ := ⟨_, rfl⟩
  obtain ⟨D2, hD2⟩ : ∃ D2 : ByteArray, D2 = ⟨(sha (cat [⟨#[97]⟩, ⟨#[98, 99]⟩])).toArray⟩ := ⟨_, rfl⟩
  have c1 := fun w (h : Tabs w) => sum_any _ _ w h (txts_none w) (by simp [cat])
  have c2 := fun w (h : Tabs w) => sum_any (.slice (some ⟨w.heap.size, 0, none⟩) 2 2) [⟨#[97]⟩, ⟨#[98, 99]⟩] (w.alloc (.cells #[.string ⟨#[97]⟩, .string ⟨#[98, 99]⟩] 9)) (h.below ((Below.refl _ _).alloc (Nat.le_refl _) _)) (txts_alloc w 9 [⟨#[97]⟩, ⟨#[98, 99]⟩] (by simp)) (by decide)
  rw [← hD1] at c1
  rw [← hD2] at c2
  have hs1 : D1.data.toList = sha [] := by rw [hD1]; simp [cat]
  have hs2 : D2.data.toList = sha [97, 98, 99] := by rw [hD2]; simp [cat]
  have hz1 : D1.size ≤ 1099511627776 := by
    have : D1.size = D1.data.toList.length := by simp
    rw [this, hs1, sha_length]; omega
  have hz2 : D2.size ≤ 1099511627776 := by
    have : D2.size = D2.data.toList.length := by simp
    rw [this, hs2, sha_length]; omega
  have c3 := fun w => dhex_any D1 w hz1
  have c4 := fun w => dhex_any D2 w hz2
  rw [hs1, k_hex1] at c3
  rw [hs2, k_hex2] at c4
  have c5 := fun w h => dnode_any ⟨#[]⟩ ⟨#[]⟩ w h
  rw [show nodeS ⟨#[]⟩ ⟨#[]⟩ = ⟨#[]⟩ from rfl, show nodeE ⟨#[]⟩ ⟨#[]⟩ = 12 from rfl] at c5
  have c6 := fun w => dfromhex_any ⟨#[48, 48, 102, 102]⟩ w (by decide)
  have c7 := fun w => dfromhex_any ⟨#[48, 70]⟩ w (by decide)
  have c8 := fun w => dfrom64_any ⟨#[89, 81, 61, 61]⟩ w (by decide)
  have c9 := fun w => dfrom64_any ⟨#[89, 82, 61, 61]⟩ w (by decide)
  have c10 := fun w => db64_any ⟨#[97, 98, 99]⟩ w (by decide)
  change ∀ w, Calls _ _ _ w fun e w' => e = .returned (.tuple #[.string (fhS [48, 48, 102, 102]), .int .i64 (fhE [48, 48, 102, 102])]) ∧ Below w.heap.size w w' at c6
  change ∀ w, Calls _ _ _ w fun e w' => e = .returned (.tuple #[.string (fhS [48, 70]), .int .i64 (fhE [48, 70])]) ∧ Below w.heap.size w w' at c7
  change ∀ w, Calls _ _ _ w fun e w' => e = .returned (.tuple #[.string (fbS [89, 81, 61, 61]), .int .i64 (fbE [89, 81, 61, 61])]) ∧ Below w.heap.size w w' at c8
  change ∀ w, Calls _ _ _ w fun e w' => e = .returned (.tuple #[.string (fbS [89, 82, 61, 61]), .int .i64 (fbE [89, 82, 61, 61])]) ∧ Below w.heap.size w w' at c9
  change ∀ w, Calls _ _ _ w fun e w' => e = .returned (.string (str (b64 [97, 98, 99]))) ∧ Below w.heap.size w w' at c10
  rw [k_fh1.1, k_fh1.2] at c6
  rw [k_fh2.1, k_fh2.2] at c7
  rw [k_fb1.1, k_fb1.2] at c8
  rw [k_fb2.1, k_fb2.2] at c9
  rw [k_b64] at c10
  have C1 := Lib.hid c1
  have C2 := Lib.hid c2
  have C3 : Hid (∀ w, Calls _ _ _ w fun e w' => e = .returned (.string ⟨#[101, 51, 98, 48, 99, 52, 52, 50, 57, 56, 102, 99, 49, 99, 49, 52, 57, 97, 102, 98, 102, 52, 99, 56, 57, 57, 54, 102, 98, 57, 50, 52, 50, 55, 97, 101, 52, 49, 101, 52, 54, 52, 57, 98, 57, 51, 52, 99, 97, 52, 57, 53, 57, 57, 49, 98, 55, 56, 53, 50, 98, 56, 53, 53]⟩) ∧ Below w.heap.size w w') := c3
  have C4 : Hid (∀ w, Calls _ _ _ w fun e w' => e = .returned (.string ⟨#[98, 97, 55, 56, 49, 54, 98, 102, 56, 102, 48, 49, 99, 102, 101, 97, 52, 49, 52, 49, 52, 48, 100, 101, 53, 100, 97, 101, 50, 50, 50, 51, 98, 48, 48, 51, 54, 49, 97, 51, 57, 54, 49, 55, 55, 97, 57, 99, 98, 52, 49, 48, 102, 102, 54, 49, 102, 50, 48, 48, 49, 53, 97, 100]⟩) ∧ Below w.heap.size w w') := c4
  have C5 := Lib.hid c5
  have C6 := Lib.hid c6
  have C7 := Lib.hid c7
  have C8 := Lib.hid c8
  have C9 := Lib.hid c9
  have C10 : Hid (∀ w, Calls _ _ _ w fun e w' => e = .returned (.string ⟨#[89, 87, 74, 106]⟩) ∧ Below w.heap.size w w') := c10
  clear c1 c2 c3 c4 c5 c6 c7 c8 c9 c10 hD1 hD2 hs1 hs2 hz1 hz2
  go_enter Tryd.func9, Tryd.ntmps9
  go_wp2_with (first
    | (go_at_call 10; refine (new_any _ HT.out).mono ?_; rintro r w1 ⟨h, rfl, hh, hm1, hb1⟩; have HB1 := Lib.hid hb1; clear hb1 hm1 hh)
    | (go_at_call 18; with_reducible refine (C1.out _ (HT.out.below HB1.out)).mono ?_; rintro r w2 ⟨rfl, hb⟩; have HB2 := Lib.hid (below_from HB1.out hb HB1.out.size); clear hb)
    | (go_at_call 18; with_reducible refine (C2.out w2 (HT.out.below HB2.out)).mono ?_; rintro r w3 ⟨rfl, hb⟩; have HB3 := Lib.hid (below_from HB2.out (below_from ((Below.refl _ _).alloc (Nat.le_refl _) _) hb (by simp)) HB2.out.size); clear hb)
    | (go_at_call 20; with_reducible refine (C3.out _).mono ?_; rintro r w4 ⟨rfl, hb⟩; have HB4 := Lib.hid (below_from HB3.out hb HB3.out.size); clear hb)
    | (go_at_call 20; with_reducible refine (C4.out _).mono ?_; rintro r w5 ⟨rfl, hb⟩; have HB5 := Lib.hid (below_from HB4.out hb HB4.out.size); clear hb)
    | (go_at_call 21; with_reducible refine (C5.out _ (HT.out.below HB5.out)).mono ?_; rintro r w6 ⟨rfl, hb⟩; have HB6 := Lib.hid (below_from HB5.out hb HB5.out.size); clear hb)
    | (go_at_call 22; with_reducible refine (C6.out _).mono ?_; rintro r w7 ⟨rfl, hb⟩; have HB7 := Lib.hid (below_from HB6.out hb HB6.out.size); clear hb)
    | (go_at_call 22; with_reducible refine (C7.out _).mono ?_; rintro r w8 ⟨rfl, hb⟩; have HB8 := Lib.hid (below_from HB7.out hb HB7.out.size); clear hb)
    | (go_at_call 23; with_reducible refine (C8.out _).mono ?_; rintro r w9 ⟨rfl, hb⟩; have HB9 := Lib.hid (below_from HB8.out hb HB8.out.size); clear hb)
    | (go_at_call 23; with_reducible refine (C9.out _).mono ?_; rintro r w10 ⟨rfl, hb⟩; have HB10 := Lib.hid (below_from HB9.out hb HB9.out.size); clear hb)
    | (go_at_call 24; with_reducible refine (C10.out _).mono ?_; rintro r w11 ⟨rfl, hb⟩; have HB11 := Lib.hid (below_from HB10.out hb HB10.out.size); clear hb))
  go_ret
  exact ⟨rfl, HB11.out⟩
end Go.Proofs.YtmkeifhfjhknjaaDoor
