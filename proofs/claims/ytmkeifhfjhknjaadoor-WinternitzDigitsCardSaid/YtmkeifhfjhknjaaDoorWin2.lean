/- The document's Digits, walked. -/
import Derived.Test.YtmkeifhfjhknjaaDoorWin1
namespace Go.Proofs.YtmkeifhfjhknjaaDoor
open Go.RowKit Go.Scr
set_option linter.unusedVariables false

theorem short_nibs_take {d : List UInt8} {k : Nat} {c : UInt8} (h : d[k]? = some c) : short (nibs (d.take (k + 1))) = short (nibs (d.take k)) + (15 - c.toNat / 16) + (15 - c.toNat % 16) := by
  rw [nibs_take h]
  unfold short
  rw [List.map_append, List.sum_append]
  simp
  omega

set_option maxRecDepth 100000 in
set_option maxHeartbeats 1000000 in
theorem rdigits_any (s : ByteArray) (w : World) (hl : s.size ≤ 140737488355199) :
    Calls Tryd.prog 7 #[.string s] w fun e w' => ∃ g c, e = .returned (.slice (some ⟨g, 0, none⟩) 67 c) ∧ w'.ownsRow w.heap.size 3 1 (.slice (some ⟨g, 0, none⟩) 67 c) 67 (numV (digs (dig s))) ∧ Below w.heap.size w w' := by
  obtain ⟨x, hx⟩ : ∃ x : ByteArray, x = ⟨#[109]⟩ ++ s := ⟨_, rfl⟩
  have hxs : x.size = 1 + s.size := by rw [hx, ByteArray.size_append]; rfl
  have h := rsum_any x w (by omega)
  obtain ⟨D, hD⟩ : ∃ D : ByteArray, D = str (dig s) := ⟨_, rfl⟩
  have hDs : D.size = 32 := by rw [hD, str_size, dig_length]
  have hDl : D.data.toList = dig s := by rw [hD, str_list]
  have he : (⟨(sha x.data.toList).toArray⟩ : ByteArray) = D := by rw [hx, hD, ByteArray.data_append, Array.toList_append]; rfl
  rw [he] at h
  have H := Lib.hid h
  have hs1 : 1 + s.size ≤ 140737488355200 := by omega
  have hs2 : (⟨#[109]⟩ : ByteArray).size + s.size ≤ 140737488355200 := hs1
  have HX := Lib.hid hx
  have HDL := Lib.hid hDl
  have HDS := Lib.hid hDs
  clear h hx hxs he hD hDs hDl
  go_enter Tryd.func7, Tryd.ntmps7
  go_wp2_with (go_at_call 14; rw [← HX.out]; refine H.out.mono ?_; rintro e w1 ⟨rfl, hb1⟩; have HB1 := Lib.hid hb1; clear hb1)
  clear hs1 hs2
  obtain ⟨F, hF⟩ : ∃ F, F = w.heap.size := ⟨_, rfl⟩
  have HF := Lib.hid hF
  clear hF
  go_loopw [4, 5, 6] (fun v t q wr => ∃ k n : Nat, k ≤ 32 ∧ q = .int .i64 k ∧ t = .int .i64 ((short (nibs (D.data.toList.take k)) : Nat) : Int) ∧ Hid (n = 2 * k) ∧ wr.ownsRow F 3 1 v n (numV (nibs (D.data.toList.take k))) ∧ Below w.heap.size w wr) (fun _ _ q _ => 32 - (intOf q).toNat)
  case atStart => exact ⟨0, 0, by omega, rfl, rfl, rfl, by simpa [nibs, numV] using World.ownsRow_nil w1 F 3 1, HB1.out⟩
  case round =>
    clear HB1
    obtain ⟨k, n, hk, rfl, rfl, hn, hown, hbel⟩ := hrel
    have HN := Lib.hid hn
    have HOWN := Lib.hid hown
    have HBEL := Lib.hid hbel
    have HSZ := Lib.hid (show F ≤ wr.heap.size by have := HF.out; have := hbel.size; omega)
    clear hn hown hbel
    obtain ⟨S, hS⟩ : ∃ S, S = short (nibs (D.data.toList.take k)) := ⟨_, rfl⟩
    have hSb : S ≤ 960 := by
      rw [hS]
      have := short_le (nibs (D.data.toList.take k))
      rw [nibs_length, List.length_take] at this
      omega
    rw [← hS]
    have HS := Lib.hid hS
    clear hS
    have hFw : w.heap.size ≤ F := by have := HF.out; omega
    by_cases hlt : k < 32
    · obtain ⟨c, hc⟩ : ∃ c, D.data.toList[k]? = some c := ⟨D.data.toList[k]'(by have := HDS.out; simpa using (by omega : k < D.size)), List.getElem?_eq_getElem _⟩
      have HNT := Lib.hid (nibs_take hc)
      have HNS := Lib.hid (short_nibs_take hc)
      obtain ⟨hi, hhi⟩ : ∃ hi, hi = c.toNat / 16 := ⟨_, rfl⟩
      obtain ⟨lo, hlo⟩ : ∃ lo, lo = c.toNat % 16 := ⟨_, rfl⟩
      have hib : hi < 16 := by have := c.toNat_lt; omega
      have lob : lo < 16 := by omega
      have hks : (k : Int) < (D.size : Int) := by have := HDS.out; omega
      have hnb : n + 2 ≤ 66 := by have := HN.out.out; omega
      have hck : ∀ (h : k < D.size), D[k] = c := fun h => by
        have := (List.getElem?_eq_some_iff.mp hc).2
        rw [← this]
        rfl
      have hn1 : 0 < n + 2 := by omega
      have hn2 : (n + 2) * 8 ≤ 140737488355328 := by omega
      have hn3 : n + 2 ≤ 140737488355328 := by omega
      have hz0 : (0 : Int) ≤ (c.toNat : Int) := Int.natCast_nonneg _
      have e1 : (c.toNat : Int).tdiv 16 = (hi : Int) := by rw [Int.tdiv_eq_ediv_of_nonneg hz0, hhi]; exact u8_hi c
      have e2 : (c.toNat : Int).tmod 16 = (lo : Int) := by rw [Int.tmod_eq_emod_of_nonneg hz0, hlo]; rfl
      have hcb : c.toNat < 256 := c.toNat_lt
      clear hz0
      have HHI := Lib.hid hhi
      have HLO := Lib.hid hlo
      clear hc hhi hlo
      go_wp2_with (at_builtin; refine wpList_appendV rfl _ _ rfl Tryd.underlying25 (.int .i64 0) 1 info_int rfl (by decide) (numV [hi, lo]) 2 (n + 2) rfl rfl HOWN.out rfl rfl (numV_one _) HBEL.out hFw HSZ.out rfl hn1 hn2 hn3 ?_; intro g' c' w' hg' hown' hb' hsz' hgr'; have HOWN' := Lib.hid hown'; have HB' := Lib.hid hb'; clear hown' hb' hsz' hgr')
      refine ⟨⟨k + 1, n + 2, by omega, rfl, ?_, (by have := HN.out.out; show _ = _; omega), ?_, HB'.out⟩, ?_⟩
      · rw [HNS.out, ← HS.out, ← HHI.out, ← HLO.out]
        congr 1
        omega
      · rw [HNT.out, numV_append, ← HHI.out, ← HLO.out]
        exact HOWN'.out
      · show 32 - ((k : Int) + 1).toNat < 32 - (k : Int).toNat
        omega
    · have HK := Lib.hid (show k = 32 by omega)
      have hkn : ¬ ((k : Int) < (D.size : Int)) := by have := HDS.out; omega
      have hn64 : n = 64 := by have := HN.out.out; omega
      have hown := HOWN.out
      have hSL : S = short (nibs (dig s)) := by rw [HS.out, HK.out, List.take_of_length_le (by have := HDS.out; simp; omega), HDL.out]
      rw [HK.out, List.take_of_length_le (by have := HDS.out; simp; omega), HDL.out, hn64] at hown
      have HOWNL := Lib.hid hown
      have HSL := Lib.hid hSL
      obtain ⟨a1, ha1⟩ : ∃ a1, a1 = S / 256 := ⟨_, rfl⟩
      obtain ⟨a2, ha2⟩ : ∃ a2, a2 = S / 16 := ⟨_, rfl⟩
      obtain ⟨a3, ha3⟩ : ∃ a3, a3 = a2 % 16 := ⟨_, rfl⟩
      obtain ⟨a4, ha4⟩ : ∃ a4, a4 = S % 16 := ⟨_, rfl⟩
      have hz0 : (0 : Int) ≤ (S : Int) := Int.natCast_nonneg _
      have hz1 : (0 : Int) ≤ (a2 : Int) := Int.natCast_nonneg _
      have f1 : (S : Int).tdiv 256 = (a1 : Int) := by rw [Int.tdiv_eq_ediv_of_nonneg hz0, ha1]; rfl
      have f2 : (S : Int).tdiv 16 = (a2 : Int) := by rw [Int.tdiv_eq_ediv_of_nonneg hz0, ha2]; rfl
      have f3 : (a2 : Int).tmod 16 = (a3 : Int) := by rw [Int.tmod_eq_emod_of_nonneg hz1, ha3]; rfl
      have f4 : (S : Int).tmod 16 = (a4 : Int) := by rw [Int.tmod_eq_emod_of_nonneg hz0, ha4]; rfl
      have b1 : a1 < 16 := by omega
      have b2 : a2 < 100 := by omega
      have b3 : a3 < 16 := by omega
      have b4 : a4 < 16 := by omega
      have HA : Hid ([a1, a3, a4] = [S / 256, S / 16 % 16, S % 16]) := by rw [ha1, ha3, ha2, ha4]; exact rfl
      clear hz0 hz1 hown hSL HOWN HN HS ha1 ha2 ha3 ha4 hn64
      go_wp2_with (at_builtin; refine wpList_appendV rfl _ _ rfl Tryd.underlying25 (.int .i64 0) 1 info_int rfl (by decide) (numV [a1, a3, a4]) 3 67 rfl rfl HOWNL.out rfl rfl (numV_one _) HBEL.out hFw HSZ.out rfl (by decide) (by decide) (by decide) ?_; intro g' c' w' hg' hown' hb' hsz' hgr'; have HOWN' := Lib.hid hown'; have HB' := Lib.hid hb'; clear hown' hb' hsz' hgr')
      go_ret
      refine ⟨g', c', rfl, ?_, HB'.out⟩
      have := HOWN'.out
      rw [← numV_append, HA.out, HSL.out] at this
      exact ownsRow_le' this hFw
end Go.Proofs.YtmkeifhfjhknjaaDoor
