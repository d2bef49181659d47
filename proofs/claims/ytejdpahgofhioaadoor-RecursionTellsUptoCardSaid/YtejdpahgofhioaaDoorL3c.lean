/- The law 3's helpers, walked: pick, half, numbered, grown. -/
import Derived.Test.YtejdpahgofhioaaDoorL3a
namespace Go.Proofs.YtejdpahgofhioaaDoor
open Go.RowKit Go.Scr
set_option linter.unusedVariables false

set_option maxRecDepth 100000 in
set_option maxHeartbeats 400000 in
theorem pick3_any (c : Int) (n : Nat) (w : World) (hn : 0 < n) (hn2 : n ≤ 9223372036854775807) (hc : -9223372036854775808 ≤ c ∧ c ≤ 9223372036854775807) :
    Calls Tryd.prog 23 #[.int .i64 c, .int .i64 n] w fun e w' => e = .returned (.int .i64 ((pickN c n : Nat) : Int)) ∧ w' = w := by
  have hn0 : ¬ ((n : Int) = 0) := by omega
  obtain ⟨m, hm⟩ : ∃ m, m = pickN c n := ⟨_, rfl⟩
  rw [← hm]
  by_cases h : c < 0
  · obtain ⟨k, hk⟩ : ∃ k : Nat, (k : Int) = -(c + 1) := ⟨(-(c + 1)).toNat, by omega⟩
    have e1 : -(c + 1) = (k : Int) := hk.symm
    have hkm : m = k % n := by rw [hm]; unfold pickN; rw [if_pos h, ← hk]; rfl
    have e2 : (k : Int).tmod (n : Int) = (m : Int) := by rw [Int.tmod_eq_emod_of_nonneg (Int.natCast_nonneg _), hkm]; rfl
    have hk2 : k ≤ 9223372036854775807 := by omega
    clear hm hk hkm
    go_enter Tryd.func23, Tryd.ntmps23
    go_wp2
    go_ret
    exact ⟨rfl, rfl⟩
  · obtain ⟨k, hk⟩ : ∃ k : Nat, (k : Int) = c := ⟨c.toNat, by omega⟩
    have hkm : m = k % n := by rw [hm]; unfold pickN; rw [if_neg h, ← hk]; rfl
    subst hk
    have e2 : (k : Int).tmod (n : Int) = (m : Int) := by rw [Int.tmod_eq_emod_of_nonneg (Int.natCast_nonneg _), hkm]; rfl
    have h' : ¬ ((k : Int) < 0) := by omega
    clear hm hkm
    go_enter Tryd.func23, Tryd.ntmps23
    go_wp2
    go_ret
    exact ⟨rfl, rfl⟩

set_option maxRecDepth 100000 in
set_option maxHeartbeats 400000 in
theorem half3_any (n : Nat) (w : World) (hn : n ≤ 1099511627776) :
    Calls Tryd.prog 84 #[.int .i64 n] w fun e w' => e = .returned (.int .i64 ((spl n : Nat) : Int)) ∧ w' = w := by
  obtain ⟨R, hR⟩ : ∃ R, R = spl n := ⟨_, rfl⟩
  rw [← hR]
  have HR := Lib.hid (show splF 1 n = R from hR.symm)
  clear hR
  go_enter Tryd.func84, Tryd.ntmps84
  go_wp2
  go_loop [3] (fun v => ∃ k : Nat, 0 < k ∧ k ≤ 2199023255552 ∧ v = .int .i64 k ∧ Hid (splF k n = R)) (fun v => 2199023255552 - (intOf v).toNat)
  case atStart => exact ⟨1, by decide, by decide, rfl, HR⟩
  case round =>
    obtain ⟨k, hk0, hkb, rfl, HS⟩ := hrel
    by_cases hlt : 2 * k < n
    · have h1 : 2 * (k : Int) < (n : Int) := by omega
      have HS2 := Lib.hid ((splF_spl hk0 hlt).trans HS.out)
      clear hlt
      go_wp2
      exact ⟨⟨2 * k, by omega, by omega, by go_num, HS2⟩, (by show 2199023255552 - (2 * (k : Int)).toNat < 2199023255552 - (k : Int).toNat; omega)⟩
    · have h1 : ¬ (2 * (k : Int) < (n : Int)) := by omega
      have HS2 := Lib.hid ((splF_end hlt).symm.trans HS.out)
      clear hlt
      go_wp2
      go_ret
      exact ⟨by rw [HS2.out]; rfl, rfl⟩


theorem txts_ownR {w : World} {B T n : Nat} {v : Value} {L : List ByteArray} (h : w.ownsRow B T 1 v n (L.map Value.string)) (hc : L.length ≤ 281474976710656) : Txts w v L := by
  have hl : n = L.length := by have := h.1; simp at this; omega
  rcases h.2 with ⟨rfl, h0⟩ | ⟨g, cap, cur, rfl, _⟩
  · have : L = [] := List.eq_nil_of_length_eq_zero (by omega)
    subst this
    exact txts_none w
  · exact txts_owned h hl hc
theorem Txts.initR {w : World} {p : Option Addr} {q c : Nat} {L' : List ByteArray} {s : ByteArray} (h : Txts w (.slice p (q + 1) c) (L' ++ [s])) :
    q = L'.length ∧ Txts w (.slice p q c) L' ∧ ∃ a, p = some a ∧ w.cell? (a.add q) = some (.string s) ∧ (q : Int) + 1 ≤ (c : Int) := by
  obtain ⟨p', c', he, h1, h2, h3⟩ := h
  simp only [Value.slice.injEq] at he
  obtain ⟨rfl, hq1, rfl⟩ := he
  rw [List.length_append, List.length_singleton] at hq1 h1 h2
  have hq : q = L'.length := by omega
  refine ⟨hq, ⟨p, c, by rw [hq], by omega, by omega, fun j x hx => h3 j x (by rw [List.getElem?_append_left (List.getElem?_eq_some_iff.mp hx).1]; exact hx)⟩, ?_⟩
  obtain ⟨a, ha, hc⟩ := h3 q s (by rw [hq]; simp)
  exact ⟨a, ha, hc, by omega⟩
def numL (Z : List Int) (most : Nat) : List ByteArray := (Z.take most).map leafS
theorem numL_length (Z : List Int) (most : Nat) : (numL Z most).length = min most Z.length := by simp [numL]
theorem numL_ok (Z : List Int) (most : Nat) : ok32 (numL Z most) = true := by
  unfold ok32 numL
  rw [List.all_eq_true]
  intro x hx
  obtain ⟨z, _, rfl⟩ := List.mem_map.mp hx
  simp [leafS_size]
theorem numL_succ {Z : List Int} {k : Nat} {z : Int} (h : Z[k]? = some z) : numL Z (k + 1) = numL Z k ++ [leafS z] := by
  obtain ⟨hk, rfl⟩ := List.getElem?_eq_some_iff.mp h
  unfold numL
  rw [List.take_succ_eq_append_getElem hk, List.map_append]
  rfl
theorem numL_all {Z : List Int} {k : Nat} (h : Z.length ≤ k) : numL Z k = numL Z Z.length := by
  unfold numL
  rw [List.take_of_length_le h, List.take_length]

set_option maxRecDepth 100000 in
set_option maxHeartbeats 1000000 in
theorem numbered3_any (v : Value) (Z : List Int) (most : Nat) (w : World) (hv : Ints w v Z) (hm : most ≤ 1000) :
    Calls Tryd.prog 36 #[v, .int .i64 most] w fun e w' => ∃ x, e = .returned x ∧ w'.ownsRow w.heap.size 9 1 x (numL Z most).length ((numL Z most).map Value.string) ∧ Below w.heap.size w w' := by
  obtain ⟨p, c, rfl, hv1, hv2, hv4, hv3⟩ := hv
  obtain ⟨m, hml⟩ : ∃ m, m = Z.length := ⟨_, rfl⟩
  rw [← hml] at hv1 hv2 ⊢
  have HM := Lib.hid hml
  have HV := Lib.hid hv3
  clear hml hv3 hv4
  go_enter Tryd.func36, Tryd.ntmps36
  obtain ⟨F, hF⟩ : ∃ F, F = w.heap.size := ⟨_, rfl⟩
  have HF := Lib.hid hF
  rw [← hF]
  clear hF
  go_wp2
  go_loopw [5, 6] (fun x q wr => ∃ k : Nat, k ≤ m ∧ k ≤ most ∧ q = .int .i64 k ∧ wr.ownsRow F 9 1 x k ((numL Z k).map Value.string) ∧ Below F w wr) (fun _ q _ => most - (intOf q).toNat)
  case atStart => exact ⟨0, by omega, by omega, rfl, by simpa [numL] using World.ownsRow_nil w F 9 1, Below.refl _ _⟩
  case round =>
    obtain ⟨k, hk, hk2, rfl, hown, hbel⟩ := hrel
    have HOWN := Lib.hid hown
    have HBEL := Lib.hid hbel
    have HSZ := Lib.hid (show F ≤ wr.heap.size by have := hbel.size; have := HF.out; omega)
    clear hown hbel
    have hFw : w.heap.size ≤ F := by have := HF.out; omega
    by_cases hlt : k < m
    · have hki : (k : Int) < (m : Int) := by omega
      by_cases hlt2 : k < most
      · have hki2 : (k : Int) < (most : Int) := by omega
        obtain ⟨z, hz⟩ : ∃ z, Z[k]? = some z := ⟨Z[k]'(by rw [← HM.out]; exact hlt), List.getElem?_eq_getElem _⟩
        obtain ⟨a, rfl, hc⟩ := HV.out k z hz
        have hc1 : wr.cell? (a.add k) = some (.int .i64 z) := (HBEL.out.cell (by have := block_lt_of_cell hc; have := HF.out; omega)).trans hc
        have HX := Lib.hid (by rw [numL_succ hz, List.map_append] : (numL Z (k + 1)).map Value.string = (numL Z k).map Value.string ++ [leafS z].map Value.string)
        have HC := Lib.hid (fun w' => leaf3_any z w')
        have hk1 : 0 < k + 1 := by omega
        have hk3 : (k + 1) * 16 ≤ 140737488355328 := by omega
        have hk4 : k + 1 ≤ 140737488355328 := by omega
        clear hz hc
        go_wp2_with (first
          | (go_at_call 67; with_reducible refine (HC.out _).mono ?_; rintro r w2 ⟨rfl, hb⟩; have HBEL2 := Lib.hid (below_from HBEL.out hb HSZ.out); have HOWN2 := Lib.hid (owns_below HOWN.out hb (Nat.le_refl _)); have HSZ2 := Lib.hid (Nat.le_trans HSZ.out hb.size); clear hb)
          | (at_builtin; refine wpList_appendV rfl _ _ rfl Tryd.underlying25 (.string ⟨#[]⟩) 1 info_str rfl (by decide) ([leafS z].map Value.string) 1 (k + 1) rfl rfl HOWN2.out rfl rfl (str_one _) HBEL2.out (Nat.le_refl _) HSZ2.out rfl hk1 hk3 hk4 ?_; intro g' c' w5 hg' hown' hb' hsz' hgr'; have HOWN3 := Lib.hid hown'; have HBEL3 := Lib.hid hb'; clear hown' hb' hsz' hgr' hg'))
        exact ⟨⟨k + 1, by omega, by omega, rfl, by rw [HX.out]; exact HOWN3.out, HBEL3.out⟩, (by show most - ((k : Int) + 1).toNat < most - (k : Int).toNat; omega)⟩
      · have hki2 : ¬ ((k : Int) < (most : Int)) := by omega
        have hkm : k = most := by omega
        have HO := Lib.hid (by have := HOWN.out; rw [hkm] at this; rw [show (numL Z most).length = most by rw [numL_length, ← HM.out]; omega]; exact this : wr.ownsRow F 9 1 u5 (numL Z most).length ((numL Z most).map Value.string))
        clear hkm
        go_wp2
        go_ret
        exact ⟨_, rfl, HO.out, HBEL.out⟩
    · have hki : ¬ ((k : Int) < (m : Int)) := by omega
      have hkm : k = m := by omega
      have HO := Lib.hid (by have := HOWN.out; rw [numL_all (Z := Z) (k := most) (by rw [← HM.out]; omega), numL_length, Nat.min_self, ← HM.out]; rw [hkm] at this; exact this : wr.ownsRow F 9 1 u5 (numL Z most).length ((numL Z most).map Value.string))
      clear hkm
      go_wp2
      go_ret
      exact ⟨_, rfl, HO.out, HBEL.out⟩
end Go.Proofs.YtejdpahgofhioaaDoor
