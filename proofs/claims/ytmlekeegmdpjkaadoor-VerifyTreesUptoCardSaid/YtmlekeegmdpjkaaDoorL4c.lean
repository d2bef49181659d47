/- The law 4's helpers, walked: pick, hashes, turned. -/
import Derived.Test.YtmlekeegmdpjkaaDoorL4a
import Derived.Laws.AppendOwn
namespace Go.Proofs.YtmlekeegmdpjkaaDoor
open Go.RowKit Go.Scr
set_option linter.unusedVariables false

set_option maxRecDepth 100000 in
set_option maxHeartbeats 400000 in
theorem pick4_any (c : Int) (n : Nat) (w : World) (hn : 0 < n) (hn2 : n ≤ 9223372036854775807) (hc : -9223372036854775808 ≤ c ∧ c ≤ 9223372036854775807) :
    Calls Tryd.prog 20 #[.int .i64 c, .int .i64 n] w fun e w' => e = .returned (.int .i64 ((pickN c n : Nat) : Int)) ∧ w' = w := by
  have hn0 : ¬ ((n : Int) = 0) := by omega
  obtain ⟨m, hm⟩ : ∃ m, m = pickN c n := ⟨_, rfl⟩
  rw [← hm]
  by_cases h : c < 0
  · obtain ⟨k, hk⟩ : ∃ k : Nat, (k : Int) = -(c + 1) := ⟨(-(c + 1)).toNat, by omega⟩
    have e1 : -(c + 1) = (k : Int) := hk.symm
    have hkm : m = k % n := by rw [hm]; unfold pickN; rw [if_pos h, ← hk]; rfl
    have e2 : (k : Int).tmod (n : Int) = (m : Int) := by rw [Int.tmod_eq_emod_of_nonneg (Int.natCast_nonneg _), hkm]; rfl
    have hk2 : k ≤ 9223372036854775807 := by omega
    clear hm hk hkm
    go_enter Tryd.func20, Tryd.ntmps20
    go_wp2
    go_ret
    exact ⟨rfl, rfl⟩
  · obtain ⟨k, hk⟩ : ∃ k : Nat, (k : Int) = c := ⟨c.toNat, by omega⟩
    have hkm : m = k % n := by rw [hm]; unfold pickN; rw [if_neg h, ← hk]; rfl
    subst hk
    have e2 : (k : Int).tmod (n : Int) = (m : Int) := by rw [Int.tmod_eq_emod_of_nonneg (Int.natCast_nonneg _), hkm]; rfl
    have h' : ¬ ((k : Int) < 0) := by omega
    clear hm hkm
    go_enter Tryd.func20, Tryd.ntmps20
    go_wp2
    go_ret
    exact ⟨rfl, rfl⟩

theorem txts_own {w : World} {B T n : Nat} {v : Value} {L : List ByteArray} (h : w.ownsRow B T 1 v n (L.map Value.string)) (hc : L.length ≤ 281474976710656) : Txts w v L := by
  have hl : n = L.length := by have := h.1; simp at this; omega
  rcases h.2 with ⟨rfl, h0⟩ | ⟨g, cap, cur, rfl, _⟩
  · have : L = [] := List.eq_nil_of_length_eq_zero (by omega)
    subst this
    exact txts_none w
  · exact txts_owned h hl hc
theorem owns_set {w : World} {B T n c g k : Nat} {xs : List Value} (h : w.ownsRow B T 1 (.slice (some ⟨g, 0, none⟩) n c) n xs) (u : Value) : (w.setCell ⟨g, k, none⟩ u).ownsRow B T 1 (.slice (some ⟨g, 0, none⟩) n c) n (xs.set k u) := by
  obtain ⟨h1, h2⟩ := h
  refine ⟨by rw [List.length_set]; exact h1, ?_⟩
  rcases h2 with ⟨h0, _⟩ | ⟨g', cap, cur, he, hB, hb, hn, hc, hs, ht⟩
  · cases h0
  · cases he
    refine Or.inr ⟨g, c, cur.setIfInBounds k u, rfl, hB, blk_set hb k u, hn, hc, by simpa using hs, ?_⟩
    rw [Array.toList_setIfInBounds, List.take_set, ht]
theorem owns_slot {w : World} {B T n c g k : Nat} {xs : List Value} (h : w.ownsRow B T 1 (.slice (some ⟨g, 0, none⟩) n c) n xs) : w.frozen? ⟨g, k, none⟩ = false := by
  rcases h.2 with ⟨h0, _⟩ | ⟨g', cap, cur, he, hB, hb, hn, hc, hs, ht⟩
  · cases h0
  · cases he
    exact frozen_of_row w g k _ _ hb
theorem owns_blk {w : World} {B T n c g : Nat} {xs : List Value} (h : w.ownsRow B T 1 (.slice (some ⟨g, 0, none⟩) n c) n xs) : B ≤ g ∧ g < w.heap.size ∧ n ≤ c := by
  rcases h.2 with ⟨h0, _⟩ | ⟨g', cap, cur, he, hB, hb, hn, hc, hs, ht⟩
  · cases h0
  · cases he
    exact ⟨hB, blk_lt hb, hn⟩

/-- the i-th raw text, or a number's where there is none -/
def rawAt (L : List ByteArray) (i : Nat) : ByteArray := (L[i]?).getD (⟨#[110, 111, 110, 101]⟩ ++ ⟨#[UInt8.ofNat i]⟩)
def hsL (L : List ByteArray) (n : Nat) : List ByteArray := (List.range n).map fun i => hashS (rawAt L i)
theorem hsL_length (L : List ByteArray) (n : Nat) : (hsL L n).length = n := by simp [hsL]
theorem hsL_succ (L : List ByteArray) (n : Nat) : hsL L (n + 1) = hsL L n ++ [hashS (rawAt L n)] := by simp [hsL, List.range_succ]
theorem hsL_all (L : List ByteArray) (n : Nat) : all32 (hsL L n) = true := by
  unfold all32 hsL
  rw [List.all_eq_true]
  intro x hx
  obtain ⟨i, _, rfl⟩ := List.mem_map.mp hx
  simp [hashS_size]
theorem hsL_take (L : List ByteArray) (n m : Nat) (h : m ≤ n) : (hsL L n).take m = hsL L m := by
  unfold hsL
  rw [← List.map_take, List.take_range, Nat.min_eq_left h]

set_option maxRecDepth 100000 in
set_option maxHeartbeats 1000000 in
theorem hashes4L_any (v : Value) (L : List ByteArray) (n : Nat) (w : World) (hv : Txts w v L) (hn : n ≤ 1000) (hs : ∀ s ∈ L, s.size ≤ 1048576) :
    Calls Tryd.prog 21 #[v, .int .i64 n] w fun e w' => ∃ x, e = .returned x ∧ w'.ownsRow w.heap.size 9 1 x n ((hsL L n).map Value.string) ∧ Below w.heap.size w w' := by
  have HV0 := Lib.hid hv
  have HS := Lib.hid hs
  obtain ⟨p, c, rfl, hv1, hv2, hv3⟩ := hv
  obtain ⟨m, hm⟩ : ∃ m, m = L.length := ⟨_, rfl⟩
  rw [← hm] at hv1 hv2 HV0 ⊢
  have HM := Lib.hid hm
  have HV := Lib.hid hv3
  clear hm hv3 hs
  go_enter Tryd.func21, Tryd.ntmps21
  obtain ⟨F, hF⟩ : ∃ F, F = w.heap.size := ⟨_, rfl⟩
  have HF := Lib.hid hF
  rw [← hF]
  clear hF
  go_wp2
  go_loopw [5, 6] (fun x q wr => ∃ k : Nat, k ≤ n ∧ q = .int .i64 k ∧ wr.ownsRow F 9 1 x k ((hsL L k).map Value.string) ∧ Below F w wr) (fun _ q _ => n - (intOf q).toNat)
  case atStart => exact ⟨0, by omega, rfl, by simpa [hsL] using World.ownsRow_nil w F 9 1, Below.refl _ _⟩
  case round =>
    obtain ⟨k, hk, rfl, hown, hbel⟩ := hrel
    have HOWN := Lib.hid hown
    have HBEL := Lib.hid hbel
    have HSZ := Lib.hid (show F ≤ wr.heap.size by have := hbel.size; have := HF.out; omega)
    clear hown hbel
    have hFw : w.heap.size ≤ F := by have := HF.out; omega
    by_cases hlt : k < n
    · have hki : (k : Int) < (n : Int) := by omega
      obtain ⟨b, hb⟩ : ∃ b : UInt8, b = UInt8.ofNat k := ⟨_, rfl⟩
      have hkb : (k : Int) % 256 = (b.toNat : Int) := by rw [hb]; exact byte_cell k
      have hcv := own_string (P := Tryd.prog) (D := 9) (S := 77) (c := 1) Tryd.underlying77 und_u8 und_string (own_of_blk (w := wr.alloc (.cells #[.int .u8 (b.toNat : Int)] 5)) (l := [b]) (n := 1) (heap_alloc_new wr _) rfl (by show 1 ≤ 281474976710656; decide))
      have HBB := Lib.hid hb
      clear hb
      have HOWN1 : Hid ((wr.alloc (.cells #[.int .u8 (b.toNat : Int)] 5)).ownsRow F 9 1 u5 k ((hsL L k).map Value.string)) := Lib.hid (World.ownsRow.alloc HOWN.out _)
      have HBEL1 := Lib.hid (HBEL.out.alloc HSZ.out (.cells #[.int .u8 (b.toNat : Int)] 5))
      have HSZ1 : Hid (F ≤ (wr.alloc (.cells #[.int .u8 (b.toNat : Int)] 5)).heap.size) := Lib.hid (Nat.le_trans HSZ.out (by simp))
      go_upto_region 6 with fail
      clear hcv hkb
      generalize wr.alloc (.cells #[.int .u8 (b.toNat : Int)] 5) = w1 at HOWN1 HBEL1 HSZ1 ⊢
      clear HOWN HBEL HSZ
      have hk1 : 0 < k + 1 := by omega
      have hk2 : (k + 1) * 16 ≤ 140737488355328 := by omega
      have hk3 : k + 1 ≤ 140737488355328 := by omega
      obtain ⟨R, hR⟩ : ∃ R, R = rawAt L k := ⟨_, rfl⟩
      have HX := Lib.hid (by rw [hsL_succ, ← hR, List.map_append] : (hsL L (k + 1)).map Value.string = (hsL L k).map Value.string ++ [hashS R].map Value.string)
      by_cases hin : k < m
      · obtain ⟨s, hs⟩ : ∃ s, L[k]? = some s := ⟨L[k]'(by rw [← HM.out]; exact hin), List.getElem?_eq_getElem _⟩
        obtain ⟨a, rfl, hc⟩ := HV.out k s hs
        have hc1 : w1.cell? (a.add k) = some (.string s) := (HBEL1.out.cell (by have := block_lt_of_cell hc; have := HF.out; omega)).trans hc
        have hRs : R = s := by rw [hR]; unfold rawAt; rw [hs]; rfl
        have hss := HS.out s (List.mem_of_getElem? hs)
        have HC := Lib.hid (fun w' => hash4_any s w' (by omega))
        rw [hRs] at HX
        have hkm : (k : Int) < (m : Int) := by omega
        clear hR hRs hs hc hin
        go_wp2_with (first
          | (go_at_call 22; with_reducible refine (HC.out _).mono ?_; rintro r w2 ⟨rfl, hb⟩; have HBEL2 := Lib.hid (below_from HBEL1.out hb HSZ1.out); have HOWN2 := Lib.hid (owns_below HOWN1.out hb (Nat.le_refl _)); have HSZ2 := Lib.hid (Nat.le_trans HSZ1.out hb.size); clear hb)
          | (at_builtin; refine wpList_appendV rfl _ _ rfl Tryd.underlying27 (.string ⟨#[]⟩) 1 info_str rfl (by decide) ([hashS _].map Value.string) 1 (k + 1) rfl rfl HOWN2.out rfl rfl (str_one _) HBEL2.out (Nat.le_refl _) HSZ2.out rfl hk1 hk2 hk3 ?_; intro g' c' w5 hg' hown' hb' hsz' hgr'; have HOWN3 := Lib.hid hown'; have HBEL3 := Lib.hid hb'; clear hown' hb' hsz' hgr' hg'))
        exact ⟨⟨k + 1, by omega, rfl, by rw [HX.out]; exact HOWN3.out, HBEL3.out⟩, (by show n - ((k : Int) + 1).toNat < n - (k : Int).toNat; omega)⟩
      · have hRs : R = ⟨#[110, 111, 110, 101]⟩ ++ ⟨#[b]⟩ := by rw [hR]; unfold rawAt; rw [List.getElem?_eq_none (by rw [← HM.out]; omega), HBB.out]; rfl
        have HC := Lib.hid (fun w' => hash4_any (⟨#[110, 111, 110, 101]⟩ ++ ⟨#[b]⟩) w' (by rw [ByteArray.size_append]; show 4 + 1 ≤ _; decide))
        rw [hRs] at HX
        have hkm : ¬ ((k : Int) < (m : Int)) := by omega
        clear hR hRs hin
        go_wp2_with (first
          | (go_at_call 22; with_reducible refine (HC.out _).mono ?_; rintro r w2 ⟨rfl, hb⟩; have HBEL2 := Lib.hid (below_from HBEL1.out hb HSZ1.out); have HOWN2 := Lib.hid (owns_below HOWN1.out hb (Nat.le_refl _)); have HSZ2 := Lib.hid (Nat.le_trans HSZ1.out hb.size); clear hb)
          | (at_builtin; refine wpList_appendV rfl _ _ rfl Tryd.underlying27 (.string ⟨#[]⟩) 1 info_str rfl (by decide) ([hashS _].map Value.string) 1 (k + 1) rfl rfl HOWN2.out rfl rfl (str_one _) HBEL2.out (Nat.le_refl _) HSZ2.out rfl hk1 hk2 hk3 ?_; intro g' c' w5 hg' hown' hb' hsz' hgr'; have HOWN3 := Lib.hid hown'; have HBEL3 := Lib.hid hb'; clear hown' hb' hsz' hgr' hg'))
        exact ⟨⟨k + 1, by omega, rfl, by rw [HX.out]; exact HOWN3.out, HBEL3.out⟩, (by show n - ((k : Int) + 1).toNat < n - (k : Int).toNat; omega)⟩
    · have HK := Lib.hid (show k = n by omega)
      have hki : ¬ ((k : Int) < (n : Int)) := by omega
      go_wp2
      go_ret
      have hown := HOWN.out
      rw [HK.out] at hown
      exact ⟨_, rfl, hown, HBEL.out⟩
end Go.Proofs.YtmlekeegmdpjkaaDoor
