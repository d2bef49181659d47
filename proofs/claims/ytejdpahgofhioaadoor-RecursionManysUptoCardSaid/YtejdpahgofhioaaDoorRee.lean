/- Layer 3, walked: Many. -/
import Derived.Test.YtejdpahgofhioaaDoorRed
import Derived.Test.YtejdpahgofhioaaDoorL3c
namespace Go.Proofs.YtejdpahgofhioaaDoor
open Go.RowKit Go.Scr
set_option linter.unusedVariables false

def manyE (L : List ByteArray) (Z : List Int) : Int := if refusedE L ≠ 0 then refusedE L else if wrongZ L.length Z = true then 30 else 0
def manyT (L : List ByteArray) (Z : List Int) : List ByteArray := if manyE L Z = 0 then manyZ 0 L Z else []

set_option maxRecDepth 100000 in
set_option maxHeartbeats 400000 in
theorem clip_any (p : Option Addr) (n c : Nat) (w : World) (h : n ≤ c) :
    Calls Tryd.prog 80 #[.slice p n c] w fun e w' => e = .returned (.slice p n n) ∧ w' = w := by
  have h0 : (0 : Int) ≤ (n : Int) := by omega
  have h1 : (n : Int) ≤ (c : Int) := by omega
  go_enter Tryd.func80, Tryd.ntmps80
  go_wp2
  go_ret
  exact ⟨rfl, rfl⟩

theorem mv_text {W w : World} {pi po pm C : Nat} {zv ov : Value} {M : List ByteArray} (h : MV W pi po pm C zv ov M w) (hM : M.length ≤ 281474976710656) :
    ∃ pl cl, ov = .slice pl M.length cl ∧ Txts w (.slice pl M.length cl) M ∧ M.length ≤ cl ∧ (∀ a, pl = some a → W.heap.size ≤ a.block) := by
  have htx := txts_ownR h.own hM
  obtain ⟨pl, cl, hx, h2, h3⟩ := id htx
  refine ⟨pl, cl, hx, by rw [← hx]; exact htx, h2, fun a ha => ?_⟩
  have hlt := h.lt
  have := own_far (ov := ov) h.own (k := a.block) (by rw [hx, ha]; rfl)
  omega

set_option maxRecDepth 100000 in
set_option maxHeartbeats 4000000 in
theorem Many_any (v zv : Value) (L : List ByteArray) (Z : List Int) (w : World) (ht : Tabs w) (hv : Txts w v L) (hz : Ints w zv Z) (hzl : Z.length ≤ 1048576) :
    Calls Tryd.prog 29 #[v, zv] w fun e w' => ∃ pl, e = .returned (.tuple #[.slice pl (manyT L Z).length (manyT L Z).length, .int .i64 (manyE L Z)]) ∧ Txts w' (.slice pl (manyT L Z).length (manyT L Z).length) (manyT L Z) ∧ (∀ a, pl = some a → w.heap.size ≤ a.block) ∧ Below w.heap.size w w' := by
  have HV := Lib.hid hv
  have HZ := Lib.hid hz
  have HT := Lib.hid ht
  have HR := Lib.hid (fun w' (h : Txts w' v L) => refused_any v L w' h)
  obtain ⟨p, c, rfl, hv1, hv2, hv3⟩ := hv
  obtain ⟨q, cq, rfl, hz1, hz2, hz3, hz4⟩ := hz
  obtain ⟨n, hn⟩ : ∃ n, n = L.length := ⟨_, rfl⟩
  obtain ⟨nz, hnz⟩ : ∃ n, n = Z.length := ⟨_, rfl⟩
  rw [← hn] at HV HR hv1 hv2 ⊢
  rw [← hnz] at HZ hz1 hz2 ⊢
  obtain ⟨w0, hw0⟩ : ∃ w0, w0 = w.alloc (.cells #[.slice q nz cq] 36) := ⟨_, rfl⟩
  have hb0 : Below w.heap.size w w0 := by rw [hw0]; exact (Below.refl _ _).alloc (Nat.le_refl _) _
  have hx0 : w0.heap[w.heap.size]? = some (.cells #[.slice q nz cq] 36 (0, 0)) := by rw [hw0]; exact heap_alloc_new w _
  have HB0 := Lib.hid hb0
  have HX0 := Lib.hid hx0
  have hci0 := cell_of_one hx0
  have hs0 : w0.heap.size = w.heap.size + 1 := by rw [hw0]; simp
  have HS0 := Lib.hid hs0
  obtain ⟨E, hE⟩ : ∃ E, E = refusedE L := ⟨_, rfl⟩
  rw [← hE] at HR
  by_cases h0 : E = 0
  · have hlen : n ≤ 4096 := by
      rcases Nat.lt_or_ge 4096 n with h | h
      · exfalso
        have : refusedE L = 31 := by unfold refusedE; rw [if_pos (by omega)]
        omega
      · exact h
    have HW := Lib.hid (fun w' (h : Below w.heap.size w w') => wrongm_any p n c (.slice q nz cq) Z w' (by omega) (ints_below HZ.out h (Nat.le_refl _)) hzl)
    obtain ⟨B, hB⟩ : ∃ B, B = wrongZ n Z := ⟨_, rfl⟩
    rw [← hB] at HW
    subst h0
    cases B with
    | true =>
      have hme : manyE L Z = 30 := by unfold manyE; rw [← hE, if_neg (by simp), ← hn, ← hB]; rfl
      have hmt : manyT L Z = [] := by unfold manyT; rw [hme]; rfl
      rw [hme, hmt]
      clear hE hn hnz hv1 hv2 hv3 hz1 hz2 hz3 hz4 hB hme hmt ht hzl hb0 hx0 hs0
      go_enter Tryd.func29, Tryd.ntmps29
      go_upto_region 1 with fail
      rw [← hw0]
      clear hw0
      go_wp2_with (first
        | (go_at_call 68; with_reducible refine (HR.out _ (HV.out.below HB0.out (Nat.le_refl _))).mono ?_; rintro e wx ⟨rfl, hw⟩; rw [hw]; clear hw wx)
        | (go_at_call 77; with_reducible refine (HW.out _ HB0.out).mono ?_; rintro e wx ⟨rfl, hw⟩; rw [hw]; clear hw wx))
      go_ret2
      exact ⟨none, rfl, ⟨none, 0, rfl, Nat.le_refl _, by simp, fun j s h => by simp at h⟩, fun a h => (by cases h), HB0.out⟩
    | false =>
      have hme : manyE L Z = 0 := by unfold manyE; rw [← hE, if_neg (by simp), ← hn, ← hB]; rfl
      have hmt : manyT L Z = manyZ 0 L Z := by unfold manyT; rw [hme]; rfl
      have hok : okZ n (-1) Z = true ∧ Z.length ≠ 0 := by
        unfold wrongZ at hB
        have hB' := hB.symm
        simp only [Bool.or_eq_false_iff, Bool.not_eq_false', decide_eq_false_iff_not] at hB'
        exact ⟨hB'.1, hB'.2.1⟩
      have hn1 : 1 ≤ n := by
        obtain ⟨z, hzz⟩ : ∃ z, Z[0]? = some z := ⟨Z[0]'(by omega), List.getElem?_eq_getElem _⟩
        have := okZ_bound Z _ hok.1 z (List.mem_of_getElem? hzz)
        omega
      have hri := okZ_rises Z _ hok.1
      rw [hme, hmt]
      obtain ⟨M, hM⟩ : ∃ M, M = manyZ 0 L Z := ⟨_, rfl⟩
      have hMl : M.length ≤ n := by rw [hM]; exact manyZ_len n 0 L Z hn.symm hn1
      have hcm := fun pi po pm C ov w3 h => many1_any w pi po pm C q nz cq Z ht HZ.out hri hzl n 0 L p c ov [] w3 HV.out hn.symm hn1 (by omega) (by simp; omega) h
      rw [← hM] at hcm ⊢
      simp only [List.nil_append] at hcm
      have hc0 : ((0 : Nat) : Int) = 0 := rfl
      rw [hc0] at hcm
      have HCM := Lib.hid hcm
      obtain ⟨m, hm⟩ : ∃ m, m = M.length := ⟨_, rfl⟩
      have HTE := Lib.hid (fun pi po pm C zv ov w' (h : MV w pi po pm C zv ov M w') => mv_text h (by omega))
      rw [← hm] at HTE ⊢
      have HML := Lib.hid hm
      clear hE hn hnz hv1 hv2 hv3 hz1 hz2 hz3 hz4 hB hme hmt ht hzl hb0 hx0 hs0 hok hri hcm hM hc0 hMl hm
      go_enter Tryd.func29, Tryd.ntmps29
      go_upto_region 1 with fail
      rw [← hw0]
      clear hw0
      go_upto_region 7 with (first
        | (go_at_call 68; with_reducible refine (HR.out _ (HV.out.below HB0.out (Nat.le_refl _))).mono ?_; rintro e wx ⟨rfl, hw⟩; rw [hw]; clear hw wx)
        | (go_at_call 77; with_reducible refine (HW.out _ HB0.out).mono ?_; rintro e wx ⟨rfl, hw⟩; rw [hw]; clear hw wx))
      obtain ⟨w1, hw1⟩ : ∃ w1, w1 = w0.alloc (.cells #[.slice none 0 0] 25) := ⟨_, rfl⟩
      have hx1 : w1.heap[w.heap.size]? = some (.cells #[.slice q nz cq] 36 (0, 0)) := by rw [hw1]; exact blk_alloc HX0.out
      have ho1 : w1.heap[w0.heap.size]? = some (.cells #[.slice none 0 0] 25 (0, 0)) := by rw [hw1]; exact heap_alloc_new w0 _
      have hb1 : Below w.heap.size w w1 := by rw [hw1]; exact HB0.out.alloc HB0.out.size _
      have hs1 : w1.heap.size = w0.heap.size + 1 := by rw [hw1]; simp
      rw [← hw1]
      clear hw1
      have hst := store_func Tryd.prog w1 97 78 #[.pointer (some ⟨w.heap.size, 0, none⟩), .pointer (some ⟨w0.heap.size, 0, none⟩), .pointer (some ⟨w1.heap.size, 0, none⟩)]
      have HX1 := Lib.hid hx1
      have HO1 := Lib.hid ho1
      have HB1 := Lib.hid hb1
      have HS1 := Lib.hid hs1
      clear hx1 ho1 hb1 hs1
      go_upto_region 9 with fail
      clear hst
      obtain ⟨w2, hw2⟩ : ∃ w2, w2 = w1.alloc (.cells #[.func (.func 78) #[] #[.pointer (some ⟨w.heap.size, 0, none⟩), .pointer (some ⟨w0.heap.size, 0, none⟩), .pointer (some ⟨w1.heap.size, 0, none⟩)]] 97) := ⟨_, rfl⟩
      have hmv : MV w w.heap.size w0.heap.size w1.heap.size w2.heap.size (.slice q nz cq) (.slice none 0 0) [] w2 := by
        have hs2 : w2.heap.size = w1.heap.size + 1 := by rw [hw2]; simp
        have e1 := HS0.out
        have e2 := HS1.out
        refine ⟨by rw [hw2]; exact blk_alloc HX1.out, ⟨_, by rw [hw2]; exact heap_alloc_new w1 _⟩, by rw [hw2]; exact blk_alloc HO1.out, World.ownsRow_nil w2 w2.heap.size 9 1, by rw [hw2]; exact HB1.out.alloc HB1.out.size _, by omega⟩
      rw [← hw2]
      have hcs := cell_of_one hmv.self.choose_spec
      have HMV := Lib.hid hmv
      clear hw2 hmv
      go_upto_region 10 with (go_at_call 78; with_reducible refine (HCM.out _ _ _ _ _ w2 HMV.out).mono ?_; rintro r w3 ⟨rfl, ov3, hm3⟩; obtain ⟨pl, cl, rfl, htx, hmc, hfr⟩ := HTE.out _ _ _ _ _ _ _ hm3; have HM3 := Lib.hid hm3; have HTX3 := Lib.hid htx; have HFR := Lib.hid hfr; clear hm3 htx hfr)
      have hco := cell_of_one HM3.out.out
      have HCL := Lib.hid (fun w' => clip_any pl m cl w' hmc)
      go_wp2_with (go_at_call 80; with_reducible refine (HCL.out _).mono ?_; rintro r wx ⟨rfl, hw⟩; rw [hw]; clear hw wx)
      go_ret2
      exact ⟨pl, rfl, by have h := HTX3.out.left (Nat.le_refl m); rw [List.take_of_length_le (Nat.le_of_eq HML.out.symm)] at h; exact h, HFR.out, HM3.out.b⟩
  · have hme : manyE L Z = E := by unfold manyE; rw [← hE, if_pos h0]
    have hmt : manyT L Z = [] := by unfold manyT; rw [hme, if_neg h0]
    rw [hme, hmt]
    clear hE hn hnz hv1 hv2 hv3 hz1 hz2 hz3 hz4 hme hmt ht hzl hb0 hx0 hs0
    go_enter Tryd.func29, Tryd.ntmps29
    go_upto_region 1 with fail
    rw [← hw0]
    clear hw0
    go_wp2_with (go_at_call 68; with_reducible refine (HR.out _ (HV.out.below HB0.out (Nat.le_refl _))).mono ?_; rintro e wx ⟨rfl, hw⟩; rw [hw]; clear hw wx)
    go_ret2
    exact ⟨none, rfl, ⟨none, 0, rfl, Nat.le_refl _, by simp, fun j s h => by simp at h⟩, fun a h => (by cases h), HB0.out⟩
end Go.Proofs.YtejdpahgofhioaaDoor
