/- Layer 3, walked: refused, wrong; root; R. -/
import Derived.Test.YtejdpahgofhioaaDoorRec2
namespace Go.Proofs.YtejdpahgofhioaaDoor
open Go.RowKit Go.Scr
set_option linter.unusedVariables false

/-- has each text 32 bytes? -/
def ok32 (L : List ByteArray) : Bool := L.all fun s => s.size == 32
theorem ok32_take {L : List ByteArray} {k : Nat} {s : ByteArray} (h : L[k]? = some s) : ok32 (L.take (k + 1)) = (ok32 (L.take k) && (s.size == 32)) := by
  obtain ⟨hk, rfl⟩ := List.getElem?_eq_some_iff.mp h
  unfold ok32
  rw [List.take_succ_eq_append_getElem hk, List.all_append]
  simp
theorem ok32_bad {L : List ByteArray} {k : Nat} {s : ByteArray} (h : L[k]? = some s) (hs : s.size ≠ 32) : ok32 L = false := by
  unfold ok32
  rw [List.all_eq_false]
  exact ⟨s, List.mem_of_getElem? h, by simpa using hs⟩
def refusedE (L : List ByteArray) : Int := if 4096 < L.length then 31 else if ok32 L = false then 32 else 0

set_option maxRecDepth 100000 in
set_option maxHeartbeats 400000 in
theorem refused1_any (s : ByteArray) (w : World) :
    Calls Tryd.prog 113 #[.string s] w fun e w' => e = .returned (.bool (!(s.size == 32))) ∧ w' = w := by
  go_enter Tryd.func113, Tryd.ntmps113
  go_wp2
  go_ret
  refine ⟨?_, rfl⟩
  show Ending.returned (.bool ((s.size : Int) != 32)) = .returned (.bool (!(s.size == 32)))
  by_cases h : s.size = 32
  · have e1 : ((s.size : Int) != 32) = false := by rw [bne_eq_false_iff_eq]; omega
    have e2 : (s.size == 32) = true := beq_iff_eq.2 h
    rw [e1, e2]; rfl
  · have e1 : ((s.size : Int) != 32) = true := by rw [bne_iff_ne]; omega
    have e2 : (s.size == 32) = false := beq_eq_false_iff_ne.2 h
    rw [e1, e2]; rfl

set_option maxRecDepth 100000 in
set_option maxHeartbeats 1000000 in
theorem indexfunc_any (v : Value) (L : List ByteArray) (w : World) (hv : Txts w v L) :
    Calls Tryd.prog 135 #[v, .func (.func 113) #[] #[]] w fun e w' => ∃ z : Int, e = .returned (.int .i64 z) ∧ (ok32 L = true → z = -1) ∧ (ok32 L = false → 0 ≤ z) ∧ w' = w := by
  obtain ⟨p, c, rfl, hv1, hv2, hv3⟩ := hv
  obtain ⟨n, hn⟩ : ∃ n, n = L.length := ⟨_, rfl⟩
  rw [← hn] at hv1 ⊢
  have HN := Lib.hid hn
  have HV := Lib.hid hv3
  have hnb : n ≤ 281474976710656 := by omega
  clear hn hv2 hv3 hv1
  go_enter Tryd.func135, Tryd.ntmps135
  go_wp2
  go_loop [8] (fun q => ∃ k : Nat, k ≤ n ∧ q = .int .i64 k ∧ Hid (ok32 (L.take k) = true)) (fun q => n - (intOf q).toNat)
  case atStart => exact ⟨0, by omega, rfl, Lib.hid rfl⟩
  case round =>
    obtain ⟨k, hk, rfl, hall⟩ := hrel
    by_cases hlt : k < n
    · obtain ⟨s, hs⟩ : ∃ s, L[k]? = some s := ⟨L[k]'(by rw [← HN.out]; exact hlt), List.getElem?_eq_getElem _⟩
      obtain ⟨a, rfl, hc⟩ := HV.out k s hs
      have HS := Lib.hid hs
      clear hs
      have HC := Lib.hid (refused1_any s w)
      by_cases h32 : s.size = 32
      · rw [show (!(s.size == 32)) = false by simp [h32]] at HC
        have HALL := Lib.hid (by rw [ok32_take HS.out, hall.out]; simp [h32] : ok32 (L.take (k + 1)) = true)
        clear h32
        go_wp2_with (go_at_call 113; with_reducible refine (HC.out).mono ?_; rintro e w2 ⟨rfl, hw⟩; rw [hw]; clear hw w2)
        exact ⟨⟨k + 1, by omega, rfl, HALL⟩, (by show n - ((k : Int) + 1).toNat < n - (k : Int).toNat; omega)⟩
      · rw [show (!(s.size == 32)) = true by simp [h32]] at HC
        have HBAD := Lib.hid (ok32_bad HS.out h32)
        clear h32
        go_wp2_with (go_at_call 113; with_reducible refine (HC.out).mono ?_; rintro e w2 ⟨rfl, hw⟩; rw [hw]; clear hw w2)
        go_ret
        exact ⟨(k : Int), rfl, (fun h => (by rw [HBAD.out] at h; cases h)), (fun _ => Int.natCast_nonneg k), rfl⟩
    · have HK := Lib.hid (by have := hall.out; rwa [show k = n by omega, HN.out, List.take_length] at this : ok32 L = true)
      go_wp2
      go_ret
      exact ⟨-1, rfl, fun _ => rfl, fun h => (by rw [HK.out] at h; cases h), rfl⟩

set_option maxRecDepth 100000 in
set_option maxHeartbeats 400000 in
theorem containsfunc_any (v : Value) (L : List ByteArray) (w : World) (hv : Txts w v L) :
    Calls Tryd.prog 112 #[v, .func (.func 113) #[] #[]] w fun e w' => e = .returned (.bool (!ok32 L)) ∧ w' = w := by
  have HI := Lib.hid (indexfunc_any v L w hv)
  obtain ⟨p, c, rfl, hv1, hv2, hv3⟩ := hv
  obtain ⟨b, hb⟩ : ∃ b, b = ok32 L := ⟨_, rfl⟩
  rw [← hb] at HI ⊢
  clear hv1 hv2 hv3 hb
  cases b with
  | true =>
    go_enter Tryd.func112, Tryd.ntmps112
    go_wp2_with (go_at_call 135; with_reducible refine (HI.out).mono ?_; rintro e w2 ⟨z, rfl, hz, _, hw⟩; rw [hw]; clear hw w2; have hz2 := hz rfl; clear hz; subst hz2)
    go_ret
    exact ⟨rfl, rfl⟩
  | false =>
    go_enter Tryd.func112, Tryd.ntmps112
    go_wp2_with (go_at_call 135; with_reducible refine (HI.out).mono ?_; rintro e w2 ⟨z, rfl, _, hz, hw⟩; rw [hw]; clear hw w2; have hz2 : (0 : Int) ≤ z := hz rfl; clear hz)
    go_ret
    exact ⟨rfl, rfl⟩

set_option maxRecDepth 100000 in
set_option maxHeartbeats 400000 in
theorem refused_any (v : Value) (L : List ByteArray) (w : World) (hv : Txts w v L) :
    Calls Tryd.prog 68 #[v] w fun e w' => e = .returned (.int .i64 (refusedE L)) ∧ w' = w := by
  have HI := Lib.hid (containsfunc_any v L w hv)
  obtain ⟨p, c, rfl, hv1, hv2, hv3⟩ := hv
  obtain ⟨n, hn⟩ : ∃ n, n = L.length := ⟨_, rfl⟩
  unfold refusedE
  rw [← hn] at HI hv1 hv2 ⊢
  obtain ⟨b, hb⟩ : ∃ b, b = ok32 L := ⟨_, rfl⟩
  rw [← hb] at HI ⊢
  clear hv3 hn hb
  by_cases hbig : 4096 < n
  · rw [if_pos hbig]
    have hi : (4096 : Int) < (n : Int) := by omega
    clear hbig
    go_enter Tryd.func68, Tryd.ntmps68
    go_wp2
    go_ret
    exact ⟨rfl, rfl⟩
  · rw [if_neg hbig]
    have hi : ¬ ((4096 : Int) < (n : Int)) := by omega
    clear hbig
    cases b with
    | true =>
      go_enter Tryd.func68, Tryd.ntmps68
      go_wp2_with (go_at_call 112; with_reducible refine (HI.out).mono ?_; rintro e w2 ⟨rfl, hw⟩; rw [hw]; clear hw w2)
      go_ret
      exact ⟨rfl, rfl⟩
    | false =>
      go_enter Tryd.func68, Tryd.ntmps68
      go_wp2_with (go_at_call 112; with_reducible refine (HI.out).mono ?_; rintro e w2 ⟨rfl, hw⟩; rw [hw]; clear hw w2)
      go_ret
      exact ⟨rfl, rfl⟩

set_option maxRecDepth 100000 in
set_option maxHeartbeats 1000000 in
theorem wrongr_any (v : Value) (L : List ByteArray) (w : World) (hv : Txts w v L) :
    Calls Tryd.prog 70 #[v] w fun e w' => e = .returned (.int .i64 (refusedE L)) ∧ w' = w := by
  obtain ⟨p, c, rfl, hv1, hv2, hv3⟩ := hv
  obtain ⟨n, hn⟩ : ∃ n, n = L.length := ⟨_, rfl⟩
  obtain ⟨E, hE⟩ : ∃ E, E = refusedE L := ⟨_, rfl⟩
  rw [← hE]
  unfold refusedE at hE
  rw [← hn] at hv1 hv2 hE ⊢
  have HN := Lib.hid hn
  have HV := Lib.hid hv3
  clear hv3 hn
  by_cases hbig : 4096 < n
  · rw [if_pos hbig] at hE
    subst hE
    have hi : (4096 : Int) < (n : Int) := by omega
    clear hbig
    go_enter Tryd.func70, Tryd.ntmps70
    go_wp2
    go_ret
    exact ⟨rfl, rfl⟩
  · rw [if_neg hbig] at hE
    have HE := Lib.hid hE
    have hi : ¬ ((4096 : Int) < (n : Int)) := by omega
    have hnb : n ≤ 4096 := by omega
    clear hbig hE
    go_enter Tryd.func70, Tryd.ntmps70
    go_wp2
    go_loop [3] (fun q => ∃ k : Nat, k ≤ n ∧ q = .int .i64 k ∧ Hid (ok32 (L.take k) = true)) (fun q => n - (intOf q).toNat)
    case atStart => exact ⟨0, by omega, rfl, Lib.hid rfl⟩
    case round =>
      obtain ⟨k, hk, rfl, hall⟩ := hrel
      by_cases hlt : k < n
      · obtain ⟨s, hs⟩ : ∃ s, L[k]? = some s := ⟨L[k]'(by rw [← HN.out]; exact hlt), List.getElem?_eq_getElem _⟩
        obtain ⟨a, rfl, hc⟩ := HV.out k s hs
        have HS := Lib.hid hs
        clear hs
        by_cases h32 : s.size = 32
        · have hsz : (s.size : Int) = 32 := by omega
          have HALL := Lib.hid (by rw [ok32_take HS.out, hall.out]; simp [h32] : ok32 (L.take (k + 1)) = true)
          clear h32
          go_wp2
          exact ⟨⟨k + 1, by omega, rfl, HALL⟩, (by show n - ((k : Int) + 1).toNat < n - (k : Int).toNat; omega)⟩
        · have hsz : ¬ ((s.size : Int) = 32) := by omega
          have HBAD := Lib.hid (ok32_bad HS.out h32)
          clear h32
          go_wp2
          go_ret
          exact ⟨by rw [HE.out, if_pos HBAD.out]; rfl, rfl⟩
      · have HK := Lib.hid (by have := hall.out; rwa [show k = n by omega, HN.out, List.take_length] at this : ok32 L = true)
        go_wp2
        go_ret
        exact ⟨by rw [HE.out, if_neg (by rw [HK.out]; decide)]; rfl, rfl⟩
end Go.Proofs.YtejdpahgofhioaaDoor
