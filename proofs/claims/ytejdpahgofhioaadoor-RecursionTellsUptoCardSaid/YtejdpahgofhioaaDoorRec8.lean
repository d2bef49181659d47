/- Layer 3, walked: Path, Proof of both. -/
import Derived.Test.YtejdpahgofhioaaDoorRec7
namespace Go.Proofs.YtejdpahgofhioaaDoor
open Go.RowKit Go.Scr
set_option linter.unusedVariables false

def pathE (L : List ByteArray) (z : Int) : Int := if refusedE L ≠ 0 then refusedE L else if z < 0 ∨ (L.length : Int) ≤ z then 30 else 0
def pathT (L : List ByteArray) (z : Int) : List ByteArray := if pathE L z = 0 then pathR z.toNat L else []
def proofE (L : List ByteArray) (z : Int) : Int := if refusedE L ≠ 0 then refusedE L else if z < 1 ∨ (L.length : Int) < z then 31 else 0
def proofT (L : List ByteArray) (z : Int) : List ByteArray := if proofE L z = 0 then proofR z.toNat L true else []
theorem refused_len {L : List ByteArray} (h : refusedE L = 0) : L.length ≤ 4096 := by
  rcases Nat.lt_or_ge 4096 L.length with h1 | h1
  · exfalso
    have : refusedE L = 31 := by unfold refusedE; rw [if_pos h1]
    omega
  · exact h1

set_option maxRecDepth 100000 in
set_option maxHeartbeats 1000000 in
theorem Path_any (v : Value) (L : List ByteArray) (z : Int) (w : World) (ht : Tabs w) (hv : Txts w v L) :
    Calls Tryd.prog 25 #[v, .int .i64 z] w fun e w' => ∃ x, e = .returned (.tuple #[x, .int .i64 (pathE L z)]) ∧ w'.ownsRow w.heap.size 9 1 x (pathT L z).length ((pathT L z).map Value.string) ∧ Below w.heap.size w w' := by
  have HV := Lib.hid hv
  have HT := Lib.hid ht
  have HR := Lib.hid (refused_any v L w hv)
  obtain ⟨p, c, rfl, hv1, hv2, hv3⟩ := hv
  obtain ⟨n, hn⟩ : ∃ n, n = L.length := ⟨_, rfl⟩
  rw [← hn] at HV HR hv1 hv2 ⊢
  have hL := hn.symm
  obtain ⟨E, hE⟩ : ∃ E, E = refusedE L := ⟨_, rfl⟩
  rw [← hE] at HR
  by_cases h0 : E = 0
  · have hlen : n ≤ 4096 := by rw [hn]; exact refused_len (by rw [← hE]; exact h0)
    by_cases hbad : z < 0 ∨ (n : Int) ≤ z
    · have e2 : pathE L z = 30 := by unfold pathE; rw [← hE, if_neg (by simp [h0]), ← hn, if_pos hbad]
      have e1 : pathT L z = [] := by unfold pathT; rw [e2]; rfl
      rw [e1, e2]
      subst h0
      clear hE hL hn hv3 e1 e2 ht
      by_cases hb0 : z < 0
      · clear hbad
        go_enter Tryd.func25, Tryd.ntmps25
        go_wp2_with (go_at_call 68; with_reducible refine (HR.out).mono ?_; rintro e w2 ⟨rfl, hw⟩; rw [hw]; clear hw w2)
        go_ret2
        exact ⟨.slice none 0 0, rfl, World.ownsRow_nil w w.heap.size 9 1, Below.refl _ _⟩
      · have hb2 : (n : Int) ≤ z := by omega
        clear hbad
        go_enter Tryd.func25, Tryd.ntmps25
        go_wp2_with (go_at_call 68; with_reducible refine (HR.out).mono ?_; rintro e w2 ⟨rfl, hw⟩; rw [hw]; clear hw w2)
        go_ret2
        exact ⟨.slice none 0 0, rfl, World.ownsRow_nil w w.heap.size 9 1, Below.refl _ _⟩
    · obtain ⟨i, rfl⟩ : ∃ i : Nat, z = i := ⟨z.toNat, by omega⟩
      have e2 : pathE L i = 0 := by unfold pathE; rw [← hE, if_neg (by simp [h0]), ← hn, if_neg hbad]
      have e1 : pathT L i = pathR i L := by unfold pathT; rw [e2, if_pos rfl, Int.toNat_natCast]
      rw [e1, e2]
      subst h0
      have hb0 : ¬ (i : Int) < 0 := by omega
      have hb1 : ¬ (n : Int) ≤ (i : Int) := by omega
      have HC := Lib.hid (fun (w1 : World) (hb : Below w.heap.size w w1) (hx : BoxF w1 w.heap.size 72) => pathc_any n i L p c w.heap.size w1 (HV.out.below hb (Nat.le_refl _)) hL (by omega) (by omega) hx (HT.out.below hb))
      have hst := store_func Tryd.prog w 92 72 #[.pointer (some ⟨w.heap.size, 0, none⟩)]
      have HX : Hid (BoxF (w.alloc (.cells #[.func (.func 72) #[] #[.pointer (some ⟨w.heap.size, 0, none⟩)]] 92)) w.heap.size 72) := Lib.hid ⟨_, heap_alloc_new w _⟩
      have HB : Hid (Below w.heap.size w (w.alloc (.cells #[.func (.func 72) #[] #[.pointer (some ⟨w.heap.size, 0, none⟩)]] 92))) := Lib.hid ((Below.refl _ _).alloc (Nat.le_refl _) _)
      clear hE hL hn hv3 e1 e2 hbad ht
      go_enter Tryd.func25, Tryd.ntmps25
      go_wp2_with (first
        | (go_at_call 68; with_reducible refine (HR.out).mono ?_; rintro e w2 ⟨rfl, hw⟩; rw [hw]; clear hw w2)
        | (go_at_call 72; with_reducible refine (HC.out _ HB.out HX.out).mono ?_; rintro e w3 ⟨x, rfl, hown, hb⟩; have HB3 := Lib.hid (below_from HB.out hb HB.out.size); have HO3 := Lib.hid (owns_le hown HB.out.size); clear hb hown))
      go_ret2
      exact ⟨x, rfl, HO3.out, HB3.out⟩
  · have e2 : pathE L z = E := by unfold pathE; rw [← hE, if_pos h0]
    have e1 : pathT L z = [] := by unfold pathT; rw [e2, if_neg h0]
    rw [e1, e2]
    clear hE hL hn hv3 e1 e2 ht
    go_enter Tryd.func25, Tryd.ntmps25
    go_wp2_with (go_at_call 68; with_reducible refine (HR.out).mono ?_; rintro e w2 ⟨rfl, hw⟩; rw [hw]; clear hw w2)
    go_ret2
    exact ⟨.slice none 0 0, rfl, World.ownsRow_nil w w.heap.size 9 1, Below.refl _ _⟩

set_option maxRecDepth 100000 in
set_option maxHeartbeats 1000000 in
theorem Pathr_any (v : Value) (L : List ByteArray) (z : Int) (w : World) (hv : Txts w v L) :
    Calls Tryd.prog 26 #[v, .int .i64 z] w fun e w' => ∃ x, e = .returned (.tuple #[x, .int .i64 (pathE L z)]) ∧ w'.ownsRow w.heap.size 9 1 x (pathT L z).length ((pathT L z).map Value.string) ∧ Below w.heap.size w w' := by
  have HV := Lib.hid hv
  have HT := Lib.hid trivial
  have HR := Lib.hid (wrongr_any v L w hv)
  obtain ⟨p, c, rfl, hv1, hv2, hv3⟩ := hv
  obtain ⟨n, hn⟩ : ∃ n, n = L.length := ⟨_, rfl⟩
  rw [← hn] at HV HR hv1 hv2 ⊢
  have hL := hn.symm
  obtain ⟨E, hE⟩ : ∃ E, E = refusedE L := ⟨_, rfl⟩
  rw [← hE] at HR
  by_cases h0 : E = 0
  · have hlen : n ≤ 4096 := by rw [hn]; exact refused_len (by rw [← hE]; exact h0)
    by_cases hbad : z < 0 ∨ (n : Int) ≤ z
    · have e2 : pathE L z = 30 := by unfold pathE; rw [← hE, if_neg (by simp [h0]), ← hn, if_pos hbad]
      have e1 : pathT L z = [] := by unfold pathT; rw [e2]; rfl
      rw [e1, e2]
      subst h0
      clear hE hL hn hv3 e1 e2
      by_cases hb0 : z < 0
      · clear hbad
        go_enter Tryd.func26, Tryd.ntmps26
        go_wp2_with (go_at_call 70; with_reducible refine (HR.out).mono ?_; rintro e w2 ⟨rfl, hw⟩; rw [hw]; clear hw w2)
        go_ret2
        exact ⟨.slice none 0 0, rfl, World.ownsRow_nil w w.heap.size 9 1, Below.refl _ _⟩
      · have hb2 : (n : Int) ≤ z := by omega
        clear hbad
        go_enter Tryd.func26, Tryd.ntmps26
        go_wp2_with (go_at_call 70; with_reducible refine (HR.out).mono ?_; rintro e w2 ⟨rfl, hw⟩; rw [hw]; clear hw w2)
        go_ret2
        exact ⟨.slice none 0 0, rfl, World.ownsRow_nil w w.heap.size 9 1, Below.refl _ _⟩
    · obtain ⟨i, rfl⟩ : ∃ i : Nat, z = i := ⟨z.toNat, by omega⟩
      have e2 : pathE L i = 0 := by unfold pathE; rw [← hE, if_neg (by simp [h0]), ← hn, if_neg hbad]
      have e1 : pathT L i = pathR i L := by unfold pathT; rw [e2, if_pos rfl, Int.toNat_natCast]
      rw [e1, e2]
      subst h0
      have hb0 : ¬ (i : Int) < 0 := by omega
      have hb1 : ¬ (n : Int) ≤ (i : Int) := by omega
      have HC := Lib.hid (pathr_any n i L p c w HV.out hL (by omega) (by omega))
      clear hE hL hn hv3 e1 e2 hbad
      go_enter Tryd.func26, Tryd.ntmps26
      go_wp2_with (first
        | (go_at_call 70; with_reducible refine (HR.out).mono ?_; rintro e w2 ⟨rfl, hw⟩; rw [hw]; clear hw w2)
        | (go_at_call 74; with_reducible refine (HC.out).mono ?_; rintro e w3 ⟨x, rfl, hown, hb⟩; have HB3 := Lib.hid (below_from (Below.refl w.heap.size w) hb (Below.refl w.heap.size w).size); have HO3 := Lib.hid (owns_le hown (Below.refl w.heap.size w).size); clear hb hown))
      go_ret2
      exact ⟨x, rfl, HO3.out, HB3.out⟩
  · have e2 : pathE L z = E := by unfold pathE; rw [← hE, if_pos h0]
    have e1 : pathT L z = [] := by unfold pathT; rw [e2, if_neg h0]
    rw [e1, e2]
    clear hE hL hn hv3 e1 e2
    go_enter Tryd.func26, Tryd.ntmps26
    go_wp2_with (go_at_call 70; with_reducible refine (HR.out).mono ?_; rintro e w2 ⟨rfl, hw⟩; rw [hw]; clear hw w2)
    go_ret2
    exact ⟨.slice none 0 0, rfl, World.ownsRow_nil w w.heap.size 9 1, Below.refl _ _⟩

set_option maxRecDepth 100000 in
set_option maxHeartbeats 1000000 in
theorem Proof_any (v : Value) (L : List ByteArray) (z : Int) (w : World) (ht : Tabs w) (hv : Txts w v L) :
    Calls Tryd.prog 27 #[v, .int .i64 z] w fun e w' => ∃ x, e = .returned (.tuple #[x, .int .i64 (proofE L z)]) ∧ w'.ownsRow w.heap.size 9 1 x (proofT L z).length ((proofT L z).map Value.string) ∧ Below w.heap.size w w' := by
  have HV := Lib.hid hv
  have HT := Lib.hid ht
  have HR := Lib.hid (refused_any v L w hv)
  obtain ⟨p, c, rfl, hv1, hv2, hv3⟩ := hv
  obtain ⟨n, hn⟩ : ∃ n, n = L.length := ⟨_, rfl⟩
  rw [← hn] at HV HR hv1 hv2 ⊢
  have hL := hn.symm
  obtain ⟨E, hE⟩ : ∃ E, E = refusedE L := ⟨_, rfl⟩
  rw [← hE] at HR
  by_cases h0 : E = 0
  · have hlen : n ≤ 4096 := by rw [hn]; exact refused_len (by rw [← hE]; exact h0)
    by_cases hbad : z < 1 ∨ (n : Int) < z
    · have e2 : proofE L z = 31 := by unfold proofE; rw [← hE, if_neg (by simp [h0]), ← hn, if_pos hbad]
      have e1 : proofT L z = [] := by unfold proofT; rw [e2]; rfl
      rw [e1, e2]
      subst h0
      clear hE hL hn hv3 e1 e2 ht
      by_cases hb0 : z < 1
      · clear hbad
        go_enter Tryd.func27, Tryd.ntmps27
        go_wp2_with (go_at_call 68; with_reducible refine (HR.out).mono ?_; rintro e w2 ⟨rfl, hw⟩; rw [hw]; clear hw w2)
        go_ret2
        exact ⟨.slice none 0 0, rfl, World.ownsRow_nil w w.heap.size 9 1, Below.refl _ _⟩
      · have hb2 : (n : Int) < z := by omega
        clear hbad
        go_enter Tryd.func27, Tryd.ntmps27
        go_wp2_with (go_at_call 68; with_reducible refine (HR.out).mono ?_; rintro e w2 ⟨rfl, hw⟩; rw [hw]; clear hw w2)
        go_ret2
        exact ⟨.slice none 0 0, rfl, World.ownsRow_nil w w.heap.size 9 1, Below.refl _ _⟩
    · obtain ⟨i, rfl⟩ : ∃ i : Nat, z = i := ⟨z.toNat, by omega⟩
      have e2 : proofE L i = 0 := by unfold proofE; rw [← hE, if_neg (by simp [h0]), ← hn, if_neg hbad]
      have e1 : proofT L i = proofR i L true := by unfold proofT; rw [e2, if_pos rfl, Int.toNat_natCast]
      rw [e1, e2]
      subst h0
      have hb0 : ¬ (i : Int) < 1 := by omega
      have hb1 : ¬ (n : Int) < (i : Int) := by omega
      have HC := Lib.hid (fun (w1 : World) (hb : Below w.heap.size w w1) (hx : BoxF w1 w.heap.size 75) => proofc_any n i L true p c w.heap.size w1 (HV.out.below hb (Nat.le_refl _)) hL (by omega) (by omega) (by omega) hx (HT.out.below hb))
      have hst := store_func Tryd.prog w 95 75 #[.pointer (some ⟨w.heap.size, 0, none⟩)]
      have HX : Hid (BoxF (w.alloc (.cells #[.func (.func 75) #[] #[.pointer (some ⟨w.heap.size, 0, none⟩)]] 95)) w.heap.size 75) := Lib.hid ⟨_, heap_alloc_new w _⟩
      have HB : Hid (Below w.heap.size w (w.alloc (.cells #[.func (.func 75) #[] #[.pointer (some ⟨w.heap.size, 0, none⟩)]] 95))) := Lib.hid ((Below.refl _ _).alloc (Nat.le_refl _) _)
      clear hE hL hn hv3 e1 e2 hbad ht
      go_enter Tryd.func27, Tryd.ntmps27
      go_wp2_with (first
        | (go_at_call 68; with_reducible refine (HR.out).mono ?_; rintro e w2 ⟨rfl, hw⟩; rw [hw]; clear hw w2)
        | (go_at_call 75; with_reducible refine (HC.out _ HB.out HX.out).mono ?_; rintro e w3 ⟨x, rfl, hown, hb⟩; have HB3 := Lib.hid (below_from HB.out hb HB.out.size); have HO3 := Lib.hid (owns_le hown HB.out.size); clear hb hown))
      go_ret2
      exact ⟨x, rfl, HO3.out, HB3.out⟩
  · have e2 : proofE L z = E := by unfold proofE; rw [← hE, if_pos h0]
    have e1 : proofT L z = [] := by unfold proofT; rw [e2, if_neg h0]
    rw [e1, e2]
    clear hE hL hn hv3 e1 e2 ht
    go_enter Tryd.func27, Tryd.ntmps27
    go_wp2_with (go_at_call 68; with_reducible refine (HR.out).mono ?_; rintro e w2 ⟨rfl, hw⟩; rw [hw]; clear hw w2)
    go_ret2
    exact ⟨.slice none 0 0, rfl, World.ownsRow_nil w w.heap.size 9 1, Below.refl _ _⟩

set_option maxRecDepth 100000 in
set_option maxHeartbeats 1000000 in
theorem Proofr_any (v : Value) (L : List ByteArray) (z : Int) (w : World) (hv : Txts w v L) :
    Calls Tryd.prog 28 #[v, .int .i64 z] w fun e w' => ∃ x, e = .returned (.tuple #[x, .int .i64 (proofE L z)]) ∧ w'.ownsRow w.heap.size 9 1 x (proofT L z).length ((proofT L z).map Value.string) ∧ Below w.heap.size w w' := by
  have HV := Lib.hid hv
  have HT := Lib.hid trivial
  have HR := Lib.hid (wrongr_any v L w hv)
  obtain ⟨p, c, rfl, hv1, hv2, hv3⟩ := hv
  obtain ⟨n, hn⟩ : ∃ n, n = L.length := ⟨_, rfl⟩
  rw [← hn] at HV HR hv1 hv2 ⊢
  have hL := hn.symm
  obtain ⟨E, hE⟩ : ∃ E, E = refusedE L := ⟨_, rfl⟩
  rw [← hE] at HR
  by_cases h0 : E = 0
  · have hlen : n ≤ 4096 := by rw [hn]; exact refused_len (by rw [← hE]; exact h0)
    by_cases hbad : z < 1 ∨ (n : Int) < z
    · have e2 : proofE L z = 31 := by unfold proofE; rw [← hE, if_neg (by simp [h0]), ← hn, if_pos hbad]
      have e1 : proofT L z = [] := by unfold proofT; rw [e2]; rfl
      rw [e1, e2]
      subst h0
      clear hE hL hn hv3 e1 e2
      by_cases hb0 : z < 1
      · clear hbad
        go_enter Tryd.func28, Tryd.ntmps28
        go_wp2_with (go_at_call 70; with_reducible refine (HR.out).mono ?_; rintro e w2 ⟨rfl, hw⟩; rw [hw]; clear hw w2)
        go_ret2
        exact ⟨.slice none 0 0, rfl, World.ownsRow_nil w w.heap.size 9 1, Below.refl _ _⟩
      · have hb2 : (n : Int) < z := by omega
        clear hbad
        go_enter Tryd.func28, Tryd.ntmps28
        go_wp2_with (go_at_call 70; with_reducible refine (HR.out).mono ?_; rintro e w2 ⟨rfl, hw⟩; rw [hw]; clear hw w2)
        go_ret2
        exact ⟨.slice none 0 0, rfl, World.ownsRow_nil w w.heap.size 9 1, Below.refl _ _⟩
    · obtain ⟨i, rfl⟩ : ∃ i : Nat, z = i := ⟨z.toNat, by omega⟩
      have e2 : proofE L i = 0 := by unfold proofE; rw [← hE, if_neg (by simp [h0]), ← hn, if_neg hbad]
      have e1 : proofT L i = proofR i L true := by unfold proofT; rw [e2, if_pos rfl, Int.toNat_natCast]
      rw [e1, e2]
      subst h0
      have hb0 : ¬ (i : Int) < 1 := by omega
      have hb1 : ¬ (n : Int) < (i : Int) := by omega
      have HC := Lib.hid (proofr_any n i L true p c w HV.out hL (by omega) (by omega) (by omega))
      clear hE hL hn hv3 e1 e2 hbad
      go_enter Tryd.func28, Tryd.ntmps28
      go_wp2_with (first
        | (go_at_call 70; with_reducible refine (HR.out).mono ?_; rintro e w2 ⟨rfl, hw⟩; rw [hw]; clear hw w2)
        | (go_at_call 76; with_reducible refine (HC.out).mono ?_; rintro e w3 ⟨x, rfl, hown, hb⟩; have HB3 := Lib.hid (below_from (Below.refl w.heap.size w) hb (Below.refl w.heap.size w).size); have HO3 := Lib.hid (owns_le hown (Below.refl w.heap.size w).size); clear hb hown))
      go_ret2
      exact ⟨x, rfl, HO3.out, HB3.out⟩
  · have e2 : proofE L z = E := by unfold proofE; rw [← hE, if_pos h0]
    have e1 : proofT L z = [] := by unfold proofT; rw [e2, if_neg h0]
    rw [e1, e2]
    clear hE hL hn hv3 e1 e2
    go_enter Tryd.func28, Tryd.ntmps28
    go_wp2_with (go_at_call 70; with_reducible refine (HR.out).mono ?_; rintro e w2 ⟨rfl, hw⟩; rw [hw]; clear hw w2)
    go_ret2
    exact ⟨.slice none 0 0, rfl, World.ownsRow_nil w w.heap.size 9 1, Below.refl _ _⟩
end Go.Proofs.YtejdpahgofhioaaDoor
