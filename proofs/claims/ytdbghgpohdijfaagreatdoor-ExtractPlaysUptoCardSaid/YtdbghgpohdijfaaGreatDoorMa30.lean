/- extract's small functions: a node's text, a list's root, whether two texts meet, whether all are hashes. -/
import Derived.Test.YtdbghgpohdijfaaGreatDoorMa29
import Derived.Test.YtdbghgpohdijfaaGreatDoorMa20
import Derived.WalkLawsBesides
import Derived.Deep.RegionHeld3
import Derived.Deep.RegionLaw
import Derived.Deep.CutBlock
namespace Go.Proofs.YtdbghgpohdijfaaGreatDoor
open Go.RowKit Go.Scr
set_option linter.unusedVariables false
set_option maxRecDepth 100000 in
set_option maxHeartbeats 400000 in
theorem refused1E_any (s : ByteArray) (w : World) :
    Calls Tryz.prog 59 #[.string s] w fun e w' => e = .returned (.bool (!(s.size == 32))) ∧ w' = w := by
  go_enter Tryz.func59, Tryz.ntmps59
  go_wp2
  go_ret
  refine ⟨?_, rfl⟩
  show Ending.returned (.bool ((s.size : Int) != 32)) = .returned (.bool (!(s.size == 32)))
  by_cases h : s.size = 32
  · have e1 : ((s.size : Int) != 32) = false := by rw [bne_eq_false_iff_eq]; omega
    have e2 : (s.size == 32) = true := beq_iff_eq.2 h
    rw [e1, e2]; rfl
  · have e1 : ((s.size : Int) != 32) = true := by rw [bne_iff_ne]; omega
    have e2 : (s.size == 32) = false := beq_eq_false_iff_ne.2 h
    rw [e1, e2]; rfl

set_option maxRecDepth 100000 in
set_option maxHeartbeats 1000000 in
theorem indexfuncE_any (v : Value) (L : List ByteArray) (w : World) (hv : Txts w v L) :
    Calls Tryz.prog 85 #[v, .func (.func 59) #[] #[]] w fun e w' => ∃ z : Int, e = .returned (.int .i64 z) ∧ (ok32 L = true → z = -1) ∧ (ok32 L = false → 0 ≤ z) ∧ w' = w := by
  obtain ⟨p, c, rfl, hv1, hv2, hv3⟩ := hv
  obtain ⟨n, hn⟩ : ∃ n, n = L.length := ⟨_, rfl⟩
  rw [← hn] at hv1 ⊢
  have HN := Lib.hid hn
  have HV := Lib.hid hv3
  have hnb : n ≤ 281474976710656 := by omega
  clear hn hv2 hv3 hv1
  go_enter Tryz.func85, Tryz.ntmps85
  go_wp2
  go_loop [8] (fun q => ∃ k : Nat, k ≤ n ∧ q = .int .i64 k ∧ Hid (ok32 (L.take k) = true)) (fun q => n - (intOf q).toNat)
  case atStart => exact ⟨0, by omega, rfl, Lib.hid rfl⟩
  case round =>
    obtain ⟨k, hk, rfl, hall⟩ := hrel
    by_cases hlt : k < n
    · obtain ⟨s, hs⟩ : ∃ s, L[k]? = some s := ⟨L[k]'(by rw [← HN.out]; exact hlt), List.getElem?_eq_getElem _⟩
      obtain ⟨a, rfl, hc⟩ := HV.out k s hs
      have HS := Lib.hid hs
      clear hs
      have HC := Lib.hid (refused1E_any s w)
      by_cases h32 : s.size = 32
      · rw [show (!(s.size == 32)) = false by simp [h32]] at HC
        have HALL := Lib.hid (by rw [ok32_take HS.out, hall.out]; simp [h32] : ok32 (L.take (k + 1)) = true)
        clear h32
        go_wp2_with (go_at_call 59; with_reducible refine (HC.out).mono ?_; rintro e w2 ⟨rfl, hw⟩; rw [hw]; clear hw w2)
        exact ⟨⟨k + 1, by omega, rfl, HALL⟩, (by show n - ((k : Int) + 1).toNat < n - (k : Int).toNat; omega)⟩
      · rw [show (!(s.size == 32)) = true by simp [h32]] at HC
        have HBAD := Lib.hid (ok32_bad HS.out h32)
        clear h32
        go_wp2_with (go_at_call 59; with_reducible refine (HC.out).mono ?_; rintro e w2 ⟨rfl, hw⟩; rw [hw]; clear hw w2)
        go_ret
        exact ⟨(k : Int), rfl, (fun h => (by rw [HBAD.out] at h; cases h)), (fun _ => Int.natCast_nonneg k), rfl⟩
    · have HK := Lib.hid (by have := hall.out; rwa [show k = n by omega, HN.out, List.take_length] at this : ok32 L = true)
      go_wp2
      go_ret
      exact ⟨-1, rfl, fun _ => rfl, fun h => (by rw [HK.out] at h; cases h), rfl⟩

set_option maxRecDepth 100000 in
set_option maxHeartbeats 400000 in
theorem containsfuncE_any (v : Value) (L : List ByteArray) (w : World) (hv : Txts w v L) :
    Calls Tryz.prog 58 #[v, .func (.func 59) #[] #[]] w fun e w' => e = .returned (.bool (!ok32 L)) ∧ w' = w := by
  have HI := Lib.hid (indexfuncE_any v L w hv)
  obtain ⟨p, c, rfl, hv1, hv2, hv3⟩ := hv
  obtain ⟨b, hb⟩ : ∃ b, b = ok32 L := ⟨_, rfl⟩
  rw [← hb] at HI ⊢
  clear hv1 hv2 hv3 hb
  cases b with
  | true =>
    go_enter Tryz.func58, Tryz.ntmps58
    go_wp2_with (go_at_call 85; with_reducible refine (HI.out).mono ?_; rintro e w2 ⟨z, rfl, hz, _, hw⟩; rw [hw]; clear hw w2; have hz2 := hz rfl; clear hz; subst hz2)
    go_ret
    exact ⟨rfl, rfl⟩
  | false =>
    go_enter Tryz.func58, Tryz.ntmps58
    go_wp2_with (go_at_call 85; with_reducible refine (HI.out).mono ?_; rintro e w2 ⟨z, rfl, _, hz, hw⟩; rw [hw]; clear hw w2; have hz2 : (0 : Int) ≤ z := hz rfl; clear hz)
    go_ret
    exact ⟨rfl, rfl⟩
set_option maxRecDepth 100000 in
set_option maxHeartbeats 400000 in
theorem ehashes_any (v : Value) (L : List ByteArray) (w : World) (hv : Txts w v L) :
    Calls Tryz.prog 31 #[v] w fun e w' => e = .returned (.bool (ok32 L)) ∧ w' = w := by
  have HI := Lib.hid (containsfuncE_any v L w hv)
  obtain ⟨p, c, rfl, hv1, hv2, hv3⟩ := hv
  obtain ⟨b, hb⟩ : ∃ b, b = ok32 L := ⟨_, rfl⟩
  rw [← hb] at HI ⊢
  clear hv1 hv2 hv3 hb
  cases b with
  | true =>
    go_enter Tryz.func31, Tryz.ntmps31
    go_wp2_with (go_at_call 58; with_reducible refine (HI.out).mono ?_; rintro e w2 ⟨rfl, hw⟩; rw [hw]; clear hw w2)
    go_ret
    exact ⟨rfl, rfl⟩
  | false =>
    go_enter Tryz.func31, Tryz.ntmps31
    go_wp2_with (go_at_call 58; with_reducible refine (HI.out).mono ?_; rintro e w2 ⟨rfl, hw⟩; rw [hw]; clear hw w2)
    go_ret
    exact ⟨rfl, rfl⟩
set_option maxRecDepth 100000 in
set_option maxHeartbeats 400000 in
theorem etext_any (l r : ByteArray) (w : World) (hl : l.size ≤ 1048576) (hr : r.size ≤ 1048576) :
    Calls Tryz.prog 61 #[.string l, .string r] w fun e w' => e = .returned (.string (txtS l r)) ∧ w' = w := by
  have h1 : (⟨#[1]⟩ : ByteArray).size + l.size ≤ 140737488355200 := by show 1 + l.size ≤ _; omega
  have h2 : (⟨#[1]⟩ ++ l : ByteArray).size + r.size ≤ 140737488355200 := by rw [ByteArray.size_append]; show 1 + l.size + r.size ≤ _; omega
  go_enter Tryz.func61, Tryz.ntmps61
  go_wp2
  go_ret
  exact ⟨rfl, rfl⟩
set_option maxRecDepth 100000 in
set_option maxHeartbeats 400000 in
theorem eroot_any (v : Value) (L : List ByteArray) (w : World) (ht : Tabs w) (hv : Txts w v L) :
    Calls Tryz.prog 32 #[v] w fun e w' => e = .returned (.string (rootT L)) ∧ Below w.heap.size w w' := by
  have HR := Lib.hid (Root_any v L w ht hv)
  obtain ⟨p, c, rfl, hv1, hv2, hv3⟩ := hv
  obtain ⟨r, hr⟩ : ∃ r, r = rootT L := ⟨_, rfl⟩
  obtain ⟨z, hz⟩ : ∃ z, z = refusedE L := ⟨_, rfl⟩
  rw [← hr, ← hz] at HR
  rw [← hr]
  clear hv1 hv2 hv3 hr hz ht
  go_enter Tryz.func32, Tryz.ntmps32
  go_wp2_with (go_at_call 16; with_reducible refine (HR.out).mono ?_; rintro e w2 ⟨rfl, h⟩; have H2 := Lib.hid h; clear h)
  go_ret
  exact ⟨rfl, H2.out⟩
/-- what a walk gives up: the pair -/
abbrev foundV (a b : ByteArray) : Value := .iface 76 (.agg #[.string a, .string b])
set_option maxRecDepth 100000 in
set_option maxHeartbeats 400000 in
theorem meet_same (a : ByteArray) (w : World) :
    Calls Tryz.prog 55 #[.string a, .string a] w fun e w' => e = .returned (.tuple #[]) ∧ w' = w := by
  go_enter Tryz.func55, Tryz.ntmps55
  go_wp2
  go_end0
  exact ⟨rfl, rfl⟩
set_option maxRecDepth 100000 in
set_option maxHeartbeats 400000 in
theorem meet_no (a b : ByteArray) (w : World) (h : a ≠ b) :
    Calls Tryz.prog 55 #[.string a, .string b] w fun e w' => e = .panicked [{ v := foundV a b, recovered := false }] ∧ w' = w := by
  have hne : (a.toList == b.toList) = false := textQ_ne h
  clear h
  go_enter Tryz.func55, Tryz.ntmps55
  go_wp2
  exact ⟨rfl, rfl, rfl⟩
end Go.Proofs.YtdbghgpohdijfaaGreatDoor
/- extract.down: two lists of one root that differ: it gives up with two unlike texts of one digest. -/
namespace Go.Proofs.YtdbghgpohdijfaaGreatDoor
open Go.RowKit Go.Scr
set_option linter.unusedVariables false
/-- gives up with two unlike texts of one digest -/
def DownP (w : World) (e : Ending) (w' : World) : Prop := ∃ p q, e = .panicked [{ v := foundV p q, recovered := false }] ∧ p ≠ q ∧ (shaS p = shaS q ∧ p.size ≤ 2000000 ∧ q.size ≤ 2000000) ∧ Below w.heap.size w w'
theorem rootT_R {L : List ByteArray} (h32 : ∀ s ∈ L, s.size = 32) (hn : L.length ≤ 4096) : rootT L = rootR L := by
  have hre : refusedE L = 0 := by unfold refusedE; rw [if_neg (by omega), if_neg (by rw [show ok32 L = true from all32_ofE h32]; decide)]
  unfold rootT
  rw [if_pos hre]
set_option maxRecDepth 100000 in
set_option maxHeartbeats 4000000 in
theorem down_any (n : Nat) : ∀ (A B : List ByteArray) (va vb : Value) (w : World), Tabs w → Txts w va A → Txts w vb B → A.length = n → B.length = n → 1 ≤ n → n ≤ 4096 → (∀ s ∈ A, s.size = 32) → (∀ s ∈ B, s.size = 32) → A ≠ B → rootR A = rootR B →
    Calls Tryz.prog 34 #[va, vb] w (DownP w) := by
  induction n using Nat.strongRecOn with
  | ind n ih =>
  intro A B va vb w ht hva hvb hA hB h1 h4 h32a h32b hne hr
  rcases Nat.lt_or_ge n 2 with hlt | h2
  · exact absurd (one_same (by omega) (by omega) hr) hne
  obtain ⟨k, hk⟩ : ∃ k, k = spl n := ⟨_, rfl⟩
  have hs := spl_lt h2
  obtain ⟨d1, d2⟩ := down_step hA hB h2 h32a h32b hne hr
  rw [← hk] at hs d1 d2
  obtain ⟨pa, ca, rfl, ha1, ha2, _⟩ := id hva
  obtain ⟨pb, cb, rfl, hb1, hb2, _⟩ := id hvb
  rw [hA] at hva ha1 ha2 ⊢
  rw [hB] at hvb hb1 hb2 ⊢
  have hal : (A.take k).length = k := by rw [List.length_take]; omega
  have hbl : (B.take k).length = k := by rw [List.length_take]; omega
  have hal2 : (A.drop k).length = n - k := by rw [List.length_drop]; omega
  have hbl2 : (B.drop k).length = n - k := by rw [List.length_drop]; omega
  have z1 : ∀ s ∈ A.take k, s.size = 32 := fun s hs => h32a s (List.mem_of_mem_take hs)
  have z2 : ∀ s ∈ A.drop k, s.size = 32 := fun s hs => h32a s (List.mem_of_mem_drop hs)
  have z3 : ∀ s ∈ B.take k, s.size = 32 := fun s hs => h32b s (List.mem_of_mem_take hs)
  have z4 : ∀ s ∈ B.drop k, s.size = 32 := fun s hs => h32b s (List.mem_of_mem_drop hs)
  have HTX : Hid (∀ w', Below w.heap.size w w' → Tabs w' ∧ Txts w' (.slice pa k ca) (A.take k) ∧ Txts w' (.slice (pa.map (·.add k)) (n - k) (ca - k)) (A.drop k) ∧ Txts w' (.slice pb k cb) (B.take k) ∧ Txts w' (.slice (pb.map (·.add k)) (n - k) (cb - k)) (B.drop k)) := Lib.hid (fun w' hb =>
    ⟨ht.below hb, (hva.below hb (Nat.le_refl _)).cutC (by omega), (hva.below hb (Nat.le_refl _)).rightC (by omega), (hvb.below hb (Nat.le_refl _)).cutC (by omega), (hvb.below hb (Nat.le_refl _)).rightC (by omega)⟩)
  obtain ⟨r1, hr1⟩ : ∃ r, r = rootR (A.take k) := ⟨_, rfl⟩
  obtain ⟨r2, hr2⟩ : ∃ r, r = rootR (A.drop k) := ⟨_, rfl⟩
  obtain ⟨r3, hr3⟩ : ∃ r, r = rootR (B.take k) := ⟨_, rfl⟩
  obtain ⟨r4, hr4⟩ : ∃ r, r = rootR (B.drop k) := ⟨_, rfl⟩
  have CR1 : Hid (∀ w', Below w.heap.size w w' → Calls Tryz.prog 32 #[.slice pa k ca] w' fun o z => o = .returned (.string r1) ∧ Below w'.heap.size w' z) := Lib.hid (fun w' hb => by
    have := eroot_any _ _ w' (HTX.out w' hb).1 (HTX.out w' hb).2.1
    rwa [rootT_R z1 (by omega), ← hr1] at this)
  have CR2 : Hid (∀ w', Below w.heap.size w w' → Calls Tryz.prog 32 #[.slice (pa.map (·.add k)) (n - k) (ca - k)] w' fun o z => o = .returned (.string r2) ∧ Below w'.heap.size w' z) := Lib.hid (fun w' hb => by
    have := eroot_any _ _ w' (HTX.out w' hb).1 (HTX.out w' hb).2.2.1
    rwa [rootT_R z2 (by omega), ← hr2] at this)
  have CR3 : Hid (∀ w', Below w.heap.size w w' → Calls Tryz.prog 32 #[.slice pb k cb] w' fun o z => o = .returned (.string r3) ∧ Below w'.heap.size w' z) := Lib.hid (fun w' hb => by
    have := eroot_any _ _ w' (HTX.out w' hb).1 (HTX.out w' hb).2.2.2.1
    rwa [rootT_R z3 (by omega), ← hr3] at this)
  have CR4 : Hid (∀ w', Below w.heap.size w w' → Calls Tryz.prog 32 #[.slice (pb.map (·.add k)) (n - k) (cb - k)] w' fun o z => o = .returned (.string r4) ∧ Below w'.heap.size w' z) := Lib.hid (fun w' hb => by
    have := eroot_any _ _ w' (HTX.out w' hb).1 (HTX.out w' hb).2.2.2.2
    rwa [rootT_R z4 (by omega), ← hr4] at this)
  have g1 := rootR_32E (all32_ofE z1)
  have g2 := rootR_32E (all32_ofE z2)
  have g3 := rootR_32E (all32_ofE z3)
  have g4 := rootR_32E (all32_ofE z4)
  rw [← hr1, ← hr2, ← hr3, ← hr4] at d1 d2
  rw [← hr1] at g1
  rw [← hr2] at g2
  rw [← hr3] at g3
  rw [← hr4] at g4
  obtain ⟨t1, ht1⟩ : ∃ t, t = txtS r1 r2 := ⟨_, rfl⟩
  obtain ⟨t2, ht2⟩ : ∃ t, t = txtS r3 r4 := ⟨_, rfl⟩
  have CT1 : Hid (∀ w', Calls Tryz.prog 61 #[.string r1, .string r2] w' fun o z => o = .returned (.string t1) ∧ z = w') := Lib.hid (fun w' => by rw [ht1]; exact etext_any _ _ w' (by omega) (by omega))
  have CT2 : Hid (∀ w', Calls Tryz.prog 61 #[.string r3, .string r4] w' fun o z => o = .returned (.string t2) ∧ z = w') := Lib.hid (fun w' => by rw [ht2]; exact etext_any _ _ w' (by omega) (by omega))
  rw [← ht1, ← ht2] at d1 d2
  have HSZ : Hid (t1.size ≤ 2000000 ∧ t2.size ≤ 2000000) := Lib.hid ⟨by rw [ht1]; unfold txtS; rw [ByteArray.size_append, ByteArray.size_append]; show 1 + r1.size + r2.size ≤ _; omega, by rw [ht2]; unfold txtS; rw [ByteArray.size_append, ByteArray.size_append]; show 1 + r3.size + r4.size ≤ _; omega⟩
  have HD : Hid (shaS t1 = shaS t2 ∧ (t1 = t2 → r1 = r3 ∧ r2 = r4 ∧ (A.take k = B.take k → A.drop k ≠ B.drop k))) := Lib.hid ⟨d1, d2⟩
  have CSP : Hid (∀ w', Calls Tryz.prog 60 #[.int .i64 (n : Int)] w' fun o z => o = .returned (.int .i64 (k : Int)) ∧ z = w') := Lib.hid (fun w' => by
    have := split_any (n : Int) w' (by omega)
    rwa [splitS_nat h2, ← hk] at this)
  have hn2 : ¬ (n : Int) < 2 := by omega
  have hkc : ¬ ca = k := by omega
  have hkc2 : ¬ cb = k := by omega
  have hkn : (k : Int) ≤ (n : Int) := by omega
  have hk0 : (0 : Int) ≤ (k : Int) := by omega
  have hkca : (k : Int) ≤ (ca : Int) := by omega
  have hkcb : (k : Int) ≤ (cb : Int) := by omega
  have hkw : IntKind.i64.wrap (k : Int) = (k : Int) := IntWalk.i64_in _ (by omega)
  have HBA : Hid (Below w.heap.size w w.drew) := Lib.hid (Below.refl _ _).drew
  have IH : Hid (∀ m, m < n → ∀ (A B : List ByteArray) (va vb : Value) (w : World), Tabs w → Txts w va A → Txts w vb B → A.length = m → B.length = m → 1 ≤ m → m ≤ 4096 → (∀ s ∈ A, s.size = 32) → (∀ s ∈ B, s.size = 32) → A ≠ B → rootR A = rootR B → Calls Tryz.prog 34 #[va, vb] w (DownP w)) := Lib.hid ih
  have HF : Hid ((A.take k).length = k ∧ (B.take k).length = k ∧ (A.drop k).length = n - k ∧ (B.drop k).length = n - k ∧ 0 < k ∧ k < n ∧ r1 = rootR (A.take k) ∧ r2 = rootR (A.drop k) ∧ r3 = rootR (B.take k) ∧ r4 = rootR (B.drop k)) := Lib.hid ⟨hal, hbl, hal2, hbl2, hs.1, hs.2.1, hr1, hr2, hr3, hr4⟩
  have HZ : Hid ((∀ s ∈ A.take k, s.size = 32) ∧ (∀ s ∈ A.drop k, s.size = 32) ∧ (∀ s ∈ B.take k, s.size = 32) ∧ (∀ s ∈ B.drop k, s.size = 32)) := Lib.hid ⟨z1, z2, z3, z4⟩
  clear ih ht hva hvb hA hB h32a h32b hne hr hk hs d1 d2 ha1 ha2 hb1 hb2 hal hbl hal2 hbl2 z1 z2 z3 z4 hr1 hr2 hr3 hr4 g1 g2 g3 g4 ht1 ht2
  by_cases htt : t1 = t2
  case neg =>
    have CM := Lib.hid (fun w' => meet_no t1 t2 w' htt)
    have HTT := Lib.hid htt
    clear htt
    go_enter Tryz.func34, Tryz.ntmps34
    go_upto_region 2 with (go_at_call 60; with_reducible refine (CSP.out _).mono ?_; rintro o w' ⟨rfl, hww⟩; rw [hww]; clear hww w')
    refine wp_region_held_drew (S := fun _ => True) (by kernel_rfl) trivial (fun hHeld => ?_)
    refine wpAnyH_take (i := 0) (oi := ⟨_, _, _, _, _, _⟩) (v := ?_) rfl (by kernel_rfl) (by kernel_rfl) (by kernel_rfl) (fun _ _ _ h => h) (Or.inl ⟨by rfl, ?_⟩) hHeld ?_
    rotate_left
    · ((intro w hSw; (try dsimp only at hSw); go_simp) <;> with_reducible rfl)
    try simp only [Act.put, List.setIfInBounds_toArray, List.set_cons_zero, List.set_cons_succ]
    refine wpAnyH_take (i := 1) (oi := ⟨_, _, _, _, _, _⟩) (v := ?_) rfl (by kernel_rfl) (by kernel_rfl) (by kernel_rfl) (fun _ _ _ h => h) (Or.inl ⟨by rfl, ?_⟩) hHeld ?_
    rotate_left
    · ((intro w hSw; (try dsimp only at hSw); go_simp) <;> with_reducible rfl)
    try simp only [Act.put, List.setIfInBounds_toArray, List.set_cons_zero, List.set_cons_succ]
    refine wpAnyH_take (i := 2) (oi := ⟨_, _, _, _, _, _⟩) (v := ?_) rfl (by kernel_rfl) (by kernel_rfl) (by kernel_rfl) (fun _ _ _ h => h) (Or.inl ⟨by rfl, ?_⟩) hHeld ?_
    rotate_left
    · ((intro w hSw; (try dsimp only at hSw); go_simp) <;> with_reducible rfl)
    try simp only [Act.put, List.setIfInBounds_toArray, List.set_cons_zero, List.set_cons_succ]
    refine wpAnyH_take (i := 4) (oi := ⟨_, _, _, _, _, _⟩) (v := ?_) rfl (by kernel_rfl) (by kernel_rfl) (by kernel_rfl) (fun _ _ _ h => h) (Or.inl ⟨by rfl, ?_⟩) hHeld ?_
    rotate_left
    · ((intro w hSw; (try dsimp only at hSw); go_simp) <;> with_reducible rfl)
    try simp only [Act.put, List.setIfInBounds_toArray, List.set_cons_zero, List.set_cons_succ]
    refine wpAnyH_take (i := 5) (oi := ⟨_, _, _, _, _, _⟩) (v := ?_) rfl (by kernel_rfl) (by kernel_rfl) (by kernel_rfl) (fun _ _ _ h => h) (Or.inl ⟨by rfl, ?_⟩) hHeld ?_
    rotate_left
    · ((intro w hSw; (try dsimp only at hSw); go_simp) <;> with_reducible rfl)
    try simp only [Act.put, List.setIfInBounds_toArray, List.set_cons_zero, List.set_cons_succ]
    refine wpAnyH_take (i := 6) (oi := ⟨_, _, _, _, _, _⟩) (v := ?_) rfl (by kernel_rfl) (by kernel_rfl) (by kernel_rfl) (fun _ _ _ h => h) (Or.inl ⟨by rfl, ?_⟩) hHeld ?_
    rotate_left
    · ((intro w hSw; (try dsimp only at hSw); go_simp) <;> with_reducible rfl)
    try simp only [Act.put, List.setIfInBounds_toArray, List.set_cons_zero, List.set_cons_succ]
    refine wpAnyH_take (i := 9) (oi := ⟨_, _, _, _, _, _⟩) (v := ?_) rfl (by kernel_rfl) (by kernel_rfl) (by kernel_rfl) (fun _ _ _ h => h) (Or.inl ⟨by rfl, ?_⟩) hHeld ?_
    rotate_left
    · ((intro w hSw; (try dsimp only at hSw); go_simp) <;> with_reducible rfl)
    try simp only [Act.put, List.setIfInBounds_toArray, List.set_cons_zero, List.set_cons_succ]
    refine wpAnyH_take (i := 10) (oi := ⟨_, _, _, _, _, _⟩) (v := ?_) rfl (by kernel_rfl) (by kernel_rfl) (by kernel_rfl) (fun _ _ _ h => h) (Or.inl ⟨by rfl, ?_⟩) hHeld ?_
    rotate_left
    · ((intro w hSw; (try dsimp only at hSw); go_simp) <;> with_reducible rfl)
    try simp only [Act.put, List.setIfInBounds_toArray, List.set_cons_zero, List.set_cons_succ]
    refine wpAnyH_take (i := 11) (oi := ⟨_, _, _, _, _, _⟩) (v := ?_) rfl (by kernel_rfl) (by kernel_rfl) (by kernel_rfl) (fun _ _ _ h => h) (Or.inl ⟨by rfl, ?_⟩) hHeld ?_
    rotate_left
    · ((intro w hSw; (try dsimp only at hSw); go_simp) <;> with_reducible rfl)
    try simp only [Act.put, List.setIfInBounds_toArray, List.set_cons_zero, List.set_cons_succ]
    refine wpAnyH_take (i := 13) (oi := ⟨_, _, _, _, _, _⟩) (v := ?_) rfl (by kernel_rfl) (by kernel_rfl) (by kernel_rfl) (fun _ _ _ h => h) (Or.inl ⟨by rfl, ?_⟩) hHeld ?_
    rotate_left
    · ((intro w hSw; (try dsimp only at hSw); go_simp) <;> with_reducible rfl)
    try simp only [Act.put, List.setIfInBounds_toArray, List.set_cons_zero, List.set_cons_succ]
    refine wpAnyH_take (i := 14) (oi := ⟨_, _, _, _, _, _⟩) (v := ?_) rfl (by kernel_rfl) (by kernel_rfl) (by kernel_rfl) (fun _ _ _ h => h) (Or.inl ⟨by rfl, ?_⟩) hHeld ?_
    rotate_left
    · ((intro w hSw; (try dsimp only at hSw); go_simp) <;> with_reducible rfl)
    try simp only [Act.put, List.setIfInBounds_toArray, List.set_cons_zero, List.set_cons_succ]
    refine wpAnyH_take (i := 15) (oi := ⟨_, _, _, _, _, _⟩) (v := ?_) rfl (by kernel_rfl) (by kernel_rfl) (by kernel_rfl) (fun _ _ _ h => h) (Or.inl ⟨by rfl, ?_⟩) hHeld ?_
    rotate_left
    · ((intro w hSw; (try dsimp only at hSw); go_simp) <;> with_reducible rfl)
    try simp only [Act.put, List.setIfInBounds_toArray, List.set_cons_zero, List.set_cons_succ]
    refine wpAnyH_ready (rs := [3]) (by kernel_rfl) (by simp) ?_
    refine AllReadyH.cons (o := ⟨_, _, _, _, _, _⟩) rfl (fun K hK => ?_) ?_
    rotate_left
    · exact AllReadyH.nil
    go_simp
    go_at_call 32; ((with_reducible refine (CR1.out _ HBA.out).mono ?_); rintro o x1 ⟨rfl, h⟩; have HB1 : Hid (Below w.heap.size w x1) := Lib.hid (HBA.out.trans (h.mono HBA.out.size)); clear h)
    refine hK.out _ _ trivial (fun hHeld => ?_)
    clear hK K
    try simp only [Act.put, List.setIfInBounds_toArray, List.set_cons_zero, List.set_cons_succ]
    refine wpAnyH_ready (rs := [7]) (by kernel_rfl) (by simp) ?_
    refine AllReadyH.cons (o := ⟨_, _, _, _, _, _⟩) rfl (fun K hK => ?_) ?_
    rotate_left
    · exact AllReadyH.nil
    go_simp
    go_at_call 32; ((with_reducible refine (CR2.out _ HB1.out).mono ?_); rintro o x2 ⟨rfl, h⟩; have HB2 : Hid (Below w.heap.size w x2) := Lib.hid (HB1.out.trans (h.mono HB1.out.size)); clear h)
    refine hK.out _ _ trivial (fun hHeld => ?_)
    clear hK K
    try simp only [Act.put, List.setIfInBounds_toArray, List.set_cons_zero, List.set_cons_succ]
    refine wpAnyH_ready (rs := [8]) (by kernel_rfl) (by simp) ?_
    refine AllReadyH.cons (o := ⟨_, _, _, _, _, _⟩) rfl (fun K hK => ?_) ?_
    rotate_left
    · exact AllReadyH.nil
    go_simp
    go_at_call 61; ((with_reducible refine (CT1.out _).mono ?_); rintro o z ⟨rfl, hx⟩; rw [hx]; clear hx z)
    refine hK.out _ _ trivial (fun hHeld => ?_)
    clear hK K
    try simp only [Act.put, List.setIfInBounds_toArray, List.set_cons_zero, List.set_cons_succ]
    refine wpAnyH_ready (rs := [12]) (by kernel_rfl) (by simp) ?_
    refine AllReadyH.cons (o := ⟨_, _, _, _, _, _⟩) rfl (fun K hK => ?_) ?_
    rotate_left
    · exact AllReadyH.nil
    go_simp
    go_at_call 32; ((with_reducible refine (CR3.out _ HB2.out).mono ?_); rintro o x3 ⟨rfl, h⟩; have HB3 : Hid (Below w.heap.size w x3) := Lib.hid (HB2.out.trans (h.mono HB2.out.size)); clear h)
    refine hK.out _ _ trivial (fun hHeld => ?_)
    clear hK K
    try simp only [Act.put, List.setIfInBounds_toArray, List.set_cons_zero, List.set_cons_succ]
    refine wpAnyH_ready (rs := [16]) (by kernel_rfl) (by simp) ?_
    refine AllReadyH.cons (o := ⟨_, _, _, _, _, _⟩) rfl (fun K hK => ?_) ?_
    rotate_left
    · exact AllReadyH.nil
    go_simp
    go_at_call 32; ((with_reducible refine (CR4.out _ HB3.out).mono ?_); rintro o x4 ⟨rfl, h⟩; have HB4 : Hid (Below w.heap.size w x4) := Lib.hid (HB3.out.trans (h.mono HB3.out.size)); clear h)
    refine hK.out _ _ trivial (fun hHeld => ?_)
    clear hK K
    try simp only [Act.put, List.setIfInBounds_toArray, List.set_cons_zero, List.set_cons_succ]
    refine wpAnyH_ready (rs := [17]) (by kernel_rfl) (by simp) ?_
    refine AllReadyH.cons (o := ⟨_, _, _, _, _, _⟩) rfl (fun K hK => ?_) ?_
    rotate_left
    · exact AllReadyH.nil
    go_simp
    go_at_call 61; ((with_reducible refine (CT2.out _).mono ?_); rintro o z ⟨rfl, hx⟩; rw [hx]; clear hx z)
    refine hK.out _ _ trivial (fun hHeld => ?_)
    clear hK K
    try simp only [Act.put, List.setIfInBounds_toArray, List.set_cons_zero, List.set_cons_succ]
    refine wpAnyH_ready (rs := [18]) (by kernel_rfl) (by simp) ?_
    refine AllReadyH.cons (o := ⟨_, _, _, _, _, _⟩) rfl (fun K hK => ?_) ?_
    rotate_left
    · exact AllReadyH.nil
    go_simp
    go_at_call 55; ((with_reducible refine (CM.out _).mono ?_); rintro o z ⟨rfl, hx⟩; rw [hx]; clear hx z)
    exact ⟨rfl, t1, t2, rfl, HTT.out, ⟨HD.out.1, HSZ.out⟩, HB4.out⟩
  subst htt
  obtain ⟨e13, e24, hdr⟩ := HD.out.2 rfl
  have CM := Lib.hid (fun w' => meet_same t1 w')
  obtain ⟨d, hd⟩ : ∃ d, d = decide (A.take k = B.take k) := ⟨_, rfl⟩
  have CE : Hid (∀ w', Below w.heap.size w w' → Calls Tryz.prog 20 #[.slice pa k ca, .slice pb k cb] w' fun o z => o = .returned (.bool d) ∧ Below w'.heap.size w' z) := Lib.hid (fun w' hb => by
    rw [hd]
    exact sameQ_any _ _ _ _ w' (HTX.out w' hb).2.1 (HTX.out w' hb).2.2.2.1 (by have := HF.out.1; omega) (by have := HF.out.2.1; omega))
  have HDR : Hid (d = decide (A.take k = B.take k) ∧ (A.take k = B.take k → A.drop k ≠ B.drop k) ∧ r1 = r3 ∧ r2 = r4) := Lib.hid ⟨hd, hdr, e13, e24⟩
  clear hd hdr e13 e24
  go_enter Tryz.func34, Tryz.ntmps34
  go_upto_region 2 with (go_at_call 60; with_reducible refine (CSP.out _).mono ?_; rintro o w' ⟨rfl, hww⟩; rw [hww]; clear hww w')
  go_region_held3 (fun w' => Below w.heap.size w w') (first | exact HB4.out | exact HB3.out | exact HB2.out | exact HB1.out | exact HBA.out) (first
    | (go_at_call 32; (with_reducible refine (CR1.out _ HBA.out).mono ?_); rintro o x1 ⟨rfl, h⟩; have HB1 : Hid (Below w.heap.size w x1) := Lib.hid (HBA.out.trans (h.mono HBA.out.size)); clear h)
    | (go_at_call 32; (with_reducible refine (CR2.out _ HB1.out).mono ?_); rintro o x2 ⟨rfl, h⟩; have HB2 : Hid (Below w.heap.size w x2) := Lib.hid (HB1.out.trans (h.mono HB1.out.size)); clear h)
    | (go_at_call 32; (with_reducible refine (CR3.out _ HB2.out).mono ?_); rintro o x3 ⟨rfl, h⟩; have HB3 : Hid (Below w.heap.size w x3) := Lib.hid (HB2.out.trans (h.mono HB2.out.size)); clear h)
    | (go_at_call 32; (with_reducible refine (CR4.out _ HB3.out).mono ?_); rintro o x4 ⟨rfl, h⟩; have HB4 : Hid (Below w.heap.size w x4) := Lib.hid (HB3.out.trans (h.mono HB3.out.size)); clear h)
    | (go_at_call 61; (with_reducible refine (CT1.out _).mono ?_); rintro o z ⟨rfl, hx⟩; rw [hx]; clear hx z)
    | (go_at_call 61; (with_reducible refine (CT2.out _).mono ?_); rintro o z ⟨rfl, hx⟩; rw [hx]; clear hx z)
    | (go_at_call 55; (with_reducible refine (CM.out _).mono ?_); rintro o z ⟨rfl, hx⟩; rw [hx]; clear hx z))
  have HB5 : Hid (Below w.heap.size w x4.drew) := Lib.hid HB4.out.drew
  clear CR1 CR2 CR3 CR4 CT1 CT2 CM CSP
  go_upto_region 3 with fail
  go_region_held3 (fun w' => Below w.heap.size w w') (first | exact HB6.out | exact HB5.out) (first
    | (go_at_call 20; (with_reducible refine (CE.out _ HB5.out).mono ?_); rintro o x6 ⟨rfl, h⟩; have HB6 : Hid (Below w.heap.size w x6) := Lib.hid (HB5.out.trans (h.mono HB5.out.size)); clear h))
  replace HB6 : Hid (Below w.heap.size w x6.drew) := Lib.hid HB6.out.drew
  cases d with
  | true =>
    have CDn : Hid (∀ w', Below w.heap.size w w' → Calls Tryz.prog 34 #[.slice (pa.map (·.add k)) (n - k) (ca - k), .slice (pb.map (·.add k)) (n - k) (cb - k)] w' (DownP w')) := Lib.hid (fun w' hb => by
      have hf := HF.out
      have hdd := HDR.out
      have htx := HTX.out w' hb
      exact IH.out (n - k) (by omega) _ _ _ _ w' htx.1 htx.2.2.1 htx.2.2.2.2 hf.2.2.1 hf.2.2.2.1 (by omega) (by omega) HZ.out.2.1 HZ.out.2.2.2 (hdd.2.1 (of_decide_eq_true hdd.1.symm)) (by rw [← hf.2.2.2.2.2.2.2.1, ← hf.2.2.2.2.2.2.2.2.2]; exact hdd.2.2.2))
    go_upto_region 4 with fail
    refine wp_region_held_drew (S := fun _ => True) (by kernel_rfl) trivial (fun hHeld => ?_)
    refine wpAnyH_take (i := 0) (oi := ⟨_, _, _, _, _, _⟩) (v := ?_) rfl (by kernel_rfl) (by kernel_rfl) (by kernel_rfl) (fun _ _ _ h => h) (Or.inl ⟨by rfl, ?_⟩) hHeld ?_
    rotate_left
    · ((intro w hSw; (try dsimp only at hSw); go_simp) <;> with_reducible rfl)
    try simp only [Act.put, List.setIfInBounds_toArray, List.set_cons_zero, List.set_cons_succ]
    refine wpAnyH_take (i := 1) (oi := ⟨_, _, _, _, _, _⟩) (v := ?_) rfl (by kernel_rfl) (by kernel_rfl) (by kernel_rfl) (fun _ _ _ h => h) (Or.inl ⟨by rfl, ?_⟩) hHeld ?_
    rotate_left
    · ((intro w hSw; (try dsimp only at hSw); go_simp) <;> with_reducible rfl)
    try simp only [Act.put, List.setIfInBounds_toArray, List.set_cons_zero, List.set_cons_succ]
    refine wpAnyH_take (i := 2) (oi := ⟨_, _, _, _, _, _⟩) (v := ?_) rfl (by kernel_rfl) (by kernel_rfl) (by kernel_rfl) (fun _ _ _ h => h) (Or.inl ⟨by rfl, ?_⟩) hHeld ?_
    rotate_left
    · ((intro w hSw; (try dsimp only at hSw); go_simp) <;> with_reducible rfl)
    try simp only [Act.put, List.setIfInBounds_toArray, List.set_cons_zero, List.set_cons_succ]
    refine wpAnyH_take (i := 3) (oi := ⟨_, _, _, _, _, _⟩) (v := ?_) rfl (by kernel_rfl) (by kernel_rfl) (by kernel_rfl) (fun _ _ _ h => h) (Or.inl ⟨by rfl, ?_⟩) hHeld ?_
    rotate_left
    · ((intro w hSw; (try dsimp only at hSw); go_simp) <;> with_reducible rfl)
    try simp only [Act.put, List.setIfInBounds_toArray, List.set_cons_zero, List.set_cons_succ]
    refine wpAnyH_take (i := 4) (oi := ⟨_, _, _, _, _, _⟩) (v := ?_) rfl (by kernel_rfl) (by kernel_rfl) (by kernel_rfl) (fun _ _ _ h => h) (Or.inl ⟨by rfl, ?_⟩) hHeld ?_
    rotate_left
    · ((intro w hSw; (try dsimp only at hSw); go_simp) <;> with_reducible rfl)
    try simp only [Act.put, List.setIfInBounds_toArray, List.set_cons_zero, List.set_cons_succ]
    refine wpAnyH_take (i := 5) (oi := ⟨_, _, _, _, _, _⟩) (v := ?_) rfl (by kernel_rfl) (by kernel_rfl) (by kernel_rfl) (fun _ _ _ h => h) (Or.inl ⟨by rfl, ?_⟩) hHeld ?_
    rotate_left
    · ((intro w hSw; (try dsimp only at hSw); go_simp) <;> with_reducible rfl)
    try simp only [Act.put, List.setIfInBounds_toArray, List.set_cons_zero, List.set_cons_succ]
    refine wpAnyH_ready (rs := [6]) (by kernel_rfl) (by simp) ?_
    refine AllReadyH.cons (o := ⟨_, _, _, _, _, _⟩) rfl (fun K hK => ?_) ?_
    rotate_left
    · exact AllReadyH.nil
    go_simp
    go_at_call 34; ((with_reducible refine (CDn.out _ HB6.out).mono ?_); rintro o z ⟨p, q, rfl, hpq, hsh, hb⟩)
    exact ⟨rfl, p, q, rfl, hpq, hsh, HB6.out.trans (hb.mono HB6.out.size)⟩
  | false =>
    have CDn : Hid (∀ w', Below w.heap.size w w' → Calls Tryz.prog 34 #[.slice pa k ca, .slice pb k cb] w' (DownP w')) := Lib.hid (fun w' hb => by
      have hf := HF.out
      have hdd := HDR.out
      have htx := HTX.out w' hb
      exact IH.out k (by omega) _ _ _ _ w' htx.1 htx.2.1 htx.2.2.2.1 hf.1 hf.2.1 (by omega) (by omega) HZ.out.1 HZ.out.2.2.1 (of_decide_eq_false hdd.1.symm) (by rw [← hf.2.2.2.2.2.2.1, ← hf.2.2.2.2.2.2.2.2.1]; exact hdd.2.2.1))
    go_upto_region 5 with fail
    refine wp_region_held_drew (S := fun _ => True) (by kernel_rfl) trivial (fun hHeld => ?_)
    refine wpAnyH_take (i := 0) (oi := ⟨_, _, _, _, _, _⟩) (v := ?_) rfl (by kernel_rfl) (by kernel_rfl) (by kernel_rfl) (fun _ _ _ h => h) (Or.inl ⟨by rfl, ?_⟩) hHeld ?_
    rotate_left
    · ((intro w hSw; (try dsimp only at hSw); go_simp) <;> with_reducible rfl)
    try simp only [Act.put, List.setIfInBounds_toArray, List.set_cons_zero, List.set_cons_succ]
    refine wpAnyH_take (i := 1) (oi := ⟨_, _, _, _, _, _⟩) (v := ?_) rfl (by kernel_rfl) (by kernel_rfl) (by kernel_rfl) (fun _ _ _ h => h) (Or.inl ⟨by rfl, ?_⟩) hHeld ?_
    rotate_left
    · ((intro w hSw; (try dsimp only at hSw); go_simp) <;> with_reducible rfl)
    try simp only [Act.put, List.setIfInBounds_toArray, List.set_cons_zero, List.set_cons_succ]
    refine wpAnyH_take (i := 2) (oi := ⟨_, _, _, _, _, _⟩) (v := ?_) rfl (by kernel_rfl) (by kernel_rfl) (by kernel_rfl) (fun _ _ _ h => h) (Or.inl ⟨by rfl, ?_⟩) hHeld ?_
    rotate_left
    · ((intro w hSw; (try dsimp only at hSw); go_simp) <;> with_reducible rfl)
    try simp only [Act.put, List.setIfInBounds_toArray, List.set_cons_zero, List.set_cons_succ]
    refine wpAnyH_take (i := 3) (oi := ⟨_, _, _, _, _, _⟩) (v := ?_) rfl (by kernel_rfl) (by kernel_rfl) (by kernel_rfl) (fun _ _ _ h => h) (Or.inl ⟨by rfl, ?_⟩) hHeld ?_
    rotate_left
    · ((intro w hSw; (try dsimp only at hSw); go_simp) <;> with_reducible rfl)
    try simp only [Act.put, List.setIfInBounds_toArray, List.set_cons_zero, List.set_cons_succ]
    refine wpAnyH_take (i := 4) (oi := ⟨_, _, _, _, _, _⟩) (v := ?_) rfl (by kernel_rfl) (by kernel_rfl) (by kernel_rfl) (fun _ _ _ h => h) (Or.inl ⟨by rfl, ?_⟩) hHeld ?_
    rotate_left
    · ((intro w hSw; (try dsimp only at hSw); go_simp) <;> with_reducible rfl)
    try simp only [Act.put, List.setIfInBounds_toArray, List.set_cons_zero, List.set_cons_succ]
    refine wpAnyH_take (i := 5) (oi := ⟨_, _, _, _, _, _⟩) (v := ?_) rfl (by kernel_rfl) (by kernel_rfl) (by kernel_rfl) (fun _ _ _ h => h) (Or.inl ⟨by rfl, ?_⟩) hHeld ?_
    rotate_left
    · ((intro w hSw; (try dsimp only at hSw); go_simp) <;> with_reducible rfl)
    try simp only [Act.put, List.setIfInBounds_toArray, List.set_cons_zero, List.set_cons_succ]
    refine wpAnyH_ready (rs := [6]) (by kernel_rfl) (by simp) ?_
    refine AllReadyH.cons (o := ⟨_, _, _, _, _, _⟩) rfl (fun K hK => ?_) ?_
    rotate_left
    · exact AllReadyH.nil
    go_simp
    go_at_call 34; ((with_reducible refine (CDn.out _ HB6.out).mono ?_); rintro o z ⟨p, q, rfl, hpq, hsh, hb⟩)
    exact ⟨rfl, p, q, rfl, hpq, hsh, HB6.out.trans (hb.mono HB6.out.size)⟩
end Go.Proofs.YtdbghgpohdijfaaGreatDoor
