/- Layer 3, walked: proofs of both. -/
import Derived.Test.YtdbghgpohdijfaaGreatDoorMa27
namespace Go.Proofs.YtdbghgpohdijfaaGreatDoor
open Go.RowKit Go.Scr
set_option linter.unusedVariables false

theorem toldR_le (s : Nat) : ∀ f whole, 1 ≤ f → f ≤ s → toldN f s whole ≤ s := by
  induction s using Nat.strongRecOn with
  | ind s ih =>
    intro f whole h1 h2
    by_cases h : f = s
    · subst h; rw [toldN_same]; split <;> omega
    · have hs := spl_lt (show 2 ≤ s by omega)
      by_cases hle : f ≤ spl s
      · rw [toldN_left whole h (by omega) hle]
        have := ih (spl s) hs.2.1 f whole h1 hle
        omega
      · rw [toldN_right whole h (by omega) hle]
        have := ih (s - spl s) (by omega) (f - spl s) false (by omega) (by omega)
        omega
def proofR (m : Nat) (L : List ByteArray) (b : Bool) : List ByteArray := proofL nodeS hempty m L b
theorem proofR_len {m : Nat} {L : List ByteArray} (b : Bool) (h1 : 1 ≤ m) (h2 : m ≤ L.length) : (proofR m L b).length ≤ L.length := by
  unfold proofR
  rw [proofL_length nodeS hempty L.length m L b rfl]
  exact toldR_le _ _ _ h1 h2
theorem proofR_same {L : List ByteArray} {m : Nat} (h : m = L.length) (b : Bool) : proofR m L b = if b then [] else [rootR L] := by
  unfold proofR rootR
  rw [proofL, dif_pos (Or.inl h)]
theorem proofR_left {L : List ByteArray} {m k : Nat} (b : Bool) (hk : k = spl L.length) (h : 2 ≤ L.length) (hne : m ≠ L.length) (hm : m ≤ k) : proofR m L b = proofR m (L.take k) b ++ [rootR (L.drop k)] := by
  subst hk
  unfold proofR rootR
  rw [proofL, dif_neg (by omega), if_pos hm]
theorem proofR_right {L : List ByteArray} {m k : Nat} (b : Bool) (hk : k = spl L.length) (h : 2 ≤ L.length) (hne : m ≠ L.length) (hm : ¬ m ≤ k) : proofR m L b = proofR (m - k) (L.drop k) false ++ [rootR (L.take k)] := by
  subst hk
  unfold proofR rootR
  rw [proofL, dif_neg (by omega), if_neg hm]
theorem owns_one {w : World} {T : Nat} {X : ByteArray} {B : Nat} (hB : B ≤ w.heap.size) : (w.alloc (.cells #[.string X] T)).ownsRow B T 1 (.slice (some ⟨w.heap.size, 0, none⟩) 1 1) 1 ([X].map Value.string) :=
  ⟨rfl, Or.inr ⟨w.heap.size, 1, #[.string X], rfl, hB, heap_alloc_new w _, Nat.le_refl _, by unfold maxLen; decide, rfl, rfl⟩⟩

set_option maxRecDepth 100000 in
set_option maxHeartbeats 2000000 in
theorem proofc_any (n : Nat) : ∀ (m : Nat) (L : List ByteArray) (b : Bool) (p : Option Addr) (c : Nat) (r : Nat) (w : World), Txts w (.slice p n c) L → L.length = n → n ≤ 1048576 → 1 ≤ m → m ≤ n → BoxF w r 48 → Tabs w →
    Calls Tryz.prog 48 #[.int .i64 m, .slice p n c, .bool b, .pointer (some ⟨r, 0, none⟩)] w fun e w' => ∃ x, e = .returned x ∧ w'.ownsRow w.heap.size 9 1 x (proofR m L b).length ((proofR m L b).map Value.string) ∧ Below w.heap.size w w' := by
  induction n using Nat.strongRecOn with
  | ind n ih =>
    intro m L b p c r w hv hL hn h1 hmn hbox ht
    have IH := Lib.hid ih
    have HV := Lib.hid hv
    have HT := Lib.hid ht
    have HBOX := Lib.hid hbox
    have HC := Lib.hid hbox.c
    obtain ⟨p', c', he, hv1, hv2, hv3⟩ := hv
    simp only [Value.slice.injEq] at he
    obtain ⟨rfl, hnl, rfl⟩ := he
    clear ih hnl
    by_cases heq : m = n
    · have hp1 := proofR_same (L := L) (m := m) (by omega) b
      rw [hp1]
      have hmi : ((m : Int) == (n : Int)) = true := beq_iff_eq.2 (by omega)
      cases b with
      | true =>
        clear hv1 hv2 hv3 hp1 hL heq hbox ht
        go_enter Tryz.func48, Tryz.ntmps48
        go_wp2
        go_ret
        exact ⟨.slice none 0 0, rfl, World.ownsRow_nil w w.heap.size 9 1, Below.refl _ _⟩
      | false =>
        have HR := Lib.hid (root_any p n c L w HT.out HV.out hL (by omega))
        clear hv1 hv2 hv3 hp1 hL heq hbox ht
        go_enter Tryz.func48, Tryz.ntmps48
        go_wp2_with (go_at_call 45; with_reducible refine (HR.out).mono ?_; rintro e w4 ⟨rfl, hb⟩; have HB4 := Lib.hid hb; clear hb)
        go_ret
        exact ⟨_, rfl, owns_one HB4.out.size, HB4.out.alloc HB4.out.size _⟩
    · have h2 : 2 ≤ n := by omega
      have hmi : ((m : Int) == (n : Int)) = false := beq_eq_false_iff_ne.2 (by omega)
      have hlen : n ≤ c := by omega
      have HP := Lib.hid (fun w' => parts_any p n c w' (by omega) (by omega) (by omega))
      have hpp := trivial
      have hsp := spl_lt h2
      obtain ⟨k, hk⟩ : ∃ k, k = spl n := ⟨_, rfl⟩
      rw [← hk] at HP hsp
      have hkL : k = spl L.length := by rw [hL]; exact hk
      have hkc : (k : Int) ≤ (c : Int) := by omega
      have hkn : (k : Int) ≤ (n : Int) := by omega
      have hk0 : (0 : Int) ≤ (k : Int) := by omega
      have hnc : (n : Int) ≤ (c : Int) := by omega
      have hck : ¬ (c - k = 0) := by omega
      by_cases hm2 : m ≤ k
      · have hX := proofR_left b hkL (by omega) (by omega) hm2
        obtain ⟨q, hq⟩ : ∃ q, q = (proofR m (L.take k) b).length := ⟨_, rfl⟩
        have hqb : q ≤ k := by rw [hq]; have := proofR_len (m := m) (L := L.take k) b h1 (by rw [List.length_take]; omega); rw [List.length_take] at this; omega
        obtain ⟨X, hXX⟩ : ∃ X, X = rootR (L.drop k) := ⟨_, rfl⟩
        rw [← hXX] at hX
        have hXl : (proofR m L b).length = q + 1 := by rw [hX, List.length_append, ← hq]; rfl
        rw [hXl]
        have HX := Lib.hid (by rw [hX, List.map_append] : (proofR m L b).map Value.string = (proofR m (L.take k) b).map Value.string ++ [X].map Value.string)
        have HI := Lib.hid (fun w' (h : Below w.heap.size w w') => IH.out k hsp.2.1 m (L.take k) b p k r w' ((HV.out.left (by omega)).below h (Nat.le_refl _)) (by rw [List.length_take]; omega) (by omega) h1 hm2 (HBOX.out.below h (Nat.le_refl _)) (HT.out.below h))
        rw [← hq] at HI
        have HR := Lib.hid (fun w' (h : Below w.heap.size w w') => root_any _ _ _ (L.drop k) w' (HT.out.below h) ((HV.out.right (k := k) (by omega)).below h (Nat.le_refl _)) (by rw [List.length_drop]; omega) (by omega))
        rw [← hXX] at HR
        have hmki : (m : Int) ≤ (k : Int) := by omega
        have hq1 : 0 < q + 1 := by omega
        have hq2 : (q + 1) * 16 ≤ 140737488355328 := by omega
        have hq3 : q + 1 ≤ 140737488355328 := by omega
        clear hv1 hv2 hv3 hL hX hXX hXl hk hkL hq hlen heq hbox ht
        go_enter Tryz.func48, Tryz.ntmps48
        go_wp2_with (first
          | (go_at_call 47; with_reducible refine (HP.out w).mono ?_; rintro e w2 ⟨rfl, hb⟩; have HB2 := Lib.hid hb; have hc2 := (hb.cell (block_lt_of_cell HC.out)).trans HC.out; clear hb)
          | (go_at_call 48; with_reducible refine (HI.out w2 HB2.out).mono ?_; rintro e w3 ⟨x, rfl, hown, hb⟩; have HB3 := Lib.hid (below_from HB2.out hb HB2.out.size); have HO3 := Lib.hid (owns_le hown HB2.out.size); clear hb hown)
          | (go_at_call 45; with_reducible refine (HR.out w3 HB3.out).mono ?_; rintro e w4 ⟨rfl, hb⟩; have HB4 := Lib.hid (below_from HB3.out hb HB3.out.size); have HO4 := Lib.hid (owns_below HO3.out hb (Nat.le_refl _)); clear hb)
          | (at_builtin; refine wpList_appendV rfl _ _ rfl Tryz.underlying22 (.string ⟨#[]⟩) 1 info_str rfl (by decide) ([X].map Value.string) 1 (q + 1) rfl rfl HO4.out rfl rfl (str_one _) HB4.out (Nat.le_refl _) HB4.out.size rfl hq1 hq2 hq3 ?_; intro g' c' w5 hg' hown' hb' hsz' hgr'; have HO5 := Lib.hid hown'; have HB5 := Lib.hid hb'; clear hown' hb' hsz' hgr' hg'))
        go_ret
        exact ⟨_, rfl, by rw [HX.out]; exact HO5.out, HB5.out⟩
      · have hX := proofR_right b hkL (by omega) (by omega) hm2
        obtain ⟨q, hq⟩ : ∃ q, q = (proofR (m - k) (L.drop k) false).length := ⟨_, rfl⟩
        have hqb : q ≤ n := by rw [hq]; have := proofR_len (m := m - k) (L := L.drop k) false (by omega) (by rw [List.length_drop]; omega); rw [List.length_drop] at this; omega
        obtain ⟨X, hXX⟩ : ∃ X, X = rootR (L.take k) := ⟨_, rfl⟩
        rw [← hXX] at hX
        have hXl : (proofR m L b).length = q + 1 := by rw [hX, List.length_append, ← hq]; rfl
        rw [hXl]
        have HX := Lib.hid (by rw [hX, List.map_append] : (proofR m L b).map Value.string = (proofR (m - k) (L.drop k) false).map Value.string ++ [X].map Value.string)
        have HI := Lib.hid (fun w' (h : Below w.heap.size w w') => IH.out (n - k) (by omega) (m - k) (L.drop k) false (p.map (·.add k)) (n - k) r w' ((HV.out.right (k := k) (by omega)).below h (Nat.le_refl _)) (by rw [List.length_drop]; omega) (by omega) (by omega) (by omega) (HBOX.out.below h (Nat.le_refl _)) (HT.out.below h))
        rw [← hq] at HI
        have HR := Lib.hid (fun w' (h : Below w.heap.size w w') => root_any _ _ _ (L.take k) w' (HT.out.below h) ((HV.out.left (by omega)).below h (Nat.le_refl _)) (by rw [List.length_take]; omega) (by omega))
        rw [← hXX] at HR
        have hmki : ¬ ((m : Int) ≤ (k : Int)) := by omega
        obtain ⟨mk, hmk⟩ : ∃ y, y = m - k := ⟨_, rfl⟩
        rw [← hmk] at HI HX
        have hmkj : (m : Int) - (k : Int) = (mk : Int) := by omega
        have hmkb : mk ≤ 1048576 := by omega
        have hq1 : 0 < q + 1 := by omega
        have hq2 : (q + 1) * 16 ≤ 140737488355328 := by omega
        have hq3 : q + 1 ≤ 140737488355328 := by omega
        clear hv1 hv2 hv3 hL hX hXX hXl hk hkL hq hlen hmk heq hbox ht
        go_enter Tryz.func48, Tryz.ntmps48
        go_wp2_with (first
          | (go_at_call 47; with_reducible refine (HP.out w).mono ?_; rintro e w2 ⟨rfl, hb⟩; have HB2 := Lib.hid hb; have hc2 := (hb.cell (block_lt_of_cell HC.out)).trans HC.out; clear hb)
          | (go_at_call 48; with_reducible refine (HI.out w2 HB2.out).mono ?_; rintro e w3 ⟨x, rfl, hown, hb⟩; have HB3 := Lib.hid (below_from HB2.out hb HB2.out.size); have HO3 := Lib.hid (owns_le hown HB2.out.size); clear hb hown)
          | (go_at_call 45; with_reducible refine (HR.out w3 HB3.out).mono ?_; rintro e w4 ⟨rfl, hb⟩; have HB4 := Lib.hid (below_from HB3.out hb HB3.out.size); have HO4 := Lib.hid (owns_below HO3.out hb (Nat.le_refl _)); clear hb)
          | (at_builtin; refine wpList_appendV rfl _ _ rfl Tryz.underlying22 (.string ⟨#[]⟩) 1 info_str rfl (by decide) ([X].map Value.string) 1 (q + 1) rfl rfl HO4.out rfl rfl (str_one _) HB4.out (Nat.le_refl _) HB4.out.size rfl hq1 hq2 hq3 ?_; intro g' c' w5 hg' hown' hb' hsz' hgr'; have HO5 := Lib.hid hown'; have HB5 := Lib.hid hb'; clear hown' hb' hsz' hgr' hg'))
        go_ret
        exact ⟨_, rfl, by rw [HX.out]; exact HO5.out, HB5.out⟩

end Go.Proofs.YtdbghgpohdijfaaGreatDoor
/- Layer 3, walked: Path, Proof of both. -/
namespace Go.Proofs.YtdbghgpohdijfaaGreatDoor
open Go.RowKit Go.Scr
set_option linter.unusedVariables false

def pathE (L : List ByteArray) (z : Int) : Int := if refusedE L ≠ 0 then refusedE L else if z < 0 ∨ (L.length : Int) ≤ z then 30 else 0
def pathT (L : List ByteArray) (z : Int) : List ByteArray := if pathE L z = 0 then pathR z.toNat L else []
def proofE (L : List ByteArray) (z : Int) : Int := if refusedE L ≠ 0 then refusedE L else if z < 1 ∨ (L.length : Int) < z then 31 else 0
def proofT (L : List ByteArray) (z : Int) : List ByteArray := if proofE L z = 0 then proofR z.toNat L true else []
theorem refused_len {L : List ByteArray} (h : refusedE L = 0) : L.length ≤ 4096 := by
  rcases Nat.lt_or_ge 4096 L.length with h1 | h1
  · exfalso
    have : refusedE L = 31 := by unfold refusedE; rw [if_pos h1]
    omega
  · exact h1

set_option maxRecDepth 100000 in
set_option maxHeartbeats 1000000 in
theorem Path_any (v : Value) (L : List ByteArray) (z : Int) (w : World) (ht : Tabs w) (hv : Txts w v L) :
    Calls Tryz.prog 17 #[v, .int .i64 z] w fun e w' => ∃ x, e = .returned (.tuple #[x, .int .i64 (pathE L z)]) ∧ w'.ownsRow w.heap.size 9 1 x (pathT L z).length ((pathT L z).map Value.string) ∧ Below w.heap.size w w' := by
  have HV := Lib.hid hv
  have HT := Lib.hid ht
  have HR := Lib.hid (refused_any v L w hv)
  obtain ⟨p, c, rfl, hv1, hv2, hv3⟩ := hv
  obtain ⟨n, hn⟩ : ∃ n, n = L.length := ⟨_, rfl⟩
  rw [← hn] at HV HR hv1 hv2 ⊢
  have hL := hn.symm
  obtain ⟨E, hE⟩ : ∃ E, E = refusedE L := ⟨_, rfl⟩
  rw [← hE] at HR
  by_cases h0 : E = 0
  · have hlen : n ≤ 4096 := by rw [hn]; exact refused_len (by rw [← hE]; exact h0)
    by_cases hbad : z < 0 ∨ (n : Int) ≤ z
    · have e2 : pathE L z = 30 := by unfold pathE; rw [← hE, if_neg (by simp [h0]), ← hn, if_pos hbad]
      have e1 : pathT L z = [] := by unfold pathT; rw [e2]; rfl
      rw [e1, e2]
      subst h0
      clear hE hL hn hv3 e1 e2 ht
      by_cases hb0 : z < 0
      · clear hbad
        go_enter Tryz.func17, Tryz.ntmps17
        go_wp2_with (go_at_call 44; with_reducible refine (HR.out).mono ?_; rintro e w2 ⟨rfl, hw⟩; rw [hw]; clear hw w2)
        go_ret2
        exact ⟨.slice none 0 0, rfl, World.ownsRow_nil w w.heap.size 9 1, Below.refl _ _⟩
      · have hb2 : (n : Int) ≤ z := by omega
        clear hbad
        go_enter Tryz.func17, Tryz.ntmps17
        go_wp2_with (go_at_call 44; with_reducible refine (HR.out).mono ?_; rintro e w2 ⟨rfl, hw⟩; rw [hw]; clear hw w2)
        go_ret2
        exact ⟨.slice none 0 0, rfl, World.ownsRow_nil w w.heap.size 9 1, Below.refl _ _⟩
    · obtain ⟨i, rfl⟩ : ∃ i : Nat, z = i := ⟨z.toNat, by omega⟩
      have e2 : pathE L i = 0 := by unfold pathE; rw [← hE, if_neg (by simp [h0]), ← hn, if_neg hbad]
      have e1 : pathT L i = pathR i L := by unfold pathT; rw [e2, if_pos rfl, Int.toNat_natCast]
      rw [e1, e2]
      subst h0
      have hb0 : ¬ (i : Int) < 0 := by omega
      have hb1 : ¬ (n : Int) ≤ (i : Int) := by omega
      have HC := Lib.hid (fun (w1 : World) (hb : Below w.heap.size w w1) (hx : BoxF w1 w.heap.size 46) => pathc_any n i L p c w.heap.size w1 (HV.out.below hb (Nat.le_refl _)) hL (by omega) (by omega) hx (HT.out.below hb))
      have hst := store_func Tryz.prog w 66 46 #[.pointer (some ⟨w.heap.size, 0, none⟩)]
      have HX : Hid (BoxF (w.alloc (.cells #[.func (.func 46) #[] #[.pointer (some ⟨w.heap.size, 0, none⟩)]] 66)) w.heap.size 46) := Lib.hid ⟨_, heap_alloc_new w _⟩
      have HB : Hid (Below w.heap.size w (w.alloc (.cells #[.func (.func 46) #[] #[.pointer (some ⟨w.heap.size, 0, none⟩)]] 66))) := Lib.hid ((Below.refl _ _).alloc (Nat.le_refl _) _)
      clear hE hL hn hv3 e1 e2 hbad ht
      go_enter Tryz.func17, Tryz.ntmps17
      go_wp2_with (first
        | (go_at_call 44; with_reducible refine (HR.out).mono ?_; rintro e w2 ⟨rfl, hw⟩; rw [hw]; clear hw w2)
        | (go_at_call 46; with_reducible refine (HC.out _ HB.out HX.out).mono ?_; rintro e w3 ⟨x, rfl, hown, hb⟩; have HB3 := Lib.hid (below_from HB.out hb HB.out.size); have HO3 := Lib.hid (owns_le hown HB.out.size); clear hb hown))
      go_ret2
      exact ⟨x, rfl, HO3.out, HB3.out⟩
  · have e2 : pathE L z = E := by unfold pathE; rw [← hE, if_pos h0]
    have e1 : pathT L z = [] := by unfold pathT; rw [e2, if_neg h0]
    rw [e1, e2]
    clear hE hL hn hv3 e1 e2 ht
    go_enter Tryz.func17, Tryz.ntmps17
    go_wp2_with (go_at_call 44; with_reducible refine (HR.out).mono ?_; rintro e w2 ⟨rfl, hw⟩; rw [hw]; clear hw w2)
    go_ret2
    exact ⟨.slice none 0 0, rfl, World.ownsRow_nil w w.heap.size 9 1, Below.refl _ _⟩

set_option maxRecDepth 100000 in
set_option maxHeartbeats 1000000 in
theorem Proof_any (v : Value) (L : List ByteArray) (z : Int) (w : World) (ht : Tabs w) (hv : Txts w v L) :
    Calls Tryz.prog 18 #[v, .int .i64 z] w fun e w' => ∃ x, e = .returned (.tuple #[x, .int .i64 (proofE L z)]) ∧ w'.ownsRow w.heap.size 9 1 x (proofT L z).length ((proofT L z).map Value.string) ∧ Below w.heap.size w w' := by
  have HV := Lib.hid hv
  have HT := Lib.hid ht
  have HR := Lib.hid (refused_any v L w hv)
  obtain ⟨p, c, rfl, hv1, hv2, hv3⟩ := hv
  obtain ⟨n, hn⟩ : ∃ n, n = L.length := ⟨_, rfl⟩
  rw [← hn] at HV HR hv1 hv2 ⊢
  have hL := hn.symm
  obtain ⟨E, hE⟩ : ∃ E, E = refusedE L := ⟨_, rfl⟩
  rw [← hE] at HR
  by_cases h0 : E = 0
  · have hlen : n ≤ 4096 := by rw [hn]; exact refused_len (by rw [← hE]; exact h0)
    by_cases hbad : z < 1 ∨ (n : Int) < z
    · have e2 : proofE L z = 31 := by unfold proofE; rw [← hE, if_neg (by simp [h0]), ← hn, if_pos hbad]
      have e1 : proofT L z = [] := by unfold proofT; rw [e2]; rfl
      rw [e1, e2]
      subst h0
      clear hE hL hn hv3 e1 e2 ht
      by_cases hb0 : z < 1
      · clear hbad
        go_enter Tryz.func18, Tryz.ntmps18
        go_wp2_with (go_at_call 44; with_reducible refine (HR.out).mono ?_; rintro e w2 ⟨rfl, hw⟩; rw [hw]; clear hw w2)
        go_ret2
        exact ⟨.slice none 0 0, rfl, World.ownsRow_nil w w.heap.size 9 1, Below.refl _ _⟩
      · have hb2 : (n : Int) < z := by omega
        clear hbad
        go_enter Tryz.func18, Tryz.ntmps18
        go_wp2_with (go_at_call 44; with_reducible refine (HR.out).mono ?_; rintro e w2 ⟨rfl, hw⟩; rw [hw]; clear hw w2)
        go_ret2
        exact ⟨.slice none 0 0, rfl, World.ownsRow_nil w w.heap.size 9 1, Below.refl _ _⟩
    · obtain ⟨i, rfl⟩ : ∃ i : Nat, z = i := ⟨z.toNat, by omega⟩
      have e2 : proofE L i = 0 := by unfold proofE; rw [← hE, if_neg (by simp [h0]), ← hn, if_neg hbad]
      have e1 : proofT L i = proofR i L true := by unfold proofT; rw [e2, if_pos rfl, Int.toNat_natCast]
      rw [e1, e2]
      subst h0
      have hb0 : ¬ (i : Int) < 1 := by omega
      have hb1 : ¬ (n : Int) < (i : Int) := by omega
      have HC := Lib.hid (fun (w1 : World) (hb : Below w.heap.size w w1) (hx : BoxF w1 w.heap.size 48) => proofc_any n i L true p c w.heap.size w1 (HV.out.below hb (Nat.le_refl _)) hL (by omega) (by omega) (by omega) hx (HT.out.below hb))
      have hst := store_func Tryz.prog w 69 48 #[.pointer (some ⟨w.heap.size, 0, none⟩)]
      have HX : Hid (BoxF (w.alloc (.cells #[.func (.func 48) #[] #[.pointer (some ⟨w.heap.size, 0, none⟩)]] 69)) w.heap.size 48) := Lib.hid ⟨_, heap_alloc_new w _⟩
      have HB : Hid (Below w.heap.size w (w.alloc (.cells #[.func (.func 48) #[] #[.pointer (some ⟨w.heap.size, 0, none⟩)]] 69))) := Lib.hid ((Below.refl _ _).alloc (Nat.le_refl _) _)
      clear hE hL hn hv3 e1 e2 hbad ht
      go_enter Tryz.func18, Tryz.ntmps18
      go_wp2_with (first
        | (go_at_call 44; with_reducible refine (HR.out).mono ?_; rintro e w2 ⟨rfl, hw⟩; rw [hw]; clear hw w2)
        | (go_at_call 48; with_reducible refine (HC.out _ HB.out HX.out).mono ?_; rintro e w3 ⟨x, rfl, hown, hb⟩; have HB3 := Lib.hid (below_from HB.out hb HB.out.size); have HO3 := Lib.hid (owns_le hown HB.out.size); clear hb hown))
      go_ret2
      exact ⟨x, rfl, HO3.out, HB3.out⟩
  · have e2 : proofE L z = E := by unfold proofE; rw [← hE, if_pos h0]
    have e1 : proofT L z = [] := by unfold proofT; rw [e2, if_neg h0]
    rw [e1, e2]
    clear hE hL hn hv3 e1 e2 ht
    go_enter Tryz.func18, Tryz.ntmps18
    go_wp2_with (go_at_call 44; with_reducible refine (HR.out).mono ?_; rintro e w2 ⟨rfl, hw⟩; rw [hw]; clear hw w2)
    go_ret2
    exact ⟨.slice none 0 0, rfl, World.ownsRow_nil w w.heap.size 9 1, Below.refl _ _⟩

end Go.Proofs.YtdbghgpohdijfaaGreatDoor
