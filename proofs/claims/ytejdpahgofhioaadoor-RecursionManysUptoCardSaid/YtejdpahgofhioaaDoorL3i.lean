/- Layer 3, walked: right, digits; an append of an owned list to an owned list. -/
import Derived.Test.YtejdpahgofhioaaDoorL3h
import Derived.Maps.AppendAt
namespace Go.Proofs.YtejdpahgofhioaaDoor
open Go.RowKit Go.Scr
set_option linter.unusedVariables false

theorem wpList_cat {P : Program} {ops : Array Oper} {rest : List Oper} {o : Oper} {a : Act} {Q : Exit → Act → World → Prop} {w : World} {T S : TypeId} (hgd : o.guard = none) (s x : Operand)
    (ho : o.op = .call { callee := .builtin .append, args := #[s, x], argTypes := #[S, S] }) (hu : P.underlying S = some (.slice T)) (z : Value) {byt : Nat} (hi : (P.info? T).map (fun i => (i.zero, i.size, i.bytes)) = some (some z, 1, byt))
    (hzs : z.cells.size = 1) {B B2 : Nat} {v u : Value} {n0 m : Nat} {l xs : List Value} (hs : a.eval s = v) (hx : a.eval x = u) (hown : w.ownsRow B T 1 v n0 l) (hsrc : w.ownsRow B2 T 1 u m xs)
    (hone : ∀ u ∈ xs, u.oneCell' = true) (hB : B ≤ w.heap.size) (hl : (n0 + m) * byt ≤ 140737488355328) (hl2 : n0 + m ≤ 140737488355328)
    (h : ∀ v' w', w'.ownsRow B T 1 v' (n0 + m) (l ++ xs) → w.grownBy w' v.ownBlock → (v'.ownBlock = v.ownBlock ∨ v'.ownBlock = some w.heap.size) → wpList P ops Q rest (a.put o.dst v') w') :
    wpList P ops Q (o :: rest) a w := by
  obtain ⟨i, hi0, hz, hsi, hbi⟩ := info_parts hi
  refine wpList_plain hgd fun _ hK => ?_
  unfold Oper.wp execOp
  rcases hsrc.2 with ⟨rfl, rfl⟩ | ⟨g, cap, cur, rfl, _, hg, hnc, _, hcs, htake⟩
  · have hxs : xs = [] := List.eq_nil_of_length_eq_zero (by have := hsrc.1; simpa using this)
    subst hxs
    obtain ⟨bs, sl, sc, hv, hle⟩ : ∃ bs sl sc, v = .slice bs sl sc ∧ sl ≤ sc := by
      rcases hown.2 with ⟨rfl, _⟩ | ⟨g, cap, cur, rfl, _, _, hnc, _⟩
      · exact ⟨none, 0, 0, rfl, Nat.le_refl _⟩
      · exact ⟨_, _, _, rfl, hnc⟩
    have hrun : (Builtin.append_ #[S, S] o.type #[v, .slice none 0 0]).run P w = .ok v w := by
      rw [hv]
      cases bs <;> simp [Builtin.append_, run_underlying hu, sizeOf, typeInfo, hi0, hle, Builtin.lenOf, Builtin.firstCells, storeCells]
    simp only [ho, resolve, invoke, builtin, Sem.run_bind, Sem.run_pure, Result.andThen_ok, List.map_toArray, List.map_cons, List.map_nil, hs, hx, hrun]
    exact hK _ _ (h v w (by rw [List.append_nil]; exact hown) (only_refl _ _) (Or.inl rfl))
  · have hcells : ∀ j u, xs[j]? = some u → w.cell? ((⟨g, 0, none⟩ : Addr).add j) = some u := by
      intro j u hj
      have hadd : (⟨g, 0, none⟩ : Addr).add j = ⟨g, j, none⟩ := by unfold Addr.add; split <;> simp_all
      rw [hadd, cell_of_row w g j _ _ _ hg, ← Array.getElem?_toList]
      rw [← htake, List.getElem?_take] at hj
      split at hj
      · exact hj
      · cases hj
    obtain ⟨v', w', hrun, ho2, hgr, _, hat⟩ := run_append_own_at (P := P) w B S o.type T i z 1 byt hu hi0 hz hsi hbi hzs (by decide) v n0 l hown ⟨g, 0, none⟩ m cap xs hsrc.1 hcells hone (by simp only [maxLen]; omega) hl hB
    simp only [ho, resolve, invoke, builtin, Sem.run_bind, Sem.run_pure, Result.andThen_ok, List.map_toArray, List.map_cons, List.map_nil, hs, hx, hrun]
    exact hK _ _ (h v' w' ho2 hgr hat)

theorem info_bool : (Tryd.prog.info? 4).map (fun i => (i.zero, i.size, i.bytes)) = some (some (.bool false), 1, 1) := by kernel_rfl
set_option maxRecDepth 100000 in
set_option maxHeartbeats 1000000 in
theorem right3_any (n : Nat) : ∀ (m : Nat) (w : World), 1 ≤ n → m < n → n ≤ 1048576 →
    Calls Tryd.prog 38 #[.int .i64 m, .int .i64 n] w fun e w' => ∃ x, e = .returned x ∧ w'.ownsRow w.heap.size 4 1 x (dn n m).length ((dn n m).map (fun d => Value.bool (!d))) ∧ Below w.heap.size w w' := by
  induction n using Nat.strongRecOn with
  | ind n ih =>
    intro m w h1 hm hn
    have IH := Lib.hid ih
    clear ih
    rcases Nat.lt_or_ge n 2 with h | h
    · have hd := dn1 m (show n ≤ 1 by omega)
      have hni : ((n : Int) == 1) = true := beq_iff_eq.2 (by omega)
      rw [hd]
      clear hd h IH
      go_enter Tryd.func38, Tryd.ntmps38
      go_wp2
      go_ret
      exact ⟨_, rfl, World.ownsRow_nil w _ _ _, Below.refl _ _⟩
    · have hni : ((n : Int) == 1) = false := beq_eq_false_iff_ne.2 (by omega)
      obtain ⟨k, hk⟩ : ∃ k, k = spl n := ⟨_, rfl⟩
      have hs := spl_lt h
      have hh := fun w' => half3_any n w' (by omega)
      rw [← hk] at hs hh
      have HH := Lib.hid hh
      by_cases hmk : m < k
      · have hd := dnl (n := n) (m := m) (by omega) (by rw [← hk]; exact hmk)
        rw [← hk] at hd
        obtain ⟨q, hq⟩ : ∃ q, q = (dn k m).length := ⟨_, rfl⟩
        have hql : q ≤ k := by rw [hq]; exact dn_len k m
        have hq1 : (dn n m).length = q + 1 := by rw [hd, List.length_append, ← hq]; rfl
        have hmap : (dn n m).map (fun d => Value.bool (!d)) = (dn k m).map (fun d => Value.bool (!d)) ++ [Value.bool true] := by rw [hd]; simp
        have hc := IH.out k hs.2.1 m
        rw [← hq] at hc
        rw [hq1, hmap]
        have HC := Lib.hid (fun w' => hc w' (by omega) hmk (by omega))
        have hmki : (m : Int) < (k : Int) := by omega
        have hp1 : 0 < q + 1 := by omega
        have hp2 : (q + 1) * 1 ≤ 140737488355328 := by omega
        have hp3 : q + 1 ≤ 140737488355328 := by omega
        have HONE : Hid (∀ u ∈ [Value.bool true], u.oneCell' = true) := Lib.hid (by intro u hu; simp only [List.mem_singleton] at hu; rw [hu]; rfl)
        clear hd hq hq1 hmap hc hk hs hh hmk IH hm
        go_enter Tryd.func38, Tryd.ntmps38
        go_wp2_with (first
          | (go_at_call 84; with_reducible refine (HH.out _).mono ?_; rintro r wx ⟨rfl, hw⟩; rw [hw]; clear hw wx)
          | (go_at_call 38; with_reducible refine (HC.out w).mono ?_; rintro r w1 ⟨x, rfl, hown, hb⟩; have HO1 := Lib.hid hown; have HB1 := Lib.hid hb; clear hown hb)
          | (at_builtin; refine wpList_appendV rfl _ _ rfl Tryd.underlying52 (.bool false) 1 info_bool rfl (by decide) [Value.bool true] 1 (q + 1) rfl rfl HO1.out rfl rfl HONE.out HB1.out (Nat.le_refl _) HB1.out.size rfl hp1 hp2 hp3 ?_; intro g' c' w5 hg' hown' hb' hsz' hgr'; have HOWN3 := Lib.hid hown'; have HBEL3 := Lib.hid hb'; clear hown' hb' hsz' hgr' hg'))
        go_ret
        exact ⟨_, rfl, HOWN3.out, HBEL3.out⟩
      · have hd := dnr (n := n) (m := m) (by omega) (by rw [← hk]; exact hmk)
        rw [← hk] at hd
        obtain ⟨nk, hnk⟩ : ∃ x, x = n - k := ⟨_, rfl⟩
        obtain ⟨mk, hmk2⟩ : ∃ x, x = m - k := ⟨_, rfl⟩
        rw [← hnk, ← hmk2] at hd
        obtain ⟨q, hq⟩ : ∃ q, q = (dn nk mk).length := ⟨_, rfl⟩
        have hql : q ≤ nk := by rw [hq]; exact dn_len nk mk
        have hq1 : (dn n m).length = q + 1 := by rw [hd, List.length_append, ← hq]; rfl
        have hmap : (dn n m).map (fun d => Value.bool (!d)) = (dn nk mk).map (fun d => Value.bool (!d)) ++ [Value.bool false] := by rw [hd]; simp
        have hc := IH.out nk (by omega) mk
        rw [← hq] at hc
        rw [hq1, hmap]
        have HC := Lib.hid (fun w' => hc w' (by omega) (by omega) (by omega))
        have hmki : ¬ ((m : Int) < (k : Int)) := by omega
        have q1 : (n : Int) - (k : Int) = (nk : Int) := by omega
        have q2 : (m : Int) - (k : Int) = (mk : Int) := by omega
        have hp1 : 0 < q + 1 := by omega
        have hp2 : (q + 1) * 1 ≤ 140737488355328 := by omega
        have hp3 : q + 1 ≤ 140737488355328 := by omega
        have hkb : k ≤ 1048576 := by omega
        have hnkb : nk ≤ 1048576 := by omega
        have hmkb : mk ≤ 1048576 := by omega
        have HONE : Hid (∀ u ∈ [Value.bool false], u.oneCell' = true) := Lib.hid (by intro u hu; simp only [List.mem_singleton] at hu; rw [hu]; rfl)
        clear hd hq hq1 hmap hc hk hs hh hmk IH hnk hmk2
        go_enter Tryd.func38, Tryd.ntmps38
        go_wp2_with (first
          | (go_at_call 84; with_reducible refine (HH.out _).mono ?_; rintro r wx ⟨rfl, hw⟩; rw [hw]; clear hw wx)
          | (go_at_call 38; with_reducible refine (HC.out w).mono ?_; rintro r w1 ⟨x, rfl, hown, hb⟩; have HO1 := Lib.hid hown; have HB1 := Lib.hid hb; clear hown hb)
          | (at_builtin; refine wpList_appendV rfl _ _ rfl Tryd.underlying52 (.bool false) 1 info_bool rfl (by decide) [Value.bool false] 1 (q + 1) rfl rfl HO1.out rfl rfl HONE.out HB1.out (Nat.le_refl _) HB1.out.size rfl hp1 hp2 hp3 ?_; intro g' c' w5 hg' hown' hb' hsz' hgr'; have HOWN3 := Lib.hid hown'; have HBEL3 := Lib.hid hb'; clear hown' hb' hsz' hgr' hg'))
        go_ret
        exact ⟨_, rfl, HOWN3.out, HBEL3.out⟩

set_option maxRecDepth 100000 in
set_option maxHeartbeats 400000 in
theorem digits3_any (n : Nat) (w : World) (hn : n ≤ 1048576) :
    Calls Tryd.prog 39 #[.int .i64 n] w fun e w' => ∃ d : Nat, e = .returned (.int .i64 d) ∧ n < 2 ^ d ∧ d ≤ 1048576 ∧ w' = w := by
  go_enter Tryd.func39, Tryd.ntmps39
  go_wp2
  go_loop [0, 3] (fun x y => ∃ c d : Nat, c + d ≤ n ∧ x = .int .i64 c ∧ y = .int .i64 d ∧ Hid (n < (c + 1) * 2 ^ d)) (fun x _ => (intOf x).toNat)
  case atStart => exact ⟨n, 0, by omega, rfl, rfl, Lib.hid (by simp)⟩
  case round =>
    obtain ⟨c, d, hcd, rfl, rfl, hinv⟩ := hrel
    have HINV := Lib.hid hinv.out
    clear hinv
    by_cases h0 : 0 < c
    · obtain ⟨c2, hc2⟩ : ∃ c2, c2 = c / 2 := ⟨_, rfl⟩
      have hci : (0 : Int) < (c : Int) := by omega
      have hdi : (c : Int) / 2 = (c2 : Int) := by omega
      have hdt : (c : Int).tdiv 2 = (c2 : Int) := by rw [Int.tdiv_eq_ediv_of_nonneg (by omega)]; exact hdi
      have hcb : c ≤ 1048576 := by omega
      have hdb : d ≤ 1048576 := by omega
      have HC2 := Lib.hid hc2
      have HLT := Lib.hid h0
      clear hc2 h0
      go_wp2
      refine ⟨⟨c2, d + 1, by have := HC2.out; have := HLT.out; omega, rfl, rfl, Lib.hid ?_⟩, (by show (c2 : Int).toNat < (c : Int).toNat; have := HC2.out; have := HLT.out; omega)⟩
      have h1 := HINV.out
      have h2 : c + 1 ≤ (c2 + 1) * 2 := by have := HC2.out; omega
      have h3 : (c + 1) * 2 ^ d ≤ (c2 + 1) * 2 * 2 ^ d := Nat.mul_le_mul_right _ h2
      rw [Nat.pow_succ, Nat.mul_comm (2 ^ d) 2, ← Nat.mul_assoc]
      omega
    · have hc0 : c = 0 := by omega
      subst hc0
      have hdb : d ≤ 1048576 := by omega
      clear h0
      go_wp2
      go_ret
      exact ⟨d, rfl, by have := HINV.out; simpa using this, hdb, rfl⟩
end Go.Proofs.YtejdpahgofhioaaDoor
