/- frontier.Compact of any leaves. -/
import Derived.Test.YtdbghgpohdijfaaDoorMa63
import Derived.Test.YtdbghgpohdijfaaDoorMa2
import Derived.Test.YtdbghgpohdijfaaDoorMa15
import Derived.BigQuiet
namespace Go.Proofs.YtdbghgpohdijfaaDoor
open Go.RowKit Go.Scr Go.ChangeMaps Go.MapKept
set_option linter.unusedVariables false
set_option maxRecDepth 100000 in
set_option maxHeartbeats 400000 in
theorem fplace_any (n : Int) (w : World) : Calls Tryd.prog 85 #[.int .i64 n] w fun o w' => o = .returned (.bool (decide (0 ≤ n ∧ n ≤ 1099511627776))) ∧ w' = w := by
  by_cases h0 : 0 ≤ n
  · by_cases h1 : n ≤ 1099511627776
    · have hD : decide (0 ≤ n ∧ n ≤ 1099511627776) = true := decide_eq_true ⟨h0, h1⟩
      rw [hD]
      clear hD
      go_enter Tryd.func85, Tryd.ntmps85
      go_wp2_with fail
      go_ret
      exact ⟨rfl, rfl⟩
    · have hD : decide (0 ≤ n ∧ n ≤ 1099511627776) = false := decide_eq_false (fun h => h1 h.2)
      rw [hD]
      clear hD
      go_enter Tryd.func85, Tryd.ntmps85
      go_wp2_with fail
      go_ret
      exact ⟨rfl, rfl⟩
  · have hD : decide (0 ≤ n ∧ n ≤ 1099511627776) = false := decide_eq_false (fun h => h0 h.1)
    rw [hD]
    clear hD
    go_enter Tryd.func85, Tryd.ntmps85
    go_wp2_with fail
    go_ret
    exact ⟨rfl, rfl⟩
/-- Compact of any leaves: the hashes are the roots of the pieces -/
def cmT (n : Nat) (L : List ByteArray) : List ByteArray := nodesA (valF L n) n (n + L.length)
end Go.Proofs.YtdbghgpohdijfaaDoor
/- The document's layer 5: Cut, hashes. -/
namespace Go.Proofs.YtdbghgpohdijfaaDoor
open Go.RowKit Go.Scr
set_option linter.unusedVariables false
theorem info_span5 : (Tryd.prog.info? 128).map (fun i => (i.zero, i.size, i.bytes)) = some (some (.agg #[.int .i64 0, .int .i64 0]), 2, 16) := by kernel_rfl
/-- pieces as rows of spans -/
def cuV (K : List (Nat × Nat)) : List Value := K.flatMap fun x => [.int .i64 (x.1 : Int), .int .i64 ((x.1 + 2 ^ x.2 : Nat) : Int)]
theorem cuV_snoc (K : List (Nat × Nat)) (x : Nat × Nat) : cuV (K ++ [x]) = cuV K ++ [.int .i64 (x.1 : Int), .int .i64 ((x.1 + 2 ^ x.2 : Nat) : Int)] := by
  unfold cuV; rw [List.flatMap_append]; rfl
theorem cuV_append (K M : List (Nat × Nat)) : cuV (K ++ M) = cuV K ++ cuV M := by unfold cuV; rw [List.flatMap_append]
theorem cuV_get : ∀ {K : List (Nat × Nat)} {i : Nat} {x : Nat × Nat}, K[i]? = some x → (cuV K)[i * 2]? = some (.int .i64 (x.1 : Int)) ∧ (cuV K)[i * 2 + 1]? = some (.int .i64 ((x.1 + 2 ^ x.2 : Nat) : Int))
  | [], i, x, h => by simp at h
  | y :: r, 0, x, h => by obtain rfl := Option.some.inj h; exact ⟨rfl, rfl⟩
  | y :: r, i + 1, x, h => by
    obtain ⟨h1, h2⟩ := cuV_get (K := r) (i := i) (x := x) (by simpa using h)
    rw [show (i + 1) * 2 = i * 2 + 2 by omega, show i * 2 + 2 + 1 = (i * 2 + 1) + 2 by omega]
    exact ⟨h1, h2⟩
/-- an own list of pieces as spans, above w -/
structure CwI (w wr : World) (v : Value) (n : Nat) (K : List (Nat × Nat)) : Prop where
  b : Below w.heap.size w wr
  h : Held wr 128 2 v n (cuV K)
  o : ∀ g, v.ownBlock = some g → w.heap.size ≤ g
theorem CwI.below {w wr w' : World} {v : Value} {n : Nat} {K : List (Nat × Nat)} (H : CwI w wr v n K) (hb : Below wr.heap.size wr w') : CwI w w' v n K :=
  ⟨H.b.trans (hb.mono H.b.size), H.h.below hb, H.o⟩
theorem CwI.push {w wr w' : World} {v v' : Value} {n : Nat} {K : List (Nat × Nat)} {x : Nat × Nat} {cs : Array Value} {T : TypeId} (H : CwI w wr v n K) (g : Grew 128 2 (wr.alloc (.cells cs T)) v n 1 (cuV K) [.int .i64 (x.1 : Int), .int .i64 ((x.1 + 2 ^ x.2 : Nat) : Int)] v' w') : CwI w w' v' (n + 1) (K ++ [x]) := by
  have hb1 : Below w.heap.size w (wr.alloc (.cells cs T)) := H.b.alloc H.b.size _
  have hgr := g.grown
  refine ⟨⟨hgr.os.trans hb1.os, hgr.tape.trans hb1.tape, hgr.output.trans hb1.output, Nat.le_trans hb1.size hgr.size, fun i hi => (hgr.block i (Nat.lt_of_lt_of_le hi hb1.size) (fun e => by have := H.o i e.symm; omega)).trans (hb1.block i hi)⟩, ?_, fun q hq => ?_⟩
  · rw [cuV_snoc]
    exact g.held
  · rcases g.at with ⟨e, _⟩ | ⟨e, _⟩
    · exact H.o q (by rw [← e]; exact hq)
    · rw [hq] at e
      have h1 := Option.some.inj e
      have h2 := hb1.size
      omega
set_option maxRecDepth 100000 in
set_option maxHeartbeats 8000000 in
theorem cut5_any (b e : Nat) (w : World) (hbe : b ≤ e) (he : e ≤ 1099511627776) :
    Calls Tryd.prog 74 #[.int .i64 (b : Int), .int .i64 (e : Int)] w fun o w' => ∃ v, o = .returned v ∧ CwI w w' v (cutA b e).length (cutA b e) := by
  obtain ⟨A, hA⟩ : ∃ A, A = cutA b e := ⟨_, rfl⟩
  obtain ⟨m, hm⟩ : ∃ m, m = A.length := ⟨_, rfl⟩
  have hm80 : m ≤ 80 := by rw [hm, hA]; exact cutA_80 he
  rw [← hA, ← hm]
  have HA : Hid (A = cutA b e ∧ A.length = m) := Lib.hid ⟨hA, hm.symm⟩
  have HS0 : Hid (CwI w w (.slice none 0 0) 0 []) := Lib.hid ⟨Below.refl _ _, ⟨rfl, .inl ⟨rfl, rfl⟩⟩, (fun g hg => nomatch hg)⟩
  have HBE : Hid (b ≤ e) := Lib.hid hbe
  clear hA hm hbe
  go_enter Tryd.func74, Tryd.ntmps74
  go_wp2_with fail
  go_loopw [0, 5] (fun x u wr => ∃ (D : List (Nat × Nat)) (j c : Nat) (q : Option Addr) (d : Nat), x = .int .i64 (c : Int) ∧ u = .slice q j d ∧ c ≤ e ∧ j ≤ m ∧ Hid (b ≤ c ∧ D.length = j ∧ A = D ++ cutA c e) ∧ Hid (CwI w wr (.slice q j d) j D)) (fun x _ _ => e - (intOf x).toNat)
  case atStart => exact ⟨[], 0, b, none, 0, rfl, rfl, HBE.out, Nat.zero_le _, Lib.hid ⟨Nat.le_refl _, rfl, HA.out.1⟩, HS0⟩
  case round =>
    clear HS0
    obtain ⟨D, j, c, q, d, rfl, rfl, hce, hjm, HD, HI⟩ := hrel
    by_cases hlt : c < e
    · have hci : (c : Int) < (e : Int) := by omega
      obtain ⟨lv, hlv⟩ : ∃ l, l = lvA c (e - c) := ⟨_, rfl⟩
      have hl1 : 2 ^ lv ≤ e - c := by rw [hlv]; exact lvA_le (by omega)
      have hl2 : 2 ^ lv ∣ c := by rw [hlv]; exact lvA_dvd (by omega)
      have hmx : ∀ k, 2 ^ k ≤ e - c → 2 ^ k ∣ c → k ≤ lv := fun k a c => by rw [hlv]; exact lvA_max a c
      have HL : Hid (2 ^ lv ≤ e - c ∧ 2 ^ lv ∣ c ∧ (∀ k, 2 ^ k ≤ e - c → 2 ^ k ∣ c → k ≤ lv) ∧ cutA c e = (c, lv) :: cutA (c + 2 ^ lv) e ∧ c < e) := Lib.hid ⟨hl1, hl2, hmx, by rw [cutA_cons hlt, ← hlv], hlt⟩
      clear hlv hl1 hl2 hmx hlt
      go_wp2_with fail
      go_loopw [6] (fun u wx => ∃ (n t : Nat), u = .int .i64 (n : Int) ∧ n ≤ 1099511627776 ∧ Hid (n = 2 ^ t ∧ t ≤ lv) ∧ wx = wr) (fun u _ => 2 ^ lv - (intOf u).toNat)
      case atStart => exact ⟨1, 0, rfl, by omega, Lib.hid ⟨rfl, Nat.zero_le _⟩, rfl⟩
      case round =>
        obtain ⟨n, t, rfl, hn40, HN, hwx⟩ := hrel
        obtain rfl := hwx.symm
        have hnpos : 0 < n := by rw [HN.out.1]; exact Nat.pos_of_ne_zero (by simp)
        have hk20 : ¬ 2 * (n : Int) = 0 := by omega
        have hz0 : (0 : Int) ≤ (c : Int) := Int.natCast_nonneg _
        have hpt : 2 * n = 2 ^ (t + 1) := by rw [HN.out.1, Nat.pow_succ]; omega
        by_cases hgo : t < lv
        · have hple : 2 ^ (t + 1) ≤ 2 ^ lv := two_le hgo
          have hdv : 2 * n ∣ c := by rw [hpt]; exact Nat.dvd_trans (Nat.pow_dvd_pow 2 hgo) HL.out.2.1
          have hle2 : c + 2 * n ≤ e := by have := HL.out.1; have := HL.out.2.2.2.2; omega
          have t1 : (n : Int) < 1099511627776 := by omega
          have t2 : (c : Int).tmod (2 * (n : Int)) = 0 := by rw [Int.tmod_eq_emod_of_nonneg hz0]; have h := Nat.mod_eq_zero_of_dvd hdv; exact_mod_cast h
          have t3 : (c : Int) + 2 * (n : Int) ≤ (e : Int) := by omega
          have HNX : Hid (2 * n = 2 ^ (t + 1) ∧ t + 1 ≤ lv ∧ 2 * n ≤ 1099511627776 ∧ 2 * n ≤ 2 ^ lv ∧ 0 < n) := Lib.hid ⟨hpt, hgo, by omega, by omega, hnpos⟩
          clear hgo hple hdv hle2 hpt
          go_wp2_with fail
          have hn := HNX.out
          exact ⟨⟨2 * n, t + 1, by go_num, hn.2.2.1, Lib.hid ⟨hn.1, hn.2.1⟩, by first | rfl | trivial⟩, by show 2 ^ lv - (2 * (n : Int)).toNat < 2 ^ lv - (n : Int).toNat; omega⟩
        · have htl : t = lv := by have := HN.out.2; omega
          obtain ⟨c2, hc2⟩ : ∃ c2, c2 = c + n := ⟨_, rfl⟩
          have hcn : (c : Int) + (n : Int) = (c2 : Int) := by omega
          have hnl : n = 2 ^ lv := by rw [HN.out.1, htl]
          have hc2e : c2 ≤ e := by have := HL.out.1; have := HL.out.2.2.2.2; omega
          have hc2b : c2 ≤ 1099511627776 := by omega
          have HX : Hid (c2 = c + 2 ^ lv ∧ c < c2) := Lib.hid ⟨by rw [hc2, hnl], by omega⟩
          have HA2 : Hid ((D ++ [(c, lv)]).length = j + 1 ∧ A = (D ++ [(c, lv)]) ++ cutA c2 e) := Lib.hid (by
            have h := HD.out
            rw [HL.out.2.2.2.1] at h
            refine ⟨by rw [List.length_append, h.2.1]; rfl, ?_⟩
            rw [h.2.2, List.append_assoc, HX.out.1]
            rfl)
          have HJM : Hid (j + 1 ≤ m) := Lib.hid (by
            have h1 := HA2.out
            have h2 := congrArg List.length h1.2
            rw [List.length_append, h1.1, HA.out.2] at h2
            omega)
          have HHD := Lib.hid HI.out.h
          have HONE : Hid (∀ u ∈ [Value.int .i64 (c : Int), .int .i64 (c2 : Int)], u.oneCell' = true) := Lib.hid (fun u hu => by
            rcases List.mem_cons.mp hu with rfl | hu
            · rfl
            rw [List.mem_singleton.1 hu]; rfl)
          have hq1 : (j + 1) * 16 ≤ 140737488355328 := by omega
          have hq2 : j + 1 ≤ 140737488355328 := by omega
          have HPU : Hid (∀ cs T v5 w5, Grew 128 2 (wr.alloc (.cells cs T)) (.slice q j d) j 1 (cuV D) [.int .i64 (c : Int), .int .i64 (c2 : Int)] v5 w5 → CwI w w5 v5 (j + 1) (D ++ [(c, lv)])) := Lib.hid (fun cs T v5 w5 g => by
            rw [HX.out.1] at g
            exact HI.out.push (x := (c, lv)) g)
          have hend : ¬ ((n : Int) < 1099511627776 ∧ 2 * n ∣ c ∧ c + 2 * n ≤ e) := by
            rintro ⟨_, h2, h3⟩
            rw [hpt] at h2 h3
            have := HL.out.2.2.1 (t + 1) (by omega) h2
            omega
          have HC := Lib.hid hc2
          clear hgo hnl hc2 htl
          have FIN : ∀ (P : Prop), P → P := fun _ h => h
          by_cases t1 : (n : Int) < 1099511627776
          · by_cases hdv : 2 * n ∣ c
            · have t2 : (c : Int).tmod (2 * (n : Int)) = 0 := by rw [Int.tmod_eq_emod_of_nonneg hz0]; have h := Nat.mod_eq_zero_of_dvd hdv; exact_mod_cast h
              have t3 : ¬ (c : Int) + 2 * (n : Int) ≤ (e : Int) := by
                intro h
                exact hend ⟨t1, hdv, by omega⟩
              clear hdv hend hpt
              go_wp2_with (at_builtin; refine wpList_grew (v := .slice q j d) rfl _ _ rfl Tryd.underlying110 (.agg #[.int .i64 0, .int .i64 0]) 2 info_span5 rfl (by decide) [.int .i64 (c : Int), .int .i64 (c2 : Int)] 1 (by simp [Act.eval]) (by simp [Act.eval]) HHD.out rfl rfl (by decide) HONE.out hq1 hq2 ?_; intro v5 w5 hg5; obtain ⟨p5, c5, rfl, _⟩ := hg5.held.cells; have HI5 := Lib.hid (HPU.out _ _ _ _ hg5); clear hg5)
              exact ⟨⟨D ++ [(c, lv)], j + 1, c2, p5, c5, rfl, rfl, hc2e, HJM.out, Lib.hid ⟨by have := HD.out.1; have := HX.out.2; omega, HA2.out⟩, HI5⟩, by have := HX.out.2; show e - (c2 : Int).toNat < e - (c : Int).toNat; omega⟩
            · obtain ⟨rm, hrm⟩ : ∃ r, r = c % (2 * n) := ⟨_, rfl⟩
              have hrm0 : rm ≠ 0 := fun h => hdv (Nat.dvd_of_mod_eq_zero (by rw [← hrm]; exact h))
              have t2 : (c : Int).tmod (2 * (n : Int)) = (rm : Int) := by rw [Int.tmod_eq_emod_of_nonneg hz0, hrm]; push_cast; rfl
              have t4 : ((rm : Int) == 0) = false := by rw [beq_eq_false_iff_ne]; omega
              have t5 : ¬ (rm : Int) = 0 := by omega
              clear hdv hend hpt hrm hrm0
              go_wp2_with (at_builtin; refine wpList_grew (v := .slice q j d) rfl _ _ rfl Tryd.underlying110 (.agg #[.int .i64 0, .int .i64 0]) 2 info_span5 rfl (by decide) [.int .i64 (c : Int), .int .i64 (c2 : Int)] 1 (by simp [Act.eval]) (by simp [Act.eval]) HHD.out rfl rfl (by decide) HONE.out hq1 hq2 ?_; intro v5 w5 hg5; obtain ⟨p5, c5, rfl, _⟩ := hg5.held.cells; have HI5 := Lib.hid (HPU.out _ _ _ _ hg5); clear hg5)
              exact ⟨⟨D ++ [(c, lv)], j + 1, c2, p5, c5, rfl, rfl, hc2e, HJM.out, Lib.hid ⟨by have := HD.out.1; have := HX.out.2; omega, HA2.out⟩, HI5⟩, by have := HX.out.2; show e - (c2 : Int).toNat < e - (c : Int).toNat; omega⟩
          · clear hend hpt
            go_wp2_with (at_builtin; refine wpList_grew (v := .slice q j d) rfl _ _ rfl Tryd.underlying110 (.agg #[.int .i64 0, .int .i64 0]) 2 info_span5 rfl (by decide) [.int .i64 (c : Int), .int .i64 (c2 : Int)] 1 (by simp [Act.eval]) (by simp [Act.eval]) HHD.out rfl rfl (by decide) HONE.out hq1 hq2 ?_; intro v5 w5 hg5; obtain ⟨p5, c5, rfl, _⟩ := hg5.held.cells; have HI5 := Lib.hid (HPU.out _ _ _ _ hg5); clear hg5)
            exact ⟨⟨D ++ [(c, lv)], j + 1, c2, p5, c5, rfl, rfl, hc2e, HJM.out, Lib.hid ⟨by have := HD.out.1; have := HX.out.2; omega, HA2.out⟩, HI5⟩, by have := HX.out.2; show e - (c2 : Int).toNat < e - (c : Int).toNat; omega⟩
    · have hci : ¬ (c : Int) < (e : Int) := by omega
      have HDA : Hid (D = A ∧ j = m) := Lib.hid (by
        have h := HD.out
        rw [cutA_nil (by omega), List.append_nil] at h
        exact ⟨h.2.2.symm, by rw [← h.2.1, ← h.2.2, HA.out.2]⟩)
      obtain ⟨rfl, rfl⟩ := HDA.out
      clear hlt
      go_wp2_with fail
      go_ret
      exact ⟨_, rfl, HI.out⟩
end Go.Proofs.YtdbghgpohdijfaaDoor
/- A list of texts, however it lies, appended; the document's layer 5: copied, hashes, root. -/
namespace Go.Scr
open Go.RowKit
set_option linter.unusedVariables false
theorem run_catC {P : Program} (w : World) (t ty e : TypeId) (i : TypeInfo) (z : Value) (size bytes : Nat) (ht : P.underlying t = some (.slice e)) (hi : P.info? e = some i) (hz : i.zero = some z)
    (hsize : i.size = size) (hby : i.bytes = bytes) (hzs : z.cells.size = size) (hsz : 0 < size) (v : Value) (sp : Option Addr) (n m c : Nat) (l xs : List Value) (hown : Held w e size v n l) (hlen : xs.length = m * size) (hmc : m ≤ c)
    (hpos : 0 < m → ∃ ad, sp = some ad ∧ ∀ j u, xs[j]? = some u → w.cell? (ad.add j) = some u) (h1 : ∀ u ∈ xs, u.oneCell' = true) (h63 : n + m ≤ maxLen) (hbytes : (n + m) * bytes ≤ 140737488355328) :
    ∃ v' w', (Builtin.append_ #[t, t] ty #[v, .slice sp m c]).run P w = .ok v' w' ∧ Held w' e size v' (n + m) (l ++ xs) ∧ w.grownBy w' v.ownBlock ∧ (v'.ownBlock = v.ownBlock ∨ v'.ownBlock = some w.heap.size) := by
  by_cases hm : m = 0
  · subst hm
    have hxs : xs = [] := List.eq_nil_of_length_eq_zero (by simpa using hlen)
    subst hxs
    refine ⟨v, w, ?_, by simpa using hown, only_refl _ _, .inl rfl⟩
    have hv : ∃ p c, v = .slice p n c ∧ n ≤ c := by
      obtain ⟨p, c, h1, h2, _⟩ := hown.cells
      exact ⟨p, c, h1, h2⟩
    obtain ⟨p, d, rfl, hnc⟩ := hv
    cases p <;> cases sp <;> simp [Builtin.append_, run_underlying ht, sizeOf, typeInfo, hi, Builtin.lenOf, Builtin.firstCells, loadCells, loadCellsFrom, storeCells, hnc]
  · obtain ⟨ad, rfl, hc⟩ := hpos (by omega)
    obtain ⟨v', w', hr, hgr⟩ := run_append_grew (P := P) w t ty e i z size bytes ht hi hz hsize hby hzs hsz v n l hown ad m c xs (by omega) hlen hc h1 h63 hbytes
    refine ⟨v', w', hr, hgr.held, hgr.grown, ?_⟩
    rcases hgr.at with ⟨h1, _⟩ | ⟨h1, _⟩
    · exact .inl h1
    · exact .inr h1
theorem wpList_catC {P : Program} {ops : Array Oper} {rest : List Oper} {o : Oper} {a : Act} {Q : Exit → Act → World → Prop} {w : World} {T S : TypeId} (hgd : o.guard = none) (s x : Operand)
    (ho : o.op = .call { callee := .builtin .append, args := #[s, x], argTypes := #[S, S] }) (hu : P.underlying S = some (.slice T)) (z : Value) (sz : Nat) {byt : Nat} (hi : (P.info? T).map (fun i => (i.zero, i.size, i.bytes)) = some (some z, sz, byt))
    (hzs : z.cells.size = sz) (hsz : 0 < sz) {v : Value} {sp : Option Addr} {n m c : Nat} (l xs : List Value) (hs : a.eval s = v) (hx : a.eval x = .slice sp m c) (hown : Held w T sz v n l) (hlen : xs.length = m * sz) (hmc : m ≤ c)
    (hpos : 0 < m → ∃ ad, sp = some ad ∧ ∀ j u, xs[j]? = some u → w.cell? (ad.add j) = some u) (hone : ∀ u ∈ xs, u.oneCell' = true) (hl : (n + m) * byt ≤ 140737488355328) (hl2 : n + m ≤ 140737488355328)
    (h : ∀ v' w', Held w' T sz v' (n + m) (l ++ xs) → w.grownBy w' v.ownBlock → (v'.ownBlock = v.ownBlock ∨ v'.ownBlock = some w.heap.size) → wpList P ops Q rest (a.put o.dst v') w') :
    wpList P ops Q (o :: rest) a w := by
  obtain ⟨i, hi0, hz, hsi, hbi⟩ := info_parts hi
  obtain ⟨v', w', hrun, r1, r2, r3⟩ := run_catC (P := P) w S o.type T i z sz byt hu hi0 hz hsi hbi hzs hsz v sp n m c l xs hown hlen hmc hpos hone (by simp only [maxLen]; omega) hl
  refine wpList_plain hgd fun _ hK => ?_
  unfold Oper.wp execOp
  simp only [ho, resolve, invoke, builtin, Sem.run_bind, Sem.run_pure, Result.andThen_ok, List.map_toArray, List.map_cons, List.map_nil, hs, hx, hrun]
  exact hK _ _ (h v' w' r1 r2 r3)
theorem step_catC {P : Program} {ops : Array Oper} {o : Oper} {a : Act} {w : World} {K : Act → World → Prop} {Q : Exit → Act → World → Prop} {E : Prop} {T S : TypeId}
    (hg : o.guard = none) (s x : Operand) (hop : o.op = Op.call { callee := Callee.builtin Builtin.append, args := #[s, x], argTypes := #[S, S] })
    (hu : P.underlying S = some (.slice T)) (z : Value) (sz : Nat) {byt : Nat} (hi : (P.info? T).map (fun i => (i.zero, i.size, i.bytes)) = some (some z, sz, byt)) (hzs : z.cells.size = sz) (hsz : 0 < sz)
    {v : Value} {sp : Option Addr} {n m c : Nat} (l xs : List Value) (hs : a.eval s = v) (hx : a.eval x = .slice sp m c) (hown : Held w T sz v n l) (hlen : xs.length = m * sz) (hmc : m ≤ c)
    (hpos : 0 < m → ∃ ad, sp = some ad ∧ ∀ j u, xs[j]? = some u → w.cell? (ad.add j) = some u) (hone : ∀ u ∈ xs, u.oneCell' = true) (hl : (n + m) * byt ≤ 140737488355328) (hl2 : n + m ≤ 140737488355328)
    (hK : ∀ v' w', Held w' T sz v' (n + m) (l ++ xs) → w.grownBy w' v.ownBlock → (v'.ownBlock = v.ownBlock ∨ v'.ownBlock = some w.heap.size) → K (a.put o.dst v') w') :
    if Region.wanted o (yielded ops a.tmps) = true then Oper.wp P o a w K Q else E := by
  have hw : Region.wanted o (yielded ops a.tmps) = true := by simp [Region.wanted, hg]
  rw [if_pos hw]
  obtain ⟨i, hi0, hz, hsi, hbi⟩ := info_parts hi
  obtain ⟨v', w', hrun, r1, r2, r3⟩ := run_catC (P := P) w S o.type T i z sz byt hu hi0 hz hsi hbi hzs hsz v sp n m c l xs hown hlen hmc hpos hone (by simp only [maxLen]; omega) hl
  unfold Oper.wp
  simp [execOp, hop, resolve, invoke, builtin, hs, hx, hrun, Result.andThen]
  exact hK v' w' r1 r2 r3
end Go.Scr
namespace Go.Proofs.YtdbghgpohdijfaaDoor
open Go.RowKit Go.Scr Go.ChangeMaps Go.MapKept
set_option linter.unusedVariables false
/-- what an append wants to know of its source -/
theorem txts_src {w : World} {p : Option Addr} {n c : Nat} {L : List ByteArray} (h : Txts w (.slice p n c) L) : (L.map Value.string).length = n * 1 ∧ n ≤ c ∧ (0 < n → ∃ ad, p = some ad ∧ ∀ j u, (L.map Value.string)[j]? = some u → w.cell? (ad.add j) = some u) := by
  obtain ⟨q, d, he, h1, h2, h3⟩ := h
  injection he with e1 e2 e3
  subst e1 e2 e3
  refine ⟨by rw [List.length_map, Nat.mul_one], h1, fun h0 => ?_⟩
  obtain ⟨s0, hs0⟩ : ∃ s0, L[0]? = some s0 := ⟨L[0]'h0, List.getElem?_eq_getElem _⟩
  obtain ⟨a, ha, _⟩ := h3 0 s0 hs0
  refine ⟨a, ha, fun j u hu => ?_⟩
  rw [List.getElem?_map] at hu
  cases hj : L[j]? with
  | none => rw [hj] at hu; cases hu
  | some s =>
    rw [hj] at hu
    obtain rfl := Option.some.inj hu
    obtain ⟨a', ha', hc⟩ := h3 j s hj
    rw [ha] at ha'
    obtain rfl := Option.some.inj ha'
    exact hc
theorem lf_new {w w' : World} {v : Value} {n : Nat} {L : List ByteArray} (h : Held w' 9 1 v n (L.map Value.string)) (hg : w.grownBy w' none) (ho : v.ownBlock = none ∨ v.ownBlock = some w.heap.size) : LfI w w' v n L :=
  ⟨⟨hg.os, hg.tape, hg.output, hg.size, fun i hi => hg.block i hi (by simp)⟩, h, fun g hq => by
    rcases ho with e | e
    · rw [hq] at e; cases e
    · rw [hq] at e; have := Option.some.inj e; omega⟩
set_option maxRecDepth 100000 in
set_option maxHeartbeats 1000000 in
theorem copied5_any (v : Value) (L : List ByteArray) (w : World) (hv : Txts w v L) (hl : L.length ≤ 1048576) :
    Calls Tryd.prog 80 #[v] w fun o w' => ∃ u, o = .returned u ∧ LfI w w' u L.length L := by
  obtain ⟨n, hn⟩ : ∃ n, n = L.length := ⟨_, rfl⟩
  obtain ⟨p, c, rfl⟩ : ∃ p c, v = .slice p n c := by obtain ⟨p, c, h, _⟩ := hv; exact ⟨p, c, by rw [h, hn]⟩
  obtain ⟨s1, s2, s3⟩ := txts_src hv
  rw [← hn] at hl ⊢
  have HS1 := Lib.hid s1
  have HS2 := Lib.hid s2
  have HS3 := Lib.hid s3
  have HH0 : Hid (Held w 9 1 (.slice none 0 0) 0 []) := Lib.hid ⟨rfl, .inl ⟨rfl, rfl⟩⟩
  have HONE : Hid (∀ u ∈ L.map Value.string, u.oneCell' = true) := Lib.hid (fun u hu => by obtain ⟨x, _, rfl⟩ := List.mem_map.mp hu; rfl)
  have hl1 : (0 + n) * 16 ≤ 140737488355328 := by omega
  have hl2 : 0 + n ≤ 140737488355328 := by omega
  clear hv hn s1 s2 s3
  go_enter Tryd.func80, Tryd.ntmps80
  go_wp2_with (at_builtin; refine wpList_catC (v := .slice none 0 0) (n := 0) rfl _ _ rfl Tryd.underlying22 (.string ⟨#[]⟩) 1 info_strT rfl (by decide) [] (L.map Value.string) rfl rfl HH0.out HS1.out HS2.out HS3.out HONE.out hl1 hl2 ?_; intro v5 w5 hh hg ho; rw [Nat.zero_add, List.nil_append] at hh; obtain ⟨p5, c5, rfl, _⟩ := hh.cells; have HL5 : Hid (LfI w w5 (.slice p5 n c5) n L) := Lib.hid (lf_new hh hg ho); clear hh hg ho)
  go_ret
  exact ⟨_, rfl, HL5.out⟩
set_option maxRecDepth 100000 in
set_option maxHeartbeats 400000 in
theorem hashes5_any (v : Value) (L : List ByteArray) (w : World) (hv : Txts w v L) :
    Calls Tryd.prog 90 #[v] w fun e w' => e = .returned (.bool (ok32 L)) ∧ w' = w := by
  obtain ⟨p, c, rfl, hv1, hv2, hv3⟩ := hv
  obtain ⟨n, hn⟩ : ∃ n, n = L.length := ⟨_, rfl⟩
  rw [← hn] at hv1 ⊢
  have HN := Lib.hid hn
  have HV := Lib.hid hv3
  have hnb : n ≤ 281474976710656 := by omega
  obtain ⟨b, hb⟩ : ∃ b, b = ok32 L := ⟨_, rfl⟩
  rw [← hb]
  have HBB := Lib.hid hb
  clear hn hv2 hv3 hv1 hb
  go_enter Tryd.func90, Tryd.ntmps90
  go_wp2
  go_loop [3] (fun q => ∃ k : Nat, k ≤ n ∧ q = .int .i64 k ∧ Hid (ok32 (L.take k) = true)) (fun q => n - (intOf q).toNat)
  case atStart => exact ⟨0, by omega, rfl, Lib.hid rfl⟩
  case round =>
    obtain ⟨k, hk, rfl, hall⟩ := hrel
    by_cases hlt : k < n
    · obtain ⟨s, hs⟩ : ∃ s, L[k]? = some s := ⟨L[k]'(by rw [← HN.out]; exact hlt), List.getElem?_eq_getElem _⟩
      obtain ⟨a, rfl, hc⟩ := HV.out k s hs
      have HS := Lib.hid hs
      clear hs
      by_cases h32 : s.size = 32
      · have hsz : (s.size : Int) = 32 := by omega
        have HALL := Lib.hid (by rw [ok32_take HS.out, hall.out]; simp [h32] : ok32 (L.take (k + 1)) = true)
        clear h32
        go_wp2
        exact ⟨⟨k + 1, by omega, rfl, HALL⟩, (by show n - ((k : Int) + 1).toNat < n - (k : Int).toNat; omega)⟩
      · have hsz : ¬ ((s.size : Int) = 32) := by omega
        obtain rfl : b = false := by
          rw [HBB.out]
          unfold ok32
          rw [List.all_eq_false]
          exact ⟨s, List.mem_of_getElem? HS.out, by simpa using h32⟩
        clear h32
        go_wp2
        go_ret
        exact ⟨rfl, rfl⟩
    · obtain rfl : b = true := by have := hall.out; rw [show k = n by omega, HN.out, List.take_length] at this; rw [HBB.out]; exact this
      clear hall
      go_wp2
      go_ret
      exact ⟨rfl, rfl⟩
theorem rootF_cons (x : ByteArray) {r : List ByteArray} (h : r ≠ []) : rootF (x :: r) = nodeS x (rootF r) := by
  cases r with
  | nil => exact absurd rfl h
  | cons y r => rfl
end Go.Proofs.YtdbghgpohdijfaaDoor
/- The document's layer 5: root, wrong, hash. -/
namespace Go.Proofs.YtdbghgpohdijfaaDoor
open Go.RowKit Go.Scr
set_option linter.unusedVariables false
set_option maxRecDepth 100000 in
set_option maxHeartbeats 4000000 in
theorem root5_any (v : Value) (L : List ByteArray) (w : World) (hv : Txts w v L) (hl : L.length ≤ 1048576) :
    Calls Tryd.prog 84 #[v] w fun o w' => o = .returned (.string (rootF L)) ∧ Below w.heap.size w w' := by
  obtain ⟨n, hn⟩ : ∃ n, n = L.length := ⟨_, rfl⟩
  obtain ⟨p, c, rfl, h1, h2, h3⟩ := hv
  rw [← hn] at h1 hl ⊢
  have HN := Lib.hid hn
  have HPA : Hid (∀ j s, L[j]? = some s → ∃ a, p = some a ∧ ∀ wr, Below w.heap.size w wr → wr.cell? (a.add j) = some (.string s)) := Lib.hid (fun j s hs => by
    obtain ⟨a, ha, hc⟩ := h3 j s hs
    exact ⟨a, ha, fun wr hb => (hb.cell (block_lt_of_cell hc)).trans hc⟩)
  have HEM : Hid (∀ w', Calls Tryd.prog 122 #[] w' fun e z => e = .returned (.string hempty) ∧ Below w'.heap.size w' z) := Lib.hid rempty_any
  have HND : Hid (∀ l r w', Calls Tryd.prog 123 #[.string l, .string r] w' fun e z => ∃ ze, e = .returned (.tuple #[.string (nodeS l r), .int .i64 ze]) ∧ Below w'.heap.size w' z) := Lib.hid (fun l r w' => by
    refine (rnode_any l r w').mono ?_
    rintro e z ⟨rfl, h⟩
    exact ⟨_, rfl, h⟩)
  clear hn h1 h2 h3
  by_cases h0 : n = 0
  · have hL : L = [] := List.eq_nil_of_length_eq_zero (by rw [← HN.out]; exact h0)
    subst hL
    subst h0
    go_enter Tryd.func84, Tryd.ntmps84
    go_wp2_with (go_at_call 122; (with_reducible refine (HEM.out _).mono ?_); rintro o z ⟨rfl, h⟩; have HB := Lib.hid h; clear h)
    go_ret
    exact ⟨rfl, HB.out⟩
  · obtain ⟨m, hm⟩ : ∃ m, n = m + 1 := ⟨n - 1, by omega⟩
    subst hm
    obtain ⟨s, hs⟩ : ∃ s, L[m]? = some s := ⟨L[m]'(by have := HN.out; omega), List.getElem?_eq_getElem _⟩
    obtain ⟨a, rfl, hc⟩ := HPA.out m s hs
    have hcell := hc w (Below.refl _ _)
    have hi1 : ((m + 1 : Nat) : Int) - 1 = (m : Int) := by omega
    have hi2 : ((m + 1 : Nat) : Int) - 2 = (m : Int) - 1 := by omega
    have hne : ((m + 1 : Nat) : Int) ≠ 0 := by omega
    have hne2 : ((((m + 1 : Nat) : Int)) == 0) = false := beq_eq_false_iff_ne.2 hne
    have hm0 : (0 : Int) ≤ (m : Int) := by omega
    have hmm : (m : Int) < ((m + 1 : Nat) : Int) := by omega
    have HD0 : Hid (rootF (L.drop m) = s) := Lib.hid (by
      obtain ⟨h1, h2⟩ := List.getElem?_eq_some_iff.mp hs
      rw [List.drop_eq_getElem_cons h1, List.drop_of_length_le (by have := HN.out; omega), h2]
      rfl)
    have hmb : m ≤ 1048576 := by omega
    clear hs hc h0
    go_enter Tryd.func84, Tryd.ntmps84
    go_wp2_with fail
    go_loopw [4, 5] (fun x i wr => ∃ (k : Nat) (z : Int) (r : ByteArray), k ≤ m ∧ z = (k : Int) - 1 ∧ i = .int .i64 z ∧ x = .string r ∧ Hid (rootF (L.drop k) = r) ∧ Hid (Below w.heap.size w wr)) (fun _ i _ => (intOf i + 1).toNat)
    case atStart => exact ⟨m, _, s, Nat.le_refl _, rfl, by first | rfl | (congr 1), rfl, HD0, Lib.hid (Below.refl _ _)⟩
    case round =>
      clear HD0 hcell
      obtain ⟨k, z, r, hk, hz, rfl, rfl, HR, HB⟩ := hrel
      rcases k with _ | j
      · obtain rfl : z = -1 := by omega
        clear hk hz
        go_wp2_with fail
        go_ret
        exact ⟨by rw [← HR.out]; rfl, HB.out⟩
      · obtain rfl : z = (j : Int) := by omega
        obtain ⟨t, ht⟩ : ∃ s, L[j]? = some s := ⟨L[j]'(by have := HN.out; omega), List.getElem?_eq_getElem _⟩
        obtain ⟨a', ha', hc⟩ := HPA.out j t ht
        obtain rfl := Option.some.inj ha'
        have hcell := hc wr HB.out
        have hj0 : (0 : Int) ≤ (j : Int) := by omega
        have hjm : (j : Int) < ((m + 1 : Nat) : Int) := by omega
        have HD : Hid (rootF (L.drop j) = nodeS t r) := Lib.hid (by
          obtain ⟨h1, h2⟩ := List.getElem?_eq_some_iff.mp ht
          rw [List.drop_eq_getElem_cons h1, rootF_cons _ (by
            intro h
            have := congrArg List.length h
            rw [List.length_drop] at this
            have h9 := HN.out
            rw [List.length_nil] at this
            omega), HR.out, h2])
        have HK : Hid (j < m) := Lib.hid (by omega)
        clear ht hc hz hk ha'
        go_wp2_with (go_at_call 123; (with_reducible refine (HND.out _ _ _).mono ?_); rintro o y ⟨ze, rfl, h⟩; have HB2 : Hid (Below w.heap.size w y) := Lib.hid (HB.out.trans (h.mono HB.out.size)); clear h)
        go_roundw
        case rel =>
          refine ⟨_, _, _, _, _, _, _, _, _, _, _, _, _, _, _, _, _, _, ?_, rfl⟩
          exact ⟨j, _, _, by have := HK.out; omega, rfl, rfl, rfl, HD, HB2⟩
        case measure => show ((j : Int) - 1 + 1).toNat < ((j : Int) + 1).toNat; omega
/-- is a range's form wrong? -/
def fmW (b e : Int) (H : List ByteArray) : Bool := decide (b < 0 ∨ e < b ∨ 1099511627776 < e ∨ H.length ≠ (cutA b.toNat e.toNat).length)
set_option maxRecDepth 100000 in
set_option maxHeartbeats 4000000 in
theorem wrong5_any {b e : Int} {v : Value} {H : List ByteArray} (w : World) (hv : Txts w v H) :
    Calls Tryd.prog 93 #[.agg #[.int .i64 b, .int .i64 e, v]] w fun o w' => o = .returned (.bool (fmW b e H)) ∧ Below w.heap.size w w' := by
  obtain ⟨w1, hw1⟩ : ∃ x, x = w.alloc (.cells #[.int .i64 b, .int .i64 e, v] 68) := ⟨_, rfl⟩
  obtain ⟨bs, hbs⟩ : ∃ x, x = w.heap.size := ⟨_, rfl⟩
  have hb1 : Below w.heap.size w w1 := by rw [hw1]; exact (Below.refl _ _).alloc (Nat.le_refl _) _
  have hx1 : w1.heap[bs]? = some (.cells #[.int .i64 b, .int .i64 e, v] 68 (0, 0)) := by rw [hw1, hbs]; exact heap_alloc_new w _
  obtain ⟨n, hn⟩ : ∃ n, n = H.length := ⟨_, rfl⟩
  obtain ⟨p, c, rfl⟩ : ∃ p c, v = .slice p n c := by obtain ⟨p, c, h, _⟩ := hv; exact ⟨p, c, by rw [h, hn]⟩
  obtain ⟨T, hT⟩ : ∃ T, T = fmW b e H := ⟨_, rfl⟩
  rw [← hT]
  have HCS : Hid (∀ w', Below w1.heap.size w1 w' → w'.cell? ⟨bs, 0, none⟩ = some (.int .i64 b) ∧ w'.cell? ⟨bs, 1, none⟩ = some (.int .i64 e) ∧ w'.cell? ⟨bs, 2, none⟩ = some (.slice p n c)) := Lib.hid (fun w' hb => by
    have h := blk_below hx1 hb (blk_lt hx1)
    exact ⟨cellB h rfl, cellB h rfl, cellB h rfl⟩)
  have HW1 := Lib.hid hw1
  have HBS := Lib.hid hbs
  have HB1 := Lib.hid hb1
  have HT : Hid (T = decide (b < 0 ∨ e < b ∨ 1099511627776 < e ∨ n ≠ (cutA b.toNat e.toNat).length)) := Lib.hid (by rw [hT, hn]; rfl)
  have HS0 := Lib.hid (HCS.out w1.drew (Below.refl _ _).drew)
  have HBD : Hid (Below w.heap.size w w1.drew) := Lib.hid hb1.drew
  clear hv hw1 hbs hb1 hx1 hn hT
  by_cases q1 : b < 0
  · obtain rfl : T = true := by rw [HT.out]; exact decide_eq_true (.inl q1)
    go_enter Tryd.func93, Tryd.ntmps93
    go_upto_region 1 with fail
    rw [← HW1.out, ← HBS.out]
    refine wp_region_held_drew (S := fun w' => w'.cell? ⟨bs, 0, none⟩ = some (.int .i64 b) ∧ w'.cell? ⟨bs, 1, none⟩ = some (.int .i64 e) ∧ w'.cell? ⟨bs, 2, none⟩ = some (.slice p n c)) (by kernel_rfl) (by first | exact HS1.out | exact HS0.out) (fun hHeld => ?_)
    refine wpAnyH_take (i := 0) (oi := ⟨_, _, _, _, _, _⟩) (v := ?_) rfl (by kernel_rfl) (by kernel_rfl) (by kernel_rfl) (fun _ _ _ h => h) (Or.inl ⟨by rfl, ?_⟩) hHeld ?_
    rotate_left
    · ((intro w hSw; (try dsimp only at hSw); go_simp) <;> with_reducible rfl)
    try simp only [Act.put, List.setIfInBounds_toArray, List.set_cons_zero, List.set_cons_succ]
    refine wpAnyH_take (i := 1) (oi := ⟨_, _, _, _, _, _⟩) (v := ?_) rfl (by kernel_rfl) (by kernel_rfl) (by kernel_rfl) (fun _ _ _ h => h) (Or.inl ⟨by rfl, ?_⟩) hHeld ?_
    rotate_left
    · ((intro w hSw; (try dsimp only at hSw); go_simp) <;> with_reducible rfl)
    try simp only [Act.put, List.setIfInBounds_toArray, List.set_cons_zero, List.set_cons_succ]
    refine wpAnyH_take (i := 2) (oi := ⟨_, _, _, _, _, _⟩) (v := ?_) rfl (by kernel_rfl) (by kernel_rfl) (by kernel_rfl) (fun _ _ _ h => h) (Or.inl ⟨by rfl, ?_⟩) hHeld ?_
    rotate_left
    · ((intro w hSw; (try dsimp only at hSw); go_simp) <;> with_reducible rfl)
    try simp only [Act.put, List.setIfInBounds_toArray, List.set_cons_zero, List.set_cons_succ]
    refine wpAnyH_take (i := 3) (oi := ⟨_, _, _, _, _, _⟩) (v := ?_) rfl (by kernel_rfl) (by kernel_rfl) (by kernel_rfl) (fun _ _ _ h => h) (Or.inl ⟨by rfl, ?_⟩) hHeld ?_
    rotate_left
    · ((intro w hSw; (try dsimp only at hSw); go_simp) <;> with_reducible rfl)
    try simp only [Act.put, List.setIfInBounds_toArray, List.set_cons_zero, List.set_cons_succ]
    refine wpAnyH_take (i := 4) (oi := ⟨_, _, _, _, _, _⟩) (v := undef) rfl (by kernel_rfl) (by kernel_rfl) (by kernel_rfl) (fun _ _ _ h => h) (Or.inr ⟨by rfl, rfl⟩) hHeld ?_
    try simp only [Act.put, List.setIfInBounds_toArray, List.set_cons_zero, List.set_cons_succ]
    refine wpAnyH_take (i := 5) (oi := ⟨_, _, _, _, _, _⟩) (v := undef) rfl (by kernel_rfl) (by kernel_rfl) (by kernel_rfl) (fun _ _ _ h => h) (Or.inr ⟨by rfl, rfl⟩) hHeld ?_
    try simp only [Act.put, List.setIfInBounds_toArray, List.set_cons_zero, List.set_cons_succ]
    refine wpAnyH_take (i := 6) (oi := ⟨_, _, _, _, _, _⟩) (v := undef) rfl (by kernel_rfl) (by kernel_rfl) (by kernel_rfl) (fun _ _ _ h => h) (Or.inr ⟨by rfl, rfl⟩) hHeld ?_
    try simp only [Act.put, List.setIfInBounds_toArray, List.set_cons_zero, List.set_cons_succ]
    refine wpAnyH_take (i := 7) (oi := ⟨_, _, _, _, _, _⟩) (v := undef) rfl (by kernel_rfl) (by kernel_rfl) (by kernel_rfl) (fun _ _ _ h => h) (Or.inr ⟨by rfl, rfl⟩) hHeld ?_
    try simp only [Act.put, List.setIfInBounds_toArray, List.set_cons_zero, List.set_cons_succ]
    refine wpAnyH_take (i := 8) (oi := ⟨_, _, _, _, _, _⟩) (v := undef) rfl (by kernel_rfl) (by kernel_rfl) (by kernel_rfl) (fun _ _ _ h => h) (Or.inr ⟨by rfl, rfl⟩) hHeld ?_
    try simp only [Act.put, List.setIfInBounds_toArray, List.set_cons_zero, List.set_cons_succ]
    refine wpAnyH_take (i := 9) (oi := ⟨_, _, _, _, _, _⟩) (v := ?_) rfl (by kernel_rfl) (by kernel_rfl) (by kernel_rfl) (fun _ _ _ h => h) (Or.inl ⟨by rfl, ?_⟩) hHeld ?_
    rotate_left
    · ((intro w hSw; (try dsimp only at hSw); go_simp) <;> with_reducible rfl)
    try simp only [Act.put, List.setIfInBounds_toArray, List.set_cons_zero, List.set_cons_succ]
    refine wpAnyH_take (i := 10) (oi := ⟨_, _, _, _, _, _⟩) (v := ?_) rfl (by kernel_rfl) (by kernel_rfl) (by kernel_rfl) (fun _ _ _ h => h) (Or.inl ⟨by rfl, ?_⟩) hHeld ?_
    rotate_left
    · ((intro w hSw; (try dsimp only at hSw); go_simp) <;> with_reducible rfl)
    try simp only [Act.put, List.setIfInBounds_toArray, List.set_cons_zero, List.set_cons_succ]
    refine wpAnyH_take (i := 11) (oi := ⟨_, _, _, _, _, _⟩) (v := undef) rfl (by kernel_rfl) (by kernel_rfl) (by kernel_rfl) (fun _ _ _ h => h) (Or.inr ⟨by rfl, rfl⟩) hHeld ?_
    try simp only [Act.put, List.setIfInBounds_toArray, List.set_cons_zero, List.set_cons_succ]
    refine wpAnyH_take (i := 12) (oi := ⟨_, _, _, _, _, _⟩) (v := undef) rfl (by kernel_rfl) (by kernel_rfl) (by kernel_rfl) (fun _ _ _ h => h) (Or.inr ⟨by rfl, rfl⟩) hHeld ?_
    try simp only [Act.put, List.setIfInBounds_toArray, List.set_cons_zero, List.set_cons_succ]
    refine wpAnyH_take (i := 13) (oi := ⟨_, _, _, _, _, _⟩) (v := undef) rfl (by kernel_rfl) (by kernel_rfl) (by kernel_rfl) (fun _ _ _ h => h) (Or.inr ⟨by rfl, rfl⟩) hHeld ?_
    try simp only [Act.put, List.setIfInBounds_toArray, List.set_cons_zero, List.set_cons_succ]
    refine wpAnyH_take (i := 14) (oi := ⟨_, _, _, _, _, _⟩) (v := ?_) rfl (by kernel_rfl) (by kernel_rfl) (by kernel_rfl) (fun _ _ _ h => h) (Or.inl ⟨by rfl, ?_⟩) hHeld ?_
    rotate_left
    · ((intro w hSw; (try dsimp only at hSw); go_simp) <;> with_reducible rfl)
    try simp only [Act.put, List.setIfInBounds_toArray, List.set_cons_zero, List.set_cons_succ]
    refine wpAnyH_take (i := 15) (oi := ⟨_, _, _, _, _, _⟩) (v := ?_) rfl (by kernel_rfl) (by kernel_rfl) (by kernel_rfl) (fun _ _ _ h => h) (Or.inl ⟨by rfl, ?_⟩) hHeld ?_
    rotate_left
    · ((intro w hSw; (try dsimp only at hSw); go_simp) <;> with_reducible rfl)
    try simp only [Act.put, List.setIfInBounds_toArray, List.set_cons_zero, List.set_cons_succ]
    refine wpAnyH_take (i := 16) (oi := ⟨_, _, _, _, _, _⟩) (v := undef) rfl (by kernel_rfl) (by kernel_rfl) (by kernel_rfl) (fun _ _ _ h => h) (Or.inr ⟨by rfl, rfl⟩) hHeld ?_
    try simp only [Act.put, List.setIfInBounds_toArray, List.set_cons_zero, List.set_cons_succ]
    refine wpAnyH_take (i := 17) (oi := ⟨_, _, _, _, _, _⟩) (v := undef) rfl (by kernel_rfl) (by kernel_rfl) (by kernel_rfl) (fun _ _ _ h => h) (Or.inr ⟨by rfl, rfl⟩) hHeld ?_
    try simp only [Act.put, List.setIfInBounds_toArray, List.set_cons_zero, List.set_cons_succ]
    refine wpAnyH_take (i := 18) (oi := ⟨_, _, _, _, _, _⟩) (v := undef) rfl (by kernel_rfl) (by kernel_rfl) (by kernel_rfl) (fun _ _ _ h => h) (Or.inr ⟨by rfl, rfl⟩) hHeld ?_
    try simp only [Act.put, List.setIfInBounds_toArray, List.set_cons_zero, List.set_cons_succ]
    refine wpAnyH_take (i := 19) (oi := ⟨_, _, _, _, _, _⟩) (v := undef) rfl (by kernel_rfl) (by kernel_rfl) (by kernel_rfl) (fun _ _ _ h => h) (Or.inr ⟨by rfl, rfl⟩) hHeld ?_
    try simp only [Act.put, List.setIfInBounds_toArray, List.set_cons_zero, List.set_cons_succ]
    refine wpAnyH_take (i := 20) (oi := ⟨_, _, _, _, _, _⟩) (v := undef) rfl (by kernel_rfl) (by kernel_rfl) (by kernel_rfl) (fun _ _ _ h => h) (Or.inr ⟨by rfl, rfl⟩) hHeld ?_
    try simp only [Act.put, List.setIfInBounds_toArray, List.set_cons_zero, List.set_cons_succ]
    refine wpAnyH_take (i := 21) (oi := ⟨_, _, _, _, _, _⟩) (v := undef) rfl (by kernel_rfl) (by kernel_rfl) (by kernel_rfl) (fun _ _ _ h => h) (Or.inr ⟨by rfl, rfl⟩) hHeld ?_
    try simp only [Act.put, List.setIfInBounds_toArray, List.set_cons_zero, List.set_cons_succ]
    refine wpAnyH_take (i := 22) (oi := ⟨_, _, _, _, _, _⟩) (v := undef) rfl (by kernel_rfl) (by kernel_rfl) (by kernel_rfl) (fun _ _ _ h => h) (Or.inr ⟨by rfl, rfl⟩) hHeld ?_
    try simp only [Act.put, List.setIfInBounds_toArray, List.set_cons_zero, List.set_cons_succ]
    refine wpAnyH_take (i := 23) (oi := ⟨_, _, _, _, _, _⟩) (v := undef) rfl (by kernel_rfl) (by kernel_rfl) (by kernel_rfl) (fun _ _ _ h => h) (Or.inr ⟨by rfl, rfl⟩) hHeld ?_
    try simp only [Act.put, List.setIfInBounds_toArray, List.set_cons_zero, List.set_cons_succ]
    refine wpAnyH_take (i := 24) (oi := ⟨_, _, _, _, _, _⟩) (v := undef) rfl (by kernel_rfl) (by kernel_rfl) (by kernel_rfl) (fun _ _ _ h => h) (Or.inr ⟨by rfl, rfl⟩) hHeld ?_
    try simp only [Act.put, List.setIfInBounds_toArray, List.set_cons_zero, List.set_cons_succ]
    refine wpAnyH_take (i := 25) (oi := ⟨_, _, _, _, _, _⟩) (v := undef) rfl (by kernel_rfl) (by kernel_rfl) (by kernel_rfl) (fun _ _ _ h => h) (Or.inr ⟨by rfl, rfl⟩) hHeld ?_
    try simp only [Act.put, List.setIfInBounds_toArray, List.set_cons_zero, List.set_cons_succ]
    refine wpAnyH_take (i := 26) (oi := ⟨_, _, _, _, _, _⟩) (v := ?_) rfl (by kernel_rfl) (by kernel_rfl) (by kernel_rfl) (fun _ _ _ h => h) (Or.inl ⟨by rfl, ?_⟩) hHeld ?_
    rotate_left
    · ((intro w hSw; (try dsimp only at hSw); go_simp) <;> with_reducible rfl)
    try simp only [Act.put, List.setIfInBounds_toArray, List.set_cons_zero, List.set_cons_succ]
    refine wpAnyH_take (i := 27) (oi := ⟨_, _, _, _, _, _⟩) (v := ?_) rfl (by kernel_rfl) (by kernel_rfl) (by kernel_rfl) (fun _ _ _ h => h) (Or.inl ⟨by rfl, ?_⟩) hHeld ?_
    rotate_left
    · ((intro w hSw; (try dsimp only at hSw); go_simp) <;> with_reducible rfl)
    try simp only [Act.put, List.setIfInBounds_toArray, List.set_cons_zero, List.set_cons_succ]
    refine wpAnyH_done (by kernel_rfl) ?_ _
    go_wp2_with fail
    go_ret
    exact ⟨rfl, HBD.out⟩
  by_cases q2 : e < b
  · obtain rfl : T = true := by rw [HT.out]; exact decide_eq_true (.inr (.inl q2))
    go_enter Tryd.func93, Tryd.ntmps93
    go_upto_region 1 with fail
    rw [← HW1.out, ← HBS.out]
    refine wp_region_held_drew (S := fun w' => w'.cell? ⟨bs, 0, none⟩ = some (.int .i64 b) ∧ w'.cell? ⟨bs, 1, none⟩ = some (.int .i64 e) ∧ w'.cell? ⟨bs, 2, none⟩ = some (.slice p n c)) (by kernel_rfl) (by first | exact HS1.out | exact HS0.out) (fun hHeld => ?_)
    refine wpAnyH_take (i := 0) (oi := ⟨_, _, _, _, _, _⟩) (v := ?_) rfl (by kernel_rfl) (by kernel_rfl) (by kernel_rfl) (fun _ _ _ h => h) (Or.inl ⟨by rfl, ?_⟩) hHeld ?_
    rotate_left
    · ((intro w hSw; (try dsimp only at hSw); go_simp) <;> with_reducible rfl)
    try simp only [Act.put, List.setIfInBounds_toArray, List.set_cons_zero, List.set_cons_succ]
    refine wpAnyH_take (i := 1) (oi := ⟨_, _, _, _, _, _⟩) (v := ?_) rfl (by kernel_rfl) (by kernel_rfl) (by kernel_rfl) (fun _ _ _ h => h) (Or.inl ⟨by rfl, ?_⟩) hHeld ?_
    rotate_left
    · ((intro w hSw; (try dsimp only at hSw); go_simp) <;> with_reducible rfl)
    try simp only [Act.put, List.setIfInBounds_toArray, List.set_cons_zero, List.set_cons_succ]
    refine wpAnyH_take (i := 2) (oi := ⟨_, _, _, _, _, _⟩) (v := ?_) rfl (by kernel_rfl) (by kernel_rfl) (by kernel_rfl) (fun _ _ _ h => h) (Or.inl ⟨by rfl, ?_⟩) hHeld ?_
    rotate_left
    · ((intro w hSw; (try dsimp only at hSw); go_simp) <;> with_reducible rfl)
    try simp only [Act.put, List.setIfInBounds_toArray, List.set_cons_zero, List.set_cons_succ]
    refine wpAnyH_take (i := 3) (oi := ⟨_, _, _, _, _, _⟩) (v := ?_) rfl (by kernel_rfl) (by kernel_rfl) (by kernel_rfl) (fun _ _ _ h => h) (Or.inl ⟨by rfl, ?_⟩) hHeld ?_
    rotate_left
    · ((intro w hSw; (try dsimp only at hSw); go_simp) <;> with_reducible rfl)
    try simp only [Act.put, List.setIfInBounds_toArray, List.set_cons_zero, List.set_cons_succ]
    refine wpAnyH_take (i := 4) (oi := ⟨_, _, _, _, _, _⟩) (v := ?_) rfl (by kernel_rfl) (by kernel_rfl) (by kernel_rfl) (fun _ _ _ h => h) (Or.inl ⟨by rfl, ?_⟩) hHeld ?_
    rotate_left
    · ((intro w hSw; (try dsimp only at hSw); go_simp) <;> with_reducible rfl)
    try simp only [Act.put, List.setIfInBounds_toArray, List.set_cons_zero, List.set_cons_succ]
    refine wpAnyH_take (i := 5) (oi := ⟨_, _, _, _, _, _⟩) (v := ?_) rfl (by kernel_rfl) (by kernel_rfl) (by kernel_rfl) (fun _ _ _ h => h) (Or.inl ⟨by rfl, ?_⟩) hHeld ?_
    rotate_left
    · ((intro w hSw; (try dsimp only at hSw); go_simp) <;> with_reducible rfl)
    try simp only [Act.put, List.setIfInBounds_toArray, List.set_cons_zero, List.set_cons_succ]
    refine wpAnyH_take (i := 6) (oi := ⟨_, _, _, _, _, _⟩) (v := ?_) rfl (by kernel_rfl) (by kernel_rfl) (by kernel_rfl) (fun _ _ _ h => h) (Or.inl ⟨by rfl, ?_⟩) hHeld ?_
    rotate_left
    · ((intro w hSw; (try dsimp only at hSw); go_simp) <;> with_reducible rfl)
    try simp only [Act.put, List.setIfInBounds_toArray, List.set_cons_zero, List.set_cons_succ]
    refine wpAnyH_take (i := 7) (oi := ⟨_, _, _, _, _, _⟩) (v := ?_) rfl (by kernel_rfl) (by kernel_rfl) (by kernel_rfl) (fun _ _ _ h => h) (Or.inl ⟨by rfl, ?_⟩) hHeld ?_
    rotate_left
    · ((intro w hSw; (try dsimp only at hSw); go_simp) <;> with_reducible rfl)
    try simp only [Act.put, List.setIfInBounds_toArray, List.set_cons_zero, List.set_cons_succ]
    refine wpAnyH_take (i := 8) (oi := ⟨_, _, _, _, _, _⟩) (v := ?_) rfl (by kernel_rfl) (by kernel_rfl) (by kernel_rfl) (fun _ _ _ h => h) (Or.inl ⟨by rfl, ?_⟩) hHeld ?_
    rotate_left
    · ((intro w hSw; (try dsimp only at hSw); go_simp) <;> with_reducible rfl)
    try simp only [Act.put, List.setIfInBounds_toArray, List.set_cons_zero, List.set_cons_succ]
    refine wpAnyH_take (i := 9) (oi := ⟨_, _, _, _, _, _⟩) (v := ?_) rfl (by kernel_rfl) (by kernel_rfl) (by kernel_rfl) (fun _ _ _ h => h) (Or.inl ⟨by rfl, ?_⟩) hHeld ?_
    rotate_left
    · ((intro w hSw; (try dsimp only at hSw); go_simp) <;> with_reducible rfl)
    try simp only [Act.put, List.setIfInBounds_toArray, List.set_cons_zero, List.set_cons_succ]
    refine wpAnyH_take (i := 10) (oi := ⟨_, _, _, _, _, _⟩) (v := ?_) rfl (by kernel_rfl) (by kernel_rfl) (by kernel_rfl) (fun _ _ _ h => h) (Or.inl ⟨by rfl, ?_⟩) hHeld ?_
    rotate_left
    · ((intro w hSw; (try dsimp only at hSw); go_simp) <;> with_reducible rfl)
    try simp only [Act.put, List.setIfInBounds_toArray, List.set_cons_zero, List.set_cons_succ]
    refine wpAnyH_take (i := 11) (oi := ⟨_, _, _, _, _, _⟩) (v := undef) rfl (by kernel_rfl) (by kernel_rfl) (by kernel_rfl) (fun _ _ _ h => h) (Or.inr ⟨by rfl, rfl⟩) hHeld ?_
    try simp only [Act.put, List.setIfInBounds_toArray, List.set_cons_zero, List.set_cons_succ]
    refine wpAnyH_take (i := 12) (oi := ⟨_, _, _, _, _, _⟩) (v := undef) rfl (by kernel_rfl) (by kernel_rfl) (by kernel_rfl) (fun _ _ _ h => h) (Or.inr ⟨by rfl, rfl⟩) hHeld ?_
    try simp only [Act.put, List.setIfInBounds_toArray, List.set_cons_zero, List.set_cons_succ]
    refine wpAnyH_take (i := 13) (oi := ⟨_, _, _, _, _, _⟩) (v := undef) rfl (by kernel_rfl) (by kernel_rfl) (by kernel_rfl) (fun _ _ _ h => h) (Or.inr ⟨by rfl, rfl⟩) hHeld ?_
    try simp only [Act.put, List.setIfInBounds_toArray, List.set_cons_zero, List.set_cons_succ]
    refine wpAnyH_take (i := 14) (oi := ⟨_, _, _, _, _, _⟩) (v := ?_) rfl (by kernel_rfl) (by kernel_rfl) (by kernel_rfl) (fun _ _ _ h => h) (Or.inl ⟨by rfl, ?_⟩) hHeld ?_
    rotate_left
    · ((intro w hSw; (try dsimp only at hSw); go_simp) <;> with_reducible rfl)
    try simp only [Act.put, List.setIfInBounds_toArray, List.set_cons_zero, List.set_cons_succ]
    refine wpAnyH_take (i := 15) (oi := ⟨_, _, _, _, _, _⟩) (v := ?_) rfl (by kernel_rfl) (by kernel_rfl) (by kernel_rfl) (fun _ _ _ h => h) (Or.inl ⟨by rfl, ?_⟩) hHeld ?_
    rotate_left
    · ((intro w hSw; (try dsimp only at hSw); go_simp) <;> with_reducible rfl)
    try simp only [Act.put, List.setIfInBounds_toArray, List.set_cons_zero, List.set_cons_succ]
    refine wpAnyH_take (i := 16) (oi := ⟨_, _, _, _, _, _⟩) (v := undef) rfl (by kernel_rfl) (by kernel_rfl) (by kernel_rfl) (fun _ _ _ h => h) (Or.inr ⟨by rfl, rfl⟩) hHeld ?_
    try simp only [Act.put, List.setIfInBounds_toArray, List.set_cons_zero, List.set_cons_succ]
    refine wpAnyH_take (i := 17) (oi := ⟨_, _, _, _, _, _⟩) (v := undef) rfl (by kernel_rfl) (by kernel_rfl) (by kernel_rfl) (fun _ _ _ h => h) (Or.inr ⟨by rfl, rfl⟩) hHeld ?_
    try simp only [Act.put, List.setIfInBounds_toArray, List.set_cons_zero, List.set_cons_succ]
    refine wpAnyH_take (i := 18) (oi := ⟨_, _, _, _, _, _⟩) (v := undef) rfl (by kernel_rfl) (by kernel_rfl) (by kernel_rfl) (fun _ _ _ h => h) (Or.inr ⟨by rfl, rfl⟩) hHeld ?_
    try simp only [Act.put, List.setIfInBounds_toArray, List.set_cons_zero, List.set_cons_succ]
    refine wpAnyH_take (i := 19) (oi := ⟨_, _, _, _, _, _⟩) (v := undef) rfl (by kernel_rfl) (by kernel_rfl) (by kernel_rfl) (fun _ _ _ h => h) (Or.inr ⟨by rfl, rfl⟩) hHeld ?_
    try simp only [Act.put, List.setIfInBounds_toArray, List.set_cons_zero, List.set_cons_succ]
    refine wpAnyH_take (i := 20) (oi := ⟨_, _, _, _, _, _⟩) (v := undef) rfl (by kernel_rfl) (by kernel_rfl) (by kernel_rfl) (fun _ _ _ h => h) (Or.inr ⟨by rfl, rfl⟩) hHeld ?_
    try simp only [Act.put, List.setIfInBounds_toArray, List.set_cons_zero, List.set_cons_succ]
    refine wpAnyH_take (i := 21) (oi := ⟨_, _, _, _, _, _⟩) (v := undef) rfl (by kernel_rfl) (by kernel_rfl) (by kernel_rfl) (fun _ _ _ h => h) (Or.inr ⟨by rfl, rfl⟩) hHeld ?_
    try simp only [Act.put, List.setIfInBounds_toArray, List.set_cons_zero, List.set_cons_succ]
    refine wpAnyH_take (i := 22) (oi := ⟨_, _, _, _, _, _⟩) (v := undef) rfl (by kernel_rfl) (by kernel_rfl) (by kernel_rfl) (fun _ _ _ h => h) (Or.inr ⟨by rfl, rfl⟩) hHeld ?_
    try simp only [Act.put, List.setIfInBounds_toArray, List.set_cons_zero, List.set_cons_succ]
    refine wpAnyH_take (i := 23) (oi := ⟨_, _, _, _, _, _⟩) (v := undef) rfl (by kernel_rfl) (by kernel_rfl) (by kernel_rfl) (fun _ _ _ h => h) (Or.inr ⟨by rfl, rfl⟩) hHeld ?_
    try simp only [Act.put, List.setIfInBounds_toArray, List.set_cons_zero, List.set_cons_succ]
    refine wpAnyH_take (i := 24) (oi := ⟨_, _, _, _, _, _⟩) (v := undef) rfl (by kernel_rfl) (by kernel_rfl) (by kernel_rfl) (fun _ _ _ h => h) (Or.inr ⟨by rfl, rfl⟩) hHeld ?_
    try simp only [Act.put, List.setIfInBounds_toArray, List.set_cons_zero, List.set_cons_succ]
    refine wpAnyH_take (i := 25) (oi := ⟨_, _, _, _, _, _⟩) (v := undef) rfl (by kernel_rfl) (by kernel_rfl) (by kernel_rfl) (fun _ _ _ h => h) (Or.inr ⟨by rfl, rfl⟩) hHeld ?_
    try simp only [Act.put, List.setIfInBounds_toArray, List.set_cons_zero, List.set_cons_succ]
    refine wpAnyH_take (i := 26) (oi := ⟨_, _, _, _, _, _⟩) (v := ?_) rfl (by kernel_rfl) (by kernel_rfl) (by kernel_rfl) (fun _ _ _ h => h) (Or.inl ⟨by rfl, ?_⟩) hHeld ?_
    rotate_left
    · ((intro w hSw; (try dsimp only at hSw); go_simp) <;> with_reducible rfl)
    try simp only [Act.put, List.setIfInBounds_toArray, List.set_cons_zero, List.set_cons_succ]
    refine wpAnyH_take (i := 27) (oi := ⟨_, _, _, _, _, _⟩) (v := ?_) rfl (by kernel_rfl) (by kernel_rfl) (by kernel_rfl) (fun _ _ _ h => h) (Or.inl ⟨by rfl, ?_⟩) hHeld ?_
    rotate_left
    · ((intro w hSw; (try dsimp only at hSw); go_simp) <;> with_reducible rfl)
    try simp only [Act.put, List.setIfInBounds_toArray, List.set_cons_zero, List.set_cons_succ]
    refine wpAnyH_done (by kernel_rfl) ?_ _
    go_wp2_with fail
    go_ret
    exact ⟨rfl, HBD.out⟩
  by_cases q3 : 1099511627776 < e
  · obtain rfl : T = true := by rw [HT.out]; exact decide_eq_true (.inr (.inr (.inl q3)))
    go_enter Tryd.func93, Tryd.ntmps93
    go_upto_region 1 with fail
    rw [← HW1.out, ← HBS.out]
    refine wp_region_held_drew (S := fun w' => w'.cell? ⟨bs, 0, none⟩ = some (.int .i64 b) ∧ w'.cell? ⟨bs, 1, none⟩ = some (.int .i64 e) ∧ w'.cell? ⟨bs, 2, none⟩ = some (.slice p n c)) (by kernel_rfl) (by first | exact HS1.out | exact HS0.out) (fun hHeld => ?_)
    refine wpAnyH_take (i := 0) (oi := ⟨_, _, _, _, _, _⟩) (v := ?_) rfl (by kernel_rfl) (by kernel_rfl) (by kernel_rfl) (fun _ _ _ h => h) (Or.inl ⟨by rfl, ?_⟩) hHeld ?_
    rotate_left
    · ((intro w hSw; (try dsimp only at hSw); go_simp) <;> with_reducible rfl)
    try simp only [Act.put, List.setIfInBounds_toArray, List.set_cons_zero, List.set_cons_succ]
    refine wpAnyH_take (i := 1) (oi := ⟨_, _, _, _, _, _⟩) (v := ?_) rfl (by kernel_rfl) (by kernel_rfl) (by kernel_rfl) (fun _ _ _ h => h) (Or.inl ⟨by rfl, ?_⟩) hHeld ?_
    rotate_left
    · ((intro w hSw; (try dsimp only at hSw); go_simp) <;> with_reducible rfl)
    try simp only [Act.put, List.setIfInBounds_toArray, List.set_cons_zero, List.set_cons_succ]
    refine wpAnyH_take (i := 2) (oi := ⟨_, _, _, _, _, _⟩) (v := ?_) rfl (by kernel_rfl) (by kernel_rfl) (by kernel_rfl) (fun _ _ _ h => h) (Or.inl ⟨by rfl, ?_⟩) hHeld ?_
    rotate_left
    · ((intro w hSw; (try dsimp only at hSw); go_simp) <;> with_reducible rfl)
    try simp only [Act.put, List.setIfInBounds_toArray, List.set_cons_zero, List.set_cons_succ]
    refine wpAnyH_take (i := 3) (oi := ⟨_, _, _, _, _, _⟩) (v := ?_) rfl (by kernel_rfl) (by kernel_rfl) (by kernel_rfl) (fun _ _ _ h => h) (Or.inl ⟨by rfl, ?_⟩) hHeld ?_
    rotate_left
    · ((intro w hSw; (try dsimp only at hSw); go_simp) <;> with_reducible rfl)
    try simp only [Act.put, List.setIfInBounds_toArray, List.set_cons_zero, List.set_cons_succ]
    refine wpAnyH_take (i := 4) (oi := ⟨_, _, _, _, _, _⟩) (v := ?_) rfl (by kernel_rfl) (by kernel_rfl) (by kernel_rfl) (fun _ _ _ h => h) (Or.inl ⟨by rfl, ?_⟩) hHeld ?_
    rotate_left
    · ((intro w hSw; (try dsimp only at hSw); go_simp) <;> with_reducible rfl)
    try simp only [Act.put, List.setIfInBounds_toArray, List.set_cons_zero, List.set_cons_succ]
    refine wpAnyH_take (i := 5) (oi := ⟨_, _, _, _, _, _⟩) (v := ?_) rfl (by kernel_rfl) (by kernel_rfl) (by kernel_rfl) (fun _ _ _ h => h) (Or.inl ⟨by rfl, ?_⟩) hHeld ?_
    rotate_left
    · ((intro w hSw; (try dsimp only at hSw); go_simp) <;> with_reducible rfl)
    try simp only [Act.put, List.setIfInBounds_toArray, List.set_cons_zero, List.set_cons_succ]
    refine wpAnyH_take (i := 6) (oi := ⟨_, _, _, _, _, _⟩) (v := ?_) rfl (by kernel_rfl) (by kernel_rfl) (by kernel_rfl) (fun _ _ _ h => h) (Or.inl ⟨by rfl, ?_⟩) hHeld ?_
    rotate_left
    · ((intro w hSw; (try dsimp only at hSw); go_simp) <;> with_reducible rfl)
    try simp only [Act.put, List.setIfInBounds_toArray, List.set_cons_zero, List.set_cons_succ]
    refine wpAnyH_take (i := 7) (oi := ⟨_, _, _, _, _, _⟩) (v := ?_) rfl (by kernel_rfl) (by kernel_rfl) (by kernel_rfl) (fun _ _ _ h => h) (Or.inl ⟨by rfl, ?_⟩) hHeld ?_
    rotate_left
    · ((intro w hSw; (try dsimp only at hSw); go_simp) <;> with_reducible rfl)
    try simp only [Act.put, List.setIfInBounds_toArray, List.set_cons_zero, List.set_cons_succ]
    refine wpAnyH_take (i := 8) (oi := ⟨_, _, _, _, _, _⟩) (v := ?_) rfl (by kernel_rfl) (by kernel_rfl) (by kernel_rfl) (fun _ _ _ h => h) (Or.inl ⟨by rfl, ?_⟩) hHeld ?_
    rotate_left
    · ((intro w hSw; (try dsimp only at hSw); go_simp) <;> with_reducible rfl)
    try simp only [Act.put, List.setIfInBounds_toArray, List.set_cons_zero, List.set_cons_succ]
    refine wpAnyH_take (i := 9) (oi := ⟨_, _, _, _, _, _⟩) (v := ?_) rfl (by kernel_rfl) (by kernel_rfl) (by kernel_rfl) (fun _ _ _ h => h) (Or.inl ⟨by rfl, ?_⟩) hHeld ?_
    rotate_left
    · ((intro w hSw; (try dsimp only at hSw); go_simp) <;> with_reducible rfl)
    try simp only [Act.put, List.setIfInBounds_toArray, List.set_cons_zero, List.set_cons_succ]
    refine wpAnyH_take (i := 10) (oi := ⟨_, _, _, _, _, _⟩) (v := ?_) rfl (by kernel_rfl) (by kernel_rfl) (by kernel_rfl) (fun _ _ _ h => h) (Or.inl ⟨by rfl, ?_⟩) hHeld ?_
    rotate_left
    · ((intro w hSw; (try dsimp only at hSw); go_simp) <;> with_reducible rfl)
    try simp only [Act.put, List.setIfInBounds_toArray, List.set_cons_zero, List.set_cons_succ]
    refine wpAnyH_take (i := 11) (oi := ⟨_, _, _, _, _, _⟩) (v := ?_) rfl (by kernel_rfl) (by kernel_rfl) (by kernel_rfl) (fun _ _ _ h => h) (Or.inl ⟨by rfl, ?_⟩) hHeld ?_
    rotate_left
    · ((intro w hSw; (try dsimp only at hSw); go_simp) <;> with_reducible rfl)
    try simp only [Act.put, List.setIfInBounds_toArray, List.set_cons_zero, List.set_cons_succ]
    refine wpAnyH_take (i := 12) (oi := ⟨_, _, _, _, _, _⟩) (v := ?_) rfl (by kernel_rfl) (by kernel_rfl) (by kernel_rfl) (fun _ _ _ h => h) (Or.inl ⟨by rfl, ?_⟩) hHeld ?_
    rotate_left
    · ((intro w hSw; (try dsimp only at hSw); go_simp) <;> with_reducible rfl)
    try simp only [Act.put, List.setIfInBounds_toArray, List.set_cons_zero, List.set_cons_succ]
    refine wpAnyH_take (i := 13) (oi := ⟨_, _, _, _, _, _⟩) (v := ?_) rfl (by kernel_rfl) (by kernel_rfl) (by kernel_rfl) (fun _ _ _ h => h) (Or.inl ⟨by rfl, ?_⟩) hHeld ?_
    rotate_left
    · ((intro w hSw; (try dsimp only at hSw); go_simp) <;> with_reducible rfl)
    try simp only [Act.put, List.setIfInBounds_toArray, List.set_cons_zero, List.set_cons_succ]
    refine wpAnyH_take (i := 14) (oi := ⟨_, _, _, _, _, _⟩) (v := ?_) rfl (by kernel_rfl) (by kernel_rfl) (by kernel_rfl) (fun _ _ _ h => h) (Or.inl ⟨by rfl, ?_⟩) hHeld ?_
    rotate_left
    · ((intro w hSw; (try dsimp only at hSw); go_simp) <;> with_reducible rfl)
    try simp only [Act.put, List.setIfInBounds_toArray, List.set_cons_zero, List.set_cons_succ]
    refine wpAnyH_take (i := 15) (oi := ⟨_, _, _, _, _, _⟩) (v := ?_) rfl (by kernel_rfl) (by kernel_rfl) (by kernel_rfl) (fun _ _ _ h => h) (Or.inl ⟨by rfl, ?_⟩) hHeld ?_
    rotate_left
    · ((intro w hSw; (try dsimp only at hSw); go_simp) <;> with_reducible rfl)
    try simp only [Act.put, List.setIfInBounds_toArray, List.set_cons_zero, List.set_cons_succ]
    refine wpAnyH_take (i := 16) (oi := ⟨_, _, _, _, _, _⟩) (v := undef) rfl (by kernel_rfl) (by kernel_rfl) (by kernel_rfl) (fun _ _ _ h => h) (Or.inr ⟨by rfl, rfl⟩) hHeld ?_
    try simp only [Act.put, List.setIfInBounds_toArray, List.set_cons_zero, List.set_cons_succ]
    refine wpAnyH_take (i := 17) (oi := ⟨_, _, _, _, _, _⟩) (v := undef) rfl (by kernel_rfl) (by kernel_rfl) (by kernel_rfl) (fun _ _ _ h => h) (Or.inr ⟨by rfl, rfl⟩) hHeld ?_
    try simp only [Act.put, List.setIfInBounds_toArray, List.set_cons_zero, List.set_cons_succ]
    refine wpAnyH_take (i := 18) (oi := ⟨_, _, _, _, _, _⟩) (v := undef) rfl (by kernel_rfl) (by kernel_rfl) (by kernel_rfl) (fun _ _ _ h => h) (Or.inr ⟨by rfl, rfl⟩) hHeld ?_
    try simp only [Act.put, List.setIfInBounds_toArray, List.set_cons_zero, List.set_cons_succ]
    refine wpAnyH_take (i := 19) (oi := ⟨_, _, _, _, _, _⟩) (v := undef) rfl (by kernel_rfl) (by kernel_rfl) (by kernel_rfl) (fun _ _ _ h => h) (Or.inr ⟨by rfl, rfl⟩) hHeld ?_
    try simp only [Act.put, List.setIfInBounds_toArray, List.set_cons_zero, List.set_cons_succ]
    refine wpAnyH_take (i := 20) (oi := ⟨_, _, _, _, _, _⟩) (v := undef) rfl (by kernel_rfl) (by kernel_rfl) (by kernel_rfl) (fun _ _ _ h => h) (Or.inr ⟨by rfl, rfl⟩) hHeld ?_
    try simp only [Act.put, List.setIfInBounds_toArray, List.set_cons_zero, List.set_cons_succ]
    refine wpAnyH_take (i := 21) (oi := ⟨_, _, _, _, _, _⟩) (v := undef) rfl (by kernel_rfl) (by kernel_rfl) (by kernel_rfl) (fun _ _ _ h => h) (Or.inr ⟨by rfl, rfl⟩) hHeld ?_
    try simp only [Act.put, List.setIfInBounds_toArray, List.set_cons_zero, List.set_cons_succ]
    refine wpAnyH_take (i := 22) (oi := ⟨_, _, _, _, _, _⟩) (v := undef) rfl (by kernel_rfl) (by kernel_rfl) (by kernel_rfl) (fun _ _ _ h => h) (Or.inr ⟨by rfl, rfl⟩) hHeld ?_
    try simp only [Act.put, List.setIfInBounds_toArray, List.set_cons_zero, List.set_cons_succ]
    refine wpAnyH_take (i := 23) (oi := ⟨_, _, _, _, _, _⟩) (v := undef) rfl (by kernel_rfl) (by kernel_rfl) (by kernel_rfl) (fun _ _ _ h => h) (Or.inr ⟨by rfl, rfl⟩) hHeld ?_
    try simp only [Act.put, List.setIfInBounds_toArray, List.set_cons_zero, List.set_cons_succ]
    refine wpAnyH_take (i := 24) (oi := ⟨_, _, _, _, _, _⟩) (v := undef) rfl (by kernel_rfl) (by kernel_rfl) (by kernel_rfl) (fun _ _ _ h => h) (Or.inr ⟨by rfl, rfl⟩) hHeld ?_
    try simp only [Act.put, List.setIfInBounds_toArray, List.set_cons_zero, List.set_cons_succ]
    refine wpAnyH_take (i := 25) (oi := ⟨_, _, _, _, _, _⟩) (v := undef) rfl (by kernel_rfl) (by kernel_rfl) (by kernel_rfl) (fun _ _ _ h => h) (Or.inr ⟨by rfl, rfl⟩) hHeld ?_
    try simp only [Act.put, List.setIfInBounds_toArray, List.set_cons_zero, List.set_cons_succ]
    refine wpAnyH_take (i := 26) (oi := ⟨_, _, _, _, _, _⟩) (v := ?_) rfl (by kernel_rfl) (by kernel_rfl) (by kernel_rfl) (fun _ _ _ h => h) (Or.inl ⟨by rfl, ?_⟩) hHeld ?_
    rotate_left
    · ((intro w hSw; (try dsimp only at hSw); go_simp) <;> with_reducible rfl)
    try simp only [Act.put, List.setIfInBounds_toArray, List.set_cons_zero, List.set_cons_succ]
    refine wpAnyH_take (i := 27) (oi := ⟨_, _, _, _, _, _⟩) (v := ?_) rfl (by kernel_rfl) (by kernel_rfl) (by kernel_rfl) (fun _ _ _ h => h) (Or.inl ⟨by rfl, ?_⟩) hHeld ?_
    rotate_left
    · ((intro w hSw; (try dsimp only at hSw); go_simp) <;> with_reducible rfl)
    try simp only [Act.put, List.setIfInBounds_toArray, List.set_cons_zero, List.set_cons_succ]
    refine wpAnyH_done (by kernel_rfl) ?_ _
    go_wp2_with fail
    go_ret
    exact ⟨rfl, HBD.out⟩
  obtain ⟨x, rfl⟩ : ∃ x : Nat, b = x := ⟨b.toNat, by omega⟩
  obtain ⟨y, rfl⟩ : ∃ x : Nat, e = x := ⟨e.toNat, by omega⟩
  obtain ⟨m, hm⟩ : ∃ m, m = (cutA x y).length := ⟨_, rfl⟩
  have CC : Hid (∀ w', Calls Tryd.prog 74 #[.int .i64 (x : Int), .int .i64 (y : Int)] w' fun o z => ∃ q d, o = .returned (.slice q m d) ∧ Below w'.heap.size w' z) := Lib.hid (fun w' => by
    refine (cut5_any x y w' (by omega) (by omega)).mono ?_
    rintro o z ⟨u, rfl, h⟩
    obtain ⟨q, d, rfl, _⟩ := h.h.cells
    exact ⟨q, d, by rw [hm], h.b⟩)
  have HTT : Hid (T = !((n : Int) == (m : Int))) := Lib.hid (by
    rw [HT.out, Int.toNat_natCast, Int.toNat_natCast, ← hm]
    by_cases h : n = m
    · rw [decide_eq_false (by omega), h]; simp
    · rw [decide_eq_true (by omega), beq_eq_false_iff_ne.2 (show (n : Int) ≠ (m : Int) by omega)]; rfl)
  clear hm HT
  go_enter Tryd.func93, Tryd.ntmps93
  go_upto_region 1 with fail
  rw [← HW1.out, ← HBS.out]
  have HBD0 : Hid (Below w1.heap.size w1 w1.drew) := Lib.hid (Below.refl _ _).drew
  refine wp_region_held_drew (S := fun w' => w'.cell? ⟨bs, 0, none⟩ = some (.int .i64 (x : Int)) ∧ w'.cell? ⟨bs, 1, none⟩ = some (.int .i64 (y : Int)) ∧ w'.cell? ⟨bs, 2, none⟩ = some (.slice p n c)) (by kernel_rfl) (by first | exact HS1.out | exact HS0.out) (fun hHeld => ?_)
  refine wpAnyH_take (i := 0) (oi := ⟨_, _, _, _, _, _⟩) (v := ?_) rfl (by kernel_rfl) (by kernel_rfl) (by kernel_rfl) (fun _ _ _ h => h) (Or.inl ⟨by rfl, ?_⟩) hHeld ?_
  rotate_left
  · ((intro w hSw; (try dsimp only at hSw); go_simp) <;> with_reducible rfl)
  try simp only [Act.put, List.setIfInBounds_toArray, List.set_cons_zero, List.set_cons_succ]
  refine wpAnyH_take (i := 1) (oi := ⟨_, _, _, _, _, _⟩) (v := ?_) rfl (by kernel_rfl) (by kernel_rfl) (by kernel_rfl) (fun _ _ _ h => h) (Or.inl ⟨by rfl, ?_⟩) hHeld ?_
  rotate_left
  · ((intro w hSw; (try dsimp only at hSw); go_simp) <;> with_reducible rfl)
  try simp only [Act.put, List.setIfInBounds_toArray, List.set_cons_zero, List.set_cons_succ]
  refine wpAnyH_take (i := 2) (oi := ⟨_, _, _, _, _, _⟩) (v := ?_) rfl (by kernel_rfl) (by kernel_rfl) (by kernel_rfl) (fun _ _ _ h => h) (Or.inl ⟨by rfl, ?_⟩) hHeld ?_
  rotate_left
  · ((intro w hSw; (try dsimp only at hSw); go_simp) <;> with_reducible rfl)
  try simp only [Act.put, List.setIfInBounds_toArray, List.set_cons_zero, List.set_cons_succ]
  refine wpAnyH_take (i := 3) (oi := ⟨_, _, _, _, _, _⟩) (v := ?_) rfl (by kernel_rfl) (by kernel_rfl) (by kernel_rfl) (fun _ _ _ h => h) (Or.inl ⟨by rfl, ?_⟩) hHeld ?_
  rotate_left
  · ((intro w hSw; (try dsimp only at hSw); go_simp) <;> with_reducible rfl)
  try simp only [Act.put, List.setIfInBounds_toArray, List.set_cons_zero, List.set_cons_succ]
  refine wpAnyH_take (i := 4) (oi := ⟨_, _, _, _, _, _⟩) (v := ?_) rfl (by kernel_rfl) (by kernel_rfl) (by kernel_rfl) (fun _ _ _ h => h) (Or.inl ⟨by rfl, ?_⟩) hHeld ?_
  rotate_left
  · ((intro w hSw; (try dsimp only at hSw); go_simp) <;> with_reducible rfl)
  try simp only [Act.put, List.setIfInBounds_toArray, List.set_cons_zero, List.set_cons_succ]
  refine wpAnyH_take (i := 5) (oi := ⟨_, _, _, _, _, _⟩) (v := ?_) rfl (by kernel_rfl) (by kernel_rfl) (by kernel_rfl) (fun _ _ _ h => h) (Or.inl ⟨by rfl, ?_⟩) hHeld ?_
  rotate_left
  · ((intro w hSw; (try dsimp only at hSw); go_simp) <;> with_reducible rfl)
  try simp only [Act.put, List.setIfInBounds_toArray, List.set_cons_zero, List.set_cons_succ]
  refine wpAnyH_take (i := 6) (oi := ⟨_, _, _, _, _, _⟩) (v := ?_) rfl (by kernel_rfl) (by kernel_rfl) (by kernel_rfl) (fun _ _ _ h => h) (Or.inl ⟨by rfl, ?_⟩) hHeld ?_
  rotate_left
  · ((intro w hSw; (try dsimp only at hSw); go_simp) <;> with_reducible rfl)
  try simp only [Act.put, List.setIfInBounds_toArray, List.set_cons_zero, List.set_cons_succ]
  refine wpAnyH_take (i := 7) (oi := ⟨_, _, _, _, _, _⟩) (v := ?_) rfl (by kernel_rfl) (by kernel_rfl) (by kernel_rfl) (fun _ _ _ h => h) (Or.inl ⟨by rfl, ?_⟩) hHeld ?_
  rotate_left
  · ((intro w hSw; (try dsimp only at hSw); go_simp) <;> with_reducible rfl)
  try simp only [Act.put, List.setIfInBounds_toArray, List.set_cons_zero, List.set_cons_succ]
  refine wpAnyH_take (i := 8) (oi := ⟨_, _, _, _, _, _⟩) (v := ?_) rfl (by kernel_rfl) (by kernel_rfl) (by kernel_rfl) (fun _ _ _ h => h) (Or.inl ⟨by rfl, ?_⟩) hHeld ?_
  rotate_left
  · ((intro w hSw; (try dsimp only at hSw); go_simp) <;> with_reducible rfl)
  try simp only [Act.put, List.setIfInBounds_toArray, List.set_cons_zero, List.set_cons_succ]
  refine wpAnyH_take (i := 9) (oi := ⟨_, _, _, _, _, _⟩) (v := ?_) rfl (by kernel_rfl) (by kernel_rfl) (by kernel_rfl) (fun _ _ _ h => h) (Or.inl ⟨by rfl, ?_⟩) hHeld ?_
  rotate_left
  · ((intro w hSw; (try dsimp only at hSw); go_simp) <;> with_reducible rfl)
  try simp only [Act.put, List.setIfInBounds_toArray, List.set_cons_zero, List.set_cons_succ]
  refine wpAnyH_take (i := 10) (oi := ⟨_, _, _, _, _, _⟩) (v := ?_) rfl (by kernel_rfl) (by kernel_rfl) (by kernel_rfl) (fun _ _ _ h => h) (Or.inl ⟨by rfl, ?_⟩) hHeld ?_
  rotate_left
  · ((intro w hSw; (try dsimp only at hSw); go_simp) <;> with_reducible rfl)
  try simp only [Act.put, List.setIfInBounds_toArray, List.set_cons_zero, List.set_cons_succ]
  refine wpAnyH_take (i := 11) (oi := ⟨_, _, _, _, _, _⟩) (v := ?_) rfl (by kernel_rfl) (by kernel_rfl) (by kernel_rfl) (fun _ _ _ h => h) (Or.inl ⟨by rfl, ?_⟩) hHeld ?_
  rotate_left
  · ((intro w hSw; (try dsimp only at hSw); go_simp) <;> with_reducible rfl)
  try simp only [Act.put, List.setIfInBounds_toArray, List.set_cons_zero, List.set_cons_succ]
  refine wpAnyH_take (i := 12) (oi := ⟨_, _, _, _, _, _⟩) (v := ?_) rfl (by kernel_rfl) (by kernel_rfl) (by kernel_rfl) (fun _ _ _ h => h) (Or.inl ⟨by rfl, ?_⟩) hHeld ?_
  rotate_left
  · ((intro w hSw; (try dsimp only at hSw); go_simp) <;> with_reducible rfl)
  try simp only [Act.put, List.setIfInBounds_toArray, List.set_cons_zero, List.set_cons_succ]
  refine wpAnyH_take (i := 13) (oi := ⟨_, _, _, _, _, _⟩) (v := ?_) rfl (by kernel_rfl) (by kernel_rfl) (by kernel_rfl) (fun _ _ _ h => h) (Or.inl ⟨by rfl, ?_⟩) hHeld ?_
  rotate_left
  · ((intro w hSw; (try dsimp only at hSw); go_simp) <;> with_reducible rfl)
  try simp only [Act.put, List.setIfInBounds_toArray, List.set_cons_zero, List.set_cons_succ]
  refine wpAnyH_take (i := 14) (oi := ⟨_, _, _, _, _, _⟩) (v := ?_) rfl (by kernel_rfl) (by kernel_rfl) (by kernel_rfl) (fun _ _ _ h => h) (Or.inl ⟨by rfl, ?_⟩) hHeld ?_
  rotate_left
  · ((intro w hSw; (try dsimp only at hSw); go_simp) <;> with_reducible rfl)
  try simp only [Act.put, List.setIfInBounds_toArray, List.set_cons_zero, List.set_cons_succ]
  refine wpAnyH_take (i := 15) (oi := ⟨_, _, _, _, _, _⟩) (v := ?_) rfl (by kernel_rfl) (by kernel_rfl) (by kernel_rfl) (fun _ _ _ h => h) (Or.inl ⟨by rfl, ?_⟩) hHeld ?_
  rotate_left
  · ((intro w hSw; (try dsimp only at hSw); go_simp) <;> with_reducible rfl)
  try simp only [Act.put, List.setIfInBounds_toArray, List.set_cons_zero, List.set_cons_succ]
  refine wpAnyH_take (i := 16) (oi := ⟨_, _, _, _, _, _⟩) (v := ?_) rfl (by kernel_rfl) (by kernel_rfl) (by kernel_rfl) (fun _ _ _ h => h) (Or.inl ⟨by rfl, ?_⟩) hHeld ?_
  rotate_left
  · ((intro w hSw; (try dsimp only at hSw); go_simp) <;> with_reducible rfl)
  try simp only [Act.put, List.setIfInBounds_toArray, List.set_cons_zero, List.set_cons_succ]
  refine wpAnyH_take (i := 17) (oi := ⟨_, _, _, _, _, _⟩) (v := ?_) rfl (by kernel_rfl) (by kernel_rfl) (by kernel_rfl) (fun _ _ _ h => h) (Or.inl ⟨by rfl, ?_⟩) hHeld ?_
  rotate_left
  · ((intro w hSw; (try dsimp only at hSw); go_simp) <;> with_reducible rfl)
  try simp only [Act.put, List.setIfInBounds_toArray, List.set_cons_zero, List.set_cons_succ]
  refine wpAnyH_take (i := 18) (oi := ⟨_, _, _, _, _, _⟩) (v := ?_) rfl (by kernel_rfl) (by kernel_rfl) (by kernel_rfl) (fun _ _ _ h => h) (Or.inl ⟨by rfl, ?_⟩) hHeld ?_
  rotate_left
  · ((intro w hSw; (try dsimp only at hSw); go_simp) <;> with_reducible rfl)
  try simp only [Act.put, List.setIfInBounds_toArray, List.set_cons_zero, List.set_cons_succ]
  refine wpAnyH_take (i := 19) (oi := ⟨_, _, _, _, _, _⟩) (v := ?_) rfl (by kernel_rfl) (by kernel_rfl) (by kernel_rfl) (fun _ _ _ h => h) (Or.inl ⟨by rfl, ?_⟩) hHeld ?_
  rotate_left
  · ((intro w hSw; (try dsimp only at hSw); go_simp) <;> with_reducible rfl)
  try simp only [Act.put, List.setIfInBounds_toArray, List.set_cons_zero, List.set_cons_succ]
  refine wpAnyH_take (i := 20) (oi := ⟨_, _, _, _, _, _⟩) (v := ?_) rfl (by kernel_rfl) (by kernel_rfl) (by kernel_rfl) (fun _ _ _ h => h) (Or.inl ⟨by rfl, ?_⟩) hHeld ?_
  rotate_left
  · ((intro w hSw; (try dsimp only at hSw); go_simp) <;> with_reducible rfl)
  try simp only [Act.put, List.setIfInBounds_toArray, List.set_cons_zero, List.set_cons_succ]
  refine wpAnyH_take (i := 21) (oi := ⟨_, _, _, _, _, _⟩) (v := ?_) rfl (by kernel_rfl) (by kernel_rfl) (by kernel_rfl) (fun _ _ _ h => h) (Or.inl ⟨by rfl, ?_⟩) hHeld ?_
  rotate_left
  · ((intro w hSw; (try dsimp only at hSw); go_simp) <;> with_reducible rfl)
  try simp only [Act.put, List.setIfInBounds_toArray, List.set_cons_zero, List.set_cons_succ]
  refine wpAnyH_take (i := 22) (oi := ⟨_, _, _, _, _, _⟩) (v := ?_) rfl (by kernel_rfl) (by kernel_rfl) (by kernel_rfl) (fun _ _ _ h => h) (Or.inl ⟨by rfl, ?_⟩) hHeld ?_
  rotate_left
  · ((intro w hSw; (try dsimp only at hSw); go_simp) <;> with_reducible rfl)
  try simp only [Act.put, List.setIfInBounds_toArray, List.set_cons_zero, List.set_cons_succ]
  refine wpAnyH_ready (rs := [23]) (by kernel_rfl) (by simp) ?_
  refine AllReadyH.cons (o := ⟨_, _, _, _, _, _⟩) rfl (fun K hK => ?_) ?_
  rotate_left
  · exact AllReadyH.nil
  go_simp
  go_at_call 74; ((with_reducible refine (CC.out _).mono ?_); rintro o z ⟨q, d, rfl, h⟩; have HB5 : Hid (Below w1.heap.size w1 z) := Lib.hid (HBD0.out.trans (h.mono HBD0.out.size)); have HS1 := Lib.hid (HCS.out z HB5.out); clear h)
  refine hK.out _ _ (by first | exact HS1.out | exact HS0.out) (fun hHeld => ?_)
  clear hK K
  try simp only [Act.put, List.setIfInBounds_toArray, List.set_cons_zero, List.set_cons_succ]
  refine wpAnyH_take (i := 24) (oi := ⟨_, _, _, _, _, _⟩) (v := ?_) rfl (by kernel_rfl) (by kernel_rfl) (by kernel_rfl) (fun _ _ _ h => h) (Or.inl ⟨by rfl, ?_⟩) hHeld ?_
  rotate_left
  · ((intro w hSw; (try dsimp only at hSw); go_simp) <;> with_reducible rfl)
  try simp only [Act.put, List.setIfInBounds_toArray, List.set_cons_zero, List.set_cons_succ]
  refine wpAnyH_take (i := 25) (oi := ⟨_, _, _, _, _, _⟩) (v := ?_) rfl (by kernel_rfl) (by kernel_rfl) (by kernel_rfl) (fun _ _ _ h => h) (Or.inl ⟨by rfl, ?_⟩) hHeld ?_
  rotate_left
  · ((intro w hSw; (try dsimp only at hSw); go_simp) <;> with_reducible rfl)
  try simp only [Act.put, List.setIfInBounds_toArray, List.set_cons_zero, List.set_cons_succ]
  refine wpAnyH_take (i := 26) (oi := ⟨_, _, _, _, _, _⟩) (v := ?_) rfl (by kernel_rfl) (by kernel_rfl) (by kernel_rfl) (fun _ _ _ h => h) (Or.inl ⟨by rfl, ?_⟩) hHeld ?_
  rotate_left
  · ((intro w hSw; (try dsimp only at hSw); go_simp) <;> with_reducible rfl)
  try simp only [Act.put, List.setIfInBounds_toArray, List.set_cons_zero, List.set_cons_succ]
  refine wpAnyH_take (i := 27) (oi := ⟨_, _, _, _, _, _⟩) (v := ?_) rfl (by kernel_rfl) (by kernel_rfl) (by kernel_rfl) (fun _ _ _ h => h) (Or.inl ⟨by rfl, ?_⟩) hHeld ?_
  rotate_left
  · ((intro w hSw; (try dsimp only at hSw); go_simp) <;> with_reducible rfl)
  try simp only [Act.put, List.setIfInBounds_toArray, List.set_cons_zero, List.set_cons_succ]
  refine wpAnyH_done (by kernel_rfl) ?_ _
  go_wp2_with fail
  go_ret
  exact ⟨by rw [HTT.out]; rfl, HB1.out.trans (HB5.out.mono HB1.out.size)⟩
end Go.Proofs.YtdbghgpohdijfaaDoor
