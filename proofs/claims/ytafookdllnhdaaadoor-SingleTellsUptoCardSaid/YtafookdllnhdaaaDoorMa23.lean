/- A leaf added: the hashes up to the first one that waits. -/
import Derived.Test.YtafookdllnhdaaaDoorMa21
import Derived.Test.YtafookdllnhdaaaDoorMa22
import Derived.Test.YtafookdllnhdaaaDoorMa11
import Derived.Deep.Cut
import Derived.LoopTactic
namespace Go.Proofs.YtafookdllnhdaaaDoor
open Go.RowKit Go.Scr Go.ChangeMaps Go.MapKept
set_option linter.unusedVariables false
/-- the tables, all below B -/
structure Bas (w : World) (B : Nat) : Prop where
  tabs : Tabs w
  tz : TabZ w
  lt : 3 < B ∧ 2 < B ∧ 1 < B
  le : B ≤ w.heap.size
theorem Bas.below {w w' : World} {B : Nat} (h : Bas w B) (hb : Below B w w') : Bas w' B :=
  ⟨⟨fun j hj => (hb.cell (p := ⟨_, j, none⟩) h.lt.1).trans (h.tabs.1 j hj), fun j hj => (hb.cell (p := ⟨_, j, none⟩) h.lt.2.1).trans (h.tabs.2 j hj)⟩, fun j hj => (hb.cell (p := ⟨_, j, none⟩) h.lt.2.2).trans (h.tz j hj), h.lt, Nat.le_trans h.le hb.size⟩
abbrev Col := Nat → Option (Nat × Nat × Nat)
theorem ChT.low {col : Col} {w w' : World} {B : Nat} (h : ChT col w w') (hb : ∀ g, col g ≠ none → B ≤ g) (hB : B ≤ w.heap.size) : Below B w w' :=
  ⟨h.os, h.tape, h.output, h.size, fun g hg => h.block g (Nat.lt_of_lt_of_le hg hB) (by
    cases e : col g with
    | none => rfl
    | some x => exact absurd (hb g (by rw [e]; simp)) (by omega))⟩
theorem ChT.keeps {col : Col} {w w' : World} (h : ChT col w w') {g : Nat} {o : Obj} (hg : w.heap[g]? = some o) (hc : col g = none) : w'.heap[g]? = some o := (h.block g (blk_lt hg) hc).trans hg
theorem TreeI.lo {w : World} {tb h n : Nat} {c : Nat → Nat} {val : Nat → Nat → ByteArray} {col : Col} (t : TreeI w tb h n c val col) : ∀ g, col g ≠ none → g < w.heap.size := by
  obtain ⟨r, ex, G, V, es, clk, t, _⟩ := t
  exact t.lo
theorem TreeI.far {w : World} {tb h n : Nat} {c : Nat → Nat} {val : Nat → Nat → ByteArray} {col : Col} (t : TreeI w tb h n c val col) {g : Nat} (hg : w.heap.size ≤ g) : col g = none := by
  cases e : col g with
  | none => rfl
  | some x => exact absurd (t.lo g (by rw [e]; simp)) (by omega)
theorem TreeI.below {w w' : World} {tb h n : Nat} {c : Nat → Nat} {val : Nat → Nat → ByteArray} {col : Col} (t : TreeI w tb h n c val col) (hb : Below w.heap.size w w') : TreeI w' tb h n c val col := by
  obtain ⟨r, ex, G, V, es, clk, t, hex⟩ := t
  exact ⟨r, ex, G, V, es, clk, t.below hb, hex⟩
theorem TreeI.box {w : World} {tb h n : Nat} {c : Nat → Nat} {val : Nat → Nat → ByteArray} {col : Col} (t : TreeI w tb h n c val col) : ∃ mv, w.heap[tb]? = some (.cells #[.int .i64 (h : Int), .int .i64 (n : Int), mv] 65 (0, 0)) := by
  obtain ⟨r, ex, G, V, es, clk, t, _⟩ := t
  exact ⟨_, t.box⟩
theorem TreeI.hh {w : World} {tb h n : Nat} {c : Nat → Nat} {val : Nat → Nat → ByteArray} {col : Col} (t : TreeI w tb h n c val col) : 1 ≤ h ∧ h ≤ 8 := by
  obtain ⟨r, ex, G, V, es, clk, t, _⟩ := t
  exact t.hh
theorem TreeI.congr {w : World} {tb h n : Nat} {c c' : Nat → Nat} {val : Nat → Nat → ByteArray} {col : Col} (t : TreeI w tb h n c val col) (hc : c = c') : TreeI w tb h n c' val col := by rw [← hc]; exact t
/-- the size cell set -/
theorem TreeI.resize {w : World} {tb h n : Nat} {c : Nat → Nat} {val : Nat → Nat → ByteArray} {col : Col} (t : TreeI w tb h n c val col) (n' : Nat) : TreeI (w.setCell ⟨tb, 1, none⟩ (.int .i64 (n' : Int))) tb h n' c val col ∧ ChT col w (w.setCell ⟨tb, 1, none⟩ (.int .i64 (n' : Int))) := by
  obtain ⟨r, ex, G, V, es, clk, t, hex⟩ := t
  have some_ne : ∀ {g : Nat} {x : Nat × Nat × Nat}, col g = some x → col g ≠ none := fun h e => by rw [h] at e; cases e
  have hne : ∀ {g : Nat} {a b k : Nat}, col g = some (a, b, k) → k ≠ 1000 → g ≠ tb := fun h hk e => by
    rw [e, t.ct] at h
    injection h with h
    injection h with _ h
    injection h with _ h
    omega
  have hfar : ∀ {g : Nat}, g ≠ tb → (w.setCell ⟨tb, 1, none⟩ (.int .i64 (n' : Int))).heap[g]? = w.heap[g]? := fun {g} hg => Below.heap_setCell w ⟨tb, 1, none⟩ _ g hg
  have hsz : (w.setCell ⟨tb, 1, none⟩ (.int .i64 (n' : Int))).heap.size = w.heap.size := by simp [World.setCell]
  refine ⟨⟨r, ex, G, V, es, clk, ⟨?_, (hfar (hne t.cr (by omega))).trans t.mp, t.ct, t.cr, t.ent, t.has, t.one, fun lv ix he => ?_, fun lv ix j he hj => ?_, fun g hg => by rw [hsz]; exact t.lo g hg, t.mono, t.hh, t.yng, t.nod⟩, hex⟩, rfl, rfl, rfl, by rw [hsz]; exact Nat.le_refl _, fun g hg hn => hfar (fun e => by rw [e, t.ct] at hn; cases hn)⟩
  · have := blk_set t.box 1 (.int .i64 (n' : Int))
    rw [this]
    rfl
  · obtain ⟨q1, q2⟩ := t.out lv ix he
    exact ⟨(hfar (hne q2 (by omega))).trans q1, q2⟩
  · obtain ⟨q1, q2⟩ := t.inn lv ix j he hj
    exact ⟨q1.keep fun g hg => hfar (hne (q2 g hg) (by have := t.hh; omega)), q2⟩
theorem node_at {w : World} {tb h n : Nat} {c : Nat → Nat} {val : Nat → Nat → ByteArray} {col : Col} (t : TreeI w tb h n c val col) {l i : Nat} (hl : l ≤ 64) (hi40 : i ≤ 1099511627776) (hi : i < c l) :
    Calls Tryd.prog 43 #[bpT tb, .agg #[.int .i64 (l : Int), .int .i64 (i : Int)]] w fun o w' => o = .returned (.string (val l i)) ∧ Below w.heap.size w w' := by
  obtain ⟨r, ex, G, V, es, clk, t, hex⟩ := t
  exact node_any t hl hi40 hi ((hex _ _).2 (ex_of t.mono (by have := t.hh; omega) hi))
set_option maxRecDepth 100000 in
theorem pair_any (l r : ByteArray) (w : World) (ht : Tabs w) : Calls Tryd.prog 44 #[.string l, .string r] w fun o w' => o = .returned (.string (nodeS l r)) ∧ Below w.heap.size w w' := by
  have H := Lib.hid (dnode_any l r w ht)
  clear ht
  go_enter Tryd.func44, Tryd.ntmps44
  go_wp2_with (go_at_call 29; refine H.out.mono ?_; rintro o w1 ⟨rfl, hb⟩)
  go_ret
  exact ⟨rfl, hb⟩
end Go.Proofs.YtafookdllnhdaaaDoor
/- A leaf added. -/
namespace Go.Proofs.YtafookdllnhdaaaDoor
open Go.RowKit Go.Scr Go.ChangeMaps Go.MapKept
set_option linter.unusedVariables false
theorem cAdd_at (n k : Nat) : cAdd n k k = n / 2 ^ k := by unfold cAdd; rw [if_neg (by omega)]
theorem add_odd {n k z : Nat} (hz : 2 ^ z ∣ n + 1) (hk : k < z) : n / 2 ^ k = 2 * (n / 2 ^ (k + 1)) + 1 := by
  have h1 := div_succ (dvd_low hz (Nat.le_of_lt hk))
  have h2 := div_succ (dvd_low hz (show k + 1 ≤ z from hk))
  obtain ⟨q, hq⟩ := dvd_low hz (show k + 1 ≤ z from hk)
  have h3 : (n + 1) / 2 ^ k = 2 * ((n + 1) / 2 ^ (k + 1)) := by
    rw [hq, Nat.mul_div_cancel_left _ (two_pos (k + 1)), Nat.pow_succ, Nat.mul_assoc, Nat.mul_div_cancel_left _ (two_pos k)]
  omega
theorem add_val {n k z : Nat} (hz : 2 ^ z ∣ n + 1) (hk : k < z) {M : List ByteArray} (hM : M.length = n + 1) : valL M (k + 1) (n / 2 ^ (k + 1)) = nodeS (valL M k (n / 2 ^ k - 1)) (valL M k (n / 2 ^ k)) := by
  have h2 := div_succ (dvd_low hz (show k + 1 ≤ z from hk))
  rw [valL_node (by rw [hM]; unfold cL; omega), add_odd hz hk]
  congr 1
theorem add_low {n z : Nat} (hz : 2 ^ z ∣ n + 1) (hn : n < 1048576) : z ≤ 20 := by
  have h1 := Nat.le_of_dvd (by omega) hz
  apply Decidable.byContradiction
  intro h
  have h2 : 2 ^ 21 ≤ 2 ^ z := Nat.pow_le_pow_right (by decide) (by omega)
  omega
theorem put_at {w : World} {tb h n : Nat} {c : Nat → Nat} {val val' : Nat → Nat → ByteArray} {col : Col} (t : TreeI w tb h n c val col)
    {l i : Nat} {s : ByteArray} (hi : i = c l) (hl : l ≤ 64) (hi40 : i ≤ 1099511627776) (hv : ∀ k i, i < c k → val' k i = val k i) (hm : ∀ k, k < l → (c l + 1) * 2 ^ (l - k) ≤ c k) (hs : s = val' l i) (hp : l % h = 0 ∨ exT c h (l / h) (c l / 2 ^ (h - l % h))) :
    Calls Tryd.prog 50 #[bpT tb, .agg #[.int .i64 (l : Int), .int .i64 (i : Int)], .string s] w fun o w' => o = .returned (.tuple #[]) ∧ ∃ col', TreeI w' tb h n (upC c l) val' col' ∧ ChT col w w' ∧ ∀ q, q < w.heap.size → col' q = col q := by
  subst hi
  exact put_any t hl hi40 hv hm hs hp
/-- behind the level k -/
def AddI (W w : World) (B tb h n nb k : Nat) (M : List ByteArray) (col0 : Col) : Prop :=
  ∃ col, TreeI w tb h n (cAdd n (k + 1)) (valL M) col ∧ (∀ g, col g ≠ none → B ≤ g) ∧ ChT col0 W w ∧ (∀ q, q < W.heap.size → col q = col0 q) ∧ w.heap[nb]? = some (.cells #[.int .i64 (k : Int), .int .i64 ((n / 2 ^ k : Nat) : Int)] 62 (0, 0)) ∧ col nb = none ∧ W.heap.size ≤ nb
theorem low_of' {col col' : Col} {W : World} {B : Nat} (hb : ∀ g, col g ≠ none → B ≤ g) (hB : B ≤ W.heap.size) (h : ∀ q, q < W.heap.size → col' q = col q) : ∀ g, col' g ≠ none → B ≤ g := fun g hg => by
  by_cases e : g < W.heap.size
  · exact hb g (by rw [← h g e]; exact hg)
  · omega
theorem TreeI.set {w : World} {tb h n : Nat} {c : Nat → Nat} {val : Nat → Nat → ByteArray} {col : Col} (t : TreeI w tb h n c val col) {p : Addr} (hp : col p.block = none) (u : Value) : TreeI (w.setCell p u) tb h n c val col := by
  obtain ⟨r, ex, G, V, es, clk, t, hex⟩ := t
  exact ⟨r, ex, G, V, es, clk, t.keep (fun g hg => Below.heap_setCell w p u g (fun e => hg (by rw [e]; exact hp))) (by simp [World.setCell]), hex⟩
theorem ChT.set {col : Col} {W w : World} (h : ChT col W w) {p : Addr} (hp : W.heap.size ≤ p.block) (u : Value) : ChT col W (w.setCell p u) :=
  ⟨h.os, h.tape, h.output, by simpa [World.setCell] using h.size, fun g hg hn => (Below.heap_setCell w p u g (by omega)).trans (h.block g hg hn)⟩
theorem addI_put {W wr : World} {B tb h n nb k z : Nat} {M : List ByteArray} {col0 : Col} (H : AddI W wr B tb h n nb k M col0) (hz : 2 ^ z ∣ n + 1) (hk : k < z) (hz20 : z ≤ 20) (hn : n < 1048576) (hM : M.length = n + 1) (hBW : B ≤ W.heap.size) {w3 : World} (hb : Below wr.heap.size wr w3) :
    Calls Tryd.prog 50 #[bpT tb, .agg #[.int .i64 ((k : Int) + 1), .int .i64 ((n / 2 ^ (k + 1) : Nat) : Int)], .string (valL M (k + 1) (n / 2 ^ (k + 1)))] ((w3.setCell ⟨nb, 0, none⟩ (.int .i64 ((k : Int) + 1))).setCell ⟨nb, 1, none⟩ (.int .i64 ((n / 2 ^ (k + 1) : Nat) : Int))) fun o w' => o = .returned (.tuple #[]) ∧ AddI W w' B tb h n nb (k + 1) M col0 := by
  obtain ⟨col, t, q1, q2, q3, q4, q5, q6⟩ := H
  have t4 := ((t.below hb).set (p := ⟨nb, 0, none⟩) q5 (.int .i64 ((k : Int) + 1))).set (p := ⟨nb, 1, none⟩) q5 (.int .i64 ((n / 2 ^ (k + 1) : Nat) : Int))
  have hnbl := blk_lt q4
  have hbox := (hb.block nb hnbl).trans q4
  have hb4 := blk_set (blk_set hbox 0 (.int .i64 ((k : Int) + 1))) 1 (.int .i64 ((n / 2 ^ (k + 1) : Nat) : Int))
  have hc4 : ChT col0 W ((w3.setCell ⟨nb, 0, none⟩ (.int .i64 ((k : Int) + 1))).setCell ⟨nb, 1, none⟩ (.int .i64 ((n / 2 ^ (k + 1) : Nat) : Int))) := ((q2.below hb).set (p := ⟨nb, 0, none⟩) q6 _).set (p := ⟨nb, 1, none⟩) q6 _
  have hn1 : n / 2 ^ (k + 1) ≤ n := Nat.div_le_self _ _
  have hd := dvd_low hz (show k + 1 ≤ z from hk)
  have := put_at (val' := valL M) (l := k + 1) (i := n / 2 ^ (k + 1)) (s := valL M (k + 1) (n / 2 ^ (k + 1))) t4 (cAdd_at n (k + 1)).symm (by omega) (by omega) (fun _ _ _ => rfl) (cAdd_hm hd) rfl (cAdd_ex (by have := t.hh; omega) hd)
  rw [cAdd_up] at this
  refine Calls.mono this ?_
  rintro o w' ⟨rfl, col', t', hc', hq'⟩
  have hs4 : w3.heap.size ≤ ((w3.setCell ⟨nb, 0, none⟩ (.int .i64 ((k : Int) + 1))).setCell ⟨nb, 1, none⟩ (.int .i64 ((n / 2 ^ (k + 1) : Nat) : Int))).heap.size := by simp [World.setCell]
  have hs3 := hb.size
  have hs2 := q2.size
  have e1 : ∀ q, q < W.heap.size → col' q = col0 q := fun q hq => (hq' q (by omega)).trans (q3 q hq)
  have e2 : col' nb = none := (hq' nb (by omega)).trans q5
  refine ⟨rfl, col', t', low_of' q1 (Nat.le_trans hBW (by omega)) hq', hc4.trans hc' (fun q hq => q3 q hq), e1, ?_, e2, q6⟩
  have := hc'.keeps hb4 q5
  exact this
structure TreeU (w : World) (B tb h : Nat) (L : List ByteArray) (col : Col) : Prop where
  t : TreeI w tb h L.length (cL L.length) (valL L) col
  b : ∀ g, col g ≠ none → B ≤ g
  z : ∀ s ∈ L, s.size = 32
  n : L.length ≤ 1048576
set_option maxRecDepth 100000 in
set_option maxHeartbeats 4000000 in
theorem add_any {w : World} {B tb h : Nat} {L : List ByteArray} {col : Col} {x : ByteArray} (t : TreeU w B tb h L col) (hB : Bas w B) (hx : x.size = 32) (hn : L.length < 1048576) :
    Calls Tryd.prog 19 #[bpT tb, .string x] w fun o w' => o = .returned (.int .i64 0) ∧ ∃ col', TreeU w' B tb h (L ++ [x]) col' ∧ ChT col w w' ∧ ∀ q, q < w.heap.size → col' q = col q := by
  obtain ⟨mv, hbox⟩ := t.t.box
  obtain ⟨M, hM⟩ : ∃ M, M = L ++ [x] := ⟨_, rfl⟩
  rw [← hM]
  obtain ⟨n, hn0⟩ : ∃ n, n = L.length := ⟨_, rfl⟩
  have hlen : M.length = n + 1 := by rw [hM, hn0]; simp
  have hmx : M[n]? = some x := by rw [hM, hn0]; simp
  obtain ⟨z, hz⟩ : ∃ z, z = Lib.ctz 64 (n + 1) := ⟨_, rfl⟩
  obtain ⟨hz1, hz2⟩ := ctz_spec (n + 1) (by omega) (by omega)
  rw [← hz] at hz1 hz2
  rw [← hn0] at hbox hn
  have hz20 := add_low hz1 hn
  have c0 : w.cell? ⟨tb, 1, none⟩ = some (.int .i64 (n : Int)) := cellB hbox rfl
  have hxs : (x.size : Int) = 32 := by omega
  have hni : ¬ (1048576 : Int) ≤ (n : Int) := by omega
  -- the first put
  have HP0 : Hid (∀ w2 : World, Below w.heap.size w w2 → Calls Tryd.prog 50 #[bpT tb, .agg #[.int .i64 0, .int .i64 (n : Int)], .string x] w2 fun o w' => o = .returned (.tuple #[]) ∧ ∃ col', TreeI w' tb h n (cAdd n 1) (valL M) col' ∧ ChT col w2 w' ∧ ∀ q, q < w2.heap.size → col' q = col q) := Lib.hid fun w2 hb2 => by
    have h0 := t.t.below hb2
    rw [← hn0] at h0
    have hc : cL n = cAdd n 0 := (cAdd_zero n).symm
    rw [hc] at h0
    have := put_at (val' := valL M) (l := 0) (i := n) (s := x) h0 (by rw [cAdd_at]; simp) (by omega) (by omega) (fun k i hi => by rw [cAdd_zero] at hi; rw [hM]; exact valL_snoc (by rw [← hn0]; exact hi)) (fun k hk => by omega) (valL_zero hmx).symm (.inl (Nat.zero_mod h))
    rw [cAdd_up] at this
    exact this
  have HTB : Hid (∀ w2 : World, ChT col w w2 → Bas w2 B) := Lib.hid fun w2 hc => hB.below (hc.low t.b hB.le)
  have HF : Hid (2 ^ z ∣ n + 1 ∧ ¬ 2 ^ (z + 1) ∣ n + 1 ∧ M.length = n + 1 ∧ n = L.length ∧ M = L ++ [x] ∧ z = Lib.ctz 64 (n + 1) ∧ B ≤ w.heap.size ∧ (∀ s ∈ M, s.size = 32)) := Lib.hid ⟨hz1, hz2, hlen, hn0, hM, hz, hB.le, fun s hs => by
    rw [hM] at hs
    rcases List.mem_append.1 hs with h1 | h1
    · exact t.z s h1
    · rw [List.mem_singleton.1 h1]; exact hx⟩
  have HZ : Hid (∀ w2 : World, Bas w2 B → Calls Tryd.prog 51 #[.int .u64 ((n : Int) + 1)] w2 fun o w' => o = .returned (.int .i64 (z : Int)) ∧ w' = w2) := Lib.hid fun w2 hb2 => by
    have := tz_any (n + 1) w2 (by omega) (by omega) hb2.tz
    rw [← hz] at this
    exact this
  have HX0 : Hid (x = valL M 0 (n / 2 ^ 0)) := Lib.hid (by rw [Nat.pow_zero, Nat.div_one]; exact (valL_zero hmx).symm)
  have HTT := Lib.hid t
  clear t hbox hlen hmx hz1 hz2 hM hn0 hz hx hB
  go_enter Tryd.func19, Tryd.ntmps19
  go_upto_region 6 with fail
  obtain ⟨wa, hwa⟩ : ∃ y, y = w.alloc (.cells #[.int .i64 0, .int .i64 (n : Int)] 62) := ⟨_, rfl⟩
  rw [← hwa]
  have HBA : Hid (Below w.heap.size w wa) := Lib.hid (by rw [hwa]; exact (Below.refl _ _).alloc (Nat.le_refl _) _)
  have hnb : wa.heap[w.heap.size]? = some (.cells #[.int .i64 0, .int .i64 (n : Int)] 62 (0, 0)) := by rw [hwa]; exact heap_alloc_new w _
  obtain ⟨nb, hnbe⟩ : ∃ y, y = w.heap.size := ⟨_, rfl⟩
  rw [← hnbe] at hnb ⊢
  have d0 : wa.cell? ⟨nb, 0, none⟩ = some (.int .i64 0) := cellB hnb rfl
  have d1 : wa.cell? ⟨nb, 1, none⟩ = some (.int .i64 (n : Int)) := cellB hnb rfl
  have HNB : Hid (wa.heap[nb]? = some (.cells #[.int .i64 0, .int .i64 (n : Int)] 62 (0, 0)) ∧ nb = w.heap.size) := Lib.hid ⟨hnb, hnbe⟩
  clear hwa hnb hnbe c0
  go_wp2_with (first
    | (go_at_call 50; refine (HP0.out _ HBA.out).mono ?_; rintro o w1 ⟨rfl, h1⟩; have H1 := Lib.hid h1; have e1 : w1.cell? ⟨tb, 1, none⟩ = some (.int .i64 (n : Int)) := (by obtain ⟨col1, t1, _⟩ := h1; obtain ⟨mv1, hb1⟩ := t1.box; exact cellB hb1 rfl); clear h1 d0 d1)
    | (go_at_call 51; have hq : Bas w1 B := (by obtain ⟨col1, t1, hc1, _⟩ := H1.out; exact HTB.out _ ((ChT.of_below (col := col) HBA.out).trans hc1 fun _ _ => rfl)); refine (HZ.out _ hq).mono ?_; rintro o w2 ⟨rfl, rfl⟩; clear hq))
  have HI0 : Hid (AddI w w2 B tb h n nb 0 M col) := Lib.hid (by
    obtain ⟨col1, t1, hc1, hq1⟩ := H1.out
    have hb := HBA.out
    have hs := hb.size
    have hs2 : nb < wa.heap.size := blk_lt HNB.out.1
    have hcn : col nb = none := HTT.out.t.far (by rw [HNB.out.2]; exact Nat.le_refl _)
    refine ⟨col1, t1, low_of' HTT.out.b (Nat.le_trans HF.out.2.2.2.2.2.2.1 hs) hq1, (ChT.of_below (col := col) hb).trans hc1 (fun _ _ => rfl), fun q hq => hq1 q (by omega), ?_, (hq1 nb hs2).trans hcn, by rw [HNB.out.2]; exact Nat.le_refl _⟩
    rw [Nat.pow_zero, Nat.div_one]
    exact hc1.keeps HNB.out.1 hcn)
  clear e1
  go_loopw [1, 32] (fun v c wr => ∃ k : Nat, c = .int .i64 (k : Int) ∧ v = .string (valL M k (n / 2 ^ k)) ∧ k ≤ z ∧ Hid (AddI w wr B tb h n nb k M col)) (fun _ c _ => z - (intOf c).toNat)
  case atStart => exact ⟨0, rfl, congrArg Value.string HX0.out, Nat.zero_le _, HI0⟩
  case round =>
    clear HI0
    obtain ⟨k, rfl, rfl, hk, HI⟩ := hrel
    by_cases hlt : k < z
    · have hli : (k : Int) < (z : Int) := by omega
      obtain ⟨i, hi⟩ : ∃ i, i = n / 2 ^ k := ⟨_, rfl⟩
      obtain ⟨j, hj⟩ : ∃ j, j = n / 2 ^ k - 1 := ⟨_, rfl⟩
      obtain ⟨i1, hi1⟩ : ∃ i, i = n / 2 ^ (k + 1) := ⟨_, rfl⟩
      have hodd := add_odd HF.out.1 hlt
      have hval := add_val HF.out.1 hlt HF.out.2.2.1
      have hin : n / 2 ^ k ≤ n := Nat.div_le_self _ _
      obtain ⟨s0, hs0⟩ : ∃ s, s = valL M k (n / 2 ^ k) := ⟨_, rfl⟩
      obtain ⟨s1, hs1⟩ : ∃ s, s = valL M k (n / 2 ^ k - 1) := ⟨_, rfl⟩
      obtain ⟨s2, hs2⟩ : ∃ s, s = valL M (k + 1) (n / 2 ^ (k + 1)) := ⟨_, rfl⟩
      have e0 : wr.cell? ⟨nb, 0, none⟩ = some (.int .i64 (k : Int)) := by obtain ⟨_, _, _, _, _, q4, _⟩ := HI.out; exact cellB q4 rfl
      have e1 : wr.cell? ⟨nb, 1, none⟩ = some (.int .i64 (i : Int)) := by obtain ⟨_, _, _, _, _, q4, _⟩ := HI.out; rw [hi]; exact cellB q4 rfl
      have eb : wr.heap[nb]? = some (.cells #[.int .i64 (k : Int), .int .i64 (i : Int)] 62 (0, 0)) := by obtain ⟨_, _, _, _, _, q4, _⟩ := HI.out; rw [hi]; exact q4
      have HEB := Lib.hid eb
      have HN : Hid (Calls Tryd.prog 43 #[bpT tb, .agg #[.int .i64 (k : Int), .int .i64 (j : Int)]] wr fun o w' => o = .returned (.string s1) ∧ Below wr.heap.size wr w') := Lib.hid (by
        obtain ⟨colk, tk, _⟩ := HI.out
        rw [hs1, hj]
        exact node_at tk (by omega) (by omega) (by unfold cAdd; rw [if_pos (by omega)]; omega))
      have HPA : Hid (∀ w3, Below wr.heap.size wr w3 → Calls Tryd.prog 44 #[.string s1, .string s0] w3 fun o w' => o = .returned (.string s2) ∧ Below w3.heap.size w3 w') := Lib.hid (fun w3 hb => by
        obtain ⟨colk, tk, _, hck, _⟩ := HI.out
        rw [hs2, hval, ← hs1, ← hs0]
        exact pair_any s1 s0 w3 ((HTB.out _ hck).tabs.below hb))
      have HPU : Hid (∀ w3, Below wr.heap.size wr w3 → Calls Tryd.prog 50 #[bpT tb, .agg #[.int .i64 ((k : Int) + 1), .int .i64 (i1 : Int)], .string s2] ((w3.setCell ⟨nb, 0, none⟩ (.int .i64 ((k : Int) + 1))).setCell ⟨nb, 1, none⟩ (.int .i64 (i1 : Int))) fun o w' => o = .returned (.tuple #[]) ∧ AddI w w' B tb h n nb (k + 1) M col) := Lib.hid (fun w3 hb => by
        rw [hs2, hi1]
        exact addI_put HI.out HF.out.1 hlt hz20 hn HF.out.2.2.1 HF.out.2.2.2.2.2.2.1 hb)
      have hji : (i : Int) - 1 = (j : Int) := by rw [hi, hj]; omega
      have hdiv : (i : Int).tdiv 2 = (i1 : Int) := by rw [Int.tdiv_eq_ediv_of_nonneg (Int.natCast_nonneg _), hi, hi1]; omega
      have hi20 : (i : Int) < 1048576 := by rw [hi]; omega
      have hi0 : 0 < i := by rw [hi]; omega
      have hi1b : i1 < 1048576 := by rw [hi1]; omega
      have HS2 : Hid (s2 = valL M (k + 1) (n / 2 ^ (k + 1))) := Lib.hid hs2
      rw [← hs0]
      clear hi hj hi1 hodd hval hin hs0 hs1 hs2 eb
      go_wp2_with (first
        | (go_at_call 43; refine HN.out.mono ?_; rintro o w3 ⟨rfl, hb3⟩; have HB3 := Lib.hid hb3; clear hb3)
        | (go_at_call 44; refine (HPA.out _ HB3.out).mono ?_; rintro o w4 ⟨rfl, hb4⟩; have HB4 : Hid (Below wr.heap.size wr w4) := Lib.hid (HB3.out.trans (hb4.mono HB3.out.size)); clear hb4; have b4 := blk_below HEB.out HB4.out (blk_lt HEB.out); have k0 : w4.cell? ⟨nb, 0, none⟩ = some (.int .i64 (k : Int)) := cellB b4 rfl; have k1 : w4.cell? ⟨nb, 1, none⟩ = some (.int .i64 (i : Int)) := cellB b4 rfl; have kf0 : w4.frozen? ⟨nb, 0, none⟩ = false := frozB b4; have kf1 : w4.frozen? ⟨nb, 1, none⟩ = false := frozB b4; clear b4 e0 e1)
        | (go_at_call 50; refine (HPU.out _ HB4.out).mono ?_; rintro o w5 ⟨rfl, h5⟩; have H5 := Lib.hid h5; clear h5))
      exact ⟨⟨k + 1, by simp, congrArg Value.string HS2.out, hlt, H5⟩, by show z - ((k : Int) + 1).toNat < z - ((k : Int)).toNat; omega⟩
    · have hzk : k = z := by omega
      have hnl : ¬ (k : Int) < (z : Int) := by omega
      have HFI : Hid (∀ v, v = ((n + 1 : Nat) : Int) → ∃ col', TreeU (wr.setCell ⟨tb, 1, none⟩ (.int .i64 v)) B tb h M col' ∧ ChT col w (wr.setCell ⟨tb, 1, none⟩ (.int .i64 v)) ∧ ∀ q, q < w.heap.size → col' q = col q) := Lib.hid (fun v hv => by
        obtain ⟨colk, tk, q1, q2, q3, _⟩ := HI.out
        obtain ⟨r1, r2⟩ := tk.resize (n + 1)
        rw [hv]
        refine ⟨colk, ⟨?_, q1, HF.out.2.2.2.2.2.2.2, by rw [HF.out.2.2.1]; omega⟩, q2.trans r2 q3, q3⟩
        rw [HF.out.2.2.1]
        exact r1.congr (by rw [hzk]; exact cAdd_all HF.out.1 HF.out.2.1))
      obtain ⟨mv2, hb2⟩ : ∃ mv, wr.heap[tb]? = some (.cells #[.int .i64 (h : Int), .int .i64 (n : Int), mv] 65 (0, 0)) := by obtain ⟨colk, tk, _⟩ := HI.out; exact tk.box
      have k1 : wr.cell? ⟨tb, 1, none⟩ = some (.int .i64 (n : Int)) := cellB hb2 rfl
      have kf : wr.frozen? ⟨tb, 1, none⟩ = false := frozB hb2
      clear hzk hlt hb2 hk
      go_wp2_with fail
      go_ret
      exact ⟨rfl, HFI.out _ (by simp)⟩
end Go.Proofs.YtafookdllnhdaaaDoor
