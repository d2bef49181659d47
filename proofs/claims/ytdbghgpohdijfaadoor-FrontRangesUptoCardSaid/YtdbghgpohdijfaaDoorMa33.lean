/- A span cut into complete subtrees: walked. -/
import Derived.Test.YtdbghgpohdijfaaDoorMa32
import Derived.BigQuiet
import Derived.Deep.CutBlock
namespace Go.Proofs.YtdbghgpohdijfaaDoor
open Go.RowKit Go.Scr Go.ChangeMaps Go.MapKept
set_option linter.unusedVariables false
set_option maxRecDepth 100000 in
set_option maxHeartbeats 2000000 in
theorem fend_any (b l : Nat) (s : ByteArray) (w : World) (hb : b ≤ 1099511627776) (hl : l ≤ 40) :
    Calls Tryd.prog 135 #[.agg #[.int .i64 (b : Int), .int .i64 (l : Int), .string s]] w fun o w' => o = .returned (.int .i64 ((b + 2 ^ l : Nat) : Int)) ∧ Below w.heap.size w w' := by
  obtain ⟨q, hq⟩ : ∃ q, q = 2 ^ l := ⟨_, rfl⟩
  have hq40 : q ≤ 1099511627776 := by rw [hq]; exact Nat.le_trans (two_le hl) (by decide)
  have hqI : (2 : Int) ^ l = (q : Int) := by rw [hq]; simp
  rw [← hq]
  obtain ⟨w2, hw2⟩ : ∃ y, y = w.alloc (.cells #[.int .i64 (b : Int), .int .i64 (l : Int), .string s] 115) := ⟨_, rfl⟩
  have HBE : Hid (Below w.heap.size w w2) := Lib.hid (by rw [hw2]; exact (Below.refl _ _).alloc (Nat.le_refl _) _)
  obtain ⟨sb, hsb⟩ : ∃ y, y = w.heap.size := ⟨_, rfl⟩
  have hbx : w2.heap[sb]? = some (.cells #[.int .i64 (b : Int), .int .i64 (l : Int), .string s] 115 (0, 0)) := by rw [hw2, hsb]; exact heap_alloc_new w _
  have HSZ := Lib.hid hsb
  have HW2 := Lib.hid hw2
  have c0 : w2.cell? ⟨sb, 0, none⟩ = some (.int .i64 (b : Int)) := cellB hbx rfl
  have c1 : w2.cell? ⟨sb, 1, none⟩ = some (.int .i64 (l : Int)) := cellB hbx rfl
  have hqw : IntKind.i64.wrap (q : Int) = (q : Int) := IntWalk.i64_in _ (by omega)
  obtain ⟨r, hr⟩ : ∃ r, r = b + q := ⟨_, rfl⟩
  have hsum : (b : Int) + (q : Int) = (r : Int) := by omega
  have hsw : IntKind.i64.wrap (r : Int) = (r : Int) := IntWalk.i64_in _ (by omega)
  rw [← hr]
  clear hr
  have hl0 : ¬ (l : Int) < 0 := by omega
  clear hq hbx hsb hw2 hq40 hb
  go_enter Tryd.func135, Tryd.ntmps135
  go_upto_region 1 with fail
  rw [← HW2.out, ← HSZ.out]
  go_quiet (fail)
  go_wp2
  go_ret
  exact ⟨rfl, below_drewN HBE.out _⟩
end Go.Proofs.YtdbghgpohdijfaaDoor
/- cut, filled, Load: walked. -/
namespace Go.Proofs.YtdbghgpohdijfaaDoor
open Go.RowKit Go.Scr Go.ChangeMaps Go.MapKept
set_option linter.unusedVariables false
/-- what stands in the cutting loop -/
structure CuI (w wr : World) (b0 b e n : Nat) (v : Value) : Prop where
  ex : ∃ P, P.length = n ∧ P ++ bareA b e = bareA b0 e ∧ PcI w wr v P
theorem CuI.b {w wr : World} {b0 b e n : Nat} {v : Value} (h : CuI w wr b0 b e n v) : Below w.heap.size w wr := by
  obtain ⟨P, _, _, h3⟩ := h.ex
  exact h3.b
theorem CuI.lt {w wr : World} {b0 b e n : Nat} {v : Value} (h : CuI w wr b0 b e n v) {q : Nat} (hq : v.ownBlock = some q) : q < wr.heap.size := by
  obtain ⟨P, _, _, h3⟩ := h.ex
  exact h3.h.lt hq
set_option maxRecDepth 100000 in
set_option maxHeartbeats 8000000 in
theorem fcut_any {w : World} {B b0 e : Nat} (hB : Bas w B) (hbe0 : b0 ≤ e) (he : e ≤ 1099511627776) (hd : e - b0 ≤ 4096) :
    Calls Tryd.prog 126 #[.int .i64 (b0 : Int), .int .i64 (e : Int)] w fun o w' => ∃ v, o = .returned v ∧ PcI w w' v (bareA b0 e) := by
  have HB := Lib.hid hB
  have HD : Hid (e - b0 ≤ 4096) := Lib.hid hd
  have HI0 : Hid (CuI w w b0 b0 e 0 (.slice none 0 0)) := Lib.hid ⟨[], rfl, rfl, ⟨Below.refl _ _, ⟨rfl, .inl ⟨rfl, rfl⟩⟩, fun g hg => nomatch hg⟩⟩
  clear hB hd
  go_enter Tryd.func126, Tryd.ntmps126
  go_wp2_with fail
  go_loopw [0, 5] (fun k l wr => ∃ (b : Nat) (p : Option Addr) (n c : Nat), k = .int .i64 (b : Int) ∧ l = .slice p n c ∧ b0 ≤ b ∧ b ≤ e ∧ n ≤ b - b0 ∧ Hid (CuI w wr b0 b e n (.slice p n c))) (fun k _ _ => e - (intOf k).toNat)
  case atStart => exact ⟨b0, none, 0, 0, rfl, rfl, Nat.le_refl _, hbe0, Nat.zero_le _, HI0⟩
  case round =>
    clear HI0
    obtain ⟨b, p, n, c, rfl, rfl, hb0, hbe, hn, HI⟩ := hrel
    by_cases hlt : b < e
    · have hbeI : (b : Int) < (e : Int) := by omega
      have hn4 : n ≤ 4096 := by have := HD.out; omega
      obtain ⟨d, hd⟩ : ∃ d, d = e - b := ⟨_, rfl⟩
      have hdI : (e : Int) - (b : Int) = (d : Int) := by omega
      have hd1 : 1 ≤ d := by omega
      have hd4 : d ≤ 4096 := by have := HD.out; omega
      obtain ⟨k, hk, _, _⟩ := bitLen_spec d (by omega) (by omega)
      obtain ⟨bl, hbl⟩ : ∃ x, x = Lib.bitLen d := ⟨_, rfl⟩
      have hblI : (bl : Int) - 1 = (k : Int) := by omega
      have CLn : Hid (∀ w', Calls Tryd.prog 133 #[.int .u64 (d : Int)] w' fun o w2 => o = .returned (.int .i64 (bl : Int)) ∧ w2 = w') := Lib.hid (fun w' => by rw [hbl]; exact len_any d w' (by omega))
      obtain ⟨l, hl⟩ : ∃ l, l = lvA b d := ⟨_, rfl⟩
      have hle := lvA_le (b := b) hd1
      rw [← hl] at hle
      obtain ⟨b', hb'⟩ : ∃ b', b' = b + 2 ^ l := ⟨_, rfl⟩
      have hp2 := two_pos l
      have hl12 : l ≤ 12 := two_le' (by have h9 : (2 : Nat) ^ 12 = 4096 := by decide
                                        omega)
      have CEn : Hid (∀ w', Calls Tryd.prog 135 #[.agg #[.int .i64 (b : Int), .int .i64 (l : Int), .string ⟨#[]⟩]] w' fun o w2 => o = .returned (.int .i64 (b' : Int)) ∧ Below w'.heap.size w' w2) := Lib.hid (fun w' => by rw [hb']; exact fend_any b l ⟨#[]⟩ w' (by omega) (by omega))
      have HNX : Hid (b < b' ∧ b' ≤ e ∧ bareA b e = (b, l, ⟨#[]⟩) :: bareA b' e) := Lib.hid ⟨by omega, by omega, by rw [bareA_cons hlt, ← hd, ← hl, ← hb']⟩
      have HHD : Hid (∀ o, Held (wr.alloc o) 115 3 (.slice p n c) n (pcV (HI.out.ex.choose))) := Lib.hid (fun o => by
        have h1 := HI.out.ex.choose_spec
        have h2 := h1.2.2.h.below ((Below.refl _ _).alloc (Nat.le_refl _) o)
        rwa [h1.1] at h2)
      have HPU : Hid (∀ o o2 v5 w5, Grew 115 3 ((wr.alloc o).alloc o2) (.slice p n c) n 1 (pcV (HI.out.ex.choose)) [.int .i64 (b : Int), .int .i64 (l : Int), .string ⟨#[]⟩] v5 w5 → CuI w w5 b0 b' e (n + 1) v5 ∧ w5.heap[wr.heap.size]? = some o) := Lib.hid (fun o o2 v5 w5 g => by
        have h1 := HI.out.ex.choose_spec
        refine ⟨⟨HI.out.ex.choose ++ [(b, l, ⟨#[]⟩)], by rw [List.length_append, h1.1]; rfl, by rw [List.append_assoc]; show _ ++ ((b, l, ⟨#[]⟩) :: bareA b' e) = _; rw [← HNX.out.2.2]; exact h1.2.1, h1.2.2.push h1.1.symm (((Below.refl _ _).alloc (Nat.le_refl _) o).alloc (by simp) o2) g⟩, ?_⟩
        refine (g.grown.block wr.heap.size (by simp; omega) (fun e => ?_)).trans (blk_alloc (heap_alloc_new wr o))
        have := HI.out.lt e.symm
        omega)
      have HONE : Hid (∀ u ∈ [Value.int .i64 (b : Int), .int .i64 (l : Int), .string ⟨#[]⟩], u.oneCell' = true) := Lib.hid (by rw [← pcV_one (b, l, ⟨#[]⟩)]; exact pcV_oneCell _)
      have hl1 : (n + 1) * 32 ≤ 140737488355328 := by omega
      have hl2 : n + 1 ≤ 140737488355328 := by omega
      have HBW : Hid (Bas wr B) := Lib.hid (HB.out.below (HI.out.b.mono HB.out.le))
      have hk4 : k ≤ 64 := by
        have h9 := Lib.bitLen_le d 64 (by omega) (by omega)
        omega
      by_cases hz : b = 0
      · have hlk : l = k := by rw [hl, hz, lvA_zero hd1 (by omega), hk]; rfl
        subst hlk
        have hbz : ¬ (0 : Int) < (b : Int) := by omega
        have HZ := Lib.hid hz
        clear hz hlt hk hbl hl hle hb' hp2 hd hd1
        go_wp2_with (first
          | (go_at_call 133; with_reducible refine (CLn.out _).mono ?_; rintro o w' ⟨rfl, hww⟩; replace hww := hww.symm; subst hww)
          | (at_builtin; refine wpList_grew (v := .slice p n c) rfl _ _ rfl Tryd.underlying60 (.agg #[.int .i64 0, .int .i64 0, .string ⟨#[]⟩]) 3 info_pc rfl (by decide) [.int .i64 (b : Int), .int .i64 (l : Int), .string ⟨#[]⟩] 1 (by simp [Act.eval]) (by simp [Act.eval]) (HHD.out _) rfl rfl (by decide) HONE.out hl1 hl2 ?_; intro v5 w5 hg5; obtain ⟨p5, c5, rfl, _⟩ := hg5.held.cells; have h5 := HPU.out _ _ _ _ hg5; have H5 := Lib.hid h5.1; have hx := h5.2; have k0 : w5.cell? ⟨wr.heap.size, 0, none⟩ = some (.int .i64 (b : Int)) := cellB hx rfl; have k1 : w5.cell? ⟨wr.heap.size, 1, none⟩ = some (.int .i64 (l : Int)) := cellB hx rfl; have k2 : w5.cell? ⟨wr.heap.size, 2, none⟩ = some (.string ⟨#[]⟩) := cellB hx rfl; clear hg5 h5 hx)
          | (go_at_call 135; with_reducible refine (CEn.out _).mono ?_; rintro o w6 ⟨rfl, hb6⟩; have HB6 := Lib.hid hb6; clear hb6))
        have h9 := HNX.out
        exact ⟨⟨b', p5, n + 1, c5, rfl, rfl, by omega, by omega, by omega, Lib.hid (by obtain ⟨P, q1, q2, q3⟩ := H5.out.ex; exact ⟨P, q1, q2, q3.below HB6.out⟩)⟩, by show e - ((b' : Int)).toNat < e - ((b : Int)).toNat; omega⟩
      · obtain ⟨t, ht⟩ : ∃ t, t = Lib.ctz 64 b := ⟨_, rfl⟩
        have hlk : l = min k t := by rw [hl, lvA_pos hd1 (by omega) (by omega) (by omega), hk, ht]; rfl
        have hbz : (0 : Int) < (b : Int) := by omega
        have CTz : Hid (∀ w', Bas w' B → Calls Tryd.prog 134 #[.int .u64 (b : Int)] w' fun o w2 => o = .returned (.int .i64 (t : Int)) ∧ w2 = w') := Lib.hid (fun w' h => by rw [ht]; exact tz_any b w' hz (by omega) h.tz)
        by_cases htk : t < k
        · have hlt2 : l = t := by omega
          subst hlt2
          have hm1 : (l : Int) < (k : Int) := by omega
          have hm2 : ¬ (k : Int) ≤ (l : Int) := by omega
          have hm3 : ¬ (k : Int) < (l : Int) := by omega
          clear hz hlt hk hbl hl hle hb' hp2 hd hd1 hlk ht htk
          go_wp2_with (first
            | (go_at_call 133; with_reducible refine (CLn.out _).mono ?_; rintro o w' ⟨rfl, hww⟩; replace hww := hww.symm; subst hww)
            | (go_at_call 134; with_reducible refine (CTz.out _ HBW.out).mono ?_; rintro o w' ⟨rfl, hww⟩; replace hww := hww.symm; subst hww)
            | (at_builtin; refine wpList_grew (v := .slice p n c) rfl _ _ rfl Tryd.underlying60 (.agg #[.int .i64 0, .int .i64 0, .string ⟨#[]⟩]) 3 info_pc rfl (by decide) [.int .i64 (b : Int), .int .i64 (l : Int), .string ⟨#[]⟩] 1 (by simp [Act.eval]) (by simp [Act.eval]) (HHD.out _) rfl rfl (by decide) HONE.out hl1 hl2 ?_; intro v5 w5 hg5; obtain ⟨p5, c5, rfl, _⟩ := hg5.held.cells; have h5 := HPU.out _ _ _ _ hg5; have H5 := Lib.hid h5.1; have hx := h5.2; have k0 : w5.cell? ⟨wr.heap.size, 0, none⟩ = some (.int .i64 (b : Int)) := cellB hx rfl; have k1 : w5.cell? ⟨wr.heap.size, 1, none⟩ = some (.int .i64 (l : Int)) := cellB hx rfl; have k2 : w5.cell? ⟨wr.heap.size, 2, none⟩ = some (.string ⟨#[]⟩) := cellB hx rfl; clear hg5 h5 hx)
            | (go_at_call 135; with_reducible refine (CEn.out _).mono ?_; rintro o w6 ⟨rfl, hb6⟩; have HB6 := Lib.hid hb6; clear hb6))
          have h9 := HNX.out
          exact ⟨⟨b', p5, n + 1, c5, rfl, rfl, by omega, by omega, by omega, Lib.hid (by obtain ⟨P, q1, q2, q3⟩ := H5.out.ex; exact ⟨P, q1, q2, q3.below HB6.out⟩)⟩, by show e - ((b' : Int)).toNat < e - ((b : Int)).toNat; omega⟩
        · have hlt2 : l = k := by omega
          subst hlt2
          have hm1 : ¬ (t : Int) < (l : Int) := by omega
          have hm2 : (l : Int) ≤ (t : Int) := by omega
          clear hz hlt hk hbl hl hle hb' hp2 hd hd1 hlk ht htk
          go_wp2_with (first
            | (go_at_call 133; with_reducible refine (CLn.out _).mono ?_; rintro o w' ⟨rfl, hww⟩; replace hww := hww.symm; subst hww)
            | (go_at_call 134; with_reducible refine (CTz.out _ HBW.out).mono ?_; rintro o w' ⟨rfl, hww⟩; replace hww := hww.symm; subst hww)
            | (at_builtin; refine wpList_grew (v := .slice p n c) rfl _ _ rfl Tryd.underlying60 (.agg #[.int .i64 0, .int .i64 0, .string ⟨#[]⟩]) 3 info_pc rfl (by decide) [.int .i64 (b : Int), .int .i64 (l : Int), .string ⟨#[]⟩] 1 (by simp [Act.eval]) (by simp [Act.eval]) (HHD.out _) rfl rfl (by decide) HONE.out hl1 hl2 ?_; intro v5 w5 hg5; obtain ⟨p5, c5, rfl, _⟩ := hg5.held.cells; have h5 := HPU.out _ _ _ _ hg5; have H5 := Lib.hid h5.1; have hx := h5.2; have k0 : w5.cell? ⟨wr.heap.size, 0, none⟩ = some (.int .i64 (b : Int)) := cellB hx rfl; have k1 : w5.cell? ⟨wr.heap.size, 1, none⟩ = some (.int .i64 (l : Int)) := cellB hx rfl; have k2 : w5.cell? ⟨wr.heap.size, 2, none⟩ = some (.string ⟨#[]⟩) := cellB hx rfl; clear hg5 h5 hx)
            | (go_at_call 135; with_reducible refine (CEn.out _).mono ?_; rintro o w6 ⟨rfl, hb6⟩; have HB6 := Lib.hid hb6; clear hb6))
          have h9 := HNX.out
          exact ⟨⟨b', p5, n + 1, c5, rfl, rfl, by omega, by omega, by omega, Lib.hid (by obtain ⟨P, q1, q2, q3⟩ := H5.out.ex; exact ⟨P, q1, q2, q3.below HB6.out⟩)⟩, by show e - ((b' : Int)).toNat < e - ((b : Int)).toNat; omega⟩
    · obtain rfl : b = e := by omega
      have hbeI : ¬ (b : Int) < (b : Int) := by omega
      clear hlt
      go_wp2_with fail
      go_ret
      obtain ⟨P, _, h2, h3⟩ := HI.out.ex
      rw [bareA_nil (Nat.le_refl _), List.append_nil] at h2
      rw [← h2]
      exact ⟨_, rfl, h3⟩
end Go.Proofs.YtdbghgpohdijfaaDoor
