/- Law 5: two leaves are their node. -/
import Derived.Test.YtdbghgpohdijfaaDoorMa34
import Derived.Test.YtdbghgpohdijfaaDoorMa31
import Derived.Test.YtdbghgpohdijfaaDoorMa26
namespace Go.Proofs.YtdbghgpohdijfaaDoor
open Go.RowKit Go.Scr Go.ChangeMaps Go.MapKept
set_option linter.unusedVariables false
theorem EdU.add {W w : World} {eb : Nat} {L : List ByteArray} {x : ByteArray} (H : EdU W w eb L) (hB : Bas W W.heap.size) (hx : x.size = 32) (hn : L.length < 4096) :
    Calls Tryd.prog 44 #[.pointer (some ⟨eb, 0, none⟩), .string x] w fun o w' => o = .returned (.int .i64 0) ∧ EdU W w' eb (L ++ [x]) := by
  obtain ⟨v, h⟩ := H
  refine (fadd_any h hB hx hn).mono ?_
  rintro o w' ⟨rfl, v', h', _⟩
  exact ⟨rfl, v', h'⟩
theorem lf_one {w wr : World} {v : Value} {s : ByteArray} (H : LfI w wr v 1 [s]) : ∃ g c, v = .slice (some ⟨g, 0, none⟩) 1 c ∧ ∀ w', Below wr.heap.size wr w' → w'.cell? ⟨g, 0, none⟩ = some (.string s) := by
  obtain ⟨p, c, rfl, _, _, hc⟩ := H.h.cells
  obtain ⟨a, ha, hsp, hcell⟩ := hc 0 (.string s) rfl
  rcases H.h.2 with ⟨e, h0⟩ | ⟨g, cap, cur, e, _⟩
  · exact absurd h0 (by decide)
  · injection e with e1 e2 e3
    subst e1
    injection ha with ha
    subst ha
    have hadd : (⟨g, 0, none⟩ : Addr).add 0 = ⟨g, 0, none⟩ := by unfold Addr.add; split <;> simp_all
    rw [hadd] at hcell
    exact ⟨g, c, rfl, fun w' hb => (hb.cell (block_lt_of_cell hcell)).trans hcell⟩
set_option maxRecDepth 100000 in
set_option maxHeartbeats 4000000 in
theorem known5_any {W : World} (hB : Bas W W.heap.size) :
    Calls Tryd.prog 21 #[] W fun o w' => o = .returned (.bool true) ∧ Below W.heap.size W w' := by
  obtain ⟨a, ha⟩ : ∃ a, a = leafSU 1 := ⟨_, rfl⟩
  obtain ⟨b, hb⟩ : ∃ b, b = leafSU 2 := ⟨_, rfl⟩
  have has : a.size = 32 := by rw [ha]; exact leafSU_size 1
  have hbs : b.size = 32 := by rw [hb]; exact leafSU_size 2
  have CL1 : Hid (∀ w, Calls Tryd.prog 48 #[.int .i64 1] w fun e w' => e = .returned (.string a) ∧ Below w.heap.size w w') := Lib.hid (fun w => by rw [ha]; exact leafU_any 1 w)
  have CL2 : Hid (∀ w, Calls Tryd.prog 48 #[.int .i64 2] w fun e w' => e = .returned (.string b) ∧ Below w.heap.size w w') := Lib.hid (fun w => by rw [hb]; exact leafU_any 2 w)
  obtain ⟨n, hn⟩ : ∃ n, n = nodeS a b := ⟨_, rfl⟩
  have CND : Hid (∀ w, Bas w W.heap.size → Calls Tryd.prog 70 #[.string a, .string b] w fun e w' => e = .returned (.tuple #[.string n, .int .i64 0]) ∧ Below w.heap.size w w') := Lib.hid (fun w hw => by
    have := dnode_any a b w hw.tabs
    rw [show nodeE a b = 0 from if_pos ⟨has, hbs⟩] at this
    rw [hn]
    exact this)
  have CA1 : Hid (∀ w tb, EdU W w tb [] → Calls Tryd.prog 44 #[.pointer (some ⟨tb, 0, none⟩), .string a] w fun o w' => o = .returned (.int .i64 0) ∧ EdU W w' tb [a]) := Lib.hid (fun w tb h => h.add hB has (by simp))
  have CA2 : Hid (∀ w tb, EdU W w tb [a] → Calls Tryd.prog 44 #[.pointer (some ⟨tb, 0, none⟩), .string b] w fun o w' => o = .returned (.int .i64 0) ∧ EdU W w' tb [a, b]) := Lib.hid (fun w tb h => h.add hB hbs (by simp))
  have CR : Hid (∀ w tb, EdU W w tb [a, b] → Calls Tryd.prog 27 #[rowP tb] w fun o w' => o = .returned (.string n) ∧ Below w.heap.size w w') := Lib.hid (fun w tb h => by
    have := h.root (hB.below h.b).tabs
    rw [show partL [a, b] 0 [a, b].length = n by rw [hn]; exact partL_pairF] at this
    exact this)
  have CNO : Hid (∀ w tb, EdU W w tb [a, b] → Calls Tryd.prog 24 #[rowP tb] w fun o w' => ∃ v, o = .returned v ∧ LfI w w' v 1 [n]) := Lib.hid (fun w tb h => by
    have := fnodes_any h
    rw [show nodesA (valF [a, b] 0) 0 [a, b].length = [n] by rw [hn, ← partL_pairF]; exact nodesA_two a b] at this
    exact this)
  have CS : Hid (∀ w tb, EdU W w tb [a, b] → Calls Tryd.prog 46 #[.pointer (some ⟨tb, 0, none⟩)] w fun o w' => o = .returned (.int .i64 2) ∧ w' = w) := Lib.hid (fun w tb h => fsize_any h)
  have HB := Lib.hid hB
  clear ha hb hn hB has hbs
  go_enter Tryd.func21, Tryd.ntmps21
  go_upto_region 5 with (first
    | (go_at_call 43; with_reducible refine (fnew_any (Below.refl _ W)).mono ?_; rintro o w1 ⟨tb, rfl, h⟩; have H1 := Lib.hid h; clear h)
    | (go_at_call 48; with_reducible refine (CL1.out _).mono ?_; rintro o w2 ⟨rfl, h⟩; have H2 := Lib.hid (H1.out.below h); clear h)
    | (go_at_call 44; with_reducible refine (CA1.out _ _ H2.out).mono ?_; rintro o w3 ⟨rfl, h⟩; have H3 := Lib.hid h; clear h))
  go_upto_region 6 with (first
    | (go_at_call 48; with_reducible refine (CL2.out _).mono ?_; rintro o w4 ⟨rfl, h⟩; have H4 := Lib.hid (H3.out.below h); clear h)
    | (go_at_call 44; with_reducible refine (CA2.out _ _ H4.out).mono ?_; rintro o w5 ⟨rfl, h⟩; have H5 := Lib.hid h; clear h))
  go_wp2_with (first
    | (go_at_call 48; with_reducible refine (CL1.out _).mono ?_; rintro o w6 ⟨rfl, h⟩; have H6 := Lib.hid (H5.out.below h); clear h)
    | (go_at_call 48; with_reducible refine (CL2.out _).mono ?_; rintro o w7 ⟨rfl, h⟩; have H7 := Lib.hid (H6.out.below h); clear h)
    | (go_at_call 70; with_reducible refine (CND.out _ (HB.out.below H7.out.b)).mono ?_; rintro o w8 ⟨rfl, h⟩; have H8 := Lib.hid (H7.out.below h); clear h)
    | (go_at_call 24; with_reducible refine (CNO.out _ _ H8.out).mono ?_; rintro o w9 ⟨v9, rfl, h⟩; obtain ⟨g9, c9, rfl, hc⟩ := lf_one h; have k9 := hc w9 (Below.refl _ _); have H9 := Lib.hid (H8.out.below h.b); clear h hc)
    | (go_at_call 46; with_reducible refine (CS.out _ _ H9.out).mono ?_; rintro o w' ⟨rfl, hww⟩; replace hww := hww.symm; subst hww)
    | (go_at_call 27; with_reducible refine (CR.out _ _ H9.out).mono ?_; rintro o wa ⟨rfl, h⟩; have HA := Lib.hid (H9.out.below h); clear h))
  go_ret
  exact ⟨by simp, HA.out.b⟩
end Go.Proofs.YtdbghgpohdijfaaDoor
