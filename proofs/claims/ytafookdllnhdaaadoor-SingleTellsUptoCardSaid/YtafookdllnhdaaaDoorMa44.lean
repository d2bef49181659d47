/- Inclusion and Consistency of any numbers, of the document and of the program: one answer: walked. -/
import Derived.Test.YtafookdllnhdaaaDoorMa43
import Derived.Test.YtafookdllnhdaaaDoorMa38
import Derived.Test.YtafookdllnhdaaaDoorMa39
namespace Go.Proofs.YtafookdllnhdaaaDoor
open Go.RowKit Go.Scr Go.ChangeMaps Go.MapKept
set_option linter.unusedVariables false
def inS (L : List ByteArray) (z i : Int) : Int × List ByteArray := if z < 0 ∨ (L.length : Int) < z then (111, []) else if i < 0 ∨ z ≤ i then (110, []) else (0, pathR i.toNat (L.take z.toNat))
def coS (L : List ByteArray) (f z : Int) : Int × List ByteArray := if z < 0 ∨ (L.length : Int) < z ∨ f < 1 ∨ z < f then (111, []) else (0, proofR f.toNat (L.take z.toNat) true)
/-- a list and an error come out, the list is new -/
def LsO (w : World) (E : Int) (P : List ByteArray) (o : Ending) (w' : World) : Prop := ∃ p c, o = .returned (.tuple #[.slice p P.length c, .int .i64 E]) ∧ LfI w w' (.slice p P.length c) P.length P
theorem lsO_none (w : World) (E : Int) : LsO w E [] (.returned (.tuple #[.slice none 0 0, .int .i64 E])) w := ⟨none, 0, rfl, Below.refl _ _, ⟨rfl, .inl ⟨rfl, rfl⟩⟩, fun g hg => nomatch hg⟩
theorem lf_owns {w w' : World} {v : Value} {P : List ByteArray} (h : w'.ownsRow w.heap.size 9 1 v P.length (P.map Value.string)) (hb : Below w.heap.size w w') : ∃ p c, v = .slice p P.length c ∧ LfI w w' (.slice p P.length c) P.length P := by
  have hh := held_of_owns h
  obtain ⟨p, c, rfl, _⟩ := hh.cells
  refine ⟨p, c, rfl, hb, hh, fun g hg => ?_⟩
  rcases h.2 with ⟨e, _⟩ | ⟨g', cap, cur, e, hB, _⟩
  · rw [e] at hg; cases hg
  · rw [e] at hg; cases hg; exact hB
set_option maxRecDepth 100000 in
set_option maxHeartbeats 4000000 in
theorem incl11_any {w : World} {xb : Nat} {L : List ByteArray} {v : Value} (h : D7I w xb 1 L v) (z i : Int) :
    Calls Tryd.prog 20 #[.pointer (some ⟨xb, 0, none⟩), .int .i64 z, .int .i64 i] w (LsO w (inS L z i).1 (inS L z i).2) := by
  obtain ⟨n, hn⟩ : ∃ n, n = L.length := ⟨_, rfl⟩
  have c1 : w.cell? ⟨xb, 1, none⟩ = some v := cellB h.box rfl
  obtain ⟨p, c, rfl, _⟩ := h.tx
  rw [← hn] at c1
  have HH := Lib.hid h
  by_cases hz0 : z < 0
  · have hr : inS L z i = (111, []) := if_pos (.inl hz0)
    rw [hr]
    clear h hn hr
    go_enter Tryd.func20, Tryd.ntmps20
    go_wp2
    go_ret2
    exact lsO_none _ _
  by_cases hz1 : (n : Int) < z
  · have hr : inS L z i = (111, []) := if_pos (.inr (by rw [← hn]; exact hz1))
    rw [hr]
    clear h hn hr
    go_enter Tryd.func20, Tryd.ntmps20
    go_wp2
    go_ret2
    exact lsO_none _ _
  have hz2 : ¬ (z < 0 ∨ (L.length : Int) < z) := by rw [← hn]; omega
  by_cases hi0 : i < 0
  · have hr : inS L z i = (110, []) := by unfold inS; rw [if_neg hz2, if_pos (.inl hi0)]
    rw [hr]
    clear h hn hr hz2
    go_enter Tryd.func20, Tryd.ntmps20
    go_wp2
    go_ret2
    exact lsO_none _ _
  by_cases hi1 : z ≤ i
  · have hr : inS L z i = (110, []) := by unfold inS; rw [if_neg hz2, if_pos (.inr hi1)]
    rw [hr]
    clear h hn hr hz2
    go_enter Tryd.func20, Tryd.ntmps20
    go_wp2
    go_ret2
    exact lsO_none _ _
  · have hr : inS L z i = (0, pathR i.toNat (L.take z.toNat)) := by unfold inS; rw [if_neg hz2, if_neg (by omega)]
    rw [hr]
    obtain ⟨zn, rfl⟩ : ∃ zn : Nat, z = zn := ⟨z.toNat, by omega⟩
    obtain ⟨k, rfl⟩ : ∃ k : Nat, i = k := ⟨i.toNat, by omega⟩
    rw [Int.toNat_natCast, Int.toNat_natCast]
    obtain ⟨P, hP⟩ : ∃ P, P = pathR k (L.take zn) := ⟨_, rfl⟩
    have HP : Hid (Calls Tryd.prog 52 #[.pointer (some ⟨xb, 0, none⟩), .int .i64 (k : Int), .int .i64 0, .int .i64 (zn : Int)] w fun o w' => ∃ x, o = .returned x ∧ w'.ownsRow w.heap.size 9 1 x P.length (P.map Value.string) ∧ Below w.heap.size w w') := Lib.hid (by
      have := path11_any zn 0 k w h (Nat.zero_le _) (by omega) (by omega) zn (by omega)
      rw [Nat.sub_zero, List.drop_zero, ← hP] at this
      exact this)
    rw [← hP]
    clear h hn hr hz2 hP
    go_enter Tryd.func20, Tryd.ntmps20
    go_wp2_with (go_at_call 52; (with_reducible refine HP.out.mono ?_); rintro o w2 ⟨x, rfl, h1, h2⟩; obtain ⟨p2, c2, rfl, h3⟩ := lf_owns h1 h2; have HL := Lib.hid h3; clear h1 h2 h3)
    go_ret2
    exact ⟨p2, c2, rfl, HL.out⟩
set_option maxRecDepth 100000 in
set_option maxHeartbeats 4000000 in
theorem cons11_any {w : World} {xb : Nat} {L : List ByteArray} {v : Value} (h : D7I w xb 1 L v) (f z : Int) :
    Calls Tryd.prog 21 #[.pointer (some ⟨xb, 0, none⟩), .int .i64 f, .int .i64 z] w (LsO w (coS L f z).1 (coS L f z).2) := by
  obtain ⟨n, hn⟩ : ∃ n, n = L.length := ⟨_, rfl⟩
  have c1 : w.cell? ⟨xb, 1, none⟩ = some v := cellB h.box rfl
  obtain ⟨p, c, rfl, _⟩ := h.tx
  rw [← hn] at c1
  by_cases hz0 : z < 0
  · have hr : coS L f z = (111, []) := if_pos (.inl hz0)
    rw [hr]
    clear h hn hr
    go_enter Tryd.func21, Tryd.ntmps21
    go_wp2
    go_ret2
    exact lsO_none _ _
  by_cases hz1 : (n : Int) < z
  · have hr : coS L f z = (111, []) := if_pos (.inr (.inl (by rw [← hn]; exact hz1)))
    rw [hr]
    clear h hn hr
    go_enter Tryd.func21, Tryd.ntmps21
    go_wp2
    go_ret2
    exact lsO_none _ _
  by_cases hi0 : f < 1
  · have hr : coS L f z = (111, []) := if_pos (.inr (.inr (.inl hi0)))
    rw [hr]
    clear h hn hr
    go_enter Tryd.func21, Tryd.ntmps21
    go_wp2
    go_ret2
    exact lsO_none _ _
  by_cases hi1 : z < f
  · have hr : coS L f z = (111, []) := if_pos (.inr (.inr (.inr hi1)))
    rw [hr]
    clear h hn hr
    go_enter Tryd.func21, Tryd.ntmps21
    go_wp2
    go_ret2
    exact lsO_none _ _
  · have hr : coS L f z = (0, proofR f.toNat (L.take z.toNat) true) := if_neg (by rw [← hn]; omega)
    rw [hr]
    obtain ⟨zn, rfl⟩ : ∃ zn : Nat, z = zn := ⟨z.toNat, by omega⟩
    obtain ⟨k, rfl⟩ : ∃ k : Nat, f = k := ⟨f.toNat, by omega⟩
    rw [Int.toNat_natCast, Int.toNat_natCast]
    obtain ⟨P, hP⟩ : ∃ P, P = proofR k (L.take zn) true := ⟨_, rfl⟩
    have HP : Hid (Calls Tryd.prog 53 #[.pointer (some ⟨xb, 0, none⟩), .int .i64 (k : Int), .int .i64 0, .int .i64 (zn : Int), .bool true] w fun o w' => ∃ x, o = .returned x ∧ w'.ownsRow w.heap.size 9 1 x P.length (P.map Value.string) ∧ Below w.heap.size w w') := Lib.hid (by
      have := proof11_any zn 0 k true w h (by omega) (by omega) (by omega) zn (by omega)
      rw [List.drop_zero, ← hP] at this
      exact this)
    rw [← hP]
    clear h hn hr hP
    go_enter Tryd.func21, Tryd.ntmps21
    go_wp2_with (go_at_call 53; (with_reducible refine HP.out.mono ?_); rintro o w2 ⟨x, rfl, h1, h2⟩; obtain ⟨p2, c2, rfl, h3⟩ := lf_owns h1 h2; have HL := Lib.hid h3; clear h1 h2 h3)
    go_ret2
    exact ⟨p2, c2, rfl, HL.out⟩
end Go.Proofs.YtafookdllnhdaaaDoor
/- single's Inclusion and Consistency of any numbers: walked. -/
namespace Go.Proofs.YtafookdllnhdaaaDoor
open Go.RowKit Go.Scr Go.ChangeMaps Go.MapKept
set_option linter.unusedVariables false
theorem alI_ls {w w' : World} {L P : List ByteArray} {C : List (Nat × Nat)} {v : Value} (h : AlI w w' L C C.length v) (hP : P = partsL L C) : ∃ p c, v = .slice p P.length c ∧ LfI w w' (.slice p P.length c) P.length P := by
  have hl : P.length = C.length := by rw [hP]; unfold partsL; rw [List.length_map]
  have hd := h.hd
  obtain ⟨p, c, rfl, _⟩ := hd.cells
  refine ⟨p, c, by rw [hl], h.b, ?_, fun g hg => h.ow g (by rw [← hl]; exact hg)⟩
  rw [hl, hP]
  rw [List.take_of_length_le (Nat.le_refl _)] at hd
  exact hd
set_option maxRecDepth 100000 in
set_option maxHeartbeats 4000000 in
theorem sincl_any {w : World} {B tb h : Nat} {L : List ByteArray} {ca : Col} (t : TreeU w B tb h L ca) (hB : Bas w B) (hL : L.length ≤ 4096) (z i : Int) :
    Calls Tryd.prog 22 #[bpT tb, .int .i64 z, .int .i64 i] w (LsO w (inS L z i).1 (inS L z i).2) := by
  obtain ⟨n, hn⟩ : ∃ n, n = L.length := ⟨_, rfl⟩
  have CS := Lib.hid (size_any t.t)
  rw [← hn] at CS
  by_cases hz0 : z < 0
  · have hr : inS L z i = (111, []) := if_pos (.inl hz0)
    rw [hr]
    clear t hB hL hn hr
    go_enter Tryd.func22, Tryd.ntmps22
    go_wp2
    go_ret2
    exact lsO_none _ _
  by_cases hz1 : (n : Int) < z
  · have hr : inS L z i = (111, []) := if_pos (.inr (by rw [← hn]; exact hz1))
    rw [hr]
    clear t hB hL hn hr
    go_enter Tryd.func22, Tryd.ntmps22
    go_wp2_with (go_at_call 11; refine CS.out.mono ?_; rintro o w' ⟨rfl, hww⟩; replace hww := hww.symm; subst hww)
    go_ret2
    exact lsO_none _ _
  have hz2 : ¬ (z < 0 ∨ (L.length : Int) < z) := by rw [← hn]; omega
  by_cases hi0 : i < 0
  · have hr : inS L z i = (110, []) := by unfold inS; rw [if_neg hz2, if_pos (.inl hi0)]
    rw [hr]
    clear t hB hL hn hr hz2
    go_enter Tryd.func22, Tryd.ntmps22
    go_wp2_with (go_at_call 11; refine CS.out.mono ?_; rintro o w' ⟨rfl, hww⟩; replace hww := hww.symm; subst hww)
    go_ret2
    exact lsO_none _ _
  by_cases hi1 : z ≤ i
  · have hr : inS L z i = (110, []) := by unfold inS; rw [if_neg hz2, if_pos (.inr hi1)]
    rw [hr]
    clear t hB hL hn hr hz2
    go_enter Tryd.func22, Tryd.ntmps22
    go_wp2_with (go_at_call 11; refine CS.out.mono ?_; rintro o w' ⟨rfl, hww⟩; replace hww := hww.symm; subst hww)
    go_ret2
    exact lsO_none _ _
  · have hr : inS L z i = (0, pathR i.toNat (L.take z.toNat)) := by unfold inS; rw [if_neg hz2, if_neg (by omega)]
    rw [hr]
    obtain ⟨zn, rfl⟩ : ∃ zn : Nat, z = zn := ⟨z.toNat, by omega⟩
    obtain ⟨k, rfl⟩ : ∃ k : Nat, i = k := ⟨i.toNat, by omega⟩
    rw [Int.toNat_natCast, Int.toNat_natCast]
    refine (incl_at t hB (by omega) (by omega) hL).mono ?_
    rintro o w' ⟨v, rfl, ha⟩
    have hp := path_sec L zn 0 k (by omega) (by omega)
    rw [List.drop_zero] at hp
    obtain ⟨p, c, rfl, hl⟩ := alI_ls ha hp
    exact ⟨p, c, rfl, hl⟩
set_option maxRecDepth 100000 in
set_option maxHeartbeats 4000000 in
theorem scons_any {w : World} {B tb h : Nat} {L : List ByteArray} {ca : Col} (t : TreeU w B tb h L ca) (hB : Bas w B) (hL : L.length ≤ 4096) (f z : Int) :
    Calls Tryd.prog 23 #[bpT tb, .int .i64 f, .int .i64 z] w (LsO w (coS L f z).1 (coS L f z).2) := by
  obtain ⟨n, hn⟩ : ∃ n, n = L.length := ⟨_, rfl⟩
  have CS := Lib.hid (size_any t.t)
  rw [← hn] at CS
  by_cases hz0 : z < 0
  · have hr : coS L f z = (111, []) := if_pos (.inl hz0)
    rw [hr]
    clear t hB hL hn hr
    go_enter Tryd.func23, Tryd.ntmps23
    go_wp2
    go_ret2
    exact lsO_none _ _
  by_cases hz1 : (n : Int) < z
  · have hr : coS L f z = (111, []) := if_pos (.inr (.inl (by rw [← hn]; exact hz1)))
    rw [hr]
    clear t hB hL hn hr
    go_enter Tryd.func23, Tryd.ntmps23
    go_wp2_with (go_at_call 11; refine CS.out.mono ?_; rintro o w' ⟨rfl, hww⟩; replace hww := hww.symm; subst hww)
    go_ret2
    exact lsO_none _ _
  by_cases hi0 : f < 1
  · have hr : coS L f z = (111, []) := if_pos (.inr (.inr (.inl hi0)))
    rw [hr]
    clear t hB hL hn hr
    go_enter Tryd.func23, Tryd.ntmps23
    go_wp2_with (go_at_call 11; refine CS.out.mono ?_; rintro o w' ⟨rfl, hww⟩; replace hww := hww.symm; subst hww)
    go_ret2
    exact lsO_none _ _
  by_cases hi1 : z < f
  · have hr : coS L f z = (111, []) := if_pos (.inr (.inr (.inr hi1)))
    rw [hr]
    clear t hB hL hn hr
    go_enter Tryd.func23, Tryd.ntmps23
    go_wp2_with (go_at_call 11; refine CS.out.mono ?_; rintro o w' ⟨rfl, hww⟩; replace hww := hww.symm; subst hww)
    go_ret2
    exact lsO_none _ _
  · have hr : coS L f z = (0, proofR f.toNat (L.take z.toNat) true) := if_neg (by rw [← hn]; omega)
    rw [hr]
    obtain ⟨zn, rfl⟩ : ∃ zn : Nat, z = zn := ⟨z.toNat, by omega⟩
    obtain ⟨k, rfl⟩ : ∃ k : Nat, f = k := ⟨f.toNat, by omega⟩
    rw [Int.toNat_natCast, Int.toNat_natCast]
    refine (cons_at t hB (by omega) (by omega) (by omega) hL).mono ?_
    rintro o w' ⟨v, rfl, ha⟩
    have hp := proof_sec L zn 0 k (by omega) (by omega) (by omega)
    rw [List.drop_zero, show decide ((0 : Nat) = 0) = true from rfl] at hp
    obtain ⟨p, c, rfl, hl⟩ := alI_ls ha hp
    exact ⟨p, c, rfl, hl⟩
end Go.Proofs.YtafookdllnhdaaaDoor
