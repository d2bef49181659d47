/- The law 4's helpers, walked: turned. -/
import Derived.Test.YtmlekeegmdpjkaaDoorL4e
namespace Go.Proofs.YtmlekeegmdpjkaaDoor
open Go.RowKit Go.Scr
set_option linter.unusedVariables false

def turnL (L : List ByteArray) : List ByteArray := match L.reverse with
  | [] => []
  | x :: t => hashS x :: t
theorem turnL_length (L : List ByteArray) : (turnL L).length = L.length := by
  unfold turnL
  have : L.reverse.length = L.length := List.length_reverse
  cases h : L.reverse with
  | nil => rw [h] at this; simpa using this
  | cons a t => rw [h] at this; simpa using this
theorem drop_rev {L : List ByteArray} {j : Nat} {s : ByteArray} (h : L[j]? = some s) : (L.drop j).reverse = (L.drop (j + 1)).reverse ++ [s] := by
  obtain ⟨hj, rfl⟩ := List.getElem?_eq_some_iff.mp h
  rw [List.drop_eq_getElem_cons hj, List.reverse_cons]

set_option maxRecDepth 100000 in
set_option maxHeartbeats 1000000 in
theorem turned4_any (v : Value) (L : List ByteArray) (w : World) (hv : Txts w v L) (hl : L.length ≤ 1048576) (hs : ∀ s ∈ L, s.size ≤ 1048576) :
    Calls Tryd.prog 66 #[v] w fun e w' => ∃ x, e = .returned x ∧ w'.ownsRow w.heap.size 9 1 x L.length ((turnL L).map Value.string) ∧ Below w.heap.size w w' := by
  have HV0 := Lib.hid hv
  have HS := Lib.hid hs
  obtain ⟨p, c, rfl, hv1, hv2, hv3⟩ := hv
  obtain ⟨n, hm⟩ : ∃ n, n = L.length := ⟨_, rfl⟩
  rw [← hm] at hv1 hv2 hl HV0 ⊢
  have HM := Lib.hid hm
  have HV := Lib.hid hv3
  clear hm hv3 hs
  go_enter Tryd.func66, Tryd.ntmps66
  obtain ⟨F, hF⟩ : ∃ F, F = w.heap.size := ⟨_, rfl⟩
  have HF := Lib.hid hF
  rw [← hF]
  clear hF
  go_wp2
  go_loopw [3, 4] (fun x q wr => ∃ j k : Nat, Hid (j + k = n) ∧ q = .int .i64 ((j : Int) - 1) ∧ wr.ownsRow F 9 1 x k (((L.drop j).reverse).map Value.string) ∧ Below F w wr) (fun _ q _ => (intOf q + 1).toNat)
  case atStart => exact ⟨n, 0, Lib.hid (by omega), rfl, by rw [HM.out, List.drop_length]; exact World.ownsRow_nil w F 9 1, Below.refl _ _⟩
  case round =>
    obtain ⟨j, k, hjk, rfl, hown, hbel⟩ := hrel
    have HOWN := Lib.hid hown
    have HBEL := Lib.hid hbel
    have HSZ := Lib.hid (show F ≤ wr.heap.size by have := hbel.size; have := HF.out; omega)
    have hFw : w.heap.size ≤ F := by have := HF.out; omega
    clear hown hbel
    by_cases hj : 0 < j
    · obtain ⟨i, rfl⟩ : ∃ i, j = i + 1 := ⟨j - 1, by omega⟩
      have hii : ((i + 1 : Nat) : Int) - 1 = (i : Int) := by omega
      have hin : i < n := by have := hjk.out; omega
      rw [hii]
      obtain ⟨s, hs⟩ : ∃ s, L[i]? = some s := ⟨L[i]'(by rw [← HM.out]; exact hin), List.getElem?_eq_getElem _⟩
      obtain ⟨a, rfl, hc⟩ := HV.out i s hs
      have hc1 : wr.cell? (a.add i) = some (.string s) := (HBEL.out.cell (by have := block_lt_of_cell hc; have := HF.out; omega)).trans hc
      have HX := Lib.hid (by rw [drop_rev hs, List.map_append] : ((L.drop i).reverse).map Value.string = ((L.drop (i + 1)).reverse).map Value.string ++ [s].map Value.string)
      have hi0 : (0 : Int) ≤ (i : Int) := by omega
      have hini : (i : Int) < (n : Int) := by omega
      have hk0 : 0 < k + 1 := by omega
      have hk1 : (k + 1) * 16 ≤ 140737488355328 := by have := hjk.out; omega
      have hk2 : k + 1 ≤ 140737488355328 := by omega
      have HJK := Lib.hid hjk.out
      have hib : i ≤ 1048576 := by omega
      clear hs hc hii hj hjk
      go_wp2_with (at_builtin; refine wpList_appendV rfl _ _ rfl Tryd.underlying27 (.string ⟨#[]⟩) 1 info_str rfl (by decide) ([s].map Value.string) 1 (k + 1) rfl rfl HOWN.out rfl rfl (str_one _) HBEL.out (Nat.le_refl _) HSZ.out rfl hk0 hk1 hk2 ?_; intro g' c' w5 hg' hown' hb' hsz' hgr'; have HOWN3 := Lib.hid hown'; have HBEL3 := Lib.hid hb'; clear hown' hb' hsz' hgr' hg')
      exact ⟨⟨i, k + 1, Lib.hid (by have := HJK.out; omega), rfl, by rw [HX.out]; exact HOWN3.out, HBEL3.out⟩, (by show ((i : Int) - 1 + 1).toNat < ((i : Int) + 1).toNat; omega)⟩
    · have hj0 : j = 0 := by omega
      subst hj0
      have hkn : k = n := by have := hjk.out; omega
      have hlt : ¬ ((0 : Int) ≤ ((0 : Nat) : Int) - 1) := by omega
      subst hkn
      rw [List.drop_zero] at HOWN
      cases hL : L.reverse with
      | nil =>
        have hn0 : k = 0 := by rw [HM.out, ← List.length_reverse, hL]; rfl
        have HT0 := Lib.hid (by have := HOWN.out; rw [hL] at this; rw [show turnL L = [] by unfold turnL; rw [hL]]; exact this : wr.ownsRow F 9 1 u3 k ((turnL L).map Value.string))
        rcases HOWN.out.2 with ⟨rfl, h0⟩ | ⟨g, cap, cur, rfl, _⟩
        · clear hj hjk hn0 h0
          go_wp2
          go_ret
          exact ⟨.slice none 0 0, rfl, HT0.out, HBEL.out⟩
        · have hk0 : ¬ ((0 : Int) < (k : Int)) := by omega
          clear hj hjk hn0
          go_wp2
          go_ret
          exact ⟨_, rfl, HT0.out, HBEL.out⟩
      | cons x t =>
        have hn0 : 0 < k := by rw [HM.out, ← List.length_reverse, hL]; simp
        rw [hL] at HOWN
        obtain ⟨g, cap, rfl⟩ : ∃ g cap, u3 = .slice (some ⟨g, 0, none⟩) k cap := by
          rcases HOWN.out.2 with ⟨_, h⟩ | ⟨g, cap, cur, h, _⟩
          · omega
          · exact ⟨g, cap, h⟩
        have hc0 : wr.cell? ⟨g, 0, none⟩ = some (.string x) := by rw [owns_cell HOWN.out hn0]; rfl
        have hfz : wr.frozen? ⟨g, 0, none⟩ = false := owns_slot HOWN.out
        have hk0 : (0 : Int) < (k : Int) := by omega
        have hxs : x.size ≤ 1048576 := HS.out x (List.mem_reverse.mp (by rw [hL]; exact List.mem_cons_self))
        have HC := Lib.hid (fun w' => hash4_any x w' (by omega))
        have hgl := (owns_blk HOWN.out).2.1
        have HGB := Lib.hid (owns_blk HOWN.out).1
        have HT := Lib.hid (by unfold turnL; rw [hL]; rfl : (turnL L).map Value.string = ((x :: t).map Value.string).set 0 (.string (hashS x)))
        have HGL := Lib.hid hgl
        clear hj hjk hL hn0 hxs hgl
        go_wp2_with (go_at_call 22; with_reducible refine (HC.out _).mono ?_; rintro r w2 ⟨rfl, hb⟩; have HBEL2 := Lib.hid (below_from HBEL.out hb HSZ.out); have HOWN2 := Lib.hid (owns_below HOWN.out hb (Nat.le_refl _)); have hc2 := (hb.cell (p := ⟨g, 0, none⟩) HGL.out).trans hc0; have hf2 := (hb.frozen (p := ⟨g, 0, none⟩) HGL.out).trans hfz; have HSZ2 := Lib.hid (Nat.le_trans HSZ.out hb.size); clear hb)
        go_ret
        exact ⟨_, rfl, by rw [HT.out]; exact owns_set HOWN2.out _, HBEL2.out.trans (step_below _ HGB.out HSZ2.out)⟩
end Go.Proofs.YtmlekeegmdpjkaaDoor
