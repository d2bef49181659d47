/- The cache's calls Keys, Tally. -/
import Derived.Test.YthaccjjkbbkehaaCac
import Derived.OwnWalk
namespace Go.Proofs.Ythaccjjkbbkehaa
open Go.RowKit Go.Scr Go.Maps
set_option linter.unusedVariables false

theorem info_strC : (Try.prog.info? 9).map (fun i => (i.zero, i.size, i.bytes)) = some (some (.string ⟨#[]⟩), 1, 16) := by kernel_rfl
theorem str_oneC (P : List ByteArray) : ∀ u ∈ P.map Value.string, u.oneCell' = true := by
  intro u hu
  obtain ⟨x, _, rfl⟩ := List.mem_map.mp hu
  rfl
def lenOf : Value → Nat
  | .slice _ n _ => n
  | _ => 0
def ksV (L : List Ent) : List Value := (L.map Ent.key).map Value.string
set_option maxRecDepth 100000 in
set_option maxHeartbeats 1000000 in
theorem ckeys_any {w : World} {col : Nat → Nat} {κ cb n f m o : Nat} {L : List Ent} (h : Cash w col κ cb n f m o L) (hl : L.length ≤ 1048576) :
    Calls Try.prog 11 #[bp cb] w fun r w' => ∃ p c, r = .returned (.slice p L.length c) ∧ Held w' 9 1 (.slice p L.length c) L.length (ksV L) ∧ Below w.heap.size w w' := by
  obtain ⟨ob, mb, c, hC, hN, hK⟩ := h
  obtain ⟨nl, hnl⟩ : ∃ x, x = L.length := ⟨_, rfl⟩
  obtain ⟨B, hB⟩ : ∃ x, x = w.heap.size := ⟨_, rfl⟩
  obtain ⟨q0, B', hq0, hq1, _⟩ := hC.rg.head
  have hb0 : (blks L ++ [ob])[0]? = some q0 := by rw [hq0]; rfl
  have c8 := hC.c8
  have HC := Lib.hid hC
  have HNL := Lib.hid hnl
  have HB := Lib.hid hB
  have HQ := Lib.hid hb0
  rw [← hnl] at hl
  rw [← hB]
  have h0 : Held w 9 1 (.slice none 0 0) 0 (ksV (L.take 0)) := ⟨by simp [ksV], .inl ⟨rfl, rfl⟩⟩
  have H0 := Lib.hid h0
  rw [← HNL.out]
  clear hC hN hK hnl hB hq0 hb0 h0
  go_enter Try.func11, Try.ntmps11
  go_wp2_with fail
  go_loopw [3, 4] (fun out l wr => ∃ (i : Nat) (p : Option Addr) (cc b : Nat), i ≤ nl ∧ out = .slice p i cc ∧ l = bp b ∧ Hid ((blks L ++ [ob])[i]? = some b ∧ Held wr 9 1 (.slice p i cc) i (ksV (L.take i)) ∧ Below B w wr ∧ ∀ g, (Value.slice p i cc).ownBlock = some g → B ≤ g)) (fun out _ _ => nl - lenOf out)
  case atStart => exact ⟨0, none, 0, q0, by omega, rfl, rfl, Lib.hid ⟨HQ.out, H0.out, (by rw [HB.out]; exact Below.refl _ _), fun g hg => by cases hg⟩⟩
  case round =>
    clear hq1 c8
    obtain ⟨i, p, cc, b, hi, rfl, rfl, hinv⟩ := hrel
    obtain ⟨hb, hown, hbel, hbk⟩ := hinv.out
    have HBK := Lib.hid hbk
    have HBB : Hid (B ≤ wr.heap.size) := Lib.hid (by rw [HB.out]; exact hbel.size)
    have HOWN := Lib.hid hown
    have HBEL := Lib.hid hbel
    have hCr := HC.out.below (by rw [← HB.out]; exact hbel)
    have c8 := hCr.c8
    clear hinv hown hbel hbk
    by_cases hlt : i < nl
    · have hll : i < L.length := by rw [← HNL.out]; exact hlt
      obtain ⟨e, he⟩ : ∃ e, e = L[i] := ⟨_, rfl⟩
      have heL : e ∈ L := by rw [he]; exact List.getElem_mem hll
      have hsp : L = L.take i ++ e :: L.drop (i + 1) := by rw [he]; simp
      have hbe : b = e.blk := by
        rw [List.getElem?_append_left (by unfold blks; rw [List.length_map]; exact hll)] at hb
        unfold blks at hb
        rw [List.getElem?_map, List.getElem?_eq_getElem hll, ← he] at hb
        simpa using hb.symm
      have hE := hCr.es e heL
      have hbn : e.blk ≠ ob := by
        have := (List.nodup_cons.mp hCr.nd).1
        exact fun e' => this (by rw [← e']; exact List.mem_map_of_mem heL)
      have q1 := neq_link_ne hE.t hCr.ot hbn
      obtain ⟨q, Y', hY, hn4⟩ := Ring.next (X := blks (L.take i)) (Y := blks (L.drop (i + 1))) (l := e.blk) (by
        have h2 := hCr.rg
        have h3 : blks L = blks (L.take i) ++ e.blk :: blks (L.drop (i + 1)) := by
          conv => lhs; rw [hsp]
          rw [blks_app]; rfl
        rwa [h3] at h2)
      have hbq : (blks L ++ [ob])[i + 1]? = some q := by
        have h3 : blks L = blks (L.take i) ++ e.blk :: blks (L.drop (i + 1)) := by
          conv => lhs; rw [hsp]
          rw [blks_app]; rfl
        have hl3 : (blks (L.take i)).length = i := by unfold blks; rw [List.length_map, List.length_take]; omega
        rw [h3, List.append_assoc, List.cons_append, hY, List.getElem?_append_right (by omega), hl3]
        simp
      have hk0 := hE.k
      have htk : ksV (L.take (i + 1)) = ksV (L.take i) ++ [Value.string e.key] := by
        unfold ksV
        rw [List.take_succ_eq_append_getElem hll, ← he]
        simp
      have HEB : Hid (e.blk < B) := Lib.hid (by rw [HB.out]; exact (HC.out.es e heL).lt)
      have HQ2 := Lib.hid hbq
      have HTK := Lib.hid htk
      have hone : ∀ u ∈ [Value.string e.key], u.oneCell' = true := str_oneC [e.key]
      have HONE := Lib.hid hone
      have hb1 : (i + 1) * 16 ≤ 140737488355328 := by omega
      have hb2 : i + 1 ≤ 140737488355328 := by omega
      rw [hbe]
      clear hb he heL hsp hbe hE hbn hY hbq htk hone hCr hll
      obtain ⟨k, hk⟩ : ∃ k, k = e.key := ⟨_, rfl⟩
      rw [← hk] at hk0 HTK HONE
      clear hk
      have hn4' : wr.cell? ⟨e.blk, 4, none⟩ = some (bp q) := hn4
      obtain ⟨w2, rfl⟩ : ∃ x, x = wr := ⟨_, rfl⟩
      have hlt2 := block_lt_of_cell hn4
      go_upto_region 4 with (first
        | (at_builtin; refine wpList_grew (v := .slice p i cc) (l := ksV (L.take i)) rfl _ _ rfl Try.underlying33 (.string ⟨#[]⟩) 1 info_strC rfl (by decide) [Value.string k] 1 (by simp [Act.eval]) (by simp [Act.eval]) HOWN.out rfl rfl (by decide) HONE.out hb1 hb2 ?_; intro v4 w4 hg4; obtain ⟨p4, c4, rfl, _⟩ := hg4.held.cells; have HG4 := Lib.hid hg4; clear hg4))
      have hbel4 : Below B w w4 := by
        have h1 : Below B w (w2.alloc (.cells #[Value.string k] 9)) := HBEL.out.alloc HBB.out _
        exact h1.grown HG4.out.grown (by have := HBB.out; simp; omega) (fun g hg => HBK.out g hg)
      have hn5 : w4.cell? ⟨e.blk, 4, none⟩ = some (bp q) := (cell_at ((hbel4.block _ HEB.out).trans (HBEL.out.block _ HEB.out).symm) 4).trans hn4'
      have hbk4 : ∀ g, (Value.slice p4 (i + 1) c4).ownBlock = some g → B ≤ g := fun g hg => by
        rcases HG4.out.at with ⟨h1, _⟩ | ⟨h1, _⟩
        · exact HBK.out g (by rw [← h1]; exact hg)
        · rw [hg] at h1
          cases h1
          have := HBB.out
          simp
          omega
      have HBK4 := Lib.hid hbk4
      have HBEL4 := Lib.hid hbel4
      clear hk0 hn4 hn4' hb1 hb2 hbk4 hbel4 q1 hlt2 c8
      go_wp2_with fail
      exact ⟨⟨i + 1, p4, c4, q, by omega, rfl, rfl, Lib.hid ⟨HQ2.out, (by rw [HTK.out]; exact HG4.out.held), HBEL4.out, HBK4.out⟩⟩, (by show nl - (i + 1) < nl - i; omega)⟩
    · have hie : i = nl := by omega
      have hbo : b = ob := by
        rw [hie, HNL.out, List.getElem?_append_right (by unfold blks; rw [List.length_map]; exact Nat.le_refl _)] at hb
        unfold blks at hb
        rw [List.length_map, Nat.sub_self] at hb
        simpa using hb.symm
      rw [hbo]
      have q1 := neq_link_same ob wr
      have HF : Hid (Held wr 9 1 (.slice p nl cc) nl (ksV L)) := Lib.hid (by
        have := HOWN.out
        rw [hie] at this
        rw [HNL.out] at this ⊢
        rwa [List.take_length] at this)
      have HIE := Lib.hid hie
      clear hb hbo hlt hie hCr
      go_wp2_with fail
      go_ret
      exact ⟨p, cc, (by rw [HIE.out]; rfl), HF.out, HBEL.out⟩
end Go.Proofs.Ythaccjjkbbkehaa
