/- Layer 4, walked: Consistency. -/
import Derived.Test.YtmlekeegmdpjkaaDoorVer8
namespace Go.Proofs.YtmlekeegmdpjkaaDoor
open Go.RowKit Go.Scr
set_option linter.unusedVariables false

def consS (f s : Int) (old now : ByteArray) (L : List ByteArray) : Int := if rootsOfE f s old L ≠ 0 then rootsOfE f s old L else if now.size ≠ 32 then 42 else if (rootsOfS f s old L).1 ≠ old ∨ (rootsOfS f s old L).2 ≠ now then 44 else 0
theorem toList_same (a : ByteArray) : (a.toList == a.toList) = true := by simp

set_option maxRecDepth 100000 in
set_option maxHeartbeats 1000000 in
theorem consistency_any (f s : Int) (old now : ByteArray) (v : Value) (L : List ByteArray) (w : World) (ht : Tabs w) (hv : Txts w v L) (hl : L.length ≤ 1048576) :
    Calls Tryd.prog 30 #[.int .i64 f, .int .i64 s, .string old, .string now, v] w fun e w' => e = .returned (.int .i64 (consS f s old now L)) ∧ Below w.heap.size w w' := by
  have hr := rootsof_any f s old v L w ht hv hl
  obtain ⟨E, hE⟩ : ∃ E, E = rootsOfE f s old L := ⟨_, rfl⟩
  obtain ⟨R, hR⟩ : ∃ R, R = rootsOfS f s old L := ⟨_, rfl⟩
  unfold consS
  rw [← hE, ← hR] at hr ⊢
  obtain ⟨R1, R2⟩ := R
  have HRT := Lib.hid hr
  have HH1 := Lib.hid (fun (w1 : World) => hashes_any (.slice (some ⟨w1.heap.size, 0, none⟩) 1 1) [now] (w1.alloc (.cells #[.string now] 9)) (txts_one w1 now))
  clear ht hv hr hE hR
  by_cases hE0 : E = 0
  · rw [if_neg (by simp [hE0])]
    subst hE0
    by_cases hroot : now.size = 32
    · rw [if_neg (by simp [hroot])]
      have ha1 : all32 [now] = true := by simp [all32, hroot]
      rw [ha1] at HH1
      by_cases h1 : R1 = old
      · have q1 : (R1.toList == old.toList) = true := by rw [h1]; exact toList_same _
        by_cases h2 : R2 = now
        · have q2 : (R2.toList == now.toList) = true := by rw [h2]; exact toList_same _
          rw [if_neg (by simp [h1, h2])]
          clear hroot ha1 h1 h2
          go_enter Tryd.func30, Tryd.ntmps30
          go_wp2_with (first
            | (go_at_call 29; with_reducible refine (HRT.out).mono ?_; rintro e w1 ⟨rfl, hb⟩; have HB1 := Lib.hid hb; clear hb)
            | (go_at_call 70; with_reducible refine (HH1.out w1).mono ?_; rintro e w2 ⟨rfl, rfl⟩))
          go_ret
          exact ⟨rfl, HB1.out.alloc HB1.out.size _⟩
        · have q2 := toList_ne h2
          rw [if_pos (Or.inr h2)]
          clear hroot ha1 h1 h2
          go_enter Tryd.func30, Tryd.ntmps30
          go_wp2_with (first
            | (go_at_call 29; with_reducible refine (HRT.out).mono ?_; rintro e w1 ⟨rfl, hb⟩; have HB1 := Lib.hid hb; clear hb)
            | (go_at_call 70; with_reducible refine (HH1.out w1).mono ?_; rintro e w2 ⟨rfl, rfl⟩))
          go_ret
          exact ⟨rfl, HB1.out.alloc HB1.out.size _⟩
      · have q1 := toList_ne h1
        rw [if_pos (Or.inl h1)]
        clear hroot ha1 h1
        go_enter Tryd.func30, Tryd.ntmps30
        go_wp2_with (first
          | (go_at_call 29; with_reducible refine (HRT.out).mono ?_; rintro e w1 ⟨rfl, hb⟩; have HB1 := Lib.hid hb; clear hb)
          | (go_at_call 70; with_reducible refine (HH1.out w1).mono ?_; rintro e w2 ⟨rfl, rfl⟩))
        go_ret
        exact ⟨rfl, HB1.out.alloc HB1.out.size _⟩
    · rw [if_pos hroot]
      have ha1 : all32 [now] = false := by simp [all32, hroot]
      rw [ha1] at HH1
      clear hroot ha1
      go_enter Tryd.func30, Tryd.ntmps30
      go_wp2_with (first
        | (go_at_call 29; with_reducible refine (HRT.out).mono ?_; rintro e w1 ⟨rfl, hb⟩; have HB1 := Lib.hid hb; clear hb)
        | (go_at_call 70; with_reducible refine (HH1.out w1).mono ?_; rintro e w2 ⟨rfl, rfl⟩))
      go_ret
      exact ⟨rfl, HB1.out.alloc HB1.out.size _⟩
  · rw [if_pos hE0]
    go_enter Tryd.func30, Tryd.ntmps30
    go_wp2_with (first
      | (go_at_call 29; with_reducible refine (HRT.out).mono ?_; rintro e w1 ⟨rfl, hb⟩; have HB1 := Lib.hid hb; clear hb)
      | (go_at_call 70; with_reducible refine (HH1.out w1).mono ?_; rintro e w2 ⟨rfl, rfl⟩))
    go_ret
    exact ⟨rfl, HB1.out⟩
end Go.Proofs.YtmlekeegmdpjkaaDoor
