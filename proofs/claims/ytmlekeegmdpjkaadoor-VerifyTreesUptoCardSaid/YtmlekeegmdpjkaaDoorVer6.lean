/- Layer 4, walked: Inclusion. -/
import Derived.Test.YtmlekeegmdpjkaaDoorVer5
namespace Go.Proofs.YtmlekeegmdpjkaaDoor
open Go.RowKit Go.Scr
set_option linter.unusedVariables false

def inclS (s i : Int) (leaf : ByteArray) (L : List ByteArray) (root : ByteArray) : Int := if rootOfE s i leaf L ≠ 0 then rootOfE s i leaf L else if root.size ≠ 32 then 42 else if rootOfS s i leaf L ≠ root then 44 else 0
theorem toList_ne {a b : ByteArray} (h : a ≠ b) : (a.toList == b.toList) = false := by
  rw [beq_eq_false_iff_ne]
  intro h2
  apply h
  rw [ByteArray.toList_eq, ByteArray.toList_eq] at h2
  exact ByteArray.ext (Array.ext' h2)

set_option maxRecDepth 100000 in
set_option maxHeartbeats 1000000 in
theorem inclusion_any (s i : Int) (leaf : ByteArray) (v : Value) (L : List ByteArray) (root : ByteArray) (w : World) (ht : Tabs w) (hv : Txts w v L) (hl : L.length ≤ 1048576) :
    Calls Tryd.prog 25 #[.int .i64 s, .int .i64 i, .string leaf, v, .string root] w fun e w' => e = .returned (.int .i64 (inclS s i leaf L root)) ∧ Below w.heap.size w w' := by
  have hr := rootof_any s i leaf v L w ht hv hl
  obtain ⟨E, hE⟩ : ∃ E, E = rootOfE s i leaf L := ⟨_, rfl⟩
  obtain ⟨R, hR⟩ : ∃ R, R = rootOfS s i leaf L := ⟨_, rfl⟩
  unfold inclS
  rw [← hE, ← hR] at hr ⊢
  have HRT := Lib.hid hr
  have HH1 := Lib.hid (fun (w1 : World) => hashes_any (.slice (some ⟨w1.heap.size, 0, none⟩) 1 1) [root] (w1.alloc (.cells #[.string root] 9)) (txts_one w1 root))
  clear ht hv hr hE hR
  by_cases hE0 : E = 0
  · rw [if_neg (by simp [hE0])]
    subst hE0
    by_cases hroot : root.size = 32
    · rw [if_neg (by simp [hroot])]
      have ha1 : all32 [root] = true := by simp [all32, hroot]
      rw [ha1] at HH1
      by_cases hRr : R = root
      · rw [if_neg (by simp [hRr])]
        subst hRr
        clear hroot ha1
        go_enter Tryd.func25, Tryd.ntmps25
        go_wp2_with (first
          | (go_at_call 24; with_reducible refine (HRT.out).mono ?_; rintro e w1 ⟨rfl, hb⟩; have HB1 := Lib.hid hb; clear hb)
          | (go_at_call 70; with_reducible refine (HH1.out w1).mono ?_; rintro e w2 ⟨rfl, rfl⟩))
        go_ret
        exact ⟨rfl, HB1.out.alloc HB1.out.size _⟩
      · rw [if_pos hRr]
        have hne := toList_ne hRr
        clear hroot ha1 hRr
        go_enter Tryd.func25, Tryd.ntmps25
        go_wp2_with (first
          | (go_at_call 24; with_reducible refine (HRT.out).mono ?_; rintro e w1 ⟨rfl, hb⟩; have HB1 := Lib.hid hb; clear hb)
          | (go_at_call 70; with_reducible refine (HH1.out w1).mono ?_; rintro e w2 ⟨rfl, rfl⟩))
        go_ret
        exact ⟨rfl, HB1.out.alloc HB1.out.size _⟩
    · rw [if_pos hroot]
      have ha1 : all32 [root] = false := by simp [all32, hroot]
      rw [ha1] at HH1
      clear hroot ha1
      go_enter Tryd.func25, Tryd.ntmps25
      go_wp2_with (first
        | (go_at_call 24; with_reducible refine (HRT.out).mono ?_; rintro e w1 ⟨rfl, hb⟩; have HB1 := Lib.hid hb; clear hb)
        | (go_at_call 70; with_reducible refine (HH1.out w1).mono ?_; rintro e w2 ⟨rfl, rfl⟩))
      go_ret
      exact ⟨rfl, HB1.out.alloc HB1.out.size _⟩
  · rw [if_pos hE0]
    go_enter Tryd.func25, Tryd.ntmps25
    go_wp2_with (first
      | (go_at_call 24; with_reducible refine (HRT.out).mono ?_; rintro e w1 ⟨rfl, hb⟩; have HB1 := Lib.hid hb; clear hb)
      | (go_at_call 70; with_reducible refine (HH1.out w1).mono ?_; rintro e w2 ⟨rfl, rfl⟩))
    go_ret
    exact ⟨rfl, HB1.out⟩
end Go.Proofs.YtmlekeegmdpjkaaDoor
