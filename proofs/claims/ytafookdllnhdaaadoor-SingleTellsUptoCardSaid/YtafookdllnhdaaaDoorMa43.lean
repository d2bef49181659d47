/- The document's paths and proofs over its tree: walked (printed by gen_q2.py). -/
import Derived.Test.YtafookdllnhdaaaDoorMa41
import Derived.Test.YtafookdllnhdaaaDoorMa30
import Derived.Test.YtafookdllnhdaaaDoorMa31
import Derived.Test.YtafookdllnhdaaaDoorMa37
namespace Go.Proofs.YtafookdllnhdaaaDoor
open Go.RowKit Go.Scr
set_option linter.unusedVariables false
set_option maxRecDepth 100000 in
theorem part11_any {w : World} {xb b e : Nat} {L : List ByteArray} {v : Value} (h : D7I w xb 1 L v) (hbe : b < e) (he : e ≤ L.length) :
    Calls Tryd.prog 73 #[.pointer (some ⟨xb, 0, none⟩), .int .i64 (b : Int), .int .i64 (e : Int)] w fun o w' => o = .returned (.string (partL L b e)) ∧ Below w.heap.size w w' := by
  obtain ⟨X, hX⟩ : ∃ X, X = partL L b e := ⟨_, rfl⟩
  have CP := Lib.hid (part7_any h hbe he)
  rw [← hX] at CP ⊢
  clear h hX hbe he
  go_enter Tryd.func73, Tryd.ntmps73
  go_wp2_with (go_at_call 57; (with_reducible refine CP.out.mono ?_); rintro o w2 ⟨rfl, h⟩; have HB := Lib.hid h; clear h)
  go_ret
  exact ⟨rfl, HB.out⟩
set_option maxRecDepth 100000 in
set_option maxHeartbeats 4000000 in
theorem path11_any {xb : Nat} {L : List ByteArray} {v : Value} (d : Nat) : ∀ (b i : Nat) (w : World), D7I w xb 1 L v → b ≤ i → i < b + d → b + d ≤ L.length → ∀ e : Nat, e = b + d →
    Calls Tryd.prog 52 #[.pointer (some ⟨xb, 0, none⟩), .int .i64 (i : Int), .int .i64 (b : Int), .int .i64 (e : Int)] w fun o w' => ∃ x, o = .returned x ∧ w'.ownsRow w.heap.size 9 1 x (pathR (i - b) ((L.drop b).take d)).length ((pathR (i - b) ((L.drop b).take d)).map Value.string) ∧ Below w.heap.size w w' := by
  induction d using Nat.strongRecOn with
  | ind d ih =>
    intro b i w hv hbi hid hbd e he
    have IH := Lib.hid ih
    have HV := Lib.hid hv
    have hLn := hv.n
    have hSl : ((L.drop b).take d).length = d := sub_len L hbd
    have hde : (e : Int) - (b : Int) = (d : Int) := by omega
    have heb : e ≤ 1048576 := by omega
    clear ih hv
    rcases Nat.lt_or_ge d 2 with h1 | h2
    · have hp1 : pathR (i - b) ((L.drop b).take d) = [] := pathR_one _ (by omega)
      rw [hp1]
      obtain rfl : d = 1 := by omega
      clear hp1 hSl hbd hid hbi
      go_enter Tryd.func52, Tryd.ntmps52
      go_wp2
      go_ret
      exact ⟨.slice none 0 0, rfl, World.ownsRow_nil w w.heap.size 9 1, Below.refl _ _⟩
    · have hni1 : ((d : Int) == 1) = false := beq_eq_false_iff_ne.2 (by omega)
      have hni2 : ¬ (d : Int) = 1 := by omega
      have HP := Lib.hid (fun w' => split11_any d w' h2 (by omega))
      have hsp := spl_lt h2
      obtain ⟨k, hk⟩ : ∃ k, k = spl d := ⟨_, rfl⟩
      rw [← hk] at HP hsp
      have hkL : k = spl ((L.drop b).take d).length := by rw [hSl]; exact hk
      obtain ⟨bk, hbk⟩ : ∃ y, y = b + k := ⟨_, rfl⟩
      have hbki : (b : Int) + (k : Int) = (bk : Int) := by omega
      have hbkb : bk ≤ 1048576 := by omega
      by_cases hm2 : i < bk
      · have hX := pathR_left (m := i - b) hkL (by omega) (by omega)
        rw [sub_take L (show k ≤ d by omega), sub_drop L b d k] at hX
        obtain ⟨q, hq⟩ : ∃ q, q = (pathR (i - b) ((L.drop b).take k)).length := ⟨_, rfl⟩
        have hqb : q ≤ k := by rw [hq]; have := pathR_len (i - b) ((L.drop b).take k); rw [List.length_take] at this; omega
        obtain ⟨X, hXX⟩ : ∃ X, X = partL L bk e := ⟨_, rfl⟩
        have hXY : rootR ((L.drop (b + k)).take (d - k)) = X := by rw [hXX, he, hbk]; exact (sec_right L (by omega)).symm
        rw [hXY] at hX
        have hXl : (pathR (i - b) ((L.drop b).take d)).length = q + 1 := by rw [hX, List.length_append, ← hq]; rfl
        rw [hXl]
        have HX := Lib.hid (by rw [hX, List.map_append] : (pathR (i - b) ((L.drop b).take d)).map Value.string = (pathR (i - b) ((L.drop b).take k)).map Value.string ++ [X].map Value.string)
        have HI := Lib.hid (fun w' (h : Below w.heap.size w w') => IH.out k hsp.2.1 b i w' (HV.out.below h) hbi (by omega) (by omega) bk hbk)
        rw [← hq] at HI
        have HR := Lib.hid (fun w' (h : Below w.heap.size w w') => part11_any (b := bk) (e := e) (HV.out.below h) (by omega) (by omega))
        rw [← hXX] at HR
        have hmi : (i : Int) < (bk : Int) := by omega
        have hq1 : 0 < q + 1 := by omega
        have hq2 : (q + 1) * 16 ≤ 140737488355328 := by omega
        have hq3 : q + 1 ≤ 140737488355328 := by omega
        clear hSl hX hXX hXY hXl hk hkL hq hbk he hbd hid hsp hm2
        go_enter Tryd.func52, Tryd.ntmps52
        go_wp2_with (first
          | (go_at_call 72; with_reducible refine (HP.out _).mono ?_; rintro o w2 ⟨rfl, hw⟩; replace hw := hw.symm; subst hw)
          | (go_at_call 52; with_reducible refine (HI.out _ (Below.refl _ _)).mono ?_; rintro o w3 ⟨x, rfl, hown, hb⟩; have HB3 := Lib.hid hb; have HO3 := Lib.hid hown; clear hb hown)
          | (go_at_call 73; with_reducible refine (HR.out w3 HB3.out).mono ?_; rintro o w4 ⟨rfl, hb⟩; have HB4 := Lib.hid (below_from HB3.out hb HB3.out.size); have HO4 := Lib.hid (owns_below HO3.out hb (Nat.le_refl _)); clear hb)
          | (at_builtin; refine wpList_appendV rfl _ _ rfl Tryd.underlying52 (.string ⟨#[]⟩) 1 info_str rfl (by decide) ([X].map Value.string) 1 (q + 1) rfl rfl HO4.out rfl rfl (str_one _) HB4.out (Nat.le_refl _) HB4.out.size rfl hq1 hq2 hq3 ?_; intro g' c' w5 hg' hown' hb' hsz' hgr'; have HO5 := Lib.hid hown'; have HB5 := Lib.hid hb'; clear hown' hb' hsz' hgr' hg'))
        go_ret
        exact ⟨_, rfl, by rw [HX.out]; exact HO5.out, HB5.out⟩
      · have hX := pathR_right (m := i - b) hkL (by omega) (by omega)
        rw [sub_take L (show k ≤ d by omega), sub_drop L b d k] at hX
        obtain ⟨mm, hmm⟩ : ∃ y, y = i - b - k := ⟨_, rfl⟩
        obtain ⟨dk, hdk⟩ : ∃ y, y = d - k := ⟨_, rfl⟩
        rw [← hmm, ← hdk, ← hbk] at hX
        obtain ⟨q, hq⟩ : ∃ q, q = (pathR mm ((L.drop bk).take dk)).length := ⟨_, rfl⟩
        have hqb : q ≤ d := by rw [hq]; have := pathR_len mm ((L.drop bk).take dk); rw [List.length_take] at this; omega
        obtain ⟨X, hXX⟩ : ∃ X, X = partL L b bk := ⟨_, rfl⟩
        have hXY : rootR ((L.drop b).take k) = X := by rw [hXX, hbk]; exact (sec_at L b k).symm
        rw [hXY] at hX
        have hXl : (pathR (i - b) ((L.drop b).take d)).length = q + 1 := by rw [hX, List.length_append, ← hq]; rfl
        rw [hXl]
        have HX := Lib.hid (by rw [hX, List.map_append] : (pathR (i - b) ((L.drop b).take d)).map Value.string = (pathR mm ((L.drop bk).take dk)).map Value.string ++ [X].map Value.string)
        have HI := Lib.hid (fun w' (h : Below w.heap.size w w') => IH.out dk (by omega) bk i w' (HV.out.below h) (by omega) (by omega) (by omega) e (by omega))
        rw [show i - bk = mm by omega, ← hq] at HI
        have HR := Lib.hid (fun w' (h : Below w.heap.size w w') => part11_any (b := b) (e := bk) (HV.out.below h) (by omega) (by omega))
        rw [← hXX] at HR
        have hmi : ¬ (i : Int) < (bk : Int) := by omega
        have hq1 : 0 < q + 1 := by omega
        have hq2 : (q + 1) * 16 ≤ 140737488355328 := by omega
        have hq3 : q + 1 ≤ 140737488355328 := by omega
        clear hSl hX hXX hXY hXl hk hkL hq hbk he hbd hid hsp hm2 hmm hdk
        go_enter Tryd.func52, Tryd.ntmps52
        go_wp2_with (first
          | (go_at_call 72; with_reducible refine (HP.out _).mono ?_; rintro o w2 ⟨rfl, hw⟩; replace hw := hw.symm; subst hw)
          | (go_at_call 52; with_reducible refine (HI.out _ (Below.refl _ _)).mono ?_; rintro o w3 ⟨x, rfl, hown, hb⟩; have HB3 := Lib.hid hb; have HO3 := Lib.hid hown; clear hb hown)
          | (go_at_call 73; with_reducible refine (HR.out w3 HB3.out).mono ?_; rintro o w4 ⟨rfl, hb⟩; have HB4 := Lib.hid (below_from HB3.out hb HB3.out.size); have HO4 := Lib.hid (owns_below HO3.out hb (Nat.le_refl _)); clear hb)
          | (at_builtin; refine wpList_appendV rfl _ _ rfl Tryd.underlying52 (.string ⟨#[]⟩) 1 info_str rfl (by decide) ([X].map Value.string) 1 (q + 1) rfl rfl HO4.out rfl rfl (str_one _) HB4.out (Nat.le_refl _) HB4.out.size rfl hq1 hq2 hq3 ?_; intro g' c' w5 hg' hown' hb' hsz' hgr'; have HO5 := Lib.hid hown'; have HB5 := Lib.hid hb'; clear hown' hb' hsz' hgr' hg'))
        go_ret
        exact ⟨_, rfl, by rw [HX.out]; exact HO5.out, HB5.out⟩
set_option maxRecDepth 100000 in
set_option maxHeartbeats 4000000 in
theorem proof11_any {xb : Nat} {L : List ByteArray} {v : Value} (d : Nat) : ∀ (b m : Nat) (wh : Bool) (w : World), D7I w xb 1 L v → 1 ≤ m → m ≤ d → b + d ≤ L.length → ∀ e : Nat, e = b + d →
    Calls Tryd.prog 53 #[.pointer (some ⟨xb, 0, none⟩), .int .i64 (m : Int), .int .i64 (b : Int), .int .i64 (e : Int), .bool wh] w fun o w' => ∃ x, o = .returned x ∧ w'.ownsRow w.heap.size 9 1 x (proofR m ((L.drop b).take d) wh).length ((proofR m ((L.drop b).take d) wh).map Value.string) ∧ Below w.heap.size w w' := by
  induction d using Nat.strongRecOn with
  | ind d ih =>
    intro b m wh w hv h1 hmd hbd e he
    have IH := Lib.hid ih
    have HV := Lib.hid hv
    have hLn := hv.n
    have hSl : ((L.drop b).take d).length = d := sub_len L hbd
    have hde : (e : Int) - (b : Int) = (d : Int) := by omega
    have heb : e ≤ 1048576 := by omega
    clear ih hv
    by_cases heq : m = d
    · have hp1 := proofR_same (L := (L.drop b).take d) (m := m) (by omega) wh
      rw [hp1]
      subst heq
      cases wh with
      | true =>
        clear hp1 hSl hbd
        go_enter Tryd.func53, Tryd.ntmps53
        go_wp2
        go_ret
        exact ⟨.slice none 0 0, rfl, World.ownsRow_nil w w.heap.size 9 1, Below.refl _ _⟩
      | false =>
        have hXY : rootR ((L.drop b).take m) = partL L b e := by rw [he]; exact (sec_at L b m).symm
        rw [hXY]
        have HR := Lib.hid (part11_any (b := b) (e := e) HV.out (by omega) (by omega))
        clear hp1 hSl hbd hXY he
        go_enter Tryd.func53, Tryd.ntmps53
        go_wp2_with (go_at_call 73; with_reducible refine (HR.out).mono ?_; rintro o w4 ⟨rfl, hb⟩; have HB4 := Lib.hid hb; clear hb)
        go_ret
        exact ⟨_, rfl, owns_one HB4.out.size, HB4.out.alloc HB4.out.size _⟩
    · have h2 : 2 ≤ d := by omega
      have hni1 : ((m : Int) == (d : Int)) = false := beq_eq_false_iff_ne.2 (by omega)
      have hni2 : ¬ (m : Int) = (d : Int) := by omega
      have HP := Lib.hid (fun w' => split11_any d w' h2 (by omega))
      have hsp := spl_lt h2
      obtain ⟨k, hk⟩ : ∃ k, k = spl d := ⟨_, rfl⟩
      rw [← hk] at HP hsp
      have hkL : k = spl ((L.drop b).take d).length := by rw [hSl]; exact hk
      obtain ⟨bk, hbk⟩ : ∃ y, y = b + k := ⟨_, rfl⟩
      have hbki : (b : Int) + (k : Int) = (bk : Int) := by omega
      have hbkb : bk ≤ 1048576 := by omega
      by_cases hm2 : m ≤ k
      · have hX := proofR_left wh hkL (by omega) (by omega) hm2
        rw [sub_take L (show k ≤ d by omega), sub_drop L b d k] at hX
        obtain ⟨q, hq⟩ : ∃ q, q = (proofR m ((L.drop b).take k) wh).length := ⟨_, rfl⟩
        have hqb : q ≤ k := by rw [hq]; have := proofR_len (m := m) (L := (L.drop b).take k) wh h1 (by rw [sub_len L (by omega)]; exact hm2); rw [sub_len L (by omega)] at this; omega
        obtain ⟨X, hXX⟩ : ∃ X, X = partL L bk e := ⟨_, rfl⟩
        have hXY : rootR ((L.drop (b + k)).take (d - k)) = X := by rw [hXX, he, hbk]; exact (sec_right L (by omega)).symm
        rw [hXY] at hX
        have hXl : (proofR m ((L.drop b).take d) wh).length = q + 1 := by rw [hX, List.length_append, ← hq]; rfl
        rw [hXl]
        have HX := Lib.hid (by rw [hX, List.map_append] : (proofR m ((L.drop b).take d) wh).map Value.string = (proofR m ((L.drop b).take k) wh).map Value.string ++ [X].map Value.string)
        have HI := Lib.hid (fun w' (h : Below w.heap.size w w') => IH.out k hsp.2.1 b m wh w' (HV.out.below h) h1 hm2 (by omega) bk hbk)
        rw [← hq] at HI
        have HR := Lib.hid (fun w' (h : Below w.heap.size w w') => part11_any (b := bk) (e := e) (HV.out.below h) (by omega) (by omega))
        rw [← hXX] at HR
        have hmi : (m : Int) ≤ (k : Int) := by omega
        have hq1 : 0 < q + 1 := by omega
        have hq2 : (q + 1) * 16 ≤ 140737488355328 := by omega
        have hq3 : q + 1 ≤ 140737488355328 := by omega
        clear hSl hX hXX hXY hXl hk hkL hq hbk he hbd hsp hm2 heq
        go_enter Tryd.func53, Tryd.ntmps53
        go_wp2_with (first
          | (go_at_call 72; with_reducible refine (HP.out _).mono ?_; rintro o w2 ⟨rfl, hw⟩; replace hw := hw.symm; subst hw)
          | (go_at_call 53; with_reducible refine (HI.out _ (Below.refl _ _)).mono ?_; rintro o w3 ⟨x, rfl, hown, hb⟩; have HB3 := Lib.hid hb; have HO3 := Lib.hid hown; clear hb hown)
          | (go_at_call 73; with_reducible refine (HR.out w3 HB3.out).mono ?_; rintro o w4 ⟨rfl, hb⟩; have HB4 := Lib.hid (below_from HB3.out hb HB3.out.size); have HO4 := Lib.hid (owns_below HO3.out hb (Nat.le_refl _)); clear hb)
          | (at_builtin; refine wpList_appendV rfl _ _ rfl Tryd.underlying52 (.string ⟨#[]⟩) 1 info_str rfl (by decide) ([X].map Value.string) 1 (q + 1) rfl rfl HO4.out rfl rfl (str_one _) HB4.out (Nat.le_refl _) HB4.out.size rfl hq1 hq2 hq3 ?_; intro g' c' w5 hg' hown' hb' hsz' hgr'; have HO5 := Lib.hid hown'; have HB5 := Lib.hid hb'; clear hown' hb' hsz' hgr' hg'))
        go_ret
        exact ⟨_, rfl, by rw [HX.out]; exact HO5.out, HB5.out⟩
      · have hX := proofR_right wh hkL (by omega) (by omega) hm2
        rw [sub_take L (show k ≤ d by omega), sub_drop L b d k] at hX
        obtain ⟨mm, hmm⟩ : ∃ y, y = m - k := ⟨_, rfl⟩
        obtain ⟨dk, hdk⟩ : ∃ y, y = d - k := ⟨_, rfl⟩
        rw [← hmm, ← hdk, ← hbk] at hX
        obtain ⟨q, hq⟩ : ∃ q, q = (proofR mm ((L.drop bk).take dk) false).length := ⟨_, rfl⟩
        have hqb : q ≤ d := by rw [hq]; have := proofR_len (m := mm) (L := (L.drop bk).take dk) false (by omega) (by rw [sub_len L (by omega)]; omega); rw [sub_len L (by omega)] at this; omega
        obtain ⟨X, hXX⟩ : ∃ X, X = partL L b bk := ⟨_, rfl⟩
        have hXY : rootR ((L.drop b).take k) = X := by rw [hXX, hbk]; exact (sec_at L b k).symm
        rw [hXY] at hX
        have hXl : (proofR m ((L.drop b).take d) wh).length = q + 1 := by rw [hX, List.length_append, ← hq]; rfl
        rw [hXl]
        have HX := Lib.hid (by rw [hX, List.map_append] : (proofR m ((L.drop b).take d) wh).map Value.string = (proofR mm ((L.drop bk).take dk) false).map Value.string ++ [X].map Value.string)
        have HI := Lib.hid (fun w' (h : Below w.heap.size w w') => IH.out dk (by omega) bk mm false w' (HV.out.below h) (by omega) (by omega) (by omega) e (by omega))
        rw [← hq] at HI
        have HR := Lib.hid (fun w' (h : Below w.heap.size w w') => part11_any (b := b) (e := bk) (HV.out.below h) (by omega) (by omega))
        rw [← hXX] at HR
        have hmi : ¬ (m : Int) ≤ (k : Int) := by omega
        have hmki : (m : Int) - (k : Int) = (mm : Int) := by omega
        have hmmb : mm ≤ 1048576 := by omega
        have hq1 : 0 < q + 1 := by omega
        have hq2 : (q + 1) * 16 ≤ 140737488355328 := by omega
        have hq3 : q + 1 ≤ 140737488355328 := by omega
        clear hSl hX hXX hXY hXl hk hkL hq hbk he hbd hsp hm2 heq hmm hdk
        go_enter Tryd.func53, Tryd.ntmps53
        go_wp2_with (first
          | (go_at_call 72; with_reducible refine (HP.out _).mono ?_; rintro o w2 ⟨rfl, hw⟩; replace hw := hw.symm; subst hw)
          | (go_at_call 53; with_reducible refine (HI.out _ (Below.refl _ _)).mono ?_; rintro o w3 ⟨x, rfl, hown, hb⟩; have HB3 := Lib.hid hb; have HO3 := Lib.hid hown; clear hb hown)
          | (go_at_call 73; with_reducible refine (HR.out w3 HB3.out).mono ?_; rintro o w4 ⟨rfl, hb⟩; have HB4 := Lib.hid (below_from HB3.out hb HB3.out.size); have HO4 := Lib.hid (owns_below HO3.out hb (Nat.le_refl _)); clear hb)
          | (at_builtin; refine wpList_appendV rfl _ _ rfl Tryd.underlying52 (.string ⟨#[]⟩) 1 info_str rfl (by decide) ([X].map Value.string) 1 (q + 1) rfl rfl HO4.out rfl rfl (str_one _) HB4.out (Nat.le_refl _) HB4.out.size rfl hq1 hq2 hq3 ?_; intro g' c' w5 hg' hown' hb' hsz' hgr'; have HO5 := Lib.hid hown'; have HB5 := Lib.hid hb'; clear hown' hb' hsz' hgr' hg'))
        go_ret
        exact ⟨_, rfl, by rw [HX.out]; exact HO5.out, HB5.out⟩
end Go.Proofs.YtafookdllnhdaaaDoor
