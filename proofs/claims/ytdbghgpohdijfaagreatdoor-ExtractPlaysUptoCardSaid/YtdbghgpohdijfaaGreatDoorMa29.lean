/- Leaf, Empty, Node, of the program and of the document; Len, Clone. -/
import Derived.Test.YtdbghgpohdijfaaGreatDoorMa10
import Derived.Test.YtdbghgpohdijfaaGreatDoorMa25
import Derived.Test.YtdbghgpohdijfaaGreatDoorMa26
import Derived.Test.YtdbghgpohdijfaaGreatDoorMa28
import Derived.Test.YtdbghgpohdijfaaGreatDoorMa19
import Derived.Test.YtdbghgpohdijfaaGreatDoorMa11
import Derived.BigQuiet
import Derived.LoopTactic
import Derived.Deep.CutBlock
namespace Go.Proofs.YtdbghgpohdijfaaGreatDoor
open Go.RowKit Go.Scr
set_option linter.unusedVariables false

def hleaf (s : ByteArray) : ByteArray := str (sha (0 :: s.data.toList))
set_option maxRecDepth 100000 in
set_option maxHeartbeats 400000 in
theorem dleaf_any (s : ByteArray) (w : World) (ht : Tabs w) (hl : s.size ≤ 140737488355199) :
    Calls Tryz.prog 42 #[.string s] w fun e w' => e = .returned (.string (hleaf s)) ∧ Below w.heap.size w w' := by
  have h := sum_any (.slice (some ⟨w.heap.size, 0, none⟩) 2 2) [⟨#[0]⟩, s] (w.alloc (.cells #[.string ⟨#[0]⟩, .string s] 9)) (ht.below ((Below.refl _ _).alloc (Nat.le_refl _) _)) (txts_alloc w 9 [⟨#[0]⟩, s] (by simp)) (by simp [cat]; omega)
  have h' : Calls Tryz.prog 52 #[.slice (some ⟨w.heap.size, 0, none⟩) 2 2] (w.alloc (.cells #[.string ⟨#[0]⟩, .string s] 9)) fun e w' => e = .returned (.string (hleaf s)) ∧ Below w.heap.size w w' := by
    refine h.mono ?_
    rintro e w1 ⟨rfl, hb⟩
    exact ⟨by simp [cat, hleaf, str], below_from ((Below.refl _ _).alloc (Nat.le_refl _) _) hb (by simp)⟩
  have H := Lib.hid h'
  clear h h' ht
  go_enter Tryz.func42, Tryz.ntmps42
  go_wp2_with (go_at_call 52; refine H.out.mono ?_; rintro e w1 ⟨rfl, hb⟩)
  go_ret
  exact ⟨rfl, hb⟩

set_option maxRecDepth 100000 in
set_option maxHeartbeats 400000 in
theorem rleaf_any (s : ByteArray) (w : World) (hl : s.size ≤ 140737488355199) :
    Calls Tryz.prog 43 #[.string s] w fun e w' => e = .returned (.string (hleaf s)) ∧ Below w.heap.size w w' := by
  obtain ⟨x, hx⟩ : ∃ x : ByteArray, x = ⟨#[0]⟩ ++ s := ⟨_, rfl⟩
  have hxs : x.size = 1 + s.size := by rw [hx, ByteArray.size_append]; rfl
  have h := rsum_any x w (by omega)
  have he : (⟨(sha x.data.toList).toArray⟩ : ByteArray) = hleaf s := by rw [hx, ByteArray.data_append, Array.toList_append]; rfl
  rw [he] at h
  have H := Lib.hid h
  have hs1 : 1 + s.size ≤ 140737488355200 := by omega
  have hs2 : (⟨#[0]⟩ : ByteArray).size + s.size ≤ 140737488355200 := hs1
  have HX := Lib.hid hx
  clear h hx hxs he
  go_enter Tryz.func43, Tryz.ntmps43
  go_wp2_with (go_at_call 57; rw [← HX.out]; refine H.out.mono ?_; rintro e w1 ⟨rfl, hb⟩)
  go_ret
  exact ⟨rfl, hb⟩

end Go.Proofs.YtdbghgpohdijfaaGreatDoor
/- extract: what is accepted and disagrees: plain. -/
namespace Go.Proofs.YtdbghgpohdijfaaGreatDoor
open Go.RowKit Go.Scr
set_option linter.unusedVariables false
theorem all32_subE {L M : List ByteArray} (h : all32 L = true) (hs : ∀ x ∈ M, x ∈ L) : all32 M = true := by
  unfold all32 at *
  rw [List.all_eq_true] at *
  exact fun x hx => h x (hs x hx)
theorem rootR_32E {L : List ByteArray} (h : all32 L = true) : (rootR L).size = 32 := by
  rcases Nat.eq_zero_or_pos L.length with h0 | h0
  · rw [List.eq_nil_of_length_eq_zero h0, rootR_nil]
    unfold hempty
    rw [str_size, sha_length]
  · refine rootR_size L.length L rfl h0 fun s hs => ?_
    unfold all32 at h
    rw [List.all_eq_true] at h
    simpa using h s hs
theorem all32_snocE {L : List ByteArray} {x : ByteArray} (h : all32 L = true) (hx : x.size = 32) : all32 (L ++ [x]) = true := by
  unfold all32 at *
  rw [List.all_append, h]
  simp [hx]
theorem pathR_okE (n : Nat) : ∀ (m : Nat) (L : List ByteArray), L.length = n → all32 L = true → all32 (pathR m L) = true := by
  induction n using Nat.strongRecOn with
  | ind n ih =>
    intro m L hL h
    rcases Nat.lt_or_ge n 2 with h1 | h2
    · rw [pathR_one m (by omega)]; rfl
    · have hs := spl_lt h2
      by_cases hm : m < spl n
      · rw [pathR_left (k := spl n) (by rw [hL]) (by omega) hm]
        exact all32_snocE (ih _ hs.2.1 m _ (by rw [List.length_take]; omega) (all32_subE h fun x hx => List.mem_of_mem_take hx)) (rootR_32E (all32_subE h fun x hx => List.mem_of_mem_drop hx))
      · rw [pathR_right (k := spl n) (by rw [hL]) (by omega) hm]
        exact all32_snocE (ih (n - spl n) (by omega) _ _ (by rw [List.length_drop]; omega) (all32_subE h fun x hx => List.mem_of_mem_drop hx)) (rootR_32E (all32_subE h fun x hx => List.mem_of_mem_take hx))
theorem proofR_okE (n : Nat) : ∀ (m : Nat) (L : List ByteArray) (b : Bool), L.length = n → 1 ≤ m → m ≤ n → all32 L = true → all32 (proofR m L b) = true := by
  induction n using Nat.strongRecOn with
  | ind n ih =>
    intro m L b hL h1 hmn h
    by_cases he : m = n
    · rw [proofR_same (by omega)]
      cases b
      · exact all32_snocE (L := []) rfl (rootR_32E h)
      · rfl
    · have hs := spl_lt (show 2 ≤ n by omega)
      by_cases hm : m ≤ spl n
      · rw [proofR_left b (k := spl n) (by rw [hL]) (by omega) (by omega) hm]
        exact all32_snocE (ih _ hs.2.1 m _ b (by rw [List.length_take]; omega) h1 hm (all32_subE h fun x hx => List.mem_of_mem_take hx)) (rootR_32E (all32_subE h fun x hx => List.mem_of_mem_drop hx))
      · rw [proofR_right b (k := spl n) (by rw [hL]) (by omega) (by omega) hm]
        exact all32_snocE (ih (n - spl n) (by omega) _ _ false (by rw [List.length_drop]; omega) (by omega) (by omega) (all32_subE h fun x hx => List.mem_of_mem_drop hx)) (rootR_32E (all32_subE h fun x hx => List.mem_of_mem_take hx))

theorem all32_ofE {L : List ByteArray} (h : ∀ s ∈ L, s.size = 32) : all32 L = true := by
  unfold all32
  rw [List.all_eq_true]
  intro s hs
  simpa using h s hs
def bothSKE (f s : Nat) (b : Bool) (old : ByteArray) (L : List ByteArray) : ByteArray × ByteArray :=
  climbB nodeS (fl f s) (restL (wh f s b) L) (seedL (wh f s b) old L, seedL (wh f s b) old L)
theorem rootOf_okKE {n m : Nat} {leaf : ByteArray} {L : List ByteArray} (h : m < n) (hn : n ≤ 1099511627776) (hl : leaf.size = 32) (ha : all32 L = true) (hL : L.length = wayN n m) :
    rootOfE n m leaf L = 0 ∧ rootOfS n m leaf L = climbF nodeS (dn n m) L leaf := by
  have h0 : rootOfE n m leaf L = 0 := by
    unfold rootOfE
    rw [(pathLenS_ok h hn).1, (pathLenS_ok h hn).2, if_neg (by simp), if_neg (by simp [hl, ha]), if_neg (by simp [hL])]
  refine ⟨h0, ?_⟩
  unfold rootOfS
  rw [h0, if_pos rfl, Int.toNat_natCast, Int.toNat_natCast]
theorem rootsOf_okKE {f s : Nat} {old : ByteArray} {L : List ByteArray} (h1 : 1 ≤ f) (h2 : f ≤ s) (hs : s ≤ 1099511627776) (hl : old.size = 32) (ha : all32 L = true) (hL : L.length = toldN f s true) :
    rootsOfE f s old L = 0 ∧ rootsOfS f s old L = bothSKE f s true old L := by
  have h0 : rootsOfE f s old L = 0 := by
    unfold rootsOfE
    rw [(proofLenS_ok h1 h2 hs).1, (proofLenS_ok h1 h2 hs).2, if_neg (by simp), if_neg (by simp [hl, ha]), if_neg (by simp [hL])]
  refine ⟨h0, ?_⟩
  unfold rootsOfS
  rw [h0, if_pos rfl, Int.toNat_natCast, Int.toNat_natCast]
  rfl
/-- a path that the definitions tell is taken -/
theorem path_okE {L : List ByteArray} (h32 : ∀ s ∈ L, s.size = 32) {m : Nat} {leaf : ByteArray} (hm : m < L.length) (hn4 : L.length ≤ 4096) (hleaf : L[m]? = some leaf) :
    pathE L m = 0 ∧ pathT L m = pathR m L ∧ inclS L.length m leaf (pathR m L) (rootR L) = 0 := by
  have hall := all32_ofE h32
  have hre : refusedE L = 0 := by unfold refusedE; rw [if_neg (by omega), if_neg (by rw [show ok32 L = true from hall]; decide)]
  have hpe : pathE L m = 0 := by unfold pathE; rw [if_neg (by simp [hre]), if_neg (by omega)]
  refine ⟨hpe, by unfold pathT; rw [if_pos hpe, Int.toNat_natCast], ?_⟩
  have hls : leaf.size = 32 := h32 _ (List.mem_of_getElem? hleaf)
  have hpl : (pathR m L).length = wayN L.length m := by unfold pathR wayN; exact pathL_length nodeS hempty L.length m _ rfl
  have r1 := rootOf_okKE (n := L.length) (m := m) (leaf := leaf) (L := pathR m L) hm (by omega) hls (pathR_okE _ _ _ rfl hall) hpl
  have hcl : climbF nodeS (dn L.length m) (pathR m L) leaf = rootR L := climb_path nodeS hempty L.length m L leaf rfl hleaf
  rw [hcl] at r1
  unfold inclS
  rw [r1.1, r1.2, if_neg (by simp), if_neg (by simp [rootR_32E hall]), if_neg (by simp)]
theorem proof_okE {L : List ByteArray} (h32 : ∀ s ∈ L, s.size = 32) {m : Nat} (hm1 : 1 ≤ m) (hm : m ≤ L.length) (hn4 : L.length ≤ 4096) :
    proofE L m = 0 ∧ proofT L m = proofR m L true ∧ consS m L.length (rootR (L.take m)) (rootR L) (proofR m L true) = 0 := by
  have hall := all32_ofE h32
  have hallm : all32 (L.take m) = true := all32_subE hall fun x hx => List.mem_of_mem_take hx
  have hre : refusedE L = 0 := by unfold refusedE; rw [if_neg (by omega), if_neg (by rw [show ok32 L = true from hall]; decide)]
  have hqe : proofE L m = 0 := by unfold proofE; rw [if_neg (by simp [hre]), if_neg (by omega)]
  refine ⟨hqe, by unfold proofT; rw [if_pos hqe, Int.toNat_natCast], ?_⟩
  have hpl : (proofR m L true).length = toldN m L.length true := by unfold proofR; exact proofL_length nodeS hempty L.length m _ true rfl
  have r2 := rootsOf_okKE (f := m) (s := L.length) (old := rootR (L.take m)) (L := proofR m L true) hm1 hm (by omega) (rootR_32E hallm) (proofR_okE _ _ _ _ rfl hm1 (by omega) hall) hpl
  have hcb : bothSKE m L.length true (rootR (L.take m)) (proofR m L true) = (rootR (L.take m), rootR L) := by
    unfold bothSKE
    exact climb_proof nodeS hempty L.length m L true (rootR (L.take m)) rfl hm1 hm (fun _ => rfl)
  rw [hcb] at r2
  unfold consS
  rw [r2.1, r2.2, if_neg (by simp), if_neg (by simp [rootR_32E hall]), if_neg (by simp)]
/-- a node's text; a text's digest -/
def txtS (l r : ByteArray) : ByteArray := ⟨#[1]⟩ ++ l ++ r
def shaS (s : ByteArray) : ByteArray := str (sha s.data.toList)
theorem hnode_txt (l r : ByteArray) : hnode l r = shaS (txtS l r) := by
  unfold hnode shaS txtS
  rw [ByteArray.data_append, ByteArray.data_append, Array.toList_append, Array.toList_append, List.append_assoc]
  rfl
theorem hleaf_txt (s : ByteArray) : hleaf s = shaS (⟨#[0]⟩ ++ s) := by
  unfold hleaf shaS
  rw [ByteArray.data_append, Array.toList_append]
  rfl
theorem ba_append_inj {a b c d : ByteArray} (h : a ++ b = c ++ d) (hs : a.size = c.size) : a = c ∧ b = d := by
  have h1 := congrArg (fun x => x.data.toList) h
  simp only [ByteArray.data_append, Array.toList_append] at h1
  have h2 : a.data.toList.length = c.data.toList.length := by
    rw [Array.length_toList, Array.length_toList]
    exact hs
  obtain ⟨h3, h4⟩ := List.append_inj h1 h2
  exact ⟨ByteArray.ext (Array.toList_inj.mp h3), ByteArray.ext (Array.toList_inj.mp h4)⟩
theorem txtS_inj {a b c d : ByteArray} (h : txtS a b = txtS c d) (hs : a.size = c.size) : a = c ∧ b = d := by
  unfold txtS at h
  obtain ⟨h1, h2⟩ := ba_append_inj h (by rw [ByteArray.size_append, ByteArray.size_append, hs])
  exact ⟨(ba_append_inj h1 rfl).2, h2⟩
theorem rootR_txt {A : List ByteArray} (h : 2 ≤ A.length) (h32 : ∀ s ∈ A, s.size = 32) : rootR A = shaS (txtS (rootR (A.take (spl A.length))) (rootR (A.drop (spl A.length)))) := by
  have hall := all32_ofE h32
  have h1 := rootR_32E (all32_subE hall (M := A.take (spl A.length)) fun x hx => List.mem_of_mem_take hx)
  have h2 := rootR_32E (all32_subE hall (M := A.drop (spl A.length)) fun x hx => List.mem_of_mem_drop hx)
  rw [rootR_split h]
  unfold nodeS
  rw [if_pos ⟨h1, h2⟩, hnode_txt]
/-- two lists of one root: at the top the texts are unlike, or one of the halves goes on -/
theorem down_step {A B : List ByteArray} {n : Nat} (hA : A.length = n) (hB : B.length = n) (h2 : 2 ≤ n) (h32a : ∀ s ∈ A, s.size = 32) (h32b : ∀ s ∈ B, s.size = 32) (hne : A ≠ B) (hr : rootR A = rootR B) :
    shaS (txtS (rootR (A.take (spl n))) (rootR (A.drop (spl n)))) = shaS (txtS (rootR (B.take (spl n))) (rootR (B.drop (spl n)))) ∧
    (txtS (rootR (A.take (spl n))) (rootR (A.drop (spl n))) = txtS (rootR (B.take (spl n))) (rootR (B.drop (spl n))) →
      rootR (A.take (spl n)) = rootR (B.take (spl n)) ∧ rootR (A.drop (spl n)) = rootR (B.drop (spl n)) ∧ (A.take (spl n) = B.take (spl n) → A.drop (spl n) ≠ B.drop (spl n))) := by
  have e1 := rootR_txt (A := A) (by omega) h32a
  have e2 := rootR_txt (A := B) (by omega) h32b
  rw [hA] at e1
  rw [hB] at e2
  refine ⟨by rw [← e1, ← e2]; exact hr, fun ht => ?_⟩
  have s1 := rootR_32E (all32_subE (all32_ofE h32a) (M := A.take (spl n)) fun x hx => List.mem_of_mem_take hx)
  have s2 := rootR_32E (all32_subE (all32_ofE h32b) (M := B.take (spl n)) fun x hx => List.mem_of_mem_take hx)
  obtain ⟨t1, t2⟩ := txtS_inj ht (by rw [s1, s2])
  refine ⟨t1, t2, fun h3 h4 => hne ?_⟩
  rw [← List.take_append_drop (spl n) A, ← List.take_append_drop (spl n) B, h3, h4]
theorem one_same {A B : List ByteArray} (hA : A.length = 1) (hB : B.length = 1) (hr : rootR A = rootR B) : A = B := by
  obtain ⟨a, rfl⟩ := List.length_eq_one_iff.1 hA
  obtain ⟨b, rfl⟩ := List.length_eq_one_iff.1 hB
  have h1 : rootR [a] = a := rootL_one _ _ _
  have h2 : rootR [b] = b := rootL_one _ _ _
  rw [h1, h2] at hr
  rw [hr]
end Go.Proofs.YtdbghgpohdijfaaGreatDoor
/- slices.Equal of texts. -/
namespace Go.Proofs.YtdbghgpohdijfaaGreatDoor
open Go.RowKit Go.Scr
set_option linter.unusedVariables false
theorem textQ_ne {a b : ByteArray} (h : a ≠ b) : (a.toList == b.toList) = false := by
  refine beq_eq_false_iff_ne.2 fun h2 => h ?_
  rw [ByteArray.toList_eq, ByteArray.toList_eq] at h2
  exact ByteArray.ext (Array.toList_inj.mp h2)
theorem textQ_same (a : ByteArray) : (a.toList == a.toList) = true := beq_self_eq_true _
set_option maxRecDepth 100000 in
set_option maxHeartbeats 1000000 in
theorem sameQ_any (v v2 : Value) (L M : List ByteArray) (w : World) (hv : Txts w v L) (hv2 : Txts w v2 M) (hl : L.length ≤ 1048576) (hl2 : M.length ≤ 1048576) :
    Calls Tryz.prog 20 #[v, v2] w fun e w' => e = .returned (.bool (decide (L = M))) ∧ Below w.heap.size w w' := by
  obtain ⟨p, c, rfl, hv1, hv2', hv3⟩ := hv
  obtain ⟨p2, c2, rfl, hw1, hw2', hw3⟩ := hv2
  obtain ⟨n, hn⟩ : ∃ n, n = L.length := ⟨_, rfl⟩
  obtain ⟨m, hm⟩ : ∃ m, m = M.length := ⟨_, rfl⟩
  rw [← hn] at hv1 hl ⊢
  rw [← hm] at hw1 hl2 ⊢
  have HNL := Lib.hid hn
  have HML := Lib.hid hm
  have HP := Lib.hid hv3
  have HP2 := Lib.hid hw3
  clear hn hm hv1 hv2' hv3 hw1 hw2' hw3
  by_cases hnm : n = m
  · have HNM := Lib.hid hnm
    have e0 : ((n : Int) == (m : Int)) = true := beq_iff_eq.2 (by omega)
    clear hnm
    go_enter Tryz.func20, Tryz.ntmps20
    go_wp2
    go_loopw [13] (fun q wr => ∃ i : Nat, i ≤ n ∧ q = .int .i64 i ∧ Hid (∀ j, j < i → L[j]? = M[j]?) ∧ Below w.heap.size w wr) (fun q _ => n - (intOf q).toNat)
    case atStart => exact ⟨0, by omega, rfl, Lib.hid (fun j h => absurd h (by omega)), Below.refl _ _⟩
    case round =>
      obtain ⟨i, hi, rfl, hinv, hbel⟩ := hrel
      have HBEL := Lib.hid hbel
      have HINV := Lib.hid hinv.out
      clear hbel hinv
      by_cases hlt : i < n
      · have hl8 : (i : Int) < (n : Int) := by omega
        have him : (i : Int) < (m : Int) := by have := HNM.out; omega
        obtain ⟨s, hs⟩ : ∃ s, L[i]? = some s := ⟨L[i]'(by rw [← HNL.out]; exact hlt), List.getElem?_eq_getElem _⟩
        obtain ⟨t, ht⟩ : ∃ s, M[i]? = some s := ⟨M[i]'(by rw [← HML.out, ← HNM.out]; exact hlt), List.getElem?_eq_getElem _⟩
        obtain ⟨a, rfl, hc⟩ := HP.out i s hs
        obtain ⟨b, rfl, hd⟩ := HP2.out i t ht
        have hcell1 : wr.cell? (a.add i) = some (.string s) := (HBEL.out.cell (block_lt_of_cell hc)).trans hc
        have hcell2 : wr.cell? (b.add i) = some (.string t) := (HBEL.out.cell (block_lt_of_cell hd)).trans hd
        have HS := Lib.hid hs
        have HT := Lib.hid ht
        clear hs ht hc hd
        by_cases hst : s = t
        · have e1 : (s.toList == t.toList) = true := by rw [hst]; exact textQ_same _
          have HST := Lib.hid hst
          clear hst
          go_upto_region 6 with fail
          go_quiet (fail)
          have HBEL2 : Hid (Below w.heap.size w (wr.drewN nq)) := below_drewN HBEL.out nq
          generalize wr.drewN nq = wx at *
          go_wp2_with fail
          refine ⟨⟨i + 1, by omega, rfl, Lib.hid (fun j hj => ?_), HBEL2.out⟩, (by show n - ((i : Int) + 1).toNat < n - (i : Int).toNat; omega)⟩
          rcases Nat.lt_or_ge j i with h1 | h1
          · exact HINV.out j h1
          · have : j = i := by omega
            subst this
            rw [HS.out, HT.out, HST.out]
        · have e1 : (s.toList == t.toList) = false := textQ_ne hst
          have HST := Lib.hid hst
          clear hst
          go_upto_region 6 with fail
          go_quiet (fail)
          have HBEL2 : Hid (Below w.heap.size w (wr.drewN nq)) := below_drewN HBEL.out nq
          generalize wr.drewN nq = wx at *
          go_wp2_with fail
          go_ret
          have hd : decide (L = M) = false := decide_eq_false (by
            intro he
            have h1 := HS.out
            rw [he, HT.out] at h1
            exact HST.out (Option.some.inj h1).symm)
          exact ⟨by rw [hd]; rfl, HBEL2.out⟩
      · have hl8 : ¬ ((i : Int) < (n : Int)) := by omega
        go_wp2_with fail
        go_ret
        have hd : decide (L = M) = true := decide_eq_true (by
          refine List.ext_getElem? fun j => ?_
          rcases Nat.lt_or_ge j i with h1 | h1
          · exact HINV.out j h1
          · rw [List.getElem?_eq_none (by have := HNL.out; omega), List.getElem?_eq_none (by have := HML.out; have := HNM.out; omega)])
        exact ⟨by rw [hd]; rfl, HBEL.out⟩
  · have e0 : ((n : Int) == (m : Int)) = false := beq_eq_false_iff_ne.2 (by omega)
    have e1 : decide (L = M) = false := decide_eq_false (by intro h; apply hnm; rw [HNL.out, HML.out, h])
    rw [e1]
    clear hnm e1
    go_enter Tryz.func20, Tryz.ntmps20
    go_wp2
    go_ret
    exact ⟨rfl, Below.refl _ _⟩
end Go.Proofs.YtdbghgpohdijfaaGreatDoor
