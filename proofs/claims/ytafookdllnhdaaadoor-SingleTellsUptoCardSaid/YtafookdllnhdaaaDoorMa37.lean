/- single: what comes out of a tree's spans is what the definitions say, and the verifiers take it: plain. -/
import Derived.Test.YtafookdllnhdaaaDoorMa40
import Derived.Test.YtafookdllnhdaaaDoorMa28
import Derived.Test.YtafookdllnhdaaaDoorMa31
import Derived.Test.YtafookdllnhdaaaDoorMa34
import Derived.Test.YtafookdllnhdaaaDoorMa35
namespace Go.Proofs.YtafookdllnhdaaaDoor
open Go.RowKit Go.Scr
set_option linter.unusedVariables false
theorem sub_take (L : List ByteArray) {b n k : Nat} (h : k ≤ n) : ((L.drop b).take n).take k = (L.drop b).take k := by rw [List.take_take, Nat.min_eq_left h]
theorem sub_drop (L : List ByteArray) (b n k : Nat) : ((L.drop b).take n).drop k = (L.drop (b + k)).take (n - k) := by rw [List.drop_take, List.drop_drop]
theorem sub_len (L : List ByteArray) {b n : Nat} (h : b + n ≤ L.length) : ((L.drop b).take n).length = n := by rw [List.length_take, List.length_drop]; omega
theorem sec_at (L : List ByteArray) (b n : Nat) : partL L b (b + n) = rootR ((L.drop b).take n) := by
  unfold partL
  rw [Nat.add_sub_cancel_left]
theorem sec_right (L : List ByteArray) {b n k : Nat} (h : k ≤ n) : partL L (b + k) (b + n) = rootR ((L.drop (b + k)).take (n - k)) := by
  rw [show b + n = b + k + (n - k) by omega, sec_at]
theorem partsL_snoc (L : List ByteArray) (C : List (Nat × Nat)) (x : Nat × Nat) : partsL L (C ++ [x]) = partsL L C ++ [partL L x.1 x.2] := by unfold partsL; rw [List.map_append, List.map_singleton]
theorem partsL_one (L : List ByteArray) (x : Nat × Nat) : partsL L [x] = [partL L x.1 x.2] := rfl
theorem path_sec (L : List ByteArray) (n : Nat) : ∀ b m, m < n → b + n ≤ L.length → pathR m ((L.drop b).take n) = partsL L (Go.Scr.pathT b n m).reverse := by
  induction n using Nat.strongRecOn with
  | ind n ih =>
    intro b m hm h
    have hl := sub_len L h
    unfold pathR
    rw [pathL]
    by_cases h1 : n ≤ 1
    · rw [dif_pos (by omega), pathT_one b m h1]; rfl
    · have hs := spl_lt (show 2 ≤ n by omega)
      rw [dif_neg (by omega), hl]
      by_cases h2 : m < spl n
      · rw [if_pos h2, pathT_left b (by omega) h2, List.reverse_cons, partsL_snoc, sub_take L (by omega), sub_drop]
        have := ih (spl n) hs.2.1 b m h2 (by omega)
        unfold pathR at this
        rw [this, sec_right L (by omega)]
        rfl
      · rw [if_neg h2, pathT_right b (by omega) h2, List.reverse_cons, partsL_snoc, sub_take L (by omega), sub_drop]
        have := ih (n - spl n) (by omega) (b + spl n) (m - spl n) (by omega) (by omega)
        unfold pathR at this
        rw [this, sec_at]
        rfl
theorem proof_sec (L : List ByteArray) (n : Nat) : ∀ b m, 1 ≤ m → m ≤ n → b + n ≤ L.length → proofR m ((L.drop b).take n) (decide (b = 0)) = partsL L (Go.Scr.proofT b n m).reverse := by
  induction n using Nat.strongRecOn with
  | ind n ih =>
    intro b m hm hmn h
    have hl := sub_len L h
    unfold proofR
    rw [proofL]
    by_cases h1 : m = n
    · subst h1
      rw [dif_pos (.inl hl.symm), proofT_end]
      by_cases hb : b = 0
      · rw [if_pos (decide_eq_true hb), if_pos hb]; rfl
      · rw [if_neg (by rw [decide_eq_false hb]; decide), if_neg hb, List.reverse_singleton, partsL_one, sec_at]; rfl
    · have hs := spl_lt (show 2 ≤ n by omega)
      rw [dif_neg (by omega), hl]
      by_cases h2 : m ≤ spl n
      · rw [if_pos h2, proofT_left b h1 (by omega) h2, List.reverse_cons, partsL_snoc, sub_take L (by omega), sub_drop]
        have := ih (spl n) hs.2.1 b m hm h2 (by omega)
        unfold proofR at this
        rw [this, sec_right L (by omega)]
        rfl
      · rw [if_neg h2, proofT_right b h1 (by omega) h2, List.reverse_cons, partsL_snoc, sub_take L (by omega), sub_drop]
        have := ih (n - spl n) (by omega) (b + spl n) (m - spl n) (by omega) (by omega) (by omega)
        unfold proofR at this
        rw [decide_eq_false (show ¬ b + spl n = 0 by omega)] at this
        rw [this, sec_at]
        rfl
theorem all32_sub {L M : List ByteArray} (h : all32 L = true) (hs : ∀ x ∈ M, x ∈ L) : all32 M = true := by
  unfold all32 at *
  rw [List.all_eq_true] at *
  exact fun x hx => h x (hs x hx)
theorem rootR_32 {L : List ByteArray} (h : all32 L = true) : (rootR L).size = 32 := by
  rcases Nat.eq_zero_or_pos L.length with h0 | h0
  · rw [List.eq_nil_of_length_eq_zero h0, rootR_nil]
    unfold hempty
    rw [str_size, sha_length]
  · refine rootR_size L.length L rfl h0 fun s hs => ?_
    unfold all32 at h
    rw [List.all_eq_true] at h
    simpa using h s hs
theorem all32_snoc {L : List ByteArray} {x : ByteArray} (h : all32 L = true) (hx : x.size = 32) : all32 (L ++ [x]) = true := by
  unfold all32 at *
  rw [List.all_append, h]
  simp [hx]
theorem pathR_ok (n : Nat) : ∀ (m : Nat) (L : List ByteArray), L.length = n → all32 L = true → all32 (pathR m L) = true := by
  induction n using Nat.strongRecOn with
  | ind n ih =>
    intro m L hL h
    rcases Nat.lt_or_ge n 2 with h1 | h2
    · rw [pathR_one m (by omega)]; rfl
    · have hs := spl_lt h2
      by_cases hm : m < spl n
      · rw [pathR_left (k := spl n) (by rw [hL]) (by omega) hm]
        exact all32_snoc (ih _ hs.2.1 m _ (by rw [List.length_take]; omega) (all32_sub h fun x hx => List.mem_of_mem_take hx)) (rootR_32 (all32_sub h fun x hx => List.mem_of_mem_drop hx))
      · rw [pathR_right (k := spl n) (by rw [hL]) (by omega) hm]
        exact all32_snoc (ih (n - spl n) (by omega) _ _ (by rw [List.length_drop]; omega) (all32_sub h fun x hx => List.mem_of_mem_drop hx)) (rootR_32 (all32_sub h fun x hx => List.mem_of_mem_take hx))
theorem proofR_ok (n : Nat) : ∀ (m : Nat) (L : List ByteArray) (b : Bool), L.length = n → 1 ≤ m → m ≤ n → all32 L = true → all32 (proofR m L b) = true := by
  induction n using Nat.strongRecOn with
  | ind n ih =>
    intro m L b hL h1 hmn h
    by_cases he : m = n
    · rw [proofR_same (by omega)]
      cases b
      · exact all32_snoc (L := []) rfl (rootR_32 h)
      · rfl
    · have hs := spl_lt (show 2 ≤ n by omega)
      by_cases hm : m ≤ spl n
      · rw [proofR_left b (k := spl n) (by rw [hL]) (by omega) (by omega) hm]
        exact all32_snoc (ih _ hs.2.1 m _ b (by rw [List.length_take]; omega) h1 hm (all32_sub h fun x hx => List.mem_of_mem_take hx)) (rootR_32 (all32_sub h fun x hx => List.mem_of_mem_drop hx))
      · rw [proofR_right b (k := spl n) (by rw [hL]) (by omega) (by omega) hm]
        exact all32_snoc (ih (n - spl n) (by omega) _ _ false (by rw [List.length_drop]; omega) (by omega) (by omega) (all32_sub h fun x hx => List.mem_of_mem_drop hx)) (rootR_32 (all32_sub h fun x hx => List.mem_of_mem_take hx))

theorem all32_of {L : List ByteArray} (h : ∀ s ∈ L, s.size = 32) : all32 L = true := by
  unfold all32
  rw [List.all_eq_true]
  intro s hs
  simpa using h s hs
def bothSK (f s : Nat) (b : Bool) (old : ByteArray) (L : List ByteArray) : ByteArray × ByteArray :=
  climbB nodeS (fl f s) (restL (wh f s b) L) (seedL (wh f s b) old L, seedL (wh f s b) old L)
theorem rootOf_okK {n m : Nat} {leaf : ByteArray} {L : List ByteArray} (h : m < n) (hn : n ≤ 1099511627776) (hl : leaf.size = 32) (ha : all32 L = true) (hL : L.length = wayN n m) :
    rootOfE n m leaf L = 0 ∧ rootOfS n m leaf L = climbF nodeS (dn n m) L leaf := by
  have h0 : rootOfE n m leaf L = 0 := by
    unfold rootOfE
    rw [(pathLenS_ok h hn).1, (pathLenS_ok h hn).2, if_neg (by simp), if_neg (by simp [hl, ha]), if_neg (by simp [hL])]
  refine ⟨h0, ?_⟩
  unfold rootOfS
  rw [h0, if_pos rfl, Int.toNat_natCast, Int.toNat_natCast]
theorem rootsOf_okK {f s : Nat} {old : ByteArray} {L : List ByteArray} (h1 : 1 ≤ f) (h2 : f ≤ s) (hs : s ≤ 1099511627776) (hl : old.size = 32) (ha : all32 L = true) (hL : L.length = toldN f s true) :
    rootsOfE f s old L = 0 ∧ rootsOfS f s old L = bothSK f s true old L := by
  have h0 : rootsOfE f s old L = 0 := by
    unfold rootsOfE
    rw [(proofLenS_ok h1 h2 hs).1, (proofLenS_ok h1 h2 hs).2, if_neg (by simp), if_neg (by simp [hl, ha]), if_neg (by simp [hL])]
  refine ⟨h0, ?_⟩
  unfold rootsOfS
  rw [h0, if_pos rfl, Int.toNat_natCast, Int.toNat_natCast]
  rfl
/-- a path of the first n leaves is taken -/
theorem path_taken {L : List ByteArray} (h32 : ∀ s ∈ L, s.size = 32) {n m : Nat} {leaf : ByteArray} (hm : m < n) (hn : n ≤ L.length) (hn4 : n ≤ 4096) (hleaf : L[m]? = some leaf) :
    pathT (L.take n) m = partsL L (Go.Scr.pathT 0 n m).reverse ∧ pathE (L.take n) m = 0 ∧ inclS n m leaf (partsL L (Go.Scr.pathT 0 n m).reverse) (partL L 0 n) = 0 := by
  have hl : (L.take n).length = n := by rw [List.length_take]; omega
  have hall := all32_of h32
  have halln : all32 (L.take n) = true := all32_sub hall fun x hx => List.mem_of_mem_take hx
  have hre : refusedE (L.take n) = 0 := by unfold refusedE; rw [if_neg (by omega), if_neg (by rw [show ok32 (L.take n) = true from halln]; decide)]
  have hpe : pathE (L.take n) m = 0 := by unfold pathE; rw [if_neg (by simp [hre]), if_neg (by omega)]
  have hps : pathR m (L.take n) = partsL L (Go.Scr.pathT 0 n m).reverse := by have := path_sec L n 0 m hm (by omega); rwa [List.drop_zero] at this
  have hpt : pathT (L.take n) m = partsL L (Go.Scr.pathT 0 n m).reverse := by unfold pathT; rw [if_pos hpe, Int.toNat_natCast, hps]
  refine ⟨hpt, hpe, ?_⟩
  have hlf : (L.take n)[m]? = some leaf := by rw [List.getElem?_take_of_lt hm]; exact hleaf
  have hls : leaf.size = 32 := h32 _ (List.mem_of_getElem? hleaf)
  have hpl : (partsL L (Go.Scr.pathT 0 n m).reverse).length = wayN n m := by rw [← hps]; unfold pathR wayN; exact pathL_length nodeS hempty n m _ hl
  have hpall : all32 (partsL L (Go.Scr.pathT 0 n m).reverse) = true := by rw [← hps]; exact pathR_ok _ _ _ rfl halln
  have r1 := rootOf_okK (n := n) (m := m) (leaf := leaf) (L := partsL L (Go.Scr.pathT 0 n m).reverse) hm (by omega) hls hpall hpl
  have hcl : climbF nodeS (dn n m) (partsL L (Go.Scr.pathT 0 n m).reverse) leaf = rootR (L.take n) := by rw [← hps]; exact climb_path nodeS hempty n m _ leaf hl hlf
  rw [hcl] at r1
  have hpr : partL L 0 n = rootR (L.take n) := by unfold partL; rw [List.drop_zero, Nat.sub_zero]
  unfold inclS
  rw [r1.1, r1.2, hpr, if_neg (by simp), if_neg (by simp [rootR_32 halln]), if_neg (by simp)]
theorem proof_taken {L : List ByteArray} (h32 : ∀ s ∈ L, s.size = 32) {n m : Nat} (hm1 : 1 ≤ m) (hm : m ≤ n) (hn : n ≤ L.length) (hn4 : n ≤ 4096) :
    proofT (L.take n) m = partsL L (Go.Scr.proofT 0 n m).reverse ∧ proofE (L.take n) m = 0 ∧ consS m n (partL L 0 m) (partL L 0 n) (partsL L (Go.Scr.proofT 0 n m).reverse) = 0 := by
  have hl : (L.take n).length = n := by rw [List.length_take]; omega
  have hall := all32_of h32
  have halln : all32 (L.take n) = true := all32_sub hall fun x hx => List.mem_of_mem_take hx
  have hallm : all32 (L.take m) = true := all32_sub hall fun x hx => List.mem_of_mem_take hx
  have hre : refusedE (L.take n) = 0 := by unfold refusedE; rw [if_neg (by omega), if_neg (by rw [show ok32 (L.take n) = true from halln]; decide)]
  have hqe : proofE (L.take n) m = 0 := by unfold proofE; rw [if_neg (by simp [hre]), if_neg (by omega)]
  have hps : proofR m (L.take n) true = partsL L (Go.Scr.proofT 0 n m).reverse := by have := proof_sec L n 0 m hm1 hm (by omega); rwa [List.drop_zero] at this
  have hqt : proofT (L.take n) m = partsL L (Go.Scr.proofT 0 n m).reverse := by unfold proofT; rw [if_pos hqe, Int.toNat_natCast, hps]
  refine ⟨hqt, hqe, ?_⟩
  have hpl : (partsL L (Go.Scr.proofT 0 n m).reverse).length = toldN m n true := by rw [← hps]; unfold proofR; exact proofL_length nodeS hempty n m _ true hl
  have hpall : all32 (partsL L (Go.Scr.proofT 0 n m).reverse) = true := by rw [← hps]; exact proofR_ok _ _ _ _ rfl hm1 (by omega) halln
  have hprn : partL L 0 n = rootR (L.take n) := by unfold partL; rw [List.drop_zero, Nat.sub_zero]
  have hprm : partL L 0 m = rootR (L.take m) := by unfold partL; rw [List.drop_zero, Nat.sub_zero]
  have htt : (L.take n).take m = L.take m := by rw [List.take_take, Nat.min_eq_left hm]
  have r2 := rootsOf_okK (f := m) (s := n) (old := rootR (L.take m)) (L := partsL L (Go.Scr.proofT 0 n m).reverse) hm1 hm (by omega) (rootR_32 hallm) hpall hpl
  have hcb : bothSK m n true (rootR (L.take m)) (partsL L (Go.Scr.proofT 0 n m).reverse) = (rootR (L.take m), rootR (L.take n)) := by
    rw [← hps]
    unfold bothSK
    have := climb_proof nodeS hempty n m (L.take n) true (rootR (L.take m)) hl hm1 hm (fun _ => by rw [htt]; rfl)
    rw [htt] at this
    exact this
  rw [hcb] at r2
  unfold consS
  rw [hprm, hprn, r2.1, r2.2, if_neg (by simp), if_neg (by simp [rootR_32 halln]), if_neg (by simp)]
end Go.Proofs.YtafookdllnhdaaaDoor
