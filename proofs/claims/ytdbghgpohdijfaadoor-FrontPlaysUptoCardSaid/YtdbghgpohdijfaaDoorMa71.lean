/- An edge of n leaves by its hashes: one leaf more, what Load says (plain). -/
import Derived.Test.YtdbghgpohdijfaaDoorMa64
import Derived.Test.YtdbghgpohdijfaaDoorMa32
import Derived.Test.YtdbghgpohdijfaaDoorMa66
import Derived.Test.YtdbghgpohdijfaaDoorMa69
import Derived.Test.YtdbghgpohdijfaaDoorMa12
import Derived.Laws.CopyOwn
import Derived.Deep.RegionHeld3
namespace Go.Proofs.YtdbghgpohdijfaaDoor
open Go.RowKit Go.Scr
set_option linter.unusedVariables false
/-- the pieces of n leaves, by their hashes -/
def rowN (n : Nat) (H : List ByteArray) : List Pc := rowA (valK nodeS (cutA 0 n) H) 0 n
def addT (n : Nat) (H : List ByteArray) (x : ByteArray) : List ByteArray := jnT 0 n (n + 1) H [x]
/-- a right edge -/
def EOk (n : Nat) (H : List ByteArray) : Prop := n ≤ 1099511627776 ∧ H.length = (cutA 0 n).length ∧ ∀ s ∈ H, s.size = 32
theorem EOk.l80 {n : Nat} {H : List ByteArray} (h : EOk n H) : H.length ≤ 80 := by rw [h.2.1]; exact cutA_80 h.1
theorem EOk.nil : EOk 0 [] := ⟨by decide, by rw [cutA_nil (Nat.le_refl _)]; rfl, fun s hs => by simp at hs⟩
theorem rowN_map {n : Nat} {H : List ByteArray} (h : H.length = (cutA 0 n).length) : (rowN n H).map (fun x => x.2.2) = H := single_known h
theorem rowN_len {n : Nat} (H : List ByteArray) (h : n ≤ 1099511627776) : (rowN n H).length ≤ 80 := by unfold rowN; rw [rowA_length]; exact cutA_80 h
theorem cutA_leaf (n : Nat) : cutA n (n + 1) = [(n, 0)] := by
  have h := rowA_one (val := fun _ _ => ⟨#[]⟩) (b := n) (l := 0) (by simp)
  unfold rowA at h
  rw [Nat.pow_zero] at h
  match hc : cutA n (n + 1), h with
  | [y], h => simp at h; obtain ⟨h1, h2⟩ := h; rw [← h1, ← h2]
  | [], h => simp at h
  | _ :: _ :: _, h => simp at h
theorem addT_len {n : Nat} (H : List ByteArray) (x : ByteArray) : (addT n H x).length = (cutA 0 (n + 1)).length := by
  unfold addT jnT nodesA
  rw [List.length_map, rowA_length]
/-- one leaf pushed behind an edge's pieces -/
theorem addT_row {n : Nat} {H : List ByteArray} (hH : H.length = (cutA 0 n).length) (x : ByteArray) : (pushR nodeS (rowN n H).reverse (n, 0, x)).reverse = rowN (n + 1) (addT n H x) := by
  obtain ⟨val, hval⟩ : ∃ v, v = valK nodeS (cutA 0 n ++ cutA n (n + 1)) (H ++ [x]) := ⟨_, rfl⟩
  have hB : [x].length = (cutA n (n + 1)).length := by rw [cutA_leaf]; rfl
  obtain ⟨k1, k2⟩ := join_known (nd := nodeS) hH hB
  rw [← hval] at k1 k2
  have e1 : rowN n H = rowA val 0 n := row_of_nodes (by rw [k1]; exact single_known hH)
  have e2 : rowA val n (n + 1) = [(n, 0, x)] := by
    have h := rowA_one (val := val) (b := n) (l := 0) (by simp)
    rw [Nat.pow_zero] at h
    unfold nodesA at k2
    rw [h] at k2 ⊢
    simp at k2
    rw [k2]
  have hx : (rowA val n (n + 1))[0]? = some (n, 0, x) := by rw [e2]; rfl
  have hp := push_joinE (val := val) (b := 0) (m := n) (e := n + 1) (j := 0) (x := (n, 0, x)) (Nat.zero_le _) (Nat.le_succ _) hx (by rw [hval]; exact join_nd)
  obtain ⟨_, b2, _⟩ := begA_next (val := val) _ n (n + 1) 0 rfl (Nat.le_succ _) hx
  rw [begA_zero (Nat.le_succ _), b2] at hp
  rw [e1, hp]
  show rowA val 0 (n + 1) = rowN (n + 1) (addT n H x)
  refine row_of_nodes ?_
  rw [single_known (addT_len H x)]
  unfold addT jnT
  rw [← hval]
theorem nodeS_32 {l r : ByteArray} (hl : l.size = 32) (hr : r.size = 32) : (nodeS l r).size = 32 := by unfold nodeS; rw [if_pos ⟨hl, hr⟩]; unfold hnode; rw [str_size, sha_length]
theorem lookP_mem : ∀ {K : List (Nat × Nat)} {H : List ByteArray} {x l : Nat} {h : ByteArray}, lookP K H x l = some h → h ∈ H
  | [], _, _, _, _, e => by simp [lookP] at e
  | k :: K, [], _, _, _, e => by simp [lookP] at e
  | k :: K, g :: H, x, l, h, e => by
    rw [lookP] at e
    split at e
    · cases e; exact List.mem_cons_self
    · exact List.mem_cons_of_mem _ (lookP_mem e)
theorem valK_32 {nd : ByteArray → ByteArray → ByteArray} (hnd : ∀ a b, a.size = 32 → b.size = 32 → (nd a b).size = 32) {K : List (Nat × Nat)} {H : List ByteArray} (hs : List.Pairwise (fun y z : Nat × Nat => y.1 + 2 ^ y.2 ≤ z.1) K) (hl : K.length = H.length) (h32 : ∀ s ∈ H, s.size = 32) :
    ∀ (l x : Nat), Cv K x l → (valKL nd K H l x).size = 32 := by
  have hz : ∀ x l, (x, l) ∈ K → ∃ h, lookP K H x l = some h := fun x l hm => by
    obtain ⟨j, hj⟩ := List.getElem?_of_mem hm
    obtain ⟨hj1, _⟩ := List.getElem?_eq_some_iff.mp hj
    exact ⟨H[j]'(by omega), lookP_at hs hj (List.getElem?_eq_getElem _)⟩
  intro l
  induction l with
  | zero =>
    intro x hc
    obtain ⟨h, hh⟩ := hz x 0 hc
    rw [valKL, hh]
    exact h32 _ (lookP_mem hh)
  | succ l ih =>
    intro x hc
    rw [valKL]
    cases hh : lookP K H x (l + 1) with
    | some h => exact h32 _ (lookP_mem hh)
    | none =>
      rcases hc with hc | hc
      · obtain ⟨h, h2⟩ := hz x (l + 1) hc
        rw [hh] at h2
        cases h2
      · exact hnd _ _ (ih _ hc.1) (ih _ hc.2)
theorem EOk.add {n : Nat} {H : List ByteArray} (h : EOk n H) (hn : n < 1099511627776) {x : ByteArray} (hx : x.size = 32) : EOk (n + 1) (addT n H x) := by
  refine ⟨by omega, addT_len H x, fun s hs => ?_⟩
  unfold addT jnT nodesA rowA at hs
  rw [List.map_map, List.mem_map] at hs
  obtain ⟨y, hy, rfl⟩ := hs
  exact valK_32 (fun a b => nodeS_32) (cut2_sorted 0 n (n + 1)) (by rw [List.length_append, List.length_append, cutA_leaf, h.2.1]; rfl) (fun s hs => by
    rcases List.mem_append.1 hs with h1 | h1
    · exact h.2.2 s h1
    · rw [List.mem_singleton.1 h1]; exact hx) _ _ (join_cv (Nat.zero_le n) (Nat.le_succ n) y hy)
/-- Load's error -/
def lodE (n : Int) (H : List ByteArray) : Int := if n < 0 ∨ 1099511627776 < n then 1 else if H.length ≠ (cutA 0 n.toNat).length then 50 else if ok32 H = false then 52 else 0
theorem EOk.ok32 {n : Nat} {H : List ByteArray} (h : EOk n H) : ok32 H = true := by
  show H.all (fun s => s.size == 32) = true
  rw [List.all_eq_true]
  intro s hs
  simpa using h.2.2 s hs
theorem EOk.lod {n : Nat} {H : List ByteArray} (h : EOk n H) : lodE n H = 0 := by
  unfold lodE
  rw [if_neg (by have := h.1; omega), if_neg (by rw [Int.toNat_natCast]; simpa using h.2.1), if_neg (by rw [h.ok32]; simp)]
/-- Add's error -/
def addE (n : Nat) (x : ByteArray) : Int := if x.size ≠ 32 then 52 else if n = 1099511627776 then 53 else 0
end Go.Proofs.YtdbghgpohdijfaaDoor
/- An edge of the program, of any size: made, loaded, a leaf taken, its root, its nodes, its clone: walked. -/
namespace Go.Proofs.YtdbghgpohdijfaaDoor
open Go.RowKit Go.Scr Go.ChangeMaps Go.MapKept
set_option linter.unusedVariables false
/-- an edge of n leaves by its hashes -/
structure EwI (w : World) (eb n : Nat) (H : List ByteArray) (v : Value) : Prop where
  fr : FrI w eb 64 [.int .i64 (n : Int)] (rowN n H) v
  ok : EOk n H
theorem EwI.below {w w' : World} {eb n : Nat} {H : List ByteArray} {v : Value} (h : EwI w eb n H v) (hb : Below w.heap.size w w') : EwI w' eb n H v := ⟨h.fr.below hb, h.ok⟩
theorem EwI.keep {w w' : World} {eb n : Nat} {H : List ByteArray} {v : Value} (h : EwI w eb n H v) (hk : ∀ g, ebQ eb v g → w'.heap[g]? = w.heap[g]?) : EwI w' eb n H v :=
  ⟨⟨(hk eb (.inl rfl)).trans h.fr.box, h.fr.hd.keep (fun g hg => hk g (.inr hg)), h.fr.ne⟩, h.ok⟩
theorem EwI.q_lt {w : World} {eb n : Nat} {H : List ByteArray} {v : Value} (h : EwI w eb n H v) {g : Nat} (hq : ebQ eb v g) : g < w.heap.size := by
  rcases hq with rfl | hq
  · exact blk_lt h.fr.box
  · exact h.fr.hd.lt hq
theorem EwI.len {w : World} {eb n : Nat} {H : List ByteArray} {v : Value} (h : EwI w eb n H v) : (rowN n H).length ≤ 80 := rowN_len H h.ok.1
theorem EwI.hs {w : World} {eb n : Nat} {H : List ByteArray} {v : Value} (h : EwI w eb n H v) : (rowN n H).map (fun x => x.2.2) = H := rowN_map h.ok.2.1
/-- a new edge -/
def EwN (w w' : World) (eb n : Nat) (H : List ByteArray) : Prop := ∃ v, EwI w' eb n H v ∧ (∀ q, ebQ eb v q → w.heap.size ≤ q) ∧ Below w.heap.size w w'
set_option maxRecDepth 100000 in
set_option maxHeartbeats 1000000 in
theorem ewnew_any (w : World) : Calls Tryd.prog 43 #[] w fun o w' => ∃ eb, o = .returned (.pointer (some ⟨eb, 0, none⟩)) ∧ EwN w w' eb 0 [] := by
  go_enter Tryd.func43, Tryd.ntmps43
  go_wp2
  go_ret
  refine ⟨w.heap.size, rfl, .slice none 0 0, ⟨⟨heap_alloc_new w _, ?_, fun e => nomatch e⟩, EOk.nil⟩, fun q hq => ?_, (Below.refl _ _).alloc (Nat.le_refl _) _⟩
  · have h0 : rowN 0 [] = [] := rowA_nil (Nat.le_refl _)
    rw [h0]
    exact ⟨rfl, .inl ⟨rfl, rfl⟩⟩
  · rcases hq with rfl | hq
    · exact Nat.le_refl _
    · exact nomatch hq
/-- Load's answer -/
def LodO (w : World) (n : Int) (H : List ByteArray) (o : Ending) (w' : World) : Prop :=
  (lodE n H ≠ 0 ∧ o = .returned (.tuple #[.pointer none, .int .i64 (lodE n H)]) ∧ Below w.heap.size w w') ∨ (∃ eb, lodE n H = 0 ∧ o = .returned (.tuple #[.pointer (some ⟨eb, 0, none⟩), .int .i64 0]) ∧ EwN w w' eb n.toNat H)
set_option maxRecDepth 100000 in
set_option maxHeartbeats 4000000 in
theorem ewload_any {w : World} {B : Nat} {n : Int} {v : Value} {H : List ByteArray} (hB : Bas w B) (hv : Txts w v H) :
    Calls Tryd.prog 45 #[.int .i64 n, v] w (LodO w n H) := by
  obtain ⟨ok, hok⟩ : ∃ b, b = decide (0 ≤ n ∧ n ≤ 1099511627776) := ⟨_, rfl⟩
  have CP : Hid (Calls Tryd.prog 85 #[.int .i64 n] w fun o w' => o = .returned (.bool ok) ∧ w' = w) := Lib.hid (by rw [hok]; exact fplace_any n w)
  have HV := Lib.hid hv
  obtain ⟨p, c, rfl, _, _, _⟩ := hv
  by_cases hn : 0 ≤ n ∧ n ≤ 1099511627776
  case neg =>
    have he : lodE n H = 1 := if_pos (by omega)
    obtain rfl : ok = false := by rw [hok]; exact decide_eq_false hn
    have HE := Lib.hid he
    clear hB hok he hn
    go_enter Tryd.func45, Tryd.ntmps45
    go_wp2_with (go_at_call 85; with_reducible refine CP.out.mono ?_; rintro o w' ⟨rfl, hww⟩; replace hww := hww.symm; subst hww)
    go_ret2
    exact .inl ⟨by rw [HE.out]; decide, by rw [HE.out]; rfl, Below.refl _ _⟩
  case pos =>
    obtain rfl : ok = true := by rw [hok]; exact decide_eq_true hn
    obtain ⟨m, rfl⟩ : ∃ m : Nat, n = m := ⟨n.toNat, by omega⟩
    have hm : m ≤ 1099511627776 := by omega
    have hn1 : ¬ ((m : Int) < 0 ∨ 1099511627776 < (m : Int)) := by omega
    by_cases hl : H.length = (cutA 0 m).length
    case neg =>
      have he : lodE (m : Int) H = 50 := by
        unfold lodE
        rw [if_neg hn1, if_pos]
        rw [Int.toNat_natCast]; exact hl
      have CF : Hid (Calls Tryd.prog 95 #[.int .i64 0, .int .i64 (m : Int), .slice p H.length c] w fun o w' => o = .returned (.tuple #[.slice none 0 0, .int .i64 50]) ∧ Below w.heap.size w w') := Lib.hid (ffilledW_len (b := 0) (e := m) hB (Nat.zero_le _) hm HV.out hl)
      have HE := Lib.hid he
      generalize H.length = hn' at CF ⊢
      clear hB hok he hn hn1 hl hm
      go_enter Tryd.func45, Tryd.ntmps45
      go_wp2_with (first
        | (go_at_call 85; with_reducible refine CP.out.mono ?_; rintro o w' ⟨rfl, hww⟩; replace hww := hww.symm; subst hww)
        | (go_at_call 95; with_reducible refine CF.out.mono ?_; rintro o w1 ⟨rfl, hu⟩; have HU := Lib.hid hu; clear hu))
      go_ret2
      exact .inl ⟨by rw [HE.out]; decide, by rw [HE.out]; rfl, HU.out⟩
    case pos =>
      have hk : nodesA (valK nodeS (cutA 0 m) H) 0 m = H := single_known hl
      have hv2 : Txts w (.slice p H.length c) (nodesA (valK nodeS (cutA 0 m) H) 0 m) := by rw [hk]; exact HV.out
      by_cases h32 : ok32 H = true
      case neg =>
        have h32 : ok32 H = false := by simpa using h32
        have he : lodE (m : Int) H = 52 := by
          unfold lodE
          rw [if_neg hn1, if_neg (by rw [Int.toNat_natCast]; exact fun h => h hl), if_pos h32]
        have CF : Hid (Calls Tryd.prog 95 #[.int .i64 0, .int .i64 (m : Int), .slice p H.length c] w fun o w' => o = .returned (.tuple #[.slice none 0 0, .int .i64 52]) ∧ Below w.heap.size w w') := Lib.hid (ffilledW_bad (b := 0) (e := m) hB (Nat.zero_le _) hm hv2 (by rw [hk]; exact h32))
        have HE := Lib.hid he
        generalize H.length = hn' at CF ⊢
        clear hB hok he hn hn1 hl hm hk hv2 h32 HV
        go_enter Tryd.func45, Tryd.ntmps45
        go_wp2_with (first
          | (go_at_call 85; with_reducible refine CP.out.mono ?_; rintro o w' ⟨rfl, hww⟩; replace hww := hww.symm; subst hww)
          | (go_at_call 95; with_reducible refine CF.out.mono ?_; rintro o w1 ⟨rfl, hu⟩; have HU := Lib.hid hu; clear hu))
        go_ret2
        exact .inl ⟨by rw [HE.out]; decide, by rw [HE.out]; rfl, HU.out⟩
      case pos =>
        have hz : ∀ s ∈ H, s.size = 32 := fun s hs => by
          unfold ok32 at h32
          rw [List.all_eq_true] at h32
          simpa using h32 s hs
        have hE : EOk m H := ⟨hm, hl, hz⟩
        have he := hE.lod
        obtain ⟨P, hP⟩ : ∃ P, P = rowN m H := ⟨_, rfl⟩
        have CF : Hid (Calls Tryd.prog 95 #[.int .i64 0, .int .i64 (m : Int), .slice p H.length c] w fun o w' => ∃ u, o = .returned (.tuple #[u, .int .i64 0]) ∧ PcI w w' u P) := Lib.hid (by rw [hP]; exact ffilledW_any (b := 0) (e := m) hB (Nat.zero_le _) hm hv2 (by rw [hk]; exact hz))
        have HE := Lib.hid he
        have HEK := Lib.hid hE
        have HP := Lib.hid hP
        generalize H.length = hn' at CF ⊢
        clear hB hok he hn hn1 hl hm hk hv2 h32 HV hz hE hP
        go_enter Tryd.func45, Tryd.ntmps45
        go_wp2_with (first
          | (go_at_call 85; with_reducible refine CP.out.mono ?_; rintro o w' ⟨rfl, hww⟩; replace hww := hww.symm; subst hww)
          | (go_at_call 95; with_reducible refine CF.out.mono ?_; rintro o w1 ⟨u, rfl, hu⟩; obtain ⟨p5, c5, rfl, _⟩ := hu.h.cells; have HU := Lib.hid hu; clear hu))
        go_ret2
        have hu := HU.out
        refine .inr ⟨w1.heap.size, HE.out, rfl, _, ⟨⟨heap_alloc_new w1 _, ?_, fun e => ?_⟩, HEK.out⟩, fun q hq => ?_, hu.b.alloc hu.b.size _⟩
        · have := hu.h.below ((Below.refl _ _).alloc (Nat.le_refl _) (.cells #[.slice p5 P.length c5, .int .i64 (m : Int)] 64))
          rw [HP.out] at this ⊢
          exact this
        · have := hu.h.lt e
          omega
        · rcases hq with rfl | hq
          · exact hu.b.size
          · exact hu.o q hq
/-- an edge behind Add -/
def addS (n : Nat) (H : List ByteArray) (x : ByteArray) : Nat × List ByteArray := if addE n x = 0 then (n + 1, addT n H x) else (n, H)
theorem addE_cases (n : Nat) (x : ByteArray) : (addE n x = 52 ∧ x.size ≠ 32) ∨ (addE n x = 53 ∧ x.size = 32 ∧ n = 1099511627776) ∨ (addE n x = 0 ∧ x.size = 32 ∧ n ≠ 1099511627776) := by
  unfold addE
  by_cases h : x.size = 32
  · by_cases h2 : n = 1099511627776
    · exact .inr (.inl ⟨by rw [if_neg (fun a => a h), if_pos h2], h, h2⟩)
    · exact .inr (.inr ⟨by rw [if_neg (fun a => a h), if_neg h2], h, h2⟩)
  · exact .inl ⟨by rw [if_pos h], h⟩
/-- the edge behind a call that changes it alone -/
def EwC (w w' : World) (eb : Nat) (v : Value) (m : Nat) (K : List ByteArray) : Prop := ∃ v', EwI w' eb m K v' ∧ Chg (ebQ eb v) w w' ∧ ∀ q, v'.ownBlock = some q → v.ownBlock = some q ∨ w.heap.size ≤ q
set_option maxRecDepth 100000 in
set_option maxHeartbeats 4000000 in
theorem ewadd_any {w : World} {B eb n : Nat} {H : List ByteArray} {v : Value} (h : EwI w eb n H v) (hB : Bas w B) (hlo : ∀ q, ebQ eb v q → B ≤ q) (x : ByteArray) :
    Calls Tryd.prog 44 #[.pointer (some ⟨eb, 0, none⟩), .string x] w fun o w' => o = .returned (.int .i64 (addE n x)) ∧ EwC w w' eb v (addS n H x).1 (addS n H x).2 := by
  obtain ⟨xs, hxs⟩ : ∃ y : Nat, y = x.size := ⟨_, rfl⟩
  have hn40 := h.ok.1
  have c0 : w.cell? ⟨eb, 1, none⟩ = some (.int .i64 (n : Int)) := cellB h.fr.box rfl
  rcases addE_cases n x with ⟨he, hx⟩ | ⟨he, hx, hn⟩ | ⟨he, hx, hn⟩
  · have hs : addS n H x = (n, H) := by unfold addS; rw [if_neg (by rw [he]; decide)]
    rw [he, hs]
    have hx0 : ((x.size : Int) == 32) = false := by rw [beq_eq_false_iff_ne]; omega
    have hx1 : ¬ (x.size : Int) = 32 := by omega
    have HH : Hid (EwI w eb n H v) := Lib.hid h
    clear hB hlo he hs hxs h hx hn40
    go_enter Tryd.func44, Tryd.ntmps44
    go_wp2
    go_ret
    exact ⟨rfl, v, HH.out, Chg.refl _ _, fun q hq => .inl hq⟩
  · subst hn
    have hs : addS 1099511627776 H x = (1099511627776, H) := by unfold addS; rw [if_neg (by rw [he]; decide)]
    rw [he, hs]
    have hx0 : (x.size : Int) = 32 := by omega
    have HH : Hid (EwI w eb 1099511627776 H v) := Lib.hid h
    clear hB hlo he hs hxs h hx hn40
    go_enter Tryd.func44, Tryd.ntmps44
    go_wp2
    go_ret
    exact ⟨rfl, v, HH.out, Chg.refl _ _, fun q hq => .inl hq⟩
  · have hs : addS n H x = (n + 1, addT n H x) := by unfold addS; rw [if_pos he]
    rw [he, hs]
    have hnb : n < 1099511627776 := by omega
    have hxi : (x.size : Int) = 32 := by omega
    have hni : ((n : Int) == 1099511627776) = false := by rw [beq_eq_false_iff_ne]; omega
    have hni2 : ¬ (n : Int) = 1099511627776 := by omega
    have HP : Hid (∀ w2, Below w.heap.size w w2 → Calls Tryd.prog 88 #[rowP eb, .agg #[.int .i64 (n : Int), .int .i64 0, .string x]] w2 fun o w' => o = .returned (.tuple #[]) ∧ w'.cell? ⟨eb, 1, none⟩ = some (.int .i64 (n : Int)) ∧ w'.frozen? ⟨eb, 1, none⟩ = false ∧ EwC w (w'.setCell ⟨eb, 1, none⟩ (.int .i64 ((n : Int) + 1))) eb v (n + 1) (addT n H x)) := Lib.hid (fun w2 hb2 => by
      have hf2 := h.fr.below hb2
      have hB2 : Bas w2 B := hB.below (hb2.mono hB.le)
      rw [← List.reverse_reverse (rowN n H)] at hf2
      have hmem : ∀ y ∈ (rowN n H).reverse, y.1 ≤ 1099511627776 ∧ y.2.1 ≤ 40 := fun y hy => by
        have h1 := rowA_mem (List.mem_reverse.1 hy)
        refine ⟨Nat.le_trans (Nat.le_trans (Nat.le_add_right _ _) h1.2) hn40, ?_⟩
        have h2 : 2 ^ y.2.1 ≤ 2 ^ 40 := Nat.le_trans (Nat.le_trans (Nat.le_add_left _ _) h1.2) hn40
        exact two_le' h2
      refine (fpush_any (p := (n, 0, x)) hf2 hB2 ⟨hlo eb (.inl rfl), fun g hg => hlo g (.inr hg)⟩ hmem ⟨by show n ≤ _; omega, by show 0 ≤ 41; omega⟩ (by rw [List.length_reverse]; have := h.len; omega)).mono ?_
      rintro o w' ⟨rfl, v', f', c', o'⟩
      rw [addT_row h.ok.2.1] at f'
      refine ⟨rfl, cellB f'.box rfl, frozB f'.box, v', ⟨f'.size (u := .int .i64 ((n : Int) + 1)), h.ok.add hnb hx⟩, Chg.set (Chg.below_to hb2 c') (.inl rfl) _, fun q hq => (o' q hq).imp id (fun h5 => Nat.le_trans hb2.size h5)⟩)
    have HD : Hid (Below w.heap.size w w.drew) := Lib.hid (Below.refl _ _).drew
    have hd0 : w.drew.cell? ⟨eb, 1, none⟩ = some (.int .i64 (n : Int)) := c0
    have HS := Lib.hid hd0
    clear h hn hx hB hlo hn40 he hs hxs
    go_enter Tryd.func44, Tryd.ntmps44
    go_upto_region 5 with fail
    go_region_held3 (fun w' => w'.cell? ⟨eb, 1, none⟩ = some (.int .i64 (n : Int))) (first | exact HS2.out | exact HS.out) (first
      | (go_at_call 88; (with_reducible refine (HP.out _ HD.out).mono ?_); rintro o w2 ⟨rfl, d0, d1, hd⟩; have HS2 := Lib.hid d0; have HE := Lib.hid hd; clear hd))
    go_wp2
    go_ret
    exact ⟨rfl, HE.out⟩
theorem ewroot_any {w : World} {eb n : Nat} {H : List ByteArray} {v : Value} (h : EwI w eb n H v) (ht : Tabs w) :
    Calls Tryd.prog 27 #[rowP eb] w fun o w' => o = .returned (.string (rootF H)) ∧ Below w.heap.size w w' := by
  have := rowroot_any h.fr (by have := h.len; omega) ht
  rwa [h.hs] at this
set_option maxRecDepth 100000 in
theorem ewsize_any {w : World} {eb n : Nat} {H : List ByteArray} {v : Value} (h : EwI w eb n H v) : Calls Tryd.prog 46 #[.pointer (some ⟨eb, 0, none⟩)] w fun o w' => o = .returned (.int .i64 (n : Int)) ∧ w' = w := by
  have c1 : w.cell? ⟨eb, 1, none⟩ = some (.int .i64 (n : Int)) := cellB h.fr.box rfl
  clear h
  go_enter Tryd.func46, Tryd.ntmps46
  go_wp2
  go_ret
  exact ⟨rfl, rfl⟩
theorem ewnodes_any {w : World} {eb n : Nat} {H : List ByteArray} {v : Value} (h : EwI w eb n H v) :
    Calls Tryd.prog 24 #[rowP eb] w fun o w' => ∃ p c, o = .returned (.slice p H.length c) ∧ LfI w w' (.slice p H.length c) H.length H := by
  have := fnodesF_any h.fr (by have := h.len; omega)
  rw [h.hs] at this
  refine this.mono ?_
  rintro o w' ⟨u, rfl, hu⟩
  obtain ⟨p, c, rfl, _⟩ := hu.h.cells
  exact ⟨p, c, rfl, hu⟩
set_option maxRecDepth 100000 in
set_option maxHeartbeats 4000000 in
theorem ewclone_any {w : World} {eb k : Nat} {H : List ByteArray} {v : Value} (h : EwI w eb k H v) :
    Calls Tryd.prog 47 #[.pointer (some ⟨eb, 0, none⟩)] w fun o w' => ∃ nb, o = .returned (.pointer (some ⟨nb, 0, none⟩)) ∧ EwN w w' nb k H := by
  obtain ⟨P, hP⟩ : ∃ P, P = rowN k H := ⟨_, rfl⟩
  obtain ⟨n, hn⟩ : ∃ n, n = k := ⟨_, rfl⟩
  have hl : P.length ≤ 80 := by rw [hP]; exact h.len
  have hfr := h.fr
  rw [← hP, ← hn] at hfr
  obtain ⟨p, c, rfl, _⟩ := hfr.hd.cells
  obtain ⟨m, hm⟩ : ∃ m, m = P.length := ⟨_, rfl⟩
  rw [← hm] at hfr
  have HC : Hid (∀ w', Below w.heap.size w w' → w'.cell? ⟨eb, 0, none⟩ = some (.slice p m c) ∧ w'.cell? ⟨eb, 1, none⟩ = some (.int .i64 (n : Int))) := Lib.hid (fun w' hb => by
    have := (hfr.below hb).box
    exact ⟨cellB this rfl, cellB this rfl⟩)
  have CC : Hid (∀ w', Below w.heap.size w w' → Calls Tryd.prog 96 #[.slice p m c] w' fun r w2 => ∃ v', r = .returned v' ∧ Held w2 115 3 v' m (pcV P) ∧ (∀ q, v'.ownBlock = some q → w'.heap.size ≤ q) ∧ Below w'.heap.size w' w2) := Lib.hid (fun w' hb => by
    have h1 := (hfr.below hb).hd
    rw [← hm] at h1
    exact cloneP_any h1 (by omega))
  have HH : Hid (P = rowN k H ∧ n = k ∧ m = P.length ∧ EOk k H) := Lib.hid ⟨hP, hn, hm, h.ok⟩
  have HB0 : Hid (Below w.heap.size w w.drew) := Lib.hid (Below.refl _ _).drew
  clear h hP hn hl hfr hm
  go_enter Tryd.func47, Tryd.ntmps47
  go_upto_region 1 with fail
  go_region_held3 (fun w' => w'.cell? ⟨eb, 0, none⟩ = some (.slice p m c) ∧ w'.cell? ⟨eb, 1, none⟩ = some (.int .i64 (n : Int))) (exact HC.out _ (by first | exact HB2.out | exact HB2.out.alloc HB2.out.size _ | exact HB0.out)) (first
    | (go_at_call 96; (with_reducible refine (CC.out _ HB0.out).mono ?_); rintro o w2 ⟨v2, rfl, h1, h2, h3⟩; obtain ⟨p2, c2, rfl, _⟩ := h1.cells; have HB2 : Hid (Below w.heap.size w w2) := Lib.hid (HB0.out.trans h3); have H1 := Lib.hid h1; have H2 := Lib.hid h2; clear h1 h2 h3))
  go_wp2_with fail
  go_ret
  have hh := HH.out
  refine ⟨w2.heap.size, rfl, .slice p2 m c2, ⟨⟨?_, ?_, fun e => ?_⟩, hh.2.2.2⟩, fun q hq => ?_, HB2.out.alloc HB2.out.size _⟩
  · rw [← hh.2.1]
    exact heap_alloc_new w2 _
  · rw [← hh.1, ← hh.2.2.1]
    exact H1.out.below ((Below.refl _ _).alloc (Nat.le_refl _) _)
  · have := H1.out.lt e
    omega
  · rcases hq with rfl | hq
    · exact HB2.out.size
    · exact Nat.le_trans HB0.out.size (H2.out q hq)
end Go.Proofs.YtdbghgpohdijfaaDoor
/- An edge of the document, of any size: made, loaded, a leaf taken, its root, its nodes, its clone: walked. -/
namespace Go.Proofs.YtdbghgpohdijfaaDoor
open Go.RowKit Go.Scr Go.ChangeMaps Go.MapKept
set_option linter.unusedVariables false
structure EdX (w : World) (xb n : Nat) (H : List ByteArray) (v : Value) : Prop where
  box : w.heap[xb]? = some (.cells #[.int .i64 (n : Int), v] 117 (0, 0))
  hd : Held w 9 1 v H.length (H.map Value.string)
  ne : v.ownBlock ≠ some xb
theorem EdX.below {w w' : World} {xb n : Nat} {H : List ByteArray} {v : Value} (h : EdX w xb n H v) (hb : Below w.heap.size w w') : EdX w' xb n H v := ⟨blk_below h.box hb (blk_lt h.box), h.hd.below hb, h.ne⟩
theorem EdX.keep {w w' : World} {xb n : Nat} {H : List ByteArray} {v : Value} (h : EdX w xb n H v) (hk : ∀ g, ebQ xb v g → w'.heap[g]? = w.heap[g]?) : EdX w' xb n H v :=
  ⟨(hk xb (.inl rfl)).trans h.box, h.hd.keep (fun g hg => hk g (.inr hg)), h.ne⟩
theorem EdX.q_lt {w : World} {xb n : Nat} {H : List ByteArray} {v : Value} (h : EdX w xb n H v) {g : Nat} (hq : ebQ xb v g) : g < w.heap.size := by
  rcases hq with rfl | hq
  · exact blk_lt h.box
  · exact h.hd.lt hq
def XwN (w w' : World) (xb n : Nat) (H : List ByteArray) : Prop := ∃ v, EdX w' xb n H v ∧ (∀ q, ebQ xb v q → w.heap.size ≤ q) ∧ Below w.heap.size w w'
def XwC (w w' : World) (xb : Nat) (v : Value) (m : Nat) (K : List ByteArray) : Prop := ∃ v', EdX w' xb m K v' ∧ Chg (ebQ xb v) w w' ∧ ∀ q, v'.ownBlock = some q → v.ownBlock = some q ∨ w.heap.size ≤ q
theorem EdX.tx {w : World} {xb n : Nat} {H : List ByteArray} {v : Value} (h : EdX w xb n H v) (hl : H.length ≤ 80) : Txts w v H := held_txts5 h.hd rfl (by omega)
/-- a new edge of the document in a new block -/
theorem xw_new {w w1 : World} {n m : Nat} {H : List ByteArray} {p : Option Addr} {c : Nat} (h : LfI w w1 (.slice p m c) m H) (hm : m = H.length) : XwN w (w1.alloc (.cells #[.int .i64 (n : Int), .slice p m c] 117)) w1.heap.size n H := by
  refine ⟨_, ⟨heap_alloc_new w1 _, ?_, fun e => ?_⟩, fun q hq => ?_, h.b.alloc h.b.size _⟩
  · rw [← hm]; exact h.h.below ((Below.refl _ _).alloc (Nat.le_refl _) _)
  · have := h.h.lt e; omega
  · rcases hq with rfl | hq
    · exact h.b.size
    · exact h.o q hq
set_option maxRecDepth 100000 in
set_option maxHeartbeats 1000000 in
theorem xwnew_any (w : World) : Calls Tryd.prog 71 #[] w fun o w' => ∃ xb, o = .returned (.pointer (some ⟨xb, 0, none⟩)) ∧ XwN w w' xb 0 [] := by
  go_enter Tryd.func71, Tryd.ntmps71
  go_wp2
  go_ret
  exact ⟨w.heap.size, rfl, xw_new (p := none) (c := 0) ⟨Below.refl _ _, ⟨rfl, .inl ⟨rfl, rfl⟩⟩, fun g hg => nomatch hg⟩ rfl⟩
/-- Load's answer -/
def LodX (w : World) (n : Int) (H : List ByteArray) (o : Ending) (w' : World) : Prop :=
  (lodE n H ≠ 0 ∧ o = .returned (.tuple #[.pointer none, .int .i64 (lodE n H)]) ∧ Below w.heap.size w w') ∨ (∃ xb, lodE n H = 0 ∧ o = .returned (.tuple #[.pointer (some ⟨xb, 0, none⟩), .int .i64 0]) ∧ XwN w w' xb n.toNat H)
set_option maxRecDepth 100000 in
set_option maxHeartbeats 4000000 in
theorem xwload_any {w : World} {n : Int} {v : Value} {H : List ByteArray} (hv : Txts w v H) :
    Calls Tryd.prog 120 #[.int .i64 n, v] w (LodX w n H) := by
  have HV := Lib.hid hv
  obtain ⟨p, c, rfl, _, _, _⟩ := hv
  by_cases hn : n < 0 ∨ 1099511627776 < n
  · have HE := Lib.hid (show lodE n H = 1 from if_pos hn)
    rcases hn with hn | hn
    · go_enter Tryd.func120, Tryd.ntmps120
      go_wp2
      go_ret2
      exact .inl ⟨by rw [HE.out]; decide, by rw [HE.out]; rfl, Below.refl _ _⟩
    · have hn2 : ¬ n < 0 := by omega
      go_enter Tryd.func120, Tryd.ntmps120
      go_wp2
      go_ret2
      exact .inl ⟨by rw [HE.out]; decide, by rw [HE.out]; rfl, Below.refl _ _⟩
  · obtain ⟨m, rfl⟩ : ∃ m : Nat, n = m := ⟨n.toNat, by omega⟩
    have hm : m ≤ 1099511627776 := by omega
    have h0 : ¬ (m : Int) < 0 := by omega
    have h1 : ¬ (1099511627776 : Int) < (m : Int) := by omega
    obtain ⟨nc, hnc⟩ : ∃ x, x = (cutA 0 m).length := ⟨_, rfl⟩
    obtain ⟨nh, hnh⟩ : ∃ x, x = H.length := ⟨_, rfl⟩
    have CC : Hid (∀ w', Calls Tryd.prog 74 #[.int .i64 0, .int .i64 (m : Int)] w' fun o z => ∃ p c, o = .returned (.slice p nc c) ∧ Below w'.heap.size w' z) := Lib.hid (fun w' => by
      refine (cut5_any 0 m w' (Nat.zero_le _) hm).mono ?_
      rintro o z ⟨u, rfl, hu⟩
      obtain ⟨p, c, rfl, _⟩ := hu.h.cells
      exact ⟨p, c, by rw [hnc], hu.b⟩)
    have CH : Hid (∀ w', Below w.heap.size w w' → Calls Tryd.prog 90 #[.slice p nh c] w' fun e w'' => e = .returned (.bool (ok32 H)) ∧ w'' = w') := Lib.hid (fun w' hb => by rw [hnh]; exact hashes5_any _ H w' (HV.out.below hb (Nat.le_refl _)))
    by_cases hl : nh = nc
    case neg =>
      have HE : Hid (lodE (m : Int) H = 50) := Lib.hid (by
        unfold lodE
        rw [if_neg (by omega), if_pos]
        rw [Int.toNat_natCast, ← hnc, ← hnh]; exact hl)
      have hl2 : ((nh : Int) == (nc : Int)) = false := by rw [beq_eq_false_iff_ne]; omega
      have hl3 : ¬ (nh : Int) = (nc : Int) := by omega
      rw [← hnh]
      clear hn hnc hnh hl hm CH
      go_enter Tryd.func120, Tryd.ntmps120
      go_wp2_with (go_at_call 74; (with_reducible refine (CC.out _).mono ?_); rintro o z ⟨p5, c5, rfl, h⟩; have HZ := Lib.hid h; clear h)
      go_ret2
      exact .inl ⟨by rw [HE.out]; decide, by rw [HE.out]; rfl, HZ.out⟩
    case pos =>
      have hl80 : nh ≤ 80 := by rw [hl, hnc]; exact cutA_80 hm
      have hee : ∀ e, lodE (m : Int) H = e ↔ (if ok32 H = false then 52 else 0) = e := fun e => by
        unfold lodE
        rw [if_neg (by omega), if_neg]
        rw [Int.toNat_natCast, ← hnc, ← hnh]; exact fun h => h hl
      obtain ⟨ok, hok⟩ : ∃ b, b = ok32 H := ⟨_, rfl⟩
      rw [← hok] at CH hee
      have CP : Hid (∀ w', Below w.heap.size w w' → Calls Tryd.prog 80 #[.slice p nh c] w' fun o z => ∃ q d, o = .returned (.slice q nh d) ∧ LfI w' z (.slice q nh d) nh H) := Lib.hid (fun w' hb => by
        rw [hnh]
        refine (copied5_any _ H w' (HV.out.below hb (Nat.le_refl _)) (by omega)).mono ?_
        rintro o z ⟨u, rfl, hu⟩
        obtain ⟨q, d, rfl, _⟩ := hu.h.cells
        exact ⟨q, d, rfl, hu⟩)
      have hle : (nh : Int) = (nc : Int) := by omega
      have hNN := Lib.hid hnh
      cases ok with
      | false =>
        have HE : Hid (lodE (m : Int) H = 52) := Lib.hid ((hee 52).2 (if_pos rfl))
        rw [← hnh]
        clear hn hnc hnh hl hm hee hok
        go_enter Tryd.func120, Tryd.ntmps120
        go_wp2_with (first
          | (go_at_call 74; (with_reducible refine (CC.out _).mono ?_); rintro o z ⟨p5, c5, rfl, h⟩; have HZ := Lib.hid h; clear h)
          | (go_at_call 90; (with_reducible refine (CH.out _ HZ.out).mono ?_); rintro o z2 ⟨rfl, hww⟩; replace hww := hww.symm; subst hww))
        go_ret2
        exact .inl ⟨by rw [HE.out]; decide, by rw [HE.out]; rfl, HZ.out⟩
      | true =>
        have HE : Hid (lodE (m : Int) H = 0) := Lib.hid ((hee 0).2 (if_neg (by decide)))
        rw [← hnh]
        clear hn hnc hnh hl hm hee hok
        go_enter Tryd.func120, Tryd.ntmps120
        go_wp2_with (first
          | (go_at_call 74; (with_reducible refine (CC.out _).mono ?_); rintro o z ⟨p5, c5, rfl, h⟩; have HZ := Lib.hid h; clear h)
          | (go_at_call 90; (with_reducible refine (CH.out _ HZ.out).mono ?_); rintro o z2 ⟨rfl, hww⟩; replace hww := hww.symm; subst hww)
          | (go_at_call 80; (with_reducible refine (CP.out _ HZ.out).mono ?_); rintro o z3 ⟨q5, d5, rfl, h⟩; have HL := Lib.hid h; clear h))
        go_ret2
        have hx := xw_new (n := m) HL.out hNN.out
        obtain ⟨v', k1, k2, k3⟩ := hx
        exact .inr ⟨z3.heap.size, HE.out, rfl, v', k1, fun q hq => Nat.le_trans HZ.out.size (k2 q hq), below_from HZ.out k3 HZ.out.size⟩
set_option maxRecDepth 100000 in
theorem xwsize_any {w : World} {xb n : Nat} {H : List ByteArray} {v : Value} (h : EdX w xb n H v) : Calls Tryd.prog 76 #[.pointer (some ⟨xb, 0, none⟩)] w fun o w' => o = .returned (.int .i64 (n : Int)) ∧ w' = w := by
  have c1 : w.cell? ⟨xb, 0, none⟩ = some (.int .i64 (n : Int)) := cellB h.box rfl
  clear h
  go_enter Tryd.func76, Tryd.ntmps76
  go_wp2
  go_ret
  exact ⟨rfl, rfl⟩
set_option maxRecDepth 100000 in
theorem xwnodes_any {w : World} {xb n : Nat} {H : List ByteArray} {v : Value} (h : EdX w xb n H v) (hl : H.length ≤ 80) : Calls Tryd.prog 26 #[.pointer (some ⟨xb, 0, none⟩)] w fun o w' => ∃ p c, o = .returned (.slice p H.length c) ∧ LfI w w' (.slice p H.length c) H.length H := by
  have c1 : w.cell? ⟨xb, 1, none⟩ = some v := cellB h.box rfl
  have CP := Lib.hid (copied5_any v H w (h.tx hl) (by omega))
  obtain ⟨p, c, rfl, _⟩ := h.hd.cells
  generalize H.length = n at *
  clear h hl
  go_enter Tryd.func26, Tryd.ntmps26
  go_wp2_with (go_at_call 80; (with_reducible refine (CP.out).mono ?_); rintro o z3 ⟨u, rfl, h⟩; obtain ⟨q5, d5, rfl, _⟩ := h.h.cells; have HL := Lib.hid h; clear h)
  go_ret
  exact ⟨_, _, rfl, HL.out⟩
set_option maxRecDepth 100000 in
theorem xwroot_any {w : World} {xb n : Nat} {H : List ByteArray} {v : Value} (h : EdX w xb n H v) (hl : H.length ≤ 80) : Calls Tryd.prog 28 #[.pointer (some ⟨xb, 0, none⟩)] w fun o w' => o = .returned (.string (rootF H)) ∧ Below w.heap.size w w' := by
  have c1 : w.cell? ⟨xb, 1, none⟩ = some v := cellB h.box rfl
  have CP := Lib.hid (root5_any v H w (h.tx hl) (by omega))
  obtain ⟨p, c, rfl, _⟩ := h.hd.cells
  generalize H.length = n at *
  generalize rootF H = r at *
  clear h hl
  go_enter Tryd.func28, Tryd.ntmps28
  go_wp2_with (go_at_call 84; (with_reducible refine (CP.out).mono ?_); rintro o z3 ⟨rfl, h⟩; have HL := Lib.hid h; clear h)
  go_ret
  exact ⟨rfl, HL.out⟩
set_option maxRecDepth 100000 in
set_option maxHeartbeats 4000000 in
theorem xwclone_any {w : World} {xb k : Nat} {H : List ByteArray} {v : Value} (h : EdX w xb k H v) (hl : H.length ≤ 80) :
    Calls Tryd.prog 77 #[.pointer (some ⟨xb, 0, none⟩)] w fun o w' => ∃ nb, o = .returned (.pointer (some ⟨nb, 0, none⟩)) ∧ XwN w w' nb k H := by
  obtain ⟨n, hn⟩ : ∃ n, n = H.length := ⟨_, rfl⟩
  have hbox := h.box
  obtain ⟨p, c, rfl⟩ : ∃ p c, v = .slice p n c := by obtain ⟨p, c, e, _⟩ := h.hd.cells; exact ⟨p, c, by rw [e, hn]⟩
  have HC : Hid (∀ w', Below w.heap.size w w' → w'.cell? ⟨xb, 0, none⟩ = some (.int .i64 (k : Int)) ∧ w'.cell? ⟨xb, 1, none⟩ = some (.slice p n c)) := Lib.hid (fun w' hb => by
    have := (h.below hb).box
    exact ⟨cellB this rfl, cellB this rfl⟩)
  have CC : Hid (∀ w', Below w.heap.size w w' → Calls Tryd.prog 80 #[.slice p n c] w' fun r w2 => ∃ v', r = .returned v' ∧ LfI w' w2 v' n H) := Lib.hid (fun w' hb => by
    rw [hn]
    have := (h.below hb).tx hl
    rw [hn] at this
    exact copied5_any _ H w' this (by omega))
  have HN := Lib.hid hn
  have HB0 : Hid (Below w.heap.size w w.drew) := Lib.hid (Below.refl _ _).drew
  clear h hn hl hbox
  go_enter Tryd.func77, Tryd.ntmps77
  go_upto_region 1 with fail
  go_region_held3 (fun w' => w'.cell? ⟨xb, 0, none⟩ = some (.int .i64 (k : Int)) ∧ w'.cell? ⟨xb, 1, none⟩ = some (.slice p n c)) (exact HC.out _ (by first | exact HB2.out | exact HB2.out.alloc HB2.out.size _ | exact HB0.out)) (first
    | (go_at_call 80; (with_reducible refine (CC.out _ HB0.out).mono ?_); rintro o w2 ⟨v2, rfl, h1⟩; obtain ⟨p2, c2, rfl, _⟩ := h1.h.cells; have HB2 : Hid (Below w.heap.size w w2) := Lib.hid (HB0.out.trans h1.b); have H1 := Lib.hid h1; clear h1))
  go_wp2_with fail
  go_ret
  obtain ⟨v', k1, k2, k3⟩ := xw_new (n := k) H1.out HN.out
  exact ⟨w2.heap.size, rfl, v', k1, fun q hq => Nat.le_trans HB0.out.size (k2 q hq), below_from HB0.out k3 HB0.out.size⟩
/-- one leaf as a list -/
theorem one_row {w : World} {g : Nat} {x : ByteArray} (h : w.heap[g]? = some (.cells #[.string x] 9 (0, 0))) : Txts w (.slice (some ⟨g, 0, none⟩) 1 1) [x] :=
  ⟨_, _, rfl, Nat.le_refl 1, (by show 1 ≤ 281474976710656; decide), fun j s hs => by
    match j, hs with
    | 0, hs =>
      obtain rfl : x = s := by simpa using hs
      refine ⟨_, rfl, ?_⟩
      have hadd : (⟨g, 0, none⟩ : Addr).add 0 = ⟨g, 0, none⟩ := by unfold Addr.add; split <;> simp_all
      rw [hadd]
      exact cellB h rfl
    | j + 1, hs => simp at hs⟩
/-- Join of an edge and one leaf -/
theorem add_jnE {n : Nat} {H : List ByteArray} (h : EOk n H) (hn : n ≠ 1099511627776) {x : ByteArray} (hx : x.size = 32) : jnE 0 (n : Int) H (n : Int) (((n + 1 : Nat) : Int)) [x] = 0 := by
  have h1 : rgE 0 (n : Int) H = 0 := by
    unfold rgE
    have := h.1
    rw [if_neg (by omega), if_neg (by rw [Int.toNat_natCast]; simpa using h.2.1), if_neg (by rw [h.ok32]; simp)]
  have h2 : rgE (n : Int) (((n + 1 : Nat) : Int)) [x] = 0 := by
    unfold rgE
    have := h.1
    rw [if_neg (by omega), if_neg (by rw [Int.toNat_natCast, Int.toNat_natCast, cutA_leaf]; simp), if_neg (by unfold ok32; simp [hx])]
  unfold jnE
  rw [h1, h2, if_neg (by omega), if_neg (by omega), if_neg (by omega)]
end Go.Proofs.YtdbghgpohdijfaaDoor
/- What stands between two steps of FrontPlays: edges, the document's, the book, the memory that is handed in. -/
namespace Go.Proofs.YtdbghgpohdijfaaDoor
open Go.RowKit Go.Scr Bk5 Go.ChangeMaps Go.MapKept
set_option linter.unusedVariables false
/-- two edges side by side: the program's, the document's -/
structure Sd where
  e : Nat
  n : Nat
  H : List ByteArray
  x : Nat
  m : Nat
  K : List ByteArray
def sdV1 (s : Sd) : List Value := [.pointer (some ⟨s.e, 0, none⟩), .pointer (some ⟨s.x, 0, none⟩)]
def sdV (S : List Sd) : List Value := (S.map sdV1).flatten
theorem sdV_append (A B : List Sd) : sdV (A ++ B) = sdV A ++ sdV B := by simp [sdV]
theorem sdV_cons (a : Sd) (S : List Sd) : sdV (a :: S) = .pointer (some ⟨a.e, 0, none⟩) :: .pointer (some ⟨a.x, 0, none⟩) :: sdV S := by simp [sdV, sdV1]
theorem sdV_one (a : Sd) : sdV [a] = [.pointer (some ⟨a.e, 0, none⟩), .pointer (some ⟨a.x, 0, none⟩)] := by simp [sdV, sdV1]
theorem sdV_get : ∀ {S : List Sd} {j : Nat} {s : Sd}, S[j]? = some s → (sdV S)[j * 2]? = some (.pointer (some ⟨s.e, 0, none⟩)) ∧ (sdV S)[j * 2 + 1]? = some (.pointer (some ⟨s.x, 0, none⟩))
  | [], _, _, h => by simp at h
  | a :: S, 0, s, h => by
    obtain rfl : a = s := by simpa using h
    rw [sdV_cons]
    exact ⟨rfl, rfl⟩
  | a :: S, j + 1, s, h => by
    have := sdV_get (S := S) (j := j) (s := s) (by simpa using h)
    rw [sdV_cons]
    rw [show (j + 1) * 2 = j * 2 + 1 + 1 by omega]
    exact this
theorem sdV_set {S : List Sd} {i : Nat} {s s' : Sd} (h : S[i]? = some s) (he : s'.e = s.e) (hx : s'.x = s.x) : sdV (S.set i s') = sdV S := by
  unfold sdV
  congr 1
  refine List.ext_getElem? fun j => ?_
  rw [List.getElem?_map, List.getElem?_map, List.getElem?_set]
  split
  · rename_i hij
    subst hij
    split
    · rw [h]
      show some (sdV1 s') = some (sdV1 s)
      unfold sdV1
      rw [he, hx]
    · rename_i hl
      rw [List.getElem?_eq_none (by omega)] at h
      cases h
  · rfl
/-- the book, at most t lists taken -/
structure BkS (W w : World) (b : Nat) (col : Nat → Nat) (t : Nat) (V : Nat → Value) (fr : List (Value × List ByteArray)) (wl : List Value) (ls : List (Value × List ByteArray)) (gr : List (Value × Nat)) : Prop where
  bk : BookI w W.heap.size b col V fr wl ls gr (gr.map (·.2))
  wl : wl.length = fr.length
  mkd : Mkd ls ls.length
  n1 : ls.length + fr.length ≤ t
  n2 : gr.length + 20 * fr.length ≤ 20 * t
  l1 : ∀ p ∈ fr, p.2.length ≤ 1048576
  l2 : ∀ p ∈ ls, p.2.length ≤ 1048576
  gl : GL gr
def BkX (W w : World) (b : Nat) (col : Nat → Nat) (t : Nat) : Prop := ∃ V fr wl ls gr, BkS W w b col t V fr wl ls gr
theorem BkS.move {W w w' : World} {b t : Nat} {col col' : Nat → Nat} {V : Nat → Value} {fr : List (Value × List ByteArray)} {wl : List Value} {ls : List (Value × List ByteArray)} {gr : List (Value × Nat)} (h : BkS W w b col t V fr wl ls gr)
    (hk : ∀ g, g < w.heap.size → 1 ≤ col g → w'.heap[g]? = w.heap[g]?) (hc : ∀ g, g < w.heap.size → col' g = col g) (hl : ∀ g, col' g ≠ 0 → W.heap.size ≤ g ∧ g < w'.heap.size) : BkS W w' b col' t V fr wl ls gr :=
  ⟨h.bk.move hk hc hl, h.wl, h.mkd, h.n1, h.n2, h.l1, h.l2, h.gl⟩
theorem BkS.below {W w w' : World} {b t : Nat} {col : Nat → Nat} {V : Nat → Value} {fr : List (Value × List ByteArray)} {wl : List Value} {ls : List (Value × List ByteArray)} {gr : List (Value × Nat)} (h : BkS W w b col t V fr wl ls gr) (hb : Below w.heap.size w w') : BkS W w' b col t V fr wl ls gr :=
  ⟨h.bk.below hb, h.wl, h.mkd, h.n1, h.n2, h.l1, h.l2, h.gl⟩
theorem BkS.dye {W w w' : World} {b t : Nat} {col : Nat → Nat} {V : Nat → Value} {fr : List (Value × List ByteArray)} {wl : List Value} {ls : List (Value × List ByteArray)} {gr : List (Value × Nat)} (h : BkS W w b col t V fr wl ls gr) (hb : Below w.heap.size w w') (hW : W.heap.size ≤ w.heap.size) (v : Value) (k : Nat) (hv : ∀ g, v.ownBlock = some g → w.heap.size ≤ g ∧ g < w'.heap.size) :
    BkS W w' b (dyeV col v k) t V fr wl ls gr ∧ ∀ g, g < w.heap.size → dyeV col v k g = col g := by
  obtain ⟨d1, d2⟩ := h.bk.dye hb hW k hv
  exact ⟨⟨d1, h.wl, h.mkd, h.n1, h.n2, h.l1, h.l2, h.gl⟩, d2⟩
/-- two lists that came out wait to be taken -/
def BkW2 (W w : World) (b : Nat) (col : Nat → Nat) (t : Nat) (v1 v2 : Value) (L1 L2 : List ByteArray) : Prop :=
  ∃ V fr wl ls gr, BkS W w b col t V fr wl ls gr ∧ PL w col v1 L1 (8 + ls.length + fr.length) ∧ PL w col v2 L2 (8 + ls.length + fr.length + 1)
def BkW1 (W w : World) (b : Nat) (col : Nat → Nat) (t : Nat) (v2 : Value) (L2 : List ByteArray) : Prop :=
  ∃ V fr wl ls gr, BkS W w b col t V fr wl ls gr ∧ PL w col v2 L2 (8 + ls.length + fr.length)
theorem BkX.two {W w2 wa wb wc we : World} {b t : Nat} {col : Nat → Nat} {v1 v2 : Value} {L1 L2 : List ByteArray} (H : BkX W w2 b col t) (hW : W.heap.size ≤ w2.heap.size)
    (l1 : LfI w2 wa v1 L1.length L1) (b2 : Below wa.heap.size wa wb) (l2 : LfI wb wc v2 L2.length L2) (b4 : Below wc.heap.size wc we) (h1 : L1.length ≤ 1048576) (h2 : L2.length ≤ 1048576) :
    ∃ col', BkW2 W we b col' t v1 v2 L1 L2 ∧ (∀ g, g < w2.heap.size → col' g = col g) ∧ ∀ g, col' g ≠ 0 → col g ≠ 0 ∨ (w2.heap.size ≤ g ∧ g < we.heap.size) := by
  obtain ⟨V, fr, wl, ls, gr, h⟩ := H
  obtain ⟨d1, e1⟩ := h.dye l1.b hW v1 (8 + ls.length + fr.length) (fun g hg => ⟨l1.o g hg, l1.h.lt hg⟩)
  have s1 := l1.b.size
  have s2 := b2.size
  have s3 := l2.b.size
  have s4 := b4.size
  obtain ⟨d2, e2⟩ := (d1.below b2).dye l2.b (by omega) v2 (8 + ls.length + fr.length + 1) (fun g hg => ⟨l2.o g hg, l2.h.lt hg⟩)
  have p1 : PL wa (dyeV col v1 (8 + ls.length + fr.length)) v1 L1 (8 + ls.length + fr.length) := ⟨l1.h, fun g hg => dyeV_at hg, h1, by omega⟩
  have p2 : PL wc (dyeV (dyeV col v1 (8 + ls.length + fr.length)) v2 (8 + ls.length + fr.length + 1)) v2 L2 (8 + ls.length + fr.length + 1) := ⟨l2.h, fun g hg => dyeV_at hg, h2, by omega⟩
  refine ⟨_, ⟨V, fr, wl, ls, gr, d2.below b4, (((p1.below b2).recol e2).below l2.b).below b4, p2.below b4⟩, fun g hg => (e2 g (by omega)).trans (e1 g hg), fun g hg => ?_⟩
  rcases dyeV_ne hg with he | he
  · have := l2.o g he
    have := l2.h.lt he
    exact .inr (by omega)
  · rcases dyeV_ne he with he | he
    · have := l1.o g he
      have := l1.h.lt he
      exact .inr (by omega)
    · exact .inl he
theorem BkS.took {W w w' : World} {b t : Nat} {col : Nat → Nat} {V : Nat → Value} {fr : List (Value × List ByteArray)} {wl : List Value} {ls : List (Value × List ByteArray)} {gr : List (Value × Nat)} {v : Value} {L : List ByteArray} (h : BkS W w b col t V fr wl ls gr) (hl : L.length ≤ 1048576)
    (hk : Took w w' W.heap.size b col (fr ++ [(v, L)]) wl ls gr (gr.map (·.2))) : ∃ col' V' wl', BkS W w' b col' (t + 1) V' (fr ++ [(v, L)]) wl' ls gr ∧ Only col (fun c => 1 ≤ c ∧ c < 4) w w' ∧ ∀ g, g < w.heap.size → col' g = col g := by
  obtain ⟨col', V', x, k1, k2, k3⟩ := hk
  refine ⟨col', V', wl ++ [x], ⟨k1, by rw [List.length_append, List.length_append, h.wl]; rfl, h.mkd, by have := h.n1; rw [List.length_append]; simp only [List.length_cons, List.length_nil]; omega, by have := h.n2; rw [List.length_append]; simp only [List.length_cons, List.length_nil]; omega, fun p hp => ?_, h.l2, h.gl⟩, k2, k3⟩
  rcases List.mem_append.mp hp with hp | hp
  · exact h.l1 p hp
  · obtain rfl : p = (v, L) := by simpa using hp
    exact hl
/-- what a call on the book leaves -/
def BkG (W w w' : World) (col col' : Nat → Nat) : Prop := Only col (fun c => 1 ≤ c) w w' ∧ (∀ g, g < w.heap.size → col' g = col g) ∧ ∀ g, col' g ≠ 0 → W.heap.size ≤ g ∧ g < w'.heap.size
theorem BkW2.takes {W w : World} {b t : Nat} {col : Nat → Nat} {p : Option Addr} {k c : Nat} {v2 : Value} {L1 L2 : List ByteArray} (H : BkW2 W w b col t (.slice p k c) v2 L1 L2) (ht : t ≤ 1000) (hW : W.heap.size ≤ w.heap.size) :
    Calls Tryd.prog 38 #[.pointer (some ⟨b, 0, none⟩), .slice p k c] w fun e w' => e = .returned (.tuple #[]) ∧ ∃ col', BkW1 W w' b col' (t + 1) v2 L2 ∧ BkG W w w' col col' := by
  obtain ⟨V, fr, wl, ls, gr, h, p1, p2⟩ := H
  refine (takes_any W.heap.size b col V fr ls wl gr _ p k c L1 w h.bk h.wl p1.he (by have := p1.ln; omega) (fun g hg => p1.co g hg) (by have := h.n1; omega) hW).mono fun e w' ⟨h1, h2⟩ => ⟨h1, ?_⟩
  obtain ⟨col', V', wl', k1, k2, k3⟩ := h.took p1.ln h2
  refine ⟨col', ⟨V', _, wl', ls, gr, k1, ?_⟩, k2.mono (fun c hc => hc.1), k3, k1.bk.st.lo⟩
  have := p2.only k2 k3
  rw [List.length_append]
  rwa [Nat.add_assoc] at this
theorem BkW1.takes {W w : World} {b t : Nat} {col : Nat → Nat} {p : Option Addr} {k c : Nat} {L1 : List ByteArray} (H : BkW1 W w b col t (.slice p k c) L1) (ht : t ≤ 1000) (hW : W.heap.size ≤ w.heap.size) :
    Calls Tryd.prog 38 #[.pointer (some ⟨b, 0, none⟩), .slice p k c] w fun e w' => e = .returned (.tuple #[]) ∧ ∃ col', BkX W w' b col' (t + 1) ∧ BkG W w w' col col' := by
  obtain ⟨V, fr, wl, ls, gr, h, p1⟩ := H
  refine (takes_any W.heap.size b col V fr ls wl gr _ p k c L1 w h.bk h.wl p1.he (by have := p1.ln; omega) (fun g hg => p1.co g hg) (by have := h.n1; omega) hW).mono fun e w' ⟨h1, h2⟩ => ⟨h1, ?_⟩
  obtain ⟨col', V', wl', k1, k2, k3⟩ := h.took p1.ln h2
  exact ⟨col', ⟨V', _, wl', ls, gr, k1⟩, k2.mono (fun c hc => hc.1), k3, k1.bk.st.lo⟩
theorem BkX.still {W w : World} {b t : Nat} {col : Nat → Nat} (H : BkX W w b col t) (ht : t ≤ 1000) (hW : W.heap.size ≤ w.heap.size) :
    Calls Tryd.prog 23 #[.pointer (some ⟨b, 0, none⟩)] w fun e w' => e = .returned (.bool true) ∧ ∃ col', BkX W w' b col' t ∧ BkG W w w' col col' := by
  obtain ⟨V, fr, wl, ls, gr, h⟩ := H
  refine (still_any W.heap.size b col V fr ls wl gr w h.bk h.wl h.mkd hW (by have := h.n1; omega) (by have := h.n2; omega) h.l1 h.l2 h.gl).mono fun e w' ⟨h1, h2⟩ => ⟨h1, ?_⟩
  obtain ⟨col', V', ls', gr', k1, k2, k3, k4, k5, k6, k7, k8⟩ := h2
  exact ⟨col', ⟨V', [], [], ls', gr', ⟨k1, rfl, by rw [k2]; exact k4, by rw [k2]; have := h.n1; simpa using this, by rw [k3]; have := h.n2; simpa using this, (fun p hp => by simp at hp), k5, k6⟩⟩, k7, k8, k1.st.lo⟩
theorem BkX.begin (W wr : World) (hb : Below W.heap.size W wr) :
    BkX W (wr.alloc (.cells #[.slice none 0 0, .slice none 0 0, .slice none 0 0, .slice none 0 0, .slice none 0 0] 48)) wr.heap.size (fun i => if i = wr.heap.size then 1 else 0) 0 := by
  have h := BI.begin wr
  refine ⟨_, [], [], [], [], ⟨⟨{ h.bk.st with lo := fun g hg => ?_ }, h.bk.fi, h.bk.wi, h.bk.li, h.bk.gi, h.bk.gb⟩, rfl, (fun j p hj => by simp at hj), by simp, by simp, (fun p hp => by simp at hp), (fun p hp => by simp at hp), (fun p hp => by simp at hp)⟩⟩
  have := h.bk.st.lo g hg
  have := hb.size
  omega
/-- the memory that is handed in again and again -/
def HaI (w : World) (hv : Value) (hl : List ByteArray) : Prop := (hv = .slice none 0 0 ∧ hl = []) ∨ ∃ g, hv = .slice (some ⟨g, 0, none⟩) hl.length hl.length ∧ SRow w g hl
theorem HaI.keep {w w' : World} {hv : Value} {hl : List ByteArray} (h : HaI w hv hl) (hk : ∀ g, hv.ownBlock = some g → w'.heap[g]? = w.heap[g]?) : HaI w' hv hl := by
  rcases h with h | ⟨g, rfl, hr⟩
  · exact .inl h
  · exact .inr ⟨g, rfl, (hk g rfl).trans hr⟩
theorem HaI.lt {w : World} {hv : Value} {hl : List ByteArray} (h : HaI w hv hl) {g : Nat} (hg : hv.ownBlock = some g) : g < w.heap.size := by
  rcases h with ⟨rfl, _⟩ | ⟨g', rfl, hr⟩
  · cases hg
  · cases hg; exact hr.lt
/-- all that stands, but for what has a colour of C: 1 book, 2 the world's box, 3 the list of sides, 4 the hand, 10 + 2 i and 11 + 2 i the i-th edges -/
structure PlJ (C : Nat → Prop) (W w : World) (wb b : Nat) (col oc : Nat → Nat) (S : List Sd) (sv hv : Value) (hl : List ByteArray) (t : Nat) : Prop where
  bl : Below W.heap.size W w
  bk : ¬ C 1 → BkX W w b col t
  bo : ¬ C 1 → ∀ g, col g ≠ 0 → oc g = 1
  ol : ∀ g, oc g ≠ 0 → W.heap.size ≤ g ∧ g < w.heap.size
  wx : ¬ C 2 → w.heap[wb]? = some (.cells #[sv, .pointer (some ⟨b, 0, none⟩), hv] 51 (0, 0))
  wo : oc wb = 2
  sd : ¬ C 3 → Held w 58 2 sv S.length (sdV S)
  so : ¬ C 3 → ∀ g, sv.ownBlock = some g → oc g = 3
  hd : ¬ C 4 → HaI w hv hl
  ho : ¬ C 4 → ∀ g, hv.ownBlock = some g → oc g = 4
  ed : ∀ i s, S[i]? = some s → ¬ C (10 + 2 * i) → ∃ v, EwI w s.e s.n s.H v ∧ ∀ g, ebQ s.e v g → oc g = 10 + 2 * i
  xd : ∀ i s, S[i]? = some s → ¬ C (11 + 2 * i) → ∃ v, EdX w s.x s.m s.K v ∧ ∀ g, ebQ s.x v g → oc g = 11 + 2 * i
  sl : S.length ≤ 6
  hn : hl.length ≤ 1048700
def noC : Nat → Prop := fun _ => False
/-- a step that changes what has a colour of C alone -/
structure Mv (C : Nat → Prop) (W w w' : World) (oc oc' : Nat → Nat) : Prop where
  bl : Below W.heap.size W w'
  sz : w.heap.size ≤ w'.heap.size
  sm : ∀ g, g < w.heap.size → oc g ≠ 0 → ¬ C (oc g) → w'.heap[g]? = w.heap[g]?
  co : ∀ g, g < w.heap.size → oc' g = oc g
  lo : ∀ g, oc' g ≠ 0 → W.heap.size ≤ g ∧ g < w'.heap.size
theorem PlJ.mv {C : Nat → Prop} {W w w' : World} {wb b t : Nat} {col oc oc' : Nat → Nat} {S : List Sd} {sv hv : Value} {hl : List ByteArray} (h : PlJ noC W w wb b col oc S sv hv hl t) (m : Mv C W w w' oc oc') : PlJ C W w' wb b col oc' S sv hv hl t := by
  have hwb : wb < w.heap.size := (h.ol wb (by rw [h.wo]; decide)).2
  have hk : ∀ {g c : Nat}, oc g = c → c ≠ 0 → ¬ C c → w'.heap[g]? = w.heap[g]? := fun {g c} e h0 hc => m.sm g (h.ol g (by rw [e]; exact h0)).2 (by rw [e]; exact h0) (by rw [e]; exact hc)
  have hc : ∀ {g c : Nat}, oc g = c → c ≠ 0 → oc' g = c := fun {g c} e h0 => (m.co g (h.ol g (by rw [e]; exact h0)).2).trans e
  have hb := h.bk id
  have ho := h.bo id
  have hlt : ∀ g, col g ≠ 0 → g < w.heap.size := fun g hg => (h.ol g (by rw [ho g hg]; decide)).2
  refine ⟨m.bl, fun hC => ?_, fun hC g hg => hc (ho g hg) (by decide), m.lo, fun hC => (hk h.wo (by decide) hC).trans (h.wx id), hc h.wo (by decide), fun hC => (h.sd id).keep fun g hg => hk (h.so id g hg) (by decide) hC, fun hC g hg => hc (h.so id g hg) (by decide), fun hC => (h.hd id).keep fun g hg => hk (h.ho id g hg) (by decide) hC, fun hC g hg => hc (h.ho id g hg) (by decide), fun i s hs hC => ?_, fun i s hs hC => ?_, h.sl, h.hn⟩
  · obtain ⟨V, fr, wl, ls, gr, hb⟩ := hb
    exact ⟨V, fr, wl, ls, gr, hb.move (fun g hg h1 => hk (ho g (by omega)) (by decide) hC) (fun g hg => rfl) (fun g hg => by
      have h1 := h.ol g (by rw [ho g hg]; decide)
      have := m.sz
      omega)⟩
  · obtain ⟨v, h1, h2⟩ := h.ed i s hs id
    exact ⟨v, h1.keep fun g hg => hk (h2 g hg) (by omega) hC, fun g hg => hc (h2 g hg) (by omega)⟩
  · obtain ⟨v, h1, h2⟩ := h.xd i s hs id
    exact ⟨v, h1.keep fun g hg => hk (h2 g hg) (by omega) hC, fun g hg => hc (h2 g hg) (by omega)⟩
theorem PlJ.below {W w w' : World} {wb b t : Nat} {col oc : Nat → Nat} {S : List Sd} {sv hv : Value} {hl : List ByteArray} (h : PlJ noC W w wb b col oc S sv hv hl t) (hb : Below w.heap.size w w') : PlJ noC W w' wb b col oc S sv hv hl t :=
  h.mv ⟨below_from h.bl hb h.bl.size, hb.size, fun g hg _ _ => hb.block g hg, fun _ _ => rfl, fun g hg => by have := h.ol g hg; have := hb.size; omega⟩
/-- the i-th edge of the program has changed -/
theorem PlJ.setE {W w w' : World} {wb b t i k : Nat} {col oc : Nat → Nat} {S : List Sd} {sv hv v : Value} {hl G : List ByteArray} {s : Sd} (h : PlJ noC W w wb b col oc S sv hv hl t) (hs : S[i]? = some s) (hv' : EwI w s.e s.n s.H v) (hq : ∀ g, ebQ s.e v g → oc g = 10 + 2 * i) (hc : EwC w w' s.e v k G) :
    ∃ oc', PlJ noC W w' wb b col oc' (S.set i ⟨s.e, k, G, s.x, s.m, s.K⟩) sv hv hl t ∧ ∀ g, g < w.heap.size → oc' g = oc g := by
  obtain ⟨v', k1, k2, k3⟩ := hc
  have hil := (List.getElem?_eq_some_iff.mp hs).1
  have hlo : ∀ g, ebQ s.e v g → W.heap.size ≤ g := fun g hg => (h.ol g (by rw [hq g hg]; omega)).1
  have hco : ∀ g, g < w.heap.size → dyeV oc v' (10 + 2 * i) g = oc g := fun g hg => dyeV_old fun he => by
    rcases k3 g he with e | e
    · exact hq g (.inr e)
    · omega
  have m : Mv (fun c => c = 10 + 2 * i) W w w' oc (dyeV oc v' (10 + 2 * i)) := ⟨below_chg h.bl k2 hlo h.bl.size, k2.size, fun g hg h0 hC => k2.same g hg fun hn => hC (hq g hn), hco, fun g hg => by
    rcases dyeV_ne hg with he | he
    · refine ⟨?_, k1.fr.hd.lt he⟩
      rcases k3 g he with e | e
      · exact hlo g (.inr e)
      · have := h.bl.size; omega
    · have := h.ol g he; have := k2.size; omega⟩
  have p := h.mv m
  refine ⟨dyeV oc v' (10 + 2 * i), ⟨p.bl, fun _ => p.bk (by show ¬ 1 = 10 + 2 * i; omega), fun _ => p.bo (by show ¬ 1 = 10 + 2 * i; omega), p.ol, fun _ => p.wx (by show ¬ 2 = 10 + 2 * i; omega), p.wo, fun _ => ?_, fun _ => p.so (by show ¬ 3 = 10 + 2 * i; omega), fun _ => p.hd (by show ¬ 4 = 10 + 2 * i; omega), fun _ => p.ho (by show ¬ 4 = 10 + 2 * i; omega), fun j s2 hs2 _ => ?_, fun j s2 hs2 _ => ?_, by rw [List.length_set]; exact p.sl, p.hn⟩, hco⟩
  · rw [List.length_set, sdV_set (s' := ⟨s.e, k, G, s.x, s.m, s.K⟩) hs rfl rfl]
    exact p.sd (by show ¬ 3 = 10 + 2 * i; omega)
  · rw [List.getElem?_set] at hs2
    by_cases hij : i = j
    · subst hij
      rw [if_pos rfl, if_pos hil] at hs2
      obtain rfl := Option.some.inj hs2
      refine ⟨v', k1, fun g hg => ?_⟩
      rcases hg with rfl | hg
      · rw [hco _ (blk_lt hv'.fr.box)]
        exact hq _ (.inl rfl)
      · exact dyeV_at hg
    · rw [if_neg hij] at hs2
      exact p.ed j s2 hs2 (by show ¬ 10 + 2 * j = 10 + 2 * i; omega)
  · rw [List.getElem?_set] at hs2
    by_cases hij : i = j
    · subst hij
      rw [if_pos rfl, if_pos hil] at hs2
      obtain rfl := Option.some.inj hs2
      exact p.xd i s hs (by show ¬ 11 + 2 * i = 10 + 2 * i; omega)
    · rw [if_neg hij] at hs2
      exact p.xd j s2 hs2 (by show ¬ 11 + 2 * j = 10 + 2 * i; omega)
/-- the i-th edge of the document has changed -/
theorem PlJ.setX {W w w' : World} {wb b t i k : Nat} {col oc : Nat → Nat} {S : List Sd} {sv hv v : Value} {hl G : List ByteArray} {s : Sd} (h : PlJ noC W w wb b col oc S sv hv hl t) (hs : S[i]? = some s) (hv' : EdX w s.x s.m s.K v) (hq : ∀ g, ebQ s.x v g → oc g = 11 + 2 * i) (hc : XwC w w' s.x v k G) :
    ∃ oc', PlJ noC W w' wb b col oc' (S.set i ⟨s.e, s.n, s.H, s.x, k, G⟩) sv hv hl t ∧ ∀ g, g < w.heap.size → oc' g = oc g := by
  obtain ⟨v', k1, k2, k3⟩ := hc
  have hil := (List.getElem?_eq_some_iff.mp hs).1
  have hlo : ∀ g, ebQ s.x v g → W.heap.size ≤ g := fun g hg => (h.ol g (by rw [hq g hg]; omega)).1
  have hco : ∀ g, g < w.heap.size → dyeV oc v' (11 + 2 * i) g = oc g := fun g hg => dyeV_old fun he => by
    rcases k3 g he with e | e
    · exact hq g (.inr e)
    · omega
  have m : Mv (fun c => c = 11 + 2 * i) W w w' oc (dyeV oc v' (11 + 2 * i)) := ⟨below_chg h.bl k2 hlo h.bl.size, k2.size, fun g hg h0 hC => k2.same g hg fun hn => hC (hq g hn), hco, fun g hg => by
    rcases dyeV_ne hg with he | he
    · refine ⟨?_, k1.hd.lt he⟩
      rcases k3 g he with e | e
      · exact hlo g (.inr e)
      · have := h.bl.size; omega
    · have := h.ol g he; have := k2.size; omega⟩
  have p := h.mv m
  refine ⟨dyeV oc v' (11 + 2 * i), ⟨p.bl, fun _ => p.bk (by show ¬ 1 = 11 + 2 * i; omega), fun _ => p.bo (by show ¬ 1 = 11 + 2 * i; omega), p.ol, fun _ => p.wx (by show ¬ 2 = 11 + 2 * i; omega), p.wo, fun _ => ?_, fun _ => p.so (by show ¬ 3 = 11 + 2 * i; omega), fun _ => p.hd (by show ¬ 4 = 11 + 2 * i; omega), fun _ => p.ho (by show ¬ 4 = 11 + 2 * i; omega), fun j s2 hs2 _ => ?_, fun j s2 hs2 _ => ?_, by rw [List.length_set]; exact p.sl, p.hn⟩, hco⟩
  · rw [List.length_set, sdV_set (s' := ⟨s.e, s.n, s.H, s.x, k, G⟩) hs rfl rfl]
    exact p.sd (by show ¬ 3 = 11 + 2 * i; omega)
  · rw [List.getElem?_set] at hs2
    by_cases hij : i = j
    · subst hij
      rw [if_pos rfl, if_pos hil] at hs2
      obtain rfl := Option.some.inj hs2
      exact p.ed i s hs (by show ¬ 10 + 2 * i = 11 + 2 * i; omega)
    · rw [if_neg hij] at hs2
      exact p.ed j s2 hs2 (by show ¬ 10 + 2 * j = 11 + 2 * i; omega)
  · rw [List.getElem?_set] at hs2
    by_cases hij : i = j
    · subst hij
      rw [if_pos rfl, if_pos hil] at hs2
      obtain rfl := Option.some.inj hs2
      refine ⟨v', k1, fun g hg => ?_⟩
      rcases hg with rfl | hg
      · rw [hco _ (blk_lt hv'.box)]
        exact hq _ (.inl rfl)
      · exact dyeV_at hg
    · rw [if_neg hij] at hs2
      exact p.xd j s2 hs2 (by show ¬ 11 + 2 * j = 11 + 2 * i; omega)
/-- a call on the book -/
theorem PlJ.book {W w w' : World} {wb b t t' : Nat} {col col' oc : Nat → Nat} {S : List Sd} {sv hv : Value} {hl : List ByteArray} (h : PlJ noC W w wb b col oc S sv hv hl t) (hb : BkX W w' b col' t') (hg : BkG W w w' col col') :
    ∃ oc', PlJ noC W w' wb b col' oc' S sv hv hl t' ∧ ∀ g, g < w.heap.size → oc' g = oc g := by
  obtain ⟨g1, g2, g3⟩ := hg
  have ho := h.bo id
  have hco : ∀ g, g < w.heap.size → (if col' g ≠ 0 then 1 else oc g) = oc g := fun g hgl => by
    split
    · rename_i hne
      rw [g2 g hgl] at hne
      exact (ho g hne).symm
    · rfl
  have hbw : Below W.heap.size w w' := g1.below (B := W.heap.size) (by omega) (fun g hne => (h.ol g (by rw [ho g hne]; decide)).1) h.bl.size
  have m : Mv (fun c => c = 1) W w w' oc (fun g => if col' g ≠ 0 then 1 else oc g) := ⟨h.bl.trans hbw, g1.size, fun g hgl h0 hC => g1.block g hgl (fun h1 => hC (ho g (by omega))), hco, fun g hne => by
    by_cases hc : col' g = 0
    · have hne : oc g ≠ 0 := by simpa [hc] using hne
      have := h.ol g hne
      have := g1.size
      omega
    · exact g3 g hc⟩
  have p := h.mv m
  exact ⟨_, ⟨p.bl, fun _ => hb, fun _ g hne => if_pos hne, p.ol, fun _ => p.wx (by decide), p.wo, fun _ => p.sd (by decide), fun _ => p.so (by decide), fun _ => p.hd (by decide), fun _ => p.ho (by decide), fun i s hs _ => p.ed i s hs (by show ¬ 10 + 2 * i = 1; omega), fun i s hs _ => p.xd i s hs (by show ¬ 11 + 2 * i = 1; omega), p.sl, p.hn⟩, hco⟩
/-- two new edges wait: a list and the world's box grow -/
theorem PlJ.addSide {W w w1 : World} {wb b t eb xb n m : Nat} {col oc : Nat → Nat} {S : List Sd} {sv sv' hv v u : Value} {hl H K : List ByteArray} (h : PlJ noC W w wb b col oc S sv hv hl t) (he : EwI w eb n H v) (hx : EdX w xb m K u)
    (hfe : ∀ g, ebQ eb v g → oc g = 0 ∧ W.heap.size ≤ g) (hfx : ∀ g, ebQ xb u g → oc g = 0 ∧ W.heap.size ≤ g) (hex : ∀ g, ebQ eb v g → ¬ ebQ xb u g) (hs5 : S.length < 6) {cs : Array Value} {T : TypeId}
    (hgr : Grew 58 2 (w.alloc (.cells cs T)) sv S.length 1 (sdV S) [.pointer (some ⟨eb, 0, none⟩), .pointer (some ⟨xb, 0, none⟩)] sv' w1) :
    w1.heap[wb]? = some (.cells #[sv, .pointer (some ⟨b, 0, none⟩), hv] 51 (0, 0)) ∧ ∃ oc', PlJ noC W (w1.setCell ⟨wb, 0, none⟩ sv') wb b col oc' (S ++ [⟨eb, n, H, xb, m, K⟩]) sv' hv hl t ∧ ∀ g, g < w.heap.size → oc g ≠ 2 → oc g ≠ 3 → (w1.setCell ⟨wb, 0, none⟩ sv').heap[g]? = w.heap[g]? := by
  have hgw := hgr.grown
  have hgwb := grown_alloc hgw
  have hat := hgr.at'
  have hheld := hgr.held
  have hwb : wb < w.heap.size := (h.ol wb (by rw [h.wo]; decide)).2
  have hso := h.so id
  have hne3 : ∀ g, sv.ownBlock = some g → g ≠ wb := fun g hg e => by have h1 := hso g hg; rw [e, h.wo] at h1; exact absurd h1 (by decide)
  have hbox : w1.heap[wb]? = some (.cells #[sv, .pointer (some ⟨b, 0, none⟩), hv] 51 (0, 0)) := (hgwb.block wb hwb (fun e => hne3 wb e.symm rfl)).trans (h.wx id)
  have hsm : ∀ g, g < w.heap.size → oc g ≠ 2 → oc g ≠ 3 → (w1.setCell ⟨wb, 0, none⟩ sv').heap[g]? = w.heap[g]? := fun g hg h2 h3 => by
    have hgwb' : g ≠ wb := fun e => h2 (by rw [e]; exact h.wo)
    rw [Below.heap_setCell _ ⟨wb, 0, none⟩ _ g hgwb']
    exact hgwb.block g hg (fun e => h3 (hso g e.symm))
  have hsz1 : w.heap.size ≤ w1.heap.size := hgwb.size
  have hszs : (w1.setCell ⟨wb, 0, none⟩ sv').heap.size = w1.heap.size := by simp [World.setCell]
  obtain ⟨oc', hoc⟩ : ∃ oc' : Nat → Nat, (∀ g, sv'.ownBlock = some g → oc' g = 3) ∧ (∀ g, ebQ eb v g → oc' g = 10 + 2 * S.length) ∧ (∀ g, ebQ xb u g → oc' g = 11 + 2 * S.length) ∧ (∀ g, g < w.heap.size → ¬ ebQ eb v g → ¬ ebQ xb u g → oc' g = oc g) ∧ ∀ g, oc' g ≠ 0 → oc g ≠ 0 ∨ ebQ eb v g ∨ ebQ xb u g ∨ sv'.ownBlock = some g := by
    classical
    have hd1 : ∀ g, sv'.ownBlock = some g → ¬ ebQ eb v g ∧ ¬ ebQ xb u g := fun g hg => by
      rcases hat with e | ⟨G, e, hG⟩
      · rw [e] at hg
        have h3 := hso g hg
        exact ⟨fun a => by have := (hfe g a).1; omega, fun a => by have := (hfx g a).1; omega⟩
      · rw [hg] at e
        obtain rfl := Option.some.inj e
        refine ⟨fun a => ?_, fun a => ?_⟩
        · have := he.q_lt a; omega
        · have := hx.q_lt a; omega
    refine ⟨fun g => if sv'.ownBlock = some g then 3 else if ebQ eb v g then 10 + 2 * S.length else if ebQ xb u g then 11 + 2 * S.length else oc g, fun g hg => if_pos hg, fun g hg => ?_, fun g hg => ?_, fun g hg h1 h2 => ?_, fun g hg => ?_⟩
    · show (if _ then _ else _) = _
      rw [if_neg (fun e => (hd1 g e).1 hg), if_pos hg]
    · show (if _ then _ else _) = _
      rw [if_neg (fun e => (hd1 g e).2 hg), if_neg (fun e => hex g e hg), if_pos hg]
    · show (if _ then _ else _) = _
      by_cases hg3 : sv'.ownBlock = some g
      · rw [if_pos hg3]
        rcases hat with e | ⟨G, e, hG⟩
        · rw [e] at hg3; exact (hso g hg3).symm
        · rw [hg3] at e; have := Option.some.inj e; omega
      · rw [if_neg hg3, if_neg h1, if_neg h2]
    · by_cases h3 : sv'.ownBlock = some g
      · exact .inr (.inr (.inr h3))
      · by_cases h1 : ebQ eb v g
        · exact .inr (.inl h1)
        · by_cases h2 : ebQ xb u g
          · exact .inr (.inr (.inl h2))
          · refine .inl ?_
            have hg' : (if sv'.ownBlock = some g then 3 else if ebQ eb v g then 10 + 2 * S.length else if ebQ xb u g then 11 + 2 * S.length else oc g) ≠ 0 := hg
            rwa [if_neg h3, if_neg h1, if_neg h2] at hg'
  obtain ⟨o3, oe, ox, oo, oz⟩ := hoc
  have oold : ∀ g, oc g ≠ 0 → oc' g = oc g := fun g hg => oo g (h.ol g hg).2 (fun a => hg (hfe g a).1) (fun a => hg (hfx g a).1)
  have hle2 : W.heap.size ≤ wb := (h.ol wb (by rw [h.wo]; decide)).1
  have hblw : Below W.heap.size W (w1.setCell ⟨wb, 0, none⟩ sv') := by
    have h1 : Below W.heap.size w w1 := ⟨hgwb.os, hgwb.tape, hgwb.output, hgwb.size, fun i hi => hgwb.block i (Nat.lt_of_lt_of_le hi h.bl.size) (fun e => by have := (h.ol i (by rw [hso i e.symm]; decide)).1; omega)⟩
    exact (h.bl.trans h1).setCell (p := ⟨wb, 0, none⟩) hle2 _
  refine ⟨hbox, oc', ⟨hblw, fun _ => ?_, fun _ g hg => ?_, fun g hg => ?_, fun _ => ?_, ?_, fun _ => ?_, fun _ => o3, fun _ => ?_, fun _ g hg => ?_, fun i s hs _ => ?_, fun i s hs _ => ?_, ?_, h.hn⟩, hsm⟩
  · obtain ⟨V, fr, wl, ls, gr, hb⟩ := h.bk id
    exact ⟨V, fr, wl, ls, gr, hb.move (fun g hg h1 => hsm g hg (by rw [h.bo id g (by omega)]; decide) (by rw [h.bo id g (by omega)]; decide)) (fun g hg => rfl) (fun g hg => by
      have h1 := h.ol g (by rw [h.bo id g hg]; decide)
      rw [hszs]
      omega)⟩
  · rw [oold g (by rw [h.bo id g hg]; decide)]; exact h.bo id g hg
  · rw [hszs]
    rcases oz g hg with e | e | e | e
    · have := h.ol g e; omega
    · have := he.q_lt e; have := (hfe g e).2; omega
    · have := hx.q_lt e; have := (hfx g e).2; omega
    · refine ⟨?_, hheld.lt e⟩
      rcases hat with e2 | ⟨G, e2, hG⟩
      · rw [e2] at e; exact (h.ol g (by rw [hso g e]; decide)).1
      · rw [e] at e2; have := Option.some.inj e2; have := h.bl.size; omega
  · exact blk_set hbox 0 sv'
  · rw [oold wb (by rw [h.wo]; decide)]; exact h.wo
  · rw [List.length_append, sdV_append, sdV_one]
    refine hheld.keep fun g hg => Below.heap_setCell _ ⟨wb, 0, none⟩ _ g (fun e => ?_)
    have e : g = wb := e
    rcases hat with e2 | ⟨G, e2, hG⟩
    · rw [e2] at hg; exact hne3 g hg e
    · rw [hg] at e2; have := Option.some.inj e2; omega
  · exact (h.hd id).keep fun g hg => hsm g (h.ol g (by rw [h.ho id g hg]; decide)).2 (by rw [h.ho id g hg]; decide) (by rw [h.ho id g hg]; decide)
  · rw [oold g (by rw [h.ho id g hg]; decide)]; exact h.ho id g hg
  · rw [List.getElem?_append] at hs
    split at hs
    · obtain ⟨v0, h1, h2⟩ := h.ed i s hs id
      exact ⟨v0, h1.keep fun g hg => hsm g (h1.q_lt hg) (by rw [h2 g hg]; omega) (by rw [h2 g hg]; omega), fun g hg => by rw [oold g (by rw [h2 g hg]; omega)]; exact h2 g hg⟩
    · rename_i hi
      have hi0 : i = S.length := by
        by_cases h5 : i = S.length
        · exact h5
        · rw [List.getElem?_eq_none (by simp only [List.length_cons, List.length_nil]; omega)] at hs; cases hs
      subst hi0
      rw [Nat.sub_self] at hs
      obtain rfl := Option.some.inj hs
      exact ⟨v, he.keep fun g hg => hsm g (he.q_lt hg) (by rw [(hfe g hg).1]; decide) (by rw [(hfe g hg).1]; decide), oe⟩
  · rw [List.getElem?_append] at hs
    split at hs
    · obtain ⟨v0, h1, h2⟩ := h.xd i s hs id
      exact ⟨v0, h1.keep fun g hg => hsm g (h1.q_lt hg) (by rw [h2 g hg]; omega) (by rw [h2 g hg]; omega), fun g hg => by rw [oold g (by rw [h2 g hg]; omega)]; exact h2 g hg⟩
    · rename_i hi
      have hi0 : i = S.length := by
        by_cases h5 : i = S.length
        · exact h5
        · rw [List.getElem?_eq_none (by simp only [List.length_cons, List.length_nil]; omega)] at hs; cases hs
      subst hi0
      rw [Nat.sub_self] at hs
      obtain rfl := Option.some.inj hs
      exact ⟨u, hx.keep fun g hg => hsm g (hx.q_lt hg) (by rw [(hfx g hg).1]; decide) (by rw [(hfx g hg).1]; decide), ox⟩
  · rw [List.length_append]; simp only [List.length_cons, List.length_nil]; omega
end Go.Proofs.YtdbghgpohdijfaaDoor
/- A copy of any width of element, and what it leaves. -/
namespace Go.Scr
open Go.RowKit
set_option linter.unusedVariables false
theorem run_copy_rowN {P : Program} (w : World) (dT sT ty elem : TypeId) (sz g dLen dCap : Nat) (a : Addr) (sLen sCap : Nat) (cur : Array Value) (t : TypeId) (cs : List Value)
    (hu : P.underlying dT = some (.slice elem)) (hs : (P.info? elem).map (·.size) = some sz)
    (hg : w.heap[g]? = some (.cells cur t (0, 0))) (hn : cs.length = Nat.min sLen dLen * sz)
    (hsrc : ∀ j v, cs[j]? = some v → w.cell? (a.add j) = some v) (hfit : cs.length ≤ cur.size) (h1 : ∀ v ∈ cs, v.oneCell' = true) :
    (Builtin.copy_ #[dT, sT] ty #[.slice (some ⟨g, 0, none⟩) dLen dCap, .slice (some a) sLen sCap]).run P w =
      .ok (goInt (Nat.min sLen dLen)) (w.setRow g (cs ++ cur.toList.drop cs.length).toArray) := by
  have hl := run_loadCells_list (P := P) w a cs hsrc
  have hst := run_storeCells_at P g 0 t cs 0 cur w hg (by simpa using hfit) h1
  cases hq : P.info? elem with
  | none => simp [hq] at hs
  | some i =>
    have hi : i.size = sz := by simpa [hq] using hs
    rw [hn] at hl
    simp [Builtin.copy_, run_underlying hu, Builtin.lenOf, Builtin.firstCells, sizeOf, typeInfo, hq, hi, hl, hst]
theorem run_copy_noneN {P : Program} (w : World) (dT sT ty elem : TypeId) (sz : Nat) (d a : Option Addr) (dLen dCap sLen sCap : Nat) (hu : P.underlying dT = some (.slice elem)) (hs : (P.info? elem).map (·.size) = some sz) (hn : Nat.min sLen dLen = 0) :
    (Builtin.copy_ #[dT, sT] ty #[.slice d dLen dCap, .slice a sLen sCap]).run P w = .ok (goInt 0) w := by
  cases hq : P.info? elem with
  | none => simp [hq] at hs
  | some i =>
    have hl : ∀ (x : Addr), (loadCells x 0).run P w = .ok #[] w := fun x => by simpa using run_loadCells_list (P := P) w x [] (by simp)
    cases d <;> cases a <;> simp [Builtin.copy_, run_underlying hu, Builtin.lenOf, Builtin.firstCells, sizeOf, typeInfo, hq, hn, storeCells, hl]
theorem wpList_copyN {P : Program} {w : World} {ops : Array Oper} {rest : List Oper} {o : Oper} {a : Act} {Q : Exit → Act → World → Prop} (hgd : o.guard = none) (d s : Operand) (dT sT : TypeId)
    (ho : o.op = .call { callee := .builtin .copy, args := #[d, s], argTypes := #[dT, sT] }) (elem : TypeId) (hu : P.underlying dT = some (.slice elem)) (sz : Nat) (hsz : (P.info? elem).map (·.size) = some sz) (hsz0 : 0 < sz)
    (dp sp : Option Addr) (dLen dCap sLen sCap : Nat) (hd : a.eval d = .slice dp dLen dCap) (hs : a.eval s = .slice sp sLen sCap)
    (g k : Nat) (hk : k = Nat.min sLen dLen) (cur : List Value) (t : TypeId) (hg : w.heap[g]? = some (.cells cur.toArray t (0, 0))) (cs : List Value) (hn : cs.length = k * sz)
    (hpos : 0 < cs.length → dp = some ⟨g, 0, none⟩ ∧ ∃ ad, sp = some ad ∧ ∀ j v, cs[j]? = some v → w.cell? (ad.add j) = some v)
    (hfit : cs.length ≤ cur.length) (h1 : ∀ v ∈ cs, v.oneCell' = true)
    (h : ∀ w', w'.heap[g]? = some (.cells (cs ++ cur.drop cs.length).toArray t (0, 0)) → w.grownBy w' (some g) → w'.heap.size = w.heap.size → wpList P ops Q rest (a.put o.dst (goInt k)) w') :
    wpList P ops Q (o :: rest) a w := by
  subst hk
  by_cases h0 : cs.length = 0
  · obtain rfl : cs = [] := List.eq_nil_of_length_eq_zero h0
    have hmin : Nat.min sLen dLen = 0 := by
      rcases Nat.eq_zero_or_pos (Nat.min sLen dLen) with e | e
      · exact e
      · have := Nat.mul_pos e hsz0; simp at hn; omega
    refine wpList_plain hgd fun K hK => ?_
    have hrun := run_copy_noneN (P := P) w dT sT o.type elem sz dp sp dLen dCap sLen sCap hu hsz hmin
    have h2 := h w (by simpa using hg) ⟨rfl, rfl, rfl, Nat.le_refl _, fun _ _ _ => rfl⟩ rfl
    rw [hmin] at h2
    unfold Oper.wp
    simp [execOp, ho, resolve, invoke, builtin, hd, hs, hrun, Result.andThen]
    exact hK _ _ h2
  · obtain ⟨rfl, ad, rfl, hsrc⟩ := hpos (by omega)
    refine wpList_plain hgd fun K hK => ?_
    have hrun := run_copy_rowN (P := P) w dT sT o.type elem sz g dLen dCap ad sLen sCap cur.toArray t cs hu hsz hg hn hsrc (by simpa using hfit) h1
    have h2 := h (w.setRow g (cs ++ cur.toArray.toList.drop cs.length).toArray) (setRow_heap w g _ _ t _ hg) ⟨rfl, rfl, rfl, by simp [World.setRow], fun i _ hne => setRow_other w g i _ (fun e => hne (by rw [e]))⟩ (by simp [World.setRow])
    unfold Oper.wp
    simp [execOp, ho, resolve, invoke, builtin, hd, hs, hrun, Result.andThen]
    exact hK _ _ h2
end Go.Scr
/- The memory that is handed in again and again: law 5's great, kept over it, what changes there. -/
namespace Go.Proofs.YtdbghgpohdijfaaDoor
open Go.RowKit Go.Scr Bk5 Go.ChangeMaps Go.MapKept
set_option linter.unusedVariables false
def greatL : List Int := [1099511627776, 1099511627775, 1099511627774, 549755813888, 549755813889, 1099510579200, 1048575, 1048576]
theorem greatL_get {i : Nat} (h : i < 8) : ∃ z : Nat, greatL[i]? = some (z : Int) ∧ 3 ≤ z ∧ z ≤ 1099511627776 := by
  match i, h with
  | 0, _ => exact ⟨1099511627776, rfl, by decide, by decide⟩
  | 1, _ => exact ⟨1099511627775, rfl, by decide, by decide⟩
  | 2, _ => exact ⟨1099511627774, rfl, by decide, by decide⟩
  | 3, _ => exact ⟨549755813888, rfl, by decide, by decide⟩
  | 4, _ => exact ⟨549755813889, rfl, by decide, by decide⟩
  | 5, _ => exact ⟨1099510579200, rfl, by decide, by decide⟩
  | 6, _ => exact ⟨1048575, rfl, by decide, by decide⟩
  | 7, _ => exact ⟨1048576, rfl, by decide, by decide⟩
set_option maxRecDepth 100000 in
set_option maxHeartbeats 2000000 in
theorem great_any (n m : Int) (w : World) (hn : -9223372036854775808 ≤ n ∧ n ≤ 9223372036854775807) (hm : -9223372036854775808 ≤ m ∧ m ≤ 9223372036854775807) :
    Calls Tryd.prog 73 #[.int .i64 n, .int .i64 m] w fun o w' => ∃ k : Nat, o = .returned (.int .i64 (k : Int)) ∧ k ≤ 1099511627776 ∧ Below w.heap.size w w' := by
  obtain ⟨i, hi⟩ : ∃ i, i = pickN n 8 := ⟨_, rfl⟩
  obtain ⟨q, hq⟩ : ∃ i, i = pickN m 3 := ⟨_, rfl⟩
  have hi8 : i < 8 := by rw [hi]; exact pickN_lt n (by decide)
  have hq3 : q < 3 := by rw [hq]; exact pickN_lt m (by decide)
  obtain ⟨z, hz, hz1, hz2⟩ := greatL_get hi8
  obtain ⟨k, hk⟩ : ∃ k : Nat, (k : Int) = (z : Int) - (q : Int) := ⟨z - q, by omega⟩
  have hk1 : (z : Int) - (q : Int) = (k : Int) := hk.symm
  have hkb : k ≤ 1099511627776 := by omega
  obtain ⟨w1, hw1⟩ : ∃ x, x = w.alloc (.cells (greatL.map (Value.int .i64)).toArray 3) := ⟨_, rfl⟩
  have hx : w1.heap[w.heap.size]? = some (.cells (greatL.map (Value.int .i64)).toArray 3 (0, 0)) := by rw [hw1]; exact heap_alloc_new w _
  have hb : Below w.heap.size w w1 := by rw [hw1]; exact (Below.refl _ _).alloc (Nat.le_refl _) _
  obtain ⟨g, hg⟩ : ∃ g, g = w.heap.size := ⟨_, rfl⟩
  rw [← hg] at hx
  have hc : w1.cell? ⟨g, i, none⟩ = some (.int .i64 (z : Int)) := by
    rw [cell_of_row w1 g i _ _ _ hx]
    simp [hz]
  have hcd : w1.drew.cell? ⟨g, i, none⟩ = some (.int .i64 (z : Int)) := hc
  have CP1 : Hid (∀ w', Calls Tryd.prog 49 #[.int .i64 n, .int .i64 8] w' fun e w'' => e = .returned (.int .i64 (i : Int)) ∧ w'' = w') := Lib.hid (fun w' => by rw [hi]; exact pickU_any n 8 w' (by decide) (by decide) hn)
  have CP2 : Hid (∀ w', Calls Tryd.prog 49 #[.int .i64 m, .int .i64 3] w' fun e w'' => e = .returned (.int .i64 (q : Int)) ∧ w'' = w') := Lib.hid (fun w' => by rw [hq]; exact pickU_any m 3 w' (by decide) (by decide) hm)
  have HW := Lib.hid hw1
  have HG := Lib.hid hg
  have HB := Lib.hid hb
  have HK := Lib.hid hkb
  have hw2 : IntKind.i64.wrap (k : Int) = (k : Int) := wrap_i64_id _ (by omega) (by omega)
  have hi0 : (0 : Int) ≤ (i : Int) := by omega
  have hii : (i : Int) < 8 := by omega
  have hwi : IntKind.i64.wrap (i : Int) = (i : Int) := wrap_i64_id _ (by omega) (by omega)
  clear hi hq hz hz1 hz2 hk hw1 hx hb hg hn hm hkb hi8 hq3
  go_enter Tryd.func73, Tryd.ntmps73
  go_upto_region 2 with fail
  change Code.wp _ _ _ _ (w.alloc (.cells (greatL.map (Value.int .i64)).toArray 3))
  rw [← HW.out, ← HG.out]
  go_region_held3 (fun w' => w'.cell? ⟨g, i, none⟩ = some (.int .i64 (z : Int))) (first | exact hcd | assumption) (first
    | (go_at_call 49; (with_reducible refine (CP1.out _).mono ?_); rintro e w' ⟨rfl, hww⟩; replace hww := hww.symm; subst hww)
    | (go_at_call 49; (with_reducible refine (CP2.out _).mono ?_); rintro e w' ⟨rfl, hww⟩; replace hww := hww.symm; subst hww))
  go_wp2_with fail
  go_ret
  exact ⟨k, rfl, HK.out, HB.out.drew⟩
set_option maxRecDepth 100000 in
set_option maxHeartbeats 1000000 in
theorem keptH_any (v : Value) (L R : List ByteArray) (g : Nat) (w : World) (hv : Txts w v L) (hr : SRow w g R) (h1 : R.take L.length = L) (h2 : ∀ i, L.length ≤ i → i < L.length + 8 → R[i]? = some spare5) (h3 : L.length + 8 ≤ R.length) (hl : L.length ≤ 1048576) (hRl : R.length ≤ 1048700) :
    Calls Tryd.prog 39 #[.slice (some ⟨g, 0, none⟩) (L.length + 8) R.length, v] w fun e w' => e = .returned (.bool true) ∧ Below w.heap.size w w' := by
  have HX := Lib.hid (fun w' (h1 : Txts w' (.slice (some ⟨g, 0, none⟩) L.length R.length) L) (h2 : Txts w' v L) => same5_any (.slice (some ⟨g, 0, none⟩) L.length R.length) v L L w' h1 h2 hl hl)
  have HTX : Hid (∀ w' (h : SRow w' g R), Txts w' (.slice (some ⟨g, 0, none⟩) L.length R.length) L) := Lib.hid (fun w' h => by
    have := h.txts (n := L.length) (by omega) (by omega)
    rwa [h1] at this)
  have HV := Lib.hid hv
  obtain ⟨p, c, rfl, hv1, hv2, hv3⟩ := hv
  obtain ⟨n, hn⟩ : ∃ n, n = L.length := ⟨_, rfl⟩
  obtain ⟨rn, hrn⟩ : ∃ n, n = R.length := ⟨_, rfl⟩
  rw [← hrn] at HX HTX h3 hRl ⊢
  rw [← hn] at hv1 HV HX HTX hl h2 h3 ⊢
  have HAT := Lib.hid h2
  obtain ⟨N8, hN8⟩ : ∃ N8, N8 = n + 8 := ⟨_, rfl⟩
  rw [← hN8] at HAT h3 ⊢
  have HN8 := Lib.hid hN8
  have HR := Lib.hid hr
  have hnN : (n : Int) ≤ (N8 : Int) := by omega
  have hnN2 : n ≤ N8 := by omega
  have hnR : (n : Int) ≤ (rn : Int) := by omega
  have hnR2 : n ≤ rn := by omega
  have hNR : N8 ≤ rn := h3
  have hN8b : N8 ≤ 1048584 := by omega
  have HLT := Lib.hid hr.lt
  clear hn hrn hN8 hv1 hv2 hv3 hr h1 h2 h3
  go_enter Tryd.func39, Tryd.ntmps39
  go_wp2
  go_loopw [5] (fun q wr => ∃ i : Nat, n ≤ i ∧ i ≤ N8 ∧ q = .int .i64 i ∧ SRow wr g R ∧ Below w.heap.size w wr) (fun q _ => N8 - (intOf q).toNat)
  case atStart => exact ⟨n, by omega, by omega, rfl, HR.out, Below.refl _ _⟩
  case round =>
    clear HR
    obtain ⟨i, hni, hi, rfl, hrow, hbel⟩ := hrel
    have HROW := Lib.hid hrow
    have HBEL := Lib.hid hbel
    clear hrow hbel
    by_cases hlt : i < N8
    · have hl8 : (i : Int) < (N8 : Int) := by omega
      have hcell2 : wr.cell? ⟨g, i, none⟩ = some (.string spare5) := HROW.out.cell (HAT.out i hni hlt)
      have hbeh : (spare5.toList == [115, 112, 97, 114, 101]) = true := by decide +kernel
      go_wp2_with fail
      exact ⟨⟨i + 1, by omega, by omega, rfl, HROW.out, HBEL.out⟩, (by show N8 - ((i : Int) + 1).toNat < N8 - (i : Int).toNat; omega)⟩
    · have hl8 : ¬ ((i : Int) < (N8 : Int)) := by omega
      have HVR := Lib.hid (HV.out.below HBEL.out (Nat.le_refl _))
      go_wp2_with (go_at_call 25; with_reducible refine (HX.out _ (HTX.out _ HROW.out) HVR.out).mono ?_; rintro r wx ⟨rfl, hb⟩; have HB := Lib.hid hb; clear hb)
      go_ret
      exact ⟨rfl, below_from HBEL.out HB.out HBEL.out.size⟩
/-- what is written in the hand -/
theorem PlJ.hand {W w w' : World} {wb b t g xn : Nat} {col oc : Nat → Nat} {S : List Sd} {sv : Value} {hl R : List ByteArray} (h : PlJ noC W w wb b col oc S sv (.slice (some ⟨g, 0, none⟩) xn xn) hl t) (hc : Chg (fun q => q = g) w w') (hr : SRow w' g R) (hR : R.length = xn) (hxn : hl.length = xn) :
    PlJ noC W w' wb b col oc S sv (.slice (some ⟨g, 0, none⟩) xn xn) R t := by
  have hg : oc g = 4 := h.ho id g rfl
  have hlo := h.ol g (by rw [hg]; decide)
  have p := h.mv (C := fun c => c = 4) (w' := w') (oc' := oc) ⟨below_chg h.bl hc (fun i hi => by rw [hi]; exact hlo.1) h.bl.size, hc.size, fun q hq h0 hC => hc.same q hq (fun e => hC (by rw [e]; exact hg)), fun _ _ => rfl, fun q hq => by have := h.ol q hq; have := hc.size; omega⟩
  exact ⟨p.bl, fun _ => p.bk (by decide), fun _ => p.bo (by decide), p.ol, fun _ => p.wx (by decide), p.wo, fun _ => p.sd (by decide), fun _ => p.so (by decide), fun _ => .inr ⟨g, by rw [hR], hr⟩, fun _ q hq => by cases hq; exact hg, fun i s hs _ => p.ed i s hs (by show ¬ 10 + 2 * i = 4; omega), fun i s hs _ => p.xd i s hs (by show ¬ 11 + 2 * i = 4; omega), p.sl, by rw [hR, ← hxn]; exact p.hn⟩
theorem PlJ.row {W w : World} {wb b t g xn : Nat} {col oc : Nat → Nat} {S : List Sd} {sv : Value} {hl : List ByteArray} (h : PlJ noC W w wb b col oc S sv (.slice (some ⟨g, 0, none⟩) xn xn) hl t) : SRow w g hl ∧ hl.length = xn ∧ oc g = 4 := by
  rcases h.hd id with ⟨e, _⟩ | ⟨g', e, hr⟩
  · cases e
  · injection e with e1 e2 e3
    injection e1 with e1
    injection e1 with e1
    subst e1
    exact ⟨hr, e2.symm, h.ho id g rfl⟩
theorem txts_keep {w w' : World} {v : Value} {L : List ByteArray} (h : Txts w v L) (hk : ∀ (j : Nat) s, L[j]? = some s → ∀ a n c, v = .slice (some a) n c → w'.heap[a.block]? = w.heap[a.block]?) : Txts w' v L := by
  obtain ⟨p, c, h1, h2, h3, h4⟩ := h
  refine ⟨p, c, h1, h2, h3, fun j s hj => ?_⟩
  obtain ⟨a, rfl, hc⟩ := h4 j s hj
  exact ⟨a, rfl, (World.cell?_of_block (by rw [Addr_add_block]; exact hk j s hj a _ _ h1)).trans hc⟩
/-- a list that is handed in lies elsewhere -/
def Els (oc : Nat → Nat) (v : Value) (L : List ByteArray) : Prop := ∀ (j : Nat) s, L[j]? = some s → ∀ a n c, v = .slice (some a) n c → oc a.block = 0
theorem Els.lt {w : World} {oc : Nat → Nat} {v : Value} {L : List ByteArray} (h : Txts w v L) {j : Nat} {s : ByteArray} (hj : L[j]? = some s) {a : Addr} {n c : Nat} (e : v = .slice (some a) n c) : a.block < w.heap.size := by
  obtain ⟨p, c', h1, h2, h3, h4⟩ := h
  obtain ⟨a', rfl, hc⟩ := h4 j s hj
  rw [h1] at e
  injection e with e1 _ _
  obtain rfl := Option.some.inj e1
  have := block_lt_of_cell hc
  rwa [Addr_add_block] at this
/-- a new hand -/
theorem PlJ.newHand {W w : World} {wb b t : Nat} {col oc : Nat → Nat} {S : List Sd} {sv hv : Value} {hl : List ByteArray} (h : PlJ noC W w wb b col oc S sv hv hl t) (n : Nat) (hn : n ≤ 1048700) :
    ∃ oc', PlJ noC W ((w.alloc (.cells (Array.replicate n (Value.string ⟨#[]⟩)) 9)).setCell ⟨wb, 2, none⟩ (.slice (some ⟨w.heap.size, 0, none⟩) n n)) wb b col oc' S sv (.slice (some ⟨w.heap.size, 0, none⟩) n n) (List.replicate n ⟨#[]⟩) t ∧ ∀ g, g < w.heap.size → oc' g = oc g := by
  obtain ⟨w1, hw1⟩ : ∃ x, x = w.alloc (.cells (Array.replicate n (Value.string ⟨#[]⟩)) 9) := ⟨_, rfl⟩
  have hrow : SRow w1 w.heap.size (List.replicate n ⟨#[]⟩) := by
    have h := heap_alloc_new w (.cells (Array.replicate n (Value.string ⟨#[]⟩)) 9)
    rw [hw1]
    unfold SRow
    rw [h]
    simp
  have hb1 : Below w.heap.size w w1 := by rw [hw1]; exact (Below.refl _ _).alloc (Nat.le_refl _) _
  have hs1 : w1.heap.size = w.heap.size + 1 := by rw [hw1]; simp
  rw [← hw1]
  have h1 := h.below hb1
  have hwb := h.ol wb (by rw [h.wo]; decide)
  have hszs : (w1.setCell ⟨wb, 2, none⟩ (.slice (some ⟨w.heap.size, 0, none⟩) n n)).heap.size = w1.heap.size := by simp [World.setCell]
  have hco : ∀ g, g < w.heap.size → dye oc w.heap.size 4 g = oc g := fun g hg => dye_old hg
  have hne : ∀ g, g ≠ wb → (w1.setCell ⟨wb, 2, none⟩ (.slice (some ⟨w.heap.size, 0, none⟩) n n)).heap[g]? = w1.heap[g]? := fun g hg => Below.heap_setCell _ ⟨wb, 2, none⟩ _ g hg
  have p := h.mv (C := fun c => c = 2 ∨ c = 4) (w' := w1.setCell ⟨wb, 2, none⟩ (.slice (some ⟨w.heap.size, 0, none⟩) n n)) (oc' := dye oc w.heap.size 4) ⟨h1.bl.setCell (p := ⟨wb, 2, none⟩) hwb.1 _, by rw [hszs]; omega, fun g hg h0 hC => (hne g (fun e => hC (.inl (by rw [e]; exact h.wo)))).trans (hb1.block g hg), hco, fun g hg => by
    by_cases e : g = w.heap.size
    · subst e; have := h.bl.size; rw [hszs]; omega
    · have h9 : dye oc w.heap.size 4 g = oc g := if_neg e
      rw [h9] at hg
      have := h.ol g hg
      rw [hszs]; omega⟩
  refine ⟨_, ⟨p.bl, fun _ => p.bk (by decide), fun _ => p.bo (by decide), p.ol, fun _ => blk_set (h1.wx id) 2 _, p.wo, fun _ => p.sd (by decide), fun _ => p.so (by decide), fun _ => .inr ⟨_, by rw [List.length_replicate], ?_⟩, fun _ g hg => by cases hg; exact dye_at oc w.heap.size 4, fun i s hs _ => p.ed i s hs (by show ¬ (10 + 2 * i = 2 ∨ 10 + 2 * i = 4); omega), fun i s hs _ => p.xd i s hs (by show ¬ (11 + 2 * i = 2 ∨ 11 + 2 * i = 4); omega), p.sl, by rw [List.length_replicate]; exact hn⟩, hco⟩
  exact (hne w.heap.size (by omega)).trans hrow
/-- what stands in the hand -/
def hanG (L X : List ByteArray) (k : Nat) : List ByteArray := L ++ (List.replicate k spare5 ++ X.drop (L.length + k))
theorem hanG_length {L X : List ByteArray} {k : Nat} (h : L.length + k ≤ X.length) : (hanG L X k).length = X.length := by
  unfold hanG
  rw [List.length_append, List.length_append, List.length_replicate, List.length_drop]; omega
theorem hanG_set {L X : List ByteArray} {k : Nat} (h : L.length + k < X.length) : (hanG L X k).set (L.length + k) spare5 = hanG L X (k + 1) := by
  unfold hanG
  rw [List.set_append_right _ _ (by omega), Nat.add_sub_cancel_left, List.set_append_right _ _ (by simp), List.length_replicate, Nat.sub_self]
  have : X.drop (L.length + k) = X[L.length + k]'h :: X.drop (L.length + k + 1) := List.drop_eq_getElem_cons h
  rw [this, List.set_cons_zero, List.replicate_succ', List.append_assoc]
  rfl
theorem hanG_take (L X : List ByteArray) (k : Nat) : (hanG L X k).take L.length = L := by unfold hanG; rw [List.take_left]
theorem hanG_spare {L X : List ByteArray} {i : Nat} (h : L.length ≤ i) (h2 : i < L.length + 8) : (hanG L X 8)[i]? = some spare5 := by
  unfold hanG
  rw [List.getElem?_append_right h, List.getElem?_append_left (by rw [List.length_replicate]; omega), List.getElem?_replicate, if_pos (by omega)]
end Go.Proofs.YtdbghgpohdijfaaDoor
/- Law 5's loads, walked. -/
namespace Go.Proofs.YtdbghgpohdijfaaDoor
open Go.RowKit Go.Scr Bk5 Go.ChangeMaps Go.MapKept
set_option linter.unusedVariables false
theorem info_side : (Tryd.prog.info? 58).map (fun i => (i.zero, i.size, i.bytes)) = some (some (.agg #[.pointer none, .pointer none]), 2, 16) := by kernel_rfl
def over5 : ByteArray := ⟨#[111, 118, 101, 114]⟩
/-- on each side the same -/
def Sync (S : List Sd) : Prop := ∀ s ∈ S, s.n = s.m ∧ s.H = s.K
def PlK (W w : World) (wb b t : Nat) : Prop := ∃ col oc S sv hv hl, PlJ noC W w wb b col oc S sv hv hl t ∧ Sync S
/-- what Load leaves, by its pointer -/
def LodE (w w' : World) (n : Int) (H : List ByteArray) (E : Int) (pe : Option Addr) : Prop := (E ≠ 0 ∧ pe = none ∧ Below w.heap.size w w') ∨ (∃ eb, E = 0 ∧ pe = some ⟨eb, 0, none⟩ ∧ EwN w w' eb n.toNat H)
def LodY (w w' : World) (n : Int) (H : List ByteArray) (E : Int) (pe : Option Addr) : Prop := (E ≠ 0 ∧ pe = none ∧ Below w.heap.size w w') ∨ (∃ eb, E = 0 ∧ pe = some ⟨eb, 0, none⟩ ∧ XwN w w' eb n.toNat H)
theorem LodE.b {w w' : World} {n : Int} {H : List ByteArray} {E : Int} {pe : Option Addr} (h : LodE w w' n H E pe) : Below w.heap.size w w' := by
  rcases h with ⟨_, _, h⟩ | ⟨_, _, _, v, _, _, h⟩ <;> exact h
theorem LodY.b {w w' : World} {n : Int} {H : List ByteArray} {E : Int} {pe : Option Addr} (h : LodY w w' n H E pe) : Below w.heap.size w w' := by
  rcases h with ⟨_, _, h⟩ | ⟨_, _, _, v, _, _, h⟩ <;> exact h
theorem lode_any {w : World} {B : Nat} {n : Int} {v : Value} {H : List ByteArray} (hB : Bas w B) (hv : Txts w v H) :
    Calls Tryd.prog 45 #[.int .i64 n, v] w fun o w' => ∃ pe, o = .returned (.tuple #[.pointer pe, .int .i64 (lodE n H)]) ∧ LodE w w' n H (lodE n H) pe := by
  refine (ewload_any hB hv).mono fun o w' h => ?_
  rcases h with ⟨h1, rfl, h3⟩ | ⟨eb, h1, rfl, h3⟩
  · exact ⟨_, rfl, .inl ⟨h1, rfl, h3⟩⟩
  · exact ⟨_, by rw [h1], .inr ⟨eb, h1, rfl, h3⟩⟩
theorem lody_any {w : World} {n : Int} {v : Value} {H : List ByteArray} (hv : Txts w v H) :
    Calls Tryd.prog 120 #[.int .i64 n, v] w fun o w' => ∃ pe, o = .returned (.tuple #[.pointer pe, .int .i64 (lodE n H)]) ∧ LodY w w' n H (lodE n H) pe := by
  refine (xwload_any hv).mono fun o w' h => ?_
  rcases h with ⟨h1, rfl, h3⟩ | ⟨eb, h1, rfl, h3⟩
  · exact ⟨_, rfl, .inl ⟨h1, rfl, h3⟩⟩
  · exact ⟨_, by rw [h1], .inr ⟨eb, h1, rfl, h3⟩⟩

/-- what has no colour stays -/
def Kp (oc : Nat → Nat) (w w' : World) : Prop := w.heap.size ≤ w'.heap.size ∧ ∀ q, q < w.heap.size → oc q = 0 → w'.heap[q]? = w.heap[q]?
theorem Kp.below {oc : Nat → Nat} {w w1 w' : World} (h : Kp oc w w1) (hb : Below w1.heap.size w1 w') : Kp oc w w' := ⟨Nat.le_trans h.1 hb.size, fun q hq h0 => (hb.block q (Nat.lt_of_lt_of_le hq h.1)).trans (h.2 q hq h0)⟩
theorem Kp.chg {oc : Nat → Nat} {w w1 w' : World} {Q : Nat → Prop} (h : Kp oc w w1) (hc : Chg Q w1 w') (hq : ∀ q, q < w.heap.size → Q q → oc q ≠ 0) : Kp oc w w' := ⟨Nat.le_trans h.1 hc.size, fun q hl h0 => (hc.same q (Nat.lt_of_lt_of_le hl h.1) (fun a => hq q hl a h0)).trans (h.2 q hl h0)⟩
structure LoI (W w0 wr : World) (wb b t g xn n k : Nat) (col oc0 oc : Nat → Nat) (S : List Sd) (sv v : Value) (L X : List ByteArray) : Prop where
  pl : PlJ noC W wr wb b col oc S sv (.slice (some ⟨g, 0, none⟩) xn xn) (hanG L X k) t
  tx : Txts wr v L
  el : Els oc v L
  xl : X.length = xn
  nl : n = L.length
  n8 : n + 8 ≤ xn
  kp : Kp oc0 w0 wr
  kg : g < w0.heap.size → oc0 g ≠ 0
  ke : ∀ q, q < w0.heap.size → oc q = oc0 q
theorem LoI.below {W w0 wr w' : World} {wb b t g xn n k : Nat} {col oc0 oc : Nat → Nat} {S : List Sd} {sv v : Value} {L X : List ByteArray} (h : LoI W w0 wr wb b t g xn n k col oc0 oc S sv v L X) (hb : Below wr.heap.size wr w') : LoI W w0 w' wb b t g xn n k col oc0 oc S sv v L X :=
  ⟨h.pl.below hb, h.tx.below hb (Nat.le_refl _), h.el, h.xl, h.nl, h.n8, h.kp.below hb, h.kg, h.ke⟩
theorem LoI.g_lt {W w0 wr : World} {wb b t g xn n k : Nat} {col oc0 oc : Nat → Nat} {S : List Sd} {sv v : Value} {L X : List ByteArray} (h : LoI W w0 wr wb b t g xn n k col oc0 oc S sv v L X) : g < wr.heap.size := h.pl.row.1.lt
theorem Els.ne {W w : World} {wb b t g xn : Nat} {col oc : Nat → Nat} {S : List Sd} {sv v : Value} {hl L : List ByteArray} (he : Els oc v L) (h : PlJ noC W w wb b col oc S sv (.slice (some ⟨g, 0, none⟩) xn xn) hl t) : ∀ (j : Nat) s, L[j]? = some s → ∀ a n c, v = .slice (some a) n c → a.block ≠ g := fun j s hj a n c e e2 => by
  have h1 := he j s hj a n c e
  rw [e2, h.row.2.2] at h1
  exact absurd h1 (by decide)
theorem LoI.put {W w0 wr : World} {wb b t g xn n k i : Nat} {col oc0 oc : Nat → Nat} {S : List Sd} {sv v : Value} {L X : List ByteArray} (h : LoI W w0 wr wb b t g xn n k col oc0 oc S sv v L X) (hk : k < 8) (hi : i = n + k) : LoI W w0 (wr.setCell ⟨g, i, none⟩ (.string spare5)) wb b t g xn n (k + 1) col oc0 oc S sv v L X := by
  obtain ⟨r1, r2, r3⟩ := h.pl.row
  have hnl := h.nl
  have hxl := h.xl
  have hn8 := h.n8
  refine ⟨h.pl.hand (Chg.set (Q := fun q => q = g) (Chg.refl _ _) rfl _) ?_ (by rw [hanG_length (by omega)]; exact hxl) r2, txts_keep h.tx fun j s hj a m c e => ?_, h.el, hxl, hnl, hn8, h.kp.chg (Chg.set (Q := fun q => q = g) (Chg.refl _ _) rfl _) (fun q hq e => by rw [e] at hq ⊢; exact h.kg hq), h.kg, h.ke⟩
  · have := r1.set i spare5
    rw [hi, hnl, hanG_set (by omega), ← hnl, ← hi] at this
    exact this
  · exact Below.heap_setCell _ ⟨g, i, none⟩ _ _ (h.el.ne h.pl j s hj a m c e)
set_option maxRecDepth 100000 in
set_option maxHeartbeats 8000000 in
theorem loads_any {W w : World} {wb b t : Nat} {col oc : Nat → Nat} {S : List Sd} {sv hv v : Value} {hl L : List ByteArray} {z : Int} (hB : Bas W W.heap.size) (h : PlJ noC W w wb b col oc S sv hv hl t) (hS : Sync S) (hv' : Txts w v L) (he : Els oc v L) (hll : L.length ≤ 1048576) :
    Calls Tryd.prog 72 #[.pointer (some ⟨wb, 0, none⟩), .int .i64 z, v] w fun o w' => o = .returned (.bool true) ∧ PlK W w' wb b t ∧ Kp oc w w' := by
  obtain ⟨n, hn⟩ : ∃ n, n = L.length := ⟨_, rfl⟩
  obtain ⟨p, c, rfl⟩ : ∃ p c, v = .slice p n c := by obtain ⟨p, c, e, _⟩ := hv'; exact ⟨p, c, by rw [e, hn]⟩
  obtain ⟨n8, hn8⟩ : ∃ x, x = n + 8 := ⟨_, rfl⟩
  obtain ⟨n60, hn60⟩ : ∃ x, x = n + 60 := ⟨_, rfl⟩
  have e8 : (n : Int) + 8 = (n8 : Int) := by omega
  have e60 : (n : Int) + 60 = (n60 : Int) := by omega
  have hnb : n ≤ 1048576 := by omega
  have hn8b : n8 ≤ 1048584 := by omega
  have hn60b : n60 ≤ 1048636 := by omega
  obtain ⟨hn', pv, rfl, hhn⟩ : ∃ hn' pv, hv = .slice pv hn' hn' ∧ hn' = hl.length := by
    rcases h.hd id with ⟨rfl, rfl⟩ | ⟨g, rfl, _⟩
    · exact ⟨0, none, rfl, rfl⟩
    · exact ⟨_, _, rfl, rfl⟩
  have hbox := h.wx id
  have c2 : w.cell? ⟨wb, 2, none⟩ = some (.slice pv hn' hn') := cellB hbox rfl
  have f2 : w.frozen? ⟨wb, 2, none⟩ = false := frozB hbox
  have f3 : (w.alloc (.cells (Array.replicate n60 (Value.string ⟨#[]⟩)) 9)).frozen? ⟨wb, 2, none⟩ = false := frozB (blk_alloc hbox)
  have c3 : (w.alloc (.cells (Array.replicate n60 (Value.string ⟨#[]⟩)) 9)).cell? ⟨wb, 2, none⟩ = some (.slice pv hn' hn') := cellB (blk_alloc hbox) rfl
  have hmk := make_strs n60 (by omega) w
  have HH := Lib.hid h
  have HTX := Lib.hid hv'
  have HEL := Lib.hid he
  have HLN := Lib.hid hn
  have HN8 := Lib.hid hn8
  have HN60 := Lib.hid hn60
  have HHN := Lib.hid hhn
  have HSY := Lib.hid hS
  have HBAS := Lib.hid hB
  have hhb : hn' ≤ 1048700 := by rw [hhn]; exact h.hn
  clear h hv' he hn hn8 hn60 hhn hbox hB hll hS
  go_enter Tryd.func72, Tryd.ntmps72
  go_upto_if 23 with fail
  go_cut [] from 15 to 31 (fun wx => ∃ g xn oc1 X, wx.cell? ⟨wb, 2, none⟩ = some (.slice (some ⟨g, 0, none⟩) xn xn) ∧ Hid (PlJ noC W wx wb b col oc1 S sv (.slice (some ⟨g, 0, none⟩) xn xn) X t ∧ Txts wx (.slice p n c) L ∧ Els oc1 (.slice p n c) L ∧ X.length = xn ∧ n + 8 ≤ xn ∧ Kp oc w wx ∧ (g < w.heap.size → oc g ≠ 0) ∧ ∀ q, q < w.heap.size → oc1 q = oc q))
  case first =>
    by_cases hlt : hn' < n8
    · have hli : (hn' : Int) < (n8 : Int) := by omega
      go_wp2_with fail
      go_meet
      obtain ⟨oc1, hp, hoc⟩ := HH.out.newHand n60 (by omega)
      refine ⟨w.heap.size, n60, oc1, List.replicate n60 ⟨#[]⟩, cellB (hp.wx id) rfl, Lib.hid ⟨hp, txts_keep HTX.out fun j s hj a m d e => ?_, fun j s hj a m d e => ?_, by rw [List.length_replicate], by have := HN60.out; omega, ⟨by simp [World.setCell], fun q hq h0 => ?_⟩, fun hq => absurd hq (Nat.lt_irrefl _), hoc⟩⟩
      · have h1 := Els.lt (oc := oc) HTX.out hj e
        have h2 := HEL.out j s hj a m d e
        have hne : a.block ≠ wb := fun e2 => by rw [e2, HH.out.wo] at h2; exact absurd h2 (by decide)
        rw [Below.heap_setCell _ ⟨wb, 2, none⟩ _ a.block hne]
        exact Below.heap_alloc w _ _ h1
      · rw [hoc _ (Els.lt (oc := oc) HTX.out hj e)]
        exact HEL.out j s hj a m d e
      · have hne : q ≠ wb := fun e2 => by rw [e2, HH.out.wo] at h0; exact absurd h0 (by decide)
        rw [Below.heap_setCell _ ⟨wb, 2, none⟩ _ q hne]
        exact Below.heap_alloc w _ _ hq
    · have hli : ¬ (hn' : Int) < (n8 : Int) := by omega
      go_wp2_with fail
      go_meet
      rcases HH.out.hd id with ⟨e1, e2⟩ | ⟨g, e1, hr⟩
      · have := HHN.out
        rw [e2] at this
        have : hn' = 0 := this
        omega
      · injection e1 with e1 e2 e3
        subst e1
        exact ⟨g, hn', oc, hl, c2, Lib.hid ⟨HH.out, HTX.out, HEL.out, HHN.out.symm, by have := HN8.out; omega, ⟨Nat.le_refl _, fun _ _ _ => rfl⟩, fun _ => (by rw [HH.out.ho id g rfl]; decide), fun _ _ => rfl⟩⟩
  case rest =>
    obtain ⟨g, xn, oc1, X, c2, HC⟩ := hcut
    clear HH HTX HEL HHN f2 f3 c3 hmk hhb e60 hn60b HN60
    have hxb : xn ≤ 1048700 := by rw [← HC.out.2.2.2.1]; exact HC.out.1.hn
    have h8x : n8 ≤ xn := by have := HC.out.2.2.2.2.1; have := HN8.out; omega
    have h8i : (n8 : Int) ≤ (xn : Int) := by omega
    have hni : (n : Int) ≤ (n8 : Int) := by omega
    have hnx : (n : Int) ≤ (xn : Int) := by omega
    have hnn8 : n ≤ n8 := by have := HN8.out; omega
    have HSRC := Lib.hid (copy_src (g := g) HC.out.2.1 (Below.refl wc.heap.size wc) (Nat.le_refl _))
    have HR := Lib.hid HC.out.1.row
    have HCN : Hid ((L.map Value.string).length = n * 1 ∧ n = Nat.min n n8 ∧ (L.map Value.string).length ≤ (X.map Value.string).length) := Lib.hid ⟨by rw [List.length_map, Nat.mul_one]; exact HLN.out.symm, (Nat.min_eq_left hnn8).symm, by rw [List.length_map, List.length_map, HC.out.2.2.2.1, ← HLN.out]; omega⟩
    have HONE : Hid (∀ u ∈ L.map Value.string, u.oneCell' = true) := Lib.hid (one_txt L)
    have HIN : Hid (∀ w2, w2.heap[g]? = some (.cells (L.map Value.string ++ (X.map Value.string).drop (L.map Value.string).length).toArray 9 (0, 0)) → wc.grownBy w2 (some g) → LoI W w w2 wb b t g xn n 0 col oc oc1 S sv (.slice p n c) L X) := Lib.hid (fun w2 hr hg => by
      obtain ⟨k1, k2, k3, k4, k5, k6, k7, k8⟩ := HC.out
      have hrow : SRow w2 g (hanG L X 0) := by
        unfold SRow hanG
        rw [hr, List.length_map, List.replicate_zero, List.nil_append, Nat.add_zero, List.map_append, List.map_drop]
      have hc : Chg (fun q => q = g) wc w2 := ⟨hg.os, hg.tape, hg.output, hg.size, fun i hi hne => hg.block i hi (fun e => hne (Option.some.inj e))⟩
      exact ⟨k1.hand hc hrow (by rw [hanG_length (by rw [← HLN.out, k4]; omega)]; exact k4) k4, txts_keep k2 fun j s hj a m d e => hc.same _ (Els.lt (oc := oc1) k2 hj e) (k3.ne k1 j s hj a m d e), k3, k4, HLN.out, k5, k6.chg hc (fun q hq e => by rw [e] at hq ⊢; exact k7 hq), k7, k8⟩)
    obtain ⟨E, hE⟩ : ∃ E, E = lodE z L := ⟨_, rfl⟩
    have CL1 : Hid (∀ w', LoI W w w' wb b t g xn n 8 col oc oc1 S sv (.slice p n c) L X → Calls Tryd.prog 45 #[.int .i64 z, .slice (some ⟨g, 0, none⟩) n xn] w' fun o w'' => ∃ pe, o = .returned (.tuple #[.pointer pe, .int .i64 E]) ∧ LodE w' w'' z L E pe) := Lib.hid (fun w' hi => by
      obtain ⟨r1, r2, r3⟩ := hi.pl.row
      have ht := r1.txts (n := n) (by rw [r2]; have := hi.n8; omega) (by rw [r2]; omega)
      rw [hi.nl, hanG_take, r2, ← hi.nl] at ht
      rw [hE]
      exact lode_any (HBAS.out.below hi.pl.bl) ht)
    have CL2 : Hid (∀ w', LoI W w w' wb b t g xn n 8 col oc oc1 S sv (.slice p n c) L X → Calls Tryd.prog 120 #[.int .i64 z, .slice p n c] w' fun o w'' => ∃ pe, o = .returned (.tuple #[.pointer pe, .int .i64 E]) ∧ LodY w' w'' z L E pe) := Lib.hid (fun w' hi => by rw [hE]; exact lody_any hi.tx)
    have CK : Hid (∀ w', LoI W w w' wb b t g xn n 8 col oc oc1 S sv (.slice p n c) L X → Calls Tryd.prog 39 #[.slice (some ⟨g, 0, none⟩) n8 xn, .slice p n c] w' fun e w'' => e = .returned (.bool true) ∧ Below w'.heap.size w' w'') := Lib.hid (fun w' hi => by
      obtain ⟨r1, r2, r3⟩ := hi.pl.row
      have := keptH_any (.slice p n c) L (hanG L X 8) g w' hi.tx r1 (hanG_take L X 8) (fun i h1 h2 => hanG_spare h1 h2) (by rw [r2, ← hi.nl]; exact hi.n8) (by rw [← hi.nl]; exact hnb) (by rw [r2]; exact hxb)
      rw [r2, ← hi.nl, ← HN8.out] at this
      exact this)
    clear hE HC
    go_upto_region 5 with ((with_reducible refine wpList_copyN (o := ⟨some 41, _, _, _, _, _⟩) rfl (.tmp 39) (.tmp 40) 22 22 rfl 9 Tryd.underlying22 1 hsz_str (by decide) (some ⟨g, 0, none⟩) p n8 xn n c ?_ ?_ g n HCN.out.2.1 (X.map Value.string) 9 ?_ (L.map Value.string) HCN.out.1 HSRC.out HCN.out.2.2 HONE.out ?_); rfl; rfl; exact HR.out.1; intro w2 hr2 hg2 hs2; have HI2 := Lib.hid (HIN.out w2 hr2 hg2); clear hr2 hg2 hs2)
    clear c2 HSRC HR HCN HONE HIN
    go_wp2_with fail
    go_loopw [8] (fun q wr => ∃ k i : Nat, k ≤ 8 ∧ Hid (i = n + k) ∧ q = .int .i64 i ∧ Hid (LoI W w wr wb b t g xn n k col oc oc1 S sv (.slice p n c) L X)) (fun q _ => n8 - (intOf q).toNat)
    case atStart => exact ⟨0, n, by omega, rfl, rfl, HI2⟩
    case round =>
      clear HI2
      obtain ⟨k, i, hk, hi, rfl, HI⟩ := hrel
      have HIE := Lib.hid hi.out
      clear hi
      by_cases hk8 : k < 8
      · have hi8 : (i : Int) < (n8 : Int) := by have := HIE.out; have := HN8.out; omega
        have hi0 : (0 : Int) ≤ (i : Int) := by omega
        obtain ⟨old, hold⟩ : ∃ s, (hanG L X k)[i]? = some s := ⟨(hanG L X k)[i]'(by rw [HI.out.pl.row.2.1]; omega), List.getElem?_eq_getElem _⟩
        have hcell := HI.out.pl.row.1.cell hold
        have hfz := HI.out.pl.row.1.frozen i
        have HPUT := Lib.hid (HI.out.put hk8 HIE.out)
        clear hold
        go_wp2_with fail
        exact ⟨⟨k + 1, i + 1, by omega, (by have := HIE.out; show _ = _; omega), rfl, HPUT⟩, (by show n8 - ((i : Int) + 1).toNat < n8 - (i : Int).toNat; omega)⟩
      · obtain rfl : k = 8 := by omega
        have hi8 : ¬ ((i : Int) < (n8 : Int)) := by have := HIE.out; have := HN8.out; omega
        go_upto_region 10 with (go_at_call 45; (with_reducible refine (CL1.out _ HI.out).mono ?_); rintro o wa ⟨pe, rfl, h⟩; have HA := Lib.hid h; have HIa := Lib.hid (HI.out.below h.b); clear h)
        go_upto_region 11 with (go_at_call 120; (with_reducible refine (CL2.out _ HIa.out).mono ?_); rintro o wx ⟨px, rfl, h⟩; have HX := Lib.hid h; have HIx := Lib.hid (HIa.out.below h.b); clear h)
        go_upto_region 12 with (go_at_call 39; (with_reducible refine (CK.out _ HIx.out).mono ?_); rintro o wk ⟨rfl, h⟩; have HK := Lib.hid h; have HIk := Lib.hid (HIx.out.below h); clear h)
        have HKP : Hid (∀ wz, Chg (fun q => q = g) wk wz → Kp oc w wz) := Lib.hid (fun wz hc => HIk.out.kp.chg hc (fun q hq e => by rw [e] at hq ⊢; exact HIk.out.kg hq))
        have HKE := Lib.hid HIk.out.ke
        obtain ⟨w9, hw9⟩ : ∃ z, z = wr := ⟨_, rfl⟩
        have HGL : Hid (g < w9.heap.size) := Lib.hid (by rw [hw9]; exact HI.out.g_lt)
        have HWR : Hid (W.heap.size ≤ w9.heap.size) := Lib.hid (by rw [hw9]; exact HI.out.pl.bl.size)
        have HOL : Hid (∀ q, oc1 q ≠ 0 → q < w9.heap.size) := Lib.hid (by rw [hw9]; exact fun q hq => (HI.out.pl.ol q hq).2)
        have HA : Hid (LodE w9 wa z L E pe) := Lib.hid (by rw [hw9]; exact HA.out)
        clear hw9
        clear HI HIE HIa hi8 hk8
        go_wp2_with fail
        go_loopw [14] (fun q wz => ∃ (i : Nat) (R : List ByteArray), i ≤ n8 ∧ q = .int .i64 i ∧ Hid (R.length = xn ∧ PlJ noC W wz wb b col oc1 S sv (.slice (some ⟨g, 0, none⟩) xn xn) R t ∧ Chg (fun q => q = g) wk wz)) (fun q _ => n8 - (intOf q).toNat)
        case atStart => exact ⟨0, _, Nat.zero_le _, rfl, Lib.hid ⟨HIk.out.pl.row.2.1, HIk.out.pl, Chg.refl _ _⟩⟩
        case round =>
          clear HIk
          obtain ⟨i, R, hi, rfl, HI⟩ := hrel
          by_cases hlt : i < n8
          · have hi8 : (i : Int) < (n8 : Int) := by omega
            have hi0 : (0 : Int) ≤ (i : Int) := by omega
            obtain ⟨old, hold⟩ : ∃ s, R[i]? = some s := ⟨R[i]'(by rw [HI.out.1]; omega), List.getElem?_eq_getElem _⟩
            have hcell := HI.out.2.1.row.1.cell hold
            have hfz := HI.out.2.1.row.1.frozen i
            have HPUT : Hid ((R.set i over5).length = xn ∧ PlJ noC W (wr.setCell ⟨g, i, none⟩ (.string over5)) wb b col oc1 S sv (.slice (some ⟨g, 0, none⟩) xn xn) (R.set i over5) t ∧ Chg (fun q => q = g) wk (wr.setCell ⟨g, i, none⟩ (.string over5))) := Lib.hid (by
              obtain ⟨k1, k2, k3⟩ := HI.out
              exact ⟨by rw [List.length_set]; exact k1, k2.hand (Chg.set (Q := fun q => q = g) (Chg.refl _ _) rfl _) (k2.row.1.set i over5) (by rw [List.length_set]; exact k1) k1, Chg.set k3 rfl _⟩)
            clear hold
            go_wp2_with fail
            exact ⟨⟨i + 1, _, by omega, rfl, HPUT⟩, (by show n8 - ((i : Int) + 1).toNat < n8 - (i : Int).toNat; omega)⟩
          · have hi8 : ¬ ((i : Int) < (n8 : Int)) := by omega
            obtain ⟨ns, hns⟩ : ∃ x, x = S.length := ⟨_, rfl⟩
            have HSD := Lib.hid (HI.out.2.1.sd id)
            rw [← hns] at HSD
            obtain ⟨ps, cs, rfl, _⟩ := HSD.out.cells
            have c0 : wr.cell? ⟨wb, 0, none⟩ = some (.slice ps ns cs) := cellB (HI.out.2.1.wx id) rfl
            have hns6 : ns ≤ 6 := by rw [hns]; exact HI.out.2.1.sl
            have HNS := Lib.hid hns
            have HPZ := Lib.hid HI.out.2.1
            have HCZ := Lib.hid HI.out.2.2
            have HKZ : Hid (Kp oc w wr) := Lib.hid (HKP.out _ HCZ.out)
            clear HI hns
            rcases HA.out with ⟨q1, q2, q3⟩ | ⟨eb, q1, q2, q3⟩
            · rcases HX.out with ⟨r1, r2, r3⟩ | ⟨xb, r1, r2, r3⟩
              · subst q2 r2
                clear q1 r1 q3 r3
                go_wp2_with fail
                go_ret
                exact ⟨rfl, ⟨col, oc1, S, _, _, R, HPZ.out, HSY.out⟩, HKZ.out⟩
              · exact absurd r1 q1
            · rcases HX.out with ⟨r1, r2, r3⟩ | ⟨xb, r1, r2, r3⟩
              · exact absurd q1 r1
              · subst q2 r2 q1
                have HE3 := Lib.hid q3
                have HX3 := Lib.hid r3
                clear q3 r3 r1
                by_cases h6 : ns < 6
                · have h6i : (ns : Int) < 6 := by omega
                  have HADD : Hid (∀ (d : Array Value) (T : TypeId) v5 w5, Grew 58 2 (wr.alloc (.cells d T)) (.slice ps ns cs) ns 1 (sdV S) [.pointer (some ⟨eb, 0, none⟩), .pointer (some ⟨xb, 0, none⟩)] v5 w5 → w5.heap[wb]? = some (.cells #[.slice ps ns cs, .pointer (some ⟨b, 0, none⟩), .slice (some ⟨g, 0, none⟩) xn xn] 51 (0, 0)) ∧ PlK W (w5.setCell ⟨wb, 0, none⟩ v5) wb b t ∧ Kp oc w (w5.setCell ⟨wb, 0, none⟩ v5)) := Lib.hid (fun d T v5 w5 hg => by
                    obtain ⟨v, k1, k2, k3⟩ := HE3.out
                    obtain ⟨u, l1, l2, l3⟩ := HX3.out
                    have hgl := HGL.out
                    have hp0 := HPZ.out
                    have hkg : ∀ q, w9.heap.size ≤ q → q ≠ g := fun q hq => by omega
                    have e1 : EwI wr eb z.toNat L v := by
                      have := (k1.below l3).below HK.out
                      exact this.keep fun q hq => HCZ.out.same q (this.q_lt hq) (hkg q (k2 q hq))
                    have e2 : EdX wr xb z.toNat L u := by
                      have := l1.below HK.out
                      exact this.keep fun q hq => HCZ.out.same q (this.q_lt hq) (hkg q (Nat.le_trans k3.size (l2 q hq)))
                    have hz : ∀ q, w9.heap.size ≤ q → oc1 q = 0 ∧ W.heap.size ≤ q := fun q hq => by
                      have hbl := HWR.out
                      refine ⟨?_, by omega⟩
                      by_cases ho : oc1 q = 0
                      · exact ho
                      · have := HOL.out q ho; omega
                    have hns := HNS.out
                    subst hns
                    obtain ⟨m1, oc', m2, m3⟩ := hp0.addSide e1 e2 (fun q hq => hz q (k2 q hq)) (fun q hq => hz q (Nat.le_trans k3.size (l2 q hq))) (fun q hq hx => by have := k1.q_lt hq; have := l2 q hx; omega) h6 hg
                    have hkz := HKZ.out
                    have hgs := hg.grown.size
                    exact ⟨m1, ⟨col, oc', _, _, _, R, m2, fun s hs => by
                      rcases List.mem_append.1 hs with h | h
                      · exact HSY.out s h
                      · obtain rfl := List.mem_singleton.1 h
                        exact ⟨rfl, rfl⟩⟩, by simp only [World.setCell, Array.size_modify, World.alloc, Array.size_push] at hgs ⊢; have := hkz.1; omega, fun q hq h0 => (m3 q (Nat.lt_of_lt_of_le hq hkz.1) (by rw [HKE.out q hq, h0]; decide) (by rw [HKE.out q hq, h0]; decide)).trans (hkz.2 q hq h0)⟩)
                  have HONE : Hid (∀ u ∈ [Value.pointer (some ⟨eb, 0, none⟩), .pointer (some ⟨xb, 0, none⟩)], u.oneCell' = true) := Lib.hid (fun u hu => by
                    rcases List.mem_cons.1 hu with rfl | hu
                    · rfl
                    · rw [List.mem_singleton.1 hu]; rfl)
                  have hl1 : (ns + 1) * 16 ≤ 140737488355328 := by omega
                  have hl2 : ns + 1 ≤ 140737488355328 := by omega
                  clear h6
                  go_wp2_with (at_builtin; refine wpList_grew (v := .slice ps ns cs) rfl _ _ rfl Tryd.underlying49 (.agg #[.pointer none, .pointer none]) 2 info_side rfl (by decide) [.pointer (some ⟨eb, 0, none⟩), .pointer (some ⟨xb, 0, none⟩)] 1 (by simp [Act.eval]) (by simp [Act.eval]) HSD.out rfl rfl (by decide) HONE.out hl1 hl2 ?_; intro v5 w5 hg5; obtain ⟨p5, c5, rfl, _⟩ := hg5.held.cells; obtain ⟨hbx, hp5⟩ := HADD.out _ _ _ _ hg5; have d5 : w5.cell? ⟨wb, 0, none⟩ = some (.slice ps ns cs) := cellB hbx rfl; have f5 : w5.frozen? ⟨wb, 0, none⟩ = false := frozB hbx; have HP5 := Lib.hid hp5; clear hg5 hbx hp5)
                  go_ret
                  exact ⟨rfl, HP5.out.1, HP5.out.2⟩
                · have h6i : ¬ (ns : Int) < 6 := by omega
                  go_wp2_with fail
                  go_ret
                  exact ⟨rfl, ⟨col, oc1, S, _, _, R, HPZ.out, HSY.out⟩, HKZ.out⟩
end Go.Proofs.YtdbghgpohdijfaaDoor
/- An edge of the document takes a leaf: walked. -/
namespace Go.Proofs.YtdbghgpohdijfaaDoor
open Go.RowKit Go.Scr Go.ChangeMaps Go.MapKept
set_option linter.unusedVariables false
def RBq (w : World) (x : Nat) (b e : Int) (v : Value) : Prop := w.heap[x]? = some (.cells #[.int .i64 b, .int .i64 e, v] 68 (0, 0))
theorem RBq.c {w : World} {x : Nat} {b e : Int} {v : Value} (h : RBq w x b e v) : w.cell? ⟨x, 0, none⟩ = some (.int .i64 b) ∧ w.cell? ⟨x, 1, none⟩ = some (.int .i64 e) ∧ w.cell? ⟨x, 2, none⟩ = some v := ⟨cellB h rfl, cellB h rfl, cellB h rfl⟩
theorem rbox_new (w : World) (b e : Int) (v : Value) : ∃ wa x, w.alloc (.cells #[.int .i64 b, .int .i64 e, v] 68) = wa ∧ w.heap.size = x ∧ Hid (RBq wa x b e v) ∧ Hid (Below w.heap.size w wa) :=
  ⟨_, _, rfl, rfl, Lib.hid (heap_alloc_new w _), Lib.hid ((Below.refl _ _).alloc (Nat.le_refl _) _)⟩
theorem rbox_newD (w : World) (b e : Int) (v : Value) : ∃ wa x, (w.alloc (.cells #[.int .i64 b, .int .i64 e, v] 68)).drew = wa ∧ w.heap.size = x ∧ Hid (RBq wa x b e v) ∧ Hid (Below w.heap.size w wa) :=
  ⟨_, _, rfl, rfl, Lib.hid (heap_alloc_new w _), Lib.hid ((Below.refl _ _).alloc (Nat.le_refl _) _).drew⟩
theorem one_new (w : World) (x : ByteArray) : ∃ wa g, w.alloc (.cells #[.string x] 9) = wa ∧ w.heap.size = g ∧ Hid (wa.heap[g]? = some (.cells #[.string x] 9 (0, 0))) ∧ Hid (Below w.heap.size w wa) :=
  ⟨_, _, rfl, rfl, Lib.hid (heap_alloc_new w _), Lib.hid ((Below.refl _ _).alloc (Nat.le_refl _) _)⟩
theorem one_newD (w : World) (x : ByteArray) : ∃ wa g, (w.alloc (.cells #[.string x] 9)).drew = wa ∧ w.heap.size = g ∧ Hid (wa.heap[g]? = some (.cells #[.string x] 9 (0, 0))) ∧ Hid (Below w.heap.size w wa) :=
  ⟨_, _, rfl, rfl, Lib.hid (heap_alloc_new w _), Lib.hid ((Below.refl _ _).alloc (Nat.le_refl _) _).drew⟩
theorem lf_from {w wa w3 : World} {v : Value} {n : Nat} {K : List ByteArray} (hb : Below w.heap.size w wa) (h : LfI wa w3 v n K) : LfI w w3 v n K := ⟨hb.trans (h.b.mono hb.size), h.h, fun g hg => Nat.le_trans hb.size (h.o g hg)⟩
theorem jn_set {w w3 : World} {sb kn : Nat} {v u2 y0 y1 : Value} {b e : Int} {K : List ByteArray} (hr : RBq w3 sb b e u2) (h1 : w.heap.size ≤ sb) (hL : LfI w w3 v kn K) (hne : ∀ q, v.ownBlock = some q → q ≠ sb) :
    (((w3.setCell ⟨sb, 0, none⟩ y0).setCell ⟨sb, 1, none⟩ y1).setCell ⟨sb, 2, none⟩ v).heap[sb]? = some (.cells #[y0, y1, v] 68 (0, 0)) ∧ w.heap.size ≤ sb ∧ LfI w (((w3.setCell ⟨sb, 0, none⟩ y0).setCell ⟨sb, 1, none⟩ y1).setCell ⟨sb, 2, none⟩ v) v kn K := by
  refine ⟨blk_set (blk_set (blk_set hr 0 _) 1 _) 2 _, h1, (((hL.b.setCell (p := ⟨sb, 0, none⟩) h1 _).setCell (p := ⟨sb, 1, none⟩) h1 _).setCell (p := ⟨sb, 2, none⟩) h1 _), hL.h.keep fun g hg => ?_, hL.o⟩
  have hne' := hne g hg
  rw [Below.heap_setCell _ ⟨sb, 2, none⟩ _ g hne', Below.heap_setCell _ ⟨sb, 1, none⟩ _ g hne', Below.heap_setCell _ ⟨sb, 0, none⟩ _ g hne']
set_option maxRecDepth 100000 in
set_option maxHeartbeats 8000000 in
theorem xwadd_any {w : World} {xb n : Nat} {H : List ByteArray} {v : Value} (h : EdX w xb n H v) (hk : EOk n H) (x : ByteArray) :
    Calls Tryd.prog 75 #[.pointer (some ⟨xb, 0, none⟩), .string x] w fun o w' => o = .returned (.int .i64 (addE n x)) ∧ XwC w w' xb v (addS n H x).1 (addS n H x).2 := by
  have hn40 := hk.1
  have c0 : w.cell? ⟨xb, 0, none⟩ = some (.int .i64 (n : Int)) := cellB h.box rfl
  have c1 : w.cell? ⟨xb, 1, none⟩ = some v := cellB h.box rfl
  rcases addE_cases n x with ⟨he, hx⟩ | ⟨he, hx, hn⟩ | ⟨he, hx, hn⟩
  · have hs : addS n H x = (n, H) := by unfold addS; rw [if_neg (by rw [he]; decide)]
    rw [he, hs]
    have hx0 : ((x.size : Int) == 32) = false := by rw [beq_eq_false_iff_ne]; omega
    have hx1 : ¬ (x.size : Int) = 32 := by omega
    have HH : Hid (EdX w xb n H v) := Lib.hid h
    clear hk he hs h hx hn40
    go_enter Tryd.func75, Tryd.ntmps75
    go_wp2
    go_ret
    exact ⟨rfl, v, HH.out, Chg.refl _ _, fun q hq => .inl hq⟩
  · subst hn
    have hs : addS 1099511627776 H x = (1099511627776, H) := by unfold addS; rw [if_neg (by rw [he]; decide)]
    rw [he, hs]
    have hx0 : (x.size : Int) = 32 := by omega
    have HH : Hid (EdX w xb 1099511627776 H v) := Lib.hid h
    clear hk he hs h hx hn40
    go_enter Tryd.func75, Tryd.ntmps75
    go_wp2
    go_ret
    exact ⟨rfl, v, HH.out, Chg.refl _ _, fun q hq => .inl hq⟩
  · have hs : addS n H x = (n + 1, addT n H x) := by unfold addS; rw [if_pos he]
    rw [he, hs]
    obtain ⟨n1, hn1⟩ : ∃ x, x = n + 1 := ⟨_, rfl⟩
    have e1 : (n : Int) + 1 = (n1 : Int) := by omega
    have hn1b : n1 ≤ 1099511627776 := by omega
    have hni : ((n : Int) == 1099511627776) = false := by rw [beq_eq_false_iff_ne]; omega
    have hni2 : ¬ (n : Int) = 1099511627776 := by omega
    have hxi : (x.size : Int) = 32 := by omega
    have hl80 : H.length ≤ 80 := hk.l80
    obtain ⟨K, hK⟩ : ∃ K, K = addT n H x := ⟨_, rfl⟩
    obtain ⟨kn, hkn⟩ : ∃ k, k = K.length := ⟨_, rfl⟩
    obtain ⟨nh, hnh⟩ : ∃ k, k = H.length := ⟨_, rfl⟩
    have hhd := h.hd
    obtain ⟨p, c, rfl⟩ : ∃ p c, v = .slice p nh c := by obtain ⟨p, c, e, _⟩ := h.hd.cells; exact ⟨p, c, by rw [e, hnh]⟩
    have HJ : Hid (∀ w' g, Below w.heap.size w w' → w'.heap[g]? = some (.cells #[.string x] 9 (0, 0)) → Calls Tryd.prog 34 #[.agg #[.int .i64 0, .int .i64 (n : Int), .slice p nh c], .agg #[.int .i64 (n : Int), .int .i64 (n1 : Int), .slice (some ⟨g, 0, none⟩) 1 1]] w' fun o z => ∃ p c, o = .returned (.tuple #[.agg #[.int .i64 0, .int .i64 (n1 : Int), .slice p kn c], .int .i64 0]) ∧ LfI w' z (.slice p kn c) kn K) := Lib.hid (fun w' g hb hx' => by
      have hj := add_jnE hk hn hx
      have ht : Txts w' (.slice p nh c) H := (h.below hb).tx hl80
      refine (join5_any (ab := 0) (ae := (n : Int)) (bb := (n : Int)) (be := (n1 : Int)) ht (one_row hx')).mono ?_
      rw [hn1, hj]
      rintro o z ⟨b2, e2, KL, hcase, u, rfl, hu⟩
      rcases hcase with ⟨h0, _⟩ | ⟨_, rfl, rfl, rfl⟩
      · exact absurd rfl h0
      · rw [Int.toNat_natCast, Int.toNat_natCast] at hu
        have hu : LfI w' z u (addT n H x).length (addT n H x) := hu
        rw [← hK, ← hkn] at hu
        obtain ⟨q, d, rfl, _⟩ := hu.h.cells
        exact ⟨q, d, rfl, hu⟩)
    have HC : Hid (∀ w' : World, Below w.heap.size w w' → w'.cell? ⟨xb, 0, none⟩ = some (.int .i64 (n : Int)) ∧ w'.cell? ⟨xb, 1, none⟩ = some (.slice p nh c)) := Lib.hid (fun w' hb => by
      have := (hb.block xb (blk_lt h.box)).trans h.box
      exact ⟨cellB this rfl, cellB this rfl⟩)
    have HBX := Lib.hid h.box
    have HKN : Hid (kn = K.length ∧ n1 = n + 1 ∧ K = addT n H x) := Lib.hid ⟨hkn, hn1, hK⟩
    clear h hk he hs hx hn40 hn hn1 hl80 hhd hkn hnh hK
    go_enter Tryd.func75, Tryd.ntmps75
    go_upto_region 5 with fail
    clear c0 c1
    go_cut [5, 6] from 15 to 40 (fun x6 y6 wx => ∃ sb p3 c3, x6 = .pointer (some ⟨sb, 0, none⟩) ∧ y6 = .int .i64 0 ∧ Hid (wx.heap[sb]? = some (.cells #[.int .i64 0, .int .i64 (n1 : Int), .slice p3 kn c3] 68 (0, 0)) ∧ w.heap.size ≤ sb ∧ LfI w wx (.slice p3 kn c3) kn K))
    case first =>
      have hw1 : IntKind.i64.wrap (n1 : Int) = (n1 : Int) := wrap_i64_id _ (by omega) (by omega)
      have HB0 : Hid (Below w.heap.size w w.drew) := Lib.hid (Below.refl _ _).drew
      refine wp_region_held_drew (S := fun w' => w'.cell? ⟨xb, 0, none⟩ = some (.int .i64 (n : Int)) ∧ w'.cell? ⟨xb, 1, none⟩ = some (.slice p nh c)) (by kernel_rfl) (by exact HC.out _ HB0.out) (fun hHeld => ?_)
      refine wpAnyH_take (i := 0) (oi := ⟨_, _, _, _, _, _⟩) (v := ?_) rfl (by kernel_rfl) (by kernel_rfl) (by kernel_rfl) (fun _ _ _ h => h) (Or.inl ⟨by rfl, ?_⟩) hHeld ?_
      rotate_left
      · ((intro w hSw; (try dsimp only at hSw); go_simp) <;> with_reducible rfl)
      try simp only [Act.put, List.setIfInBounds_toArray, List.set_cons_zero, List.set_cons_succ]
      refine wpAnyH_take (i := 1) (oi := ⟨_, _, _, _, _, _⟩) (v := ?_) rfl (by kernel_rfl) (by kernel_rfl) (by kernel_rfl) (fun _ _ _ h => h) (Or.inl ⟨by rfl, ?_⟩) hHeld ?_
      rotate_left
      · ((intro w hSw; (try dsimp only at hSw); go_simp) <;> with_reducible rfl)
      try simp only [Act.put, List.setIfInBounds_toArray, List.set_cons_zero, List.set_cons_succ]
      refine wpAnyH_take (i := 2) (oi := ⟨_, _, _, _, _, _⟩) (v := ?_) rfl (by kernel_rfl) (by kernel_rfl) (by kernel_rfl) (fun _ _ _ h => h) (Or.inl ⟨by rfl, ?_⟩) hHeld ?_
      rotate_left
      · ((intro w hSw; (try dsimp only at hSw); go_simp) <;> with_reducible rfl)
      try simp only [Act.put, List.setIfInBounds_toArray, List.set_cons_zero, List.set_cons_succ]
      refine wpAnyH_take (i := 3) (oi := ⟨_, _, _, _, _, _⟩) (v := ?_) rfl (by kernel_rfl) (by kernel_rfl) (by kernel_rfl) (fun _ _ _ h => h) (Or.inl ⟨by rfl, ?_⟩) hHeld ?_
      rotate_left
      · ((intro w hSw; (try dsimp only at hSw); go_simp) <;> with_reducible rfl)
      try simp only [Act.put, List.setIfInBounds_toArray, List.set_cons_zero, List.set_cons_succ]
      refine wpAnyH_take (i := 4) (oi := ⟨_, _, _, _, _, _⟩) (v := ?_) rfl (by kernel_rfl) (by kernel_rfl) (by kernel_rfl) (fun _ _ _ h => h) (Or.inl ⟨by rfl, ?_⟩) hHeld ?_
      rotate_left
      · ((intro w hSw; (try dsimp only at hSw); go_simp) <;> with_reducible rfl)
      try simp only [Act.put, List.setIfInBounds_toArray, List.set_cons_zero, List.set_cons_succ]
      refine wpAnyH_take (i := 5) (oi := ⟨_, _, _, _, _, _⟩) (v := ?_) rfl (by kernel_rfl) (by kernel_rfl) (by kernel_rfl) (fun _ _ _ h => h) (Or.inl ⟨by rfl, ?_⟩) hHeld ?_
      rotate_left
      · ((intro w hSw; (try dsimp only at hSw); go_simp) <;> with_reducible rfl)
      try simp only [Act.put, List.setIfInBounds_toArray, List.set_cons_zero, List.set_cons_succ]
      refine wpAnyH_take (i := 6) (oi := ⟨_, _, _, _, _, _⟩) (v := ?_) rfl (by kernel_rfl) (by kernel_rfl) (by kernel_rfl) (fun _ _ _ h => h) (Or.inl ⟨by rfl, ?_⟩) hHeld ?_
      rotate_left
      · ((intro w hSw; (try dsimp only at hSw); go_simp) <;> with_reducible rfl)
      try simp only [Act.put, List.setIfInBounds_toArray, List.set_cons_zero, List.set_cons_succ]
      refine wpAnyH_take (i := 7) (oi := ⟨_, _, _, _, _, _⟩) (v := ?_) rfl (by kernel_rfl) (by kernel_rfl) (by kernel_rfl) (fun _ _ _ h => h) (Or.inl ⟨by rfl, ?_⟩) hHeld ?_
      rotate_left
      · ((intro w hSw; (try dsimp only at hSw); go_simp) <;> with_reducible rfl)
      try simp only [Act.put, List.setIfInBounds_toArray, List.set_cons_zero, List.set_cons_succ]
      refine wpAnyH_take (i := 8) (oi := ⟨_, _, _, _, _, _⟩) (v := ?_) rfl (by kernel_rfl) (by kernel_rfl) (by kernel_rfl) (fun _ _ _ h => h) (Or.inl ⟨by rfl, ?_⟩) hHeld ?_
      rotate_left
      · ((intro w hSw; (try dsimp only at hSw); go_simp) <;> with_reducible rfl)
      try simp only [Act.put, List.setIfInBounds_toArray, List.set_cons_zero, List.set_cons_succ]
      refine wpAnyH_take (i := 9) (oi := ⟨_, _, _, _, _, _⟩) (v := ?_) rfl (by kernel_rfl) (by kernel_rfl) (by kernel_rfl) (fun _ _ _ h => h) (Or.inl ⟨by rfl, ?_⟩) hHeld ?_
      rotate_left
      · ((intro w hSw; (try dsimp only at hSw); go_simp) <;> with_reducible rfl)
      try simp only [Act.put, List.setIfInBounds_toArray, List.set_cons_zero, List.set_cons_succ]
      refine wpAnyH_take (i := 10) (oi := ⟨_, _, _, _, _, _⟩) (v := ?_) rfl (by kernel_rfl) (by kernel_rfl) (by kernel_rfl) (fun _ _ _ h => h) (Or.inl ⟨by rfl, ?_⟩) hHeld ?_
      rotate_left
      · ((intro w hSw; (try dsimp only at hSw); go_simp) <;> with_reducible rfl)
      try simp only [Act.put, List.setIfInBounds_toArray, List.set_cons_zero, List.set_cons_succ]
      refine wpAnyH_take (i := 11) (oi := ⟨_, _, _, _, _, _⟩) (v := ?_) rfl (by kernel_rfl) (by kernel_rfl) (by kernel_rfl) (fun _ _ _ h => h) (Or.inl ⟨by rfl, ?_⟩) hHeld ?_
      rotate_left
      · ((intro w hSw; (try dsimp only at hSw); go_simp) <;> with_reducible rfl)
      try simp only [Act.put, List.setIfInBounds_toArray, List.set_cons_zero, List.set_cons_succ]
      refine wpAnyH_take (i := 12) (oi := ⟨_, _, _, _, _, _⟩) (v := ?_) rfl (by kernel_rfl) (by kernel_rfl) (by kernel_rfl) (fun _ _ _ h => h) (Or.inl ⟨by rfl, ?_⟩) hHeld ?_
      rotate_left
      · ((intro w hSw; (try dsimp only at hSw); go_simp) <;> with_reducible rfl)
      try simp only [Act.put, List.setIfInBounds_toArray, List.set_cons_zero, List.set_cons_succ]
      refine wpAnyH_take (i := 13) (oi := ⟨_, _, _, _, _, _⟩) (v := ?_) rfl (by kernel_rfl) (by kernel_rfl) (by kernel_rfl) (fun _ _ _ h => h) (Or.inl ⟨by rfl, ?_⟩) hHeld ?_
      rotate_left
      · ((intro w hSw; (try dsimp only at hSw); go_simp) <;> with_reducible rfl)
      try simp only [Act.put, List.setIfInBounds_toArray, List.set_cons_zero, List.set_cons_succ]
      refine wpAnyH_take (i := 14) (oi := ⟨_, _, _, _, _, _⟩) (v := ?_) rfl (by kernel_rfl) (by kernel_rfl) (by kernel_rfl) (fun _ _ _ h => h) (Or.inl ⟨by rfl, ?_⟩) hHeld ?_
      rotate_left
      · ((intro w hSw; (try dsimp only at hSw); go_simp) <;> with_reducible rfl)
      try simp only [Act.put, List.setIfInBounds_toArray, List.set_cons_zero, List.set_cons_succ]
      refine wpAnyH_take (i := 15) (oi := ⟨_, _, _, _, _, _⟩) (v := ?_) rfl (by kernel_rfl) (by kernel_rfl) (by kernel_rfl) (fun _ _ _ h => h) (Or.inl ⟨by rfl, ?_⟩) hHeld ?_
      rotate_left
      · ((intro w hSw; (try dsimp only at hSw); go_simp) <;> with_reducible rfl)
      try simp only [Act.put, List.setIfInBounds_toArray, List.set_cons_zero, List.set_cons_succ]
      refine wpAnyH_take (i := 16) (oi := ⟨_, _, _, _, _, _⟩) (v := ?_) rfl (by kernel_rfl) (by kernel_rfl) (by kernel_rfl) (fun _ _ _ h => h) (Or.inl ⟨by rfl, ?_⟩) hHeld ?_
      rotate_left
      · ((intro w hSw; (try dsimp only at hSw); go_simp) <;> with_reducible rfl)
      try simp only [Act.put, List.setIfInBounds_toArray, List.set_cons_zero, List.set_cons_succ]
      refine wpAnyH_take (i := 17) (oi := ⟨_, _, _, _, _, _⟩) (v := ?_) rfl (by kernel_rfl) (by kernel_rfl) (by kernel_rfl) (fun _ _ _ h => h) (Or.inl ⟨by rfl, ?_⟩) hHeld ?_
      rotate_left
      · ((intro w hSw; (try dsimp only at hSw); go_simp) <;> with_reducible rfl)
      try simp only [Act.put, List.setIfInBounds_toArray, List.set_cons_zero, List.set_cons_succ]
      refine wpAnyH_take (i := 18) (oi := ⟨_, _, _, _, _, _⟩) (v := ?_) rfl (by kernel_rfl) (by kernel_rfl) (by kernel_rfl) (fun _ _ _ h => h) (Or.inl ⟨by rfl, ?_⟩) hHeld ?_
      rotate_left
      · ((intro w hSw; (try dsimp only at hSw); go_simp) <;> with_reducible rfl)
      try simp only [Act.put, List.setIfInBounds_toArray, List.set_cons_zero, List.set_cons_succ]
      refine wpAnyH_ready (rs := [19, 25]) (by kernel_rfl) (by simp) ?_
      refine AllReadyH.cons (o := ⟨_, _, _, _, _, _⟩) rfl (fun KC hK => ?_) ?_
      rotate_left
      refine AllReadyH.cons (o := ⟨_, _, _, _, _, _⟩) rfl (fun KC hK => ?_) ?_
      rotate_left
      · exact AllReadyH.nil
      · go_simp
        obtain ⟨w1, g1, e1, e2, HR1, HB1⟩ := one_newD w x
        rw [e1, e2]
        clear e1 e2
        have HBy := HB1
        refine hK.out _ _ (by exact HC.out _ (by first | exact HBz.out | exact HBy.out | exact HBx.out | exact HB0.out)) (fun hHeld => ?_)
        clear hK KC
        try simp only [Act.put, List.setIfInBounds_toArray, List.set_cons_zero, List.set_cons_succ]
        refine wpAnyH_take (i := 20) (oi := ⟨_, _, _, _, _, _⟩) (v := ?_) rfl (by kernel_rfl) (by kernel_rfl) (by kernel_rfl) (fun _ _ _ h => h) (Or.inl ⟨by rfl, ?_⟩) hHeld ?_
        rotate_left
        · ((intro w hSw; (try dsimp only at hSw); go_simp) <;> with_reducible rfl)
        try simp only [Act.put, List.setIfInBounds_toArray, List.set_cons_zero, List.set_cons_succ]
        refine wpAnyH_ready (rs := [21, 25]) (by kernel_rfl) (by simp) ?_
        refine AllReadyH.cons (o := ⟨_, _, _, _, _, _⟩) rfl (fun KC hK => ?_) ?_
        rotate_left
        refine AllReadyH.cons (o := ⟨_, _, _, _, _, _⟩) rfl (fun KC hK => ?_) ?_
        rotate_left
        · exact AllReadyH.nil
        · go_simp
          go_at_call 34
          (with_reducible refine (HJ.out _ _ HBy.out HR1.out).mono ?_)
          rintro o w3 ⟨p3, c3, rfl, hL⟩
          have HL := Lib.hid hL
          clear hL
          have HBz : Hid (Below w.heap.size w w3) := Lib.hid (HBy.out.trans (HL.out.b.mono HBy.out.size))
          refine hK.out _ _ (by exact HC.out _ (by first | exact HBz.out | exact HBy.out | exact HBx.out | exact HB0.out)) (fun hHeld => ?_)
          clear hK KC
          try simp only [Act.put, List.setIfInBounds_toArray, List.set_cons_zero, List.set_cons_succ]
          refine wpAnyH_take (i := 22) (oi := ⟨_, _, _, _, _, _⟩) (v := ?_) rfl (by kernel_rfl) (by kernel_rfl) (by kernel_rfl) (fun _ _ _ h => h) (Or.inl ⟨by rfl, ?_⟩) hHeld ?_
          rotate_left
          · ((intro w hSw; (try dsimp only at hSw); go_simp) <;> with_reducible rfl)
          try simp only [Act.put, List.setIfInBounds_toArray, List.set_cons_zero, List.set_cons_succ]
          refine wpAnyH_take (i := 23) (oi := ⟨_, _, _, _, _, _⟩) (v := ?_) rfl (by kernel_rfl) (by kernel_rfl) (by kernel_rfl) (fun _ _ _ h => h) (Or.inl ⟨by rfl, ?_⟩) hHeld ?_
          rotate_left
          · ((intro w hSw; (try dsimp only at hSw); go_simp) <;> with_reducible rfl)
          try simp only [Act.put, List.setIfInBounds_toArray, List.set_cons_zero, List.set_cons_succ]
          refine wpAnyH_take (i := 24) (oi := ⟨_, _, _, _, _, _⟩) (v := ?_) rfl (by kernel_rfl) (by kernel_rfl) (by kernel_rfl) (fun _ _ _ h => h) (Or.inl ⟨by rfl, ?_⟩) hHeld ?_
          rotate_left
          · ((intro w hSw; (try dsimp only at hSw); go_simp) <;> with_reducible rfl)
          try simp only [Act.put, List.setIfInBounds_toArray, List.set_cons_zero, List.set_cons_succ]
          refine wpAnyH_ready (rs := [25]) (by kernel_rfl) (by simp) ?_
          refine AllReadyH.cons (o := ⟨_, _, _, _, _, _⟩) rfl (fun KC hK => ?_) ?_
          rotate_left
          · exact AllReadyH.nil
          go_simp
          obtain ⟨w5, sb, e1, e2, HXs, HB5⟩ := rbox_new w3 0 0 (.slice none 0 0)
          rw [e1, e2]
          have HSB := Lib.hid e2
          clear e1 e2
          have HLO : Hid (w.heap.size ≤ sb) := Lib.hid (by rw [← HSB.out]; exact HBz.out.size)
          have HL5 : Hid (LfI w w5 (.slice p3 kn c3) kn K) := Lib.hid (lf_from HBy.out (HL.out.below HB5.out))
          have HNE5 : Hid (∀ q, (Value.slice p3 kn c3).ownBlock = some q → q ≠ sb) := Lib.hid (fun q hq => by have := HL.out.h.lt hq; have := HSB.out; omega)
          have HBz : Hid (Below w.heap.size w w5) := Lib.hid HL5.out.b
          refine hK.out _ _ (by exact HC.out _ (by first | exact HBz.out | exact HBy.out | exact HBx.out | exact HB0.out)) (fun hHeld => ?_)
          clear hK KC
          try simp only [Act.put, List.setIfInBounds_toArray, List.set_cons_zero, List.set_cons_succ]
          refine wpAnyH_ready (rs := [26]) (by kernel_rfl) (by simp) ?_
          refine AllReadyH.cons (o := ⟨_, _, _, _, _, _⟩) rfl (fun KC hK => ?_) ?_
          rotate_left
          · exact AllReadyH.nil
          obtain ⟨k0, k1, k2⟩ := HXs.out.c
          have f0 : w5.frozen? ⟨sb, 0, none⟩ = false := frozB HXs.out
          have f1 : w5.frozen? ⟨sb, 1, none⟩ = false := frozB HXs.out
          have f2 : w5.frozen? ⟨sb, 2, none⟩ = false := frozB HXs.out
          go_simp
          have HEN := Lib.hid (jn_set HXs.out HLO.out HL5.out HNE5.out (y0 := .int .i64 0) (y1 := .int .i64 (n1 : Int)))
          have HBz := Lib.hid HEN.out.2.2.b
          refine hK.out _ _ (by exact HC.out _ (by first | exact HBz.out | exact HBy.out | exact HBx.out | exact HB0.out)) (fun hHeld => ?_)
          clear hK KC
          try simp only [Act.put, List.setIfInBounds_toArray, List.set_cons_zero, List.set_cons_succ]
          refine wpAnyH_take (i := 27) (oi := ⟨_, _, _, _, _, _⟩) (v := ?_) rfl (by kernel_rfl) (by kernel_rfl) (by kernel_rfl) (fun _ _ _ h => h) (Or.inl ⟨by rfl, ?_⟩) hHeld ?_
          rotate_left
          · ((intro w hSw; (try dsimp only at hSw); go_simp) <;> with_reducible rfl)
          try simp only [Act.put, List.setIfInBounds_toArray, List.set_cons_zero, List.set_cons_succ]
          refine wpAnyH_done (by kernel_rfl) ?_ _
          go_wp2_with fail
          go_meet
          exact ⟨sb, p3, c3, rfl, rfl, HEN⟩
        · go_simp
          obtain ⟨w2, sb, e1, e2, HX2, HB2⟩ := rbox_new w1 0 0 (.slice none 0 0)
          rw [e1, e2]
          have HSB := Lib.hid e2
          clear e1 e2
          have HR1 : Hid (w2.heap[g1]? = _) := Lib.hid (blk_below HR1.out HB2.out (blk_lt HR1.out))
          have HBy : Hid (Below w.heap.size w w2) := Lib.hid (HB1.out.trans (HB2.out.mono HB1.out.size))
          have HLO : Hid (w.heap.size ≤ sb) := Lib.hid (by rw [← HSB.out]; exact HB1.out.size)
          refine hK.out _ _ (by exact HC.out _ (by first | exact HBz.out | exact HBy.out | exact HBx.out | exact HB0.out)) (fun hHeld => ?_)
          clear hK KC
          try simp only [Act.put, List.setIfInBounds_toArray, List.set_cons_zero, List.set_cons_succ]
          refine wpAnyH_ready (rs := [21]) (by kernel_rfl) (by simp) ?_
          refine AllReadyH.cons (o := ⟨_, _, _, _, _, _⟩) rfl (fun KC hK => ?_) ?_
          rotate_left
          · exact AllReadyH.nil
          go_simp
          go_at_call 34
          (with_reducible refine (HJ.out _ _ HBy.out HR1.out).mono ?_)
          rintro o w3 ⟨p3, c3, rfl, hL⟩
          have HL := Lib.hid hL
          clear hL
          have HBz : Hid (Below w.heap.size w w3) := Lib.hid (HBy.out.trans (HL.out.b.mono HBy.out.size))
          refine hK.out _ _ (by exact HC.out _ (by first | exact HBz.out | exact HBy.out | exact HBx.out | exact HB0.out)) (fun hHeld => ?_)
          clear hK KC
          try simp only [Act.put, List.setIfInBounds_toArray, List.set_cons_zero, List.set_cons_succ]
          refine wpAnyH_take (i := 22) (oi := ⟨_, _, _, _, _, _⟩) (v := ?_) rfl (by kernel_rfl) (by kernel_rfl) (by kernel_rfl) (fun _ _ _ h => h) (Or.inl ⟨by rfl, ?_⟩) hHeld ?_
          rotate_left
          · ((intro w hSw; (try dsimp only at hSw); go_simp) <;> with_reducible rfl)
          try simp only [Act.put, List.setIfInBounds_toArray, List.set_cons_zero, List.set_cons_succ]
          refine wpAnyH_take (i := 23) (oi := ⟨_, _, _, _, _, _⟩) (v := ?_) rfl (by kernel_rfl) (by kernel_rfl) (by kernel_rfl) (fun _ _ _ h => h) (Or.inl ⟨by rfl, ?_⟩) hHeld ?_
          rotate_left
          · ((intro w hSw; (try dsimp only at hSw); go_simp) <;> with_reducible rfl)
          try simp only [Act.put, List.setIfInBounds_toArray, List.set_cons_zero, List.set_cons_succ]
          refine wpAnyH_take (i := 24) (oi := ⟨_, _, _, _, _, _⟩) (v := ?_) rfl (by kernel_rfl) (by kernel_rfl) (by kernel_rfl) (fun _ _ _ h => h) (Or.inl ⟨by rfl, ?_⟩) hHeld ?_
          rotate_left
          · ((intro w hSw; (try dsimp only at hSw); go_simp) <;> with_reducible rfl)
          try simp only [Act.put, List.setIfInBounds_toArray, List.set_cons_zero, List.set_cons_succ]
          obtain ⟨w5, hw5⟩ : ∃ z, z = w3 := ⟨_, rfl⟩
          have HXs : Hid (RBq w5 sb 0 0 (.slice none 0 0)) := Lib.hid (by rw [hw5]; exact blk_below HX2.out HL.out.b (blk_lt HX2.out))
          have HL5 : Hid (LfI w w5 (.slice p3 kn c3) kn K) := Lib.hid (by rw [hw5]; exact lf_from HBy.out HL.out)
          have HNE5 : Hid (∀ q, (Value.slice p3 kn c3).ownBlock = some q → q ≠ sb) := Lib.hid (fun q hq => by have := HL.out.o q hq; have := blk_lt HX2.out; omega)
          subst hw5
          refine wpAnyH_ready (rs := [26]) (by kernel_rfl) (by simp) ?_
          refine AllReadyH.cons (o := ⟨_, _, _, _, _, _⟩) rfl (fun KC hK => ?_) ?_
          rotate_left
          · exact AllReadyH.nil
          obtain ⟨k0, k1, k2⟩ := HXs.out.c
          have f0 : w5.frozen? ⟨sb, 0, none⟩ = false := frozB HXs.out
          have f1 : w5.frozen? ⟨sb, 1, none⟩ = false := frozB HXs.out
          have f2 : w5.frozen? ⟨sb, 2, none⟩ = false := frozB HXs.out
          go_simp
          have HEN := Lib.hid (jn_set HXs.out HLO.out HL5.out HNE5.out (y0 := .int .i64 0) (y1 := .int .i64 (n1 : Int)))
          have HBz := Lib.hid HEN.out.2.2.b
          refine hK.out _ _ (by exact HC.out _ (by first | exact HBz.out | exact HBy.out | exact HBx.out | exact HB0.out)) (fun hHeld => ?_)
          clear hK KC
          try simp only [Act.put, List.setIfInBounds_toArray, List.set_cons_zero, List.set_cons_succ]
          refine wpAnyH_take (i := 27) (oi := ⟨_, _, _, _, _, _⟩) (v := ?_) rfl (by kernel_rfl) (by kernel_rfl) (by kernel_rfl) (fun _ _ _ h => h) (Or.inl ⟨by rfl, ?_⟩) hHeld ?_
          rotate_left
          · ((intro w hSw; (try dsimp only at hSw); go_simp) <;> with_reducible rfl)
          try simp only [Act.put, List.setIfInBounds_toArray, List.set_cons_zero, List.set_cons_succ]
          refine wpAnyH_done (by kernel_rfl) ?_ _
          go_wp2_with fail
          go_meet
          exact ⟨sb, p3, c3, rfl, rfl, HEN⟩
      · go_simp
        obtain ⟨w2, sb, e1, e2, HX2, HB2⟩ := rbox_newD w 0 0 (.slice none 0 0)
        rw [e1, e2]
        have HSB := Lib.hid e2
        clear e1 e2
        have HBy := HB2
        have HLO : Hid (w.heap.size ≤ sb) := Lib.hid (by rw [← HSB.out]; exact Nat.le_refl _)
        refine hK.out _ _ (by exact HC.out _ (by first | exact HBz.out | exact HBy.out | exact HBx.out | exact HB0.out)) (fun hHeld => ?_)
        clear hK KC
        try simp only [Act.put, List.setIfInBounds_toArray, List.set_cons_zero, List.set_cons_succ]
        refine wpAnyH_ready (rs := [19]) (by kernel_rfl) (by simp) ?_
        refine AllReadyH.cons (o := ⟨_, _, _, _, _, _⟩) rfl (fun KC hK => ?_) ?_
        rotate_left
        · exact AllReadyH.nil
        go_simp
        obtain ⟨w1, g1, e1, e2, HR1, HB1⟩ := one_new w2 x
        rw [e1, e2]
        clear e1 e2
        have HX2 : Hid (RBq w1 sb 0 0 (.slice none 0 0)) := Lib.hid (blk_below HX2.out HB1.out (blk_lt HX2.out))
        have HBy : Hid (Below w.heap.size w w1) := Lib.hid (HB2.out.trans (HB1.out.mono HB2.out.size))
        refine hK.out _ _ (by exact HC.out _ (by first | exact HBz.out | exact HBy.out | exact HBx.out | exact HB0.out)) (fun hHeld => ?_)
        clear hK KC
        try simp only [Act.put, List.setIfInBounds_toArray, List.set_cons_zero, List.set_cons_succ]
        refine wpAnyH_take (i := 20) (oi := ⟨_, _, _, _, _, _⟩) (v := ?_) rfl (by kernel_rfl) (by kernel_rfl) (by kernel_rfl) (fun _ _ _ h => h) (Or.inl ⟨by rfl, ?_⟩) hHeld ?_
        rotate_left
        · ((intro w hSw; (try dsimp only at hSw); go_simp) <;> with_reducible rfl)
        try simp only [Act.put, List.setIfInBounds_toArray, List.set_cons_zero, List.set_cons_succ]
        refine wpAnyH_ready (rs := [21]) (by kernel_rfl) (by simp) ?_
        refine AllReadyH.cons (o := ⟨_, _, _, _, _, _⟩) rfl (fun KC hK => ?_) ?_
        rotate_left
        · exact AllReadyH.nil
        go_simp
        go_at_call 34
        (with_reducible refine (HJ.out _ _ HBy.out HR1.out).mono ?_)
        rintro o w3 ⟨p3, c3, rfl, hL⟩
        have HL := Lib.hid hL
        clear hL
        have HBz : Hid (Below w.heap.size w w3) := Lib.hid (HBy.out.trans (HL.out.b.mono HBy.out.size))
        refine hK.out _ _ (by exact HC.out _ (by first | exact HBz.out | exact HBy.out | exact HBx.out | exact HB0.out)) (fun hHeld => ?_)
        clear hK KC
        try simp only [Act.put, List.setIfInBounds_toArray, List.set_cons_zero, List.set_cons_succ]
        refine wpAnyH_take (i := 22) (oi := ⟨_, _, _, _, _, _⟩) (v := ?_) rfl (by kernel_rfl) (by kernel_rfl) (by kernel_rfl) (fun _ _ _ h => h) (Or.inl ⟨by rfl, ?_⟩) hHeld ?_
        rotate_left
        · ((intro w hSw; (try dsimp only at hSw); go_simp) <;> with_reducible rfl)
        try simp only [Act.put, List.setIfInBounds_toArray, List.set_cons_zero, List.set_cons_succ]
        refine wpAnyH_take (i := 23) (oi := ⟨_, _, _, _, _, _⟩) (v := ?_) rfl (by kernel_rfl) (by kernel_rfl) (by kernel_rfl) (fun _ _ _ h => h) (Or.inl ⟨by rfl, ?_⟩) hHeld ?_
        rotate_left
        · ((intro w hSw; (try dsimp only at hSw); go_simp) <;> with_reducible rfl)
        try simp only [Act.put, List.setIfInBounds_toArray, List.set_cons_zero, List.set_cons_succ]
        refine wpAnyH_take (i := 24) (oi := ⟨_, _, _, _, _, _⟩) (v := ?_) rfl (by kernel_rfl) (by kernel_rfl) (by kernel_rfl) (fun _ _ _ h => h) (Or.inl ⟨by rfl, ?_⟩) hHeld ?_
        rotate_left
        · ((intro w hSw; (try dsimp only at hSw); go_simp) <;> with_reducible rfl)
        try simp only [Act.put, List.setIfInBounds_toArray, List.set_cons_zero, List.set_cons_succ]
        obtain ⟨w5, hw5⟩ : ∃ z, z = w3 := ⟨_, rfl⟩
        have HXs : Hid (RBq w5 sb 0 0 (.slice none 0 0)) := Lib.hid (by rw [hw5]; exact blk_below HX2.out HL.out.b (blk_lt HX2.out))
        have HL5 : Hid (LfI w w5 (.slice p3 kn c3) kn K) := Lib.hid (by rw [hw5]; exact lf_from HBy.out HL.out)
        have HNE5 : Hid (∀ q, (Value.slice p3 kn c3).ownBlock = some q → q ≠ sb) := Lib.hid (fun q hq => by have := HL.out.o q hq; have := blk_lt HX2.out; omega)
        subst hw5
        refine wpAnyH_ready (rs := [26]) (by kernel_rfl) (by simp) ?_
        refine AllReadyH.cons (o := ⟨_, _, _, _, _, _⟩) rfl (fun KC hK => ?_) ?_
        rotate_left
        · exact AllReadyH.nil
        obtain ⟨k0, k1, k2⟩ := HXs.out.c
        have f0 : w5.frozen? ⟨sb, 0, none⟩ = false := frozB HXs.out
        have f1 : w5.frozen? ⟨sb, 1, none⟩ = false := frozB HXs.out
        have f2 : w5.frozen? ⟨sb, 2, none⟩ = false := frozB HXs.out
        go_simp
        have HEN := Lib.hid (jn_set HXs.out HLO.out HL5.out HNE5.out (y0 := .int .i64 0) (y1 := .int .i64 (n1 : Int)))
        have HBz := Lib.hid HEN.out.2.2.b
        refine hK.out _ _ (by exact HC.out _ (by first | exact HBz.out | exact HBy.out | exact HBx.out | exact HB0.out)) (fun hHeld => ?_)
        clear hK KC
        try simp only [Act.put, List.setIfInBounds_toArray, List.set_cons_zero, List.set_cons_succ]
        refine wpAnyH_take (i := 27) (oi := ⟨_, _, _, _, _, _⟩) (v := ?_) rfl (by kernel_rfl) (by kernel_rfl) (by kernel_rfl) (fun _ _ _ h => h) (Or.inl ⟨by rfl, ?_⟩) hHeld ?_
        rotate_left
        · ((intro w hSw; (try dsimp only at hSw); go_simp) <;> with_reducible rfl)
        try simp only [Act.put, List.setIfInBounds_toArray, List.set_cons_zero, List.set_cons_succ]
        refine wpAnyH_done (by kernel_rfl) ?_ _
        go_wp2_with fail
        go_meet
        exact ⟨sb, p3, c3, rfl, rfl, HEN⟩
    case rest =>
      obtain ⟨sb, p3, c3, rfl, rfl, HY⟩ := hcut
      have hbx : wc.heap[xb]? = some (.cells #[.int .i64 (n : Int), .slice p nh c] 117 (0, 0)) := (HY.out.2.2.b.block xb (blk_lt HBX.out)).trans HBX.out
      have hne : sb ≠ xb := by have := HY.out.2.1; have := blk_lt HBX.out; omega
      have HXX := Lib.hid hbx
      have c0 : wc.cell? ⟨xb, 0, none⟩ = some (.int .i64 (n : Int)) := cellB hbx rfl
      have f0 : wc.frozen? ⟨xb, 0, none⟩ = false := frozB hbx
      have d1 : (wc.setCell ⟨xb, 0, none⟩ (.int .i64 (n1 : Int))).cell? ⟨xb, 1, none⟩ = some (.slice p nh c) := cellB (blk_set hbx 0 _) rfl
      have f1 : (wc.setCell ⟨xb, 0, none⟩ (.int .i64 (n1 : Int))).frozen? ⟨xb, 1, none⟩ = false := frozB (blk_set hbx 0 _)
      have d2 : (wc.setCell ⟨xb, 0, none⟩ (.int .i64 (n1 : Int))).cell? ⟨sb, 2, none⟩ = some (.slice p3 kn c3) := cellB (blk_far HY.out.1 (p := ⟨xb, 0, none⟩) (by show sb ≠ xb; exact hne) _) rfl
      have HNE := Lib.hid hne
      clear hbx hne
      go_wp2_with fail
      go_ret
      obtain ⟨y1, y2, y3⟩ := HY.out
      refine ⟨rfl, .slice p3 kn c3, ⟨?_, ?_, fun e => ?_⟩, Chg.set (Chg.set (Chg.of_below y3.b) (.inl rfl) _) (.inl rfl) _, fun q hq => .inr (y3.o q hq)⟩
      · have := blk_set (blk_set HXX.out 0 (.int .i64 (n1 : Int))) 1 (.slice p3 kn c3)
        rw [HKN.out.2.1] at this ⊢
        exact this
      · have hk := HKN.out
        have := y3.h.keep (w' := (wc.setCell ⟨xb, 0, none⟩ (.int .i64 (n1 : Int))).setCell ⟨xb, 1, none⟩ (.slice p3 kn c3)) fun g hg => by
          have hgx : g ≠ xb := by have := y3.o g hg; have h9 := blk_lt HBX.out; omega
          rw [Below.heap_setCell _ ⟨xb, 1, none⟩ _ g hgx, Below.heap_setCell _ ⟨xb, 0, none⟩ _ g hgx]
        rw [← hk.2.2, ← hk.1]
        exact this
      · have := y3.o xb e
        have h9 := blk_lt HBX.out
        omega
end Go.Proofs.YtdbghgpohdijfaaDoor
/- One side that a step of FrontPlays is about: every call on it. -/
namespace Go.Proofs.YtdbghgpohdijfaaDoor
open Go.RowKit Go.Scr Bk5 Go.ChangeMaps Go.MapKept
set_option linter.unusedVariables false
theorem PlJ.off {W w : World} {wb b t g c : Nat} {col oc : Nat → Nat} {S : List Sd} {sv hv : Value} {hl : List ByteArray} (h : PlJ noC W w wb b col oc S sv hv hl t) (hg : oc g = 0) (hc : oc g = c) (h0 : c ≠ 0) : False := h0 (hc.symm.trans hg)
/-- the i-th side, its box (sx), the step's box (g0) -/
structure PsI (W w : World) (wb b t g0 sx i : Nat) (col oc : Nat → Nat) (S : List Sd) (sv hv : Value) (hl : List ByteArray) (s : Sd) (O : Array Value) : Prop where
  pl : PlJ noC W w wb b col oc S sv hv hl t
  si : S[i]? = some s
  bo : w.heap[g0]? = some (.cells O 54 (0, 0))
  o0 : oc g0 = 0
  bs : w.heap[sx]? = some (.cells #[.pointer (some ⟨s.e, 0, none⟩), .pointer (some ⟨s.x, 0, none⟩)] 58 (0, 0))
  o1 : oc sx = 0
  ok : EOk s.m s.K
  sy : ∀ j s', S[j]? = some s' → j ≠ i → s'.n = s'.m ∧ s'.H = s'.K
theorem PsI.below {W w w' : World} {wb b t g0 sx i : Nat} {col oc : Nat → Nat} {S : List Sd} {sv hv : Value} {hl : List ByteArray} {s : Sd} {O : Array Value} (h : PsI W w wb b t g0 sx i col oc S sv hv hl s O) (hb : Below w.heap.size w w') : PsI W w' wb b t g0 sx i col oc S sv hv hl s O :=
  ⟨h.pl.below hb, h.si, blk_below h.bo hb (blk_lt h.bo), h.o0, blk_below h.bs hb (blk_lt h.bs), h.o1, h.ok, h.sy⟩
def PsX (W w : World) (wb b t g0 sx i e x : Nat) (O : Array Value) (n : Nat) (H : List ByteArray) (m : Nat) (K : List ByteArray) : Prop := ∃ col oc S sv hv hl, PsI W w wb b t g0 sx i col oc S sv hv hl ⟨e, n, H, x, m, K⟩ O
theorem PsX.below {W w w' : World} {wb b t g0 sx i e x n m : Nat} {O : Array Value} {H K : List ByteArray} (h : PsX W w wb b t g0 sx i e x O n H m K) (hb : Below w.heap.size w w') : PsX W w' wb b t g0 sx i e x O n H m K := by
  obtain ⟨col, oc, S, sv, hv, hl, h⟩ := h
  exact ⟨col, oc, S, sv, hv, hl, h.below hb⟩
theorem PsX.bl {W w : World} {wb b t g0 sx i e x n m : Nat} {O : Array Value} {H K : List ByteArray} (h : PsX W w wb b t g0 sx i e x O n H m K) : Below W.heap.size W w := by
  obtain ⟨col, oc, S, sv, hv, hl, h⟩ := h
  exact h.pl.bl
theorem PsX.c {W w : World} {wb b t g0 sx i e x n m : Nat} {O : Array Value} {H K : List ByteArray} (h : PsX W w wb b t g0 sx i e x O n H m K) :
    w.cell? ⟨sx, 0, none⟩ = some (.pointer (some ⟨e, 0, none⟩)) ∧ w.cell? ⟨sx, 1, none⟩ = some (.pointer (some ⟨x, 0, none⟩)) ∧ (∀ (k : Nat) v, O[k]? = some v → w.cell? ⟨g0, k, none⟩ = some v) ∧ w.cell? ⟨wb, 1, none⟩ = some (.pointer (some ⟨b, 0, none⟩)) := by
  obtain ⟨col, oc, S, sv, hv, hl, h⟩ := h
  exact ⟨cellB h.bs rfl, cellB h.bs rfl, fun k v hk => cellB h.bo hk, cellB (h.pl.wx id) rfl⟩
theorem PsX.ends {W w : World} {wb b t g0 sx i e x n : Nat} {O : Array Value} {H : List ByteArray} (h : PsX W w wb b t g0 sx i e x O n H n H) : PlK W w wb b t := by
  obtain ⟨col, oc, S, sv, hv, hl, h⟩ := h
  refine ⟨col, oc, S, sv, hv, hl, h.pl, fun s hs => ?_⟩
  obtain ⟨j, hj⟩ := List.getElem?_of_mem hs
  by_cases hij : j = i
  · subst hij
    have := h.si
    rw [hj] at this
    obtain rfl := Option.some.inj this
    exact ⟨rfl, rfl⟩
  · exact h.sy j s hj hij
theorem PsX.okE {W w : World} {wb b t g0 sx i e x n m : Nat} {O : Array Value} {H K : List ByteArray} (h : PsX W w wb b t g0 sx i e x O n H m K) : EOk n H ∧ EOk m K := by
  obtain ⟨col, oc, S, sv, hv, hl, h⟩ := h
  obtain ⟨v, h1, _⟩ := h.pl.ed i _ h.si id
  exact ⟨h1.ok, h.ok⟩
theorem getElem?_set_ne' {S : List Sd} {i j : Nat} {s s' : Sd} (h : (S.set i s)[j]? = some s') (hne : j ≠ i) : S[j]? = some s' := by
  rwa [List.getElem?_set_ne (fun e => hne e.symm)] at h
theorem PsX.addE {W w : World} {wb b t g0 sx i e x n m : Nat} {O : Array Value} {H K : List ByteArray} (h : PsX W w wb b t g0 sx i e x O n H m K) (hB : Bas W W.heap.size) (z : ByteArray) :
    Calls Tryd.prog 44 #[.pointer (some ⟨e, 0, none⟩), .string z] w fun o w' => o = .returned (.int .i64 (addE n z)) ∧ PsX W w' wb b t g0 sx i e x O (addS n H z).1 (addS n H z).2 m K := by
  obtain ⟨col, oc, S, sv, hv, hl, h⟩ := h
  obtain ⟨v, h1, h2⟩ := h.pl.ed i _ h.si id
  refine (ewadd_any h1 (hB.below h.pl.bl) (fun q hq => (h.pl.ol q (by rw [h2 q hq]; omega)).1) z).mono ?_
  rintro o w' ⟨rfl, hc⟩
  obtain ⟨oc', p, hco⟩ := h.pl.setE h.si h1 h2 hc
  obtain ⟨v', _, c, _⟩ := hc
  have hi := (List.getElem?_eq_some_iff.mp h.si).1
  refine ⟨rfl, col, oc', _, sv, hv, hl, p, ?_, (c.same g0 (blk_lt h.bo) (fun a => by have := h2 g0 a; have := h.o0; omega)).trans h.bo, (hco g0 (blk_lt h.bo)).trans h.o0, (c.same sx (blk_lt h.bs) (fun a => by have := h2 sx a; have := h.o1; omega)).trans h.bs, (hco sx (blk_lt h.bs)).trans h.o1, h.ok, fun j s' hj hne => h.sy j s' (getElem?_set_ne' hj hne) hne⟩
  rw [List.getElem?_set, if_pos rfl, if_pos hi]
theorem EOk.addS {n : Nat} {H : List ByteArray} (h : EOk n H) (z : ByteArray) : EOk (addS n H z).1 (addS n H z).2 := by
  rcases addE_cases n z with ⟨he, _⟩ | ⟨he, _, _⟩ | ⟨he, hz, hn⟩
  · have : Go.Proofs.YtdbghgpohdijfaaDoor.addS n H z = (n, H) := by unfold Go.Proofs.YtdbghgpohdijfaaDoor.addS; rw [if_neg (by rw [he]; decide)]
    rw [this]; exact h
  · have : Go.Proofs.YtdbghgpohdijfaaDoor.addS n H z = (n, H) := by unfold Go.Proofs.YtdbghgpohdijfaaDoor.addS; rw [if_neg (by rw [he]; decide)]
    rw [this]; exact h
  · have : Go.Proofs.YtdbghgpohdijfaaDoor.addS n H z = (n + 1, addT n H z) := by unfold Go.Proofs.YtdbghgpohdijfaaDoor.addS; rw [if_pos he]
    rw [this]; exact h.add (by have := h.1; omega) hz
theorem PsX.addX {W w : World} {wb b t g0 sx i e x n m : Nat} {O : Array Value} {H K : List ByteArray} (h : PsX W w wb b t g0 sx i e x O n H m K) (z : ByteArray) :
    Calls Tryd.prog 75 #[.pointer (some ⟨x, 0, none⟩), .string z] w fun o w' => o = .returned (.int .i64 (Go.Proofs.YtdbghgpohdijfaaDoor.addE m z)) ∧ PsX W w' wb b t g0 sx i e x O n H (addS m K z).1 (addS m K z).2 := by
  obtain ⟨col, oc, S, sv, hv, hl, h⟩ := h
  obtain ⟨v, h1, h2⟩ := h.pl.xd i _ h.si id
  refine (xwadd_any h1 h.ok z).mono ?_
  rintro o w' ⟨rfl, hc⟩
  obtain ⟨oc', p, hco⟩ := h.pl.setX h.si h1 h2 hc
  obtain ⟨v', _, c, _⟩ := hc
  have hi := (List.getElem?_eq_some_iff.mp h.si).1
  refine ⟨rfl, col, oc', _, sv, hv, hl, p, ?_, (c.same g0 (blk_lt h.bo) (fun a => by have := h2 g0 a; have := h.o0; omega)).trans h.bo, (hco g0 (blk_lt h.bo)).trans h.o0, (c.same sx (blk_lt h.bs) (fun a => by have := h2 sx a; have := h.o1; omega)).trans h.bs, (hco sx (blk_lt h.bs)).trans h.o1, h.ok.addS z, fun j s' hj hne => h.sy j s' (getElem?_set_ne' hj hne) hne⟩
  rw [List.getElem?_set, if_pos rfl, if_pos hi]
theorem PsX.rootE {W w : World} {wb b t g0 sx i e x n m : Nat} {O : Array Value} {H K : List ByteArray} (h : PsX W w wb b t g0 sx i e x O n H m K) (hB : Bas W W.heap.size) :
    Calls Tryd.prog 27 #[.pointer (some ⟨e, 0, none⟩)] w fun o w' => o = .returned (.string (rootF H)) ∧ Below w.heap.size w w' := by
  obtain ⟨col, oc, S, sv, hv, hl, h⟩ := h
  obtain ⟨v, h1, h2⟩ := h.pl.ed i _ h.si id
  exact ewroot_any h1 (hB.below h.pl.bl).tabs
theorem PsX.rootX {W w : World} {wb b t g0 sx i e x n m : Nat} {O : Array Value} {H K : List ByteArray} (h : PsX W w wb b t g0 sx i e x O n H m K) :
    Calls Tryd.prog 28 #[.pointer (some ⟨x, 0, none⟩)] w fun o w' => o = .returned (.string (rootF K)) ∧ Below w.heap.size w w' := by
  obtain ⟨col, oc, S, sv, hv, hl, h⟩ := h
  obtain ⟨v, h1, h2⟩ := h.pl.xd i _ h.si id
  exact xwroot_any h1 h.ok.l80
theorem PsX.sizeE {W w : World} {wb b t g0 sx i e x n m : Nat} {O : Array Value} {H K : List ByteArray} (h : PsX W w wb b t g0 sx i e x O n H m K) :
    Calls Tryd.prog 46 #[.pointer (some ⟨e, 0, none⟩)] w fun o w' => o = .returned (.int .i64 (n : Int)) ∧ w' = w := by
  obtain ⟨col, oc, S, sv, hv, hl, h⟩ := h
  obtain ⟨v, h1, h2⟩ := h.pl.ed i _ h.si id
  exact ewsize_any h1
theorem PsX.sizeX {W w : World} {wb b t g0 sx i e x n m : Nat} {O : Array Value} {H K : List ByteArray} (h : PsX W w wb b t g0 sx i e x O n H m K) :
    Calls Tryd.prog 76 #[.pointer (some ⟨x, 0, none⟩)] w fun o w' => o = .returned (.int .i64 (m : Int)) ∧ w' = w := by
  obtain ⟨col, oc, S, sv, hv, hl, h⟩ := h
  obtain ⟨v, h1, h2⟩ := h.pl.xd i _ h.si id
  exact xwsize_any h1
theorem PsX.nodesE {W w : World} {wb b t g0 sx i e x n m : Nat} {O : Array Value} {H K : List ByteArray} (h : PsX W w wb b t g0 sx i e x O n H m K) :
    Calls Tryd.prog 24 #[.pointer (some ⟨e, 0, none⟩)] w fun o w' => ∃ p c, o = .returned (.slice p H.length c) ∧ LfI w w' (.slice p H.length c) H.length H := by
  obtain ⟨col, oc, S, sv, hv, hl, h⟩ := h
  obtain ⟨v, h1, h2⟩ := h.pl.ed i _ h.si id
  exact ewnodes_any h1
theorem PsX.nodesX {W w : World} {wb b t g0 sx i e x n m : Nat} {O : Array Value} {H K : List ByteArray} (h : PsX W w wb b t g0 sx i e x O n H m K) :
    Calls Tryd.prog 26 #[.pointer (some ⟨x, 0, none⟩)] w fun o w' => ∃ p c, o = .returned (.slice p K.length c) ∧ LfI w w' (.slice p K.length c) K.length K := by
  obtain ⟨col, oc, S, sv, hv, hl, h⟩ := h
  obtain ⟨v, h1, h2⟩ := h.pl.xd i _ h.si id
  exact xwnodes_any h1 h.ok.l80
theorem PsX.cloneE {W w : World} {wb b t g0 sx i e x n m : Nat} {O : Array Value} {H K : List ByteArray} (h : PsX W w wb b t g0 sx i e x O n H m K) :
    Calls Tryd.prog 47 #[.pointer (some ⟨e, 0, none⟩)] w fun o w' => ∃ nb, o = .returned (.pointer (some ⟨nb, 0, none⟩)) ∧ EwN w w' nb n H := by
  obtain ⟨col, oc, S, sv, hv, hl, h⟩ := h
  obtain ⟨v, h1, h2⟩ := h.pl.ed i _ h.si id
  exact ewclone_any h1
theorem PsX.cloneX {W w : World} {wb b t g0 sx i e x n m : Nat} {O : Array Value} {H K : List ByteArray} (h : PsX W w wb b t g0 sx i e x O n H m K) :
    Calls Tryd.prog 77 #[.pointer (some ⟨x, 0, none⟩)] w fun o w' => ∃ nb, o = .returned (.pointer (some ⟨nb, 0, none⟩)) ∧ XwN w w' nb m K := by
  obtain ⟨col, oc, S, sv, hv, hl, h⟩ := h
  obtain ⟨v, h1, h2⟩ := h.pl.xd i _ h.si id
  exact xwclone_any h1 h.ok.l80
/-- two lists wait for the book -/
def PsW2 (W w : World) (wb b t g0 sx i e x : Nat) (O : Array Value) (n : Nat) (H : List ByteArray) (v1 v2 : Value) : Prop := ∃ col oc S sv hv hl, PsI W w wb b t g0 sx i col oc S sv hv hl ⟨e, n, H, x, n, H⟩ O ∧ BkW2 W w b col t v1 v2 H H
def PsW1 (W w : World) (wb b t g0 sx i e x : Nat) (O : Array Value) (n : Nat) (H : List ByteArray) (v2 : Value) : Prop := ∃ col oc S sv hv hl, PsI W w wb b t g0 sx i col oc S sv hv hl ⟨e, n, H, x, n, H⟩ O ∧ BkW1 W w b col t v2 H
theorem PsI.book {W w w' : World} {wb b t t' g0 sx i : Nat} {col col' oc : Nat → Nat} {S : List Sd} {sv hv : Value} {hl : List ByteArray} {s : Sd} {O : Array Value} (h : PsI W w wb b t g0 sx i col oc S sv hv hl s O) (hb : BkX W w' b col' t') (hg : BkG W w w' col col') : ∃ oc', PsI W w' wb b t' g0 sx i col' oc' S sv hv hl s O := by
  obtain ⟨oc', p, hco⟩ := h.pl.book hb hg
  have h0 : ∀ g, oc g = 0 → ¬ (1 ≤ col g) := fun g hz h1 => by have := h.pl.bo id g (by omega); omega
  exact ⟨oc', p, h.si, (hg.1.block g0 (blk_lt h.bo) (h0 g0 h.o0)).trans h.bo, (hco g0 (blk_lt h.bo)).trans h.o0, (hg.1.block sx (blk_lt h.bs) (h0 sx h.o1)).trans h.bs, (hco sx (blk_lt h.bs)).trans h.o1, h.ok, h.sy⟩
theorem PsX.wait {W w wa wc we : World} {wb b t g0 sx i e x n : Nat} {O : Array Value} {H : List ByteArray} {v1 v2 : Value} (h : PsX W w wb b t g0 sx i e x O n H n H) (l1 : LfI w wa v1 H.length H) (l2 : LfI wa wc v2 H.length H) (b4 : Below wc.heap.size wc we) : PsW2 W we wb b t g0 sx i e x O n H v1 v2 := by
  have h80 := h.okE.1.l80
  obtain ⟨col, oc, S, sv, hv, hl, h⟩ := h
  obtain ⟨col', k1, k2, k3⟩ := (h.pl.bk id).two h.pl.bl.size l1 (Below.refl _ _) l2 b4 (by omega) (by omega)
  have hb : Below w.heap.size w we := below_from (below_from l1.b l2.b l1.b.size) b4 (Nat.le_trans l1.b.size l2.b.size)
  have hx : BkX W we b col' t := by
    obtain ⟨V, fr, wl, ls, gr, q, _⟩ := k1
    exact ⟨V, fr, wl, ls, gr, q⟩
  obtain ⟨oc', p⟩ := h.book hx ⟨only_of_below' hb, k2, fun g hg => by
    have h9 := h.pl.bl.size
    rcases k3 g hg with e | e
    · have := h.pl.ol g (by rw [h.pl.bo id g e]; decide)
      have := hb.size
      omega
    · omega⟩
  exact ⟨col', oc', S, sv, hv, hl, p, k1⟩
theorem PsW2.takes {W w : World} {wb b t g0 sx i e x n : Nat} {O : Array Value} {H : List ByteArray} {p : Option Addr} {k c : Nat} {v2 : Value} (h : PsW2 W w wb b t g0 sx i e x O n H (.slice p k c) v2) (ht : t ≤ 1000) :
    Calls Tryd.prog 38 #[.pointer (some ⟨b, 0, none⟩), .slice p k c] w fun e' w' => e' = .returned (.tuple #[]) ∧ PsW1 W w' wb b (t + 1) g0 sx i e x O n H v2 := by
  obtain ⟨col, oc, S, sv, hv, hl, h, hk⟩ := h
  refine (hk.takes ht h.pl.bl.size).mono fun e' w' ⟨h1, col', h2, h3⟩ => ⟨h1, ?_⟩
  have hx : BkX W w' b col' (t + 1) := by
    obtain ⟨V, fr, wl, ls, gr, q, _⟩ := h2
    exact ⟨V, fr, wl, ls, gr, q⟩
  obtain ⟨oc', p⟩ := h.book hx h3
  exact ⟨col', oc', S, sv, hv, hl, p, h2⟩
theorem PsW1.takes {W w : World} {wb b t g0 sx i e x n : Nat} {O : Array Value} {H : List ByteArray} {p : Option Addr} {k c : Nat} (h : PsW1 W w wb b t g0 sx i e x O n H (.slice p k c)) (ht : t ≤ 1000) :
    Calls Tryd.prog 38 #[.pointer (some ⟨b, 0, none⟩), .slice p k c] w fun e' w' => e' = .returned (.tuple #[]) ∧ PsX W w' wb b (t + 1) g0 sx i e x O n H n H := by
  obtain ⟨col, oc, S, sv, hv, hl, h, hk⟩ := h
  refine (hk.takes ht h.pl.bl.size).mono fun e' w' ⟨h1, col', h2, h3⟩ => ⟨h1, ?_⟩
  obtain ⟨oc', p⟩ := h.book h2 h3
  exact ⟨col', oc', S, sv, hv, hl, p⟩
theorem PsW2.c {W w : World} {wb b t g0 sx i e x n : Nat} {O : Array Value} {H : List ByteArray} {v1 v2 : Value} (h : PsW2 W w wb b t g0 sx i e x O n H v1 v2) : w.cell? ⟨wb, 1, none⟩ = some (.pointer (some ⟨b, 0, none⟩)) := by
  obtain ⟨col, oc, S, sv, hv, hl, h, hk⟩ := h
  exact cellB (h.pl.wx id) rfl
theorem PsW1.c {W w : World} {wb b t g0 sx i e x n : Nat} {O : Array Value} {H : List ByteArray} {v2 : Value} (h : PsW1 W w wb b t g0 sx i e x O n H v2) : w.cell? ⟨wb, 1, none⟩ = some (.pointer (some ⟨b, 0, none⟩)) := by
  obtain ⟨col, oc, S, sv, hv, hl, h, hk⟩ := h
  exact cellB (h.pl.wx id) rfl
theorem els_arg {W w : World} {wb b t : Nat} {col oc : Nat → Nat} {S : List Sd} {sv hv v : Value} {hl L : List ByteArray} (h : PlJ noC W w wb b col oc S sv hv hl t) (hv' : Txts W v L) : Els oc v L := fun j s hj a n c e => by
  have h1 := Els.lt (oc := oc) hv' hj e
  by_cases h0 : oc a.block = 0
  · exact h0
  · have := h.ol a.block h0; omega
theorem els_new {W w w' : World} {wb b t n : Nat} {col oc : Nat → Nat} {S : List Sd} {sv hv v : Value} {hl L : List ByteArray} (h : PlJ noC W w wb b col oc S sv hv hl t) (hl' : LfI w w' v n L) : Els oc v L := fun j s hj a m c e => by
  by_cases h0 : oc a.block = 0
  · exact h0
  · have h1 := h.ol a.block h0
    rcases hl'.h.2 with ⟨e0, hn⟩ | ⟨g, cap, cur, e0, _⟩
    · rw [e0] at e; cases e
    · rw [e0] at e
      injection e with e1 _ _
      injection e1 with e1
      have := hl'.o g (by rw [e0]; rfl)
      rw [← e1] at h1
      have h2 : (⟨g, 0, none⟩ : Addr).block = g := rfl
      rw [h2] at h1
      omega
/-- loads of a list that has just come out -/
theorem PsX.loads {W w w1 : World} {wb b t g0 sx i e x n : Nat} {O : Array Value} {H : List ByteArray} {v : Value} {z : Int} (h : PsX W w wb b t g0 sx i e x O n H n H) (hB : Bas W W.heap.size) (l : LfI w w1 v H.length H) :
    Calls Tryd.prog 72 #[.pointer (some ⟨wb, 0, none⟩), .int .i64 z, v] w1 fun o w' => o = .returned (.bool true) ∧ PlK W w' wb b t ∧ w'.cell? ⟨sx, 0, none⟩ = some (.pointer (some ⟨e, 0, none⟩)) ∧ w'.cell? ⟨sx, 1, none⟩ = some (.pointer (some ⟨x, 0, none⟩)) := by
  have h80 := h.okE.1.l80
  have hk := h
  obtain ⟨col, oc, S, sv, hv, hl, h⟩ := h
  have h1 := h.below l.b
  refine (loads_any hB h1.pl (fun s hs => ?_) (l.tx (by omega)) (els_new h.pl l) (by omega)).mono ?_
  · obtain ⟨j, hj⟩ := List.getElem?_of_mem hs
    by_cases hij : j = i
    · subst hij
      have := h.si
      rw [hj] at this
      obtain rfl := Option.some.inj this
      exact ⟨rfl, rfl⟩
    · exact h.sy j s hj hij
  · rintro o w' ⟨rfl, h2, h3⟩
    have := (h3.2 sx (blk_lt h1.bs) h1.o1).trans h1.bs
    exact ⟨rfl, h2, cellB this rfl, cellB this rfl⟩
/-- the list of sides, and what stands when two new edges are put behind it -/
structure SideP (W w : World) (wb b t : Nat) (ps : Option Addr) (ns cs : Nat) (SV : List Value) : Prop where
  n6 : ns ≤ 6
  pk : ∀ w', Below w.heap.size w w' → PlK W w' wb b t
  c : ∀ w', Below w.heap.size w w' → w'.cell? ⟨wb, 0, none⟩ = some (.slice ps ns cs)
  hd : ∀ w', Below w.heap.size w w' → Held w' 58 2 (.slice ps ns cs) ns SV
  add : ∀ eb xb n H w1 w2 w3 w4, EwN w w1 eb n H → Below w1.heap.size w1 w2 → XwN w2 w3 xb n H → Below w3.heap.size w3 w4 → ns < 6 → ∀ (d : Array Value) (T : TypeId) v5 w5, Grew 58 2 (w4.alloc (.cells d T)) (.slice ps ns cs) ns 1 SV [.pointer (some ⟨eb, 0, none⟩), .pointer (some ⟨xb, 0, none⟩)] v5 w5 →
    w5.cell? ⟨wb, 0, none⟩ = some (.slice ps ns cs) ∧ w5.frozen? ⟨wb, 0, none⟩ = false ∧ PlK W (w5.setCell ⟨wb, 0, none⟩ v5) wb b t
theorem side_p {W w : World} {wb b t : Nat} {col oc : Nat → Nat} {S : List Sd} {sv hv : Value} {hl : List ByteArray} (h : PlJ noC W w wb b col oc S sv hv hl t) (hS : Sync S) : ∃ ps ns cs SV, SideP W w wb b t ps ns cs SV := by
  obtain ⟨ps, cs, rfl, _⟩ := (h.sd id).cells
  refine ⟨ps, S.length, cs, sdV S, h.sl, fun w' hb => ⟨col, oc, S, _, hv, hl, h.below hb, hS⟩, fun w' hb => cellB ((h.below hb).wx id) rfl, fun w' hb => (h.below hb).sd id, ?_⟩
  intro eb xb n H w1 w2 w3 w4 he hb2 hx hb4 h6 d T v5 w5 hg
  obtain ⟨v, k1, k2, k3⟩ := he
  obtain ⟨u, l1, l2, l3⟩ := hx
  have hb34 := below_from l3 hb4 l3.size
  have hb24 := below_from hb2 hb34 hb2.size
  have hp := h.below (below_from k3 hb24 k3.size)
  have hz : ∀ q, w.heap.size ≤ q → oc q = 0 ∧ W.heap.size ≤ q := fun q hq => by
    have := h.bl.size
    refine ⟨?_, by omega⟩
    by_cases ho : oc q = 0
    · exact ho
    · have := h.ol q ho; omega
  have hs2 : w.heap.size ≤ w2.heap.size := Nat.le_trans k3.size hb2.size
  obtain ⟨m1, oc', m2, m3⟩ := hp.addSide (k1.below hb24) (l1.below hb4) (fun q hq => hz q (k2 q hq)) (fun q hq => hz q (Nat.le_trans hs2 (l2 q hq))) (fun q hq hx => by have := k1.q_lt hq; have := l2 q hx; have := hb2.size; omega) h6 hg
  exact ⟨cellB m1 rfl, frozB m1, col, oc', _, _, _, hl, m2, fun s hs => by
    rcases List.mem_append.1 hs with h | h
    · exact hS s h
    · obtain rfl := List.mem_singleton.1 h
      exact ⟨rfl, rfl⟩⟩
theorem PsX.side {W w : World} {wb b t g0 sx i e x n : Nat} {O : Array Value} {H : List ByteArray} (h : PsX W w wb b t g0 sx i e x O n H n H) : ∃ ps ns cs SV, SideP W w wb b t ps ns cs SV := by
  obtain ⟨col, oc, S, sv, hv, hl, h⟩ := h
  refine side_p h.pl (fun s hs => ?_)
  obtain ⟨j, hj⟩ := List.getElem?_of_mem hs
  by_cases hij : j = i
  · subst hij
    have := h.si
    rw [hj] at this
    obtain rfl := Option.some.inj this
    exact ⟨rfl, rfl⟩
  · exact h.sy j s hj hij
end Go.Proofs.YtdbghgpohdijfaaDoor
