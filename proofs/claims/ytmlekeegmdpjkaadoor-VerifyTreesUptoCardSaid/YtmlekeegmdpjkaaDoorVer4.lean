/- Layer 4, walked: hashes, joined, own. -/
import Derived.Test.YtmlekeegmdpjkaaDoorStr
namespace Go.Proofs.YtmlekeegmdpjkaaDoor
open Go.RowKit Go.Scr
set_option linter.unusedVariables false

/-- has each text 32 bytes? -/
def all32 (L : List ByteArray) : Bool := L.all fun s => s.size == 32
theorem all32_take {L : List ByteArray} {k : Nat} {s : ByteArray} (h : L[k]? = some s) : all32 (L.take (k + 1)) = (all32 (L.take k) && (s.size == 32)) := by
  obtain ⟨hk, rfl⟩ := List.getElem?_eq_some_iff.mp h
  unfold all32
  rw [List.take_succ_eq_append_getElem hk, List.all_append]
  simp
theorem all32_bad {L : List ByteArray} {k : Nat} {s : ByteArray} (h : L[k]? = some s) (hs : s.size ≠ 32) : all32 L = false := by
  unfold all32
  rw [List.all_eq_false]
  exact ⟨s, List.mem_of_getElem? h, by simpa using hs⟩

set_option maxRecDepth 100000 in
set_option maxHeartbeats 400000 in
theorem hashes_any (v : Value) (L : List ByteArray) (w : World) (hv : Txts w v L) :
    Calls Tryd.prog 70 #[v] w fun e w' => e = .returned (.bool (all32 L)) ∧ w' = w := by
  obtain ⟨p, c, rfl, hv1, hv2, hv3⟩ := hv
  obtain ⟨n, hn⟩ : ∃ n, n = L.length := ⟨_, rfl⟩
  rw [← hn] at hv1 ⊢
  have HN := Lib.hid hn
  have HV := Lib.hid hv3
  have hnb : n ≤ 281474976710656 := by omega
  clear hn hv2 hv3 hv1
  go_enter Tryd.func70, Tryd.ntmps70
  go_wp2_with (go_step3)
  go_loop [7] (fun q => ∃ k : Nat, k ≤ n ∧ q = .int .i64 k ∧ Hid (all32 (L.take k) = true)) (fun q => n - (intOf q).toNat)
  case atStart => exact ⟨0, by omega, rfl, Lib.hid rfl⟩
  case round =>
    obtain ⟨k, hk, rfl, hall⟩ := hrel
    by_cases hlt : k < n
    · obtain ⟨s, hs⟩ : ∃ s, L[k]? = some s := ⟨L[k]'(by rw [← HN.out]; exact hlt), List.getElem?_eq_getElem _⟩
      obtain ⟨a, rfl, hc⟩ := HV.out k s hs
      have HS := Lib.hid hs
      clear hs
      by_cases h32 : s.size = 32
      · have hsz : (s.size : Int) = 32 := by omega
        have HALL := Lib.hid (by rw [all32_take HS.out, hall.out]; simp [h32] : all32 (L.take (k + 1)) = true)
        clear h32
        go_wp2_with (go_step3)
        exact ⟨⟨k + 1, by omega, rfl, HALL⟩, (by show n - ((k : Int) + 1).toNat < n - (k : Int).toNat; omega)⟩
      · have hsz : ¬ ((s.size : Int) = 32) := by omega
        have HBAD := Lib.hid (all32_bad HS.out h32)
        clear h32
        go_wp2_with (go_step3)
        go_ret
        exact ⟨by rw [HBAD.out]; rfl, rfl⟩
    · have HK := Lib.hid (by have := hall.out; rwa [show k = n by omega, HN.out, List.take_length] at this : all32 L = true)
      go_wp2_with (go_step3)
      go_ret
      exact ⟨by rw [HK.out]; rfl, rfl⟩

set_option maxRecDepth 100000 in
set_option maxHeartbeats 400000 in
theorem joined_any (b : Bool) (s r : ByteArray) (w : World) (ht : Tabs w) :
    Calls Tryd.prog 73 #[.bool b, .string s, .string r] w fun e w' => e = .returned (.string (if b then nodeS s r else nodeS r s)) ∧ Below w.heap.size w w' := by
  have HT := Lib.hid ht
  clear ht
  cases b with
  | true =>
    go_enter Tryd.func73, Tryd.ntmps73
    go_wp2_with (go_at_call 93; with_reducible refine (dnode_any s r _ HT.out).mono ?_; rintro e w2 ⟨rfl, hb⟩; have HB := Lib.hid hb; clear hb)
    go_ret
    exact ⟨rfl, HB.out⟩
  | false =>
    go_enter Tryd.func73, Tryd.ntmps73
    go_wp2_with (go_at_call 93; with_reducible refine (dnode_any r s _ HT.out).mono ?_; rintro e w2 ⟨rfl, hb⟩; have HB := Lib.hid hb; clear hb)
    go_ret
    exact ⟨rfl, HB.out⟩

set_option maxRecDepth 100000 in
set_option maxHeartbeats 400000 in
theorem own_any (v : Value) (L : List ByteArray) (w : World) (hv : Txts w v L) (hl : L.length ≤ 1048576) :
    Calls Tryd.prog 71 #[v] w fun e w' => ∃ g, e = .returned (.slice (some ⟨g, 0, none⟩) L.length L.length) ∧ w.heap.size ≤ g ∧ SRow w' g L ∧ Below w.heap.size w w' := by
  have HV := Lib.hid hv
  obtain ⟨p, c, rfl, hv1, hv2, hv3⟩ := hv
  obtain ⟨n, hn⟩ : ∃ n, n = L.length := ⟨_, rfl⟩
  rw [← hn] at hv1 HV hl ⊢
  have HN := Lib.hid hn
  have hmk := make_strs n (by omega) w
  have hsplice : splice ((List.replicate n (⟨#[]⟩ : ByteArray)).map Value.string) 0 (L.map Value.string) = L.map Value.string := by
    unfold splice
    rw [List.take_zero, List.nil_append, Nat.zero_add, List.length_map, ← hn, List.drop_of_length_le (by simp), List.append_nil]
  have HSP := Lib.hid hsplice
  have HNMIN := Lib.hid (show (L.map Value.string).length = Nat.min n n by rw [List.length_map, ← hn]; exact (Nat.min_self n).symm)
  have HFIT := Lib.hid (show 0 + (L.map Value.string).length ≤ ((List.replicate n (⟨#[]⟩ : ByteArray)).map Value.string).length by simp; omega)
  have hnb : n ≤ 1048576 := by omega
  clear hn hv2 hv3 hv1 hsplice
  go_enter Tryd.func71, Tryd.ntmps71
  go_upto_region 2 with fail
  have hrow0 : SRow (w.alloc (.cells (Array.replicate n (Value.string ⟨#[]⟩)) 9)) w.heap.size (List.replicate n ⟨#[]⟩) := by
    have h := heap_alloc_new w (.cells (Array.replicate n (Value.string ⟨#[]⟩)) 9)
    unfold SRow
    rw [h]
    simp
  have hbel5 : Below w.heap.size w (w.alloc (.cells (Array.replicate n (Value.string ⟨#[]⟩)) 9)) := (Below.refl _ _).alloc (Nat.le_refl _) _
  have HG := Lib.hid (Nat.le_refl w.heap.size)
  clear hmk
  obtain ⟨g, hg⟩ : ∃ g, g = w.heap.size := ⟨_, rfl⟩
  rw [← hg] at hrow0 hbel5
  rw [← hg]
  generalize w.alloc (.cells (Array.replicate n (Value.string ⟨#[]⟩)) 9) = w5 at hrow0 hbel5 ⊢
  have HCP := Lib.hid (copy_src (g := g) HV.out hbel5 (by omega))
  have HROW5 := Lib.hid hrow0
  have HB5 := Lib.hid hbel5
  have HG := Lib.hid (Nat.le_refl g)
  have HGW := Lib.hid hg
  clear hrow0 hbel5 hg
  go_wp2_with ((with_reducible refine wpList_copy_splice (o := ⟨some 9, _, _, _, _, _⟩) rfl (.tmp 7) (.tmp 8) 27 27 rfl 9 Tryd.underlying27 hsz_str (some ⟨g, 0, none⟩) p n n n c ?_ ?_ g 0 ((List.replicate n (⟨#[]⟩ : ByteArray)).map Value.string) 9 ?_ (L.map Value.string) HNMIN.out HCP.out HFIT.out (str_one _) g w HB5.out HG.out ?_); rfl; rfl; exact HROW5.out; intro w6 hrow6 hb6; rw [HSP.out] at hrow6; have HROW6 : Hid (SRow w6 g L) := hrow6.out; have HB6 := Lib.hid hb6; clear hrow6 hb6)
  go_ret
  refine ⟨g, rfl, by rw [HGW.out]; exact Nat.le_refl _, HROW6.out, by rw [← HGW.out]; exact HB6.out⟩
end Go.Proofs.YtmlekeegmdpjkaaDoor
