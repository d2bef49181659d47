/- Leaf, Empty, Node, of the program and of the document; Len, Clone. -/
import Derived.Test.YtejdpahgofhioaaDoorDig4
namespace Go.Proofs.YtejdpahgofhioaaDoor
open Go.RowKit Go.Scr
set_option linter.unusedVariables false

def str (l : List UInt8) : ByteArray := ⟨l.toArray⟩
theorem str_size (l : List UInt8) : (str l).size = l.length := by
  show l.toArray.size = _
  simp
theorem str_list (l : List UInt8) : (str l).data.toList = l := by simp [str]
theorem sha_length (l : List UInt8) : (sha l).length = 32 := by
  unfold sha
  rw [flat_length, (absorb_St _).1]
def hempty : ByteArray := str (sha [])
def hnode (l r : ByteArray) : ByteArray := str (sha (1 :: (l.data.toList ++ r.data.toList)))
theorem txts_none (w : World) : Txts w (.slice none 0 0) [] := ⟨none, 0, rfl, by simp, by simp, fun j s h => by simp at h⟩
theorem txts_alloc (w : World) (T : TypeId) (L : List ByteArray) (hl : L.length ≤ 281474976710656) :
    Txts (w.alloc (.cells ((L.map Value.string).toArray) T)) (.slice (some ⟨w.heap.size, 0, none⟩) L.length L.length) L := by
  refine ⟨_, _, rfl, Nat.le_refl _, hl, fun j s h => ⟨_, rfl, ?_⟩⟩
  have hadd : (⟨w.heap.size, 0, none⟩ : Addr).add j = ⟨w.heap.size, j, none⟩ := by unfold Addr.add; split <;> simp_all
  rw [hadd, cell_of_row _ _ _ _ _ _ (heap_alloc_new w _)]
  simp [h]

set_option maxRecDepth 100000 in
set_option maxHeartbeats 400000 in
theorem dempty_any (w : World) (ht : Tabs w) : Calls Tryd.prog 115 #[] w fun e w' => e = .returned (.string hempty) ∧ Below w.heap.size w w' := by
  have h := sum_any _ _ w ht (txts_none w) (by simp [cat])
  have H := Lib.hid h
  clear h ht
  go_enter Tryd.func115, Tryd.ntmps115
  go_wp2_with (go_at_call 119; refine H.out.mono ?_; rintro e w1 ⟨rfl, hb⟩)
  go_ret
  exact ⟨rfl, hb⟩

set_option maxRecDepth 100000 in
set_option maxHeartbeats 400000 in
theorem rempty_any (w : World) : Calls Tryd.prog 116 #[] w fun e w' => e = .returned (.string hempty) ∧ Below w.heap.size w w' := by
  have h := rsum_any ⟨#[]⟩ w (by decide)
  have H := Lib.hid h
  clear h
  go_enter Tryd.func116, Tryd.ntmps116
  go_wp2_with (go_at_call 108; refine H.out.mono ?_; rintro e w1 ⟨rfl, hb⟩)
  go_ret
  exact ⟨rfl, hb⟩

theorem txts_drew (w : World) (T n : TypeId) (L : List ByteArray) (hl : L.length ≤ 281474976710656) (m : Nat) (hm : L.length = m) :
    Txts (w.drewN n |>.alloc (.cells ((L.map Value.string).toArray) T)) (.slice (some ⟨w.heap.size, 0, none⟩) m m) L := by
  subst hm
  exact txts_alloc (w.drewN n) T L hl
def okNode (l r : ByteArray) : Bool := decide (l.size = 32) && decide (r.size = 32)
def nodeS (l r : ByteArray) : ByteArray := if l.size = 32 ∧ r.size = 32 then hnode l r else ⟨#[]⟩
def nodeE (l r : ByteArray) : Int := if l.size = 32 ∧ r.size = 32 then 0 else 12

set_option maxRecDepth 100000 in
set_option maxHeartbeats 400000 in
theorem dnode_any (l r : ByteArray) (w : World) (ht : Tabs w) :
    Calls Tryd.prog 85 #[.string l, .string r] w fun e w' => e = .returned (.tuple #[.string (nodeS l r), .int .i64 (nodeE l r)]) ∧ Below w.heap.size w w' := by
  by_cases hl : l.size = 32
  · by_cases hr : r.size = 32
    · have h := sum_any (.slice (some ⟨w.heap.size, 0, none⟩) 3 3) [⟨#[1]⟩, l, r] (w.alloc (.cells #[.string ⟨#[1]⟩, .string l, .string r] 9)) (ht.below ((Below.refl _ _).alloc (Nat.le_refl _) _)) (txts_alloc w 9 [⟨#[1]⟩, l, r] (by simp)) (by simp [cat]; omega)
      have h' : Calls Tryd.prog 119 #[.slice (some ⟨w.heap.size, 0, none⟩) 3 3] (w.alloc (.cells #[.string ⟨#[1]⟩, .string l, .string r] 9)) fun e w' => e = .returned (.string (hnode l r)) ∧ Below w.heap.size w w' := by
        refine h.mono ?_
        rintro e w1 ⟨rfl, hb⟩
        exact ⟨by simp [cat, hnode, str], below_from ((Below.refl _ _).alloc (Nat.le_refl _) _) hb (by simp)⟩
      have H := Lib.hid h'
      clear h h' ht
      have hn1 : nodeS l r = hnode l r := if_pos ⟨hl, hr⟩
      have hn2 : nodeE l r = 0 := if_pos ⟨hl, hr⟩
      rw [hn1, hn2]
      clear hn1 hn2
      have hl' : (l.size : Int) = 32 := by omega
      have hr' : (r.size : Int) = 32 := by omega
      go_enter Tryd.func85, Tryd.ntmps85
      go_wp2_with (go_at_call 119; refine H.out.mono ?_; rintro e w1 ⟨rfl, hb⟩)
      go_ret2
      exact ⟨rfl, hb⟩
    · have hn1 : nodeS l r = ⟨#[]⟩ := if_neg (fun h => hr h.2)
      have hn2 : nodeE l r = 12 := if_neg (fun h => hr h.2)
      rw [hn1, hn2]
      clear hn1 hn2
      have hl' : (l.size : Int) = 32 := by omega
      have hr' : ¬ (r.size : Int) = 32 := by omega
      go_enter Tryd.func85, Tryd.ntmps85
      go_wp2
      go_ret2
      exact ⟨rfl, Below.refl _ _⟩
  · have hn1 : nodeS l r = ⟨#[]⟩ := if_neg (fun h => hl h.1)
    have hn2 : nodeE l r = 12 := if_neg (fun h => hl h.1)
    rw [hn1, hn2]
    clear hn1 hn2
    have hl' : ¬ (l.size : Int) = 32 := by omega
    go_enter Tryd.func85, Tryd.ntmps85
    go_wp2
    go_ret2
    exact ⟨rfl, Below.refl _ _⟩

set_option maxRecDepth 100000 in
set_option maxHeartbeats 400000 in
theorem rnode_any (l r : ByteArray) (w : World) :
    Calls Tryd.prog 89 #[.string l, .string r] w fun e w' => e = .returned (.tuple #[.string (nodeS l r), .int .i64 (nodeE l r)]) ∧ Below w.heap.size w w' := by
  by_cases hl : l.size = 32
  · by_cases hr : r.size = 32
    · obtain ⟨x, hx⟩ : ∃ x : ByteArray, x = ⟨#[1]⟩ ++ l ++ r := ⟨_, rfl⟩
      have hxs : x.size = 65 := by rw [hx, ByteArray.size_append, ByteArray.size_append, hl, hr]; rfl
      have h := rsum_any x w (by omega)
      have he : (⟨(sha x.data.toList).toArray⟩ : ByteArray) = hnode l r := by rw [hx, ByteArray.data_append, Array.toList_append, ByteArray.data_append, Array.toList_append]; simp [hnode, str]
      rw [he] at h
      have H := Lib.hid h
      have HX := Lib.hid hx
      clear h hx hxs he
      have hn1 : nodeS l r = hnode l r := if_pos ⟨hl, hr⟩
      have hn2 : nodeE l r = 0 := if_pos ⟨hl, hr⟩
      rw [hn1, hn2]
      clear hn1 hn2
      have hl' : (l.size : Int) = 32 := by omega
      have hr' : (r.size : Int) = 32 := by omega
      have hb1 : (⟨#[1]⟩ : ByteArray).size = 1 := rfl
      go_enter Tryd.func89, Tryd.ntmps89
      go_wp2_with (go_at_call 108; rw [← HX.out]; refine H.out.mono ?_; rintro e w1 ⟨rfl, hb⟩)
      go_ret2
      exact ⟨rfl, hb⟩
    · have hn1 : nodeS l r = ⟨#[]⟩ := if_neg (fun h => hr h.2)
      have hn2 : nodeE l r = 12 := if_neg (fun h => hr h.2)
      rw [hn1, hn2]
      clear hn1 hn2
      have hl' : (l.size : Int) = 32 := by omega
      have hr' : ¬ (r.size : Int) = 32 := by omega
      go_enter Tryd.func89, Tryd.ntmps89
      go_wp2
      go_ret2
      exact ⟨rfl, Below.refl _ _⟩
  · have hn1 : nodeS l r = ⟨#[]⟩ := if_neg (fun h => hl h.1)
    have hn2 : nodeE l r = 12 := if_neg (fun h => hl h.1)
    rw [hn1, hn2]
    clear hn1 hn2
    have hl' : ¬ (l.size : Int) = 32 := by omega
    go_enter Tryd.func89, Tryd.ntmps89
    go_wp2
    go_ret2
    exact ⟨rfl, Below.refl _ _⟩

end Go.Proofs.YtejdpahgofhioaaDoor
