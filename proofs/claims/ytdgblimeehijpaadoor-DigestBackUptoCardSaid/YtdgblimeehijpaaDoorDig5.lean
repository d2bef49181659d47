/- Leaf, Empty, Node, of the program and of the document; Len, Clone. -/
import Derived.Test.YtdgblimeehijpaaDoorDig4
namespace Go.Proofs.YtdgblimeehijpaaDoor
open Go.RowKit Go.Scr
set_option linter.unusedVariables false

def str (l : List UInt8) : ByteArray := ⟨l.toArray⟩
theorem str_size (l : List UInt8) : (str l).size = l.length := by
  show l.toArray.size = _
  simp
theorem str_list (l : List UInt8) : (str l).data.toList = l := by simp [str]
theorem sha_length (l : List UInt8) : (sha l).length = 32 := by
  unfold sha
  rw [flat_length, (absorb_St _).1]
def hleaf (s : ByteArray) : ByteArray := str (sha (0 :: s.data.toList))
def hempty : ByteArray := str (sha [])
def hnode (l r : ByteArray) : ByteArray := str (sha (1 :: (l.data.toList ++ r.data.toList)))
theorem txts_none (w : World) : Txts w (.slice none 0 0) [] := ⟨none, 0, rfl, by simp, by simp, fun j s h => by simp at h⟩
theorem txts_alloc (w : World) (T : TypeId) (L : List ByteArray) (hl : L.length ≤ 281474976710656) :
    Txts (w.alloc (.cells ((L.map Value.string).toArray) T)) (.slice (some ⟨w.heap.size, 0, none⟩) L.length L.length) L := by
  refine ⟨_, _, rfl, Nat.le_refl _, hl, fun j s h => ⟨_, rfl, ?_⟩⟩
  have hadd : (⟨w.heap.size, 0, none⟩ : Addr).add j = ⟨w.heap.size, j, none⟩ := by unfold Addr.add; split <;> simp_all
  rw [hadd, cell_of_row _ _ _ _ _ _ (heap_alloc_new w _)]
  simp [h]

set_option maxRecDepth 100000 in
set_option maxHeartbeats 400000 in
theorem dempty_any (w : World) (ht : Tabs w) : Calls Tryd.prog 35 #[] w fun e w' => e = .returned (.string hempty) ∧ Below w.heap.size w w' := by
  have h := sum_any _ _ w ht (txts_none w) (by simp [cat])
  have H := Lib.hid h
  clear h ht
  go_enter Tryd.func35, Tryd.ntmps35
  go_wp2_with (go_at_call 14; refine H.out.mono ?_; rintro e w1 ⟨rfl, hb⟩)
  go_ret
  exact ⟨rfl, hb⟩

set_option maxRecDepth 100000 in
set_option maxHeartbeats 400000 in
theorem rempty_any (w : World) : Calls Tryd.prog 36 #[] w fun e w' => e = .returned (.string hempty) ∧ Below w.heap.size w w' := by
  have h := rsum_any ⟨#[]⟩ w (by decide)
  have H := Lib.hid h
  clear h
  go_enter Tryd.func36, Tryd.ntmps36
  go_wp2_with (go_at_call 32; refine H.out.mono ?_; rintro e w1 ⟨rfl, hb⟩)
  go_ret
  exact ⟨rfl, hb⟩

theorem txts_drew (w : World) (T n : TypeId) (L : List ByteArray) (hl : L.length ≤ 281474976710656) (m : Nat) (hm : L.length = m) :
    Txts (w.drewN n |>.alloc (.cells ((L.map Value.string).toArray) T)) (.slice (some ⟨w.heap.size, 0, none⟩) m m) L := by
  subst hm
  exact txts_alloc (w.drewN n) T L hl
set_option maxRecDepth 100000 in
set_option maxHeartbeats 400000 in
theorem dleaf_any (s : ByteArray) (w : World) (ht : Tabs w) (hl : s.size ≤ 140737488355199) :
    Calls Tryd.prog 33 #[.string s] w fun e w' => e = .returned (.string (hleaf s)) ∧ Below w.heap.size w w' := by
  have h := sum_any (.slice (some ⟨w.heap.size, 0, none⟩) 2 2) [⟨#[0]⟩, s] (w.alloc (.cells #[.string ⟨#[0]⟩, .string s] 9)) (ht.below ((Below.refl _ _).alloc (Nat.le_refl _) _)) (txts_alloc w 9 [⟨#[0]⟩, s] (by simp)) (by simp [cat]; omega)
  have h' : Calls Tryd.prog 14 #[.slice (some ⟨w.heap.size, 0, none⟩) 2 2] (w.alloc (.cells #[.string ⟨#[0]⟩, .string s] 9)) fun e w' => e = .returned (.string (hleaf s)) ∧ Below w.heap.size w w' := by
    refine h.mono ?_
    rintro e w1 ⟨rfl, hb⟩
    exact ⟨by simp [cat, hleaf, str], below_from ((Below.refl _ _).alloc (Nat.le_refl _) _) hb (by simp)⟩
  have H := Lib.hid h'
  clear h h' ht
  go_enter Tryd.func33, Tryd.ntmps33
  go_wp2_with (go_at_call 14; refine H.out.mono ?_; rintro e w1 ⟨rfl, hb⟩)
  go_ret
  exact ⟨rfl, hb⟩

set_option maxRecDepth 100000 in
set_option maxHeartbeats 400000 in
theorem rleaf_any (s : ByteArray) (w : World) (hl : s.size ≤ 140737488355199) :
    Calls Tryd.prog 34 #[.string s] w fun e w' => e = .returned (.string (hleaf s)) ∧ Below w.heap.size w w' := by
  obtain ⟨x, hx⟩ : ∃ x : ByteArray, x = ⟨#[0]⟩ ++ s := ⟨_, rfl⟩
  have hxs : x.size = 1 + s.size := by rw [hx, ByteArray.size_append]; rfl
  have h := rsum_any x w (by omega)
  have he : (⟨(sha x.data.toList).toArray⟩ : ByteArray) = hleaf s := by rw [hx, ByteArray.data_append, Array.toList_append]; rfl
  rw [he] at h
  have H := Lib.hid h
  have hs1 : 1 + s.size ≤ 140737488355200 := by omega
  have hs2 : (⟨#[0]⟩ : ByteArray).size + s.size ≤ 140737488355200 := hs1
  have HX := Lib.hid hx
  clear h hx hxs he
  go_enter Tryd.func34, Tryd.ntmps34
  go_wp2_with (go_at_call 32; rw [← HX.out]; refine H.out.mono ?_; rintro e w1 ⟨rfl, hb⟩)
  go_ret
  exact ⟨rfl, hb⟩

def okNode (l r : ByteArray) : Bool := decide (l.size = 32) && decide (r.size = 32)
def nodeS (l r : ByteArray) : ByteArray := if l.size = 32 ∧ r.size = 32 then hnode l r else ⟨#[]⟩
def nodeE (l r : ByteArray) : Int := if l.size = 32 ∧ r.size = 32 then 0 else 12

set_option maxRecDepth 100000 in
set_option maxHeartbeats 400000 in
theorem dnode_any (l r : ByteArray) (w : World) (ht : Tabs w) :
    Calls Tryd.prog 16 #[.string l, .string r] w fun e w' => e = .returned (.tuple #[.string (nodeS l r), .int .i64 (nodeE l r)]) ∧ Below w.heap.size w w' := by
  by_cases hl : l.size = 32
  · by_cases hr : r.size = 32
    · have h := sum_any (.slice (some ⟨w.heap.size, 0, none⟩) 3 3) [⟨#[1]⟩, l, r] (w.alloc (.cells #[.string ⟨#[1]⟩, .string l, .string r] 9)) (ht.below ((Below.refl _ _).alloc (Nat.le_refl _) _)) (txts_alloc w 9 [⟨#[1]⟩, l, r] (by simp)) (by simp [cat]; omega)
      have h' : Calls Tryd.prog 14 #[.slice (some ⟨w.heap.size, 0, none⟩) 3 3] (w.alloc (.cells #[.string ⟨#[1]⟩, .string l, .string r] 9)) fun e w' => e = .returned (.string (hnode l r)) ∧ Below w.heap.size w w' := by
        refine h.mono ?_
        rintro e w1 ⟨rfl, hb⟩
        exact ⟨by simp [cat, hnode, str], below_from ((Below.refl _ _).alloc (Nat.le_refl _) _) hb (by simp)⟩
      have H := Lib.hid h'
      clear h h' ht
      have hn1 : nodeS l r = hnode l r := if_pos ⟨hl, hr⟩
      have hn2 : nodeE l r = 0 := if_pos ⟨hl, hr⟩
      rw [hn1, hn2]
      clear hn1 hn2
      have hl' : (l.size : Int) = 32 := by omega
      have hr' : (r.size : Int) = 32 := by omega
      go_enter Tryd.func16, Tryd.ntmps16
      go_wp2_with (go_at_call 14; refine H.out.mono ?_; rintro e w1 ⟨rfl, hb⟩)
      go_ret2
      exact ⟨rfl, hb⟩
    · have hn1 : nodeS l r = ⟨#[]⟩ := if_neg (fun h => hr h.2)
      have hn2 : nodeE l r = 12 := if_neg (fun h => hr h.2)
      rw [hn1, hn2]
      clear hn1 hn2
      have hl' : (l.size : Int) = 32 := by omega
      have hr' : ¬ (r.size : Int) = 32 := by omega
      go_enter Tryd.func16, Tryd.ntmps16
      go_wp2
      go_ret2
      exact ⟨rfl, Below.refl _ _⟩
  · have hn1 : nodeS l r = ⟨#[]⟩ := if_neg (fun h => hl h.1)
    have hn2 : nodeE l r = 12 := if_neg (fun h => hl h.1)
    rw [hn1, hn2]
    clear hn1 hn2
    have hl' : ¬ (l.size : Int) = 32 := by omega
    go_enter Tryd.func16, Tryd.ntmps16
    go_wp2
    go_ret2
    exact ⟨rfl, Below.refl _ _⟩

set_option maxRecDepth 100000 in
set_option maxHeartbeats 400000 in
theorem rnode_any (l r : ByteArray) (w : World) :
    Calls Tryd.prog 17 #[.string l, .string r] w fun e w' => e = .returned (.tuple #[.string (nodeS l r), .int .i64 (nodeE l r)]) ∧ Below w.heap.size w w' := by
  by_cases hl : l.size = 32
  · by_cases hr : r.size = 32
    · obtain ⟨x, hx⟩ : ∃ x : ByteArray, x = ⟨#[1]⟩ ++ l ++ r := ⟨_, rfl⟩
      have hxs : x.size = 65 := by rw [hx, ByteArray.size_append, ByteArray.size_append, hl, hr]; rfl
      have h := rsum_any x w (by omega)
      have he : (⟨(sha x.data.toList).toArray⟩ : ByteArray) = hnode l r := by rw [hx, ByteArray.data_append, Array.toList_append, ByteArray.data_append, Array.toList_append]; simp [hnode, str]
      rw [he] at h
      have H := Lib.hid h
      have HX := Lib.hid hx
      clear h hx hxs he
      have hn1 : nodeS l r = hnode l r := if_pos ⟨hl, hr⟩
      have hn2 : nodeE l r = 0 := if_pos ⟨hl, hr⟩
      rw [hn1, hn2]
      clear hn1 hn2
      have hl' : (l.size : Int) = 32 := by omega
      have hr' : (r.size : Int) = 32 := by omega
      have hb1 : (⟨#[1]⟩ : ByteArray).size = 1 := rfl
      go_enter Tryd.func17, Tryd.ntmps17
      go_wp2_with (go_at_call 32; rw [← HX.out]; refine H.out.mono ?_; rintro e w1 ⟨rfl, hb⟩)
      go_ret2
      exact ⟨rfl, hb⟩
    · have hn1 : nodeS l r = ⟨#[]⟩ := if_neg (fun h => hr h.2)
      have hn2 : nodeE l r = 12 := if_neg (fun h => hr h.2)
      rw [hn1, hn2]
      clear hn1 hn2
      have hl' : (l.size : Int) = 32 := by omega
      have hr' : ¬ (r.size : Int) = 32 := by omega
      go_enter Tryd.func17, Tryd.ntmps17
      go_wp2
      go_ret2
      exact ⟨rfl, Below.refl _ _⟩
  · have hn1 : nodeS l r = ⟨#[]⟩ := if_neg (fun h => hl h.1)
    have hn2 : nodeE l r = 12 := if_neg (fun h => hl h.1)
    rw [hn1, hn2]
    clear hn1 hn2
    have hl' : ¬ (l.size : Int) = 32 := by omega
    go_enter Tryd.func17, Tryd.ntmps17
    go_wp2
    go_ret2
    exact ⟨rfl, Below.refl _ _⟩

set_option maxRecDepth 100000 in
set_option maxHeartbeats 400000 in
theorem hlen_any (h : Nat) (m : List UInt8) (w : World) (hm : Hm w h m) :
    Calls Tryd.prog 41 #[.pointer (some ⟨h, 0, none⟩)] w fun e w' => e = .returned (.int .i64 (m.length : Int)) ∧ w' = w := by
  obtain ⟨rest, hr, htk, hblk⟩ := hm
  have cn : w.cell? ⟨h, 72, none⟩ = some (.int .i64 (m.length : Int)) := by rw [cell_of_row w h 72 _ _ _ hblk, hcells_n (absorb_St m).1 hr]
  clear htk hblk hr
  go_enter Tryd.func41, Tryd.ntmps41
  go_wp2
  go_ret
  exact ⟨rfl, rfl⟩

set_option maxRecDepth 100000 in
set_option maxHeartbeats 400000 in
theorem hclone_any (h : Nat) (m : List UInt8) (w : World) (hm : Hm w h m) :
    Calls Tryd.prog 42 #[.pointer (some ⟨h, 0, none⟩)] w fun e w' => ∃ c, e = .returned (.pointer (some ⟨c, 0, none⟩)) ∧ w.heap.size ≤ c ∧ Hm w' c m ∧ Below w.heap.size w w' := by
  obtain ⟨rest, hr, htk, hblk⟩ := hm
  have hsz : (hcells (absorb m) rest m.length).size = 73 := by simp [hcells, (absorb_St m).1, hr]
  have hall : (hcells (absorb m) rest m.length).all (·.oneCell') = true := by
    rw [Array.all_eq_true_iff_forall_mem]
    intro v hv
    simp only [hcells, List.mem_toArray, List.mem_append, List.mem_map, List.mem_singleton] at hv
    rcases hv with ⟨_, _, rfl⟩ | ⟨_, _, rfl⟩ | rfl <;> rfl
  obtain ⟨cs, hcs⟩ : ∃ cs, cs = hcells (absorb m) rest m.length := ⟨_, rfl⟩
  rw [← hcs] at hsz hall hblk
  have HCS := Lib.hid hcs
  have HB := Lib.hid hblk
  have HSZ := Lib.hid hsz
  have HALL := Lib.hid hall
  have HR := Lib.hid hr
  have HTK := Lib.hid htk
  have hz := zero_hasher
  clear hblk hsz hall hcs hr htk
  go_enter Tryd.func42, Tryd.ntmps42
  go_wp2_with (first
    | (refine wpList_load_row rfl 68 (.tmp 5) rfl h rfl 68 cs (0, 0) _ HB.out Tryd.underlying68 rfl (by rw [HSZ.out]; exact info_hasher) ?_)
    | (refine wpList_store_row rfl 68 (.tmp 3) (.tmp 6) rfl w.heap.size cs rfl rfl 68 _ (heap_alloc_new w _) (by rw [HSZ.out]; exact info_hasher) (by rw [HSZ.out]; exact hzero_size) HALL.out ?_
       rw [setRow_alloc]))
  go_ret
  exact ⟨_, rfl, Nat.le_refl _, ⟨rest, HR.out, HTK.out, by rw [← HCS.out]; exact heap_alloc_new w _⟩, (Below.refl _ _).alloc (Nat.le_refl _) _⟩
end Go.Proofs.YtdgblimeehijpaaDoor
