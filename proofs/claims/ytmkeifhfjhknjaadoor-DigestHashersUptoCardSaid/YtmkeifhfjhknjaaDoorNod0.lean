/- Texts of hashes; the hasher's Len and Clone. -/
import Derived.Test.YtmkeifhfjhknjaaDoorDig4
namespace Go.Proofs.YtmkeifhfjhknjaaDoor
open Go.RowKit Go.Scr
set_option linter.unusedVariables false

def str (l : List UInt8) : ByteArray := ⟨l.toArray⟩
theorem str_size (l : List UInt8) : (str l).size = l.length := by
  show l.toArray.size = _
  simp
theorem str_list (l : List UInt8) : (str l).data.toList = l := by simp [str]
theorem sha_length (l : List UInt8) : (sha l).length = 32 := by
  unfold sha
  rw [flat_length, (absorb_St _).1]
def hempty : ByteArray := str (sha [])
def hnode (l r : ByteArray) : ByteArray := str (sha (1 :: (l.data.toList ++ r.data.toList)))
theorem txts_none (w : World) : Txts w (.slice none 0 0) [] := ⟨none, 0, rfl, by simp, by simp, fun j s h => by simp at h⟩
theorem txts_alloc (w : World) (T : TypeId) (L : List ByteArray) (hl : L.length ≤ 281474976710656) :
    Txts (w.alloc (.cells ((L.map Value.string).toArray) T)) (.slice (some ⟨w.heap.size, 0, none⟩) L.length L.length) L := by
  refine ⟨_, _, rfl, Nat.le_refl _, hl, fun j s h => ⟨_, rfl, ?_⟩⟩
  have hadd : (⟨w.heap.size, 0, none⟩ : Addr).add j = ⟨w.heap.size, j, none⟩ := by unfold Addr.add; split <;> simp_all
  rw [hadd, cell_of_row _ _ _ _ _ _ (heap_alloc_new w _)]
  simp [h]

theorem txts_drew (w : World) (T n : TypeId) (L : List ByteArray) (hl : L.length ≤ 281474976710656) (m : Nat) (hm : L.length = m) :
    Txts (w.drewN n |>.alloc (.cells ((L.map Value.string).toArray) T)) (.slice (some ⟨w.heap.size, 0, none⟩) m m) L := by
  subst hm
  exact txts_alloc (w.drewN n) T L hl
set_option maxRecDepth 100000 in
set_option maxHeartbeats 400000 in
theorem hlen_any (h : Nat) (m : List UInt8) (w : World) (hm : Hm w h m) :
    Calls Tryd.prog 15 #[.pointer (some ⟨h, 0, none⟩)] w fun e w' => e = .returned (.int .i64 (m.length : Int)) ∧ w' = w := by
  obtain ⟨rest, hr, htk, hblk⟩ := hm
  have cn : w.cell? ⟨h, 72, none⟩ = some (.int .i64 (m.length : Int)) := by rw [cell_of_row w h 72 _ _ _ hblk, hcells_n (absorb_St m).1 hr]
  clear htk hblk hr
  go_enter Tryd.func15, Tryd.ntmps15
  go_wp2
  go_ret
  exact ⟨rfl, rfl⟩

set_option maxRecDepth 100000 in
set_option maxHeartbeats 400000 in
theorem hclone_any (h : Nat) (m : List UInt8) (w : World) (hm : Hm w h m) :
    Calls Tryd.prog 16 #[.pointer (some ⟨h, 0, none⟩)] w fun e w' => ∃ c, e = .returned (.pointer (some ⟨c, 0, none⟩)) ∧ w.heap.size ≤ c ∧ Hm w' c m ∧ Below w.heap.size w w' := by
  obtain ⟨rest, hr, htk, hblk⟩ := hm
  have hsz : (hcells (absorb m) rest m.length).size = 73 := by simp [hcells, (absorb_St m).1, hr]
  have hall : (hcells (absorb m) rest m.length).all (·.oneCell') = true := by
    rw [Array.all_eq_true_iff_forall_mem]
    intro v hv
    simp only [hcells, List.mem_toArray, List.mem_append, List.mem_map, List.mem_singleton] at hv
    rcases hv with ⟨_, _, rfl⟩ | ⟨_, _, rfl⟩ | rfl <;> rfl
  obtain ⟨cs, hcs⟩ : ∃ cs, cs = hcells (absorb m) rest m.length := ⟨_, rfl⟩
  rw [← hcs] at hsz hall hblk
  have HCS := Lib.hid hcs
  have HB := Lib.hid hblk
  have HSZ := Lib.hid hsz
  have HALL := Lib.hid hall
  have HR := Lib.hid hr
  have HTK := Lib.hid htk
  have hz := zero_hasher
  clear hblk hsz hall hcs hr htk
  go_enter Tryd.func16, Tryd.ntmps16
  go_wp2_with (first
    | (refine wpList_load_row rfl 53 (.tmp 5) rfl h rfl 53 cs (0, 0) _ HB.out Tryd.underlying53 rfl (by rw [HSZ.out]; exact info_hasher) ?_)
    | (refine wpList_store_row rfl 53 (.tmp 3) (.tmp 6) rfl w.heap.size cs rfl rfl 53 _ (heap_alloc_new w _) (by rw [HSZ.out]; exact info_hasher) (by rw [HSZ.out]; exact hzero_size) HALL.out ?_
       rw [setRow_alloc]))
  go_ret
  exact ⟨_, rfl, Nat.le_refl _, ⟨rest, HR.out, HTK.out, by rw [← HCS.out]; exact heap_alloc_new w _⟩, (Below.refl _ _).alloc (Nat.le_refl _) _⟩
end Go.Proofs.YtmkeifhfjhknjaaDoor
