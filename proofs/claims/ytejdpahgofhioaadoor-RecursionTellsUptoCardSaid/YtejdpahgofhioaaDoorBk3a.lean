/- The law 3's book: mark, reads, walked. -/
import Derived.Test.YtejdpahgofhioaaDoorL3f
import Derived.Test.YtejdpahgofhioaaDoorHel0
namespace Go.Proofs.YtejdpahgofhioaaDoor.Bk3
open Go.RowKit Go.Scr
set_option linter.unusedVariables false

/-- the n-th mark -/
def markS (i : Nat) : ByteArray := ⟨#[109, 97, 114, 107]⟩ ++ str [UInt8.ofNat ((i : Int) % 256).toNat, UInt8.ofNat ((i : Int) / 256 % 256).toNat]
set_option maxRecDepth 100000 in
set_option maxHeartbeats 400000 in
theorem mark_any (i : Nat) (w : World) (hi : i ≤ 1048576) :
    Calls Tryd.prog 82 #[.int .i64 i] w fun e w' => e = .returned (.string (markS i)) ∧ Below w.heap.size w w' := by
  obtain ⟨a, ha⟩ : ∃ a : UInt8, a = UInt8.ofNat ((i : Int) % 256).toNat := ⟨_, rfl⟩
  obtain ⟨b, hb⟩ : ∃ b : UInt8, b = UInt8.ofNat ((i : Int) / 256 % 256).toNat := ⟨_, rfl⟩
  have e1 : (i : Int) % 256 = (a.toNat : Int) := by rw [ha]; exact byte_int i
  obtain ⟨d, hd⟩ : ∃ d, d = (i : Int) / 256 := ⟨_, rfl⟩
  have e2 : d % 256 = (b.toNat : Int) := by rw [hb, hd]; exact byte_int _
  have HS := Lib.hid (by unfold markS; rw [← ha, ← hb] : markS i = ⟨#[109, 97, 114, 107]⟩ ++ str [a, b])
  have hd2 := hd.symm
  have hcv := own_string (P := Tryd.prog) (D := 9) (S := 82) (c := 2) Tryd.underlying82 und_u8 und_string (own_of_blk (n := 2) (w := w.alloc (.cells (bytesV [a, b]).toArray 5)) (heap_alloc_new w _) (by simp) (by simp))
  have hbel : Below w.heap.size w (w.alloc (.cells (bytesV [a, b]).toArray 5)) := (Below.refl _ _).alloc (Nat.le_refl _) _
  have HBEL := Lib.hid hbel
  simp only [bytesV, List.map_cons, List.map_nil] at hcv
  clear ha hb hd hbel
  go_enter Tryd.func82, Tryd.ntmps82
  go_wp2
  go_ret
  exact ⟨by rw [HS.out]; rfl, HBEL.out⟩

set_option maxRecDepth 100000 in
set_option maxHeartbeats 1000000 in
theorem reads_any (v : Value) (m : ByteArray) (n : Nat) (w : World) (hv : Txts w v (List.replicate n m)) (hn : n ≤ 8388608) :
    Calls Tryd.prog 83 #[v, .string m] w fun e w' => e = .returned (.bool true) ∧ w = w' := by
  obtain ⟨p, c, rfl, hv1, hv2, hv3⟩ := hv
  rw [List.length_replicate] at hv1 hv2 ⊢
  have HV := Lib.hid hv3
  clear hv3 hv2
  go_enter Tryd.func83, Tryd.ntmps83
  go_wp2
  go_loop [5] (fun q => ∃ i : Nat, i ≤ n ∧ q = .int .i64 i) (fun q => n - (intOf q).toNat)
  case atStart => exact ⟨0, by omega, rfl⟩
  case round =>
    obtain ⟨i, hi, rfl⟩ := hrel
    by_cases hlt : i < n
    · have hl8 : (i : Int) < (n : Int) := by omega
      have hi0 : (0 : Int) ≤ (i : Int) := by omega
      obtain ⟨a, rfl, hc⟩ := HV.out i m (by rw [List.getElem?_replicate, if_pos hlt])
      have hst := text_same m
      go_wp2_with fail
      go_round
      case rel => exact ⟨i + 1, by omega, rfl⟩
      case measure => show n - ((i : Int) + 1).toNat < n - (i : Int).toNat; omega
    · have hl8 : ¬ ((i : Int) < (n : Int)) := by omega
      go_wp2_with fail
      go_ret
      exact ⟨rfl, rfl⟩
end Go.Proofs.YtejdpahgofhioaaDoor.Bk3
