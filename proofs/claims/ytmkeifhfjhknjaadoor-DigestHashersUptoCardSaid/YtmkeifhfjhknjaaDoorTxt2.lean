/- FromHex of the program, walked. -/
import Derived.Test.YtmkeifhfjhknjaaDoorTxt1
namespace Go.Proofs.YtmkeifhfjhknjaaDoor
open Go.RowKit Go.Scr
set_option linter.unusedVariables false

def nibN (c : UInt8) : Nat := if 48 ≤ c.toNat ∧ c.toNat ≤ 57 then c.toNat - 48 else if 97 ≤ c.toNat ∧ c.toNat ≤ 102 then c.toNat - 87 else 16
def pairV (d : List UInt8) (i : Nat) : UInt8 := UInt8.ofNat (16 * nibN (d.getD (2 * i) 0) + nibN (d.getD (2 * i + 1) 0))
def hexOk (d : List UInt8) (n : Nat) : Bool := (List.range n).all fun j => decide (nibN (d.getD j 0) < 16)
def unhexL (d : List UInt8) (n : Nat) : List UInt8 := (List.range n).map (pairV d)
def fhS (d : List UInt8) : ByteArray := if d.length % 2 = 0 ∧ hexOk d d.length = true then str (unhexL d (d.length / 2)) else ⟨#[]⟩
def fhE (d : List UInt8) : Int := if d.length % 2 = 0 ∧ hexOk d d.length = true then 0 else 10
theorem hexOk_two (d : List UInt8) (i : Nat) : hexOk d (2 * (i + 1)) = (hexOk d (2 * i) && (decide (nibN (d.getD (2 * i) 0) < 16) && decide (nibN (d.getD (2 * i + 1) 0) < 16))) := by
  unfold hexOk
  rw [show 2 * (i + 1) = 2 * i + 1 + 1 by omega, List.range_succ, List.range_succ]
  simp [Bool.and_assoc]
theorem hexOk_false {d : List UInt8} {n j : Nat} (hj : j < n) (h : ¬ nibN (d.getD j 0) < 16) : hexOk d n = false := by
  unfold hexOk
  rw [List.all_eq_false]
  exact ⟨j, List.mem_range.mpr hj, by simpa using h⟩
theorem unhexL_succ (d : List UInt8) (i : Nat) : unhexL d (i + 1) = unhexL d i ++ [pairV d i] := by
  unfold unhexL
  rw [List.range_succ, List.map_append]
  rfl
theorem u8_pair (a b : Nat) (ha : a < 16) (hb : b < 16) : bits .or .u8 ((a : Int) * 16) (b : Int) = ((16 * a + b : Nat) : Int) := by
  have h : ∀ (x y : Fin 16), bits .or .u8 ((x.val : Int) * 16) (y.val : Int) = ((16 * x.val + y.val : Nat) : Int) := by decide +kernel
  exact h ⟨a, ha⟩ ⟨b, hb⟩

set_option maxRecDepth 100000 in
set_option maxHeartbeats 400000 in
theorem dnib_any (c : UInt8) (w : World) :
    Calls Tryd.prog 30 #[.int .u8 (c.toNat : Int)] w fun e w' => e = .returned (.tuple #[.int .u8 ((if nibN c < 16 then nibN c else 0 : Nat) : Int), .bool (decide (nibN c < 16))]) ∧ w' = w := by
  obtain ⟨n, hn⟩ : ∃ n, n = c.toNat := ⟨_, rfl⟩
  have hnb : n < 256 := by rw [hn]; exact c.toNat_lt
  by_cases h1 : 48 ≤ n
  · by_cases h2 : n ≤ 57
    · have hv : nibN c = n - 48 := by unfold nibN; rw [← hn, if_pos ⟨h1, h2⟩]
      rw [hv, ← hn, if_pos (by omega), decide_eq_true (by omega)]
      have i1 : (48 : Int) ≤ (n : Int) := by omega
      have i2 : (n : Int) ≤ 57 := by omega
      have e1 : ((n - 48 : Nat) : Int) = (n : Int) - 48 := by omega
      rw [e1]
      clear hn hv e1
      go_enter Tryd.func30, Tryd.ntmps30
      go_wp2
      go_ret2
      exact ⟨rfl, rfl⟩
    · by_cases h3 : 97 ≤ n
      · by_cases h4 : n ≤ 102
        · have hv : nibN c = n - 87 := by unfold nibN; rw [← hn, if_neg (by omega), if_pos ⟨h3, h4⟩]
          rw [hv, ← hn, if_pos (by omega), decide_eq_true (by omega)]
          have i1 : (48 : Int) ≤ (n : Int) := by omega
          have i2 : ¬ ((n : Int) ≤ 57) := by omega
          have i3 : (97 : Int) ≤ (n : Int) := by omega
          have i4 : (n : Int) ≤ 102 := by omega
          have e1 : ((n - 87 : Nat) : Int) = (n : Int) - 97 + 10 := by omega
          rw [e1]
          clear hn hv e1
          go_enter Tryd.func30, Tryd.ntmps30
          go_wp2
          go_ret2
          exact ⟨rfl, rfl⟩
        · have hv : nibN c = 16 := by unfold nibN; rw [← hn, if_neg (by omega), if_neg (by omega)]
          rw [hv, ← hn, if_neg (by omega), decide_eq_false (by omega)]
          have i1 : (48 : Int) ≤ (n : Int) := by omega
          have i2 : ¬ ((n : Int) ≤ 57) := by omega
          have i3 : (97 : Int) ≤ (n : Int) := by omega
          have i4 : ¬ ((n : Int) ≤ 102) := by omega
          clear hn hv
          go_enter Tryd.func30, Tryd.ntmps30
          go_wp2
          go_ret2
          exact ⟨rfl, rfl⟩
      · have hv : nibN c = 16 := by unfold nibN; rw [← hn, if_neg (by omega), if_neg (by omega)]
        rw [hv, ← hn, if_neg (by omega), decide_eq_false (by omega)]
        have i1 : (48 : Int) ≤ (n : Int) := by omega
        have i2 : ¬ ((n : Int) ≤ 57) := by omega
        have i3 : ¬ ((97 : Int) ≤ (n : Int)) := by omega
        clear hn hv
        go_enter Tryd.func30, Tryd.ntmps30
        go_wp2
        go_ret2
        exact ⟨rfl, rfl⟩
  · have hv : nibN c = 16 := by unfold nibN; rw [← hn, if_neg (by omega), if_neg (by omega)]
    rw [hv, ← hn, if_neg (by omega), decide_eq_false (by omega)]
    have i1 : ¬ ((48 : Int) ≤ (n : Int)) := by omega
    have i3 : ¬ ((97 : Int) ≤ (n : Int)) := by omega
    clear hn hv
    go_enter Tryd.func30, Tryd.ntmps30
    go_wp2
    go_ret2
    exact ⟨rfl, rfl⟩

set_option maxRecDepth 100000 in
set_option maxHeartbeats 1000000 in
theorem dfromhex_any (s : ByteArray) (w : World) (hl : s.size ≤ 1099511627776) :
    Calls Tryd.prog 22 #[.string s] w fun e w' => e = .returned (.tuple #[.string (fhS s.data.toList), .int .i64 (fhE s.data.toList)]) ∧ Below w.heap.size w w' := by
  obtain ⟨d, hd⟩ : ∃ d, d = s.data.toList := ⟨_, rfl⟩
  have hdl : d.length = s.size := by rw [hd]; simp
  have HD := Lib.hid hd
  have HDL := Lib.hid hdl
  rw [← hd]
  have hz0 : (0 : Int) ≤ (s.size : Int) := Int.natCast_nonneg _
  by_cases ho : s.size % 2 = 0
  · obtain ⟨c, hc⟩ : ∃ c, c = s.size / 2 := ⟨_, rfl⟩
    have hc1 : s.size = 2 * c := by omega
    have hcb : c ≤ 1099511627776 := by omega
    have hm1 : (s.size : Int).tmod 2 = 0 := by rw [Int.tmod_eq_emod_of_nonneg hz0]; omega
    have hm2 : (s.size : Int).tdiv 2 = (c : Int) := by rw [Int.tdiv_eq_ediv_of_nonneg hz0]; omega
    have hmk := make_bytes (P := Tryd.prog) 41 5 Tryd.underlying41 bu8 0 c (by omega) (by omega) w
    rw [show (((0 : Nat)) : Int) = 0 from rfl] at hmk
    have HC1 := Lib.hid hc1
    have HEV := Lib.hid ho
    clear hd hdl hc hc1 ho hz0
    go_enter Tryd.func22, Tryd.ntmps22
    go_upto_region 4 with fail
    clear hm1 hm2
    have hown0 := World.ownsRow_made (base := w.heap.size) (e := 5) (size := 1) w (madeCells #[Value.int .u8 0] c) c (Nat.le_refl _) (by simp only [maxLen]; omega) (by rw [size_madeCells]; simp)
    obtain ⟨B, hB⟩ : ∃ B, B = w.heap.size := ⟨_, rfl⟩
    have hb0 : Below w.heap.size w (w.alloc (.cells (madeCells #[Value.int .u8 0] c) 5)) := (Below.refl _ _).alloc (Nat.le_refl _) _
    rw [← hB] at hown0 ⊢
    have HBW := Lib.hid hB
    generalize w.alloc (.cells (madeCells #[Value.int .u8 0] c) 5) = w1 at hown0 hb0 ⊢
    have HO0 := Lib.hid hown0
    have HB0 := Lib.hid hb0
    clear hmk hB hown0 hb0
    go_wp2_with fail
    go_loopw [4, 5] (fun v q wr => ∃ i p : Nat, i ≤ c ∧ Hid (p = 2 * i) ∧ q = .int .i64 p ∧ v = .slice (some ⟨B, 0, none⟩) i c ∧ wr.ownsRow B 5 1 (.slice (some ⟨B, 0, none⟩) i c) i (bytesV (unhexL d i)) ∧ hexOk d p = true ∧ Below w.heap.size w wr) (fun _ q _ => s.size - (intOf q).toNat)
    case atStart => exact ⟨0, 0, by omega, rfl, rfl, rfl, HO0.out, rfl, HB0.out⟩
    case round =>
      clear HO0 HB0
      obtain ⟨i, p, hi, hp, rfl, rfl, hown, hok, hbel⟩ := hrel
      have HP := Lib.hid hp
      have HOWN := Lib.hid hown
      have HOK := Lib.hid hok
      have HBEL := Lib.hid hbel
      clear hp hown hok hbel
      by_cases hlt : i < c
      · obtain ⟨a, ha⟩ : ∃ a, a = d.getD (2 * i) 0 := ⟨_, rfl⟩
        obtain ⟨b, hb⟩ : ∃ b, b = d.getD (2 * i + 1) 0 := ⟨_, rfl⟩
        have hp1 : p + 1 < s.size := by have := HP.out.out; have := HC1.out; omega
        have hka : ∀ (h : p < s.size), s[p] = a := fun h => by
          rw [ha, ← HP.out.out, List.getD_eq_getElem?_getD, HD.out, List.getElem?_eq_getElem (by simpa using h)]
          rfl
        have hkb : ∀ (h : p + 1 < s.size), s[p + 1] = b := fun h => by
          rw [hb, ← HP.out.out, List.getD_eq_getElem?_getD, HD.out, List.getElem?_eq_getElem (by simpa using h)]
          rfl
        have ht1 : ((p : Int) + 1).toNat = p + 1 := by omega
        have hi1 : (p : Int) < (s.size : Int) := by omega
        have hi2 : (p : Int) + 1 < (s.size : Int) := by omega
        have HAV := Lib.hid ha
        have HBV := Lib.hid hb
        obtain ⟨x, hx⟩ : ∃ x, x = nibN a := ⟨_, rfl⟩
        obtain ⟨y, hy⟩ : ∃ y, y = nibN b := ⟨_, rfl⟩
        have hna := fun w => dnib_any a w
        have hnb := fun w => dnib_any b w
        rw [← hx] at hna
        rw [← hy] at hnb
        have HX := Lib.hid hx
        have HY := Lib.hid hy
        clear ha hb hx hy
        by_cases hx16 : x < 16
        · rw [if_pos hx16, decide_eq_true hx16] at hna
          by_cases hy16 : y < 16
          · rw [if_pos hy16, decide_eq_true hy16] at hnb
            have HNA := Lib.hid hna
            have HNB := Lib.hid hnb
            have e1 := u8_pair x y hx16 hy16
            have e2 : (((16 * x + y : Nat)) : Int) = ((UInt8.ofNat (16 * x + y)).toNat : Int) := by rw [UInt8.toNat_ofNat']; omega
            rw [e2] at e1
            have HCELL : Hid (#[Value.int .u8 ((UInt8.ofNat (16 * x + y)).toNat : Int)] = (bytesV [UInt8.ofNat (16 * x + y)]).toArray) := rfl
            clear hna hnb e2
            have hfit : i + 1 ≤ c := by omega
            go_wp2_with (first
              | (go_at_call 30; with_reducible refine (HNA.out _).mono ?_; rintro r w2 ⟨rfl, rfl⟩)
              | (go_at_call 30; with_reducible refine (HNB.out _).mono ?_; rintro r w3 ⟨rfl, rfl⟩)
              | (at_builtin; refine wpList_fitsV rfl _ _ rfl Tryd.underlying41 (.int .u8 0) 1 bu8 (bytesV [UInt8.ofNat (16 * x + y)]) 1 (i + 1) rfl rfl HOWN.out HCELL.out rfl (bytesV_one _) rfl hfit ?_; intro w' hown' hgr'; have HOWN' := Lib.hid hown'; have HG := Lib.hid hgr'; clear hown' hgr'))
            refine ⟨⟨i + 1, p + 2, by omega, (by have := HP.out.out; show _ = _; omega), rfl, rfl, ?_, ?_, HBEL.out.grown HG.out HBEL.out.size (fun q hq => by cases hq; have := HBW.out; omega)⟩, (by show s.size - ((p : Int) + 2).toNat < s.size - (p : Int).toNat; omega)⟩
            · rw [unhexL_succ, show bytesV (unhexL d i ++ [pairV d i]) = bytesV (unhexL d i) ++ bytesV [pairV d i] by simp [bytesV]]
              have e : pairV d i = UInt8.ofNat (16 * x + y) := by unfold pairV; rw [← HAV.out, ← HBV.out, ← HX.out, ← HY.out]
              rw [e]
              exact HOWN'.out
            · have hp := HP.out.out
              have hk := HOK.out
              rw [hp] at hk
              rw [show p + 2 = 2 * (i + 1) by omega, hexOk_two, hk, ← HAV.out, ← HBV.out, ← HX.out, ← HY.out]
              simp [hx16, hy16]
          · rw [if_neg hy16, decide_eq_false hy16] at hnb
            have HNA := Lib.hid hna
            have HNB := Lib.hid hnb
            clear hna hnb
            have hbad : hexOk d d.length = false := hexOk_false (j := 2 * i + 1) (by rw [HDL.out]; have := HP.out.out; omega) (by rw [← HBV.out, ← HY.out]; exact hy16)
            have hS : fhS d = ⟨#[]⟩ := if_neg (by rw [hbad]; simp)
            have hE : fhE d = 10 := if_neg (by rw [hbad]; simp)
            have HS := Lib.hid hS
            have HE := Lib.hid hE
            clear hbad hS hE
            go_wp2_with (first
              | (go_at_call 30; with_reducible refine (HNA.out _).mono ?_; rintro r w2 ⟨rfl, rfl⟩)
              | (go_at_call 30; with_reducible refine (HNB.out _).mono ?_; rintro r w3 ⟨rfl, rfl⟩))
            go_ret2
            exact ⟨by rw [HS.out, HE.out]; rfl, HBEL.out⟩
        · rw [if_neg hx16, decide_eq_false hx16] at hna
          have HNA := Lib.hid hna
          have HNB := Lib.hid hnb
          clear hna hnb
          have hbad : hexOk d d.length = false := hexOk_false (j := 2 * i) (by rw [HDL.out]; have := HP.out.out; omega) (by rw [← HAV.out, ← HX.out]; exact hx16)
          have hS : fhS d = ⟨#[]⟩ := if_neg (by rw [hbad]; simp)
          have hE : fhE d = 10 := if_neg (by rw [hbad]; simp)
          have HS := Lib.hid hS
          have HE := Lib.hid hE
          clear hbad hS hE
          go_wp2_with (first
            | (go_at_call 30; with_reducible refine (HNA.out _).mono ?_; rintro r w2 ⟨rfl, rfl⟩)
            | (go_at_call 30; with_reducible refine (HNB.out _).mono ?_; rintro r w3 ⟨rfl, rfl⟩))
          all_goals go_ret2
          all_goals exact ⟨by rw [HS.out, HE.out]; rfl, HBEL.out⟩
      · have hic : i = c := by omega
        have hps : ¬ ((p : Int) < (s.size : Int)) := by have := HP.out.out; have := HC1.out; omega
        have hul : i = (unhexL d i).length := by simp [unhexL]
        have hcv := own_string (P := Tryd.prog) (D := 9) (S := 41) (w := wr) (B := B) (g := B) (N := i) (c := c) (l := unhexL d i) Tryd.underlying41 bund8 bundS (by unfold OwnB; rw [← hul]; exact HOWN.out)
        have hok2 : hexOk d d.length = true := by
          have := HOK.out
          rwa [show p = d.length by have := HP.out.out; have := HC1.out; have := HDL.out; omega] at this
        have hcnd : d.length % 2 = 0 ∧ hexOk d d.length = true := ⟨by rw [HDL.out]; exact HEV.out, hok2⟩
        have hS : fhS d = str (unhexL d i) := by
          unfold fhS
          rw [if_pos hcnd, show d.length / 2 = i by have := HC1.out; have := HDL.out; omega]
        have hE : fhE d = 0 := if_pos hcnd
        have HS := Lib.hid hS
        have HE := Lib.hid hE
        clear hic hul hok2 hcnd hS hE
        go_wp2
        go_ret2
        exact ⟨by rw [HS.out, HE.out]; rfl, HBEL.out⟩
  · have hm1 : (s.size : Int).tmod 2 = 1 := by rw [Int.tmod_eq_emod_of_nonneg hz0]; omega
    have hS : fhS d = ⟨#[]⟩ := if_neg (by rw [hdl]; intro h; exact ho h.1)
    have hE : fhE d = 10 := if_neg (by rw [hdl]; intro h; exact ho h.1)
    rw [hS, hE]
    clear hd hdl ho hz0 hS hE
    go_enter Tryd.func22, Tryd.ntmps22
    go_wp2
    go_ret2
    exact ⟨rfl, Below.refl _ _⟩
end Go.Proofs.YtmkeifhfjhknjaaDoor
