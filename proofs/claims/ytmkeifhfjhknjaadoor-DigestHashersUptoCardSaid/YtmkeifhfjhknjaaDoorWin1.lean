/- winternitz.Digits, walked. -/
import Derived.Test.YtmkeifhfjhknjaaDoorNod0
import Derived.Test.YtmkeifhfjhknjaaDoorRow
import Derived.Test.YtmkeifhfjhknjaaDoorMark
namespace Go.Proofs.YtmkeifhfjhknjaaDoor
open Go.RowKit Go.Scr
set_option linter.unusedVariables false

theorem ownsRow_le' {w : World} {base base' size n : Nat} {e : TypeId} {v : Value} {xs : List Value} (h : w.ownsRow base e size v n xs) (hb : base' ≤ base) : w.ownsRow base' e size v n xs := by
  obtain ⟨h1, h2⟩ := h
  refine ⟨h1, ?_⟩
  rcases h2 with h2 | ⟨g, cap, cur, h3, h4, h5⟩
  · exact .inl h2
  · exact .inr ⟨g, cap, cur, h3, by omega, h5⟩
/-- the digits of some bytes, two a byte -/
def nibs (d : List UInt8) : List Nat := d.flatMap fun c => [c.toNat / 16, c.toNat % 16]
theorem nibs_length (d : List UInt8) : (nibs d).length = 2 * d.length := by
  unfold nibs
  induction d with
  | nil => rfl
  | cons c d ih => rw [List.flatMap_cons, List.length_append, ih]; simp; omega
theorem nibs_lt (d : List UInt8) : ∀ x ∈ nibs d, x < 16 := by
  intro x hx
  simp only [nibs, List.mem_flatMap, List.mem_cons, List.not_mem_nil, or_false] at hx
  obtain ⟨c, _, rfl | rfl⟩ := hx
  · have := c.toNat_lt; omega
  · omega
theorem nibs_take {d : List UInt8} {k : Nat} {c : UInt8} (h : d[k]? = some c) : nibs (d.take (k + 1)) = nibs (d.take k) ++ [c.toNat / 16, c.toNat % 16] := by
  obtain ⟨hk, rfl⟩ := List.getElem?_eq_some_iff.mp h
  unfold nibs
  rw [List.take_succ_eq_append_getElem hk, List.flatMap_append]
  simp
/-- how far they are from the last digits, together -/
def short (l : List Nat) : Nat := (l.map fun x => 15 - x).sum
theorem short_take {l : List Nat} {k x : Nat} (h : l[k]? = some x) : short (l.take (k + 1)) = short (l.take k) + (15 - x) := by
  obtain ⟨hk, rfl⟩ := List.getElem?_eq_some_iff.mp h
  unfold short
  rw [List.take_succ_eq_append_getElem hk, List.map_append, List.sum_append]
  simp
theorem short_le (l : List Nat) : short l ≤ 15 * l.length := by
  unfold short
  induction l with
  | nil => simp
  | cons a l ih => simp only [List.map_cons, List.sum_cons, List.length_cons]; omega
def digs (d : List UInt8) : List Nat := nibs d ++ [short (nibs d) / 256, short (nibs d) / 16 % 16, short (nibs d) % 16]
/-- the digest of a text, as it is signed -/
def dig (s : ByteArray) : List UInt8 := sha (109 :: s.data.toList)
theorem dig_length (s : ByteArray) : (dig s).length = 32 := sha_length _
theorem u8_hi (c : UInt8) : ((c.toNat : Int) / 16) = ((c.toNat / 16 : Nat) : Int) := by omega
theorem u8_lo (c : UInt8) : bits .and .u8 (c.toNat : Int) 15 = ((c.toNat % 16 : Nat) : Int) := by
  have h : ∀ n : Fin 256, bits .and .u8 (n.val : Int) 15 = ((n.val % 16 : Nat) : Int) := by decide +kernel
  exact h ⟨c.toNat, c.toNat_lt⟩

theorem i64_15 (a : Nat) (h : a < 9223372036854775808) : bits .and .i64 (a : Int) 15 = ((a % 16 : Nat) : Int) := by
  have := i64_an a 15 h (by omega)
  rw [show ((15 : Nat) : Int) = 15 from rfl] at this
  rw [this]
  unfold an
  rw [show (15 : Nat) = 2 ^ 4 - 1 from rfl, Nat.and_two_pow_sub_one_eq_mod]

set_option maxRecDepth 100000 in
set_option maxHeartbeats 1000000 in
theorem wdigits_any (s : ByteArray) (w : World) (ht : Tabs w) (hl : s.size ≤ 140737488355199) :
    Calls Tryd.prog 6 #[.string s] w fun e w' => ∃ g c, e = .returned (.slice (some ⟨g, 0, none⟩) 67 c) ∧ w'.ownsRow w.heap.size 3 1 (.slice (some ⟨g, 0, none⟩) 67 c) 67 (numV (digs (dig s))) ∧ Below w.heap.size w w' := by
  obtain ⟨D, hD⟩ : ∃ D : ByteArray, D = str (dig s) := ⟨_, rfl⟩
  have hDs : D.size = 32 := by rw [hD, str_size, dig_length]
  have hDl : D.data.toList = dig s := by rw [hD, str_list]
  have h := sum_any (.slice (some ⟨w.heap.size, 0, none⟩) 2 2) [⟨#[109]⟩, s] (w.alloc (.cells #[.string ⟨#[109]⟩, .string s] 9)) (ht.below ((Below.refl _ _).alloc (Nat.le_refl _) _)) (txts_alloc w 9 [⟨#[109]⟩, s] (by simp)) (by simp [cat]; omega)
  have h' : Calls Tryd.prog 18 #[.slice (some ⟨w.heap.size, 0, none⟩) 2 2] (w.alloc (.cells #[.string ⟨#[109]⟩, .string s] 9)) fun e w' => e = .returned (.string D) ∧ Below w.heap.size w w' := by
    refine h.mono ?_
    rintro e w1 ⟨rfl, hb⟩
    exact ⟨by rw [hD]; simp [cat, dig, str], below_from ((Below.refl _ _).alloc (Nat.le_refl _) _) hb (by simp)⟩
  have H := Lib.hid h'
  have HDL := Lib.hid hDl
  have HDS := Lib.hid hDs
  clear h h' hD hDs hDl
  go_enter Tryd.func6, Tryd.ntmps6
  go_wp2_with (go_at_call 18; refine H.out.mono ?_; rintro e w1 ⟨rfl, hb1⟩; obtain ⟨v0, w2, hcv, ⟨c0, rfl⟩, hown, hb2, hsz2⟩ := own_of_string (P := Tryd.prog) w1 9 41 5 D rund_string Tryd.underlying41 rund_u8 (by have := HDS.out; simp only [maxLen]; omega); have HB1 := Lib.hid hb1; have HB2 := Lib.hid hb2; have HO := Lib.hid hown; have HSZ2 := Lib.hid hsz2; clear hb1 hb2 hown hsz2)
  obtain ⟨E, hE⟩ : ∃ E, E = w1.heap.size := ⟨_, rfl⟩
  rw [← hE]
  obtain ⟨F, hF⟩ : ∃ F, F = w2.heap.size := ⟨_, rfl⟩
  have HEF : Hid (E + 1 = F ∧ w.heap.size ≤ E) := ⟨by have := HSZ2.out; omega, by have := HB1.out.size; omega⟩
  have HF0 : Hid (F ≤ w2.heap.size) := Nat.le_of_eq hF
  have HO' : Hid (OwnM w2 E 5 (.slice (some ⟨E, 0, none⟩) D.size c0) D.data.toList) := by rw [hE]; exact HO.out
  have HB : Hid (Below w.heap.size w w2) := below_from HB1.out HB2.out HB1.out.size
  clear HO HB1 HB2 hE hF hcv HSZ2
  go_loopw [3, 15] (fun v s wr => ∃ k n : Nat, k ≤ 32 ∧ s = .int .i64 k ∧ Hid (n = 2 * k) ∧ wr.ownsRow F 3 1 v n (numV (nibs (D.data.toList.take k))) ∧ OwnM wr E 5 (.slice (some ⟨E, 0, none⟩) D.size c0) D.data.toList ∧ Below w.heap.size w wr ∧ F ≤ wr.heap.size) (fun _ s _ => 32 - (intOf s).toNat)
  case atStart => exact ⟨0, 0, by omega, rfl, rfl, by simpa [nibs, numV] using World.ownsRow_nil w2 F 3 1, HO'.out, HB.out, HF0.out⟩
  case round =>
    clear HO' HB HF0
    obtain ⟨k, n, hk, rfl, hn, hown, hob, hbel, hsz⟩ := hrel
    have HN := Lib.hid hn
    have HOWN := Lib.hid hown
    have HOB := Lib.hid hob
    have HBEL := Lib.hid hbel
    have HSZ := Lib.hid hsz
    clear hn hown hob hbel hsz
    by_cases hlt : k < 32
    · obtain ⟨c, hc⟩ : ∃ c, D.data.toList[k]? = some c := ⟨D.data.toList[k]'(by have := HDS.out; simpa using (by omega : k < D.size)), List.getElem?_eq_getElem _⟩
      have hkl : k < D.data.toList.length := (List.getElem?_eq_some_iff.mp hc).1
      have hcell : wr.cell? ⟨E, k, none⟩ = some (.int .u8 (c.toNat : Int)) := by
        rw [HOB.out.cell k hkl]
        rw [(List.getElem?_eq_some_iff.mp hc).2]
      have HNT := Lib.hid (nibs_take hc)
      obtain ⟨hi, hhi⟩ : ∃ hi, hi = c.toNat / 16 := ⟨_, rfl⟩
      obtain ⟨lo, hlo⟩ : ∃ lo, lo = c.toNat % 16 := ⟨_, rfl⟩
      have e1 : (c.toNat : Int) / 16 = (hi : Int) := by rw [hhi]; exact u8_hi c
      have e2 : bits .and .u8 (c.toNat : Int) 15 = (lo : Int) := by rw [hlo]; exact u8_lo c
      have hib : hi < 16 := by have := c.toNat_lt; omega
      have lob : lo < 16 := by omega
      have hks : (k : Int) < (D.size : Int) := by have := HDS.out; omega
      have HHI := Lib.hid hhi
      have HLO := Lib.hid hlo
      clear hc hkl hhi hlo
      have hnb : n + 2 ≤ 66 := by have := HN.out.out; omega
      have hFw : w.heap.size ≤ F := by have := HEF.out; omega
      go_wp2_with (at_builtin; refine wpList_appendV rfl _ _ rfl Tryd.underlying25 (.int .i64 0) 1 info_int rfl (by decide) (numV [hi, lo]) 2 (n + 2) rfl rfl HOWN.out rfl rfl (numV_one _) HBEL.out hFw HSZ.out rfl (by omega) (by omega) (by omega) ?_; intro g' c' w' hg' hown' hb' hsz' hgr'; have HOWN' := Lib.hid hown'; have HB' := Lib.hid hb'; have HSZ' := Lib.hid hsz'; have HBF := Lib.hid ((Below.refl F wr).grown hgr' HSZ.out (fun q hq => (World.ownsRow.lt HOWN.out q hq).1)); clear hown' hb' hsz' hgr')
      refine ⟨⟨k + 1, n + 2, by omega, rfl, (by have := HN.out.out; show _ = _; omega), ?_, OwnM.below HOB.out HBF.out (fun q hq => ?_), HB'.out, Nat.le_trans HSZ.out HSZ'.out⟩, ?_⟩
      · rw [HNT.out, numV_append, ← HHI.out, ← HLO.out]
        exact HOWN'.out
      · have : E = q := by simpa [Value.ownBlock] using hq
        have := HEF.out
        omega
      · show 32 - ((k : Int) + 1).toNat < 32 - (k : Int).toNat
        omega
    · have HK := Lib.hid (show k = 32 by omega)
      have hkn : ¬ ((k : Int) < (D.size : Int)) := by have := HDS.out; omega
      obtain ⟨L, hL⟩ : ∃ L, L = nibs (dig s) := ⟨_, rfl⟩
      have hLl : L.length = 64 := by rw [hL, nibs_length, dig_length]
      have hown := HOWN.out
      rw [HK.out, List.take_of_length_le (by have := HDS.out; simp; omega), HDL.out, ← hL, show n = 64 by have := HN.out.out; have := HK.out; omega] at hown
      rcases hown.2 with ⟨_, h0⟩ | ⟨g, c, cur, rfl, hFg, _⟩
      · omega
      have HL := Lib.hid hL
      have HLL := Lib.hid hLl
      have HOWNL := Lib.hid hown
      have hL15 : ∀ j x, L[j]? = some x → x < 16 := fun j x h => nibs_lt _ x (by rw [← HL.out]; exact List.mem_of_getElem? h)
      have HL15 := Lib.hid hL15
      clear hown hL hLl HOWN HN HOB hL15
      go_wp2_with fail
      clear hkn
      have hFw : w.heap.size ≤ F := by have := HEF.out; omega
      go_loopw [4, 31] (fun v q wx => ∃ j : Nat, j ≤ 64 ∧ v = .int .i64 ((short (L.take j) : Nat) : Int) ∧ q = .int .i64 j ∧ wx.ownsRow F 3 1 (.slice (some ⟨g, 0, none⟩) 64 c) 64 (numV L) ∧ Below w.heap.size w wx ∧ F ≤ wx.heap.size) (fun _ q _ => 64 - (intOf q).toNat)
      case atStart => exact ⟨0, by omega, rfl, rfl, HOWNL.out, HBEL.out, HSZ.out⟩
      case round =>
        clear HOWNL HBEL HSZ
        obtain ⟨j, hj, rfl, rfl, hown, hbel, hsz⟩ := hrel
        have HOWN := Lib.hid hown
        have HBEL := Lib.hid hbel
        have HSZ := Lib.hid hsz
        clear hown hbel hsz
        obtain ⟨S, hS⟩ : ∃ S, S = short (L.take j) := ⟨_, rfl⟩
        have hSb : S ≤ 960 := by
          rw [hS]
          have := short_le (L.take j)
          rw [List.length_take, HLL.out] at this
          omega
        rw [← hS]
        have HS := Lib.hid hS
        clear hS
        by_cases hlt : j < 64
        · obtain ⟨x, hx⟩ : ∃ x, L[j]? = some x := ⟨L[j]'(by rw [HLL.out]; exact hlt), List.getElem?_eq_getElem _⟩
          have hxb := HL15.out j x hx
          have hcell := owns_cell HOWN.out (j := j) hlt
          rw [show (numV L)[j]? = some (.int .i64 (x : Int)) by unfold numV; rw [List.getElem?_map, hx]; rfl] at hcell
          have HST := Lib.hid (short_take hx)
          have e3 : IntKind.i64.wrap (15 - (x : Int)) = ((15 - x : Nat) : Int) := by rw [wrap_i64_id _ (by omega) (by omega)]; omega
          have e4 : IntKind.i64.wrap ((S : Int) + ((15 - x : Nat) : Int)) = ((S + (15 - x) : Nat) : Int) := by rw [wrap_i64_id _ (by omega) (by omega)]; omega
          clear hx
          go_wp2_with fail
          refine ⟨⟨j + 1, by omega, ?_, rfl, HOWN.out, HBEL.out, HSZ.out⟩, ?_⟩
          · rw [HST.out, ← HS.out]; rfl
          · show 64 - ((j : Int) + 1).toNat < 64 - (j : Int).toNat
            omega
        · have HJ := Lib.hid (show j = 64 by omega)
          have hkn : ¬ ((j : Int) < 64) := by omega
          have hSL : S = short L := by
            rw [HS.out, HJ.out, List.take_of_length_le (by rw [HLL.out]; omega)]
          have HSL := Lib.hid hSL
          clear HS hSL
          go_wp2_with fail
          clear hkn
          obtain ⟨tail, htail⟩ : ∃ t, t = [S / 256, S / 16 % 16, S % 16] := ⟨_, rfl⟩
          have HTL := Lib.hid htail
          clear htail
          go_loopw [3, 9] (fun v q wx => ∃ (i : Nat) (g c : Nat), i ≤ 3 ∧ v = .slice (some ⟨g, 0, none⟩) (64 + i) c ∧ q = .int .i64 (8 - 4 * (i : Int)) ∧ wx.ownsRow F 3 1 v (64 + i) (numV (L ++ tail.take i)) ∧ Below w.heap.size w wx ∧ F ≤ wx.heap.size) (fun _ q _ => (intOf q + 4).toNat)
          case atStart => exact ⟨0, g, c, by omega, rfl, rfl, by simpa using HOWN.out, HBEL.out, HSZ.out⟩
          case round =>
            clear HOWN HBEL HSZ
            obtain ⟨i, g1, c1, hi, rfl, rfl, hown, hbel, hsz⟩ := hrel
            have HOWN := Lib.hid hown
            have HBEL := Lib.hid hbel
            have HSZ := Lib.hid hsz
            clear hown hbel hsz
            have e0 : bits .and .i64 (S : Int) 15 = ((S % 16 : Nat) : Int) := i64_15 S (by omega)
            have e1 : bits .and .i64 ((S : Int) / 16) 15 = ((S / 16 % 16 : Nat) : Int) := by rw [show ((S : Int) / 16) = ((S / 16 : Nat) : Int) by omega]; exact i64_15 _ (by omega)
            have e2 : bits .and .i64 ((S : Int) / 256) 15 = ((S / 256 : Nat) : Int) := by rw [show ((S : Int) / 256) = ((S / 256 : Nat) : Int) by omega, i64_15 _ (by omega)]; omega
            by_cases hi3 : i < 3
            · obtain ⟨y, hy⟩ : ∃ y, tail[i]? = some y := by rw [HTL.out]; match i, hi3 with | 0, _ => exact ⟨_, rfl⟩ | 1, _ => exact ⟨_, rfl⟩ | 2, _ => exact ⟨_, rfl⟩
              obtain ⟨sh, hsh⟩ : ∃ sh : Int, sh = 8 - 4 * (i : Int) := ⟨_, rfl⟩
              have hcase : (i = 0 ∧ y = S / 256) ∨ (i = 1 ∧ y = S / 16 % 16) ∨ (i = 2 ∧ y = S % 16) := by
                rw [HTL.out] at hy
                match i, hi3, hy with
                | 0, _, hy => left; exact ⟨rfl, (by simpa using hy.symm)⟩
                | 1, _, hy => right; left; exact ⟨rfl, (by simpa using hy.symm)⟩
                | 2, _, hy => right; right; exact ⟨rfl, (by simpa using hy.symm)⟩
              have HTT : Hid (tail.take (i + 1) = tail.take i ++ [y]) := by
                show _ = _
                obtain ⟨hk, rfl⟩ := List.getElem?_eq_some_iff.mp hy
                exact List.take_succ_eq_append_getElem hk
              have HY := Lib.hid hy
              clear hy
              rcases hcase with ⟨rfl, rfl⟩ | ⟨rfl, rfl⟩ | ⟨rfl, rfl⟩
              all_goals
                go_wp2_with (at_builtin; refine wpList_appendV rfl _ _ rfl Tryd.underlying25 (.int .i64 0) 1 info_int rfl (by decide) (numV [_]) 1 _ rfl rfl HOWN.out rfl rfl (numV_one _) HBEL.out hFw HSZ.out rfl (by omega) (by omega) (by omega) ?_; intro g' c' w' hg' hown' hb' hsz' hgr'; have HOWN' := Lib.hid hown'; have HB' := Lib.hid hb'; have HSZ' := Lib.hid hsz'; clear hown' hb' hsz' hgr')
              · have e := HTT.out
                simp only [Nat.reduceAdd] at e
                refine ⟨⟨1, g', c', by omega, rfl, rfl, ?_, HB'.out, Nat.le_trans HSZ.out HSZ'.out⟩, by decide⟩
                rw [e, ← List.append_assoc, numV_append]
                exact HOWN'.out
              · have e := HTT.out
                simp only [Nat.reduceAdd] at e
                refine ⟨⟨2, g', c', by omega, rfl, rfl, ?_, HB'.out, Nat.le_trans HSZ.out HSZ'.out⟩, by decide⟩
                rw [e, ← List.append_assoc, numV_append]
                exact HOWN'.out
              · have e := HTT.out
                simp only [Nat.reduceAdd] at e
                refine ⟨⟨3, g', c', by omega, rfl, rfl, ?_, HB'.out, Nat.le_trans HSZ.out HSZ'.out⟩, by decide⟩
                rw [e, ← List.append_assoc, numV_append]
                exact HOWN'.out
            · have HI := Lib.hid (show i = 3 by omega)
              obtain rfl : i = 3 := by omega
              have hown := HOWN.out
              rw [show L ++ tail.take 3 = digs (dig s) by rw [HTL.out, HSL.out, HL.out]; rfl] at hown
              have HOWN2 := Lib.hid hown
              clear hown HOWN
              go_wp2
              go_ret
              exact ⟨g1, c1, rfl, ownsRow_le' HOWN2.out hFw, HBEL.out⟩
end Go.Proofs.YtmkeifhfjhknjaaDoor
