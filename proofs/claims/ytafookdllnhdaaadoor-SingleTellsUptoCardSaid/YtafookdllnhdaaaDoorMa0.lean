/- Plain definitions and lemmas: SHA-256 as a function on lists of bytes. No program in sight. -/
import Derived.Laws.BitsAllLaws
import Derived.Laws.BitsLemmas
import Derived.Below
import Derived.WalkKit
import Derived.Lib.Hide
import Derived.Deep.OwnRows
import Derived.Deep.Draws
import Derived.Laws.IdiomStrings
import Derived.Laws.CopyOwn
namespace Go.Scr
open Go.RowKit
set_option linter.unusedVariables false

/-- turned right by n bits, of 32 -/
def ror (x n : Nat) : Nat := ((x <<< (32 - n)) % 4294967296) ||| (x >>> n)
def ss1 (x : Nat) : Nat := (ror x 17 ^^^ ror x 19) ^^^ (x >>> 10)
def ss0 (x : Nat) : Nat := (ror x 7 ^^^ ror x 18) ^^^ (x >>> 3)
def bs1 (e : Nat) : Nat := (ror e 6 ^^^ ror e 11) ^^^ ror e 25
def bs0 (a : Nat) : Nat := (ror a 2 ^^^ ror a 13) ^^^ ror a 22
def chs (e f g : Nat) : Nat := (e &&& f) ^^^ ((e ^^^ 4294967295) &&& g)
def maj (a b c : Nat) : Nat := ((a &&& b) ^^^ (a &&& c)) ^^^ (b &&& c)

theorem ror_lt (x n : Nat) (hx : x < 4294967296) : ror x n < 4294967296 :=
  Nat.or_lt_two_pow (n := 32) (Nat.mod_lt _ (by omega)) (Nat.lt_of_le_of_lt (Nat.shiftRight_le x n) hx)
theorem shr_lt (x n : Nat) (hx : x < 4294967296) : x >>> n < 4294967296 := Nat.lt_of_le_of_lt (Nat.shiftRight_le x n) hx
theorem xor_lt {a b : Nat} (ha : a < 4294967296) (hb : b < 4294967296) : a ^^^ b < 4294967296 := Nat.xor_lt_two_pow (n := 32) ha hb
theorem and_lt {a b : Nat} (ha : a < 4294967296) : a &&& b < 4294967296 := Nat.lt_of_le_of_lt Nat.and_le_left ha
theorem ss1_lt (x : Nat) (hx : x < 4294967296) : ss1 x < 4294967296 := xor_lt (xor_lt (ror_lt _ _ hx) (ror_lt _ _ hx)) (shr_lt _ _ hx)
theorem ss0_lt (x : Nat) (hx : x < 4294967296) : ss0 x < 4294967296 := xor_lt (xor_lt (ror_lt _ _ hx) (ror_lt _ _ hx)) (shr_lt _ _ hx)
theorem bs1_lt (x : Nat) (hx : x < 4294967296) : bs1 x < 4294967296 := xor_lt (xor_lt (ror_lt _ _ hx) (ror_lt _ _ hx)) (ror_lt _ _ hx)
theorem bs0_lt (x : Nat) (hx : x < 4294967296) : bs0 x < 4294967296 := xor_lt (xor_lt (ror_lt _ _ hx) (ror_lt _ _ hx)) (ror_lt _ _ hx)
theorem not_lt {e : Nat} (he : e < 4294967296) : e ^^^ 4294967295 < 4294967296 := xor_lt he (by omega)
theorem chs_lt (e f g : Nat) (he : e < 4294967296) : chs e f g < 4294967296 := xor_lt (and_lt he) (and_lt (not_lt he))
theorem maj_lt (a b c : Nat) (ha : a < 4294967296) (hb : b < 4294967296) : maj a b c < 4294967296 := xor_lt (xor_lt (and_lt ha) (and_lt ha)) (and_lt hb)

theorem rot_count (n : Nat) (hn : 1 ≤ n) (hn' : n ≤ 31) : bits .and .u64 (IntKind.u64.wrap (-(n : Int))) 31 = 32 - (n : Int) := by
  have h : ∀ m : Fin 32, 1 ≤ m.val → bits .and .u64 (IntKind.u64.wrap (-(m.val : Int))) 31 = 32 - (m.val : Int) := by decide
  exact h ⟨n, by omega⟩ hn
theorem rot_word (x n : Nat) (hx : x < 4294967296) (hn : 1 ≤ n) (hn' : n ≤ 31) :
    bits .or .u32 ((x : Int) * 2 ^ (32 - n) % 4294967296) ((x : Int) / 2 ^ (32 - (32 - n))) = ((ror x n : Nat) : Int) := by
  have e2 : 32 - (32 - n) = n := by omega
  have a1 : ((x : Int) * 2 ^ (32 - n)) % 4294967296 = (((x <<< (32 - n)) % 4294967296 : Nat) : Int) := by
    rw [Nat.shiftLeft_eq]; simp
  have a2 : (x : Int) / 2 ^ n = ((x >>> n : Nat) : Int) := by rw [Nat.shiftRight_eq_div_pow]; simp
  rw [e2, a1, a2, u32_or_nat _ _ (Nat.mod_lt _ (by omega)) (shr_lt _ _ hx)]
  rfl
theorem ret_int {k : IntKind} {a b : Int} (h : a = b) : Ending.returned (.int k a) = .returned (.int k b) := by rw [h]

/-- the t-th word of a block of bytes -/
def word (bs : List UInt8) (t : Nat) : Nat :=
  ((((bs.getD (4 * t) 0).toNat <<< 24) ||| ((bs.getD (4 * t + 1) 0).toNat <<< 16)) ||| ((bs.getD (4 * t + 2) 0).toNat <<< 8)) ||| (bs.getD (4 * t + 3) 0).toNat
/-- the schedule: 16 words, then n more -/
def schl (bs : List UInt8) : Nat → List Nat
  | 0 => (List.range 16).map (word bs)
  | n + 1 => let l := schl bs n
    l ++ [(ss1 (l.getD (16 + n - 2) 0) + l.getD (16 + n - 7) 0 + ss0 (l.getD (16 + n - 15) 0) + l.getD (16 + n - 16) 0) % 4294967296]
def wv (bs : List UInt8) (t : Nat) : Nat := (schl bs 48).getD t 0
theorem schl_length (bs : List UInt8) (n : Nat) : (schl bs n).length = 16 + n := by
  induction n with
  | zero => simp [schl]
  | succ n ih => simp [schl, ih]; omega
theorem schl_more (bs : List UInt8) (n m t : Nat) (ht : t < 16 + n) : (schl bs (n + m)).getD t 0 = (schl bs n).getD t 0 := by
  induction m with
  | zero => rfl
  | succ m ih =>
    rw [← ih]
    show (schl bs (n + m + 1)).getD t 0 = _
    have hl := schl_length bs (n + m)
    rw [schl]
    simp only [List.getD_eq_getElem?_getD]
    rw [List.getElem?_append_left (by omega)]
theorem u32_small (a : Nat) (h : a < 4294967296) : IntKind.u32.wrap (a : Int) = (a : Int) := by rw [IntKind.wrap_u32']; omega
theorem u32_shl24 (a : Nat) (h : a < 256) : IntKind.u32.wrap ((a : Int) * 16777216) = ((a <<< 24 : Nat) : Int) := by
  rw [IntKind.wrap_u32', Nat.shiftLeft_eq]; omega
theorem u32_shl16 (a : Nat) (h : a < 256) : IntKind.u32.wrap ((a : Int) * 65536) = ((a <<< 16 : Nat) : Int) := by
  rw [IntKind.wrap_u32', Nat.shiftLeft_eq]; omega
theorem u32_shl8 (a : Nat) (h : a < 256) : IntKind.u32.wrap ((a : Int) * 256) = ((a <<< 8 : Nat) : Int) := by
  rw [IntKind.wrap_u32', Nat.shiftLeft_eq]; omega
theorem byte_shl (a n : Nat) (h : a < 256) (hn : n ≤ 24) : a <<< n < 4294967296 := by
  rw [Nat.shiftLeft_eq]
  calc a * 2 ^ n < 256 * 2 ^ n := Nat.mul_lt_mul_of_pos_right h (Nat.two_pow_pos n)
    _ = 2 ^ (8 + n) := by rw [Nat.pow_add]
    _ ≤ 2 ^ 32 := Nat.pow_le_pow_right (by omega) (by omega)
theorem or_lt {a b : Nat} (ha : a < 4294967296) (hb : b < 4294967296) : a ||| b < 4294967296 := Nat.or_lt_two_pow (n := 32) ha hb
theorem byte_lt (c : UInt8) : c.toNat < 256 := c.toNat_lt
theorem word_lt (bs : List UInt8) (t : Nat) : word bs t < 4294967296 := by
  have h : ∀ (c : UInt8) (n : Nat), n ≤ 24 → c.toNat <<< n < 2 ^ 32 := fun c n hn => by
    have := byte_lt c
    rw [Nat.shiftLeft_eq]
    calc c.toNat * 2 ^ n < 256 * 2 ^ n := Nat.mul_lt_mul_of_pos_right this (Nat.two_pow_pos n)
      _ = 2 ^ (8 + n) := by rw [Nat.pow_add]
      _ ≤ 2 ^ 32 := Nat.pow_le_pow_right (by omega) (by omega)
  unfold word
  exact Nat.or_lt_two_pow (n := 32) (Nat.or_lt_two_pow (Nat.or_lt_two_pow (h _ 24 (by omega)) (h _ 16 (by omega))) (h _ 8 (by omega))) (by have := byte_lt (bs.getD (4 * t + 3) 0); omega)
theorem wv_lo (bs : List UInt8) (t : Nat) (ht : t < 16) : wv bs t = word bs t := by
  unfold wv
  rw [show (48 : Nat) = 0 + 48 from rfl, schl_more bs 0 48 t (by omega)]
  simp [schl, List.getD_eq_getElem?_getD, ht]
theorem wv_hi (bs : List UInt8) (t : Nat) (ht : 16 ≤ t) (ht' : t < 64) :
    wv bs t = (ss1 (wv bs (t - 2)) + wv bs (t - 7) + ss0 (wv bs (t - 15)) + wv bs (t - 16)) % 4294967296 := by
  obtain ⟨n, rfl⟩ : ∃ n, t = 16 + n := ⟨t - 16, by omega⟩
  have hl := schl_length bs n
  have e : ∀ s, s < 16 + n → wv bs s = (schl bs n).getD s 0 := fun s hs => by
    unfold wv
    rw [show 48 = n + (48 - n) from by omega, schl_more bs n (48 - n) s hs]
  have e' : wv bs (16 + n) = (schl bs (n + 1)).getD (16 + n) 0 := by
    unfold wv
    rw [show 48 = (n + 1) + (48 - (n + 1)) from by omega, schl_more bs (n + 1) _ _ (by omega)]
  rw [e', e _ (by omega), e _ (by omega), e _ (by omega), e _ (by omega)]
  rw [schl]
  simp only [List.getD_eq_getElem?_getD]
  rw [List.getElem?_append_right (by omega), hl]
  simp
theorem wv_lt (bs : List UInt8) (t : Nat) : wv bs t < 4294967296 := by
  rcases Nat.lt_or_ge t 16 with h | h
  · rw [wv_lo bs t h]; exact word_lt bs t
  · rcases Nat.lt_or_ge t 64 with h' | h'
    · rw [wv_hi bs t h h']; exact Nat.mod_lt _ (by omega)
    · unfold wv
      rw [List.getD_eq_getElem?_getD, List.getElem?_eq_none (by rw [schl_length]; omega)]
      simp

/-! ### names for what the walk reckons, so that it leaves them alone -/
def xo (a b : Nat) : Nat := a ^^^ b
def orr (a b : Nat) : Nat := a ||| b
def an (a b : Nat) : Nat := a &&& b
def sh (a n : Nat) : Nat := a >>> n
def shl (a n : Nat) : Nat := a <<< n
def ad (a b : Nat) : Nat := (a + b) % 4294967296
def inv (e : Nat) : Nat := e ^^^ 4294967295
theorem u32_xo (a b : Nat) (ha : a < 4294967296) (hb : b < 4294967296) : bits .xor .u32 (a : Int) (b : Int) = ((xo a b : Nat) : Int) := u32_xor_nat a b ha hb
theorem u32_orr (a b : Nat) (ha : a < 4294967296) (hb : b < 4294967296) : bits .or .u32 (a : Int) (b : Int) = ((orr a b : Nat) : Int) := u32_or_nat a b ha hb
theorem u32_an (a b : Nat) (ha : a < 4294967296) (hb : b < 4294967296) : bits .and .u32 (a : Int) (b : Int) = ((an a b : Nat) : Int) := u32_and_nat a b ha hb
theorem u32_ad (a b : Nat) : IntKind.u32.wrap ((a : Int) + (b : Int)) = ((ad a b : Nat) : Int) := by rw [IntKind.wrap_u32']; unfold ad; omega
theorem u32_s24 (a : Nat) (h : a < 256) : IntKind.u32.wrap ((a : Int) * 16777216) = ((shl a 24 : Nat) : Int) := u32_shl24 a h
theorem u32_s16 (a : Nat) (h : a < 256) : IntKind.u32.wrap ((a : Int) * 65536) = ((shl a 16 : Nat) : Int) := u32_shl16 a h
theorem u32_s8 (a : Nat) (h : a < 256) : IntKind.u32.wrap ((a : Int) * 256) = ((shl a 8 : Nat) : Int) := u32_shl8 a h
theorem u32_r10 (a : Nat) : (a : Int) / 1024 = ((sh a 10 : Nat) : Int) := by unfold sh; rw [Nat.shiftRight_eq_div_pow]; omega
theorem u32_r3 (a : Nat) : (a : Int) / 8 = ((sh a 3 : Nat) : Int) := by unfold sh; rw [Nat.shiftRight_eq_div_pow]; omega
theorem xo_lt {a b : Nat} (ha : a < 4294967296) (hb : b < 4294967296) : xo a b < 4294967296 := xor_lt ha hb
theorem orr_lt {a b : Nat} (ha : a < 4294967296) (hb : b < 4294967296) : orr a b < 4294967296 := or_lt ha hb
theorem an_lt {a b : Nat} (ha : a < 4294967296) : an a b < 4294967296 := and_lt ha
theorem sh_lt {a n : Nat} (ha : a < 4294967296) : sh a n < 4294967296 := shr_lt _ _ ha
theorem ad_lt (a b : Nat) : ad a b < 4294967296 := Nat.mod_lt _ (by omega)
theorem inv_lt {a : Nat} (ha : a < 4294967296) : inv a < 4294967296 := not_lt ha
theorem shl_lt (a n : Nat) (h : a < 256) (hn : n ≤ 24) : shl a n < 4294967296 := byte_shl a n h hn
theorem wv_step (bs : List UInt8) (t : Nat) (ht : 16 ≤ t) (ht' : t < 64) :
    wv bs t = ad (ad (ad (ss1 (wv bs (t - 2))) (wv bs (t - 7))) (ss0 (wv bs (t - 15)))) (wv bs (t - 16)) := by
  rw [wv_hi bs t ht ht']; unfold ad; omega

/-! ### the rounds -/
def Ks : List Nat := [
  1116352408, 1899447441, 3049323471, 3921009573, 961987163, 1508970993, 2453635748, 2870763221,
  3624381080, 310598401, 607225278, 1426881987, 1925078388, 2162078206, 2614888103, 3248222580,
  3835390401, 4022224774, 264347078, 604807628, 770255983, 1249150122, 1555081692, 1996064986,
  2554220882, 2821834349, 2952996808, 3210313671, 3336571891, 3584528711, 113926993, 338241895,
  666307205, 773529912, 1294757372, 1396182291, 1695183700, 1986661051, 2177026350, 2456956037,
  2730485921, 2820302411, 3259730800, 3345764771, 3516065817, 3600352804, 4094571909, 275423344,
  430227734, 506948616, 659060556, 883997877, 958139571, 1322822218, 1537002063, 1747873779,
  1955562222, 2024104815, 2227730452, 2361852424, 2428436474, 2756734187, 3204031479, 3329325298]
def Hs : List Nat := [1779033703, 3144134277, 1013904242, 2773480762, 1359893119, 2600822924, 528734635, 1541459225]
def rx (e f g h k w : Nat) : Nat := ad (ad (ad (ad h (bs1 e)) (chs e f g)) k) w
def ry (a b c : Nat) : Nat := ad (bs0 a) (maj a b c)
/-- one round -/
def rnd (k w : Nat) : List Nat → List Nat
  | [a, b, c, d, e, f, g, h] => [ad (rx e f g h k w) (ry a b c), a, b, c, ad d (rx e f g h k w), e, f, g]
  | l => l
def rounds (ws s : List Nat) : Nat → List Nat
  | 0 => s
  | n + 1 => rnd (Ks.getD n 0) (ws.getD n 0) (rounds ws s n)
/-- a state behind one block -/
def blockN (s : List Nat) (bs : List UInt8) : List Nat := List.zipWith ad s (rounds (schl bs 48) s 64)
def St (s : List Nat) : Prop := s.length = 8 ∧ ∀ x ∈ s, x < 4294967296
theorem St.open_ {s : List Nat} (h : St s) : ∃ a b c d e f g i, s = [a, b, c, d, e, f, g, i] ∧ a < 4294967296 ∧ b < 4294967296 ∧ c < 4294967296 ∧ d < 4294967296 ∧ e < 4294967296 ∧ f < 4294967296 ∧ g < 4294967296 ∧ i < 4294967296 := by
  obtain ⟨hl, hx⟩ := h
  match s, hl with
  | [a, b, c, d, e, f, g, i], _ => exact ⟨a, b, c, d, e, f, g, i, rfl, hx a (by simp), hx b (by simp), hx c (by simp), hx d (by simp), hx e (by simp), hx f (by simp), hx g (by simp), hx i (by simp)⟩
theorem St.mk_ {a b c d e f g i : Nat} (ha : a < 4294967296) (hb : b < 4294967296) (hc : c < 4294967296) (hd : d < 4294967296) (he : e < 4294967296) (hf : f < 4294967296) (hg : g < 4294967296) (hi : i < 4294967296) : St [a, b, c, d, e, f, g, i] :=
  ⟨rfl, fun x hx => by
    simp only [List.mem_cons, List.not_mem_nil, or_false] at hx
    rcases hx with rfl | rfl | rfl | rfl | rfl | rfl | rfl | rfl <;> assumption⟩
theorem rnd_St (k w : Nat) {s : List Nat} (h : St s) : St (rnd k w s) := by
  obtain ⟨a, b, c, d, e, f, g, i, rfl, h1, h2, h3, h4, h5, h6, h7, h8⟩ := h.open_
  exact St.mk_ (ad_lt _ _) h1 h2 h3 (ad_lt _ _) h5 h6 h7
theorem rounds_St (ws : List Nat) {s : List Nat} (h : St s) (n : Nat) : St (rounds ws s n) := by
  induction n with
  | zero => exact h
  | succ n ih => exact rnd_St _ _ ih
theorem blockN_St (bs : List UInt8) {s : List Nat} (h : St s) : St (blockN s bs) := by
  have h2 := rounds_St (schl bs 48) h 64
  unfold blockN
  generalize rounds (schl bs 48) s 64 = t at h2
  obtain ⟨a, b, c, d, e, f, g, i, rfl, _⟩ := h.open_
  obtain ⟨a', b', c', d', e', f', g', i', rfl, _⟩ := h2.open_
  exact St.mk_ (ad_lt _ _) (ad_lt _ _) (ad_lt _ _) (ad_lt _ _) (ad_lt _ _) (ad_lt _ _) (ad_lt _ _) (ad_lt _ _)
theorem Ks_lt (n : Nat) : Ks.getD n 0 < 4294967296 := by
  rcases Nat.lt_or_ge n 64 with h | h
  · have : ∀ m : Fin 64, Ks.getD m.val 0 < 4294967296 := by decide
    exact this ⟨n, h⟩
  · rw [List.getD_eq_getElem?_getD, List.getElem?_eq_none (by simp [Ks]; omega)]; simp

/-! ### a hasher's cells -/
def hcells (st : List Nat) (rest : List UInt8) (n : Nat) : Array Value :=
  (st.map (fun x : Nat => Value.int .u32 (x : Int)) ++ (rest.map (fun c => Value.int .u8 (c.toNat : Int)) ++ [Value.int .i64 (n : Int)])).toArray
theorem hcells_st {st : List Nat} {rest : List UInt8} {n j : Nat} (hl : st.length = 8) (hj : j < 8) : (hcells st rest n)[j]? = some (.int .u32 ((st.getD j 0 : Nat) : Int)) := by
  unfold hcells
  rw [List.getElem?_toArray, List.getElem?_append_left (by simp; omega), List.getElem?_map, List.getD_eq_getElem?_getD, List.getElem?_eq_getElem (by omega)]
  simp
theorem hcells_rest {st : List Nat} {rest : List UInt8} {n j : Nat} (hl : st.length = 8) (hr : rest.length = 64) (hj : j < 64) : (hcells st rest n)[8 + j]? = some (.int .u8 ((rest.getD j 0).toNat : Int)) := by
  unfold hcells
  rw [List.getElem?_toArray, List.getElem?_append_right (by simp; omega), List.length_map, hl, show 8 + j - 8 = j from by omega, List.getElem?_append_left (by simp; omega), List.getElem?_map, List.getD_eq_getElem?_getD, List.getElem?_eq_getElem (by omega)]
  simp
theorem hcells_n {st : List Nat} {rest : List UInt8} {n : Nat} (hl : st.length = 8) (hr : rest.length = 64) : (hcells st rest n)[72]? = some (.int .i64 (n : Int)) := by
  unfold hcells
  rw [List.getElem?_toArray, List.getElem?_append_right (by simp; omega), List.length_map, hl, List.getElem?_append_right (by simp; omega)]
  simp [hr]
theorem hcells_set {st : List Nat} {rest : List UInt8} {n j x : Nat} (hl : st.length = 8) (hj : j < 8) : (hcells st rest n).setIfInBounds j (.int .u32 (x : Int)) = hcells (st.set j x) rest n := by
  unfold hcells
  rw [List.setIfInBounds_toArray, List.set_append_left _ _ (by simp; omega), List.map_set]
theorem hcells_setn {st : List Nat} {rest : List UInt8} {n m : Nat} (hl : st.length = 8) (hr : rest.length = 64) : (hcells st rest n).setIfInBounds 72 (.int .i64 (m : Int)) = hcells st rest m := by
  unfold hcells
  rw [List.setIfInBounds_toArray, List.set_append_right _ _ (by simp; omega), List.length_map, hl, List.set_append_right _ _ (by simp; omega)]
  simp [hr]
/-- the first k words of the sums, then the old ones -/
def upd8 (s v : List Nat) (k : Nat) : List Nat := (List.zipWith ad s v).take k ++ s.drop k
theorem upd8_length {s v : List Nat} (hs : s.length = 8) (hv : v.length = 8) {k : Nat} (hk : k ≤ 8) : (upd8 s v k).length = 8 := by simp [upd8, hs, hv]; omega
theorem upd8_get {s v : List Nat} (hs : s.length = 8) (hv : v.length = 8) {k : Nat} (hk : k < 8) : (upd8 s v k).getD k 0 = s.getD k 0 := by
  unfold upd8
  rw [List.getD_eq_getElem?_getD, List.getElem?_append_right (by simp; omega), List.getD_eq_getElem?_getD]
  simp [hs, hv, show min k 8 = k by omega]
theorem upd8_step {s v : List Nat} (hs : s.length = 8) (hv : v.length = 8) {k : Nat} (hk : k < 8) : (upd8 s v k).set k (ad (s.getD k 0) (v.getD k 0)) = upd8 s v (k + 1) := by
  unfold upd8
  have hz : (List.zipWith ad s v).length = 8 := by simp [hs, hv]
  rw [List.set_append_right _ _ (by simp [hz]; omega), List.length_take, hz, show k - min k 8 = 0 by omega, List.take_succ_eq_append_getElem (by omega), List.append_assoc]
  congr 1
  rw [List.drop_eq_getElem_cons (by omega : k < s.length), List.set_cons_zero]
  simp [List.getD_eq_getElem?_getD, hs, hv, hk]
theorem upd8_zero (s v : List Nat) : upd8 s v 0 = s := by simp [upd8]
theorem upd8_all {s v : List Nat} (hs : s.length = 8) (hv : v.length = 8) : upd8 s v 8 = List.zipWith ad s v := by
  unfold upd8
  rw [List.take_of_length_le (by simp [hs, hv]), List.drop_eq_nil_of_le (by omega), List.append_nil]
theorem u32_inv (e : Nat) (he : e < 4294967296) : bits .xor .u32 (if IntKind.u32.signed = true then -1 else IntKind.u32.max) (e : Int) = ((inv e : Nat) : Int) := by
  have h : (if IntKind.u32.signed = true then -1 else IntKind.u32.max) = ((4294967295 : Nat) : Int) := by decide
  rw [h, u32_xor_nat 4294967295 e (by omega) he, Nat.xor_comm]
  rfl

/-! ### many blocks; filling; the digest -/
def blocks : Nat → List Nat → List UInt8 → List Nat
  | 0, s, _ => s
  | n + 1, s, m => blocks n (blockN s (m.take 64)) (m.drop 64)
def absorb (m : List UInt8) : List Nat := blocks (m.length / 64) Hs m
theorem Hs_St : St Hs := ⟨rfl, by decide⟩
theorem blocks_St (n : Nat) {s : List Nat} (h : St s) (m : List UInt8) : St (blocks n s m) := by
  induction n generalizing s m with
  | zero => exact h
  | succ n ih => exact ih (blockN_St _ h) _
theorem absorb_St (m : List UInt8) : St (absorb m) := blocks_St _ Hs_St _
theorem blocks_end (n : Nat) (s : List Nat) (m : List UInt8) : blocks (n + 1) s m = blockN (blocks n s m) ((m.drop (64 * n)).take 64) := by
  induction n generalizing s m with
  | zero => rfl
  | succ n ih =>
    rw [show blocks (n + 1 + 1) s m = blocks (n + 1) (blockN s (m.take 64)) (m.drop 64) from rfl, ih]
    rw [List.drop_drop, show 64 + 64 * n = 64 * (n + 1) by omega]
    rfl
theorem blocks_more (n : Nat) (s : List Nat) (m x : List UInt8) (h : 64 * n ≤ m.length) : blocks n s (m ++ x) = blocks n s m := by
  induction n generalizing s m with
  | zero => rfl
  | succ n ih =>
    show blocks n (blockN s ((m ++ x).take 64)) ((m ++ x).drop 64) = blocks n (blockN s (m.take 64)) (m.drop 64)
    rw [List.take_append_of_le_length (by omega), List.drop_append_of_le_length (by omega), ih _ _ (by rw [List.length_drop]; omega)]
theorem absorb_same (m x : List UInt8) (h : m.length % 64 + x.length < 64) : absorb (m ++ x) = absorb m := by
  unfold absorb
  rw [List.length_append, show (m.length + x.length) / 64 = m.length / 64 by omega, blocks_more _ _ _ _ (by omega)]
theorem absorb_block (m x : List UInt8) (h : m.length % 64 + x.length = 64) : absorb (m ++ x) = blockN (absorb m) (m.drop (m.length / 64 * 64) ++ x) := by
  unfold absorb
  rw [List.length_append, show (m.length + x.length) / 64 = m.length / 64 + 1 by omega, blocks_end, blocks_more _ _ _ _ (by omega)]
  congr 1
  rw [List.drop_append_of_le_length (by omega), List.take_of_length_le (by simp; omega), Nat.mul_comm]
def zer (L : Nat) : Nat := (119 - L % 64) % 64
def be8 (n : Nat) : List UInt8 := (List.range 8).map fun j => UInt8.ofNat (n / 2 ^ (56 - 8 * j))
def be4 (x : Nat) : List UInt8 := [UInt8.ofNat (x / 16777216), UInt8.ofNat (x / 65536), UInt8.ofNat (x / 256), UInt8.ofNat x]
/-- what stands behind a text of L bytes -/
def filling (L : Nat) : List UInt8 := 128 :: List.replicate (zer L) 0 ++ be8 (8 * L)
/-- SHA-256 -/
def sha (m : List UInt8) : List UInt8 := (absorb (m ++ filling m.length)).flatMap be4
theorem be8_length (n : Nat) : (be8 n).length = 8 := by simp [be8]
theorem be8_take (n j : Nat) (hj : j < 8) : (be8 n).take (j + 1) = (be8 n).take j ++ [UInt8.ofNat (n / 2 ^ (56 - 8 * j))] := by
  rw [List.take_succ_eq_append_getElem (by rw [be8_length]; exact hj)]
  simp [be8]
theorem filling_length (L : Nat) : (filling L).length = 9 + zer L := by simp [filling, be8_length]; omega
theorem zer_lt (L : Nat) : zer L < 64 := Nat.mod_lt _ (by omega)
theorem zer_more (L k : Nat) (h : k < zer L) : (L + k + 1) % 64 ≠ 56 := by unfold zer at h; omega
theorem zer_done (L : Nat) : (L + zer L + 1) % 64 = 56 := by unfold zer; omega
/-- the buffer behind a further piece -/
def fillIn (rest : List UInt8) (at_ : Nat) (x : List UInt8) : List UInt8 := rest.take at_ ++ x ++ rest.drop (at_ + x.length)
theorem fillIn_length {rest : List UInt8} {at_ : Nat} {x : List UInt8} (hr : rest.length = 64) (h : at_ + x.length ≤ 64) : (fillIn rest at_ x).length = 64 := by
  simp [fillIn, hr]; omega
theorem fillIn_take {rest : List UInt8} {at_ : Nat} {x : List UInt8} (hr : rest.length = 64) (h : at_ + x.length ≤ 64) : (fillIn rest at_ x).take (at_ + x.length) = rest.take at_ ++ x := by
  unfold fillIn
  rw [List.take_append_of_le_length (by simp; omega), List.take_of_length_le (by simp; omega)]
theorem hcells_copy {st : List Nat} {rest : List UInt8} {n at_ : Nat} {x : List UInt8} (hl : st.length = 8) (hr : rest.length = 64) (h : at_ + x.length ≤ 64) :
    ((hcells st rest n).toList.take (8 + at_) ++ x.map (fun c => Value.int .u8 (c.toNat : Int)) ++ (hcells st rest n).toList.drop (8 + at_ + x.length)).toArray = hcells st (fillIn rest at_ x) n := by
  unfold hcells fillIn
  simp only [List.map_append, List.map_take, List.map_drop]
  rw [List.take_append, List.drop_append]
  simp only [List.length_map, hl]
  rw [List.take_of_length_le (by simp; omega), List.drop_eq_nil_of_le (by simp; omega), show 8 + at_ - 8 = at_ by omega, show 8 + at_ + x.length - 8 = at_ + x.length by omega]
  rw [List.take_append_of_le_length (by simp; omega), List.drop_append_of_le_length (by simp; omega)]
  simp

/-! ### the same by ints -/
def pl (a b : Nat) : Nat := a + b
theorem wrap_i64_id (n : Int) (h0 : -9223372036854775808 ≤ n) (h1 : n ≤ 9223372036854775807) : IntKind.i64.wrap n = n := by
  rw [IntKind.wrap_i64]; omega
theorem ofInt_i64 (a : Nat) (ha : a < 9223372036854775808) : (BitVec.ofInt 64 (a : Int)).toNat = a := by
  rw [BitVec.ofInt_natCast, BitVec.toNat_ofNat]; exact Nat.mod_eq_of_lt (by omega)
theorem i64_an (a b : Nat) (ha : a < 9223372036854775808) (hb : b < 9223372036854775808) : bits .and .i64 (a : Int) (b : Int) = ((an a b : Nat) : Int) := by
  have hx : a &&& b < 2 ^ 63 := Nat.and_lt_two_pow _ (by omega)
  show IntKind.i64.wrap ((BitVec.ofInt 64 (a : Int) &&& BitVec.ofInt 64 (b : Int)).toNat : Int) = _
  rw [BitVec.toNat_and, ofInt_i64 a ha, ofInt_i64 b hb]
  exact wrap_i64_id _ (by omega) (by omega)
theorem i64_orr (a b : Nat) (ha : a < 9223372036854775808) (hb : b < 9223372036854775808) : bits .or .i64 (a : Int) (b : Int) = ((orr a b : Nat) : Int) := by
  have hx : a ||| b < 2 ^ 63 := Nat.or_lt_two_pow (by omega) (by omega)
  show IntKind.i64.wrap ((BitVec.ofInt 64 (a : Int) ||| BitVec.ofInt 64 (b : Int)).toNat : Int) = _
  rw [BitVec.toNat_or, ofInt_i64 a ha, ofInt_i64 b hb]
  exact wrap_i64_id _ (by omega) (by omega)
theorem i64_xo (a b : Nat) (ha : a < 9223372036854775808) (hb : b < 9223372036854775808) : bits .xor .i64 (a : Int) (b : Int) = ((xo a b : Nat) : Int) := by
  have hx : a ^^^ b < 2 ^ 63 := Nat.xor_lt_two_pow (by omega) (by omega)
  show IntKind.i64.wrap ((BitVec.ofInt 64 (a : Int) ^^^ BitVec.ofInt 64 (b : Int)).toNat : Int) = _
  rw [BitVec.toNat_xor, ofInt_i64 a ha, ofInt_i64 b hb]
  exact wrap_i64_id _ (by omega) (by omega)
theorem i64_pl (a b : Nat) (h : a + b < 9223372036854775808) : IntKind.i64.wrap ((a : Int) + (b : Int)) = ((pl a b : Nat) : Int) := by
  rw [wrap_i64_id _ (by omega) (by omega)]; unfold pl; omega
theorem i64_byte (a : Nat) (h : a < 256) : IntKind.i64.wrap (a : Int) = (a : Int) := wrap_i64_id _ (by omega) (by omega)
theorem i64_s24 (a : Nat) (h : a < 256) : IntKind.i64.wrap ((a : Int) * 16777216) = ((shl a 24 : Nat) : Int) := by
  rw [wrap_i64_id _ (by omega) (by omega)]; unfold shl; rw [Nat.shiftLeft_eq]; omega
theorem i64_s16 (a : Nat) (h : a < 256) : IntKind.i64.wrap ((a : Int) * 65536) = ((shl a 16 : Nat) : Int) := by
  rw [wrap_i64_id _ (by omega) (by omega)]; unfold shl; rw [Nat.shiftLeft_eq]; omega
theorem i64_s8 (a : Nat) (h : a < 256) : IntKind.i64.wrap ((a : Int) * 256) = ((shl a 8 : Nat) : Int) := by
  rw [wrap_i64_id _ (by omega) (by omega)]; unfold shl; rw [Nat.shiftLeft_eq]; omega
theorem i64_low (a : Nat) (h : a < 9223372036854775808) : bits .and .i64 (a : Int) 4294967295 = ((a % 4294967296 : Nat) : Int) := by
  have e := i64_an a 4294967295 h (by omega)
  rw [show ((4294967295 : Nat) : Int) = 4294967295 from rfl] at e
  rw [e]
  unfold an
  rw [show 4294967295 = 2 ^ 32 - 1 from rfl, Nat.and_two_pow_sub_one_eq_mod]
theorem ror_low (x n : Nat) (hx : x < 4294967296) (hn : 1 ≤ n) (hn' : n ≤ 31) :
    bits .and .i64 (bits .or .i64 ((x : Int) / 2 ^ n) ((x : Int) * 2 ^ (32 - n))) 4294967295 = ((ror x n : Nat) : Int) := by
  have a1 : (x : Int) / 2 ^ n = ((x >>> n : Nat) : Int) := by rw [Nat.shiftRight_eq_div_pow]; simp
  have a2 : (x : Int) * 2 ^ (32 - n) = ((x <<< (32 - n) : Nat) : Int) := by rw [Nat.shiftLeft_eq]; simp
  have hl : x <<< (32 - n) < 2 ^ 63 := by
    rw [Nat.shiftLeft_eq]
    calc x * 2 ^ (32 - n) < 2 ^ 32 * 2 ^ (32 - n) := Nat.mul_lt_mul_of_pos_right (by omega) (Nat.two_pow_pos _)
      _ = 2 ^ (32 + (32 - n)) := by rw [Nat.pow_add]
      _ ≤ 2 ^ 63 := Nat.pow_le_pow_right (by omega) (by omega)
  have hr := shr_lt x n hx
  rw [a1, a2, i64_orr _ _ (by omega) (by omega)]
  have ho : orr (x >>> n) (x <<< (32 - n)) < 2 ^ 63 := Nat.or_lt_two_pow (by omega) hl
  rw [i64_low _ (by omega)]
  unfold orr ror
  rw [show 4294967296 = 2 ^ 32 from rfl, Nat.or_mod_two_pow, Nat.mod_eq_of_lt (a := x >>> n) (by omega), Nat.or_comm]
theorem rx_pl (e f g i kk ww : Nat) : pl (pl (pl (pl i (bs1 e)) (chs e f g)) kk) ww % 4294967296 = rx e f g i kk ww := by unfold rx pl ad; omega
theorem rx_lt (e f g i kk ww : Nat) : rx e f g i kk ww < 4294967296 := ad_lt _ _
theorem ry_lt (a b c : Nat) : ry a b c < 4294967296 := ad_lt _ _
theorem i64_inv (e : Nat) (he : e < 4294967296) : bits .xor .i64 4294967295 (e : Int) = ((inv e : Nat) : Int) := by
  have h := i64_xo 4294967295 e (by omega) (by omega)
  rw [show ((4294967295 : Nat) : Int) = 4294967295 from rfl] at h
  rw [h]
  unfold xo inv
  rw [Nat.xor_comm]
theorem i64_low2 (a b : Nat) (ha : a < 4294967296) (hb : b < 4294967296) : bits .and .i64 ((a : Int) + (b : Int)) 4294967295 = ((ad a b : Nat) : Int) := by
  have h := i64_low (a + b) (by omega)
  rw [show ((a : Int) + (b : Int)) = ((a + b : Nat) : Int) by omega]
  exact h
theorem i64_low3 (a b : Nat) (h : a + b < 9223372036854775808) : bits .and .i64 ((pl a b : Nat) : Int) 4294967295 = ((ad a b : Nat) : Int) := i64_low (pl a b) h
theorem St.get_lt {s : List Nat} (h : St s) (j : Nat) : s.getD j 0 < 4294967296 := by
  rcases Nat.lt_or_ge j s.length with hj | hj
  · rw [List.getD_eq_getElem?_getD, List.getElem?_eq_getElem hj]; exact h.2 _ (List.getElem_mem hj)
  · rw [List.getD_eq_getElem?_getD, List.getElem?_eq_none hj]; simp

/-! ### a number by so many bytes -/
def bigN (n many : Nat) : List UInt8 := (List.range many).map fun j => UInt8.ofNat (n / 2 ^ (8 * (many - 1 - j)))
theorem bigN_length (n many : Nat) : (bigN n many).length = many := by simp [bigN]
theorem bigN_8 (n : Nat) : bigN n 8 = be8 n := by
  unfold bigN be8
  apply List.map_congr_left
  intro j hj
  rw [List.mem_range] at hj
  rw [show 8 * (8 - 1 - j) = 56 - 8 * j by omega]
theorem bigN_4 (n : Nat) : bigN n 4 = be4 n := by
  simp [bigN, be4, List.range_succ]
/-- when i bytes have been laid, from behind -/
def bigPart (n many i : Nat) : List UInt8 := List.replicate (many - i) 0 ++ (bigN n many).drop (many - i)
theorem bigPart_length (n many i : Nat) (h : i ≤ many) : (bigPart n many i).length = many := by
  unfold bigPart
  rw [List.length_append, List.length_replicate, List.length_drop, bigN_length]; omega
theorem bigPart_zero (n many : Nat) : bigPart n many 0 = List.replicate many 0 := by
  unfold bigPart
  rw [List.drop_eq_nil_of_le (by rw [bigN_length, Nat.sub_zero]; exact Nat.le_refl _), List.append_nil, Nat.sub_zero]
theorem bigPart_all (n many : Nat) : bigPart n many many = bigN n many := by simp [bigPart]
theorem bigPart_step (n many i : Nat) (h : i < many) : (bigPart n many i).set (many - 1 - i) (UInt8.ofNat (n / 2 ^ (8 * i))) = bigPart n many (i + 1) := by
  unfold bigPart
  obtain ⟨k, hk⟩ : ∃ k, many - i = k + 1 := ⟨many - i - 1, by omega⟩
  rw [hk, show many - 1 - i = k by omega, show many - (i + 1) = k by omega, List.replicate_succ']
  rw [List.append_assoc, List.set_append_right _ _ (by simp), List.length_replicate, Nat.sub_self, List.singleton_append, List.set_cons_zero]
  rw [List.drop_eq_getElem_cons (i := k) (by rw [bigN_length]; omega)]
  congr 2
  simp [bigN, show many - 1 - k = i by omega]
end Go.Scr
/- Small laws on memory: facts carried over draws; a block written; a string copied into a row. -/
namespace Go.Scr
open Go.RowKit
set_option linter.unusedVariables false

theorem cell_drewN {w : World} {p : Addr} {v : Value} (h : w.cell? p = some v) (n : Nat) : (w.drewN n).cell? p = some v := h
theorem frozen_drewN {w : World} {p : Addr} {b : Bool} (h : w.frozen? p = b) (n : Nat) : (w.drewN n).frozen? p = b := h
theorem below_drewN {B : Nat} {a w : World} (h : Below B a w) (n : Nat) : Below B a (w.drewN n) := ⟨h.os, h.tape, h.output, h.size, h.block⟩
theorem rowIs_drewN {w : World} {b : Nat} {t : TypeId} {n : Nat} {f : Nat → Value} (h : w.rowIs b t n f) (k : Nat) : (w.drewN k).rowIs b t n f := h
theorem cell_drew {w : World} {p : Addr} {v : Value} (h : w.cell? p = some v) : w.drew.cell? p = some v := h
theorem frozen_drew {w : World} {p : Addr} {b : Bool} (h : w.frozen? p = b) : w.drew.frozen? p = b := h
theorem below_drew {B : Nat} {a w : World} (h : Below B a w) : Below B a w.drew := h.drew
theorem rowIs_drew {w : World} {b : Nat} {t : TypeId} {n : Nat} {f : Nat → Value} (h : w.rowIs b t n f) : w.drew.rowIs b t n f := h
theorem only_drew {a w : World} {row : Option Nat} (h : a.grownBy w row) : a.grownBy w.drew row := ⟨h.os, h.tape, h.output, h.size, h.block⟩
theorem only_drewN {a w : World} {row : Option Nat} (h : a.grownBy w row) (n : Nat) : a.grownBy (w.drewN n) row := ⟨h.os, h.tape, h.output, h.size, h.block⟩
theorem only_refl (a : World) (row : Option Nat) : a.grownBy a row := ⟨rfl, rfl, rfl, Nat.le_refl _, fun _ _ _ => rfl⟩
theorem only_trans {a b c : World} {row : Option Nat} (h : a.grownBy b row) (k : b.grownBy c row) : a.grownBy c row :=
  ⟨k.os.trans h.os, k.tape.trans h.tape, k.output.trans h.output, Nat.le_trans h.size k.size, fun i hi hne => (k.block i (Nat.lt_of_lt_of_le hi h.size) hne).trans (h.block i hi hne)⟩
theorem only_alloc {a w : World} {row : Option Nat} (h : a.grownBy w row) (o : Obj) : a.grownBy (w.alloc o) row :=
  ⟨h.os, h.tape, h.output, Nat.le_trans h.size (by simp), fun i hi hne => (Below.heap_alloc w o i (Nat.lt_of_lt_of_le hi h.size)).trans (h.block i hi hne)⟩
theorem only_setCell {a w : World} {g : Nat} (h : a.grownBy w (some g)) {p : Addr} (hp : p.block = g ∨ a.heap.size ≤ p.block) (u : Value) : a.grownBy (w.setCell p u) (some g) :=
  ⟨h.os, h.tape, h.output, by simpa [World.setCell] using h.size, fun i hi hne => (Below.heap_setCell w p u i (by
    rintro rfl
    rcases hp with hp | hp
    · exact hne (by rw [hp])
    · omega)).trans (h.block i hi hne)⟩
theorem only_setRow {a w : World} {g : Nat} (h : a.grownBy w (some g)) (cs : Array Value) : a.grownBy (w.setRow g cs) (some g) :=
  ⟨h.os, h.tape, h.output, by simpa using h.size, fun i hi hne => (setRow_other w g i _ (fun e => hne (by rw [e]))).trans (h.block i hi hne)⟩
theorem only_of_below {a w : World} (h : Below a.heap.size a w) (row : Option Nat) : a.grownBy w row := ⟨h.os, h.tape, h.output, h.size, fun i hi _ => h.block i hi⟩
/-- what only one block among the new ones has turned in is 'Below' for whoever stands before that block -/
theorem below_only {B : Nat} {a b c : World} {g : Nat} (h : Below B a b) (k : b.grownBy c (some g)) (hB : B ≤ b.heap.size) (hg : B ≤ g) : Below B a c :=
  h.grown k hB (fun k hk => by injection hk with hk; omega)
theorem blk_lt {w : World} {g : Nat} {o : Obj} (h : w.heap[g]? = some o) : g < w.heap.size := by
  rcases Nat.lt_or_ge g w.heap.size with hlt | hge
  · exact hlt
  · rw [Array.getElem?_eq_none hge] at h; cases h
theorem blk_set {w : World} {g : Nat} {t : TypeId} {cs : Array Value} (h : w.heap[g]? = some (.cells cs t (0, 0))) (i : Nat) (u : Value) : (w.setCell ⟨g, i, none⟩ u).heap[g]? = some (.cells (cs.setIfInBounds i u) t (0, 0)) := by
  simp [World.setCell, Array.getElem?_modify, h]
theorem blk_drew {w : World} {g : Nat} {o : Obj} (h : w.heap[g]? = some o) : w.drew.heap[g]? = some o := h
theorem blk_drewN {w : World} {g : Nat} {o : Obj} (h : w.heap[g]? = some o) (n : Nat) : (w.drewN n).heap[g]? = some o := h
theorem blk_far {w : World} {g : Nat} {o : Obj} (h : w.heap[g]? = some o) {p : Addr} (hp : g ≠ p.block) (u : Value) : (w.setCell p u).heap[g]? = some o := (Below.heap_setCell w p u g hp).trans h
theorem blk_row {w : World} {g : Nat} {t : TypeId} {cs : Array Value} (h : w.heap[g]? = some (.cells cs t (0, 0))) (cs' : Array Value) : (w.setRow g cs').heap[g]? = some (.cells cs' t (0, 0)) := setRow_heap w g cs cs' t _ h
theorem blk_alloc {w : World} {g : Nat} {o o' : Obj} (h : w.heap[g]? = some o) : (w.alloc o').heap[g]? = some o := (Below.heap_alloc w o' g (blk_lt h)).trans h
theorem blk_below {B : Nat} {w w' : World} {g : Nat} {o : Obj} (h : w.heap[g]? = some o) (hb : Below B w w') (hg : g < B) : w'.heap[g]? = some o := (hb.block g hg).trans h
theorem blk_only {w w' : World} {g : Nat} {o : Obj} {row : Option Nat} (h : w.heap[g]? = some o) (hb : w.grownBy w' row) (hg : some g ≠ row) : w'.heap[g]? = some o := (hb.block g (blk_lt h) hg).trans h

theorem extract_tail (s : ByteArray) (n : Nat) : (s.extract n s.size).data.toList = s.data.toList.drop n := by
  simp only [ByteArray.data_extract, Array.toList_extract, List.extract_eq_take_drop]
  exact List.take_of_length_le (by simp)
/-- bytes as cells -/
def bytesV (l : List UInt8) : List Value := l.map fun c => Value.int .u8 (c.toNat : Int)
theorem bytesV_length (l : List UInt8) : (bytesV l).length = l.length := by simp [bytesV]
theorem bytesV_one (l : List UInt8) : ∀ v ∈ bytesV l, v.oneCell' = true := by
  intro v hv
  simp only [bytesV, List.mem_map] at hv
  obtain ⟨c, _, rfl⟩ := hv
  rfl
/-- 'copy(row[o:], text)' -/
theorem run_copy_str {P : Program} (w : World) (dT sT ty elem : TypeId) (g o dLen dCap : Nat) (s : ByteArray) (cur : Array Value) (t : TypeId) (n : Nat)
    (hu : P.underlying dT = some (.slice elem)) (hs : (P.info? elem).map (·.size) = some 1) (hg : w.heap[g]? = some (.cells cur t (0, 0)))
    (hn : n = Nat.min s.size dLen) (hfit : o + n ≤ cur.size) :
    (Builtin.copy_ #[dT, sT] ty #[.slice (some ⟨g, o, none⟩) dLen dCap, .string s]).run P w =
      .ok (goInt n) (w.setRow g (cur.toList.take o ++ bytesV (s.data.toList.take n) ++ cur.toList.drop (o + n)).toArray) := by
  have hle : n ≤ s.data.toList.length := by
    have : s.data.toList.length = s.size := by simp
    rw [this, hn]; exact Nat.min_le_left _ _
  have hl : (bytesV (s.data.toList.take n)).length = n := by rw [bytesV_length, List.length_take]; omega
  have hst := run_storeCells_at P g o t (bytesV (s.data.toList.take n)) 0 cur w hg (by rw [hl]; simpa using hfit) (bytesV_one _)
  simp only [Nat.add_zero, hl] at hst
  have hcells : ((s.extract 0 n).data.map fun b => Value.int IntKind.u8 (b.toNat : Int)).toList = bytesV (s.data.toList.take n) := by
    simp [bytesV, List.extract_eq_take_drop]
  cases hq : P.info? elem with
  | none => simp [hq] at hs
  | some i =>
    simp [Builtin.copy_, run_underlying hu, Builtin.lenOf, Builtin.firstCells, sizeOf, typeInfo, hq, ← hn]
    have e : List.take n (List.map (fun b : UInt8 => Value.int IntKind.u8 (b.toNat : Int)) s.data.toList) = bytesV (s.data.toList.take n) := by simp [bytesV]
    rw [e, hst]
    simp
theorem setRow_alloc (w : World) (cs cs' : Array Value) (t : TypeId) : (w.alloc (.cells cs t)).setRow w.heap.size cs' = w.alloc (.cells cs' t) := by
  have e : (w.heap.push (.cells cs t)).modify w.heap.size (fun | .cells _ t fr => .cells cs' t fr | o => o) = w.heap.push (.cells cs' t) := by
    apply Array.ext_getElem?
    intro k
    rw [Array.getElem?_modify, Array.getElem?_push, Array.getElem?_push]
    by_cases hk : k = w.heap.size
    · subst hk; simp
    · rw [if_neg hk, if_neg hk, if_neg (fun e => hk e.symm)]
  exact congrArg (fun hp : Array Obj => ({ w with heap := hp } : World)) e
theorem setRow_alloc' (w : World) (cs cs' : Array Value) (t : TypeId) (g : Nat) (hg : g = w.heap.size) : (w.alloc (.cells cs t)).setRow g cs' = w.alloc (.cells cs' t) := by
  subst hg; exact setRow_alloc w cs cs' t
theorem heap_alloc_at (w : World) (o : Obj) (g : Nat) (hg : g = w.heap.size) : (w.alloc o).heap[g]? = some o := by subst hg; exact heap_alloc_new w o
/-- v owns the bytes l (a []byte of the call's own, in a block from B on) -/
def OwnB (w : World) (B T : Nat) (v : Value) (l : List UInt8) : Prop := w.ownsRow B T 1 v l.length (bytesV l)
/-- one append of bytes to it, as an equation of the run -/
theorem append_bytes {P : Program} {w : World} {B T S ty : Nat} {v : Value} {l x : List UInt8} (h : OwnB w B T v l) (hu : P.underlying S = some (.slice T)) (hi : (P.info? T).map (fun i => (i.zero, i.size, i.bytes)) = some (some (.int .u8 0), 1, 1))
    (hB : B ≤ w.heap.size) (hl : l.length + x.length ≤ 140737488355328) :
    ∃ v' w', (Builtin.append_ #[S, S] ty #[v, .slice (some ⟨w.heap.size, 0, none⟩) x.length x.length]).run P (w.alloc (.cells (bytesV x).toArray T)) = .ok v' w' ∧ OwnB w' B T v' (l ++ x) ∧ w.grownBy w' v.ownBlock ∧ (0 < l.length + x.length → ∃ g c, v' = .slice (some ⟨g, 0, none⟩) (l.length + x.length) c) := by
  obtain ⟨i, hi0, hz, hs, hb⟩ := info_parts hi
  obtain ⟨v', w', hr, ho, hg, _⟩ := run_append_own (P := P) (w.alloc (.cells (bytesV x).toArray T)) B S ty T i (.int .u8 0) 1 1 hu hi0 hz hs hb rfl (by omega) v l.length (bytesV l) (World.ownsRow.alloc h _) ⟨w.heap.size, 0, none⟩ x.length x.length (bytesV x)
    (by simp [bytesV_length]) (fun j u hj => by
      have hadd : (⟨w.heap.size, 0, none⟩ : Addr).add j = ⟨w.heap.size, j, none⟩ := by unfold Addr.add; split <;> simp_all
      rw [hadd, World.cell?_alloc_at _ _ _ _ rfl]; simpa using hj) (bytesV_one _) (by simp only [maxLen]; omega) (by omega) (by simp; omega)
  refine ⟨v', w', hr, ?_, ⟨hg.os, hg.tape, hg.output, Nat.le_trans (by simp) hg.size, fun k hk hne => (hg.block k (by simp; omega) hne).trans (Below.heap_alloc _ _ _ hk)⟩, fun hp => ?_⟩
  · unfold OwnB
    rw [List.length_append, show bytesV (l ++ x) = bytesV l ++ bytesV x from by simp [bytesV]]
    exact ho
  · rcases ho.2 with ⟨_, h0⟩ | ⟨g, c, _, hv, _⟩
    · omega
    · exact ⟨g, c, hv⟩
theorem run_make_rowN {P : Program} (t e : TypeId) (i : TypeInfo) (z : Value) (ht : P.underlying t = some (.slice e)) (hi : P.info? e = some i) (hz : i.zero = some z)
    (kl kc : IntKind) (n c : Nat) (hnc : n ≤ c) (hbytes : i.bytes * c ≤ 281474976710656) (h63 : c ≤ 9223372036854775807) (w : World) :
    (Instr.makeSlice t (.int kl (n : Int)) (.int kc (c : Int))).run P w = .ok (.slice (some ⟨w.heap.size, 0, none⟩) n c) (w.alloc (.cells (madeCells z.cells (c * i.size)) e)) := by
  have hb : (i.bytes : Int) * (c : Int) ≤ 281474976710656 := by
    have h : ((i.bytes * c : Nat) : Int) ≤ 281474976710656 := by omega
    rwa [Int.natCast_mul] at h
  have hr := run_make (P := P) w t e i z ht hi hz kl kc n c (by omega) (by omega) hb (by omega)
  simp only [Int.toNat_natCast] at hr
  exact hr
/-- the same as a law of the walk: behind 'at_builtin' -/
theorem wpList_appendB {P : Program} {ops : Array Oper} {rest : List Oper} {o : Oper} {a : Act} {Q : Exit → Act → World → Prop} {W : World} {cs : Array Value} {T S : TypeId} (hgd : o.guard = none) (s x : Operand)
    (ho : o.op = .call { callee := .builtin .append, args := #[s, x], argTypes := #[S, S] }) (hu : P.underlying S = some (.slice T)) (hi : (P.info? T).map (fun i => (i.zero, i.size, i.bytes)) = some (some (.int .u8 0), 1, 1))
    {B : Nat} {v : Value} {l : List UInt8} (xs : List UInt8) (N : Nat) {n : Nat} (hs : a.eval s = v) (hx : a.eval x = .slice (some ⟨W.heap.size, 0, none⟩) n n) (hown : OwnB W B T v l) (hcs : cs = (bytesV xs).toArray) (hn : n = xs.length)
    {C : Nat} {w0 : World} (hb : Below C w0 W) (hCB : C ≤ B) (hB : B ≤ W.heap.size) (hN : N = l.length + xs.length) (hpos : 0 < N) (hl : N ≤ 140737488355328)
    (h : ∀ (g c : Nat) w', OwnB w' B T (.slice (some ⟨g, 0, none⟩) N c) (l ++ xs) → Below C w0 w' → W.heap.size ≤ w'.heap.size → wpList P ops Q rest (a.put o.dst (.slice (some ⟨g, 0, none⟩) N c)) w') :
    wpList P ops Q (o :: rest) a (W.alloc (.cells cs T)) := by
  subst hcs hn hN
  obtain ⟨v', w', hrun, h2, h3, h4⟩ := append_bytes (P := P) (S := S) (ty := o.type) (x := xs) hown hu hi hB hl
  obtain ⟨g, c, rfl⟩ := h4 hpos
  refine wpList_plain hgd fun _ hK => ?_
  unfold Oper.wp execOp
  simp only [ho, resolve, invoke, builtin, Sem.run_bind, Sem.run_pure, Result.andThen_ok, List.map_toArray, List.map_cons, List.map_nil, hs, hx, hrun]
  exact hK _ _ (h g c w' h2 (hb.grown h3 (by omega) (fun k hk => by have := World.ownsRow.lt hown k hk; omega)) h3.size)
theorem byte_cell (n : Nat) : ((n : Int) % 256) = ((UInt8.ofNat n).toNat : Int) := by simp [UInt8.toNat_ofNat']
theorem own_cell {w : World} {B T g N c : Nat} {l : List UInt8} (h : OwnB w B T (.slice (some ⟨g, 0, none⟩) N c) l) (j : Nat) (hj : j < l.length) : w.cell? ⟨g, j, none⟩ = some (.int .u8 (l[j].toNat : Int)) := by
  have h1 := World.ownsRow.cells h (g := g) rfl j (.int .u8 (l[j].toNat : Int)) (by simp [bytesV, hj])
  have hadd : (⟨g, 0, none⟩ : Addr).add j = ⟨g, j, none⟩ := by unfold Addr.add; split <;> simp_all
  rwa [hadd] at h1
theorem own_len {w : World} {B T g N c : Nat} {l : List UInt8} (h : OwnB w B T (.slice (some ⟨g, 0, none⟩) N c) l) : N = l.length := by
  rcases h.2 with ⟨h1, _⟩ | ⟨g', cap, cur, h1, _⟩
  · cases h1
  · injection h1
/-- 'string(b)' of what is owned -/
theorem own_string {P : Program} {w : World} {B S T D g N c : Nat} {l : List UInt8} (hs : P.underlying S = some (.slice T)) (he : P.underlying T = some (.int .u8)) (hd : P.underlying D = some .string)
    (h : OwnB w B T (.slice (some ⟨g, 0, none⟩) N c) l) : (convert S D (.slice (some ⟨g, 0, none⟩) N c)).run P w = .ok (.string ⟨l.toArray⟩) w := by
  have hn := own_len h
  subst hn
  exact run_convert_bytes_back w S D T ⟨g, 0, none⟩ c l hs he hd fun j hj => by
    have hadd : (⟨g, 0, none⟩ : Addr).add j = ⟨g, j, none⟩ := by unfold Addr.add; split <;> simp_all
    rw [hadd]; exact own_cell h j hj
/-- a literal built of constants, under its name -/
theorem wpList_build_as {P : Program} {ops : Array Oper} {rest : List Oper} {o : Oper} {a : Act} {w : World} {Q : Exit → Act → World → Prop} (hg : o.guard = none) (t : TypeId) (parts : Array (Nat × Operand)) (ho : o.op = .build t parts)
    (cs : Array Value) (hb : P.built t (parts.map fun (i, x) => (i, a.eval x)).toList = some cs)
    (h : wpList P ops Q rest (a.put o.dst (.agg cs)) w) : wpList P ops Q (o :: rest) a w :=
  wpList_build hg t parts ho (by rw [hb]; rfl) (by rw [hb]; exact h)
/-- make([]byte, n, c) -/
theorem make_bytes {P : Program} (S T : TypeId) (hu : P.underlying S = some (.slice T)) (hi : (P.info? T).map (fun i => (i.zero, i.size, i.bytes)) = some (some (.int .u8 0), 1, 1))
    (n c : Nat) (hnc : n ≤ c) (hc : c ≤ 281474976710656) (w : World) :
    (Instr.makeSlice S (.int .i64 (n : Int)) (.int .i64 (c : Int))).run P w = .ok (.slice (some ⟨w.heap.size, 0, none⟩) n c) (w.alloc (.cells (madeCells #[.int .u8 0] c) T)) := by
  obtain ⟨i, hi0, hz, hs, hb⟩ := info_parts hi
  have h := run_make_rowN (P := P) S T i (.int .u8 0) hu hi0 hz .i64 .i64 n c hnc (by rw [hb]; omega) (by omega) w
  rw [hs, Nat.mul_one] at h
  exact h
theorem madeCells_bytes (c : Nat) : madeCells #[Value.int .u8 0] c = (bytesV (List.replicate c 0)).toArray := by
  apply Array.ext'
  rw [toList_madeCells_one]
  simp [bytesV]
theorem own_made (w : World) (B T n c : Nat) (l : List UInt8) (hl : l.length = c) (hB : B ≤ w.heap.size) (hnc : n ≤ c) (hc : c ≤ 281474976710656) :
    OwnB (w.alloc (.cells (bytesV l).toArray T)) B T (.slice (some ⟨w.heap.size, 0, none⟩) n c) (l.take n) := by
  refine ⟨by simp [bytesV_length], .inr ⟨w.heap.size, c, (bytesV l).toArray, by simp [hl, Nat.min_eq_left hnc], hB, heap_alloc_new w _, by simp; omega, by simp only [maxLen]; omega, by simp [bytesV_length, hl], ?_⟩⟩
  simp [bytesV, List.map_take, hl, Nat.min_eq_left hnc]
theorem own_of_blk {w : World} {g T n : Nat} {l : List UInt8} (h : w.heap[g]? = some (.cells (bytesV l).toArray T (0, 0))) (hn : n = l.length) (hl : l.length ≤ 281474976710656) : OwnB w g T (.slice (some ⟨g, 0, none⟩) n n) l := by
  subst hn
  exact ⟨by simp [bytesV_length], .inr ⟨g, l.length, (bytesV l).toArray, rfl, Nat.le_refl _, h, Nat.le_refl _, by simp only [maxLen]; omega, by simp [bytesV_length], by simp [bytesV_length, List.take_of_length_le]⟩⟩
end Go.Scr
