/- Plain definitions and lemmas: SHA-256 as a function on lists of bytes. No program in sight. -/
import Derived.Laws.BitsAllLaws
import Derived.Laws.BitsLemmas
import Derived.Below
namespace Go.Scr
open Go.RowKit
set_option linter.unusedVariables false

/-- turned right by n bits, of 32 -/
def ror (x n : Nat) : Nat := ((x <<< (32 - n)) % 4294967296) ||| (x >>> n)
def ss1 (x : Nat) : Nat := (ror x 17 ^^^ ror x 19) ^^^ (x >>> 10)
def ss0 (x : Nat) : Nat := (ror x 7 ^^^ ror x 18) ^^^ (x >>> 3)
def bs1 (e : Nat) : Nat := (ror e 6 ^^^ ror e 11) ^^^ ror e 25
def bs0 (a : Nat) : Nat := (ror a 2 ^^^ ror a 13) ^^^ ror a 22
def chs (e f g : Nat) : Nat := (e &&& f) ^^^ ((e ^^^ 4294967295) &&& g)
def maj (a b c : Nat) : Nat := ((a &&& b) ^^^ (a &&& c)) ^^^ (b &&& c)

theorem ror_lt (x n : Nat) (hx : x < 4294967296) : ror x n < 4294967296 :=
  Nat.or_lt_two_pow (n := 32) (Nat.mod_lt _ (by omega)) (Nat.lt_of_le_of_lt (Nat.shiftRight_le x n) hx)
theorem shr_lt (x n : Nat) (hx : x < 4294967296) : x >>> n < 4294967296 := Nat.lt_of_le_of_lt (Nat.shiftRight_le x n) hx
theorem xor_lt {a b : Nat} (ha : a < 4294967296) (hb : b < 4294967296) : a ^^^ b < 4294967296 := Nat.xor_lt_two_pow (n := 32) ha hb
theorem and_lt {a b : Nat} (ha : a < 4294967296) : a &&& b < 4294967296 := Nat.lt_of_le_of_lt Nat.and_le_left ha
theorem ss1_lt (x : Nat) (hx : x < 4294967296) : ss1 x < 4294967296 := xor_lt (xor_lt (ror_lt _ _ hx) (ror_lt _ _ hx)) (shr_lt _ _ hx)
theorem ss0_lt (x : Nat) (hx : x < 4294967296) : ss0 x < 4294967296 := xor_lt (xor_lt (ror_lt _ _ hx) (ror_lt _ _ hx)) (shr_lt _ _ hx)
theorem bs1_lt (x : Nat) (hx : x < 4294967296) : bs1 x < 4294967296 := xor_lt (xor_lt (ror_lt _ _ hx) (ror_lt _ _ hx)) (ror_lt _ _ hx)
theorem bs0_lt (x : Nat) (hx : x < 4294967296) : bs0 x < 4294967296 := xor_lt (xor_lt (ror_lt _ _ hx) (ror_lt _ _ hx)) (ror_lt _ _ hx)
theorem not_lt {e : Nat} (he : e < 4294967296) : e ^^^ 4294967295 < 4294967296 := xor_lt he (by omega)
theorem chs_lt (e f g : Nat) (he : e < 4294967296) : chs e f g < 4294967296 := xor_lt (and_lt he) (and_lt (not_lt he))
theorem maj_lt (a b c : Nat) (ha : a < 4294967296) (hb : b < 4294967296) : maj a b c < 4294967296 := xor_lt (xor_lt (and_lt ha) (and_lt ha)) (and_lt hb)

theorem rot_count (n : Nat) (hn : 1 ≤ n) (hn' : n ≤ 31) : bits .and .u64 (IntKind.u64.wrap (-(n : Int))) 31 = 32 - (n : Int) := by
  have h : ∀ m : Fin 32, 1 ≤ m.val → bits .and .u64 (IntKind.u64.wrap (-(m.val : Int))) 31 = 32 - (m.val : Int) := by decide
  exact h ⟨n, by omega⟩ hn
theorem rot_word (x n : Nat) (hx : x < 4294967296) (hn : 1 ≤ n) (hn' : n ≤ 31) :
    bits .or .u32 ((x : Int) * 2 ^ (32 - n) % 4294967296) ((x : Int) / 2 ^ (32 - (32 - n))) = ((ror x n : Nat) : Int) := by
  have e2 : 32 - (32 - n) = n := by omega
  have a1 : ((x : Int) * 2 ^ (32 - n)) % 4294967296 = (((x <<< (32 - n)) % 4294967296 : Nat) : Int) := by
    rw [Nat.shiftLeft_eq]; simp
  have a2 : (x : Int) / 2 ^ n = ((x >>> n : Nat) : Int) := by rw [Nat.shiftRight_eq_div_pow]; simp
  rw [e2, a1, a2, u32_or_nat _ _ (Nat.mod_lt _ (by omega)) (shr_lt _ _ hx)]
  rfl
theorem ret_int {k : IntKind} {a b : Int} (h : a = b) : Ending.returned (.int k a) = .returned (.int k b) := by rw [h]

/-- the t-th word of a block of bytes -/
def word (bs : List UInt8) (t : Nat) : Nat :=
  ((((bs.getD (4 * t) 0).toNat <<< 24) ||| ((bs.getD (4 * t + 1) 0).toNat <<< 16)) ||| ((bs.getD (4 * t + 2) 0).toNat <<< 8)) ||| (bs.getD (4 * t + 3) 0).toNat
/-- the schedule: 16 words, then n more -/
def schl (bs : List UInt8) : Nat → List Nat
  | 0 => (List.range 16).map (word bs)
  | n + 1 => let l := schl bs n
    l ++ [(ss1 (l.getD (16 + n - 2) 0) + l.getD (16 + n - 7) 0 + ss0 (l.getD (16 + n - 15) 0) + l.getD (16 + n - 16) 0) % 4294967296]
def wv (bs : List UInt8) (t : Nat) : Nat := (schl bs 48).getD t 0
theorem schl_length (bs : List UInt8) (n : Nat) : (schl bs n).length = 16 + n := by
  induction n with
  | zero => simp [schl]
  | succ n ih => simp [schl, ih]; omega
theorem schl_more (bs : List UInt8) (n m t : Nat) (ht : t < 16 + n) : (schl bs (n + m)).getD t 0 = (schl bs n).getD t 0 := by
  induction m with
  | zero => rfl
  | succ m ih =>
    rw [← ih]
    show (schl bs (n + m + 1)).getD t 0 = _
    have hl := schl_length bs (n + m)
    rw [schl]
    simp only [List.getD_eq_getElem?_getD]
    rw [List.getElem?_append_left (by omega)]
theorem u32_small (a : Nat) (h : a < 4294967296) : IntKind.u32.wrap (a : Int) = (a : Int) := by rw [IntKind.wrap_u32']; omega
theorem u32_shl24 (a : Nat) (h : a < 256) : IntKind.u32.wrap ((a : Int) * 16777216) = ((a <<< 24 : Nat) : Int) := by
  rw [IntKind.wrap_u32', Nat.shiftLeft_eq]; omega
theorem u32_shl16 (a : Nat) (h : a < 256) : IntKind.u32.wrap ((a : Int) * 65536) = ((a <<< 16 : Nat) : Int) := by
  rw [IntKind.wrap_u32', Nat.shiftLeft_eq]; omega
theorem u32_shl8 (a : Nat) (h : a < 256) : IntKind.u32.wrap ((a : Int) * 256) = ((a <<< 8 : Nat) : Int) := by
  rw [IntKind.wrap_u32', Nat.shiftLeft_eq]; omega
theorem byte_shl (a n : Nat) (h : a < 256) (hn : n ≤ 24) : a <<< n < 4294967296 := by
  rw [Nat.shiftLeft_eq]
  calc a * 2 ^ n < 256 * 2 ^ n := Nat.mul_lt_mul_of_pos_right h (Nat.two_pow_pos n)
    _ = 2 ^ (8 + n) := by rw [Nat.pow_add]
    _ ≤ 2 ^ 32 := Nat.pow_le_pow_right (by omega) (by omega)
theorem or_lt {a b : Nat} (ha : a < 4294967296) (hb : b < 4294967296) : a ||| b < 4294967296 := Nat.or_lt_two_pow (n := 32) ha hb
theorem byte_lt (c : UInt8) : c.toNat < 256 := c.toNat_lt
theorem word_lt (bs : List UInt8) (t : Nat) : word bs t < 4294967296 := by
  have h : ∀ (c : UInt8) (n : Nat), n ≤ 24 → c.toNat <<< n < 2 ^ 32 := fun c n hn => by
    have := byte_lt c
    rw [Nat.shiftLeft_eq]
    calc c.toNat * 2 ^ n < 256 * 2 ^ n := Nat.mul_lt_mul_of_pos_right this (Nat.two_pow_pos n)
      _ = 2 ^ (8 + n) := by rw [Nat.pow_add]
      _ ≤ 2 ^ 32 := Nat.pow_le_pow_right (by omega) (by omega)
  unfold word
  exact Nat.or_lt_two_pow (n := 32) (Nat.or_lt_two_pow (Nat.or_lt_two_pow (h _ 24 (by omega)) (h _ 16 (by omega))) (h _ 8 (by omega))) (by have := byte_lt (bs.getD (4 * t + 3) 0); omega)
theorem wv_lo (bs : List UInt8) (t : Nat) (ht : t < 16) : wv bs t = word bs t := by
  unfold wv
  rw [show (48 : Nat) = 0 + 48 from rfl, schl_more bs 0 48 t (by omega)]
  simp [schl, List.getD_eq_getElem?_getD, ht]
theorem wv_hi (bs : List UInt8) (t : Nat) (ht : 16 ≤ t) (ht' : t < 64) :
    wv bs t = (ss1 (wv bs (t - 2)) + wv bs (t - 7) + ss0 (wv bs (t - 15)) + wv bs (t - 16)) % 4294967296 := by
  obtain ⟨n, rfl⟩ : ∃ n, t = 16 + n := ⟨t - 16, by omega⟩
  have hl := schl_length bs n
  have e : ∀ s, s < 16 + n → wv bs s = (schl bs n).getD s 0 := fun s hs => by
    unfold wv
    rw [show 48 = n + (48 - n) from by omega, schl_more bs n (48 - n) s hs]
  have e' : wv bs (16 + n) = (schl bs (n + 1)).getD (16 + n) 0 := by
    unfold wv
    rw [show 48 = (n + 1) + (48 - (n + 1)) from by omega, schl_more bs (n + 1) _ _ (by omega)]
  rw [e', e _ (by omega), e _ (by omega), e _ (by omega), e _ (by omega)]
  rw [schl]
  simp only [List.getD_eq_getElem?_getD]
  rw [List.getElem?_append_right (by omega), hl]
  simp
theorem wv_lt (bs : List UInt8) (t : Nat) : wv bs t < 4294967296 := by
  rcases Nat.lt_or_ge t 16 with h | h
  · rw [wv_lo bs t h]; exact word_lt bs t
  · rcases Nat.lt_or_ge t 64 with h' | h'
    · rw [wv_hi bs t h h']; exact Nat.mod_lt _ (by omega)
    · unfold wv
      rw [List.getD_eq_getElem?_getD, List.getElem?_eq_none (by rw [schl_length]; omega)]
      simp

/-! ### names for what the walk reckons, so that it leaves them alone -/
def xo (a b : Nat) : Nat := a ^^^ b
def orr (a b : Nat) : Nat := a ||| b
def an (a b : Nat) : Nat := a &&& b
def sh (a n : Nat) : Nat := a >>> n
def shl (a n : Nat) : Nat := a <<< n
def ad (a b : Nat) : Nat := (a + b) % 4294967296
def inv (e : Nat) : Nat := e ^^^ 4294967295
theorem u32_xo (a b : Nat) (ha : a < 4294967296) (hb : b < 4294967296) : bits .xor .u32 (a : Int) (b : Int) = ((xo a b : Nat) : Int) := u32_xor_nat a b ha hb
theorem u32_orr (a b : Nat) (ha : a < 4294967296) (hb : b < 4294967296) : bits .or .u32 (a : Int) (b : Int) = ((orr a b : Nat) : Int) := u32_or_nat a b ha hb
theorem u32_an (a b : Nat) (ha : a < 4294967296) (hb : b < 4294967296) : bits .and .u32 (a : Int) (b : Int) = ((an a b : Nat) : Int) := u32_and_nat a b ha hb
theorem u32_ad (a b : Nat) : IntKind.u32.wrap ((a : Int) + (b : Int)) = ((ad a b : Nat) : Int) := by rw [IntKind.wrap_u32']; unfold ad; omega
theorem u32_s24 (a : Nat) (h : a < 256) : IntKind.u32.wrap ((a : Int) * 16777216) = ((shl a 24 : Nat) : Int) := u32_shl24 a h
theorem u32_s16 (a : Nat) (h : a < 256) : IntKind.u32.wrap ((a : Int) * 65536) = ((shl a 16 : Nat) : Int) := u32_shl16 a h
theorem u32_s8 (a : Nat) (h : a < 256) : IntKind.u32.wrap ((a : Int) * 256) = ((shl a 8 : Nat) : Int) := u32_shl8 a h
theorem u32_r10 (a : Nat) : (a : Int) / 1024 = ((sh a 10 : Nat) : Int) := by unfold sh; rw [Nat.shiftRight_eq_div_pow]; omega
theorem u32_r3 (a : Nat) : (a : Int) / 8 = ((sh a 3 : Nat) : Int) := by unfold sh; rw [Nat.shiftRight_eq_div_pow]; omega
theorem xo_lt {a b : Nat} (ha : a < 4294967296) (hb : b < 4294967296) : xo a b < 4294967296 := xor_lt ha hb
theorem orr_lt {a b : Nat} (ha : a < 4294967296) (hb : b < 4294967296) : orr a b < 4294967296 := or_lt ha hb
theorem an_lt {a b : Nat} (ha : a < 4294967296) : an a b < 4294967296 := and_lt ha
theorem sh_lt {a n : Nat} (ha : a < 4294967296) : sh a n < 4294967296 := shr_lt _ _ ha
theorem ad_lt (a b : Nat) : ad a b < 4294967296 := Nat.mod_lt _ (by omega)
theorem inv_lt {a : Nat} (ha : a < 4294967296) : inv a < 4294967296 := not_lt ha
theorem shl_lt (a n : Nat) (h : a < 256) (hn : n ≤ 24) : shl a n < 4294967296 := byte_shl a n h hn
theorem wv_step (bs : List UInt8) (t : Nat) (ht : 16 ≤ t) (ht' : t < 64) :
    wv bs t = ad (ad (ad (ss1 (wv bs (t - 2))) (wv bs (t - 7))) (ss0 (wv bs (t - 15)))) (wv bs (t - 16)) := by
  rw [wv_hi bs t ht ht']; unfold ad; omega

/-! ### the rounds -/
def Ks : List Nat := [
  1116352408, 1899447441, 3049323471, 3921009573, 961987163, 1508970993, 2453635748, 2870763221,
  3624381080, 310598401, 607225278, 1426881987, 1925078388, 2162078206, 2614888103, 3248222580,
  3835390401, 4022224774, 264347078, 604807628, 770255983, 1249150122, 1555081692, 1996064986,
  2554220882, 2821834349, 2952996808, 3210313671, 3336571891, 3584528711, 113926993, 338241895,
  666307205, 773529912, 1294757372, 1396182291, 1695183700, 1986661051, 2177026350, 2456956037,
  2730485921, 2820302411, 3259730800, 3345764771, 3516065817, 3600352804, 4094571909, 275423344,
  430227734, 506948616, 659060556, 883997877, 958139571, 1322822218, 1537002063, 1747873779,
  1955562222, 2024104815, 2227730452, 2361852424, 2428436474, 2756734187, 3204031479, 3329325298]
def Hs : List Nat := [1779033703, 3144134277, 1013904242, 2773480762, 1359893119, 2600822924, 528734635, 1541459225]
def rx (e f g h k w : Nat) : Nat := ad (ad (ad (ad h (bs1 e)) (chs e f g)) k) w
def ry (a b c : Nat) : Nat := ad (bs0 a) (maj a b c)
/-- one round -/
def rnd (k w : Nat) : List Nat → List Nat
  | [a, b, c, d, e, f, g, h] => [ad (rx e f g h k w) (ry a b c), a, b, c, ad d (rx e f g h k w), e, f, g]
  | l => l
def rounds (ws s : List Nat) : Nat → List Nat
  | 0 => s
  | n + 1 => rnd (Ks.getD n 0) (ws.getD n 0) (rounds ws s n)
/-- a state behind one block -/
def blockN (s : List Nat) (bs : List UInt8) : List Nat := List.zipWith ad s (rounds (schl bs 48) s 64)
def St (s : List Nat) : Prop := s.length = 8 ∧ ∀ x ∈ s, x < 4294967296
theorem St.open_ {s : List Nat} (h : St s) : ∃ a b c d e f g i, s = [a, b, c, d, e, f, g, i] ∧ a < 4294967296 ∧ b < 4294967296 ∧ c < 4294967296 ∧ d < 4294967296 ∧ e < 4294967296 ∧ f < 4294967296 ∧ g < 4294967296 ∧ i < 4294967296 := by
  obtain ⟨hl, hx⟩ := h
  match s, hl with
  | [a, b, c, d, e, f, g, i], _ => exact ⟨a, b, c, d, e, f, g, i, rfl, hx a (by simp), hx b (by simp), hx c (by simp), hx d (by simp), hx e (by simp), hx f (by simp), hx g (by simp), hx i (by simp)⟩
theorem St.mk_ {a b c d e f g i : Nat} (ha : a < 4294967296) (hb : b < 4294967296) (hc : c < 4294967296) (hd : d < 4294967296) (he : e < 4294967296) (hf : f < 4294967296) (hg : g < 4294967296) (hi : i < 4294967296) : St [a, b, c, d, e, f, g, i] :=
  ⟨rfl, fun x hx => by
    simp only [List.mem_cons, List.not_mem_nil, or_false] at hx
    rcases hx with rfl | rfl | rfl | rfl | rfl | rfl | rfl | rfl <;> assumption⟩
theorem rnd_St (k w : Nat) {s : List Nat} (h : St s) : St (rnd k w s) := by
  obtain ⟨a, b, c, d, e, f, g, i, rfl, h1, h2, h3, h4, h5, h6, h7, h8⟩ := h.open_
  exact St.mk_ (ad_lt _ _) h1 h2 h3 (ad_lt _ _) h5 h6 h7
theorem rounds_St (ws : List Nat) {s : List Nat} (h : St s) (n : Nat) : St (rounds ws s n) := by
  induction n with
  | zero => exact h
  | succ n ih => exact rnd_St _ _ ih
theorem blockN_St (bs : List UInt8) {s : List Nat} (h : St s) : St (blockN s bs) := by
  have h2 := rounds_St (schl bs 48) h 64
  unfold blockN
  generalize rounds (schl bs 48) s 64 = t at h2
  obtain ⟨a, b, c, d, e, f, g, i, rfl, _⟩ := h.open_
  obtain ⟨a', b', c', d', e', f', g', i', rfl, _⟩ := h2.open_
  exact St.mk_ (ad_lt _ _) (ad_lt _ _) (ad_lt _ _) (ad_lt _ _) (ad_lt _ _) (ad_lt _ _) (ad_lt _ _) (ad_lt _ _)
theorem Ks_lt (n : Nat) : Ks.getD n 0 < 4294967296 := by
  rcases Nat.lt_or_ge n 64 with h | h
  · have : ∀ m : Fin 64, Ks.getD m.val 0 < 4294967296 := by decide
    exact this ⟨n, h⟩
  · rw [List.getD_eq_getElem?_getD, List.getElem?_eq_none (by simp [Ks]; omega)]; simp

/-! ### a hasher's cells -/
def hcells (st : List Nat) (rest : List UInt8) (n : Nat) : Array Value :=
  (st.map (fun x : Nat => Value.int .u32 (x : Int)) ++ (rest.map (fun c => Value.int .u8 (c.toNat : Int)) ++ [Value.int .i64 (n : Int)])).toArray
theorem hcells_st {st : List Nat} {rest : List UInt8} {n j : Nat} (hl : st.length = 8) (hj : j < 8) : (hcells st rest n)[j]? = some (.int .u32 ((st.getD j 0 : Nat) : Int)) := by
  unfold hcells
  rw [List.getElem?_toArray, List.getElem?_append_left (by simp; omega), List.getElem?_map, List.getD_eq_getElem?_getD, List.getElem?_eq_getElem (by omega)]
  simp
theorem hcells_rest {st : List Nat} {rest : List UInt8} {n j : Nat} (hl : st.length = 8) (hr : rest.length = 64) (hj : j < 64) : (hcells st rest n)[8 + j]? = some (.int .u8 ((rest.getD j 0).toNat : Int)) := by
  unfold hcells
  rw [List.getElem?_toArray, List.getElem?_append_right (by simp; omega), List.length_map, hl, show 8 + j - 8 = j from by omega, List.getElem?_append_left (by simp; omega), List.getElem?_map, List.getD_eq_getElem?_getD, List.getElem?_eq_getElem (by omega)]
  simp
theorem hcells_n {st : List Nat} {rest : List UInt8} {n : Nat} (hl : st.length = 8) (hr : rest.length = 64) : (hcells st rest n)[72]? = some (.int .i64 (n : Int)) := by
  unfold hcells
  rw [List.getElem?_toArray, List.getElem?_append_right (by simp; omega), List.length_map, hl, List.getElem?_append_right (by simp; omega)]
  simp [hr]
theorem hcells_set {st : List Nat} {rest : List UInt8} {n j x : Nat} (hl : st.length = 8) (hj : j < 8) : (hcells st rest n).setIfInBounds j (.int .u32 (x : Int)) = hcells (st.set j x) rest n := by
  unfold hcells
  rw [List.setIfInBounds_toArray, List.set_append_left _ _ (by simp; omega), List.map_set]
theorem hcells_setn {st : List Nat} {rest : List UInt8} {n m : Nat} (hl : st.length = 8) (hr : rest.length = 64) : (hcells st rest n).setIfInBounds 72 (.int .i64 (m : Int)) = hcells st rest m := by
  unfold hcells
  rw [List.setIfInBounds_toArray, List.set_append_right _ _ (by simp; omega), List.length_map, hl, List.set_append_right _ _ (by simp; omega)]
  simp [hr]
/-- the first k words of the sums, then the old ones -/
def upd8 (s v : List Nat) (k : Nat) : List Nat := (List.zipWith ad s v).take k ++ s.drop k
theorem upd8_length {s v : List Nat} (hs : s.length = 8) (hv : v.length = 8) {k : Nat} (hk : k ≤ 8) : (upd8 s v k).length = 8 := by simp [upd8, hs, hv]; omega
theorem upd8_get {s v : List Nat} (hs : s.length = 8) (hv : v.length = 8) {k : Nat} (hk : k < 8) : (upd8 s v k).getD k 0 = s.getD k 0 := by
  unfold upd8
  rw [List.getD_eq_getElem?_getD, List.getElem?_append_right (by simp; omega), List.getD_eq_getElem?_getD]
  simp [hs, hv, show min k 8 = k by omega]
theorem upd8_step {s v : List Nat} (hs : s.length = 8) (hv : v.length = 8) {k : Nat} (hk : k < 8) : (upd8 s v k).set k (ad (s.getD k 0) (v.getD k 0)) = upd8 s v (k + 1) := by
  unfold upd8
  have hz : (List.zipWith ad s v).length = 8 := by simp [hs, hv]
  rw [List.set_append_right _ _ (by simp [hz]; omega), List.length_take, hz, show k - min k 8 = 0 by omega, List.take_succ_eq_append_getElem (by omega), List.append_assoc]
  congr 1
  rw [List.drop_eq_getElem_cons (by omega : k < s.length), List.set_cons_zero]
  simp [List.getD_eq_getElem?_getD, hs, hv, hk]
theorem upd8_zero (s v : List Nat) : upd8 s v 0 = s := by simp [upd8]
theorem upd8_all {s v : List Nat} (hs : s.length = 8) (hv : v.length = 8) : upd8 s v 8 = List.zipWith ad s v := by
  unfold upd8
  rw [List.take_of_length_le (by simp [hs, hv]), List.drop_eq_nil_of_le (by omega), List.append_nil]
theorem u32_inv (e : Nat) (he : e < 4294967296) : bits .xor .u32 (if IntKind.u32.signed = true then -1 else IntKind.u32.max) (e : Int) = ((inv e : Nat) : Int) := by
  have h : (if IntKind.u32.signed = true then -1 else IntKind.u32.max) = ((4294967295 : Nat) : Int) := by decide
  rw [h, u32_xor_nat 4294967295 e (by omega) he, Nat.xor_comm]
  rfl

/-! ### many blocks; filling; the digest -/
def blocks : Nat → List Nat → List UInt8 → List Nat
  | 0, s, _ => s
  | n + 1, s, m => blocks n (blockN s (m.take 64)) (m.drop 64)
def absorb (m : List UInt8) : List Nat := blocks (m.length / 64) Hs m
theorem Hs_St : St Hs := ⟨rfl, by decide⟩
theorem blocks_St (n : Nat) {s : List Nat} (h : St s) (m : List UInt8) : St (blocks n s m) := by
  induction n generalizing s m with
  | zero => exact h
  | succ n ih => exact ih (blockN_St _ h) _
theorem absorb_St (m : List UInt8) : St (absorb m) := blocks_St _ Hs_St _
theorem blocks_end (n : Nat) (s : List Nat) (m : List UInt8) : blocks (n + 1) s m = blockN (blocks n s m) ((m.drop (64 * n)).take 64) := by
  induction n generalizing s m with
  | zero => rfl
  | succ n ih =>
    rw [show blocks (n + 1 + 1) s m = blocks (n + 1) (blockN s (m.take 64)) (m.drop 64) from rfl, ih]
    rw [List.drop_drop, show 64 + 64 * n = 64 * (n + 1) by omega]
    rfl
theorem blocks_more (n : Nat) (s : List Nat) (m x : List UInt8) (h : 64 * n ≤ m.length) : blocks n s (m ++ x) = blocks n s m := by
  induction n generalizing s m with
  | zero => rfl
  | succ n ih =>
    show blocks n (blockN s ((m ++ x).take 64)) ((m ++ x).drop 64) = blocks n (blockN s (m.take 64)) (m.drop 64)
    rw [List.take_append_of_le_length (by omega), List.drop_append_of_le_length (by omega), ih _ _ (by rw [List.length_drop]; omega)]
theorem absorb_same (m x : List UInt8) (h : m.length % 64 + x.length < 64) : absorb (m ++ x) = absorb m := by
  unfold absorb
  rw [List.length_append, show (m.length + x.length) / 64 = m.length / 64 by omega, blocks_more _ _ _ _ (by omega)]
theorem absorb_block (m x : List UInt8) (h : m.length % 64 + x.length = 64) : absorb (m ++ x) = blockN (absorb m) (m.drop (m.length / 64 * 64) ++ x) := by
  unfold absorb
  rw [List.length_append, show (m.length + x.length) / 64 = m.length / 64 + 1 by omega, blocks_end, blocks_more _ _ _ _ (by omega)]
  congr 1
  rw [List.drop_append_of_le_length (by omega), List.take_of_length_le (by simp; omega), Nat.mul_comm]
def zer (L : Nat) : Nat := (119 - L % 64) % 64
def be8 (n : Nat) : List UInt8 := (List.range 8).map fun j => UInt8.ofNat (n / 2 ^ (56 - 8 * j))
def be4 (x : Nat) : List UInt8 := [UInt8.ofNat (x / 16777216), UInt8.ofNat (x / 65536), UInt8.ofNat (x / 256), UInt8.ofNat x]
/-- what stands behind a text of L bytes -/
def filling (L : Nat) : List UInt8 := 128 :: List.replicate (zer L) 0 ++ be8 (8 * L)
/-- SHA-256 -/
def sha (m : List UInt8) : List UInt8 := (absorb (m ++ filling m.length)).flatMap be4
theorem be8_length (n : Nat) : (be8 n).length = 8 := by simp [be8]
theorem be8_take (n j : Nat) (hj : j < 8) : (be8 n).take (j + 1) = (be8 n).take j ++ [UInt8.ofNat (n / 2 ^ (56 - 8 * j))] := by
  rw [List.take_succ_eq_append_getElem (by rw [be8_length]; exact hj)]
  simp [be8]
theorem filling_length (L : Nat) : (filling L).length = 9 + zer L := by simp [filling, be8_length]; omega
theorem zer_lt (L : Nat) : zer L < 64 := Nat.mod_lt _ (by omega)
theorem zer_more (L k : Nat) (h : k < zer L) : (L + k + 1) % 64 ≠ 56 := by unfold zer at h; omega
theorem zer_done (L : Nat) : (L + zer L + 1) % 64 = 56 := by unfold zer; omega
/-- the buffer behind a further piece -/
def fillIn (rest : List UInt8) (at_ : Nat) (x : List UInt8) : List UInt8 := rest.take at_ ++ x ++ rest.drop (at_ + x.length)
theorem fillIn_length {rest : List UInt8} {at_ : Nat} {x : List UInt8} (hr : rest.length = 64) (h : at_ + x.length ≤ 64) : (fillIn rest at_ x).length = 64 := by
  simp [fillIn, hr]; omega
theorem fillIn_take {rest : List UInt8} {at_ : Nat} {x : List UInt8} (hr : rest.length = 64) (h : at_ + x.length ≤ 64) : (fillIn rest at_ x).take (at_ + x.length) = rest.take at_ ++ x := by
  unfold fillIn
  rw [List.take_append_of_le_length (by simp; omega), List.take_of_length_le (by simp; omega)]
theorem hcells_copy {st : List Nat} {rest : List UInt8} {n at_ : Nat} {x : List UInt8} (hl : st.length = 8) (hr : rest.length = 64) (h : at_ + x.length ≤ 64) :
    ((hcells st rest n).toList.take (8 + at_) ++ x.map (fun c => Value.int .u8 (c.toNat : Int)) ++ (hcells st rest n).toList.drop (8 + at_ + x.length)).toArray = hcells st (fillIn rest at_ x) n := by
  unfold hcells fillIn
  simp only [List.map_append, List.map_take, List.map_drop]
  rw [List.take_append, List.drop_append]
  simp only [List.length_map, hl]
  rw [List.take_of_length_le (by simp; omega), List.drop_eq_nil_of_le (by simp; omega), show 8 + at_ - 8 = at_ by omega, show 8 + at_ + x.length - 8 = at_ + x.length by omega]
  rw [List.take_append_of_le_length (by simp; omega), List.drop_append_of_le_length (by simp; omega)]
  simp

/-! ### the same by ints -/
def pl (a b : Nat) : Nat := a + b
theorem wrap_i64_id (n : Int) (h0 : -9223372036854775808 ≤ n) (h1 : n ≤ 9223372036854775807) : IntKind.i64.wrap n = n := by
  rw [IntKind.wrap_i64]; omega
theorem ofInt_i64 (a : Nat) (ha : a < 9223372036854775808) : (BitVec.ofInt 64 (a : Int)).toNat = a := by
  rw [BitVec.ofInt_natCast, BitVec.toNat_ofNat]; exact Nat.mod_eq_of_lt (by omega)
theorem i64_an (a b : Nat) (ha : a < 9223372036854775808) (hb : b < 9223372036854775808) : bits .and .i64 (a : Int) (b : Int) = ((an a b : Nat) : Int) := by
  have hx : a &&& b < 2 ^ 63 := Nat.and_lt_two_pow _ (by omega)
  show IntKind.i64.wrap ((BitVec.ofInt 64 (a : Int) &&& BitVec.ofInt 64 (b : Int)).toNat : Int) = _
  rw [BitVec.toNat_and, ofInt_i64 a ha, ofInt_i64 b hb]
  exact wrap_i64_id _ (by omega) (by omega)
theorem i64_orr (a b : Nat) (ha : a < 9223372036854775808) (hb : b < 9223372036854775808) : bits .or .i64 (a : Int) (b : Int) = ((orr a b : Nat) : Int) := by
  have hx : a ||| b < 2 ^ 63 := Nat.or_lt_two_pow (by omega) (by omega)
  show IntKind.i64.wrap ((BitVec.ofInt 64 (a : Int) ||| BitVec.ofInt 64 (b : Int)).toNat : Int) = _
  rw [BitVec.toNat_or, ofInt_i64 a ha, ofInt_i64 b hb]
  exact wrap_i64_id _ (by omega) (by omega)
theorem i64_xo (a b : Nat) (ha : a < 9223372036854775808) (hb : b < 9223372036854775808) : bits .xor .i64 (a : Int) (b : Int) = ((xo a b : Nat) : Int) := by
  have hx : a ^^^ b < 2 ^ 63 := Nat.xor_lt_two_pow (by omega) (by omega)
  show IntKind.i64.wrap ((BitVec.ofInt 64 (a : Int) ^^^ BitVec.ofInt 64 (b : Int)).toNat : Int) = _
  rw [BitVec.toNat_xor, ofInt_i64 a ha, ofInt_i64 b hb]
  exact wrap_i64_id _ (by omega) (by omega)
theorem i64_pl (a b : Nat) (h : a + b < 9223372036854775808) : IntKind.i64.wrap ((a : Int) + (b : Int)) = ((pl a b : Nat) : Int) := by
  rw [wrap_i64_id _ (by omega) (by omega)]; unfold pl; omega
theorem i64_byte (a : Nat) (h : a < 256) : IntKind.i64.wrap (a : Int) = (a : Int) := wrap_i64_id _ (by omega) (by omega)
theorem i64_s24 (a : Nat) (h : a < 256) : IntKind.i64.wrap ((a : Int) * 16777216) = ((shl a 24 : Nat) : Int) := by
  rw [wrap_i64_id _ (by omega) (by omega)]; unfold shl; rw [Nat.shiftLeft_eq]; omega
theorem i64_s16 (a : Nat) (h : a < 256) : IntKind.i64.wrap ((a : Int) * 65536) = ((shl a 16 : Nat) : Int) := by
  rw [wrap_i64_id _ (by omega) (by omega)]; unfold shl; rw [Nat.shiftLeft_eq]; omega
theorem i64_s8 (a : Nat) (h : a < 256) : IntKind.i64.wrap ((a : Int) * 256) = ((shl a 8 : Nat) : Int) := by
  rw [wrap_i64_id _ (by omega) (by omega)]; unfold shl; rw [Nat.shiftLeft_eq]; omega
theorem i64_low (a : Nat) (h : a < 9223372036854775808) : bits .and .i64 (a : Int) 4294967295 = ((a % 4294967296 : Nat) : Int) := by
  have e := i64_an a 4294967295 h (by omega)
  rw [show ((4294967295 : Nat) : Int) = 4294967295 from rfl] at e
  rw [e]
  unfold an
  rw [show 4294967295 = 2 ^ 32 - 1 from rfl, Nat.and_two_pow_sub_one_eq_mod]
theorem ror_low (x n : Nat) (hx : x < 4294967296) (hn : 1 ≤ n) (hn' : n ≤ 31) :
    bits .and .i64 (bits .or .i64 ((x : Int) / 2 ^ n) ((x : Int) * 2 ^ (32 - n))) 4294967295 = ((ror x n : Nat) : Int) := by
  have a1 : (x : Int) / 2 ^ n = ((x >>> n : Nat) : Int) := by rw [Nat.shiftRight_eq_div_pow]; simp
  have a2 : (x : Int) * 2 ^ (32 - n) = ((x <<< (32 - n) : Nat) : Int) := by rw [Nat.shiftLeft_eq]; simp
  have hl : x <<< (32 - n) < 2 ^ 63 := by
    rw [Nat.shiftLeft_eq]
    calc x * 2 ^ (32 - n) < 2 ^ 32 * 2 ^ (32 - n) := Nat.mul_lt_mul_of_pos_right (by omega) (Nat.two_pow_pos _)
      _ = 2 ^ (32 + (32 - n)) := by rw [Nat.pow_add]
      _ ≤ 2 ^ 63 := Nat.pow_le_pow_right (by omega) (by omega)
  have hr := shr_lt x n hx
  rw [a1, a2, i64_orr _ _ (by omega) (by omega)]
  have ho : orr (x >>> n) (x <<< (32 - n)) < 2 ^ 63 := Nat.or_lt_two_pow (by omega) hl
  rw [i64_low _ (by omega)]
  unfold orr ror
  rw [show 4294967296 = 2 ^ 32 from rfl, Nat.or_mod_two_pow, Nat.mod_eq_of_lt (a := x >>> n) (by omega), Nat.or_comm]
theorem rx_pl (e f g i kk ww : Nat) : pl (pl (pl (pl i (bs1 e)) (chs e f g)) kk) ww % 4294967296 = rx e f g i kk ww := by unfold rx pl ad; omega
theorem rx_lt (e f g i kk ww : Nat) : rx e f g i kk ww < 4294967296 := ad_lt _ _
theorem ry_lt (a b c : Nat) : ry a b c < 4294967296 := ad_lt _ _
theorem i64_inv (e : Nat) (he : e < 4294967296) : bits .xor .i64 4294967295 (e : Int) = ((inv e : Nat) : Int) := by
  have h := i64_xo 4294967295 e (by omega) (by omega)
  rw [show ((4294967295 : Nat) : Int) = 4294967295 from rfl] at h
  rw [h]
  unfold xo inv
  rw [Nat.xor_comm]
theorem i64_low2 (a b : Nat) (ha : a < 4294967296) (hb : b < 4294967296) : bits .and .i64 ((a : Int) + (b : Int)) 4294967295 = ((ad a b : Nat) : Int) := by
  have h := i64_low (a + b) (by omega)
  rw [show ((a : Int) + (b : Int)) = ((a + b : Nat) : Int) by omega]
  exact h
theorem i64_low3 (a b : Nat) (h : a + b < 9223372036854775808) : bits .and .i64 ((pl a b : Nat) : Int) 4294967295 = ((ad a b : Nat) : Int) := i64_low (pl a b) h
theorem St.get_lt {s : List Nat} (h : St s) (j : Nat) : s.getD j 0 < 4294967296 := by
  rcases Nat.lt_or_ge j s.length with hj | hj
  · rw [List.getD_eq_getElem?_getD, List.getElem?_eq_getElem hj]; exact h.2 _ (List.getElem_mem hj)
  · rw [List.getD_eq_getElem?_getD, List.getElem?_eq_none hj]; simp

/-! ### a number by so many bytes -/
def bigN (n many : Nat) : List UInt8 := (List.range many).map fun j => UInt8.ofNat (n / 2 ^ (8 * (many - 1 - j)))
theorem bigN_length (n many : Nat) : (bigN n many).length = many := by simp [bigN]
theorem bigN_8 (n : Nat) : bigN n 8 = be8 n := by
  unfold bigN be8
  apply List.map_congr_left
  intro j hj
  rw [List.mem_range] at hj
  rw [show 8 * (8 - 1 - j) = 56 - 8 * j by omega]
theorem bigN_4 (n : Nat) : bigN n 4 = be4 n := by
  simp [bigN, be4, List.range_succ]
/-- when i bytes have been laid, from behind -/
def bigPart (n many i : Nat) : List UInt8 := List.replicate (many - i) 0 ++ (bigN n many).drop (many - i)
theorem bigPart_length (n many i : Nat) (h : i ≤ many) : (bigPart n many i).length = many := by
  unfold bigPart
  rw [List.length_append, List.length_replicate, List.length_drop, bigN_length]; omega
theorem bigPart_zero (n many : Nat) : bigPart n many 0 = List.replicate many 0 := by
  unfold bigPart
  rw [List.drop_eq_nil_of_le (by rw [bigN_length, Nat.sub_zero]; exact Nat.le_refl _), List.append_nil, Nat.sub_zero]
theorem bigPart_all (n many : Nat) : bigPart n many many = bigN n many := by simp [bigPart]
theorem bigPart_step (n many i : Nat) (h : i < many) : (bigPart n many i).set (many - 1 - i) (UInt8.ofNat (n / 2 ^ (8 * i))) = bigPart n many (i + 1) := by
  unfold bigPart
  obtain ⟨k, hk⟩ : ∃ k, many - i = k + 1 := ⟨many - i - 1, by omega⟩
  rw [hk, show many - 1 - i = k by omega, show many - (i + 1) = k by omega, List.replicate_succ']
  rw [List.append_assoc, List.set_append_right _ _ (by simp), List.length_replicate, Nat.sub_self, List.singleton_append, List.set_cons_zero]
  rw [List.drop_eq_getElem_cons (i := k) (by rw [bigN_length]; omega)]
  congr 2
  simp [bigN, show many - 1 - k = i by omega]
end Go.Scr
