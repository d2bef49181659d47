/- filled, Load; an edge's nodes, its clone: walked. -/
import Derived.Test.YtdbghgpohdijfaaDoorMa33
import Derived.Test.YtdbghgpohdijfaaDoorMa31
import Derived.Deep.RegionHeld3
namespace Go.Proofs.YtdbghgpohdijfaaDoor
open Go.RowKit Go.Scr Go.ChangeMaps Go.MapKept
set_option linter.unusedVariables false
theorem txts_cellF {w : World} {p : Option Addr} {n c : Nat} {L : List ByteArray} (h : Txts w (.slice p n c) L) {i : Nat} {s : ByteArray} (hs : L[i]? = some s) : ∃ a, p = some a ∧ ∀ w', Below w.heap.size w w' → w'.cell? (a.add i) = some (.string s) := by
  obtain ⟨p', c', hpe, _, _, hq⟩ := h
  obtain rfl : p = p' := by cases hpe; rfl
  obtain ⟨a, ha, hcell⟩ := hq i s hs
  exact ⟨a, ha, fun w' hb => (hb.cell (block_lt_of_cell hcell)).trans hcell⟩
set_option maxRecDepth 100000 in
set_option maxHeartbeats 4000000 in
theorem ffilled_any {w : World} {B b e : Nat} {v : Value} {val : Nat → Nat → ByteArray} (hB : Bas w B) (hbe : b ≤ e) (he : e ≤ 1099511627776) (hd : e - b ≤ 4096) (hv : Txts w v (nodesA val b e)) (h32 : ∀ s ∈ nodesA val b e, s.size = 32) :
    Calls Tryd.prog 95 #[.int .i64 (b : Int), .int .i64 (e : Int), v] w fun o w' => ∃ u, o = .returned (.tuple #[u, .int .i64 0]) ∧ PcI w w' u (rowA val b e) := by
  have CC := Lib.hid (fcut_any hB hbe he hd)
  have HV := Lib.hid hv
  have hnl := nodesA_len val b e
  have hnn : (bareA b e).length ≤ 4096 := Nat.le_trans (rowA_len _ b e) hd
  obtain ⟨p, c, rfl, hv1, hv2, _⟩ := hv
  obtain ⟨n, hn⟩ : ∃ n, n = (bareA b e).length := ⟨_, rfl⟩
  rw [hnl, ← hn] at HV hv1 hv2 ⊢
  have HF : Hid ((bareA b e).length = n ∧ (nodesA val b e).length = n ∧ (∀ s ∈ nodesA val b e, s.size = 32) ∧ fillA val b e 0 = bareA b e ∧ fillA val b e n = rowA val b e) := Lib.hid ⟨hn.symm, by rw [hnl, hn], h32, fillA_zero val b e, by rw [hn]; exact fillA_all val b e⟩
  have hn4 : n ≤ 4096 := by omega
  clear hB hbe he hd h32 hnl hnn hn hv1
  go_enter Tryd.func95, Tryd.ntmps95
  go_upto_region 2 with (go_at_call 126; refine CC.out.mono ?_; rintro o w1 ⟨u, rfl, hu⟩; have HU := Lib.hid hu; clear hu)
  obtain ⟨q, d, rfl, _⟩ := HU.out.h.cells
  rw [HF.out.1] at HU ⊢
  have HI0 : Hid (PcI w w1 (.slice q n d) (fillA val b e 0)) := Lib.hid (by rw [HF.out.2.2.2.1]; exact HU.out)
  go_wp2_with fail
  go_loopw [21] (fun k wr => ∃ i : Nat, k = .int .i64 (i : Int) ∧ i ≤ n ∧ Hid (PcI w wr (.slice q n d) (fillA val b e i))) (fun k _ => n - (intOf k).toNat)
  case atStart => exact ⟨0, rfl, Nat.zero_le _, HI0⟩
  case round =>
    clear HI0
    obtain ⟨i, rfl, hi, HI⟩ := hrel
    by_cases hlt : i < n
    · have hli : (i : Int) < (n : Int) := by omega
      have hi0 : (0 : Int) ≤ (i : Int) := by omega
      obtain ⟨s, hs⟩ : ∃ s, (nodesA val b e)[i]? = some s := ⟨(nodesA val b e)[i]'(by have := HF.out; omega), List.getElem?_eq_getElem _⟩
      obtain ⟨a, rfl, hac⟩ := txts_cellF HV.out hs
      have hcell := hac wr HI.out.b
      have hsz : (s.size : Int) = 32 := by have := HF.out.2.2.1 s (List.mem_of_getElem? hs); omega
      obtain ⟨x, hx, hnx⟩ := fillA_next hs
      have hlen : (fillA val b e i).length = n := by
        have := HI.out.h.cells
        obtain ⟨p', c', hpe, _⟩ := this
        injection hpe with e1 e2 e3
        exact e2.symm
      obtain ⟨g, rfl, hg⟩ := held_cellP HI.out.h (by omega)
      obtain ⟨_, _, x2⟩ := pcV_get hx
      have hcx := hg _ _ x2
      have hfz : wr.frozen? ⟨g, i * 3 + 1 + 1, none⟩ = false := by
        rcases HI.out.h.2 with ⟨e0, _⟩ | ⟨g', cap, cur, e0, hgb, _⟩
        · exact nomatch e0
        · injection e0 with e1 e2 e3
          injection e1 with e1
          injection e1 with e1
          subst e1
          exact frozB hgb
      have HNX : Hid (PcI w (wr.setCell ⟨g, i * 3 + 2, none⟩ (.string s)) (.slice (some ⟨g, 0, none⟩) n d) (fillA val b e (i + 1))) := Lib.hid (by rw [hnx]; exact HI.out.set rfl hx)
      have HLT := Lib.hid hlt
      clear hlt hs hac hx hnx hlen hg x2
      go_wp2_with fail
      exact ⟨⟨i + 1, by simp, HLT.out, HNX⟩, by show n - ((i : Int) + 1).toNat < n - (i : Int).toNat; have := HLT.out; omega⟩
    · obtain rfl : i = n := by omega
      have hli : ¬ (i : Int) < (i : Int) := by omega
      clear hlt
      go_wp2_with fail
      go_ret2
      exact ⟨_, rfl, by have := HI.out; rwa [HF.out.2.2.2.2] at this⟩
set_option maxRecDepth 100000 in
set_option maxHeartbeats 1000000 in
theorem fplace_yes (n : Nat) (w : World) (hn : n ≤ 1099511627776) : Calls Tryd.prog 85 #[.int .i64 (n : Int)] w fun o w' => o = .returned (.bool true) ∧ w' = w := by
  have h0 : (0 : Int) ≤ (n : Int) := by omega
  have h1 : (n : Int) ≤ 1099511627776 := by omega
  clear hn
  go_enter Tryd.func85, Tryd.ntmps85
  go_wp2
  go_ret
  exact ⟨rfl, rfl⟩
set_option maxRecDepth 100000 in
set_option maxHeartbeats 1000000 in
theorem fload_any {w : World} {B : Nat} {v : Value} {L : List ByteArray} (hB : Bas w B) (hL : L.length ≤ 4096) (hz : ∀ s ∈ L, s.size = 32) (hv : Txts w v (nodesA (valF L 0) 0 L.length)) :
    Calls Tryd.prog 45 #[.int .i64 (L.length : Int), v] w fun o w' => ∃ eb, o = .returned (.tuple #[.pointer (some ⟨eb, 0, none⟩), .int .i64 0]) ∧ EdU w w' eb L := by
  obtain ⟨n, hn⟩ : ∃ n, n = L.length := ⟨_, rfl⟩
  have CF : Hid (Calls Tryd.prog 95 #[.int .i64 0, .int .i64 (n : Int), v] w fun o w' => ∃ u, o = .returned (.tuple #[u, .int .i64 0]) ∧ PcI w w' u (rowA (valF L 0) 0 n)) := Lib.hid (by
    have := ffilled_any (b := 0) (e := n) (val := valF L 0) hB (Nat.zero_le _) (by omega) (by omega) (by rw [hn]; exact hv) (by rw [hn]; exact fun s hs => nodesA_32 hz hs)
    exact this)
  have CP : Hid (Calls Tryd.prog 85 #[.int .i64 (n : Int)] w fun o w' => o = .returned (.bool true) ∧ w' = w) := Lib.hid (fplace_yes n w (by omega))
  have HL : Hid (n = L.length ∧ L.length ≤ 4096) := Lib.hid ⟨hn, hL⟩
  rw [← hn]
  clear hn hL hz hv hB
  go_enter Tryd.func45, Tryd.ntmps45
  go_wp2_with (first
    | (go_at_call 85; with_reducible refine CP.out.mono ?_; rintro o w' ⟨rfl, hww⟩; replace hww := hww.symm; subst hww)
    | (go_at_call 95; with_reducible refine CF.out.mono ?_; rintro o w1 ⟨u, rfl, hu⟩; obtain ⟨p5, c5, rfl, _⟩ := hu.h.cells; have HU := Lib.hid hu; clear hu))
  go_ret2
  have hu := HU.out
  refine ⟨w1.heap.size, rfl, _, ⟨hu.b.alloc hu.b.size _, ⟨?_, ?_, fun e => ?_⟩, ⟨hu.b.size, hu.o⟩, HL.out.2⟩⟩
  · rw [← HL.out.1]
    exact heap_alloc_new w1 _
  · rw [← HL.out.1]
    exact hu.h.below ((Below.refl _ _).alloc (Nat.le_refl _) _)
  · have := hu.h.lt e
    omega
theorem pcs_get {w : World} {n : Nat} {P : List Pc} {p : Option Addr} {c : Nat} (h : Held w 115 3 (.slice p n c) P.length (pcV P)) {i : Nat} {x : Pc} (hx : P[i]? = some x) :
    ∃ g, p = some ⟨g, 0, none⟩ ∧ ∀ w', Below w.heap.size w w' → w'.cell? ⟨g, i * 3, none⟩ = some (.int .i64 (x.1 : Int)) ∧ w'.cell? ⟨g, i * 3 + 1, none⟩ = some (.int .i64 (x.2.1 : Int)) ∧ w'.cell? ⟨g, i * 3 + 1 + 1, none⟩ = some (.string x.2.2) := by
  have hi := (List.getElem?_eq_some_iff.mp hx).1
  obtain ⟨g, rfl, hg⟩ := held_cellP h (by omega)
  obtain ⟨x0, x1, x2⟩ := pcV_get hx
  have hk : ∀ {y : Addr} {u : Value} {w' : World}, w.cell? y = some u → Below w.heap.size w w' → w'.cell? y = some u := fun h hb => (hb.cell (block_lt_of_cell h)).trans h
  exact ⟨g, rfl, fun w' hb => ⟨hk (hg _ _ x0) hb, hk (hg _ _ x1) hb, hk (hg _ _ x2) hb⟩⟩
set_option maxRecDepth 100000 in
set_option maxHeartbeats 4000000 in
theorem fnodes_any {w1 w : World} {eb : Nat} {L : List ByteArray} (H : EdU w1 w eb L) :
    Calls Tryd.prog 24 #[rowP eb] w fun o w' => ∃ v, o = .returned v ∧ LfI w w' v (nodesA (valF L 0) 0 L.length).length (nodesA (valF L 0) 0 L.length) := by
  obtain ⟨v, h⟩ := H
  obtain ⟨P, hP⟩ : ∃ P, P = rowA (valF L 0) 0 L.length := ⟨_, rfl⟩
  have hl : P.length ≤ 4096 := by rw [hP]; have h1 := rowA_len (valF L 0) 0 L.length; have h2 := h.n; omega
  have hfr := h.fr
  rw [← hP] at hfr
  obtain ⟨K, hK⟩ : ∃ K, K = nodesA (valF L 0) 0 L.length := ⟨_, rfl⟩
  have hKP : K = P.map fun x => x.2.2 := by rw [hK, hP]; rfl
  rw [← hK]
  obtain ⟨n, hn⟩ : ∃ n, n = P.length := ⟨_, rfl⟩
  have hKn : K.length = n := by rw [hKP, List.length_map, hn]
  obtain ⟨p, c, rfl, hnc, _⟩ := hfr.hd.cells
  rw [hKn]
  rw [← hn] at hfr hnc hl
  have c0 : w.cell? ⟨eb, 0, none⟩ = some (.slice p n c) := cellB hfr.box rfl
  have HF := Lib.hid hfr.hd
  have HK : Hid (n = P.length ∧ K.length = n ∧ K = P.map fun x => x.2.2) := Lib.hid ⟨hn, hKn, hKP⟩
  have HI0 : Hid (LfI w w (.slice none 0 0) 0 (K.take 0)) := Lib.hid ⟨Below.refl _ _, ⟨by rw [List.take_zero]; rfl, .inl ⟨rfl, rfl⟩⟩, fun g hg => nomatch hg⟩
  clear h hfr hP hK hKP hKn hn
  go_enter Tryd.func24, Tryd.ntmps24
  go_wp2_with fail
  clear c0
  go_loopw [3, 11] (fun l k wr => ∃ (i : Nat) (q : Option Addr) (d : Nat), k = .int .i64 (i : Int) ∧ l = .slice q i d ∧ i ≤ n ∧ Hid (LfI w wr (.slice q i d) i (K.take i))) (fun _ k _ => n - (intOf k).toNat)
  case atStart => exact ⟨0, none, 0, rfl, rfl, Nat.zero_le _, HI0⟩
  case round =>
    clear HI0
    obtain ⟨i, q, d, rfl, rfl, hi, HI⟩ := hrel
    by_cases hlt : i < n
    · have hli : (i : Int) < (n : Int) := by omega
      have hi0 : (0 : Int) ≤ (i : Int) := by omega
      obtain ⟨⟨xb, xl, xs⟩, hx⟩ : ∃ x, P[i]? = some x := ⟨P[i]'(by have := HK.out; omega), List.getElem?_eq_getElem _⟩
      obtain ⟨g, rfl, hg⟩ := pcs_get HF.out hx
      obtain ⟨d0, d1, d2⟩ := hg wr HI.out.b
      have HTK : Hid (K.take (i + 1) = K.take i ++ [xs]) := Lib.hid (by rw [List.take_add_one, HK.out.2.2, List.getElem?_map, hx]; rfl)
      have HONE : Hid (∀ u ∈ [Value.string xs], u.oneCell' = true) := Lib.hid (fun u hu => by rw [List.mem_singleton.1 hu]; rfl)
      have HHD : Hid (∀ o, Held (wr.alloc o) 9 1 (.slice q i d) i ((K.take i).map Value.string)) := Lib.hid (fun o => HI.out.h.below ((Below.refl _ _).alloc (Nat.le_refl _) o))
      have HP5 : Hid (∀ o cs T v5 w5, Grew 9 1 ((wr.alloc o).alloc (.cells cs T)) (.slice q i d) i 1 ((K.take i).map Value.string) [.string xs] v5 w5 → LfI w w5 v5 (i + 1) (K.take (i + 1))) := Lib.hid (fun o cs T v5 w5 g5 => by rw [HTK.out]; exact (HI.out.below ((Below.refl _ _).alloc (Nat.le_refl _) o)).push g5)
      have hl1 : (i + 1) * 16 ≤ 140737488355328 := by omega
      have hl2 : i + 1 ≤ 140737488355328 := by omega
      have HLT := Lib.hid hlt
      clear hlt hx hg
      go_wp2_with (at_builtin; refine wpList_grew (v := .slice q i d) rfl _ _ rfl Tryd.underlying22 (.string ⟨#[]⟩) 1 info_strT rfl (by decide) [.string xs] 1 (by simp [Act.eval]) (by simp [Act.eval]) (HHD.out _) rfl rfl (by decide) HONE.out hl1 hl2 ?_; intro v5 w5 hg5; obtain ⟨p5, c5, rfl, _⟩ := hg5.held.cells; have HI5 := Lib.hid (HP5.out _ _ _ _ _ hg5); clear hg5)
      exact ⟨⟨i + 1, p5, c5, by simp, rfl, HLT.out, HI5⟩, by show n - ((i : Int) + 1).toNat < n - (i : Int).toNat; have := HLT.out; omega⟩
    · obtain rfl : i = n := by omega
      have hli : ¬ (i : Int) < (i : Int) := by omega
      clear hlt
      go_wp2_with fail
      go_ret
      exact ⟨_, rfl, by have := HI.out; rwa [List.take_of_length_le (by have := HK.out.2.1; omega)] at this⟩
set_option maxRecDepth 100000 in
set_option maxHeartbeats 4000000 in
theorem fclone_any {w1 w : World} {eb : Nat} {L : List ByteArray} (H : EdU w1 w eb L) :
    Calls Tryd.prog 47 #[.pointer (some ⟨eb, 0, none⟩)] w fun o w' => ∃ nb, o = .returned (.pointer (some ⟨nb, 0, none⟩)) ∧ EdU w w' nb L := by
  obtain ⟨v, h⟩ := H
  obtain ⟨P, hP⟩ : ∃ P, P = rowA (valF L 0) 0 L.length := ⟨_, rfl⟩
  obtain ⟨n, hn⟩ : ∃ n, n = L.length := ⟨_, rfl⟩
  have hl : P.length ≤ 4096 := by rw [hP]; have h1 := rowA_len (valF L 0) 0 L.length; have h2 := h.n; omega
  have hfr := h.fr
  rw [← hP, ← hn] at hfr
  obtain ⟨p, c, rfl, _⟩ := hfr.hd.cells
  obtain ⟨m, hm⟩ : ∃ m, m = P.length := ⟨_, rfl⟩
  rw [← hm] at hfr
  have HC : Hid (∀ w', Below w.heap.size w w' → w'.cell? ⟨eb, 0, none⟩ = some (.slice p m c) ∧ w'.cell? ⟨eb, 1, none⟩ = some (.int .i64 (n : Int))) := Lib.hid (fun w' hb => by
    have := (hfr.below hb).box
    exact ⟨cellB this rfl, cellB this rfl⟩)
  have CC : Hid (∀ w', Below w.heap.size w w' → Calls Tryd.prog 96 #[.slice p m c] w' fun r w2 => ∃ v', r = .returned v' ∧ Held w2 115 3 v' m (pcV P) ∧ (∀ q, v'.ownBlock = some q → w'.heap.size ≤ q) ∧ Below w'.heap.size w' w2) := Lib.hid (fun w' hb => by
    have h1 := (hfr.below hb).hd
    rw [← hm] at h1
    exact cloneP_any h1 (by omega))
  have HH : Hid (P = rowA (valF L 0) 0 L.length ∧ n = L.length ∧ m = P.length ∧ L.length ≤ 4096) := Lib.hid ⟨hP, hn, hm, h.n⟩
  have HB0 : Hid (Below w.heap.size w w.drew) := Lib.hid (Below.refl _ _).drew
  clear h hP hn hl hfr hm
  go_enter Tryd.func47, Tryd.ntmps47
  go_upto_region 1 with fail
  go_region_held3 (fun w' => w'.cell? ⟨eb, 0, none⟩ = some (.slice p m c) ∧ w'.cell? ⟨eb, 1, none⟩ = some (.int .i64 (n : Int))) (exact HC.out _ (by first | exact HB2.out | exact HB2.out.alloc HB2.out.size _ | exact HB0.out)) (first
    | (go_at_call 96; (with_reducible refine (CC.out _ HB0.out).mono ?_); rintro o w2 ⟨v2, rfl, h1, h2, h3⟩; obtain ⟨p2, c2, rfl, _⟩ := h1.cells; have HB2 : Hid (Below w.heap.size w w2) := Lib.hid (HB0.out.trans h3); have H1 := Lib.hid h1; have H2 := Lib.hid h2; clear h1 h2 h3))
  go_wp2_with fail
  go_ret
  have hh := HH.out
  refine ⟨w2.heap.size, rfl, _, ⟨HB2.out.alloc HB2.out.size _, ⟨?_, ?_, fun e => ?_⟩, ⟨HB2.out.size, fun g hg => H2.out g hg⟩, hh.2.2.2⟩⟩
  · rw [← hh.2.1]
    exact heap_alloc_new w2 _
  · rw [← hh.1, ← hh.2.2.1]
    exact H1.out.below ((Below.refl _ _).alloc (Nat.le_refl _) _)
  · have := H1.out.lt e
    omega
end Go.Proofs.YtdbghgpohdijfaaDoor
