/- Law 3's sameInts; what stands between two turns of RecursionTells. -/
import Derived.Test.YtejdpahgofhioaaDoorTl0
import Derived.Test.YtejdpahgofhioaaDoorBk3c
import Derived.Test.YtejdpahgofhioaaDoorL3a
namespace Go.Proofs.YtejdpahgofhioaaDoor
open Go.RowKit Go.Scr Bk3
set_option linter.unusedVariables false

set_option maxRecDepth 100000 in
set_option maxHeartbeats 1000000 in
theorem sameInts3_any (v v2 : Value) (Z : List Int) (w : World) (hv : Ints w v Z) (hv2 : Ints w v2 Z) (hl : Z.length ≤ 1048576) :
    Calls Tryd.prog 33 #[v, v2] w fun e w' => e = .returned (.bool true) ∧ Below w.heap.size w w' := by
  obtain ⟨p, c, rfl, hv1, _, hvb, hv3⟩ := hv
  obtain ⟨p2, c2, rfl, hw1, _, _, hw3⟩ := hv2
  obtain ⟨n, hn⟩ : ∃ n, n = Z.length := ⟨_, rfl⟩
  rw [← hn] at hv1 hw1 hl ⊢
  have HN := Lib.hid hn
  have HV := Lib.hid hv3
  have HW := Lib.hid hw3
  have hnn : ((n : Int) != (n : Int)) = false := by simp
  clear hn hv3 hw3 hvb
  go_enter Tryd.func33, Tryd.ntmps33
  go_wp2_with fail
  go_loopw [5] (fun q wr => ∃ i : Nat, i ≤ n ∧ q = .int .i64 i ∧ Below w.heap.size w wr) (fun q _ => n - (intOf q).toNat)
  case atStart => exact ⟨0, by omega, rfl, Below.refl _ _⟩
  case round =>
    obtain ⟨i, hi, rfl, hbel⟩ := hrel
    have HBEL := Lib.hid hbel
    clear hbel
    by_cases hlt : i < n
    · have hlti : (i : Int) < (n : Int) := by omega
      have hi0 : (0 : Int) ≤ (i : Int) := by omega
      have hib : i ≤ 1048576 := by omega
      obtain ⟨z, hz⟩ : ∃ z, Z[i]? = some z := ⟨Z[i]'(by have := HN.out; omega), List.getElem?_eq_getElem _⟩
      obtain ⟨a, rfl, ha⟩ := HV.out i z hz
      obtain ⟨a2, rfl, ha2⟩ := HW.out i z hz
      have f1 := (HBEL.out.cell (block_lt_of_cell ha)).trans ha
      have f2 := (HBEL.out.cell (block_lt_of_cell ha2)).trans ha2
      have hzz : (z != z) = false := by simp
      have HLT := Lib.hid hlt
      clear ha ha2 hz hlt
      go_upto_region 6 with fail
      go_quiet (fail)
      have HB2 : Hid (Below w.heap.size w (wr.drewN nq)) := Lib.hid (below_drewN HBEL.out nq)
      generalize wr.drewN nq = wx at HB2 ⊢
      clear f1 f2
      go_wp2_with fail
      exact ⟨⟨i + 1, by have := HLT.out; omega, rfl, HB2.out⟩, (by show n - ((i : Int) + 1).toNat < n - (i : Int).toNat; have := HLT.out; omega)⟩
    · have hlti : ¬ ((i : Int) < (n : Int)) := by omega
      go_wp2_with fail
      go_ret
      exact ⟨rfl, HBEL.out⟩

/-- what stands while RecursionTells asks -/
structure TI (W0 : World) (n g gz nz dz b : Nat) (Z : List Int) (m : Nat) (wr : World) (M : List ByteArray) (col : Nat → Nat) (V : Nat → Value) (fr : List (Value × List ByteArray)) (wl : List Value) : Prop where
  hM : M.length = n
  row : SRow wr g (fillS M 8)
  wan : Held wr 3 1 (.slice (some ⟨gz, 0, none⟩) (nz + 8) dz) (nz + 8) ((Z ++ List.replicate 8 77).map (Value.int .i64))
  bk : BookI wr W0.heap.size b col V fr wl [] [] []
  fl : fr.length = m
  wll : wl.length = fr.length
  ln : ∀ p ∈ fr, p.2.length ≤ 1048576
  bl : Below W0.heap.size W0 wr
  cg : col g = 0
  cz : col gz = 0
  lo : W0.heap.size ≤ g
  ne : g ≠ gz
theorem TI.below {W0 wr w' : World} {n g gz nz dz b m : Nat} {Z : List Int} {M : List ByteArray} {col : Nat → Nat} {V : Nat → Value} {fr : List (Value × List ByteArray)} {wl : List Value} (h : TI W0 n g gz nz dz b Z m wr M col V fr wl) (hb : Below wr.heap.size wr w') : TI W0 n g gz nz dz b Z m w' M col V fr wl :=
  ⟨h.hM, h.row.below hb h.row.lt, h.wan.below hb, h.bk.below hb, h.fl, h.wll, h.ln, below_from h.bl hb h.bl.size, h.cg, h.cz, h.lo, h.ne⟩
theorem TI.turned {W0 wr w' : World} {n g gz nz dz b m : Nat} {Z : List Int} {M M2 : List ByteArray} {col : Nat → Nat} {V : Nat → Value} {fr : List (Value × List ByteArray)} {wl : List Value} (h : TI W0 n g gz nz dz b Z m wr M col V fr wl) (hg : wr.grownBy w' (some g)) (hr : SRow w' g (fillS M2 8)) (hm : M2.length = n) : TI W0 n g gz nz dz b Z m w' M2 col V fr wl := by
  have hs := hg.size
  refine ⟨hm, hr, h.wan.keep fun g' hg' => ?_, h.bk.move (fun g' hg' h1 => ?_) (fun _ _ => rfl) (fun g' hne => ?_), h.fl, h.wll, h.ln, h.bl.grown hg h.bl.size (fun k e => by cases e; exact h.lo), h.cg, h.cz, h.lo, h.ne⟩
  · exact hg.block g' (h.wan.lt hg') (by cases hg'; intro e; cases e; exact h.ne rfl)
  · exact hg.block g' hg' (by intro e; cases e; rw [h.cg] at h1; omega)
  · have := h.bk.st.lo g' hne; omega
theorem TI.dye {W0 wr w' : World} {n g gz nz dz b m : Nat} {Z : List Int} {M : List ByteArray} {col : Nat → Nat} {V : Nat → Value} {fr : List (Value × List ByteArray)} {wl : List Value} (h : TI W0 n g gz nz dz b Z m wr M col V fr wl) (hb : Below wr.heap.size wr w') (v : Value) (k : Nat) (hv : ∀ g, v.ownBlock = some g → wr.heap.size ≤ g ∧ g < w'.heap.size) :
    TI W0 n g gz nz dz b Z m w' M (dyeV col v k) V fr wl ∧ ∀ g, g < wr.heap.size → dyeV col v k g = col g := by
  have h2 := h.below hb
  obtain ⟨d1, d2⟩ := h.bk.dye hb h.bl.size k hv
  exact ⟨⟨h2.hM, h2.row, h2.wan, d1, h2.fl, h2.wll, h2.ln, h2.bl, (d2 g h.row.lt).trans h.cg, (d2 gz (h.wan.lt rfl)).trans h.cz, h2.lo, h2.ne⟩, d2⟩
/-- a list that waits to be taken -/
structure PL (w : World) (col : Nat → Nat) (v : Value) (L : List ByteArray) (k : Nat) : Prop where
  he : Held w 9 1 v L.length (L.map Value.string)
  co : ∀ g, v.ownBlock = some g → col g = k
  ln : L.length ≤ 1048576
  k4 : 4 ≤ k
theorem PL.below {w w' : World} {col : Nat → Nat} {v : Value} {L : List ByteArray} {k : Nat} (h : PL w col v L k) (hb : Below w.heap.size w w') : PL w' col v L k := ⟨h.he.below hb, h.co, h.ln, h.k4⟩
theorem PL.recol {w : World} {col col' : Nat → Nat} {v : Value} {L : List ByteArray} {k : Nat} (h : PL w col v L k) (hc : ∀ g, g < w.heap.size → col' g = col g) : PL w col' v L k := ⟨h.he, fun g hg => (hc g (h.he.lt hg)).trans (h.co g hg), h.ln, h.k4⟩
theorem PL.only {w w' : World} {col col' : Nat → Nat} {v : Value} {L : List ByteArray} {k : Nat} (h : PL w col v L k) (ho : Only col (fun c => 1 ≤ c ∧ c < 4) w w') (hc : ∀ g, g < w.heap.size → col' g = col g) : PL w' col' v L k :=
  ⟨h.he.keep fun g hg => ho.block g (h.he.lt hg) (by have := h.co g hg; have := h.k4; omega), fun g hg => (hc g (h.he.lt hg)).trans (h.co g hg), h.ln, h.k4⟩
theorem TI.took {W0 wr w' : World} {n g gz nz dz b m : Nat} {Z : List Int} {M : List ByteArray} {col : Nat → Nat} {V : Nat → Value} {fr : List (Value × List ByteArray)} {wl : List Value} {v : Value} {L : List ByteArray} (h : TI W0 n g gz nz dz b Z m wr M col V fr wl) (hl : L.length ≤ 1048576)
    (hk : Took wr w' W0.heap.size b col (fr ++ [(v, L)]) wl [] [] []) : ∃ col' V' wl', TI W0 n g gz nz dz b Z (m + 1) w' M col' V' (fr ++ [(v, L)]) wl' ∧ Only col (fun c => 1 ≤ c ∧ c < 4) wr w' ∧ ∀ g, g < wr.heap.size → col' g = col g := by
  obtain ⟨col', V', x, k1, k2, k3⟩ := hk
  have hrow : w'.heap[g]? = wr.heap[g]? := k2.block g h.row.lt (by rw [h.cg]; omega)
  refine ⟨col', V', wl ++ [x], ⟨h.hM, hrow.trans h.row, h.wan.keep fun g' hg' => k2.block g' (h.wan.lt hg') (by cases hg'; rw [h.cz]; omega), k1, by rw [List.length_append, h.fl]; rfl, by rw [List.length_append, List.length_append, h.wll]; rfl, fun p hp => ?_, ?_, (k3 g h.row.lt).trans h.cg, (k3 gz (h.wan.lt rfl)).trans h.cz, h.lo, h.ne⟩, k2, k3⟩
  · rcases List.mem_append.mp hp with hp | hp
    · exact h.ln p hp
    · obtain rfl : p = (v, L) := by simpa using hp
      exact hl
  · have hb := k2.below (B := W0.heap.size) (by omega) (fun g' hne => (h.bk.st.lo g' hne).1) h.bl.size
    exact h.bl.trans hb
/-- three lists that came out, and one that was there, wait -/
theorem TI.three {W0 w2 wa wb wc wd we : World} {n g gz nz dz b m : Nat} {Z : List Int} {M : List ByteArray} {col : Nat → Nat} {V : Nat → Value} {fr : List (Value × List ByteArray)} {wl : List Value} {v0 v1 v2 v3 : Value} {L0 L1 L2 L3 : List ByteArray} {k0 : Nat} (h : TI W0 n g gz nz dz b Z m w2 M col V fr wl) (h0 : PL w2 col v0 L0 k0)
    (b1 : Below w2.heap.size w2 wa) (b2 : Below wa.heap.size wa wb) (b3 : Below wb.heap.size wb wc) (b4 : Below wc.heap.size wc wd) (b5 : Below wd.heap.size wd we)
    (o1 : Held wa 9 1 v1 L1.length (L1.map Value.string)) (f1 : ∀ g, v1.ownBlock = some g → w2.heap.size ≤ g ∧ g < wa.heap.size) (o2 : Held wc 9 1 v2 L2.length (L2.map Value.string)) (f2 : ∀ g, v2.ownBlock = some g → wb.heap.size ≤ g ∧ g < wc.heap.size)
    (o3 : Held we 9 1 v3 L3.length (L3.map Value.string)) (f3 : ∀ g, v3.ownBlock = some g → wd.heap.size ≤ g ∧ g < we.heap.size) (l1 : L1.length ≤ 1048576) (l2 : L2.length ≤ 1048576) (l3 : L3.length ≤ 1048576) :
    ∃ col', TI W0 n g gz nz dz b Z m we M col' V fr wl ∧ PL we col' v0 L0 k0 ∧ PL we col' v1 L1 (8 + m) ∧ PL we col' v2 L2 (8 + (m + 1)) ∧ PL we col' v3 L3 (8 + (m + 2)) := by
  obtain ⟨d1, e1⟩ := h.dye b1 v1 (8 + m) f1
  obtain ⟨d2, e2⟩ := (d1.below b2).dye b3 v2 (8 + (m + 1)) f2
  obtain ⟨d3, e3⟩ := (d2.below b4).dye b5 v3 (8 + (m + 2)) f3
  have p1 : PL wa (dyeV col v1 (8 + m)) v1 L1 (8 + m) := ⟨o1, fun g hg => dyeV_at hg, l1, by omega⟩
  have p2 : PL wc (dyeV (dyeV col v1 (8 + m)) v2 (8 + (m + 1))) v2 L2 (8 + (m + 1)) := ⟨o2, fun g hg => dyeV_at hg, l2, by omega⟩
  exact ⟨_, d3, ((((((h0.recol e1).below b1).below b2).recol e2).below b3).below b4).recol e3 |>.below b5, ((((p1.below b2).recol e2).below b3).below b4).recol e3 |>.below b5, ((p2.below b4).recol e3).below b5, o3, fun g hg => dyeV_at hg, l3, by omega⟩
/-- the contract of takes, as RecursionTells wants it -/
theorem TI.takes {W0 wr : World} {n g gz nz dz b m : Nat} {Z : List Int} {M : List ByteArray} {col : Nat → Nat} {V : Nat → Value} {fr : List (Value × List ByteArray)} {wl : List Value} {p : Option Addr} {k c : Nat} {L : List ByteArray} (h : TI W0 n g gz nz dz b Z m wr M col V fr wl) (hp : PL wr col (.slice p k c) L (8 + m)) (hm : m ≤ 1000) :
    Calls Tryd.prog 32 #[.pointer (some ⟨b, 0, none⟩), .slice p k c] wr fun e w' => e = .returned (.tuple #[]) ∧ ∃ col' V' wl', TI W0 n g gz nz dz b Z (m + 1) w' M col' V' (fr ++ [(.slice p k c, L)]) wl' ∧ Only col (fun c => 1 ≤ c ∧ c < 4) wr w' ∧ ∀ g, g < wr.heap.size → col' g = col g :=
  (takes_any W0.heap.size b col V fr [] wl [] [] p k c L wr h.bk h.wll hp.he (by have := hp.ln; omega) (fun g hg => by have := hp.co g hg; have := h.fl; simp only [List.length_nil]; omega) (by have := h.fl; omega) h.bl.size).mono fun e w' ⟨h1, h2⟩ => ⟨h1, h.took hp.ln h2⟩
theorem wanted_77 {w : World} {gz nz d i : Nat} {Z : List Int} (h : Held w 3 1 (.slice (some ⟨gz, 0, none⟩) (nz + 8) d) (nz + 8) ((Z ++ List.replicate 8 77).map (Value.int .i64))) (hz : nz = Z.length) (h1 : nz ≤ i) (h2 : i < nz + 8) : w.cell? ⟨gz, i, none⟩ = some (.int .i64 77) := by
  obtain ⟨p, c, he, _, _, h3⟩ := h.cells
  simp only [Value.slice.injEq] at he
  obtain ⟨rfl, _, rfl⟩ := he
  obtain ⟨a, ha, _, hc⟩ := h3 i (.int .i64 77) (by
    rw [List.getElem?_map, List.getElem?_append_right (by omega), List.getElem?_replicate, if_pos (by omega)]
    rfl)
  cases ha
  have hadd : (⟨gz, 0, none⟩ : Addr).add i = ⟨gz, i, none⟩ := by unfold Addr.add; split <;> simp_all
  rw [hadd] at hc
  exact hc
theorem held_pre {w : World} {T gz n k d : Nat} {xs ys : List Value} (h : Held w T 1 (.slice (some ⟨gz, 0, none⟩) (n + k) d) (n + k) (xs ++ ys)) (hx : xs.length = n) : Held w T 1 (.slice (some ⟨gz, 0, none⟩) n d) n xs := by
  refine ⟨by omega, ?_⟩
  rcases h.2 with ⟨he, _⟩ | ⟨g', cap, cur, he, hg, h1, h2, h3, h4⟩
  · cases he
  · simp only [Value.slice.injEq, Option.some.injEq, Addr.mk.injEq] at he
    obtain ⟨⟨rfl, _⟩, _, rfl⟩ := he
    refine .inr ⟨gz, d, cur, rfl, hg, by omega, h2, h3, ?_⟩
    have e : cur.toList.take n = (cur.toList.take ((n + k) * 1)).take n := by rw [List.take_take]; congr 1; omega
    rw [Nat.mul_one, e, h4, List.take_append_of_le_length (by omega), List.take_of_length_le (by omega)]
/-- still, behind all -/
theorem TI.still {W0 wr w' : World} {n g gz nz dz b m : Nat} {Z : List Int} {M : List ByteArray} {col : Nat → Nat} {V : Nat → Value} {fr : List (Value × List ByteArray)} {wl : List Value} (h : TI W0 n g gz nz dz b Z m wr M col V fr wl) (hg : wr.grownBy w' (some g)) (hm : m ≤ 1000) :
    Calls Tryd.prog 35 #[.pointer (some ⟨b, 0, none⟩)] w' fun e w'' => e = .returned (.bool true) ∧ Below W0.heap.size W0 w'' := by
  have hs := hg.size
  have hbl : Below W0.heap.size W0 w' := h.bl.grown hg h.bl.size (fun k e => by cases e; exact h.lo)
  have hbk : BookI w' W0.heap.size b col V fr wl [] [] [] := h.bk.move (fun g' hg' h1 => hg.block g' hg' (by intro e; cases e; rw [h.cg] at h1; omega)) (fun _ _ => rfl) (fun g' hne => by have := h.bk.st.lo g' hne; omega)
  refine (still_any W0.heap.size b col V fr [] wl [] w' hbk h.wll (fun j p hj => by simp at hj) hbl.size (by have := h.fl; simp only [List.length_nil]; omega) (by simp) h.ln (fun p hp => by simp at hp) (fun p hp => by simp at hp)).mono fun e w'' ⟨h1, h2⟩ => ⟨h1, ?_⟩
  obtain ⟨_, _, _, _, _, _, _, _, _, _, ho, _⟩ := h2
  exact hbl.trans (ho.below (B := W0.heap.size) (by omega) (fun g' hne => (hbk.st.lo g' hne).1) hbl.size)
/-- the new book -/
theorem TI.begin {W0 wr : World} {n g gz nz dz : Nat} {Z : List Int} {M : List ByteArray} (hM : M.length = n) (hrow : SRow wr g (fillS M 8)) (hw : Held wr 3 1 (.slice (some ⟨gz, 0, none⟩) (nz + 8) dz) (nz + 8) ((Z ++ List.replicate 8 77).map (Value.int .i64))) (hb : Below W0.heap.size W0 wr) (hlo : W0.heap.size ≤ g) (hne : g ≠ gz) :
    TI W0 n g gz nz dz wr.heap.size Z 0 (wr.alloc (.cells #[.slice none 0 0, .slice none 0 0, .slice none 0 0, .slice none 0 0, .slice none 0 0] 40)) M (fun i => if i = wr.heap.size then 1 else 0) (fun _ => .slice none 0 0) [] [] := by
  have hbel : Below wr.heap.size wr (wr.alloc (.cells #[.slice none 0 0, .slice none 0 0, .slice none 0 0, .slice none 0 0, .slice none 0 0] 40)) := (Below.refl _ _).alloc (Nat.le_refl _) _
  refine ⟨hM, hrow.below hbel hrow.lt, hw.below hbel, ⟨⟨heap_alloc_new wr _, fun k hk => ?_, if_pos rfl, (fun k hk g hg => by cases hg), fun g' hne' => ?_⟩, Items.nil _ _ _ _ _, wi_nil _ _, Items.nil _ _ _ _ _, (fun p hp => by simp at hp), (fun p hp => by simp at hp)⟩, rfl, rfl, (fun p hp => by simp at hp), below_from hb hbel hb.size, if_neg (Nat.ne_of_lt hrow.lt), if_neg (Nat.ne_of_lt (hw.lt rfl)), hlo, hne⟩
  · have : bookR [] [] [] [] [] k = [] := by
      match k, hk with
      | 0, _ => rfl
      | 1, _ => rfl
      | 2, _ => rfl
      | 3, _ => rfl
      | 4, _ => rfl
    rw [this]
    exact ⟨rfl, .inl ⟨rfl, rfl⟩⟩
  · have : g' = wr.heap.size := by
      by_cases h : g' = wr.heap.size
      · exact h
      · rw [if_neg h] at hne'; exact absurd rfl hne'
    subst this
    have := hb.size
    simp
    omega
end Go.Proofs.YtejdpahgofhioaaDoor
