/- A hash put: the next node of its level. -/
import Derived.Test.YtafookdllnhdaaaDoorMa20
import Derived.Deep.RegionHeld3
namespace Go.Proofs.YtafookdllnhdaaaDoor
open Go.RowKit Go.Scr Go.ChangeMaps Go.MapKept
set_option linter.unusedVariables false
def TreeI (w : World) (tb h n : Nat) (c : Nat → Nat) (val : Nat → Nat → ByteArray) (col : Nat → Option (Nat × Nat × Nat)) : Prop :=
  ∃ r ex G V es clk, TreeJ w tb r h n c val ex col G V es clk ∧ ∀ lv ix, ex lv ix ↔ exT c h lv ix
theorem make_rows1 (w : World) : (Instr.makeSlice 35 (.int .i64 1) (.int .i64 1)).run Tryd.prog w = .ok (.slice (some ⟨w.heap.size, 0, none⟩) 1 1) (w.alloc (.cells (Array.replicate 1 (.slice none 0 0)) 52)) := by kernel_rfl
theorem make_rows2 (w : World) : (Instr.makeSlice 35 (.int .i64 2) (.int .i64 2)).run Tryd.prog w = .ok (.slice (some ⟨w.heap.size, 0, none⟩) 2 2) (w.alloc (.cells (Array.replicate 2 (.slice none 0 0)) 52)) := by kernel_rfl
theorem make_rows3 (w : World) : (Instr.makeSlice 35 (.int .i64 3) (.int .i64 3)).run Tryd.prog w = .ok (.slice (some ⟨w.heap.size, 0, none⟩) 3 3) (w.alloc (.cells (Array.replicate 3 (.slice none 0 0)) 52)) := by kernel_rfl
theorem make_rows4 (w : World) : (Instr.makeSlice 35 (.int .i64 4) (.int .i64 4)).run Tryd.prog w = .ok (.slice (some ⟨w.heap.size, 0, none⟩) 4 4) (w.alloc (.cells (Array.replicate 4 (.slice none 0 0)) 52)) := by kernel_rfl
theorem make_rows5 (w : World) : (Instr.makeSlice 35 (.int .i64 5) (.int .i64 5)).run Tryd.prog w = .ok (.slice (some ⟨w.heap.size, 0, none⟩) 5 5) (w.alloc (.cells (Array.replicate 5 (.slice none 0 0)) 52)) := by kernel_rfl
theorem make_rows6 (w : World) : (Instr.makeSlice 35 (.int .i64 6) (.int .i64 6)).run Tryd.prog w = .ok (.slice (some ⟨w.heap.size, 0, none⟩) 6 6) (w.alloc (.cells (Array.replicate 6 (.slice none 0 0)) 52)) := by kernel_rfl
theorem make_rows7 (w : World) : (Instr.makeSlice 35 (.int .i64 7) (.int .i64 7)).run Tryd.prog w = .ok (.slice (some ⟨w.heap.size, 0, none⟩) 7 7) (w.alloc (.cells (Array.replicate 7 (.slice none 0 0)) 52)) := by kernel_rfl
theorem make_rows8 (w : World) : (Instr.makeSlice 35 (.int .i64 8) (.int .i64 8)).run Tryd.prog w = .ok (.slice (some ⟨w.heap.size, 0, none⟩) 8 8) (w.alloc (.cells (Array.replicate 8 (.slice none 0 0)) 52)) := by kernel_rfl
theorem make_rows (w : World) {h : Nat} (h1 : 1 ≤ h) (h8 : h ≤ 8) : (Instr.makeSlice 35 (.int .i64 (h : Int)) (.int .i64 (h : Int))).run Tryd.prog w = .ok (.slice (some ⟨w.heap.size, 0, none⟩) h h) (w.alloc (.cells (Array.replicate h (.slice none 0 0)) 52)) := by
  have : h = 1 ∨ h = 2 ∨ h = 3 ∨ h = 4 ∨ h = 5 ∨ h = 6 ∨ h = 7 ∨ h = 8 := by omega
  rcases this with rfl | rfl | rfl | rfl | rfl | rfl | rfl | rfl
  · exact make_rows1 w
  · exact make_rows2 w
  · exact make_rows3 w
  · exact make_rows4 w
  · exact make_rows5 w
  · exact make_rows6 w
  · exact make_rows7 w
  · exact make_rows8 w
theorem rows_eqN (w : World) : (binOp .eql 35 (.slice none 0 0) (.slice none 0 0)).run Tryd.prog w = .ok (.bool true) w := by kernel_rfl
theorem rows_eqS (w : World) (g n : Nat) : (binOp .eql 35 (.slice (some ⟨g, 0, none⟩) n n) (.slice none 0 0)).run Tryd.prog w = .ok (.bool false) w := by kernel_rfl
theorem held_ty {w : World} {T n g : Nat} {v : Value} {xs : List Value} (h : Held w T 1 v n xs) (hg : v.ownBlock = some g) : ∃ cur, w.heap[g]? = some (.cells cur T (0, 0)) := by
  rcases h.2 with ⟨h0, _⟩ | ⟨g2, cap, cur, rfl, hb, _⟩
  · rw [h0] at hg; cases hg
  · injection hg with hg
    exact ⟨cur, by rw [← hg]; exact hb⟩
theorem TreeJ.lookW {w w' : World} {tb r h n : Nat} {c : Nat → Nat} {val : Nat → Nat → ByteArray} {ex : Nat → Nat → Prop} {col : Nat → Option (Nat × Nat × Nat)} {G : Nat → Nat → Nat} {V : Nat → Nat → Nat → Value} {es : Array MapEntry} {clk : Nat} (t : TreeJ w tb r h n c val ex col G V es clk) (hw : w'.heap[r]? = some (.map es clk))
    {lv ix : Nat} (he : ex lv ix) : (Instr.lookup 63 (.map (some r)) (keyZ lv ix) false).run Tryd.prog w' = .ok (.slice (some ⟨G lv ix, 0, none⟩) h h) w' := by
  obtain ⟨k, e, q1, q2, q3⟩ := look_some hw (fun e he => by obtain ⟨a, b, _, h, _⟩ := t.ent e he; exact ⟨_, _, h⟩) (t.has lv ix he)
  have hm : e ∈ es.toList := by
    have : es.toList[k]? = some e := by rw [Array.getElem?_toList]; exact q1
    exact List.mem_of_getElem? this
  obtain ⟨a, b, q4, q5, q6⟩ := t.ent e hm
  have h7 := keyZ_inj (q2.symm.trans q5)
  obtain rfl : a = lv := by omega
  obtain rfl : b = ix := by omega
  rw [q6] at q3
  exact q3
theorem info_strT : (Tryd.prog.info? 9).map (fun i => (i.zero, i.size, i.bytes)) = some (some (.string ⟨#[]⟩), 1, 16) := by kernel_rfl
theorem ChT.below {col : Nat → Option (Nat × Nat × Nat)} {w a b : World} (h : ChT col w a) (k : Below a.heap.size a b) : ChT col w b := h.trans (ChT.of_below (col := col) k) fun _ _ => rfl
set_option maxRecDepth 100000 in
set_option maxHeartbeats 4000000 in
theorem put_any {w : World} {tb h n : Nat} {c : Nat → Nat} {val val' : Nat → Nat → ByteArray} {col : Nat → Option (Nat × Nat × Nat)} (t : TreeI w tb h n c val col)
    {l : Nat} {s : ByteArray} (hl : l ≤ 64) (hi40 : c l ≤ 1099511627776) (hv : ∀ k i, i < c k → val' k i = val k i) (hm : ∀ k, k < l → (c l + 1) * 2 ^ (l - k) ≤ c k) (hs : s = val' l (c l)) (hp : l % h = 0 ∨ exT c h (l / h) (c l / 2 ^ (h - l % h))) :
    Calls Tryd.prog 50 #[bpT tb, .agg #[.int .i64 (l : Int), .int .i64 (c l : Int)], .string s] w fun o w' => o = .returned (.tuple #[]) ∧ ∃ col', TreeI w' tb h n (upC c l) val' col' ∧ ChT col w w' ∧ ∀ q, q < w.heap.size → col' q = col q := by
  obtain ⟨r, ex, G, V, es, clk, t, hex⟩ := t
  have hjh := Nat.mod_lt l (show 0 < h by have := t.hh; omega)
  have hh8 := t.hh.2
  have hh1 := t.hh.1
  have HT := Lib.hid t
  have HA : Hid (∀ w2 : World, TreeJ w2 tb r h n c val ex col G V es clk → Calls Tryd.prog 69 #[bpT tb, .agg #[.int .i64 (l : Int), .int .i64 (c l : Int)]] w2 fun r w' => r = .returned (.tuple #[.agg #[.int .i64 ((l / h : Nat) : Int), .int .i64 ((c l / 2 ^ (h - l % h) : Nat) : Int)], .int .i64 ((l % h : Nat) : Int), .int .i64 ((c l % 2 ^ (h - l % h) : Nat) : Int)]) ∧ Below w2.heap.size w2 w') :=
    Lib.hid fun w2 t2 => at_any t2.box hh1 hh8 hl hi40
  have HP : Hid (∀ lv ix, exT (upC c l) h lv ix ↔ exT c h lv ix ∨ (lv = l / h ∧ ix = c l / 2 ^ (h - l % h))) := Lib.hid (ex_put hh1 hp)
  have HPU : Hid (∀ (w w1 : World) (ex : Nat → Nat → Prop) (col : Nat → Option (Nat × Nat × Nat)) (G : Nat → Nat → Nat) (V : Nat → Nat → Nat → Value) (es : Array MapEntry) (clk : Nat) (o : Obj) (v' : Value), TreeJ w tb r h n c val ex col G V es clk → ex (l / h) (c l / 2 ^ (h - l % h)) → Grew 9 1 (w.alloc o) (V (l / h) (c l / 2 ^ (h - l % h)) (l % h)) (cntT c h (l / h) (c l / 2 ^ (h - l % h)) (l % h)) 1 ((rowT c val h (l / h) (c l / 2 ^ (h - l % h)) (l % h)).map Value.string) [.string s] v' w1 →
      TreeJ (w1.setCell ⟨G (l / h) (c l / 2 ^ (h - l % h)), l % h, none⟩ v') tb r h n (upC c l) val' ex (dyeW col v' (l / h, c l / 2 ^ (h - l % h), l % h + 1)) G (up3 V (l / h) (c l / 2 ^ (h - l % h)) (l % h) v') es clk ∧ ChT col w (w1.setCell ⟨G (l / h) (c l / 2 ^ (h - l % h)), l % h, none⟩ v') ∧ ∀ q, q < w.heap.size → dyeW col v' (l / h, c l / 2 ^ (h - l % h), l % h + 1) q = col q) :=
    Lib.hid fun w w1 ex col G V es clk o v' t he g => TreeJ.push t rfl rfl rfl he hv hm hs g
  have HC0 : Hid (cntT c h (l / h) (c l / 2 ^ (h - l % h)) (l % h) ≤ 256) := Lib.hid (by
    rw [cnt_next]
    have h1 := Nat.mod_lt (c l) (two_pos (h - l % h))
    have h2 : 2 ^ (h - l % h) ≤ 2 ^ 8 := Nat.pow_le_pow_right (by decide) (by omega)
    omega)
  clear t hv hm hs hp
  obtain ⟨cl, hcl⟩ : ∃ x, x = c l := ⟨_, rfl⟩
  obtain ⟨q, hq⟩ : ∃ x, x = l / h := ⟨_, rfl⟩
  obtain ⟨e, he⟩ : ∃ x, x = l % h := ⟨_, rfl⟩
  rw [← hq, ← he] at HA HPU HC0 HP
  rw [← he] at hjh
  rw [← hcl] at hi40 ⊢
  obtain ⟨j, hj⟩ : ∃ x, x = c l / 2 ^ (h - e) := ⟨_, rfl⟩
  obtain ⟨m, hm2⟩ : ∃ x, x = c l % 2 ^ (h - e) := ⟨_, rfl⟩
  rw [← hj] at HA HPU HC0 HP
  rw [← hm2, ← hcl] at HA
  clear hq he hj hm2 hcl
  go_enter Tryd.func50, Tryd.ntmps50
  go_wp2_with (go_at_call 69; refine (HA.out _ (HT.out.below ((Below.refl _ _).alloc (Nat.le_refl _) _))).mono ?_; rintro o w1 ⟨rfl, hb1⟩; have HB1 := Lib.hid hb1; clear hb1)
  obtain ⟨w2, hw2⟩ : ∃ x, x = w1.alloc (.cells #[.int .i64 (q : Int), .int .i64 (j : Int)] 96) := ⟨_, rfl⟩
  have hB1 : Below w.heap.size w w1 := ((Below.refl _ _).alloc (Nat.le_refl _) _).trans (HB1.out.mono (by simp))
  have hs1 := hB1.size
  have HBE : Hid (Below w.heap.size w w2) := Lib.hid (by rw [hw2]; exact hB1.alloc hs1 _)
  have b1 : w2.heap[w1.heap.size]? = some (.cells #[.int .i64 (q : Int), .int .i64 (j : Int)] 96 (0, 0)) := by rw [hw2]; exact heap_alloc_new w1 _
  have HBP := Lib.hid b1
  have c1 : w2.cell? ⟨w1.heap.size, 0, none⟩ = some (.int .i64 (q : Int)) := cellB b1 rfl
  have c2 : w2.cell? ⟨w1.heap.size, 1, none⟩ = some (.int .i64 (j : Int)) := cellB b1 rfl
  have HTW := Lib.hid (HT.out.below HBE.out)
  have hmp : w2.cell? ⟨tb, 2, none⟩ = some (.map (some r)) := cellB HTW.out.box rfl
  have hhc : w2.cell? ⟨tb, 0, none⟩ = some (.int .i64 (h : Int)) := cellB HTW.out.box rfl
  obtain ⟨pb, hpb⟩ : ∃ x, x = w1.heap.size := ⟨_, rfl⟩
  rw [← hpb] at HBP c1 c2 hs1 ⊢
  rw [← hw2]
  clear hw2 hB1 b1 HB1 hpb
  have heN := rows_eqN
  have heS := rows_eqS
  by_cases hE : ex q j
  case' pos =>
    have hlk : ∀ k, (Instr.lookup 63 (.map (some r)) (.agg #[.int .i64 (q : Int), .int .i64 (j : Int)]) false).run Tryd.prog (w2.drewN k) = .ok (.slice (some ⟨G q j, 0, none⟩) h h) (w2.drewN k) := fun k => (HTW.out.drewN k).look hE
    go_quiet (fail)
    go_wp2
    obtain ⟨w3, ex3, col3, G3, V3, es3, clk3, hw3, HT3, HE3, HX3, HBP3, HC3, HQ3⟩ : ∃ (w3 : World) (ex3 : Nat → Nat → Prop) (col3 : Nat → Option (Nat × Nat × Nat)) (G3 : Nat → Nat → Nat) (V3 : Nat → Nat → Nat → Value) (es3 : Array MapEntry) (clk3 : Nat), w3 = w2.drewN nq ∧ Hid (TreeJ w3 tb r h n c val ex3 col3 G3 V3 es3 clk3) ∧ Hid (ex3 q j) ∧ Hid (∀ lv ix, ex3 lv ix ↔ exT (upC c l) h lv ix) ∧ Hid (w3.heap[pb]? = some (.cells #[.int .i64 (q : Int), .int .i64 (j : Int)] 96 (0, 0))) ∧ Hid (ChT col w w3) ∧ Hid (∀ g, g < w.heap.size → col3 g = col g) := by
      refine ⟨w2.drewN nq, ex, col, G, V, es, clk, rfl, Lib.hid (HTW.out.drewN nq), Lib.hid hE, Lib.hid (fun lv ix => ?_), Lib.hid (blk_drewN HBP.out nq), Lib.hid (ChT.of_below (below_drewN HBE.out nq)), Lib.hid (fun g hg => rfl)⟩
      rw [HP.out lv ix, ← hex lv ix]
      exact ⟨.inl, fun h1 => h1.elim id (fun h2 => by rw [h2.1, h2.2]; exact hE)⟩
    rw [← hw3]
    clear hw3 hlk hmp hhc c1 c2 HTW HBP HBE hE
  case' neg =>
    have hlk : ∀ k, (Instr.lookup 63 (.map (some r)) (.agg #[.int .i64 (q : Int), .int .i64 (j : Int)]) false).run Tryd.prog (w2.drewN k) = .ok (.slice none 0 0) (w2.drewN k) := fun k => (HTW.out.drewN k).lookn (fun lv ix h1 h2 => hE (by
      have e1 : q = lv := by omega
      have e2 : j = ix := by omega
      rw [e1, e2]; exact h1))
    go_quiet (fail)
    go_wp2
    have hmk : ∀ k, (Instr.makeSlice 35 (.int .i64 (h : Int)) (.int .i64 (h : Int))).run Tryd.prog (w2.drewN k) = .ok (.slice (some ⟨w2.heap.size, 0, none⟩) h h) ((w2.drewN k).alloc (.cells (Array.replicate h (.slice none 0 0)) 52)) := fun k => make_rows (w2.drewN k) hh1 hh8
    have hmu : ∀ k, (Instr.mapUpdate 63 (.map (some r)) (.agg #[.int .i64 (q : Int), .int .i64 (j : Int)]) (.slice (some ⟨w2.heap.size, 0, none⟩) h h)).run Tryd.prog ((w2.drewN k).alloc (.cells (Array.replicate h (.slice none 0 0)) 52)) = .ok () (setBlock ((w2.drewN k).alloc (.cells (Array.replicate h (.slice none 0 0)) 52)) r (.map (es.push ⟨keyZ q j, .slice (some ⟨w2.heap.size, 0, none⟩) h h, clk⟩) (clk + 1))) := fun k =>
      update_new (blk_alloc (HTW.out.drewN k).mp) (HTW.out.fresh (fun lv ix h1 h2 => hE (by
        have e1 : q = lv := by omega
        have e2 : j = ix := by omega
        rw [e1, e2]; exact h1)))
    obtain ⟨w3, hw3⟩ : ∃ x, x = setBlock ((w2.drewN (nq + 1)).alloc (.cells (Array.replicate h (.slice none 0 0)) 52)) r (.map (es.push ⟨keyZ q j, .slice (some ⟨w2.heap.size, 0, none⟩) h h, clk⟩) (clk + 1)) := ⟨_, rfl⟩
    have ht3 := TreeJ.make (HTW.out.drewN (nq + 1)) hex hE
    have hbp3 : w3.heap[pb]? = some (.cells #[.int .i64 (q : Int), .int .i64 (j : Int)] 96 (0, 0)) := by
      rw [hw3]
      refine (heap_setBlock_other (blk_alloc (HTW.out.drewN (nq + 1)).mp) _ ?_).trans (blk_alloc (blk_drewN HBP.out (nq + 1)))
      intro e1
      have h1 := HTW.out.mp
      rw [← e1, HBP.out] at h1
      cases h1
    rw [show (w2.drewN (nq + 1)).heap.size = w2.heap.size from rfl, ← hw3] at ht3
    have HS1 : Hid ((w2.drewN (nq + 1)).cell? ⟨tb, 2, none⟩ = some (.map (some r)) ∧ (w2.drewN (nq + 1)).cell? ⟨tb, 0, none⟩ = some (.int .i64 (h : Int)) ∧ (w2.drewN (nq + 1)).cell? ⟨pb, 0, none⟩ = some (.int .i64 (q : Int)) ∧ (w2.drewN (nq + 1)).cell? ⟨pb, 1, none⟩ = some (.int .i64 (j : Int))) := Lib.hid ⟨cellB HTW.out.box rfl, cellB HTW.out.box rfl, cellB HBP.out rfl, cellB HBP.out rfl⟩
    have HS2 : Hid (∀ o, ((w2.drewN (nq + 1)).alloc o).cell? ⟨tb, 2, none⟩ = some (.map (some r)) ∧ ((w2.drewN (nq + 1)).alloc o).cell? ⟨tb, 0, none⟩ = some (.int .i64 (h : Int)) ∧ ((w2.drewN (nq + 1)).alloc o).cell? ⟨pb, 0, none⟩ = some (.int .i64 (q : Int)) ∧ ((w2.drewN (nq + 1)).alloc o).cell? ⟨pb, 1, none⟩ = some (.int .i64 (j : Int))) := Lib.hid fun o => ⟨cellB (blk_alloc (HTW.out.drewN (nq + 1)).box) rfl, cellB (blk_alloc (HTW.out.drewN (nq + 1)).box) rfl, cellB (blk_alloc (blk_drewN HBP.out (nq + 1))) rfl, cellB (blk_alloc (blk_drewN HBP.out (nq + 1))) rfl⟩
    have HS3 : Hid (w3.cell? ⟨tb, 2, none⟩ = some (.map (some r)) ∧ w3.cell? ⟨tb, 0, none⟩ = some (.int .i64 (h : Int)) ∧ w3.cell? ⟨pb, 0, none⟩ = some (.int .i64 (q : Int)) ∧ w3.cell? ⟨pb, 1, none⟩ = some (.int .i64 (j : Int))) := Lib.hid ⟨cellB ht3.box rfl, cellB ht3.box rfl, cellB hbp3 rfl, cellB hbp3 rfl⟩
    have HT3 := Lib.hid ht3
    have HBP3 := Lib.hid hbp3
    have HW3 := Lib.hid hw3
    clear ht3 hbp3 hw3
    go_region_held3 (fun w' => w'.cell? ⟨tb, 2, none⟩ = some (.map (some r)) ∧ w'.cell? ⟨tb, 0, none⟩ = some (.int .i64 (h : Int)) ∧ w'.cell? ⟨pb, 0, none⟩ = some (.int .i64 (q : Int)) ∧ w'.cell? ⟨pb, 1, none⟩ = some (.int .i64 (j : Int))) (first | exact HS1.out | exact HS2.out _ | (have := HS3.out; rw [HW3.out] at this; exact this)) (fail)
    go_wp2
    obtain ⟨w3, ex3, col3, G3, V3, es3, clk3, hw3, HT3, HE3, HX3, HBP3, HC3, HQ3⟩ : ∃ (w3 : World) (ex3 : Nat → Nat → Prop) (col3 : Nat → Option (Nat × Nat × Nat)) (G3 : Nat → Nat → Nat) (V3 : Nat → Nat → Nat → Value) (es3 : Array MapEntry) (clk3 : Nat), w3 = setBlock ((w2.drewN (nq + 1)).alloc (.cells (Array.replicate h (.slice none 0 0)) 52)) r (.map (es.push ⟨keyZ q j, .slice (some ⟨w2.heap.size, 0, none⟩) h h, clk⟩) (clk + 1)) ∧ Hid (TreeJ w3 tb r h n c val ex3 col3 G3 V3 es3 clk3) ∧ Hid (ex3 q j) ∧ Hid (∀ lv ix, ex3 lv ix ↔ exT (upC c l) h lv ix) ∧ Hid (w3.heap[pb]? = some (.cells #[.int .i64 (q : Int), .int .i64 (j : Int)] 96 (0, 0))) ∧ Hid (ChT col w w3) ∧ Hid (∀ g, g < w.heap.size → col3 g = col g) := by
      refine ⟨w3, _, _, _, _, _, _, HW3.out, HT3, Lib.hid (.inr ⟨rfl, rfl⟩), Lib.hid (fun lv ix => ?_), HBP3, Lib.hid ?_, Lib.hid (fun g hg => ?_)⟩
      · rw [HP.out lv ix, ← hex lv ix]
      · have hb := HBE.out
        have hT := HTW.out
        rw [HW3.out]
        have hsz : (setBlock ((w2.drewN (nq + 1)).alloc (.cells (Array.replicate h (.slice none 0 0)) 52)) r (.map (es.push ⟨keyZ q j, .slice (some ⟨w2.heap.size, 0, none⟩) h h, clk⟩) (clk + 1))).heap.size = w2.heap.size + 1 := by simp [setBlock]
        refine ⟨hb.os, hb.tape, hb.output, by rw [hsz]; exact Nat.le_succ_of_le hb.size, fun g hg hn => ?_⟩
        have hgr : g ≠ r := fun e1 => by rw [e1, hT.cr] at hn; cases hn
        have hg2 : g < w2.heap.size := Nat.lt_of_lt_of_le hg hb.size
        rw [heap_setBlock_other (blk_alloc (hT.drewN (nq + 1)).mp) _ hgr, Below.heap_alloc _ _ _ (show g < (w2.drewN (nq + 1)).heap.size from hg2)]
        exact hb.block g hg
      · have hb := HBE.out
        exact if_neg (fun e1 => by rw [e1] at hg; exact absurd hb.size (by omega))
    rw [← hw3]
    clear hw3 hlk hmp hhc c1 c2 HTW HBP HBE hE hmk hmu HS1 HS2 HS3 HW3
  all_goals
    have HTD : Hid (TreeJ w3.drew tb r h n c val ex3 col3 G3 V3 es3 clk3) := Lib.hid (HT3.out.drewN 1)
    have HS1 : Hid (w3.drew.cell? ⟨tb, 2, none⟩ = some (.map (some r)) ∧ w3.drew.cell? ⟨pb, 0, none⟩ = some (.int .i64 (q : Int)) ∧ w3.drew.cell? ⟨pb, 1, none⟩ = some (.int .i64 (j : Int)) ∧ (Instr.lookup 63 (.map (some r)) (.agg #[.int .i64 (q : Int), .int .i64 (j : Int)]) false).run Tryd.prog w3.drew = .ok (.slice (some ⟨G3 q j, 0, none⟩) h h) w3.drew) := Lib.hid ⟨cellB HT3.out.box rfl, cellB HBP3.out rfl, cellB HBP3.out rfl, HTD.out.look HE3.out⟩
    have HS2 : Hid (∀ o, (w3.drew.alloc o).cell? ⟨tb, 2, none⟩ = some (.map (some r)) ∧ (w3.drew.alloc o).cell? ⟨pb, 0, none⟩ = some (.int .i64 (q : Int)) ∧ (w3.drew.alloc o).cell? ⟨pb, 1, none⟩ = some (.int .i64 (j : Int)) ∧ (Instr.lookup 63 (.map (some r)) (.agg #[.int .i64 (q : Int), .int .i64 (j : Int)]) false).run Tryd.prog (w3.drew.alloc o) = .ok (.slice (some ⟨G3 q j, 0, none⟩) h h) (w3.drew.alloc o)) := Lib.hid fun o => ⟨cellB (blk_alloc HTD.out.box) rfl, cellB (blk_alloc (blk_drew HBP3.out)) rfl, cellB (blk_alloc (blk_drew HBP3.out)) rfl, (HTD.out.below ((Below.refl _ _).alloc (Nat.le_refl _) _)).look HE3.out⟩
    have hg1 : w3.drew.cell? ⟨G3 q j, e, none⟩ = some (V3 q j e) := cellB (HTD.out.out q j HE3.out).1 (by simp [hjh])
    have hg0 : w3.cell? ⟨G3 q j, e, none⟩ = some (V3 q j e) := hg1
    have hg2 : ∀ o, (w3.alloc o).cell? ⟨G3 q j, e, none⟩ = some (V3 q j e) := fun o => cellB (blk_alloc (HT3.out.out q j HE3.out).1) (by simp [hjh])
    have HHD : Hid (∀ o, Held (w3.drew.alloc o) 9 1 (V3 q j e) (cntT c h q j e) ((rowT c val h q j e).map Value.string)) := Lib.hid fun o => (HTD.out.inn q j e HE3.out hjh).1.below ((Below.refl _ _).alloc (Nat.le_refl _) _)
    have HONE : Hid (∀ u ∈ [Value.string s], u.oneCell' = true) := Lib.hid (fun u hu => by rw [List.mem_singleton.1 hu]; rfl)
    have hl1 : (cntT c h q j e + 1) * 16 ≤ 140737488355328 := by have := HC0.out; omega
    have hl2 : cntT c h q j e + 1 ≤ 140737488355328 := by omega
    have HFIN : Hid (∀ o v5 w5, Grew 9 1 (w3.drew.alloc o) (V3 q j e) (cntT c h q j e) 1 ((rowT c val h q j e).map Value.string) [.string s] v5 w5 →
      w5.cell? ⟨tb, 2, none⟩ = some (.map (some r)) ∧ w5.cell? ⟨pb, 0, none⟩ = some (.int .i64 (q : Int)) ∧ w5.cell? ⟨pb, 1, none⟩ = some (.int .i64 (j : Int)) ∧ (Instr.lookup 63 (.map (some r)) (.agg #[.int .i64 (q : Int), .int .i64 (j : Int)]) false).run Tryd.prog w5 = .ok (.slice (some ⟨G3 q j, 0, none⟩) h h) w5 ∧ (w5.cell? ⟨G3 q j, e, none⟩).isSome = true ∧ w5.frozen? ⟨G3 q j, e, none⟩ = false ∧ Hid (∀ u, (w5.setCell ⟨G3 q j, e, none⟩ u).cell? ⟨tb, 2, none⟩ = some (.map (some r)) ∧ (w5.setCell ⟨G3 q j, e, none⟩ u).cell? ⟨pb, 0, none⟩ = some (.int .i64 (q : Int)) ∧ (w5.setCell ⟨G3 q j, e, none⟩ u).cell? ⟨pb, 1, none⟩ = some (.int .i64 (j : Int)) ∧ (Instr.lookup 63 (.map (some r)) (.agg #[.int .i64 (q : Int), .int .i64 (j : Int)]) false).run Tryd.prog (w5.setCell ⟨G3 q j, e, none⟩ u) = .ok (.slice (some ⟨G3 q j, 0, none⟩) h h) (w5.setCell ⟨G3 q j, e, none⟩ u))) := Lib.hid (by
      intro o v5 w5 g
      have hgr := grown_alloc g.grown
      obtain ⟨i1, i2⟩ := HTD.out.inn q j e HE3.out hjh
      obtain ⟨o1, o2⟩ := HTD.out.out q j HE3.out
      have hh9 := HTD.out.hh
      have htag : ∀ {g0 : Nat} {x : Nat × Nat × Nat}, col3 g0 = some x → x.2.2 ≠ e + 1 → some g0 ≠ (V3 q j e).ownBlock := fun {g0 x} e1 e2 e3 => by
        have := i2 g0 e3.symm
        rw [this] at e1
        injection e1 with e1
        exact e2 (by rw [← e1])
      have kb := blk_only HTD.out.box hgr (htag HTD.out.ct (by show 1000 ≠ e + 1; omega))
      have kr := blk_only HTD.out.mp hgr (htag HTD.out.cr (by show 1001 ≠ e + 1; omega))
      have ko := blk_only o1 hgr (htag o2 (by show 0 ≠ e + 1; omega))
      have kp := blk_only (blk_drew HBP3.out) hgr (fun e3 => by
        obtain ⟨cur, h4⟩ := held_ty i1 e3.symm
        rw [blk_drew HBP3.out] at h4
        injection h4 with h4
        injection h4 with _ h5
        exact absurd h5 (by decide))
      refine ⟨cellB kb rfl, cellB kp rfl, cellB kp rfl, HTD.out.lookW kr HE3.out, by rw [cellB ko (show _ = some (V3 q j e) by simp [hjh])]; rfl, frozB ko, Lib.hid fun u => ?_⟩
      have ntb : tb ≠ G3 q j := fun e1 => by
        have h1 := HTD.out.ct
        rw [e1, o2] at h1
        injection h1 with h1
        injection h1 with _ h1
        injection h1 with _ h1
        exact absurd h1 (by decide)
      have npb : pb ≠ G3 q j := fun e1 => by
        have h1 := blk_drew HBP3.out
        rw [e1, o1] at h1
        injection h1 with h1
        injection h1 with _ h1
        exact absurd h1 (by decide)
      have nrb : r ≠ G3 q j := fun e1 => by
        have h1 := HTD.out.cr
        rw [e1, o2] at h1
        injection h1 with h1
        injection h1 with _ h1
        injection h1 with _ h1
        exact absurd h1 (by decide)
      exact ⟨cellB (blk_far kb (p := ⟨G3 q j, e, none⟩) ntb u) rfl, cellB (blk_far kp (p := ⟨G3 q j, e, none⟩) npb u) rfl, cellB (blk_far kp (p := ⟨G3 q j, e, none⟩) npb u) rfl, HTD.out.lookW (blk_far kr (p := ⟨G3 q j, e, none⟩) nrb u) HE3.out⟩)
    refine wp_region_noPanic ?_
    refine wp_region_held_drew (S := (fun w' => w'.cell? ⟨tb, 2, none⟩ = some (.map (some r)) ∧ w'.cell? ⟨pb, 0, none⟩ = some (.int .i64 (q : Int)) ∧ w'.cell? ⟨pb, 1, none⟩ = some (.int .i64 (j : Int)) ∧ (Instr.lookup 63 (.map (some r)) (.agg #[.int .i64 (q : Int), .int .i64 (j : Int)]) false).run Tryd.prog w' = .ok (.slice (some ⟨G3 q j, 0, none⟩) h h) w')) (by kernel_rfl) HS1.out (fun hHeld => ?_)
    refine wpAnyH_take (i := 0) (oi := ⟨_, _, _, _, _, _⟩) (v := ?_) rfl (by kernel_rfl) (by kernel_rfl) (by kernel_rfl) (fun _ _ _ h => h) (Or.inl ⟨by rfl, ?_⟩) hHeld ?_
    rotate_left
    · ((intro w hSw; (try dsimp only at hSw); go_simp) <;> with_reducible rfl)
    try simp only [Act.put, List.setIfInBounds_toArray, List.set_cons_zero, List.set_cons_succ]
    refine wpAnyH_take (i := 1) (oi := ⟨_, _, _, _, _, _⟩) (v := ?_) rfl (by kernel_rfl) (by kernel_rfl) (by kernel_rfl) (fun _ _ _ h => h) (Or.inl ⟨by rfl, ?_⟩) hHeld ?_
    rotate_left
    · ((intro w hSw; (try dsimp only at hSw); go_simp) <;> with_reducible rfl)
    try simp only [Act.put, List.setIfInBounds_toArray, List.set_cons_zero, List.set_cons_succ]
    refine wpAnyH_take (i := 2) (oi := ⟨_, _, _, _, _, _⟩) (v := ?_) rfl (by kernel_rfl) (by kernel_rfl) (by kernel_rfl) (fun _ _ _ h => h) (Or.inl ⟨by rfl, ?_⟩) hHeld ?_
    rotate_left
    · ((intro w hSw; (try dsimp only at hSw); go_simp) <;> with_reducible rfl)
    try simp only [Act.put, List.setIfInBounds_toArray, List.set_cons_zero, List.set_cons_succ]
    refine wpAnyH_take (i := 3) (oi := ⟨_, _, _, _, _, _⟩) (v := ?_) rfl (by kernel_rfl) (by kernel_rfl) (by kernel_rfl) (fun _ _ _ h => h) (Or.inl ⟨by rfl, ?_⟩) hHeld ?_
    rotate_left
    · ((intro w hSw; (try dsimp only at hSw); go_simp) <;> with_reducible rfl)
    try simp only [Act.put, List.setIfInBounds_toArray, List.set_cons_zero, List.set_cons_succ]
    refine wpAnyH_take (i := 4) (oi := ⟨_, _, _, _, _, _⟩) (v := ?_) rfl (by kernel_rfl) (by kernel_rfl) (by kernel_rfl) (fun _ _ _ h => h) (Or.inl ⟨by rfl, ?_⟩) hHeld ?_
    rotate_left
    · ((intro w hSw; (try dsimp only at hSw); go_simp) <;> with_reducible rfl)
    try simp only [Act.put, List.setIfInBounds_toArray, List.set_cons_zero, List.set_cons_succ]
    refine wpAnyH_take (i := 5) (oi := ⟨_, _, _, _, _, _⟩) (v := ?_) rfl (by kernel_rfl) (by kernel_rfl) (by kernel_rfl) (fun _ _ _ h => h) (Or.inl ⟨by rfl, ?_⟩) hHeld ?_
    rotate_left
    · ((intro w hSw; (try dsimp only at hSw); go_simp) <;> with_reducible rfl)
    try simp only [Act.put, List.setIfInBounds_toArray, List.set_cons_zero, List.set_cons_succ]
    refine wpAnyH_take (i := 6) (oi := ⟨_, _, _, _, _, _⟩) (v := ?_) rfl (by kernel_rfl) (by kernel_rfl) (by kernel_rfl) (fun _ _ _ h => h) (Or.inl ⟨by rfl, ?_⟩) hHeld ?_
    rotate_left
    · ((intro w hSw; (try dsimp only at hSw); go_simp) <;> with_reducible rfl)
    try simp only [Act.put, List.setIfInBounds_toArray, List.set_cons_zero, List.set_cons_succ]
    refine wpAnyH_take (i := 7) (oi := ⟨_, _, _, _, _, _⟩) (v := ?_) rfl (by kernel_rfl) (by kernel_rfl) (by kernel_rfl) (fun _ _ _ h => h) (Or.inl ⟨by rfl, ?_⟩) hHeld ?_
    rotate_left
    · ((intro w hSw; (try dsimp only at hSw); go_simp) <;> with_reducible rfl)
    try simp only [Act.put, List.setIfInBounds_toArray, List.set_cons_zero, List.set_cons_succ]
    refine wpAnyH_take (i := 8) (oi := ⟨_, _, _, _, _, _⟩) (v := ?_) rfl (by kernel_rfl) (by kernel_rfl) (by kernel_rfl) (fun _ _ _ h => h) (Or.inl ⟨by rfl, ?_⟩) hHeld ?_
    rotate_left
    · ((intro w hSw; (try dsimp only at hSw); go_simp) <;> with_reducible rfl)
    try simp only [Act.put, List.setIfInBounds_toArray, List.set_cons_zero, List.set_cons_succ]
    refine wpAnyH_take (i := 9) (oi := ⟨_, _, _, _, _, _⟩) (v := ?_) rfl (by kernel_rfl) (by kernel_rfl) (by kernel_rfl) (fun _ _ _ h => h) (Or.inl ⟨by rfl, ?_⟩) hHeld ?_
    rotate_left
    · ((intro w hSw; (try dsimp only at hSw); go_simp) <;> with_reducible rfl)
    try simp only [Act.put, List.setIfInBounds_toArray, List.set_cons_zero, List.set_cons_succ]
    refine wpAnyH_take (i := 10) (oi := ⟨_, _, _, _, _, _⟩) (v := ?_) rfl (by kernel_rfl) (by kernel_rfl) (by kernel_rfl) (fun _ _ _ h => h) (Or.inl ⟨by rfl, ?_⟩) hHeld ?_
    rotate_left
    · ((intro w hSw; (try dsimp only at hSw); go_simp) <;> with_reducible rfl)
    try simp only [Act.put, List.setIfInBounds_toArray, List.set_cons_zero, List.set_cons_succ]
    refine wpAnyH_take (i := 11) (oi := ⟨_, _, _, _, _, _⟩) (v := ?_) rfl (by kernel_rfl) (by kernel_rfl) (by kernel_rfl) (fun _ _ _ h => h) (Or.inl ⟨by rfl, ?_⟩) hHeld ?_
    rotate_left
    · ((intro w hSw; (try dsimp only at hSw); go_simp) <;> with_reducible rfl)
    try simp only [Act.put, List.setIfInBounds_toArray, List.set_cons_zero, List.set_cons_succ]
    refine wpAnyH_take (i := 12) (oi := ⟨_, _, _, _, _, _⟩) (v := ?_) rfl (by kernel_rfl) (by kernel_rfl) (by kernel_rfl) (fun _ _ _ h => h) (Or.inl ⟨by rfl, ?_⟩) hHeld ?_
    rotate_left
    · ((intro w hSw; (try dsimp only at hSw); go_simp) <;> with_reducible rfl)
    try simp only [Act.put, List.setIfInBounds_toArray, List.set_cons_zero, List.set_cons_succ]
    refine wpAnyH_take (i := 13) (oi := ⟨_, _, _, _, _, _⟩) (v := ?_) rfl (by kernel_rfl) (by kernel_rfl) (by kernel_rfl) (fun _ _ _ h => h) (Or.inl ⟨by rfl, ?_⟩) hHeld ?_
    rotate_left
    · ((intro w hSw; (try dsimp only at hSw); go_simp) <;> with_reducible rfl)
    try simp only [Act.put, List.setIfInBounds_toArray, List.set_cons_zero, List.set_cons_succ]
    refine wpAnyH_take (i := 14) (oi := ⟨_, _, _, _, _, _⟩) (v := ?_) rfl (by kernel_rfl) (by kernel_rfl) (by kernel_rfl) (fun _ _ _ h => h) (Or.inl ⟨by rfl, ?_⟩) hHeld ?_
    rotate_left
    · ((intro w hSw; (try dsimp only at hSw); go_simp) <;> with_reducible rfl)
    try simp only [Act.put, List.setIfInBounds_toArray, List.set_cons_zero, List.set_cons_succ]
    refine wpAnyH_take (i := 16) (oi := ⟨_, _, _, _, _, _⟩) (v := ?_) rfl (by kernel_rfl) (by kernel_rfl) (by kernel_rfl) (fun _ _ _ h => h) (Or.inl ⟨by rfl, ?_⟩) hHeld ?_
    rotate_left
    · ((intro w hSw; (try dsimp only at hSw); go_simp) <;> with_reducible rfl)
    try simp only [Act.put, List.setIfInBounds_toArray, List.set_cons_zero, List.set_cons_succ]
    refine wpAnyH_ready (rs := [15, 17]) (by kernel_rfl) (by simp) ?_
    refine AllReadyH.cons (o := ⟨_, _, _, _, _, _⟩) rfl (fun K hK => ?_) ?_
    rotate_left
    refine AllReadyH.cons (o := ⟨_, _, _, _, _, _⟩) rfl (fun K hK => ?_) ?_
    rotate_left
    · exact AllReadyH.nil
    · go_simp
      refine hK.out _ _ (HS1.out) (fun hHeld => ?_)
      clear hK K
      try simp only [Act.put, List.setIfInBounds_toArray, List.set_cons_zero, List.set_cons_succ]
      refine wpAnyH_ready (rs := [17]) (by kernel_rfl) (by simp) ?_
      refine AllReadyH.cons (o := ⟨_, _, _, _, _, _⟩) rfl (fun K hK => ?_) ?_
      rotate_left
      · exact AllReadyH.nil
      go_simp
      refine hK.out _ _ (HS2.out _) (fun hHeld => ?_)
      clear hK K
      try simp only [Act.put, List.setIfInBounds_toArray, List.set_cons_zero, List.set_cons_succ]
      refine wpAnyH_ready (rs := [18]) (by kernel_rfl) (by simp) ?_
      refine AllReadyH.cons (o := ⟨_, _, _, _, _, _⟩) rfl (fun K hK => ?_) ?_
      rotate_left
      · exact AllReadyH.nil
      refine step_grew (v := V3 q j e) rfl (.tmp 48) (.tmp 50) rfl Tryd.underlying52 (.string ⟨#[]⟩) 1 info_strT rfl (by decide) [.string s] 1 ⟨w3.heap.size, 0, none⟩ rfl rfl (HHD.out _) rfl (by decide) cells_alloc HONE.out hl1 hl2 ?_; intro v5 w5 hg5; obtain ⟨k1, k2, k3, hlk5, k5, hfr5, HS6⟩ := HFIN.out _ _ _ hg5; obtain ⟨p5, cp5, rfl, _⟩ := hg5.held.cells; obtain ⟨u5, hg55⟩ := Option.isSome_iff_exists.mp k5; have HS5 := Lib.hid (And.intro k1 (And.intro k2 (And.intro k3 hlk5))); have HG5 := Lib.hid hg5; clear hg5 k1 k2 k3 k5 hlk5
      refine hK.out _ _ HS5.out (fun hHeld => ?_)
      clear hK K
      try simp only [Act.put, List.setIfInBounds_toArray, List.set_cons_zero, List.set_cons_succ]
      refine wpAnyH_take (i := 19) (oi := ⟨_, _, _, _, _, _⟩) (v := ?_) rfl (by kernel_rfl) (by kernel_rfl) (by kernel_rfl) (fun _ _ _ h => h) (Or.inl ⟨by rfl, ?_⟩) hHeld ?_
      rotate_left
      · ((intro w hSw; (try dsimp only at hSw); go_simp) <;> with_reducible rfl)
      try simp only [Act.put, List.setIfInBounds_toArray, List.set_cons_zero, List.set_cons_succ]
      refine wpAnyH_ready (rs := [20]) (by kernel_rfl) (by simp) ?_
      refine AllReadyH.cons (o := ⟨_, _, _, _, _, _⟩) rfl (fun K hK => ?_) ?_
      rotate_left
      · exact AllReadyH.nil
      go_simp
      refine hK.out _ _ (HS6.out _) (fun hHeld => ?_)
      clear hK K
      try simp only [Act.put, List.setIfInBounds_toArray, List.set_cons_zero, List.set_cons_succ]
      refine wpAnyH_done (by kernel_rfl) ?_ _
      refine NoPanic.normal ?_
      (try go_wp2)
      go_end0
      have h9 := HPU.out w3.drew w5 ex3 col3 G3 V3 es3 clk3 (.cells #[.string s] 9) _ HTD.out HE3.out HG5.out
      exact ⟨rfl, _, ⟨r, ex3, G3, _, es3, clk3, h9.1, HX3.out⟩, ChT.trans (col' := col3) (b := w3.drew) ⟨HC3.out.os, HC3.out.tape, HC3.out.output, HC3.out.size, HC3.out.block⟩ h9.2.1 (fun g hg => HQ3.out g hg), fun g hg => (h9.2.2 g (Nat.lt_of_lt_of_le hg HC3.out.size)).trans (HQ3.out g hg)⟩
    · go_simp
      refine hK.out _ _ (HS2.out _) (fun hHeld => ?_)
      clear hK K
      try simp only [Act.put, List.setIfInBounds_toArray, List.set_cons_zero, List.set_cons_succ]
      refine wpAnyH_ready (rs := [15]) (by kernel_rfl) (by simp) ?_
      refine AllReadyH.cons (o := ⟨_, _, _, _, _, _⟩) rfl (fun K hK => ?_) ?_
      rotate_left
      · exact AllReadyH.nil
      go_simp
      refine hK.out _ _ (HS2.out _) (fun hHeld => ?_)
      clear hK K
      try simp only [Act.put, List.setIfInBounds_toArray, List.set_cons_zero, List.set_cons_succ]
      refine wpAnyH_ready (rs := [18]) (by kernel_rfl) (by simp) ?_
      refine AllReadyH.cons (o := ⟨_, _, _, _, _, _⟩) rfl (fun K hK => ?_) ?_
      rotate_left
      · exact AllReadyH.nil
      refine step_grew (v := V3 q j e) rfl (.tmp 48) (.tmp 50) rfl Tryd.underlying52 (.string ⟨#[]⟩) 1 info_strT rfl (by decide) [.string s] 1 ⟨w3.heap.size, 0, none⟩ rfl rfl (HHD.out _) rfl (by decide) cells_alloc HONE.out hl1 hl2 ?_; intro v5 w5 hg5; obtain ⟨k1, k2, k3, hlk5, k5, hfr5, HS6⟩ := HFIN.out _ _ _ hg5; obtain ⟨p5, cp5, rfl, _⟩ := hg5.held.cells; obtain ⟨u5, hg55⟩ := Option.isSome_iff_exists.mp k5; have HS5 := Lib.hid (And.intro k1 (And.intro k2 (And.intro k3 hlk5))); have HG5 := Lib.hid hg5; clear hg5 k1 k2 k3 k5 hlk5
      refine hK.out _ _ HS5.out (fun hHeld => ?_)
      clear hK K
      try simp only [Act.put, List.setIfInBounds_toArray, List.set_cons_zero, List.set_cons_succ]
      refine wpAnyH_take (i := 19) (oi := ⟨_, _, _, _, _, _⟩) (v := ?_) rfl (by kernel_rfl) (by kernel_rfl) (by kernel_rfl) (fun _ _ _ h => h) (Or.inl ⟨by rfl, ?_⟩) hHeld ?_
      rotate_left
      · ((intro w hSw; (try dsimp only at hSw); go_simp) <;> with_reducible rfl)
      try simp only [Act.put, List.setIfInBounds_toArray, List.set_cons_zero, List.set_cons_succ]
      refine wpAnyH_ready (rs := [20]) (by kernel_rfl) (by simp) ?_
      refine AllReadyH.cons (o := ⟨_, _, _, _, _, _⟩) rfl (fun K hK => ?_) ?_
      rotate_left
      · exact AllReadyH.nil
      go_simp
      refine hK.out _ _ (HS6.out _) (fun hHeld => ?_)
      clear hK K
      try simp only [Act.put, List.setIfInBounds_toArray, List.set_cons_zero, List.set_cons_succ]
      refine wpAnyH_done (by kernel_rfl) ?_ _
      refine NoPanic.normal ?_
      (try go_wp2)
      go_end0
      have h9 := HPU.out w3.drew w5 ex3 col3 G3 V3 es3 clk3 (.cells #[.string s] 9) _ HTD.out HE3.out HG5.out
      exact ⟨rfl, _, ⟨r, ex3, G3, _, es3, clk3, h9.1, HX3.out⟩, ChT.trans (col' := col3) (b := w3.drew) ⟨HC3.out.os, HC3.out.tape, HC3.out.output, HC3.out.size, HC3.out.block⟩ h9.2.1 (fun g hg => HQ3.out g hg), fun g hg => (h9.2.2 g (Nat.lt_of_lt_of_le hg HC3.out.size)).trans (HQ3.out g hg)⟩
end Go.Proofs.YtafookdllnhdaaaDoor
