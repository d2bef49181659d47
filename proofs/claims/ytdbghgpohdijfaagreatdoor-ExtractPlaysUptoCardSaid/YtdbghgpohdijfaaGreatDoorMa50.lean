/- Law 6's helpers, walked: lent, whole; pairs. -/
import Derived.Test.YtdbghgpohdijfaaGreatDoorMa49
import Derived.BigQuiet
import Derived.Test.YtdbghgpohdijfaaGreatDoorMa3
namespace Go.Proofs.YtdbghgpohdijfaaGreatDoor
open Go.RowKit Go.Scr
set_option linter.unusedVariables false
def spareB : ByteArray := ⟨#[115, 112, 97, 114, 101]⟩
theorem set_two {L : List ByteArray} {a b x : ByteArray} : (L ++ [a, b]).set L.length x = L ++ [x, b] ∧ (L ++ [a, b]).set (L.length + 1) x = L ++ [a, x] := by
  refine ⟨?_, ?_⟩
  · rw [List.set_append_right _ _ (Nat.le_refl _), Nat.sub_self]; rfl
  · rw [List.set_append_right _ _ (Nat.le_succ _), show L.length + 1 - L.length = 1 by omega]; rfl
theorem get_two {L : List ByteArray} {a b : ByteArray} : (L ++ [a, b])[L.length]? = some a ∧ (L ++ [a, b])[L.length + 1]? = some b := by
  refine ⟨?_, ?_⟩
  · rw [List.getElem?_append_right (Nat.le_refl _), Nat.sub_self]; rfl
  · rw [List.getElem?_append_right (Nat.le_succ _), show L.length + 1 - L.length = 1 by omega]; rfl
set_option maxRecDepth 100000 in
set_option maxHeartbeats 1000000 in
theorem lent6_any (v : Value) (L : List ByteArray) (w : World) (hv : Txts w v L) (hl : L.length ≤ 1048576) :
    Calls Tryz.prog 5 #[v] w fun e w' => ∃ g, e = .returned (.slice (some ⟨g, 0, none⟩) L.length (L.length + 2)) ∧ w.heap.size ≤ g ∧ SRow w' g (L ++ [spareB, spareB]) ∧ Below w.heap.size w w' := by
  have HV := Lib.hid hv
  obtain ⟨p, c, rfl, hv1, hv2, hv3⟩ := hv
  obtain ⟨n, hn⟩ : ∃ n, n = L.length := ⟨_, rfl⟩
  rw [← hn] at hv1 HV hl ⊢
  have HNL := Lib.hid hn
  obtain ⟨N8, hN8⟩ : ∃ N8, N8 = n + 2 := ⟨_, rfl⟩
  rw [← hN8]
  have hn8 : (n : Int) + 2 = (N8 : Int) := by omega
  have hN8b : N8 ≤ 1048584 := by omega
  have hmk := make_strs N8 (by omega) w
  have HN8 := Lib.hid hN8
  have hnb : n ≤ 1048576 := by omega
  have hsplice : splice ((List.replicate N8 (⟨#[]⟩ : ByteArray)).map Value.string) 0 (L.map Value.string) = (L ++ ([⟨#[]⟩, ⟨#[]⟩] : List ByteArray)).map Value.string := by
    unfold splice
    rw [List.take_zero, List.nil_append, Nat.zero_add, List.length_map, ← hn, hN8, ← List.map_drop, List.drop_replicate, ← List.map_append]
    congr 2
    rw [Nat.add_sub_cancel_left]
    rfl
  have HSP := Lib.hid hsplice
  have HNMIN := Lib.hid (show (L.map Value.string).length = Nat.min n N8 by rw [List.length_map, ← hn]; exact (Nat.min_eq_left (by omega)).symm)
  have HFIT := Lib.hid (show 0 + (L.map Value.string).length ≤ ((List.replicate N8 (⟨#[]⟩ : ByteArray)).map Value.string).length by simp; omega)
  clear hn hN8 hv1 hv2 hv3 hsplice
  go_enter Tryz.func5, Tryz.ntmps5
  go_upto_region 2 with fail
  have hrow0 : SRow (w.alloc (.cells (Array.replicate N8 (Value.string ⟨#[]⟩)) 9)) w.heap.size (List.replicate N8 ⟨#[]⟩) := by
    have h := heap_alloc_new w (.cells (Array.replicate N8 (Value.string ⟨#[]⟩)) 9)
    unfold SRow
    rw [h]
    simp
  have hbel5 : Below w.heap.size w (w.alloc (.cells (Array.replicate N8 (Value.string ⟨#[]⟩)) 9)) := (Below.refl _ _).alloc (Nat.le_refl _) _
  clear hmk hn8
  obtain ⟨g, hg⟩ : ∃ g, g = w.heap.size := ⟨_, rfl⟩
  rw [← hg] at hrow0 hbel5
  rw [← hg]
  generalize w.alloc (.cells (Array.replicate N8 (Value.string ⟨#[]⟩)) 9) = w5 at hrow0 hbel5 ⊢
  have HCP := Lib.hid (copy_src (g := g) HV.out hbel5 (by omega))
  have HROW5 := Lib.hid hrow0
  have HB5 := Lib.hid hbel5
  have HG := Lib.hid (Nat.le_refl g)
  have HGW := Lib.hid hg
  clear hrow0 hbel5 hg
  go_upto_region 3 with ((with_reducible refine wpList_copy_splice (o := ⟨some 10, _, _, _, _, _⟩) rfl (.tmp 8) (.tmp 9) 22 22 rfl 9 Tryz.underlying22 hsz_str (some ⟨g, 0, none⟩) p N8 N8 n c ?_ ?_ g 0 ((List.replicate N8 (⟨#[]⟩ : ByteArray)).map Value.string) 9 ?_ (L.map Value.string) HNMIN.out HCP.out HFIT.out (str_one _) g w HB5.out HG.out ?_); rfl; rfl; exact HROW5.out; intro w6 hrow6 hb6; rw [HSP.out] at hrow6; have HROW6 : Hid (SRow w6 g (L ++ ([⟨#[]⟩, ⟨#[]⟩] : List ByteArray))) := hrow6.out; have HB6 := Lib.hid hb6; clear hrow6 hb6)
  clear HSP HCP HNMIN HFIT
  have c1 : w6.cell? ⟨g, n, none⟩ = some (.string ⟨#[]⟩) := HROW6.out.cell (by rw [HNL.out]; exact get_two.1)
  have f1 := HROW6.out.frozen n
  have h1 : (n : Int) < (N8 : Int) := by have := HN8.out; omega
  have h0 : (0 : Int) ≤ (n : Int) := by omega
  have HR7 : Hid (SRow (w6.setCell ⟨g, n, none⟩ (.string spareB)) g (L ++ ([spareB, ⟨#[]⟩] : List ByteArray))) := Lib.hid (by have h := HROW6.out.set n spareB; rwa [HNL.out, set_two.1, ← HNL.out] at h)
  have HB7 : Hid (Below g w (w6.setCell ⟨g, n, none⟩ (.string spareB))) := Lib.hid (HB6.out.setCell (p := ⟨g, n, none⟩) HG.out _)
  go_upto_region 4 with fail
  change Code.wp _ _ _ _ (w6.setCell ⟨g, n, none⟩ (.string spareB))
  generalize w6.setCell ⟨g, n, none⟩ (.string spareB) = w7 at HR7 HB7 ⊢
  clear c1 f1
  obtain ⟨n1, hn1⟩ : ∃ x, x = n + 1 := ⟨_, rfl⟩
  have hn1i : (n : Int) + 1 = (n1 : Int) := by omega
  have c2 : w7.cell? ⟨g, n1, none⟩ = some (.string ⟨#[]⟩) := HR7.out.cell (by rw [hn1, HNL.out]; exact get_two.2)
  have f2 := HR7.out.frozen n1
  have h2 : (n1 : Int) < (N8 : Int) := by have := HN8.out; omega
  have h3 : (0 : Int) ≤ (n1 : Int) := by omega
  have HR8 : Hid (SRow (w7.setCell ⟨g, n1, none⟩ (.string spareB)) g (L ++ [spareB, spareB])) := Lib.hid (by have h := HR7.out.set n1 spareB; rwa [hn1, HNL.out, set_two.2, ← HNL.out, ← hn1] at h)
  have HB8 : Hid (Below g w (w7.setCell ⟨g, n1, none⟩ (.string spareB))) := Lib.hid (HB7.out.setCell (p := ⟨g, n1, none⟩) HG.out _)
  have h4 : (n : Int) ≤ (N8 : Int) := by omega
  clear hn1
  go_wp2_with fail
  go_ret
  exact ⟨g, rfl, by rw [HGW.out]; exact Nat.le_refl _, HR8.out, by rw [← HGW.out]; exact HB8.out⟩
set_option maxRecDepth 100000 in
set_option maxHeartbeats 1000000 in
theorem whole6_any (v : Value) (L : List ByteArray) (g : Nat) (w : World) (hv : Txts w v L) (hr : SRow w g (L ++ [spareB, spareB])) (hl : L.length ≤ 1048576) :
    Calls Tryz.prog 8 #[.slice (some ⟨g, 0, none⟩) L.length (L.length + 2), v] w fun e w' => e = .returned (.bool true) ∧ Below w.heap.size w w' := by
  have HV := Lib.hid hv
  obtain ⟨p, c, rfl, hv1, hv2, hv3⟩ := hv
  obtain ⟨n, hn⟩ : ∃ n, n = L.length := ⟨_, rfl⟩
  rw [← hn] at hv1 HV hl ⊢
  have HNL := Lib.hid hn
  obtain ⟨N8, hN8⟩ : ∃ N8, N8 = n + 2 := ⟨_, rfl⟩
  rw [← hN8]
  have HN8 := Lib.hid hN8
  have HP := Lib.hid hv3
  have HR := Lib.hid hr
  have hN8b : N8 ≤ 1048584 := by omega
  have hnb : n ≤ 1048576 := by omega
  have hN8i : (n : Int) + 2 = (N8 : Int) := by omega
  clear hn hN8 hv1 hv2 hv3 hr
  go_enter Tryz.func8, Tryz.ntmps8
  go_wp2
  go_loopw [5] (fun q wr => ∃ i : Nat, i ≤ n ∧ q = .int .i64 i ∧ SRow wr g (L ++ [spareB, spareB]) ∧ Below w.heap.size w wr) (fun q _ => n - (intOf q).toNat)
  case atStart => exact ⟨0, by omega, rfl, HR.out, Below.refl _ _⟩
  case round =>
    clear HR
    obtain ⟨i, hi, rfl, hrow, hbel⟩ := hrel
    have HROW := Lib.hid hrow
    have HBEL := Lib.hid hbel
    clear hrow hbel
    by_cases hin : i < n
    · have hin' : (i : Int) < (n : Int) := by omega
      obtain ⟨s, hs⟩ : ∃ s, L[i]? = some s := ⟨L[i]'(by rw [← HNL.out]; exact hin), List.getElem?_eq_getElem _⟩
      obtain ⟨a, rfl, hc⟩ := HP.out i s hs
      have hcell1 : wr.cell? (a.add i) = some (.string s) := (HBEL.out.cell (block_lt_of_cell hc)).trans hc
      have hcell2 : wr.cell? ⟨g, i, none⟩ = some (.string s) := HROW.out.cell (by rw [List.getElem?_append_left (by rw [← HNL.out]; exact hin)]; exact hs)
      have e1 : (s.toList == s.toList) = true := textE_same _
      clear hs hc
      go_upto_region 4 with fail
      go_quiet (fail)
      have HROW2 : Hid (SRow (wr.drewN nq) g (L ++ [spareB, spareB])) := HROW.out
      have HBEL2 : Hid (Below w.heap.size w (wr.drewN nq)) := below_drewN HBEL.out nq
      generalize wr.drewN nq = wx at *
      go_wp2_with fail
      exact ⟨⟨i + 1, by omega, rfl, HROW2.out, HBEL2.out⟩, (by show n - ((i : Int) + 1).toNat < n - (i : Int).toNat; omega)⟩
    · have hin' : ¬ ((i : Int) < (n : Int)) := by omega
      obtain ⟨n1, hn1⟩ : ∃ x, x = n + 1 := ⟨_, rfl⟩
      have hn1i : (n : Int) + 1 = (n1 : Int) := by omega
      have c1 : wr.cell? ⟨g, n, none⟩ = some (.string spareB) := HROW.out.cell (by rw [HNL.out]; exact get_two.1)
      have c2 : wr.cell? ⟨g, n1, none⟩ = some (.string spareB) := HROW.out.cell (by rw [hn1, HNL.out]; exact get_two.2)
      have hsp : (spareB.toList == [115, 112, 97, 114, 101]) = true := by decide +kernel
      have h1 : (n : Int) < (N8 : Int) := by omega
      have h2 : (n1 : Int) < (N8 : Int) := by omega
      have h3 : (0 : Int) ≤ (n1 : Int) := by omega
      have h4 : (0 : Int) ≤ (n : Int) := by omega
      have h5 : (0 : Int) ≤ (N8 : Int) := by omega
      clear hn1
      go_wp2_with fail
      go_ret
      exact ⟨rfl, HBEL.out⟩
theorem pair_same (a b : ByteArray) (w : World) : (Op.equal 26 (.agg #[.string a, .string b]) (.agg #[.string a, .string b])).run Tryz.prog w = .ok true w := by
  have hu := Tryz.underlying26
  have hi : Tryz.prog.underlying 9 = some .string := by kernel_rfl
  have h1 : ∀ (d : Nat) (x : ByteArray), (Op.equalIn (d + 1) 9 (.string x) (.string x)).run Tryz.prog w = .ok true w := fun d x => by
    simp [Op.equalIn, run_underlying hi]
    cases x with
    | mk d => show (d == d) = true; exact beq_self_eq_true d
  have p0 : (part 9 #[.string a, .string b] 0).run Tryz.prog w = .ok (.string a) w := by kernel_rfl
  have p1 : (part 9 #[.string a, .string b] 1).run Tryz.prog w = .ok (.string b) w := by kernel_rfl
  have h1' : ∀ (x : ByteArray), (Op.equalIn 9999 9 (.string x) (.string x)).run Tryz.prog w = .ok true w := h1 9998
  have h2 : (Op.equalIn (9998 + 1 + 1) 26 (.agg #[.string a, .string b]) (.agg #[.string a, .string b])).run Tryz.prog w = .ok true w := by
    rw [Op.equalIn]
    simp [run_underlying hu, h1', run_underlying hi, p0, p1]
  exact h2
theorem pair_neq (a b : ByteArray) (w : World) : (binOp .neq 26 (.agg #[.string a, .string b]) (.agg #[.string a, .string b])).run Tryz.prog w = .ok (.bool false) w := by
  simp only [binOp]
  simp [pair_same]
theorem pair_eql (a b : ByteArray) (w : World) : (binOp .eql 26 (.agg #[.string a, .string b]) (.agg #[.string a, .string b])).run Tryz.prog w = .ok (.bool true) w := by
  simp only [binOp]
  simp [pair_same]
end Go.Proofs.YtdbghgpohdijfaaGreatDoor
/- Law 6: ExtractPlays, walked (printed by gen_evg.py). -/
namespace Go.Proofs.YtdbghgpohdijfaaGreatDoor
open Go.RowKit Go.Scr
set_option linter.unusedVariables false
/-- what stands while the four are asked: two lists that were lent, two pairs -/
structure Ply (W w : World) (g h x y : Nat) (P Q : List ByteArray) (a b c d : ByteArray) : Prop where
  bel : Below W.heap.size W w
  r1 : SRow w g (P ++ [spareB, spareB])
  r2 : SRow w h (Q ++ [spareB, spareB])
  hx : w.heap[x]? = some (.cells #[.string a, .string b] 26 (0, 0))
  hy : w.heap[y]? = some (.cells #[.string c, .string d] 26 (0, 0))
  gW : W.heap.size ≤ g
  hW : W.heap.size ≤ h
  gx : g < x
  hx' : h < x
  xy : x < y
theorem Ply.below {W w w' : World} {g h x y : Nat} {P Q : List ByteArray} {a b c d : ByteArray} (H : Ply W w g h x y P Q a b c d) (hb : Below w.heap.size w w') : Ply W w' g h x y P Q a b c d :=
  ⟨H.bel.trans (hb.mono H.bel.size), H.r1.below hb H.r1.lt, H.r2.below hb H.r2.lt, blk_below H.hx hb (blk_lt H.hx), blk_below H.hy hb (blk_lt H.hy), H.gW, H.hW, H.gx, H.hx', H.xy⟩
theorem far2 {w : World} {x y : Nat} (h : y ≠ x) (a b : Value) : ((w.setCell ⟨x, 0, none⟩ a).setCell ⟨x, 1, none⟩ b).heap[y]? = w.heap[y]? := by
  rw [Below.heap_setCell _ ⟨x, 1, none⟩ _ y h, Below.heap_setCell _ ⟨x, 0, none⟩ _ y h]
theorem Ply.setx {W w : World} {g h x y : Nat} {P Q : List ByteArray} {a b c d : ByteArray} (H : Ply W w g h x y P Q a b c d) (p q : ByteArray) : Ply W ((w.setCell ⟨x, 0, none⟩ (.string p)).setCell ⟨x, 1, none⟩ (.string q)) g h x y P Q p q c d := by
  have h1 := H.gW
  have h2 := H.gx
  have h3 := H.hx'
  have h4 := H.xy
  exact ⟨(H.bel.setCell (p := ⟨x, 0, none⟩) (by show W.heap.size ≤ x; omega) _).setCell (p := ⟨x, 1, none⟩) (by show W.heap.size ≤ x; omega) _, (H.r1.far (p := ⟨x, 0, none⟩) (by show g ≠ x; omega) _).far (p := ⟨x, 1, none⟩) (by show g ≠ x; omega) _, (H.r2.far (p := ⟨x, 0, none⟩) (by show h ≠ x; omega) _).far (p := ⟨x, 1, none⟩) (by show h ≠ x; omega) _, blk_set2 H.hx, (far2 (by omega) _ _).trans H.hy, H.gW, H.hW, H.gx, H.hx', H.xy⟩
theorem Ply.sety {W w : World} {g h x y : Nat} {P Q : List ByteArray} {a b c d : ByteArray} (H : Ply W w g h x y P Q a b c d) (p q : ByteArray) : Ply W ((w.setCell ⟨y, 0, none⟩ (.string p)).setCell ⟨y, 1, none⟩ (.string q)) g h x y P Q a b p q := by
  have h1 := H.gW
  have h2 := H.gx
  have h3 := H.hx'
  have h4 := H.xy
  exact ⟨(H.bel.setCell (p := ⟨y, 0, none⟩) (by show W.heap.size ≤ y; omega) _).setCell (p := ⟨y, 1, none⟩) (by show W.heap.size ≤ y; omega) _, (H.r1.far (p := ⟨y, 0, none⟩) (by show g ≠ y; omega) _).far (p := ⟨y, 1, none⟩) (by show g ≠ y; omega) _, (H.r2.far (p := ⟨y, 0, none⟩) (by show h ≠ y; omega) _).far (p := ⟨y, 1, none⟩) (by show h ≠ y; omega) _, (far2 (by omega) _ _).trans H.hx, blk_set2 H.hy, H.gW, H.hW, H.gx, H.hx', H.xy⟩
theorem row_txts6 {w : World} {g : Nat} {P : List ByteArray} (h : SRow w g (P ++ [spareB, spareB])) (hp : P.length ≤ 1048576) : Txts w (.slice (some ⟨g, 0, none⟩) P.length (P.length + 2)) P := by
  have h1 := h.txts (n := P.length) (by simp) (by simp; omega)
  rw [List.take_left] at h1
  simpa using h1
theorem ets6 {a b : ByteArray} {p q : ByteArray} {c : Int} {w : World} (hsa : a.size ≤ 1048576) (hsb : b.size ≤ 1048576) (h : EtS a b p q c) : Calls Tryz.prog 14 #[.string a, .string b] w (Rt p q c w) := by
  refine (entries6_any hsa hsb).mono fun e w' hn => ?_
  unfold EnQ at hn
  unfold EtS at h
  by_cases h1 : a = b ∨ hleaf a ≠ hleaf b
  · rw [if_pos h1] at hn h
    obtain ⟨rfl, rfl, rfl⟩ := h
    exact hn
  · rw [if_neg h1] at hn h
    obtain ⟨p', q', he, hz, hb⟩ := hn
    obtain ⟨⟨rfl, rfl⟩, rfl⟩ := h
    obtain ⟨rfl, rfl⟩ := hz
    exact ⟨he, hb⟩
set_option maxRecDepth 100000 in
set_option maxHeartbeats 8000000 in
theorem extractplays_any {W : World} {s i f : Int} {root leaf other old : ByteArray} {v4 v6 : Value} {P Q : List ByteArray} (ht : Tabs W) (hP : Txts W v4 P) (hQ : Txts W v6 Q) (hp : P.length ≤ 1048576) (hq : Q.length ≤ 1048576) (hr : root.size ≤ 1048576) (hlf : leaf.size ≤ 1048576) :
    Calls Tryz.prog 3 #[.int .i64 s, .int .i64 i, .string root, .string leaf, v4, .string other, v6, .int .i64 f, .string old] W fun o w' => o = .returned (.bool true) ∧ Below W.heap.size W w' := by
  have CA : Hid (Calls Tryz.prog 4 #[] W fun o w' => o = .returned (.bool true) ∧ Below W.heap.size W w') := Lib.hid (awake_any ht)
  obtain ⟨n, hn⟩ : ∃ n, n = P.length := ⟨_, rfl⟩
  obtain ⟨m, hm⟩ : ∃ n, n = Q.length := ⟨_, rfl⟩
  obtain ⟨n2, hn2⟩ : ∃ x, x = n + 2 := ⟨_, rfl⟩
  obtain ⟨m2, hm2⟩ : ∃ x, x = m + 2 := ⟨_, rfl⟩
  have HTX : Hid (∀ w', Below W.heap.size W w' → Tabs w' ∧ Txts w' v4 P ∧ Txts w' v6 Q) := Lib.hid (fun w' hb => ⟨ht.below hb, hP.below hb (Nat.le_refl _), hQ.below hb (Nat.le_refl _)⟩)
  have CL1 : Hid (∀ w', Below W.heap.size W w' → Calls Tryz.prog 5 #[v4] w' fun e z => ∃ g, e = .returned (.slice (some ⟨g, 0, none⟩) n n2) ∧ w'.heap.size ≤ g ∧ SRow z g (P ++ [spareB, spareB]) ∧ Below w'.heap.size w' z) := Lib.hid (fun w' hb => by rw [hn2, hn]; exact lent6_any v4 P w' (HTX.out w' hb).2.1 hp)
  have CL2 : Hid (∀ w', Below W.heap.size W w' → Calls Tryz.prog 5 #[v6] w' fun e z => ∃ g, e = .returned (.slice (some ⟨g, 0, none⟩) m m2) ∧ w'.heap.size ≤ g ∧ SRow z g (Q ++ [spareB, spareB]) ∧ Below w'.heap.size w' z) := Lib.hid (fun w' hb => by rw [hm2, hm]; exact lent6_any v6 Q w' (HTX.out w' hb).2.2 hq)
  have CW1 : Hid (∀ (g : Nat) w', Below W.heap.size W w' → SRow w' g (P ++ [spareB, spareB]) → Calls Tryz.prog 8 #[.slice (some ⟨g, 0, none⟩) n n2, v4] w' fun e z => e = .returned (.bool true) ∧ Below w'.heap.size w' z) := Lib.hid (fun g w' hb hr => by rw [hn2, hn]; exact whole6_any v4 P g w' (HTX.out w' hb).2.1 hr hp)
  have CW2 : Hid (∀ (g : Nat) w', Below W.heap.size W w' → SRow w' g (Q ++ [spareB, spareB]) → Calls Tryz.prog 8 #[.slice (some ⟨g, 0, none⟩) m m2, v6] w' fun e z => e = .returned (.bool true) ∧ Below w'.heap.size w' z) := Lib.hid (fun g w' hb hr => by rw [hm2, hm]; exact whole6_any v6 Q g w' (HTX.out w' hb).2.2 hr hq)
  have CI : Hid (∀ (g h : Nat) w', Below W.heap.size W w' → SRow w' g (P ++ [spareB, spareB]) → SRow w' h (Q ++ [spareB, spareB]) → Calls Tryz.prog 6 #[.int .i64 s, .int .i64 i, .string root, .string leaf, .slice (some ⟨g, 0, none⟩) n n2, .string other, .slice (some ⟨h, 0, none⟩) m m2] w' (Pr (InS s i root leaf P other Q) w')) := Lib.hid (fun g h w' hb h1 h2 => by rw [hn2, hn, hm2, hm]; exact incl_all s i root leaf other _ _ P Q (HTX.out w' hb).1 (row_txts6 h1 hp) (row_txts6 h2 hq) hp hq)
  have DI : Hid (∀ p q c w', InS s i root leaf P other Q p q c → Below W.heap.size W w' → Calls Tryz.prog 7 #[.int .i64 s, .int .i64 i, .string root, .string leaf, v4, .string other, v6] w' (Rt p q c w')) := Lib.hid (fun p q c w' hS hb => inclusion6_any (HTX.out w' hb).2.1 (HTX.out w' hb).2.2 hp hq hS)
  have CV : Hid (∀ (g h : Nat) w', Below W.heap.size W w' → SRow w' g (P ++ [spareB, spareB]) → SRow w' h (Q ++ [spareB, spareB]) → Calls Tryz.prog 9 #[.slice (some ⟨g, 0, none⟩) n n2, .slice (some ⟨h, 0, none⟩) m m2] w' (Pr (LvS P Q) w')) := Lib.hid (fun g h w' hb h1 h2 => by rw [hn2, hn, hm2, hm]; exact leaves_all (HTX.out w' hb).1 (row_txts6 h1 hp) (row_txts6 h2 hq))
  have DV : Hid (∀ p q c w', LvS P Q p q c → Below W.heap.size W w' → Calls Tryz.prog 10 #[v4, v6] w' (Rt p q c w')) := Lib.hid (fun p q c w' hS hb => leaves6_any (HTX.out w' hb).2.1 (HTX.out w' hb).2.2 hp hq hS)
  have CC : Hid (∀ (g h : Nat) w', Below W.heap.size W w' → SRow w' g (P ++ [spareB, spareB]) → SRow w' h (Q ++ [spareB, spareB]) → Calls Tryz.prog 11 #[.slice (some ⟨g, 0, none⟩) n n2, .int .i64 f, .string old, .slice (some ⟨h, 0, none⟩) m m2] w' (Pr (CoS P f old Q) w')) := Lib.hid (fun g h w' hb h1 h2 => by rw [hn2, hn, hm2, hm]; exact cons_all f old (HTX.out w' hb).1 (row_txts6 h1 hp) (row_txts6 h2 hq) hq)
  have DC : Hid (∀ p q c w', CoS P f old Q p q c → Below W.heap.size W w' → Calls Tryz.prog 12 #[v4, .int .i64 f, .string old, v6] w' (Rt p q c w')) := Lib.hid (fun p q c w' hS hb => consistency6_any (HTX.out w' hb).2.1 (HTX.out w' hb).2.2 hp hq hS)
  have CE : Hid (∀ w', Below W.heap.size W w' → Calls Tryz.prog 13 #[.string root, .string leaf] w' (Pr (EtS root leaf) w')) := Lib.hid (fun w' hb => entries_all (HTX.out w' hb).1 hr hlf)
  have DE : Hid (∀ p q c w', EtS root leaf p q c → Calls Tryz.prog 14 #[.string root, .string leaf] w' (Rt p q c w')) := Lib.hid (fun p q c w' hS => ets6 hr hlf hS)
  obtain ⟨p4, c4, k4, rfl⟩ : ∃ p c k, v4 = .slice p c k := by obtain ⟨p, c, h, _⟩ := hP; exact ⟨_, _, _, h⟩
  obtain ⟨p6, c6, k6, rfl⟩ : ∃ p c k, v6 = .slice p c k := by obtain ⟨p, c, h, _⟩ := hQ; exact ⟨_, _, _, h⟩
  clear ht hP hQ hp hq hr hlf hn hm hn2 hm2 HTX
  go_enter Tryz.func3, Tryz.ntmps3
  go_upto_region 4 with (first
    | (go_at_call 4; (with_reducible refine CA.out.mono ?_); rintro o w1 ⟨rfl, h⟩; have HB1 := Lib.hid h; clear h)
    | (go_at_call 5; (with_reducible refine (CL1.out _ HB1.out).mono ?_); rintro o w2 ⟨g, rfl, hg, hrow, h⟩; have HB2 : Hid (Below W.heap.size W w2) := Lib.hid (HB1.out.trans (h.mono HB1.out.size)); have HR1 := Lib.hid hrow; have HG1 : Hid (W.heap.size ≤ g) := Lib.hid (Nat.le_trans HB1.out.size hg); clear h hg hrow)
    | (go_at_call 5; (with_reducible refine (CL2.out _ HB2.out).mono ?_); rintro o w3 ⟨h0, rfl, hg, hrow, h⟩; have HB3 : Hid (Below W.heap.size W w3) := Lib.hid (HB2.out.trans (h.mono HB2.out.size)); have HR2 := Lib.hid hrow; have HR1' := Lib.hid (HR1.out.below h HR1.out.lt); have HG2 : Hid (W.heap.size ≤ h0) := Lib.hid (Nat.le_trans HB2.out.size hg); clear h hg hrow))
  clear CA CL1 CL2 HB1 HB2 HR1
  go_upto_region 5 with (go_at_call 6; (with_reducible refine (CI.out _ _ _ HB3.out HR1'.out HR2.out).mono ?_); rintro o w4 ⟨p, q, c, rfl, hS, h⟩; have HB4 : Hid (Below w3.heap.size w3 w4) := Lib.hid h; have HS := Lib.hid hS; clear h hS)
  obtain ⟨w5, hw5⟩ : ∃ z, z = w4.alloc (.cells #[.string p, .string q] 26) := ⟨_, rfl⟩
  obtain ⟨b0, b1⟩ := one_blockE w4 #[.string p, .string q] 26
  rw [← hw5] at b0 b1
  obtain ⟨x, hx⟩ : ∃ z, z = w4.heap.size := ⟨_, rfl⟩
  rw [← hx] at b0
  rw [← hw5, ← hx]
  have HB5 : Hid (Below W.heap.size W w5) := Lib.hid ((HB3.out.trans (HB4.out.mono HB3.out.size)).trans (b1.mono (HB3.out.trans (HB4.out.mono HB3.out.size)).size))
  have HR51 := Lib.hid ((HR1'.out.below HB4.out HR1'.out.lt).below b1 (HR1'.out.below HB4.out HR1'.out.lt).lt)
  have HR52 := Lib.hid ((HR2.out.below HB4.out HR2.out.lt).below b1 (HR2.out.below HB4.out HR2.out.lt).lt)
  have HX5 : Hid (w5.heap[x]? = some (.cells #[.string p, .string q] 26 (0, 0)) ∧ g < x ∧ h0 < x) := Lib.hid ⟨b0, by rw [hx]; exact (HR1'.out.below HB4.out HR1'.out.lt).lt, by rw [hx]; exact (HR2.out.below HB4.out HR2.out.lt).lt⟩
  clear hw5 b0 b1 hx HB3 HB4 HR1' HR2 CI
  go_upto_region 6 with (go_at_call 7; (with_reducible refine (DI.out _ _ _ _ HS.out HB5.out).mono ?_); rintro o w6 ⟨rfl, h⟩; have HB6 : Hid (Below w5.heap.size w5 w6) := Lib.hid h; clear h)
  obtain ⟨w7, hw7⟩ : ∃ z, z = w6.alloc (.cells #[.string p, .string q] 26) := ⟨_, rfl⟩
  obtain ⟨b0, b1⟩ := one_blockE w6 #[.string p, .string q] 26
  rw [← hw7] at b0 b1
  obtain ⟨y, hy⟩ : ∃ z, z = w6.heap.size := ⟨_, rfl⟩
  rw [← hy] at b0
  rw [← hw7, ← hy]
  have H7 : Hid (Ply W w7 g h0 x y P Q p q p q) := Lib.hid (by
    have hb : Below w5.heap.size w5 w7 := HB6.out.trans (b1.mono HB6.out.size)
    exact ⟨HB5.out.trans (hb.mono HB5.out.size), HR51.out.below hb HR51.out.lt, HR52.out.below hb HR52.out.lt, blk_below HX5.out.1 hb (blk_lt HX5.out.1), b0, HG1.out, HG2.out, HX5.out.2.1, HX5.out.2.2, by rw [hy]; exact Nat.lt_of_lt_of_le (blk_lt HX5.out.1) HB6.out.size⟩)
  clear hw7 b0 b1 hy HB5 HB6 HR51 HR52 HX5 HS DI
  go_upto_region 8 with (first
    | (go_at_call 8; (with_reducible refine (CW1.out _ _ H7.out.bel H7.out.r1).mono ?_); rintro o w7a ⟨rfl, h⟩; have H7a := Lib.hid (H7.out.below h); clear h)
    | (go_at_call 8; (with_reducible refine (CW2.out _ _ H7a.out.bel H7a.out.r2).mono ?_); rintro o w7b ⟨rfl, h⟩; have H7b := Lib.hid (H7a.out.below h); clear h))
  clear H7 H7a
  have l0 : w7b.cell? ⟨x, 0, none⟩ = some (.string p) := cellB H7b.out.hx rfl
  have l1 : w7b.cell? ⟨x, 1, none⟩ = some (.string q) := cellB H7b.out.hx rfl
  have l2 : w7b.cell? ⟨y, 0, none⟩ = some (.string p) := cellB H7b.out.hy rfl
  have l3 : w7b.cell? ⟨y, 1, none⟩ = some (.string q) := cellB H7b.out.hy rfl
  have nq := fun w' => pair_neq p q w'
  have eq := fun w' => pair_eql p q w'
  have cc : (c == c) = true := beq_self_eq_true _
  go_upto_region 12 with (first
    | (go_at_call 9; (with_reducible refine (CV.out _ _ _ H7b.out.bel H7b.out.r1 H7b.out.r2).mono ?_); rintro o w7c ⟨p1, q1, c1, rfl, hS, h⟩; have HS1 := Lib.hid hS; have H7c := Lib.hid (H7b.out.below h); have k0 : w7c.cell? ⟨x, 0, none⟩ = some _ := cellB H7c.out.hx rfl; have k1 : w7c.cell? ⟨x, 1, none⟩ = some _ := cellB H7c.out.hx rfl; have f0 : w7c.frozen? ⟨x, 0, none⟩ = false := frozB H7c.out.hx; have f1 : w7c.frozen? ⟨x, 1, none⟩ = false := frozB H7c.out.hx; have H7d := Lib.hid (H7c.out.setx p1 q1); clear h hS)
    | (go_at_call 10; (with_reducible refine (DV.out _ _ _ _ HS1.out H7d.out.bel).mono ?_); rintro o w7e ⟨rfl, h⟩; have H7e := Lib.hid (H7d.out.below h); have k2 : w7e.cell? ⟨y, 0, none⟩ = some _ := cellB H7e.out.hy rfl; have k3 : w7e.cell? ⟨y, 1, none⟩ = some _ := cellB H7e.out.hy rfl; have f2 : w7e.frozen? ⟨y, 0, none⟩ = false := frozB H7e.out.hy; have f3 : w7e.frozen? ⟨y, 1, none⟩ = false := frozB H7e.out.hy; have H7f := Lib.hid (H7e.out.sety p1 q1); clear h))
  clear l0 l1 l2 l3 nq eq cc
  clear H7b H7c H7d H7e k0 k1 k2 k3 f0 f1 f2 f3 HS1
  change Code.wp _ _ _ _ ((w7e.setCell ⟨y, 0, none⟩ (.string p1)).setCell ⟨y, 1, none⟩ (.string q1))
  generalize ((w7e.setCell ⟨y, 0, none⟩ (.string p1)).setCell ⟨y, 1, none⟩ (.string q1)) = w7f at H7f ⊢
  have H8 := H7f
  clear H7f
  go_upto_region 14 with (first
    | (go_at_call 8; (with_reducible refine (CW1.out _ _ H8.out.bel H8.out.r1).mono ?_); rintro o w8a ⟨rfl, h⟩; have H8a := Lib.hid (H8.out.below h); clear h)
    | (go_at_call 8; (with_reducible refine (CW2.out _ _ H8a.out.bel H8a.out.r2).mono ?_); rintro o w8b ⟨rfl, h⟩; have H8b := Lib.hid (H8a.out.below h); clear h))
  clear H8 H8a
  have l0 : w8b.cell? ⟨x, 0, none⟩ = some (.string p1) := cellB H8b.out.hx rfl
  have l1 : w8b.cell? ⟨x, 1, none⟩ = some (.string q1) := cellB H8b.out.hx rfl
  have l2 : w8b.cell? ⟨y, 0, none⟩ = some (.string p1) := cellB H8b.out.hy rfl
  have l3 : w8b.cell? ⟨y, 1, none⟩ = some (.string q1) := cellB H8b.out.hy rfl
  have nq := fun w' => pair_neq p1 q1 w'
  have eq := fun w' => pair_eql p1 q1 w'
  have cc : (c1 == c1) = true := beq_self_eq_true _
  go_upto_region 18 with (first
    | (go_at_call 11; (with_reducible refine (CC.out _ _ _ H8b.out.bel H8b.out.r1 H8b.out.r2).mono ?_); rintro o w8c ⟨p2, q2, c2, rfl, hS, h⟩; have HS2 := Lib.hid hS; have H8c := Lib.hid (H8b.out.below h); have k0 : w8c.cell? ⟨x, 0, none⟩ = some _ := cellB H8c.out.hx rfl; have k1 : w8c.cell? ⟨x, 1, none⟩ = some _ := cellB H8c.out.hx rfl; have f0 : w8c.frozen? ⟨x, 0, none⟩ = false := frozB H8c.out.hx; have f1 : w8c.frozen? ⟨x, 1, none⟩ = false := frozB H8c.out.hx; have H8d := Lib.hid (H8c.out.setx p2 q2); clear h hS)
    | (go_at_call 12; (with_reducible refine (DC.out _ _ _ _ HS2.out H8d.out.bel).mono ?_); rintro o w8e ⟨rfl, h⟩; have H8e := Lib.hid (H8d.out.below h); have k2 : w8e.cell? ⟨y, 0, none⟩ = some _ := cellB H8e.out.hy rfl; have k3 : w8e.cell? ⟨y, 1, none⟩ = some _ := cellB H8e.out.hy rfl; have f2 : w8e.frozen? ⟨y, 0, none⟩ = false := frozB H8e.out.hy; have f3 : w8e.frozen? ⟨y, 1, none⟩ = false := frozB H8e.out.hy; have H8f := Lib.hid (H8e.out.sety p2 q2); clear h))
  clear l0 l1 l2 l3 nq eq cc
  clear H8b H8c H8d H8e k0 k1 k2 k3 f0 f1 f2 f3 HS2
  change Code.wp _ _ _ _ ((w8e.setCell ⟨y, 0, none⟩ (.string p2)).setCell ⟨y, 1, none⟩ (.string q2))
  generalize ((w8e.setCell ⟨y, 0, none⟩ (.string p2)).setCell ⟨y, 1, none⟩ (.string q2)) = w8f at H8f ⊢
  have H9 := H8f
  clear H8f
  go_upto_region 20 with (first
    | (go_at_call 8; (with_reducible refine (CW1.out _ _ H9.out.bel H9.out.r1).mono ?_); rintro o w9a ⟨rfl, h⟩; have H9a := Lib.hid (H9.out.below h); clear h)
    | (go_at_call 8; (with_reducible refine (CW2.out _ _ H9a.out.bel H9a.out.r2).mono ?_); rintro o w9b ⟨rfl, h⟩; have H9b := Lib.hid (H9a.out.below h); clear h))
  clear H9 H9a
  have l0 : w9b.cell? ⟨x, 0, none⟩ = some (.string p2) := cellB H9b.out.hx rfl
  have l1 : w9b.cell? ⟨x, 1, none⟩ = some (.string q2) := cellB H9b.out.hx rfl
  have l2 : w9b.cell? ⟨y, 0, none⟩ = some (.string p2) := cellB H9b.out.hy rfl
  have l3 : w9b.cell? ⟨y, 1, none⟩ = some (.string q2) := cellB H9b.out.hy rfl
  have nq := fun w' => pair_neq p2 q2 w'
  have eq := fun w' => pair_eql p2 q2 w'
  have cc : (c2 == c2) = true := beq_self_eq_true _
  go_upto_region 24 with (first
    | (go_at_call 13; (with_reducible refine (CE.out _ H9b.out.bel).mono ?_); rintro o w9c ⟨p3, q3, c3, rfl, hS, h⟩; have HS3 := Lib.hid hS; have H9c := Lib.hid (H9b.out.below h); have k0 : w9c.cell? ⟨x, 0, none⟩ = some _ := cellB H9c.out.hx rfl; have k1 : w9c.cell? ⟨x, 1, none⟩ = some _ := cellB H9c.out.hx rfl; have f0 : w9c.frozen? ⟨x, 0, none⟩ = false := frozB H9c.out.hx; have f1 : w9c.frozen? ⟨x, 1, none⟩ = false := frozB H9c.out.hx; have H9d := Lib.hid (H9c.out.setx p3 q3); clear h hS)
    | (go_at_call 14; (with_reducible refine (DE.out _ _ _ _ HS3.out).mono ?_); rintro o w9e ⟨rfl, h⟩; have H9e := Lib.hid (H9d.out.below h); have k2 : w9e.cell? ⟨y, 0, none⟩ = some _ := cellB H9e.out.hy rfl; have k3 : w9e.cell? ⟨y, 1, none⟩ = some _ := cellB H9e.out.hy rfl; have f2 : w9e.frozen? ⟨y, 0, none⟩ = false := frozB H9e.out.hy; have f3 : w9e.frozen? ⟨y, 1, none⟩ = false := frozB H9e.out.hy; have H9f := Lib.hid (H9e.out.sety p3 q3); clear h))
  clear l0 l1 l2 l3 nq eq cc
  clear H9b H9c H9d H9e k0 k1 k2 k3 f0 f1 f2 f3 HS3
  change Code.wp _ _ _ _ ((w9e.setCell ⟨y, 0, none⟩ (.string p3)).setCell ⟨y, 1, none⟩ (.string q3))
  generalize ((w9e.setCell ⟨y, 0, none⟩ (.string p3)).setCell ⟨y, 1, none⟩ (.string q3)) = w9f at H9f ⊢
  have l0 : w9f.cell? ⟨x, 0, none⟩ = some (.string p3) := cellB H9f.out.hx rfl
  have l1 : w9f.cell? ⟨x, 1, none⟩ = some (.string q3) := cellB H9f.out.hx rfl
  have l2 : w9f.cell? ⟨y, 0, none⟩ = some (.string p3) := cellB H9f.out.hy rfl
  have l3 : w9f.cell? ⟨y, 1, none⟩ = some (.string q3) := cellB H9f.out.hy rfl
  have nq := fun w' => pair_neq p3 q3 w'
  have eq := fun w' => pair_eql p3 q3 w'
  have cc : (c3 == c3) = true := beq_self_eq_true _
  go_wp2_with fail
  go_ret
  exact ⟨rfl, H9f.out.bel⟩
end Go.Proofs.YtdbghgpohdijfaaGreatDoor
