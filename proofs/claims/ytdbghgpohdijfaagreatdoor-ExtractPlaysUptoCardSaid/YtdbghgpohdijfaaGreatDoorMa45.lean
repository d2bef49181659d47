/- The document's layer 6: the texts of a walk. -/
import Derived.Test.YtdbghgpohdijfaaGreatDoorMa44
namespace Go.Proofs.YtdbghgpohdijfaaGreatDoor
open Go.RowKit Go.Scr
set_option linter.unusedVariables false
set_option maxRecDepth 100000 in
set_option maxHeartbeats 4000000 in
theorem texts6_any (r : ByteArray) (S : List (Nat × Nat × Bool)) (P : List ByteArray) (v vb : Value) (w : World) (hv : Held w 62 3 v S.length (s6V S)) (hvb : Txts w vb P) (hSP : S.length = P.length) (hP : ∀ p ∈ P, p.size = 32) (hr : r.size = 32) (hl : S.length ≤ 1048576) :
    Calls Tryz.prog 30 #[v, .string r, vb] w fun o w' => ∃ v', o = .returned v' ∧ LfI w w' v' S.length (textsF ((S.map (fun x => x.2.2)).zip P) r) := by
  have HV := Lib.hid hv
  have HVB := Lib.hid hvb
  obtain ⟨p, c, rfl, hle, _⟩ := hv.cells
  obtain ⟨pb, cb, rfl, hb1, hb2, hb3⟩ := hvb
  obtain ⟨n, hn⟩ : ∃ n, n = S.length := ⟨_, rfl⟩
  rw [← hSP] at HVB hb1 hb2 ⊢
  rw [← hn] at HV HVB hl hle hb1 hb2 ⊢
  obtain ⟨F, hF⟩ : ∃ F, F = (S.map (fun x => x.2.2)).zip P := ⟨_, rfl⟩
  rw [← hF]
  have HN : Hid (S.length = n ∧ P.length = n) := Lib.hid ⟨hn.symm, by rw [← hSP, ← hn]⟩
  have HFG : Hid (F.length = n ∧ ∀ (k : Nat) (s : Nat × Nat × Bool) (y : ByteArray), S[k]? = some s → P[k]? = some y → F[k]? = some (s.2.2, y)) := Lib.hid ⟨by rw [hF, List.length_zip, List.length_map, HN.out.1, HN.out.2]; exact Nat.min_self n, fun k s y h1 h2 => by rw [hF, List.getElem?_zip_eq_some]; exact ⟨by rw [List.getElem?_map, h1]; rfl, h2⟩⟩
  have HS : Hid (∀ x ∈ F, x.2.size = 32) := Lib.hid (fun x hx => by rw [hF] at hx; exact hP _ (List.of_mem_zip hx).2)
  have HR := Lib.hid hr
  have HPB : Hid (∀ j s, P[j]? = some s → ∃ a, pb = some a ∧ ∀ wr, Below w.heap.size w wr → wr.cell? (a.add j) = some (.string s)) := Lib.hid (fun j s hs => by
    obtain ⟨a, ha, hc⟩ := hb3 j s hs
    exact ⟨a, ha, fun wr hb => (hb.cell (block_lt_of_cell hc)).trans hc⟩)
  clear hv hF hP hr hn hSP hb3 HVB
  have HS0 : Hid (LfI w w (.slice none 0 0) 0 (textsF (F.take 0) r)) := Lib.hid ⟨Below.refl _ _, ⟨rfl, .inl ⟨rfl, rfl⟩⟩, fun g hg => nomatch hg⟩
  go_enter Tryz.func30, Tryz.ntmps30
  go_wp2_with fail
  go_loopw [7, 8, 9] (fun u x i wr => ∃ (k : Nat) (q : Option Addr) (d : Nat), i = .int .i64 (k : Int) ∧ x = .string (endF (F.take k) r) ∧ u = .slice q k d ∧ k ≤ n ∧ Hid (LfI w wr (.slice q k d) k (textsF (F.take k) r))) (fun _ _ i _ => n - (intOf i).toNat)
  case atStart => exact ⟨0, none, 0, rfl, rfl, rfl, Nat.zero_le _, HS0⟩
  case round =>
    clear HS0
    obtain ⟨k, q, d, rfl, rfl, rfl, hk, HI⟩ := hrel
    by_cases hlt : k < n
    · have hki : (k : Int) < (n : Int) := by omega
      obtain ⟨s, hs⟩ : ∃ s, S[k]? = some s := ⟨S[k]'(by have := HN.out; omega), List.getElem?_eq_getElem _⟩
      obtain ⟨y, hpy⟩ : ∃ s, P[k]? = some s := ⟨P[k]'(by have := HN.out; omega), List.getElem?_eq_getElem _⟩
      obtain ⟨x1, x2, f⟩ := s
      have hfk := HFG.out.2 k _ _ hs hpy
      have hy32 : y.size = 32 := HS.out _ (List.mem_of_getElem? hfk)
      obtain ⟨e, he⟩ : ∃ e, e = endF (F.take k) r := ⟨_, rfl⟩
      have he32 : e.size = 32 := by rw [he]; exact endF_size _ _ HR.out
      obtain ⟨t, htt⟩ : ∃ t, t = stT f y e := ⟨_, rfl⟩
      have ht65 : t.size = 65 := by rw [htt]; exact stT_size hy32 he32
      have hsn := textsF_snoc f y (F.take k) r
      have htk : F.take (k + 1) = F.take k ++ [(f, y)] := by rw [List.take_add_one, hfk]; rfl
      have HNX : Hid (textsF (F.take (k + 1)) r = textsF (F.take k) r ++ [t] ∧ endF (F.take (k + 1)) r = shaS t) := Lib.hid (by rw [htk, hsn.1, hsn.2, ← he, htt]; exact ⟨rfl, rfl⟩)
      rw [← he]
      obtain ⟨g, rfl, hg⟩ := held_cellP (HV.out.below HI.out.b) (by omega)
      obtain ⟨a0, a1, a2⟩ := s6V_get hs
      have c2 := hg _ _ a2
      obtain ⟨ab, rfl, hcb⟩ := HPB.out k y hpy
      have cy := hcb wr HI.out.b
      have HT1 : Hid (∀ w', Calls Tryz.prog 38 #[.string e, .string y] w' fun o z => o = .returned (.string (txtS e y)) ∧ z = w') := Lib.hid (fun w' => text6_any e y w' (by omega) (by omega))
      have HT2 : Hid (∀ w', Calls Tryz.prog 38 #[.string y, .string e] w' fun o z => o = .returned (.string (txtS y e)) ∧ z = w') := Lib.hid (fun w' => text6_any y e w' (by omega) (by omega))
      have HS1 : Hid (∀ w', Calls Tryz.prog 57 #[.string t] w' fun o z => o = .returned (.string (shaS t)) ∧ Below w'.heap.size w' z) := Lib.hid (fun w' => rsum_any t w' (by omega))
      have HONE : Hid (∀ u ∈ [Value.string t], u.oneCell' = true) := Lib.hid (fun u hu => by rw [List.mem_singleton.1 hu]; rfl)
      have hl1 : (k + 1) * 16 ≤ 140737488355328 := by omega
      have hl2 : k + 1 ≤ 140737488355328 := by omega
      have hki0 : (0 : Int) ≤ (k : Int) := by omega
      have HLT := Lib.hid hlt
      have HTT := Lib.hid htt
      have HHD := Lib.hid HI.out.h
      obtain ⟨M, hM⟩ : ∃ M, M = textsF (F.take k) r := ⟨_, rfl⟩
      rw [← hM] at HI HNX HHD
      clear hlt hs hpy hfk hy32 he he32 htt ht65 hsn htk hg a0 a1 a2 hcb hM
      cases f with
      | false =>
        obtain rfl : t = txtS e y := HTT.out
        go_wp2_with (first
          | (go_at_call 38; (with_reducible refine (HT1.out _).mono ?_); rintro o z ⟨rfl, hz⟩; rw [hz]; clear hz z)
          | (at_builtin; refine wpList_grew (v := .slice q k d) rfl _ _ rfl Tryz.underlying22 (.string ⟨#[]⟩) 1 info_strT rfl (by decide) [.string (txtS e y)] 1 (by simp [Act.eval]) (by simp [Act.eval]) HHD.out rfl rfl (by decide) HONE.out hl1 hl2 ?_; intro v6 w6 hg6; obtain ⟨p6, c6, rfl, _⟩ := hg6.held.cells; have HI6 := Lib.hid (HI.out.push hg6); clear hg6)
          | (go_at_call 57; (with_reducible refine (HS1.out _).mono ?_); rintro o w7 ⟨rfl, h⟩; have HI7 := Lib.hid (HI6.out.below h); clear h))
        exact ⟨⟨k + 1, p6, c6, congrArg (Value.int .i64) (by omega), by rw [HNX.out.2], rfl, by have := HLT.out; omega, Lib.hid (by rw [HNX.out.1]; exact HI7.out)⟩, by have := HLT.out; show n - ((k : Int) + 1).toNat < n - (k : Int).toNat; omega⟩
      | true =>
        obtain rfl : t = txtS y e := HTT.out
        go_wp2_with (first
          | (go_at_call 38; (with_reducible refine (HT1.out _).mono ?_); rintro o z ⟨rfl, hz⟩; rw [hz]; clear hz z)
          | (go_at_call 38; (with_reducible refine (HT2.out _).mono ?_); rintro o z ⟨rfl, hz⟩; rw [hz]; clear hz z)
          | (at_builtin; refine wpList_grew (v := .slice q k d) rfl _ _ rfl Tryz.underlying22 (.string ⟨#[]⟩) 1 info_strT rfl (by decide) [.string (txtS y e)] 1 (by simp [Act.eval]) (by simp [Act.eval]) HHD.out rfl rfl (by decide) HONE.out hl1 hl2 ?_; intro v6 w6 hg6; obtain ⟨p6, c6, rfl, _⟩ := hg6.held.cells; have HI6 := Lib.hid (HI.out.push hg6); clear hg6)
          | (go_at_call 57; (with_reducible refine (HS1.out _).mono ?_); rintro o w7 ⟨rfl, h⟩; have HI7 := Lib.hid (HI6.out.below h); clear h))
        exact ⟨⟨k + 1, p6, c6, congrArg (Value.int .i64) (by omega), by rw [HNX.out.2], rfl, by have := HLT.out; omega, Lib.hid (by rw [HNX.out.1]; exact HI7.out)⟩, by have := HLT.out; show n - ((k : Int) + 1).toNat < n - (k : Int).toNat; omega⟩
    · obtain rfl : k = n := by omega
      have hki : ¬ (k : Int) < (k : Int) := by omega
      have HTK : Hid (F.take k = F) := Lib.hid (List.take_of_length_le (by have := HFG.out.1; omega))
      rw [HTK.out] at HI
      clear hlt
      go_wp2_with fail
      go_ret
      exact ⟨_, rfl, HI.out⟩
end Go.Proofs.YtdbghgpohdijfaaGreatDoor
/- The document's layer 6: the steps of a walk. -/
namespace Go.Proofs.YtdbghgpohdijfaaGreatDoor
open Go.RowKit Go.Scr
set_option linter.unusedVariables false
theorem info_step6 : (Tryz.prog.info? 62).map (fun i => (i.zero, i.size, i.bytes)) = some (some (.agg #[.int .i64 0, .int .i64 0, .bool false]), 3, 24) := by kernel_rfl
theorem span_neq6 (a b c d : Int) (w : World) : (binOp .neq 54 (.agg #[.int .i64 a, .int .i64 b]) (.agg #[.int .i64 c, .int .i64 d])).run Tryz.prog w = .ok (.bool (!(a == c && b == d))) w := by
  have h := span_eql a b c d w
  simp only [binOp] at h ⊢
  cases he : (Op.equal 54 (.agg #[.int .i64 a, .int .i64 b]) (.agg #[.int .i64 c, .int .i64 d])).run Tryz.prog w with
  | ok x w' =>
    simp [he] at h ⊢
    obtain ⟨h1, h2⟩ := h
    subst h2
    simp [h1]
  | halt x w' => simp [he] at h
/-- an own list of steps, above w -/
structure S6I (w wr : World) (v : Value) (n : Nat) (S : List (Nat × Nat × Bool)) : Prop where
  b : Below w.heap.size w wr
  h : Held wr 62 3 v n (s6V S)
  o : ∀ g, v.ownBlock = some g → w.heap.size ≤ g
theorem S6I.below {w wr w' : World} {v : Value} {n : Nat} {S : List (Nat × Nat × Bool)} (H : S6I w wr v n S) (hb : Below wr.heap.size wr w') : S6I w w' v n S :=
  ⟨H.b.trans (hb.mono H.b.size), H.h.below hb, H.o⟩
theorem S6I.push {w wr w' : World} {v v' : Value} {n : Nat} {S : List (Nat × Nat × Bool)} {x : Nat × Nat × Bool} {cs : Array Value} {T : TypeId} (H : S6I w wr v n S) (g : Grew 62 3 (wr.alloc (.cells cs T)) v n 1 (s6V S) [.int .i64 (x.1 : Int), .int .i64 (x.2.1 : Int), .bool x.2.2] v' w') : S6I w w' v' (n + 1) (S ++ [x]) := by
  have hb1 : Below w.heap.size w (wr.alloc (.cells cs T)) := H.b.alloc H.b.size _
  have hgr := g.grown
  refine ⟨⟨hgr.os.trans hb1.os, hgr.tape.trans hb1.tape, hgr.output.trans hb1.output, Nat.le_trans hb1.size hgr.size, fun i hi => (hgr.block i (Nat.lt_of_lt_of_le hi hb1.size) (fun e => by have := H.o i e.symm; omega)).trans (hb1.block i hi)⟩, ?_, fun q hq => ?_⟩
  · rw [s6V_snoc]
    exact g.held
  · rcases g.at with ⟨e, _⟩ | ⟨e, _⟩
    · exact H.o q (by rw [← e]; exact hq)
    · rw [hq] at e
      have h1 := Option.some.inj e
      have h2 := hb1.size
      omega
/-- the way down: where it is to go, where it stands, the steps so far -/
structure S6J (w wr : World) (bf bs x y b e : Nat) (v : Value) (n : Nat) (S : List (Nat × Nat × Bool)) : Prop where
  bel : Below w.heap.size w wr
  h : Held wr 62 3 v n (s6V S)
  o : ∀ g, v.ownBlock = some g → bs < g
  c : wr.heap[bs]? = some (.cells #[.int .i64 (b : Int), .int .i64 (e : Int)] 54 (0, 0))
  f : wr.heap[bf]? = some (.cells #[.int .i64 (x : Int), .int .i64 (y : Int)] 54 (0, 0))
  l : w.heap.size ≤ bf
  lt : bf < bs
theorem S6J.drew {w wr : World} {bf bs x y b e : Nat} {v : Value} {n : Nat} {S : List (Nat × Nat × Bool)} (H : S6J w wr bf bs x y b e v n S) : S6J w wr.drew bf bs x y b e v n S :=
  ⟨H.bel.drew, H.h.below (Below.refl _ _).drew, H.o, H.c, H.f, H.l, H.lt⟩
theorem S6J.push {w wr w' : World} {bf bs x y b e : Nat} {v v' : Value} {n : Nat} {S : List (Nat × Nat × Bool)} {z : Nat × Nat × Bool} {cs : Array Value} {T : TypeId} (H : S6J w wr bf bs x y b e v n S) (g : Grew 62 3 (wr.alloc (.cells cs T)) v n 1 (s6V S) [.int .i64 (z.1 : Int), .int .i64 (z.2.1 : Int), .bool z.2.2] v' w') : S6J w w' bf bs x y b e v' (n + 1) (S ++ [z]) := by
  have hb0 : Below wr.heap.size wr (wr.alloc (.cells cs T)) := (Below.refl _ _).alloc (Nat.le_refl _) _
  have hb1 : Below w.heap.size w (wr.alloc (.cells cs T)) := H.bel.alloc H.bel.size _
  have hgr := g.grown
  have hl := H.l
  have hlt := H.lt
  have hk : ∀ i, i ≤ bs → w'.heap[i]? = wr.heap[i]? := fun i hi => (hgr.block i (Nat.lt_of_lt_of_le (Nat.lt_of_le_of_lt hi (blk_lt H.c)) hb0.size) (fun e => by have := H.o i e.symm; omega)).trans (hb0.block i (Nat.lt_of_le_of_lt hi (blk_lt H.c)))
  refine ⟨⟨hgr.os.trans hb1.os, hgr.tape.trans hb1.tape, hgr.output.trans hb1.output, Nat.le_trans hb1.size hgr.size, fun i hi => (hgr.block i (Nat.lt_of_lt_of_le hi hb1.size) (fun e => by have := H.o i e.symm; omega)).trans (hb1.block i hi)⟩, ?_, fun q hq => ?_, (hk bs (Nat.le_refl _)).trans H.c, (hk bf (Nat.le_of_lt hlt)).trans H.f, H.l, H.lt⟩
  · rw [s6V_snoc]
    exact g.held
  · rcases g.at with ⟨e, _⟩ | ⟨e, _⟩
    · exact H.o q (by rw [← e]; exact hq)
    · rw [hq] at e
      have h1 := Option.some.inj e
      have h2 := hb0.size
      have h3 := blk_lt H.c
      omega
theorem S6J.set {w wr : World} {bf bs x y b e : Nat} {v : Value} {n : Nat} {S : List (Nat × Nat × Bool)} (H : S6J w wr bf bs x y b e v n S) (k : Nat) :
    S6J w (wr.setCell ⟨bs, 0, none⟩ (.int .i64 (k : Int))) bf bs x y k e v n S ∧ S6J w (wr.setCell ⟨bs, 1, none⟩ (.int .i64 (k : Int))) bf bs x y b k v n S := by
  have hl := H.l
  have hlt := H.lt
  have hne : ∀ (j : Nat) (u : Value) (g : Nat), g ≠ bs → (wr.setCell ⟨bs, j, none⟩ u).heap[g]? = wr.heap[g]? := fun j u g hg => by
    simp only [World.setCell]
    rw [Array.getElem?_modify]
    rw [if_neg (fun h => hg h.symm)]
  refine ⟨⟨H.bel.setCell (p := ⟨bs, 0, none⟩) (by show w.heap.size ≤ bs; omega) _, H.h.keep (fun g hg => hne _ _ _ (by have := H.o g hg; omega)), H.o, blk_set H.c 0 _, (hne _ _ _ (by omega)).trans H.f, H.l, H.lt⟩, ⟨H.bel.setCell (p := ⟨bs, 1, none⟩) (by show w.heap.size ≤ bs; omega) _, H.h.keep (fun g hg => hne _ _ _ (by have := H.o g hg; omega)), H.o, blk_set H.c 1 _, (hne _ _ _ (by omega)).trans H.f, H.l, H.lt⟩⟩
def len6 : Value → Nat
  | .slice _ n _ => n
  | _ => 0
set_option maxRecDepth 100000 in
set_option maxHeartbeats 4000000 in
theorem steps6_any (n x y : Nat) (w : World) (hn : n ≤ 1099511627776) (hx : x ≤ n) (hy : y ≤ n) (hl : (spD x y 0 n).length ≤ 1048576) :
    Calls Tryz.prog 28 #[.int .i64 (n : Int), .agg #[.int .i64 (x : Int), .int .i64 (y : Int)]] w fun o w' => ∃ v', o = .returned v' ∧ S6I w w' v' (spD x y 0 n).length (spD x y 0 n).reverse := by
  obtain ⟨A, hA⟩ : ∃ A, A = spD x y 0 n := ⟨_, rfl⟩
  obtain ⟨m, hm⟩ : ∃ m, m = A.length := ⟨_, rfl⟩
  rw [← hA] at hl ⊢
  rw [← hm] at hl ⊢
  have HA : Hid (A = spD x y 0 n ∧ A.length = m) := Lib.hid ⟨hA, hm.symm⟩
  obtain ⟨wa, hwa⟩ : ∃ z, z = w.alloc (.cells #[.int .i64 (x : Int), .int .i64 (y : Int)] 54) := ⟨_, rfl⟩
  obtain ⟨wb, hwb⟩ : ∃ z, z = wa.alloc (.cells #[.int .i64 0, .int .i64 (n : Int)] 54) := ⟨_, rfl⟩
  obtain ⟨a0, a1⟩ := one_blockE w #[.int .i64 (x : Int), .int .i64 (y : Int)] 54
  obtain ⟨b0, b1⟩ := one_blockE wa #[.int .i64 0, .int .i64 (n : Int)] 54
  rw [← hwa] at a0 a1
  rw [← hwb] at b0 b1
  have HWA := Lib.hid hwa
  have HWB := Lib.hid hwb
  obtain ⟨bf, hbf⟩ : ∃ z, z = w.heap.size := ⟨_, rfl⟩
  obtain ⟨bs, hbs⟩ : ∃ z, z = wa.heap.size := ⟨_, rfl⟩
  have hlt : bf < bs := by rw [hbf, hbs]; exact blk_lt a0
  rw [← hbf] at a0
  rw [← hbs] at b0
  have HJ0 : Hid (S6J w wb bf bs x y 0 n (.slice none 0 0) 0 []) := Lib.hid ⟨a1.trans (b1.mono a1.size), ⟨rfl, .inl ⟨rfl, rfl⟩⟩, (fun g hg => nomatch hg), b0, (b1.block bf (blk_lt a0)).trans a0, by rw [hbf]; exact Nat.le_refl _, hlt⟩
  have HBF := Lib.hid hbf
  have HBS := Lib.hid hbs
  have HXY : Hid (x ≤ n ∧ y ≤ n ∧ n ≤ 1099511627776 ∧ m ≤ 1048576) := Lib.hid ⟨hx, hy, hn, hl⟩
  have hninf : n ≤ 1099511627776 := hn
  clear hA hm hwa hwb a0 a1 b0 b1 hbf hbs hlt
  go_enter Tryz.func28, Tryz.ntmps28
  go_upto_region 1 with fail
  rw [← HWA.out, ← HBF.out]
  go_wp2_with fail
  rw [← HWB.out, ← HBS.out]
  go_loopw [5] (fun u wr => ∃ (D : List (Nat × Nat × Bool)) (j b e : Nat) (q : Option Addr) (d : Nat), u = .slice q j d ∧ b ≤ e ∧ e ≤ n ∧ j ≤ m ∧ Hid (D.length = j ∧ A = D ++ spD x y b e) ∧ Hid (S6J w wr bf bs x y b e (.slice q j d) j D)) (fun u _ => m - len6 u)
  case atStart => exact ⟨[], 0, 0, n, none, 0, rfl, Nat.zero_le _, Nat.le_refl _, Nat.zero_le _, Lib.hid ⟨rfl, HA.out.1⟩, HJ0⟩
  case round =>
    clear HJ0 hn hx hy
    obtain ⟨D, j, b, e, q, d, rfl, hbe, hen, hjm, HD, HJ⟩ := hrel
    obtain ⟨s, hs⟩ : ∃ s, s = e - b := ⟨_, rfl⟩
    have hes : (e : Int) - (b : Int) = (s : Int) := by omega
    have k0 : wr.cell? ⟨bs, 0, none⟩ = some (.int .i64 (b : Int)) := cellB HJ.out.c rfl
    have k1 : wr.cell? ⟨bs, 1, none⟩ = some (.int .i64 (e : Int)) := cellB HJ.out.c rfl
    have f0 : wr.cell? ⟨bf, 0, none⟩ = some (.int .i64 (x : Int)) := cellB HJ.out.f rfl
    have f1 : wr.cell? ⟨bf, 1, none⟩ = some (.int .i64 (y : Int)) := cellB HJ.out.f rfl
    have heb : e ≤ 1099511627776 := by omega
    obtain ⟨T, hT⟩ : ∃ T, T = decide (¬ ((b = x ∧ e = y) ∨ e - b ≤ 1)) := ⟨_, rfl⟩
    have HT := Lib.hid hT
    have HSS : Hid (s = e - b ∧ b ≤ e ∧ e ≤ n ∧ j ≤ m) := Lib.hid ⟨hs, hbe, hen, hjm⟩
    go_upto_region 3 with fail
    go_cut [22] from 12 to 23 (fun u wx => u = .bool T ∧ wx = wr)
    case first =>
      by_cases heq : b = x ∧ e = y
      · have hneq : ∀ w', (binOp .neq 54 (.agg #[.int .i64 (b : Int), .int .i64 (e : Int)]) (.agg #[.int .i64 (x : Int), .int .i64 (y : Int)])).run Tryz.prog w' = .ok (.bool false) w' := fun w' => by rw [span_neq6, heq.1, heq.2]; simp
        have HTF : Hid (T = false) := Lib.hid (by rw [hT]; simp [heq])
        clear heq hT hs
        go_wp2_with fail
        go_meet
        exact ⟨by rw [HTF.out], rfl⟩
      · have hneq : ∀ w', (binOp .neq 54 (.agg #[.int .i64 (b : Int), .int .i64 (e : Int)]) (.agg #[.int .i64 (x : Int), .int .i64 (y : Int)])).run Tryz.prog w' = .ok (.bool true) w' := fun w' => by
          rw [span_neq6]
          congr 2
          rw [Bool.not_eq_true', Bool.and_eq_false_iff]
          by_cases h : b = x
          · right
            rw [beq_eq_false_iff_ne]
            omega
          · left
            rw [beq_eq_false_iff_ne]
            omega
        by_cases h1 : 1 < s
        · have h1i : (1 : Int) < (s : Int) := by omega
          have HTF : Hid (T = true) := Lib.hid (by rw [hT]; simp; omega)
          clear heq hT hs h1
          go_wp2_with fail
          go_meet
          exact ⟨by rw [HTF.out], rfl⟩
        · have h1i : ¬ (1 : Int) < (s : Int) := by omega
          have HTF : Hid (T = false) := Lib.hid (by rw [hT]; simp; omega)
          clear heq hT hs h1
          go_wp2_with fail
          go_meet
          exact ⟨by rw [HTF.out], rfl⟩
    case rest =>
      obtain ⟨rfl, hwx⟩ := hcut
      obtain rfl := hwx.symm
      cases T with
      | true =>
        have hst : ¬ ((b = x ∧ e = y) ∨ e - b ≤ 1) := of_decide_eq_true HT.out.symm
        have hs2 : 2 ≤ s := by omega
        obtain ⟨t, ht⟩ : ∃ t, t = spl s := ⟨_, rfl⟩
        have hsp := spl_lt hs2
        rw [← ht] at hsp
        obtain ⟨kk, hkk⟩ : ∃ k, k = b + t := ⟨_, rfl⟩
        have hbk : (b : Int) + (t : Int) = (kk : Int) := by omega
        have hkb : kk ≤ 1099511627776 := by omega
        have hsw : IntKind.i64.wrap (s : Int) = (s : Int) := IntWalk.i64_in _ (by omega)
        have hkw : IntKind.i64.wrap (kk : Int) = (kk : Int) := IntWalk.i64_in _ (by omega)
        have HSP : Hid (∀ w', Calls Tryz.prog 37 #[.int .i64 (s : Int)] w' fun o z => o = .returned (.int .i64 (t : Int)) ∧ z = w') := Lib.hid (fun w' => by
          have := splitr_any (s : Int) w' (by omega)
          rwa [splitS_nat hs2, ← ht] at this)
        have HR := Lib.hid (spD_right (x := x) (y := y) hst)
        have HL := Lib.hid (spD_left (x := x) (y := y) hst)
        rw [← hs, ← ht, ← hkk] at HR HL
        have HK : Hid (b ≤ kk ∧ kk ≤ e ∧ j < m) := Lib.hid (by
          refine ⟨by omega, by omega, ?_⟩
          have h1 := HD.out
          have h2 := congrArg List.length h1.2
          rw [List.length_append, HA.out.2, h1.1] at h2
          have h3 : 0 < (spD x y b e).length := by
            rcases Nat.lt_or_ge x kk with h | h
            · rw [HL.out (by omega)]; simp
            · rw [HR.out h]; simp
          omega)
        clear hst hs2 hsp hkk ht hs hbe hen hjm hT
        go_upto_region 4 with fail
        refine wp_region_still_lit (by kernel_rfl) (by kernel_rfl) ?_
        change wpStill _ _ wr.drew _ _ _
        iterate 7 (refine wpStill_step (fun K hK => ?_); go_simp; (refine hK _ ?_; clear hK K))
        refine wpStill_step (fun K hK => ?_)
        go_simp
        refine ⟨_, HSP.out _, hK _ ?_⟩
        clear hK K
        iterate 2 (refine wpStill_step (fun K hK => ?_); go_simp; (refine hK _ ?_; clear hK K))
        refine wpStill_nil ?_
        change Exit.then _ _ _ _ wr.drew
        have HJ2 := Lib.hid HJ.out.drew
        clear k0 k1 f0 f1 HSP hsw hkw hes HJ
        generalize wr.drew = wy at HJ2 ⊢
        have k0 : wy.cell? ⟨bs, 0, none⟩ = some (.int .i64 (b : Int)) := cellB HJ2.out.c rfl
        have k1 : wy.cell? ⟨bs, 1, none⟩ = some (.int .i64 (e : Int)) := cellB HJ2.out.c rfl
        have f0 : wy.cell? ⟨bf, 0, none⟩ = some (.int .i64 (x : Int)) := cellB HJ2.out.f rfl
        have HHD := Lib.hid HJ2.out.h
        have hl1 : (j + 1) * 24 ≤ 140737488355328 := by have := HK.out; omega
        have hl2 : j + 1 ≤ 140737488355328 := by have := HK.out; omega
        by_cases hxk : kk ≤ x
        · have hxi : (kk : Int) ≤ (x : Int) := by omega
          have HA2 : Hid ((D ++ [(b, kk, true)]).length = j + 1 ∧ A = (D ++ [(b, kk, true)]) ++ spD x y kk e) := Lib.hid (by
            have h := HD.out
            rw [HR.out hxk] at h
            exact ⟨by rw [List.length_append, h.1]; rfl, by rw [h.2, List.append_assoc]; rfl⟩)
          have HONE : Hid (∀ u ∈ [Value.int .i64 (b : Int), .int .i64 (kk : Int), .bool true], u.oneCell' = true) := Lib.hid (fun u hu => by
            rcases List.mem_cons.mp hu with rfl | hu
            · rfl
            rcases List.mem_cons.mp hu with rfl | hu
            · rfl
            rw [List.mem_singleton.1 hu]; rfl)
          clear hxk HR HL
          go_wp2_with (first
            | (at_builtin; refine wpList_grew (v := .slice q j d) rfl _ _ rfl Tryz.underlying51 (.agg #[.int .i64 0, .int .i64 0, .bool false]) 3 info_step6 rfl (by decide) [.int .i64 (b : Int), .int .i64 (kk : Int), .bool true] 1 (by simp [Act.eval]) (by simp [Act.eval]) HHD.out rfl rfl (by decide) HONE.out hl1 hl2 ?_; intro v5 w5 hg5; obtain ⟨p5, c5, rfl, _⟩ := hg5.held.cells; have HJ5 := Lib.hid (HJ2.out.push (z := (b, kk, true)) hg5); have k2 : w5.cell? ⟨bs, 0, none⟩ = some (.int .i64 (b : Int)) := cellB HJ5.out.c rfl; have k3 : w5.frozen? ⟨bs, 0, none⟩ = false := frozB HJ5.out.c; clear hg5))
          exact ⟨⟨D ++ [(b, kk, true)], j + 1, kk, e, p5, c5, rfl, by have := HK.out; omega, by have := HSS.out; omega, by have := HK.out; omega, HA2, Lib.hid (HJ5.out.set kk).1⟩, by have := HK.out; show m - (j + 1) < m - j; omega⟩
        · have hxi : ¬ (kk : Int) ≤ (x : Int) := by omega
          have HA2 : Hid ((D ++ [(kk, e, false)]).length = j + 1 ∧ A = (D ++ [(kk, e, false)]) ++ spD x y b kk) := Lib.hid (by
            have h := HD.out
            rw [HL.out hxk] at h
            exact ⟨by rw [List.length_append, h.1]; rfl, by rw [h.2, List.append_assoc]; rfl⟩)
          have HONE : Hid (∀ u ∈ [Value.int .i64 (kk : Int), .int .i64 (e : Int), .bool false], u.oneCell' = true) := Lib.hid (fun u hu => by
            rcases List.mem_cons.mp hu with rfl | hu
            · rfl
            rcases List.mem_cons.mp hu with rfl | hu
            · rfl
            rw [List.mem_singleton.1 hu]; rfl)
          clear hxk HR HL
          go_wp2_with (first
            | (at_builtin; refine wpList_grew (v := .slice q j d) rfl _ _ rfl Tryz.underlying51 (.agg #[.int .i64 0, .int .i64 0, .bool false]) 3 info_step6 rfl (by decide) [.int .i64 (kk : Int), .int .i64 (e : Int), .bool false] 1 (by simp [Act.eval]) (by simp [Act.eval]) HHD.out rfl rfl (by decide) HONE.out hl1 hl2 ?_; intro v5 w5 hg5; obtain ⟨p5, c5, rfl, _⟩ := hg5.held.cells; have HJ5 := Lib.hid (HJ2.out.push (z := (kk, e, false)) hg5); have k2 : w5.cell? ⟨bs, 1, none⟩ = some (.int .i64 (e : Int)) := cellB HJ5.out.c rfl; have k3 : w5.frozen? ⟨bs, 1, none⟩ = false := frozB HJ5.out.c; clear hg5))
          exact ⟨⟨D ++ [(kk, e, false)], j + 1, b, kk, p5, c5, rfl, by have := HK.out; omega, by have := HK.out; have := HSS.out; omega, by have := HK.out; omega, HA2, Lib.hid (HJ5.out.set kk).2⟩, by have := HK.out; show m - (j + 1) < m - j; omega⟩
      | false =>
        have hst : (b = x ∧ e = y) ∨ e - b ≤ 1 := Classical.byContradiction fun h => by
          have := of_decide_eq_false HT.out.symm
          exact this h
        have HDA : Hid (D = A ∧ j = m) := Lib.hid (by
          have h := HD.out
          rw [spD_end hst, List.append_nil] at h
          exact ⟨h.2.symm, by rw [← h.1, ← h.2, HA.out.2]⟩)
        obtain ⟨rfl, rfl⟩ := HDA.out
        have HV : Hid (Held wr 62 3 (.slice q j d) j (s6V D)) := Lib.hid HJ.out.h
        have HB : Hid (Below w.heap.size w wr) := Lib.hid HJ.out.bel
        have HLN : Hid (D.length = j) := Lib.hid HA.out.2
        clear hst hbe hen hjm hs hT HT HSS hes HD HJ k0 k1 f0 f1 HA HDA
        have HS0 : Hid (S6I wr wr (.slice none 0 0) 0 (D.reverse.take 0)) := Lib.hid ⟨Below.refl _ _, ⟨rfl, .inl ⟨rfl, rfl⟩⟩, (fun g hg => nomatch hg)⟩
        go_wp2_with fail
        go_loopw [8, 9] (fun u i wx => ∃ (k : Nat) (z : Int) (p : Option Addr) (c : Nat), z = (j : Int) - 1 - (k : Int) ∧ i = .int .i64 z ∧ u = .slice p k c ∧ k ≤ j ∧ Hid (S6I wr wx (.slice p k c) k (D.reverse.take k))) (fun _ i _ => (intOf i + 1).toNat)
        case atStart => exact ⟨0, _, none, 0, by omega, rfl, rfl, Nat.zero_le _, HS0⟩
        case round =>
          clear HS0
          obtain ⟨k, z, p, c, hz, rfl, rfl, hk, HI⟩ := hrel
          by_cases hlt : k < j
          · obtain ⟨g, hg⟩ : ∃ g, g = j - 1 - k := ⟨_, rfl⟩
            obtain rfl : z = (g : Int) := by omega
            obtain ⟨⟨x1, x2, f⟩, hs⟩ : ∃ s, D[g]? = some s := ⟨D[g]'(by have := HLN.out; omega), List.getElem?_eq_getElem _⟩
            have HTK := Lib.hid (rev_take6 D k _ (by have := HLN.out; omega) (by have := HLN.out; rw [show D.length - 1 - k = g by omega]; exact hs))
            obtain ⟨gb, rfl, hcell⟩ := held_cellP (HV.out.below HI.out.b) (by omega)
            obtain ⟨a0, a1, a2⟩ := s6V_get hs
            have c0 := hcell _ _ a0
            have c1 := hcell _ _ a1
            have c2 := hcell _ _ a2
            have hg0 : (0 : Int) ≤ (g : Int) := by omega
            have hgj : (g : Int) < (j : Int) := by omega
            have HG : Hid (k < j ∧ g = j - 1 - k) := Lib.hid ⟨hlt, hg⟩
            have HHD := Lib.hid HI.out.h
            have HONE : Hid (∀ u ∈ [Value.int .i64 (x1 : Int), .int .i64 (x2 : Int), .bool f], u.oneCell' = true) := Lib.hid (fun u hu => by
              rcases List.mem_cons.mp hu with rfl | hu
              · rfl
              rcases List.mem_cons.mp hu with rfl | hu
              · rfl
              rw [List.mem_singleton.1 hu]; rfl)
            have hl1 : (k + 1) * 24 ≤ 140737488355328 := by have := HXY.out; omega
            have hl2 : k + 1 ≤ 140737488355328 := by have := HXY.out; omega
            clear hlt hg hz hk hs hcell a0 a1 a2
            go_wp2_with (first
              | (at_builtin; refine wpList_grew (v := .slice p k c) rfl _ _ rfl Tryz.underlying51 (.agg #[.int .i64 0, .int .i64 0, .bool false]) 3 info_step6 rfl (by decide) [.int .i64 (x1 : Int), .int .i64 (x2 : Int), .bool f] 1 (by simp [Act.eval]) (by simp [Act.eval]) HHD.out rfl rfl (by decide) HONE.out hl1 hl2 ?_; intro v5 w5 hg5; obtain ⟨p5, c5, rfl, _⟩ := hg5.held.cells; have HI5 := Lib.hid (HI.out.push (x := (x1, x2, f)) hg5); clear hg5))
            exact ⟨⟨k + 1, _, p5, c5, by have := HG.out; push_cast; omega, rfl, rfl, by have := HG.out; omega, Lib.hid (by rw [HTK.out]; exact HI5.out)⟩, by have := HG.out; show ((g : Int) - 1 + 1).toNat < ((g : Int) + 1).toNat; omega⟩
          · obtain rfl : k = j := by omega
            obtain rfl : z = -1 := by omega
            have HTK : Hid (D.reverse.take k = D.reverse) := Lib.hid (List.take_of_length_le (by rw [List.length_reverse, HLN.out]; exact Nat.le_refl _))
            rw [HTK.out] at HI
            clear hlt
            go_wp2_with fail
            go_ret
            exact ⟨_, rfl, ⟨HB.out.trans (HI.out.b.mono HB.out.size), HI.out.h, fun g hg => Nat.le_trans HB.out.size (HI.out.o g hg)⟩⟩
end Go.Proofs.YtdbghgpohdijfaaGreatDoor
