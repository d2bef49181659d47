/- extract.climb: walked. -/
import Derived.Test.YtdbghgpohdijfaaGreatDoorMa36
import Derived.Test.YtdbghgpohdijfaaGreatDoorMa22
import Derived.Test.YtdbghgpohdijfaaGreatDoorMa34
import Derived.Test.YtdbghgpohdijfaaGreatDoorMa31
namespace Go.Proofs.YtdbghgpohdijfaaGreatDoor
open Go.RowKit Go.Scr Go.ChangeMaps Go.MapKept
set_option linter.unusedVariables false
theorem info_step : (Tryz.prog.info? 73).map (fun i => (i.zero, i.size, i.bytes)) = some (some (.agg #[.bool false, .string ⟨#[]⟩]), 2, 24) := by kernel_rfl
def stV (S : List (Bool × ByteArray)) : List Value := S.flatMap fun x => [.bool x.1, .string x.2]
theorem stV_len (S : List (Bool × ByteArray)) : (stV S).length = S.length * 2 := by
  induction S with
  | nil => rfl
  | cons x r ih => rw [stV, List.flatMap_cons, List.length_append]; show 2 + (stV r).length = _; rw [ih, List.length_cons]; omega
theorem stV_snoc (S : List (Bool × ByteArray)) (x : Bool × ByteArray) : stV (S ++ [x]) = stV S ++ [.bool x.1, .string x.2] := by
  unfold stV; rw [List.flatMap_append]; rfl
theorem stV_get : ∀ {S : List (Bool × ByteArray)} {i : Nat} {x : Bool × ByteArray}, S[i]? = some x → (stV S)[i * 2]? = some (.bool x.1) ∧ (stV S)[i * 2 + 1]? = some (.string x.2)
  | [], i, x, h => by simp at h
  | y :: r, 0, x, h => by obtain rfl := Option.some.inj h; exact ⟨rfl, rfl⟩
  | y :: r, i + 1, x, h => by
    have := stV_get (S := r) (i := i) (x := x) h
    rw [show (i + 1) * 2 = i * 2 + 2 by omega]
    exact this
/-- an own list of steps, above w -/
structure StI (w wr : World) (v : Value) (n : Nat) (S : List (Bool × ByteArray)) : Prop where
  b : Below w.heap.size w wr
  h : Held wr 73 2 v n (stV S)
  o : ∀ g, v.ownBlock = some g → w.heap.size ≤ g
theorem StI.below {w wr w' : World} {v : Value} {n : Nat} {S : List (Bool × ByteArray)} (H : StI w wr v n S) (hb : Below wr.heap.size wr w') : StI w w' v n S :=
  ⟨H.b.trans (hb.mono H.b.size), H.h.below hb, H.o⟩
theorem StI.push {w wr w' : World} {v v' : Value} {n : Nat} {S : List (Bool × ByteArray)} {x : Bool × ByteArray} {cs : Array Value} {T : TypeId} (H : StI w wr v n S) (g : Grew 73 2 (wr.alloc (.cells cs T)) v n 1 (stV S) [.bool x.1, .string x.2] v' w') : StI w w' v' (n + 1) (S ++ [x]) := by
  have hb1 : Below w.heap.size w (wr.alloc (.cells cs T)) := H.b.alloc H.b.size _
  have hgr := g.grown
  refine ⟨⟨hgr.os.trans hb1.os, hgr.tape.trans hb1.tape, hgr.output.trans hb1.output, Nat.le_trans hb1.size hgr.size, fun i hi => (hgr.block i (Nat.lt_of_lt_of_le hi hb1.size) (fun e => by have := H.o i e.symm; omega)).trans (hb1.block i hi)⟩, ?_, fun q hq => ?_⟩
  · rw [stV_snoc]
    exact g.held
  · rcases g.at with ⟨e, _⟩ | ⟨e, _⟩
    · exact H.o q (by rw [← e]; exact hq)
    · rw [hq] at e
      have h1 := Option.some.inj e
      have h2 := hb1.size
      omega
theorem nextC_skB (x y : Nat) : nextC x y = ((skB (isLeft x y) x y).1 / 2, (skB (isLeft x y) x y).2 / 2) := by
  unfold nextC skB
  cases isLeft x y <;> simp
theorem zip_snocC (a l k : Nat) {L : List ByteArray} {s : ByteArray} (hs : L[k]? = some s) : (flagsC a l (k + 1)).zip (L.take (k + 1)) = (flagsC a l k).zip (L.take k) ++ [(isLeft (atC a l k).1 (atC a l k).2, s)] := by
  obtain ⟨hk, hb⟩ := List.getElem?_eq_some_iff.mp hs
  rw [flagsC_snoc, List.take_succ_eq_append_getElem hk, hb, List.zip_append (by rw [flagsC_len, List.length_take]; omega)]
  rfl
set_option maxRecDepth 100000 in
set_option maxHeartbeats 4000000 in
theorem climb_any (a l : Nat) (L : List ByteArray) (v : Value) (w : World) (ha : a ≤ 1099511627776) (hl : l ≤ 1099511627776) (hv : Txts w v L) (hL : L.length ≤ 1048576) :
    Calls Tryz.prog 22 #[.int .i64 (a : Int), .int .i64 (l : Int), v] w fun o w' => ∃ v', o = .returned v' ∧ StI w w' v' L.length ((flagsC a l L.length).zip L) := by
  have HV := Lib.hid hv
  obtain ⟨p, c, rfl, hv1, hv2, hv3⟩ := hv
  obtain ⟨n, hn⟩ : ∃ n, n = L.length := ⟨_, rfl⟩
  rw [← hn] at HV hL ⊢
  have HN := Lib.hid hn
  have HA : Hid (a ≤ 1099511627776 ∧ l ≤ 1099511627776) := Lib.hid ⟨ha, hl⟩
  have HCE : Hid (∀ j s, L[j]? = some s → ∃ a, p = some a ∧ w.cell? (a.add j) = some (.string s)) := Lib.hid hv3
  clear ha hl hv1 hv2 hv3 hn
  have HS0 : Hid (StI w w (.slice none 0 0) 0 ((flagsC a l 0).zip (L.take 0))) := Lib.hid ⟨Below.refl _ _, ⟨rfl, .inl ⟨rfl, rfl⟩⟩, fun g hg => nomatch hg⟩
  go_enter Tryz.func22, Tryz.ntmps22
  go_wp2_with fail
  go_loopw [0, 1, 7, 13] (fun x y u i wr => ∃ (k : Nat) (q : Option Addr) (d : Nat), i = .int .i64 (k : Int) ∧ x = .int .i64 ((atC a l k).1 : Int) ∧ y = .int .i64 ((atC a l k).2 : Int) ∧ u = .slice q k d ∧ k ≤ n ∧ Hid (StI w wr (.slice q k d) k ((flagsC a l k).zip (L.take k)))) (fun _ _ _ i _ => n - (intOf i).toNat)
  case atStart => exact ⟨0, none, 0, rfl, rfl, rfl, rfl, Nat.zero_le _, HS0⟩
  case round =>
    clear HS0
    obtain ⟨k, q, d, rfl, rfl, rfl, rfl, hk, HI⟩ := hrel
    by_cases hlt : k < n
    · have hki : (k : Int) < (n : Int) := by omega
      obtain ⟨s, hs⟩ : ∃ s, L[k]? = some s := ⟨L[k]'(by have := HN.out; omega), List.getElem?_eq_getElem _⟩
      obtain ⟨pa, rfl, hc0⟩ := HCE.out k s hs
      have hxl := atC_le a l k
      obtain ⟨x, hx⟩ : ∃ x, x = (atC a l k).1 := ⟨_, rfl⟩
      obtain ⟨y, hy⟩ : ∃ y, y = (atC a l k).2 := ⟨_, rfl⟩
      obtain ⟨b, hb⟩ : ∃ b, b = isLeft x y := ⟨_, rfl⟩
      have HNX : Hid ((atC a l (k + 1)).1 = (skB b x y).1 / 2 ∧ (atC a l (k + 1)).2 = (skB b x y).2 / 2 ∧ (flagsC a l (k + 1)).zip (L.take (k + 1)) = (flagsC a l k).zip (L.take k) ++ [(b, s)]) := Lib.hid (by
        refine ⟨?_, ?_, ?_⟩
        · rw [atC, nextC_skB, ← hx, ← hy, ← hb]
        · rw [atC, nextC_skB, ← hx, ← hy, ← hb]
        · rw [zip_snocC a l k hs, ← hx, ← hy, ← hb])
      rw [← hx, ← hy] at hxl ⊢
      have hx40 : x ≤ 1099511627776 := Nat.le_trans hxl.1 HA.out.1
      have hy40 : y ≤ 1099511627776 := Nat.le_trans hxl.2 HA.out.2
      have ck : wr.cell? (pa.add k) = some (.string s) := by
        obtain ⟨a2, e2, h2⟩ := (HV.out.below HI.out.b (Nat.le_refl _)).choose_spec.choose_spec.2.2.2 k s hs
        have hpp : some pa = (HV.out.below HI.out.b (Nat.le_refl _)).choose := by
          have := (HV.out.below HI.out.b (Nat.le_refl _)).choose_spec.choose_spec.1
          injection this
        rw [← hpp] at e2
        cases e2
        exact h2
      have HB := Lib.hid hb
      have HLT := Lib.hid hlt
      obtain ⟨S, hS⟩ : ∃ S, S = (flagsC a l k).zip (L.take k) := ⟨_, rfl⟩
      rw [← hS] at HI HNX
      clear hs hc0 hxl hx hy hb hlt hk hS
      go_upto_region 5 with fail
      go_cut [10] from 17 to 24 (fun u wx => u = .bool b ∧ wx = wr)
      case first =>
        have hz0 : (0 : Int) ≤ (x : Int) := Int.natCast_nonneg _
        rcases Nat.mod_two_eq_zero_or_one x with he | ho
        · have q0 : (x : Int).tmod 2 = 0 := by rw [Int.tmod_eq_emod_of_nonneg hz0]; omega
          by_cases hxy : x = y
          · subst hxy
            obtain rfl : b = true := by rw [HB.out]; simp [isLeft]
            go_wp2_with fail
            go_meet
            exact ⟨rfl, rfl⟩
          · obtain rfl : b = false := by rw [HB.out]; simp [isLeft, he, hxy]
            have hne : ((x : Int) == (y : Int)) = false := by rw [beq_eq_false_iff_ne]; omega
            have hne2 : ¬ (x : Int) = (y : Int) := by omega
            go_wp2_with fail
            go_meet
            exact ⟨rfl, rfl⟩
        · have q0 : (x : Int).tmod 2 = 1 := by rw [Int.tmod_eq_emod_of_nonneg hz0]; omega
          obtain rfl : b = true := by rw [HB.out]; simp [isLeft, ho]
          go_wp2_with fail
          go_meet
          exact ⟨rfl, rfl⟩
      case rest =>
        obtain ⟨rfl, rfl⟩ := hcut
        have HONE : Hid (∀ u ∈ [Value.bool b, .string s], u.oneCell' = true) := Lib.hid (fun u hu => by
          rcases List.mem_cons.mp hu with rfl | hu
          · rfl
          · rw [List.mem_singleton.1 hu]; rfl)
        have hl1 : (k + 1) * 24 ≤ 140737488355328 := by have := HLT.out; omega
        have hl2 : k + 1 ≤ 140737488355328 := by have := HLT.out; omega
        have HHD := Lib.hid HI.out.h
        go_wp2_with (first
          | go_step3
          | (at_builtin; refine wpList_grew (v := .slice q k d) rfl _ _ rfl Tryz.underlying47 (.agg #[.bool false, .string ⟨#[]⟩]) 2 info_step rfl (by decide) [.bool b, .string s] 1 (by simp [Act.eval]) (by simp [Act.eval]) HHD.out rfl rfl (by decide) HONE.out hl1 hl2 ?_; intro v5 w5 hg5; obtain ⟨p5, c5, rfl, _⟩ := hg5.held.cells; have HI5 := Lib.hid (HI.out.push (x := (b, s)) hg5); clear hg5))
        go_loopw [0, 1] (fun p q wq => ∃ x2 y2 : Nat, p = .int .i64 (x2 : Int) ∧ q = .int .i64 (y2 : Int) ∧ wq = w5 ∧ Hid (x2 ≤ 1099511627776 ∧ y2 ≤ 1099511627776 ∧ skB b x2 y2 = skB b x y)) (fun p _ _ => (intOf p).toNat)
        case atStart => exact ⟨x, y, rfl, rfl, rfl, Lib.hid ⟨hx40, hy40, rfl⟩⟩
        case round =>
          obtain ⟨x2, y2, rfl, rfl, rfl, HK⟩ := hrel
          have hz0 : (0 : Int) ≤ (x2 : Int) := Int.natCast_nonneg _
          have hz1 : (0 : Int) ≤ (y2 : Int) := Int.natCast_nonneg _
          obtain ⟨x3, hx3⟩ : ∃ z, z = x2 / 2 := ⟨_, rfl⟩
          obtain ⟨y3, hy3⟩ : ∃ z, z = y2 / 2 := ⟨_, rfl⟩
          have q1 : (x2 : Int).tdiv 2 = (x3 : Int) := by rw [Int.tdiv_eq_ediv_of_nonneg hz0]; omega
          have q2 : (y2 : Int).tdiv 2 = (y3 : Int) := by rw [Int.tdiv_eq_ediv_of_nonneg hz1]; omega
          have hb2 : x2 ≤ 1099511627776 ∧ y2 ≤ 1099511627776 := ⟨HK.out.1, HK.out.2.1⟩
          have HEND : ∀ _ : skB b x2 y2 = (x2, y2), Hid ((atC a l (k + 1)).1 = x3 ∧ (atC a l (k + 1)).2 = y3) := fun h => Lib.hid (by
            have h1 := HNX.out
            rw [← HK.out.2.2, h] at h1
            exact ⟨by rw [h1.1, hx3], by rw [h1.2.1, hy3]⟩)
          cases b with
          | false =>
            have HE := HEND rfl
            clear HEND
            go_wp2_with (first | go_step3 | fail)
            exact ⟨⟨k + 1, p5, c5, congrArg (Value.int .i64) (by omega), by rw [HE.out.1]; exact congrArg (Value.int .i64) (by omega), by rw [HE.out.2]; exact congrArg (Value.int .i64) (by omega), rfl, by have := HLT.out; omega, Lib.hid (by rw [HNX.out.2.2]; exact HI5.out)⟩, by have := HLT.out; show n - ((k : Int) + 1).toNat < n - (k : Int).toNat; omega⟩
          | true =>
            rcases Nat.mod_two_eq_zero_or_one x2 with he | ho
            · have q0 : (x2 : Int).tmod 2 = 0 := by rw [Int.tmod_eq_emod_of_nonneg hz0]; omega
              by_cases hx0 : x2 = 0
              · subst hx0
                have HE := HEND (by unfold skB; rw [if_pos rfl, skipUp_zero])
                clear HEND
                go_wp2_with (first | go_step3 | fail)
                exact ⟨⟨k + 1, p5, c5, congrArg (Value.int .i64) (by omega), by rw [HE.out.1]; exact congrArg (Value.int .i64) (by omega), by rw [HE.out.2]; exact congrArg (Value.int .i64) (by omega), rfl, by have := HLT.out; omega, Lib.hid (by rw [HNX.out.2.2]; exact HI5.out)⟩, by have := HLT.out; show n - ((k : Int) + 1).toNat < n - (k : Int).toNat; omega⟩
              · have hne : ¬ (x2 : Int) = 0 := by omega
                have hne2 : ((x2 : Int) != 0) = true := bne_iff_ne.2 hne
                have HK2 : Hid (x3 ≤ 1099511627776 ∧ y3 ≤ 1099511627776 ∧ skB true x3 y3 = skB true x y) := Lib.hid ⟨by omega, by omega, by
                  rw [← HK.out.2.2]
                  unfold skB
                  rw [if_pos rfl, if_pos rfl, skipUp.eq_1 x2, if_pos ⟨he, hx0⟩, hx3, hy3]⟩
                have hlt3 : x3 < x2 := by omega
                clear HEND he hx0
                go_wp2_with (first | go_step3 | fail)
                exact ⟨⟨x3, y3, congrArg (Value.int .i64) (by omega), congrArg (Value.int .i64) (by omega), trivial, HK2⟩, by show ((x2 : Int) / 2).toNat < (x2 : Int).toNat; omega⟩
            · have q0 : (x2 : Int).tmod 2 = 1 := by rw [Int.tmod_eq_emod_of_nonneg hz0]; omega
              have HE := HEND (by unfold skB; rw [if_pos rfl, skipUp_odd _ ho])
              clear HEND
              go_wp2_with (first | go_step3 | fail)
              exact ⟨⟨k + 1, p5, c5, congrArg (Value.int .i64) (by omega), by rw [HE.out.1]; exact congrArg (Value.int .i64) (by omega), by rw [HE.out.2]; exact congrArg (Value.int .i64) (by omega), rfl, by have := HLT.out; omega, Lib.hid (by rw [HNX.out.2.2]; exact HI5.out)⟩, by have := HLT.out; show n - ((k : Int) + 1).toNat < n - (k : Int).toNat; omega⟩
    · obtain rfl : k = n := by omega
      have hki : ¬ (k : Int) < (k : Int) := by omega
      have HTK : Hid (L.take k = L) := Lib.hid (List.take_of_length_le (by have := HN.out; omega))
      rw [HTK.out] at HI
      clear hlt
      go_wp2_with fail
      go_ret
      exact ⟨_, rfl, HI.out⟩
end Go.Proofs.YtdbghgpohdijfaaGreatDoor
/- extract.texts: walked. -/
namespace Go.Proofs.YtdbghgpohdijfaaGreatDoor
open Go.RowKit Go.Scr Go.ChangeMaps Go.MapKept
set_option linter.unusedVariables false
set_option maxRecDepth 100000 in
set_option maxHeartbeats 1000000 in
theorem steptext_any (f : Bool) (p r : ByteArray) (w : World) (hp : p.size ≤ 1048576) (hr : r.size ≤ 1048576) :
    Calls Tryz.prog 51 #[.agg #[.bool f, .string p], .string r] w fun e w' => e = .returned (.string (stT f p r)) ∧ Below w.heap.size w w' := by
  obtain ⟨w1, hw1⟩ : ∃ x, x = w.alloc (.cells #[.bool f, .string p] 73) := ⟨_, rfl⟩
  obtain ⟨x0, x1⟩ := one_blockE w #[.bool f, .string p] 73
  rw [← hw1] at x0 x1
  obtain ⟨bp, hbp⟩ : ∃ x, x = w.heap.size := ⟨_, rfl⟩
  rw [← hbp] at x0
  have c0 : w1.cell? ⟨bp, 0, none⟩ = some (.bool f) := cellB x0 rfl
  have c1 : w1.cell? ⟨bp, 1, none⟩ = some (.string p) := cellB x0 rfl
  have HX := Lib.hid x1
  have HW1 := Lib.hid hw1
  have HBP := Lib.hid hbp
  have HT1 := Lib.hid (fun w' => etext_any p r w' hp hr)
  have HT2 := Lib.hid (fun w' => etext_any r p w' hr hp)
  clear hw1 x0 x1 hbp
  cases f with
  | false =>
    have HE : Hid (stT false p r = txtS r p) := Lib.hid rfl
    go_enter Tryz.func51, Tryz.ntmps51
    go_upto_region 1 with fail
    rw [← HW1.out, ← HBP.out]
    go_wp2_with (go_at_call 61; with_reducible refine (HT2.out _).mono ?_; rintro e w2 ⟨rfl, hw⟩; rw [hw]; clear hw w2)
    go_ret
    exact ⟨by rw [HE.out]; rfl, HX.out⟩
  | true =>
    have HE : Hid (stT true p r = txtS p r) := Lib.hid rfl
    go_enter Tryz.func51, Tryz.ntmps51
    go_upto_region 1 with fail
    rw [← HW1.out, ← HBP.out]
    go_wp2_with (go_at_call 61; with_reducible refine (HT1.out _).mono ?_; rintro e w2 ⟨rfl, hw⟩; rw [hw]; clear hw w2)
    go_ret
    exact ⟨by rw [HE.out]; rfl, HX.out⟩
set_option maxRecDepth 100000 in
set_option maxHeartbeats 4000000 in
theorem texts_any (r : ByteArray) (S : List (Bool × ByteArray)) (v : Value) (w : World) (ht : Tabs w) (hv : Held w 73 2 v S.length (stV S)) (hS : ∀ x ∈ S, x.2.size = 32) (hr : r.size = 32) (hl : S.length ≤ 1048576) :
    Calls Tryz.prog 21 #[.string r, v] w fun o w' => ∃ v', o = .returned v' ∧ LfI w w' v' S.length (textsF S r) := by
  have HV := Lib.hid hv
  have HT := Lib.hid ht
  obtain ⟨p, c, rfl, hle, _⟩ := hv.cells
  obtain ⟨n, hn⟩ : ∃ n, n = S.length := ⟨_, rfl⟩
  rw [← hn] at HV hl hle ⊢
  have HN := Lib.hid hn
  have HS := Lib.hid hS
  have HR := Lib.hid hr
  clear ht hv hS hr hn
  have HS0 : Hid (LfI w w (.slice none 0 0) 0 (textsF (S.take 0) r)) := Lib.hid ⟨Below.refl _ _, ⟨rfl, .inl ⟨rfl, rfl⟩⟩, fun g hg => nomatch hg⟩
  go_enter Tryz.func21, Tryz.ntmps21
  go_wp2_with fail
  go_loopw [0, 5, 11] (fun x u i wr => ∃ (k : Nat) (q : Option Addr) (d : Nat), i = .int .i64 (k : Int) ∧ x = .string (endF (S.take k) r) ∧ u = .slice q k d ∧ k ≤ n ∧ Hid (LfI w wr (.slice q k d) k (textsF (S.take k) r))) (fun _ _ i _ => n - (intOf i).toNat)
  case atStart => exact ⟨0, none, 0, rfl, rfl, rfl, Nat.zero_le _, HS0⟩
  case round =>
    clear HS0
    obtain ⟨k, q, d, rfl, rfl, rfl, hk, HI⟩ := hrel
    by_cases hlt : k < n
    · have hki : (k : Int) < (n : Int) := by omega
      obtain ⟨⟨f, y⟩, hs⟩ : ∃ s, S[k]? = some s := ⟨S[k]'(by have := HN.out; omega), List.getElem?_eq_getElem _⟩
      have hy32 : y.size = 32 := HS.out _ (List.mem_of_getElem? hs)
      obtain ⟨e, he⟩ : ∃ e, e = endF (S.take k) r := ⟨_, rfl⟩
      have he32 : e.size = 32 := by rw [he]; exact endF_size _ _ HR.out
      obtain ⟨t, htt⟩ : ∃ t, t = stT f y e := ⟨_, rfl⟩
      have ht65 : t.size = 65 := by rw [htt]; exact stT_size hy32 he32
      have hsn := textsF_snoc f y (S.take k) r
      have htk : S.take (k + 1) = S.take k ++ [(f, y)] := by rw [List.take_add_one, hs]; rfl
      have HNX : Hid (textsF (S.take (k + 1)) r = textsF (S.take k) r ++ [t] ∧ endF (S.take (k + 1)) r = shaS t) := Lib.hid (by rw [htk, hsn.1, hsn.2, ← he, htt]; exact ⟨rfl, rfl⟩)
      rw [← he]
      obtain ⟨x0, x1⟩ := one_blockE wr #[.bool f, .string y] 73
      obtain ⟨g, rfl, hg⟩ := held_cellP (HV.out.below HI.out.b) (by omega)
      obtain ⟨a0, a1⟩ := stV_get hs
      have c0 := hg _ _ a0
      have c1 := hg _ _ a1
      have HT1 : Hid (∀ w', Calls Tryz.prog 51 #[.agg #[.bool f, .string y], .string e] w' fun o z => o = .returned (.string t) ∧ Below w'.heap.size w' z) := Lib.hid (fun w' => by rw [htt]; exact steptext_any f y e w' (by omega) (by omega))
      have HS1 : Hid (∀ w', Below w.heap.size w w' → Calls Tryz.prog 52 #[.slice (some ⟨w'.heap.size, 0, none⟩) 1 1] (w'.alloc (.cells #[.string t] 9)) fun o z => o = .returned (.string (shaS t)) ∧ Below (w'.alloc (.cells #[.string t] 9)).heap.size (w'.alloc (.cells #[.string t] 9)) z) := Lib.hid (fun w' hb => by
        have hl : (cat [t]).length = t.size := by unfold cat; simp
        have := sum_any _ [t] _ ((HT.out.below hb).below ((Below.refl _ _).alloc (Nat.le_refl _) (.cells #[.string t] 9))) (txts_one w' t) (by rw [hl]; omega)
        rw [show (⟨(sha (cat [t])).toArray⟩ : ByteArray) = shaS t by unfold shaS cat str; simp] at this
        exact this)
      have HONE : Hid (∀ u ∈ [Value.string t], u.oneCell' = true) := Lib.hid (fun u hu => by rw [List.mem_singleton.1 hu]; rfl)
      have hl1 : (k + 1) * 16 ≤ 140737488355328 := by omega
      have hl2 : k + 1 ≤ 140737488355328 := by omega
      have hki0 : (0 : Int) ≤ (k : Int) := by omega
      have HLT := Lib.hid hlt
      obtain ⟨M, hM⟩ : ∃ M, M = textsF (S.take k) r := ⟨_, rfl⟩
      rw [← hM] at HI HNX
      clear hlt hs hy32 he he32 htt ht65 hsn htk hg a0 a1 x0 x1 hM
      go_upto_region 5 with fail
      obtain ⟨x0, x1⟩ := one_blockE wr #[.bool f, .string y] 73
      obtain ⟨w4, hw4⟩ : ∃ x, x = wr.alloc (.cells #[.bool f, .string y] 73) := ⟨_, rfl⟩
      obtain ⟨bp, hbp⟩ : ∃ x, x = wr.heap.size := ⟨_, rfl⟩
      rw [← hw4] at x0 x1 ⊢
      rw [← hbp] at x0 ⊢
      have HI4 := Lib.hid (HI.out.below x1)
      have d0 : w4.cell? ⟨bp, 0, none⟩ = some (.bool f) := cellB x0 rfl
      have d1 : w4.cell? ⟨bp, 1, none⟩ = some (.string y) := cellB x0 rfl
      clear c0 c1 x0 x1 hw4 hbp HI
      go_wp2_with (first
        | (go_at_call 51; (with_reducible refine (HT1.out _).mono ?_); rintro o w5 ⟨rfl, h⟩; have HI5 := Lib.hid (HI4.out.below h); have HHD := Lib.hid HI5.out.h; clear h d0 d1)
        | (at_builtin; refine wpList_grew (v := .slice q k d) rfl _ _ rfl Tryz.underlying22 (.string ⟨#[]⟩) 1 info_strT rfl (by decide) [.string t] 1 (by simp [Act.eval]) (by simp [Act.eval]) HHD.out rfl rfl (by decide) HONE.out hl1 hl2 ?_; intro v6 w6 hg6; obtain ⟨p6, c6, rfl, _⟩ := hg6.held.cells; have HI6 := Lib.hid (HI5.out.push hg6); clear hg6)
        | (go_at_call 52; (with_reducible refine (HS1.out _ HI6.out.b).mono ?_); rintro o w7 ⟨rfl, h⟩; have HI7 := Lib.hid (HI6.out.below (((Below.refl _ _).alloc (Nat.le_refl _) _).trans (h.mono (by simp)))); clear h))
      exact ⟨⟨k + 1, p6, c6, congrArg (Value.int .i64) (by omega), by rw [HNX.out.2], rfl, by have := HLT.out; omega, Lib.hid (by rw [HNX.out.1]; exact HI7.out)⟩, by have := HLT.out; show n - ((k : Int) + 1).toNat < n - (k : Int).toNat; omega⟩
    · obtain rfl : k = n := by omega
      have hki : ¬ (k : Int) < (k : Int) := by omega
      have HTK : Hid (S.take k = S) := Lib.hid (List.take_of_length_le (by have := HN.out; omega))
      rw [HTK.out] at HI
      clear hlt
      go_wp2_with fail
      go_ret
      exact ⟨_, rfl, HI.out⟩
end Go.Proofs.YtdbghgpohdijfaaGreatDoor
/- The closures that look for the highest unlike texts, and caught of each: walked. -/
namespace Go.Proofs.YtdbghgpohdijfaaGreatDoor
open Go.RowKit Go.Scr Go.ChangeMaps Go.MapKept
set_option linter.unusedVariables false
/-- two ways' texts: they are not the same, and the highest unlike ones have one digest -/
structure TwoW (A B : List ByteArray) : Prop where
  l : A.length = B.length
  n : A.length ≤ 1048576
  a : ∀ t ∈ A, t.size = 65
  b : ∀ t ∈ B, t.size = 65
  ne : A ≠ B
  h : ∀ (k : Nat) (a b : ByteArray), A[k]? = some a → B[k]? = some b → (∀ j, k < j → A[j]? = B[j]?) → shaS a = shaS b
theorem two_ways {fs : List Bool} {P Q : List ByteArray} {r s : ByteArray} (h1 : fs.length = P.length) (h2 : fs.length = Q.length) (hp : ∀ p ∈ P, p.size = 32) (hq : ∀ p ∈ Q, p.size = 32) (hr : r.size = 32) (hs : s.size = 32) (hn : P.length ≤ 1048576)
    (he : endF (fs.zip P) r = endF (fs.zip Q) s) (hne : r ≠ s ∨ P ≠ Q) : TwoW (textsF (fs.zip P) r) (textsF (fs.zip Q) s) := by
  have hz1 : ∀ x ∈ fs.zip P, x.2.size = 32 := fun x hx => hp _ (List.of_mem_zip (a := x.1) (b := x.2) hx).2
  have hz2 : ∀ x ∈ fs.zip Q, x.2.size = 32 := fun x hx => hq _ (List.of_mem_zip (a := x.1) (b := x.2) hx).2
  refine ⟨?_, ?_, textsF_size _ _ hz1 hr, textsF_size _ _ hz2 hs, fun h => ?_, way_highest fs P Q r s h1 h2 hp hq hr hs he⟩
  · rw [textsF_len, textsF_len, List.length_zip, List.length_zip]; omega
  · rw [textsF_len, List.length_zip]; omega
  · obtain ⟨h3, h4⟩ := way_same fs P Q r s h1 h2 hp hq hr hs he h
    rcases hne with h5 | h5
    · exact h5 h3
    · exact h5 h4
theorem high_down {A B : List ByteArray} (H : TwoW A B) {w w' : World} {e : Ending} (h : HighP A B w e w') : DownP w e w' := by
  rcases h with ⟨_, h, _⟩ | ⟨k, a, b, he, ha, hb, hne, hk, hw⟩
  · exact absurd h H.ne
  · exact ⟨a, b, he, hne, ⟨H.h k a b ha hb hk, by rw [H.a a (List.mem_of_getElem? ha)]; omega, by rw [H.b b (List.mem_of_getElem? hb)]; omega⟩, hw⟩
set_option maxRecDepth 100000 in
set_option maxHeartbeats 1000000 in
theorem closI_any {w : World} {ba bb : Nat} {va vb : Value} {A B : List ByteArray} (ca : w.cell? ⟨ba, 0, none⟩ = some va) (cb : w.cell? ⟨bb, 0, none⟩ = some vb) (hva : Held w 9 1 va A.length (A.map Value.string)) (hvb : Held w 9 1 vb B.length (B.map Value.string)) (H : TwoW A B) :
    Calls Tryz.prog 24 #[.pointer (some ⟨ba, 0, none⟩), .pointer (some ⟨bb, 0, none⟩)] w (DownP w) := by
  have CD := Lib.hid (highest_any A B va vb w hva hvb H.l H.n)
  have HH := Lib.hid H
  clear hva hvb H
  go_enter Tryz.func24, Tryz.ntmps24
  go_wp2_with fail
  refine CD.out.mono ?_
  rintro o z h
  have h2 := high_down HH.out h
  obtain ⟨p, q, rfl, _⟩ := id h2
  exact ⟨rfl, h2⟩
set_option maxRecDepth 100000 in
set_option maxHeartbeats 1000000 in
theorem closC_any {w : World} {ba bb : Nat} {va vb : Value} {A B : List ByteArray} (ca : w.cell? ⟨ba, 0, none⟩ = some va) (cb : w.cell? ⟨bb, 0, none⟩ = some vb) (hva : Held w 9 1 va A.length (A.map Value.string)) (hvb : Held w 9 1 vb B.length (B.map Value.string)) (H : TwoW A B) :
    Calls Tryz.prog 40 #[.pointer (some ⟨ba, 0, none⟩), .pointer (some ⟨bb, 0, none⟩)] w (DownP w) := by
  have CD := Lib.hid (highest_any A B va vb w hva hvb H.l H.n)
  have HH := Lib.hid H
  clear hva hvb H
  go_enter Tryz.func40, Tryz.ntmps40
  go_wp2_with fail
  refine CD.out.mono ?_
  rintro o z h
  have h2 := high_down HH.out h
  obtain ⟨p, q, rfl, _⟩ := id h2
  exact ⟨rfl, h2⟩
set_option maxRecDepth 100000 in
set_option maxHeartbeats 1000000 in
theorem caughtI_any (ba bb : Nat) (w : World) (HC : Hid (∀ w', Below w.heap.size w w' → Calls Tryz.prog 24 #[.pointer (some ⟨ba, 0, none⟩), .pointer (some ⟨bb, 0, none⟩)] w' (DownP w'))) :
    Calls Tryz.prog 23 #[.func (.func 24) #[] #[.pointer (some ⟨ba, 0, none⟩), .pointer (some ⟨bb, 0, none⟩)]] w (PairP w) := by
  have hmf : ∀ (fn : Fn) (first cap : Array Value) (w : World), (Instr.makeFunc fn first cap).run Tryz.prog w = .ok (.func fn first cap) w := fun _ _ _ _ => rfl
  obtain ⟨x0, x1, x2⟩ := two_blocksE w #[.string ⟨#[]⟩, .string ⟨#[]⟩] #[.int .i64 0] 26 27
  have HX := Lib.hid (And.intro x0 (And.intro x1 x2))
  have HC2 := Lib.hid (HC.out _ x2)
  clear x0 x1 x2
  go_enter_defers Tryz.func23, Tryz.ntmps23
  go_wp2_with fail
  refine HC2.out.mono ?_
  rintro o z ⟨p, q, rfl, hpq, hsh, hb⟩
  obtain ⟨x0, x1, x2⟩ := HX.out
  have y0 := blk_below x0 hb (blk_lt x0)
  have y1 := blk_below x1 hb (blk_lt x1)
  refine leaves_cons (f := 53) (args := #[.pointer (some ⟨w.heap.size, 0, none⟩), .pointer (some ⟨w.heap.size + 1, 0, none⟩)]) (by simp) (by simp [go_sem]) ?_
  refine (catch_panicking w.heap.size (w.heap.size + 1) p q _ _ _ _ (cellB y0 rfl) (cellB y0 rfl) (cellB y1 rfl) (frozB y0) (frozB y0) (frozB y1) (by omega)).mono ?_
  rintro e u' w'' ⟨rfl, rfl, rfl⟩
  have hx6 := blk_set (blk_set y0 0 (.string p)) 1 (.string q)
  obtain ⟨wf, hwf⟩ : ∃ x, x = ((z.setCell ⟨w.heap.size, 0, none⟩ (.string p)).setCell ⟨w.heap.size, 1, none⟩ (.string q)).setCell ⟨w.heap.size + 1, 0, none⟩ (.int .i64 0) := ⟨_, rfl⟩
  have hx7 : wf.heap[w.heap.size]? = some (.cells #[.string p, .string q] 26 (0, 0)) := by
    rw [hwf, Below.heap_setCell _ ⟨w.heap.size + 1, 0, none⟩ _ _ (by show w.heap.size ≠ w.heap.size + 1; omega)]
    exact hx6
  have hy7 : wf.heap[w.heap.size + 1]? = some (.cells #[.int .i64 0] 27 (0, 0)) := by
    rw [hwf]
    refine blk_set (cs := #[.int .i64 0]) ?_ 0 _
    rw [Below.heap_setCell _ ⟨w.heap.size, 1, none⟩ _ _ (by show w.heap.size + 1 ≠ w.heap.size; omega), Below.heap_setCell _ ⟨w.heap.size, 0, none⟩ _ _ (by show w.heap.size + 1 ≠ w.heap.size; omega)]
    exact y1
  have hbf : Below w.heap.size w wf := by
    rw [hwf]
    exact (((x2.trans (hb.mono x2.size)).setCell (p := ⟨w.heap.size, 0, none⟩) (Nat.le_refl _) _).setCell (p := ⟨w.heap.size, 1, none⟩) (Nat.le_refl _) _).setCell (p := ⟨w.heap.size + 1, 0, none⟩) (Nat.le_succ _) _
  have m0 : wf.cell? ⟨w.heap.size, 0, none⟩ = some (.string p) := cellB hx7 rfl
  have m1 : wf.cell? ⟨w.heap.size, 1, none⟩ = some (.string q) := cellB hx7 rfl
  have m2 : wf.cell? ⟨w.heap.size + 1, 0, none⟩ = some (.int .i64 0) := cellB hy7 rfl
  rw [← hwf]
  clear hwf hx6 x0 x1 x2 y0 y1 hb
  simp [Leaves, settle, results, Tryz.results23, go_sem, m0, m1, m2]
  exact ⟨p, q, rfl, hpq, hsh, hbf⟩
set_option maxRecDepth 100000 in
set_option maxHeartbeats 1000000 in
theorem caughtC_any (ba bb : Nat) (w : World) (HC : Hid (∀ w', Below w.heap.size w w' → Calls Tryz.prog 40 #[.pointer (some ⟨ba, 0, none⟩), .pointer (some ⟨bb, 0, none⟩)] w' (DownP w'))) :
    Calls Tryz.prog 23 #[.func (.func 40) #[] #[.pointer (some ⟨ba, 0, none⟩), .pointer (some ⟨bb, 0, none⟩)]] w (PairP w) := by
  have hmf : ∀ (fn : Fn) (first cap : Array Value) (w : World), (Instr.makeFunc fn first cap).run Tryz.prog w = .ok (.func fn first cap) w := fun _ _ _ _ => rfl
  obtain ⟨x0, x1, x2⟩ := two_blocksE w #[.string ⟨#[]⟩, .string ⟨#[]⟩] #[.int .i64 0] 26 27
  have HX := Lib.hid (And.intro x0 (And.intro x1 x2))
  have HC2 := Lib.hid (HC.out _ x2)
  clear x0 x1 x2
  go_enter_defers Tryz.func23, Tryz.ntmps23
  go_wp2_with fail
  refine HC2.out.mono ?_
  rintro o z ⟨p, q, rfl, hpq, hsh, hb⟩
  obtain ⟨x0, x1, x2⟩ := HX.out
  have y0 := blk_below x0 hb (blk_lt x0)
  have y1 := blk_below x1 hb (blk_lt x1)
  refine leaves_cons (f := 53) (args := #[.pointer (some ⟨w.heap.size, 0, none⟩), .pointer (some ⟨w.heap.size + 1, 0, none⟩)]) (by simp) (by simp [go_sem]) ?_
  refine (catch_panicking w.heap.size (w.heap.size + 1) p q _ _ _ _ (cellB y0 rfl) (cellB y0 rfl) (cellB y1 rfl) (frozB y0) (frozB y0) (frozB y1) (by omega)).mono ?_
  rintro e u' w'' ⟨rfl, rfl, rfl⟩
  have hx6 := blk_set (blk_set y0 0 (.string p)) 1 (.string q)
  obtain ⟨wf, hwf⟩ : ∃ x, x = ((z.setCell ⟨w.heap.size, 0, none⟩ (.string p)).setCell ⟨w.heap.size, 1, none⟩ (.string q)).setCell ⟨w.heap.size + 1, 0, none⟩ (.int .i64 0) := ⟨_, rfl⟩
  have hx7 : wf.heap[w.heap.size]? = some (.cells #[.string p, .string q] 26 (0, 0)) := by
    rw [hwf, Below.heap_setCell _ ⟨w.heap.size + 1, 0, none⟩ _ _ (by show w.heap.size ≠ w.heap.size + 1; omega)]
    exact hx6
  have hy7 : wf.heap[w.heap.size + 1]? = some (.cells #[.int .i64 0] 27 (0, 0)) := by
    rw [hwf]
    refine blk_set (cs := #[.int .i64 0]) ?_ 0 _
    rw [Below.heap_setCell _ ⟨w.heap.size, 1, none⟩ _ _ (by show w.heap.size + 1 ≠ w.heap.size; omega), Below.heap_setCell _ ⟨w.heap.size, 0, none⟩ _ _ (by show w.heap.size + 1 ≠ w.heap.size; omega)]
    exact y1
  have hbf : Below w.heap.size w wf := by
    rw [hwf]
    exact (((x2.trans (hb.mono x2.size)).setCell (p := ⟨w.heap.size, 0, none⟩) (Nat.le_refl _) _).setCell (p := ⟨w.heap.size, 1, none⟩) (Nat.le_refl _) _).setCell (p := ⟨w.heap.size + 1, 0, none⟩) (Nat.le_succ _) _
  have m0 : wf.cell? ⟨w.heap.size, 0, none⟩ = some (.string p) := cellB hx7 rfl
  have m1 : wf.cell? ⟨w.heap.size, 1, none⟩ = some (.string q) := cellB hx7 rfl
  have m2 : wf.cell? ⟨w.heap.size + 1, 0, none⟩ = some (.int .i64 0) := cellB hy7 rfl
  rw [← hwf]
  clear hwf hx6 x0 x1 x2 y0 y1 hb
  simp [Leaves, settle, results, Tryz.results23, go_sem, m0, m1, m2]
  exact ⟨p, q, rfl, hpq, hsh, hbf⟩
end Go.Proofs.YtdbghgpohdijfaaGreatDoor
