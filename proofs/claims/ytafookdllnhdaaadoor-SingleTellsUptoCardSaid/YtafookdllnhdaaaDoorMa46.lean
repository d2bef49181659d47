/- Law 11's owned, walked. -/
import Derived.Test.YtafookdllnhdaaaDoorMa42
import Derived.Test.YtafookdllnhdaaaDoorMa36
import Derived.Test.YtafookdllnhdaaaDoorMa40
import Derived.Deep.CutBlock
import Derived.Deep.RegionHeld3
namespace Go.Proofs.YtafookdllnhdaaaDoor
open Go.RowKit Go.Scr
set_option linter.unusedVariables false
def OWx (w0 w : World) (B : Nat) (col0 : Nat → Nat) (lv av wv : Value) (ls : List (Value × List ByteArray)) (gr : List (Value × Nat)) (wh : List Nat) : Prop := ∃ col, OW w0 w B col0 col lv av wv ls gr wh
theorem OWx.below {w0 w w' : World} {B : Nat} {col0 : Nat → Nat} {lv av wv : Value} {ls : List (Value × List ByteArray)} {gr : List (Value × Nat)} {wh : List Nat} (h : OWx w0 w B col0 lv av wv ls gr wh) (hb : Below w.heap.size w w') : OWx w0 w' B col0 lv av wv ls gr wh := by
  obtain ⟨col, h⟩ := h
  exact ⟨col, h.below hb⟩
theorem OWx.on {w0 w : World} {B : Nat} {col0 : Nat → Nat} {lv av wv : Value} {ls : List (Value × List ByteArray)} {gr : List (Value × Nat)} {wh : List Nat} (h : OWx w0 w B col0 lv av wv ls gr wh) : Only col0 (fun c => 1 ≤ c) w0 w := by
  obtain ⟨col, h⟩ := h
  exact h.on
theorem set_sameO {α : Type} {l : List α} {i : Nat} {x : α} (h : l[i]? = some x) : l.set i x = l := by
  apply List.ext_getElem?
  intro j
  rw [List.getElem?_set]
  by_cases hij : i = j
  · subst hij
    rw [if_pos rfl, if_pos (List.getElem?_eq_some_iff.mp h).1, h]
  · rw [if_neg hij]
theorem rep_setO {s : ByteArray} {pl : List ByteArray} {k : Nat} (hk : k < pl.length) : (List.replicate k s ++ pl.drop k).set k s = List.replicate (k + 1) s ++ pl.drop (k + 1) := by
  rw [List.set_append_right _ _ (by simp), List.length_replicate, Nat.sub_self, List.drop_eq_getElem_cons hk, List.set_cons_zero, List.replicate_succ', List.append_assoc]
  rfl
theorem rep_lenO {s : ByteArray} {pl : List ByteArray} {k : Nat} (hk : k ≤ pl.length) : (List.replicate k s ++ pl.drop k).length = pl.length := by
  rw [List.length_append, List.length_replicate, List.length_drop]; omega
theorem mkO_set {l : List (Value × List ByteArray)} {i m : Nat} {pv : Value} (h : MkO l i) (hil : i < l.length) : MkO (l.set i (pv, List.replicate m (markO i))) (i + 1) := by
  intro j p hj hp
  rw [List.getElem?_set] at hp
  by_cases hij : i = j
  · subst hij
    rw [if_pos rfl, if_pos hil] at hp
    obtain rfl := Option.some.inj hp
    show List.replicate m (markO i) = _
    rw [List.length_replicate]
  · rw [if_neg hij] at hp
    exact h j p (by omega) hp
theorem rep_marks (m i : Nat) : (List.replicate m (markO i)).map Value.string = marks (mkO i) m := by
  unfold marks mkO
  rw [List.map_replicate]
  induction m with
  | zero => rfl
  | succ n ih => rw [List.replicate_succ, List.replicate_succ, List.flatten_cons, ← ih]; rfl
/-- the text of the mark: what the walk wants -/
theorem mark_cv (w : World) (a : UInt8) : ∀ w', w' = w.alloc (.cells (bytesV [a]).toArray 5) ∨ w' = (w.alloc (.cells (bytesV [a]).toArray 5)).drew → (convert 82 9 (.slice (some ⟨w.heap.size, 0, none⟩) 1 1)).run Tryd.prog w' = .ok (.string (str [a])) w' := fun w' hw => by
  have hx : w'.heap[w.heap.size]? = some (.cells (bytesV [a]).toArray 5 (0, 0)) := by
    rcases hw with rfl | rfl
    · exact heap_alloc_new w _
    · exact heap_alloc_new w _
  exact own_string (P := Tryd.prog) (D := 9) (S := 82) (c := 1) Tryd.underlying82 und_u8 und_string (own_of_blk (n := 1) (w := w') hx (by simp) (by simp))
set_option maxRecDepth 100000 in
set_option maxHeartbeats 16000000 in
theorem owned_any {w : World} {B k : Nat} {col0 : Nat → Nat} {lv : Value} {ls : List (Value × List ByteArray)} (h : OW w w B col0 col0 lv (.slice none 0 0) (.slice none 0 0) ls [] []) (hk : k = ls.length) (hk20 : k ≤ 20) (hlen : ∀ p ∈ ls, p.2.length ≤ 4096) :
    Calls Tryd.prog 25 #[lv] w fun o w' => o = .returned (.bool true) ∧ Only col0 (fun c => 1 ≤ c) w w' := by
  obtain ⟨pl0, cl0, rfl, hkc, _⟩ := h.row
  rw [← hk] at h hkc ⊢
  have H0 : Hid (∃ l : List (Value × List ByteArray), l.length = k ∧ MkO l 0 ∧ (∀ p ∈ l, p.2.length ≤ 4096) ∧ OWx w w B col0 (.slice pl0 k cl0) (.slice none 0 0) (.slice none 0 0) l [] []) := Lib.hid ⟨ls, hk.symm, (fun j p hj => by omega), hlen, col0, h⟩
  clear h hk hlen
  go_enter Tryd.func25, Tryd.ntmps25
  go_upto_block 0 with fail
  go_cut [3, 4] from 12 to 37 (fun _ _ wx => Hid (∃ l : List (Value × List ByteArray), l.length = k ∧ MkO l k ∧ (∀ p ∈ l, p.2.length ≤ 4096) ∧ OWx w wx B col0 (.slice pl0 k cl0) (.slice none 0 0) (.slice none 0 0) l [] []))
  case first =>
    go_wp2_with fail
    go_loopw [3, 4] (fun q _ wr => ∃ i : Nat, i ≤ k ∧ q = .int .i64 (i : Int) ∧ Hid (∃ l : List (Value × List ByteArray), l.length = k ∧ MkO l i ∧ (∀ p ∈ l, p.2.length ≤ 4096) ∧ OWx w wr B col0 (.slice pl0 k cl0) (.slice none 0 0) (.slice none 0 0) l [] [])) (fun q _ _ => k - (intOf q).toNat)
    case atStart => exact ⟨0, Nat.zero_le _, rfl, H0⟩
    case round =>
      clear H0
      obtain ⟨i, hi, rfl, hinv⟩ := hrel
      obtain ⟨l, hv⟩ := hinv.out
      have HV := Lib.hid hv
      clear hv hinv
      by_cases hlt : i < k
      · have hlti : (i : Int) < (k : Int) := by omega
        have hi0 : (0 : Int) ≤ (i : Int) := by omega
        obtain ⟨⟨pv, pl⟩, hp⟩ : ∃ p, l[i]? = some p := ⟨l[i]'(by have := HV.out.1; omega), List.getElem?_eq_getElem _⟩
        obtain ⟨m, hm⟩ : ∃ m, m = pl.length := ⟨_, rfl⟩
        have hm4 : m ≤ 4096 := by rw [hm]; exact HV.out.2.2.1 (pv, pl) (List.mem_of_getElem? hp)
        obtain ⟨mk, hmk⟩ : ∃ x, x = markO i := ⟨_, rfl⟩
        obtain ⟨a, hae⟩ : ∃ a : UInt8, a = UInt8.ofNat ((i : Int) % 256).toNat := ⟨_, rfl⟩
        have e1 : (a.toNat : Int) = (i : Int) := by have h9 := byte_intU i; rw [← hae] at h9; omega
        have HE1 := Lib.hid e1
        have hw8 : IntKind.u8.wrap (i : Int) = (i : Int) := by first | (show (i : Int) % 256 = (i : Int); omega) | (simp [IntKind.wrap]; omega)
        clear e1
        have HMS : Hid (markO i = ⟨#[109, 97, 114, 107]⟩ ++ str [a]) := Lib.hid (by unfold markO; rw [← hae])
        clear hae
        rw [← hmk] at HMS
        have HP := Lib.hid hp
        have HMM := Lib.hid hm
        have HMK := Lib.hid hmk
        have HLT := Lib.hid hlt
        clear hp hm hmk hlt
        go_wp2_with fail
        go_loopw [4] (fun q wr => ∃ j : Nat, j ≤ m ∧ q = .int .i64 (j : Int) ∧ Hid (OWx w wr B col0 (.slice pl0 k cl0) (.slice none 0 0) (.slice none 0 0) (l.set i (pv, List.replicate j mk ++ pl.drop j)) [] [])) (fun q _ => m - (intOf q).toNat)
        case atStart => exact ⟨0, Nat.zero_le _, rfl, Lib.hid (by rw [List.replicate_zero, List.nil_append, List.drop_zero, set_sameO HP.out]; exact HV.out.2.2.2)⟩
        case round =>
          obtain ⟨j, hj, rfl, hk2⟩ := hrel
          obtain ⟨l2, hl2⟩ : ∃ x, x = l.set i (pv, List.replicate j mk ++ pl.drop j) := ⟨_, rfl⟩
          rw [← hl2] at hk2
          have HL2 := Lib.hid hl2
          have HK2 := Lib.hid hk2.out
          clear hk2 hl2
          have hl2i : l2[i]? = some (pv, List.replicate j mk ++ pl.drop j) := by rw [HL2.out, List.getElem?_set_self (by have := HV.out.1; have := HLT.out; omega)]
          have hl2l : l2.length = k := by rw [HL2.out, List.length_set]; exact HV.out.1
          obtain ⟨colA, ho⟩ := HK2.out
          obtain ⟨p3, c3, k1, k2, k3⟩ := ho.row
          injection k1 with k1a k1b k1c
          clear k1b
          obtain ⟨a3, rfl, ka⟩ := k3 i _ hl2i
          subst k1a
          have ka : wr.cell? (a3.add i) = some pv := ka
          have kl : (List.replicate j mk ++ pl.drop j).length = m := by rw [rep_lenO (by have := HMM.out; omega)]; exact HMM.out.symm
          have kh : Held wr 9 1 pv m ((List.replicate j mk ++ pl.drop j).map Value.string) := by
            have := (ho.li i _ hl2i).1
            rw [kl] at this
            exact this
          have hcg := (ho.li i _ hl2i).2.2
          have hla := ho.lc
          have HKH := Lib.hid kh
          have HO := Lib.hid ho
          have HL2I := Lib.hid hl2i
          clear hl2i hl2l k3 kl k2 k1c ho
          have hlti2 := HLT.out
          by_cases hkm : j < m
          · have hkmi : (j : Int) < (m : Int) := by omega
            have hk0 : (0 : Int) ≤ (j : Int) := by omega
            obtain ⟨g, cap, cur, rfl, hgb, hcap, hcur, _⟩ := HKH.out.block (by omega)
            have hown : (Value.slice (some ⟨g, 0, none⟩) m cap).ownBlock = some g := rfl
            have hne : a3.block ≠ g := fun e => by have h1 := hla a3.block rfl; have h2 := hcg g hown; rw [e] at h1; omega
            have HSET : Hid (∀ w', Below wr.heap.size wr w' → OWx w (w'.setCell ⟨g, j, none⟩ (.string mk)) B col0 (.slice (some a3) k cl0) (.slice none 0 0) (.slice none 0 0) (l2.set i (.slice (some ⟨g, 0, none⟩) m cap, (List.replicate j mk ++ pl.drop j).set j mk)) [] []) := Lib.hid (fun w' hb => ⟨colA, (HO.out.below hb).mark HL2I.out hown j mk⟩)
            have HEQ : Hid (l2.set i (.slice (some ⟨g, 0, none⟩) m cap, (List.replicate j mk ++ pl.drop j).set j mk) = l.set i (.slice (some ⟨g, 0, none⟩) m cap, List.replicate (j + 1) mk ++ pl.drop (j + 1))) := Lib.hid (by
              rw [HL2.out, List.set_set, rep_setO (by have := HMM.out; omega)])
            obtain ⟨o, ho⟩ : ∃ o, o = Obj.cells (bytesV [a]).toArray 5 := ⟨_, rfl⟩
            have hbA : Below wr.heap.size wr (wr.alloc o).drew := ((Below.refl _ _).alloc (Nat.le_refl _) _).drew
            have hgb5 : (wr.alloc o).drew.heap[g]? = some (.cells cur 9 (0, 0)) := (hbA.block g (blk_lt hgb)).trans hgb
            have hx3 : ∃ u, (wr.alloc o).drew.cell? ⟨g, j, none⟩ = some u := ⟨cur[j]'(by omega), by rw [cell_of_row (wr.alloc o).drew g j _ _ _ hgb5]; exact Array.getElem?_eq_getElem _⟩
            obtain ⟨uu, hx3⟩ := hx3
            have hx4 : (wr.alloc o).drew.frozen? ⟨g, j, none⟩ = false := frozen_of_row (wr.alloc o).drew g j _ _ hgb5
            have hcv := mark_cv wr a (wr.alloc o).drew (.inr (by rw [ho]))
            have HEND0 : OWx w (((wr.alloc o).setCell ⟨g, j, none⟩ (.string mk)).drew) B col0 (.slice (some a3) k cl0) (.slice none 0 0) (.slice none 0 0) (l2.set i (.slice (some ⟨g, 0, none⟩) m cap, (List.replicate j mk ++ pl.drop j).set j mk)) [] [] := (HSET.out (wr.alloc o) ((Below.refl _ _).alloc (Nat.le_refl _) _)).below (Below.refl _ _).drew
            rw [HMS.out] at HEND0
            have HSS : Hid (∀ w' : World, (∀ q, q < wr.heap.size → q ≠ g → w'.heap[q]? = wr.heap[q]?) → w'.cell? (a3.add i) = some (.slice (some ⟨g, 0, none⟩) m cap)) := Lib.hid (fun w' hq => (World.cell?_of_block (by rw [Addr_add_block]; exact hq _ (by have := block_lt_of_cell ka; rwa [Addr_add_block] at this) hne)).trans ka)
            have hmks := HMS.out
            clear kh hgb hcur hgb5 hbA hne hcg hla hown
            rw [ho] at hx3 hx4 hcv HEND0
            simp only [bytesV, List.map_cons, List.map_nil, HE1.out] at hx3 hx4 hcv HEND0
            have HEND := Lib.hid HEND0
            clear HEND0
            clear ho o
            go_upto_region 7 with fail
            refine wp_region_held_drew (S := fun w' => w'.cell? (a3.add i) = some (.slice (some ⟨g, 0, none⟩) m cap)) (by kernel_rfl) (by exact HSS.out _ (fun q hq hne => by first | rfl | exact Below.heap_alloc wr _ q hq | exact (Below.heap_setCell _ ⟨g, j, none⟩ _ q hne).trans (Below.heap_alloc wr _ q hq))) (fun hHeld => ?_)
            refine wpAnyH_take (i := 0) (oi := ⟨_, _, _, _, _, _⟩) (v := ?_) rfl (by kernel_rfl) (by kernel_rfl) (by kernel_rfl) (fun _ _ _ h => h) (Or.inl ⟨by rfl, ?_⟩) hHeld ?_
            rotate_left
            · ((intro w hSw; (try dsimp only at hSw); go_simp) <;> with_reducible rfl)
            try simp only [Act.put, List.setIfInBounds_toArray, List.set_cons_zero, List.set_cons_succ]
            refine wpAnyH_take (i := 1) (oi := ⟨_, _, _, _, _, _⟩) (v := ?_) rfl (by kernel_rfl) (by kernel_rfl) (by kernel_rfl) (fun _ _ _ h => h) (Or.inl ⟨by rfl, ?_⟩) hHeld ?_
            rotate_left
            · ((intro w hSw; (try dsimp only at hSw); go_simp) <;> with_reducible rfl)
            try simp only [Act.put, List.setIfInBounds_toArray, List.set_cons_zero, List.set_cons_succ]
            refine wpAnyH_take (i := 2) (oi := ⟨_, _, _, _, _, _⟩) (v := ?_) rfl (by kernel_rfl) (by kernel_rfl) (by kernel_rfl) (fun _ _ _ h => h) (Or.inl ⟨by rfl, ?_⟩) hHeld ?_
            rotate_left
            · ((intro w hSw; (try dsimp only at hSw); go_simp) <;> with_reducible rfl)
            try simp only [Act.put, List.setIfInBounds_toArray, List.set_cons_zero, List.set_cons_succ]
            refine wpAnyH_take (i := 3) (oi := ⟨_, _, _, _, _, _⟩) (v := ?_) rfl (by kernel_rfl) (by kernel_rfl) (by kernel_rfl) (fun _ _ _ h => h) (Or.inl ⟨by rfl, ?_⟩) hHeld ?_
            rotate_left
            · ((intro w hSw; (try dsimp only at hSw); go_simp) <;> with_reducible rfl)
            try simp only [Act.put, List.setIfInBounds_toArray, List.set_cons_zero, List.set_cons_succ]
            refine wpAnyH_take (i := 4) (oi := ⟨_, _, _, _, _, _⟩) (v := ?_) rfl (by kernel_rfl) (by kernel_rfl) (by kernel_rfl) (fun _ _ _ h => h) (Or.inl ⟨by rfl, ?_⟩) hHeld ?_
            rotate_left
            · ((intro w hSw; (try dsimp only at hSw); go_simp) <;> with_reducible rfl)
            try simp only [Act.put, List.setIfInBounds_toArray, List.set_cons_zero, List.set_cons_succ]
            refine wpAnyH_take (i := 5) (oi := ⟨_, _, _, _, _, _⟩) (v := ?_) rfl (by kernel_rfl) (by kernel_rfl) (by kernel_rfl) (fun _ _ _ h => h) (Or.inl ⟨by rfl, ?_⟩) hHeld ?_
            rotate_left
            · ((intro w hSw; (try dsimp only at hSw); go_simp) <;> with_reducible rfl)
            try simp only [Act.put, List.setIfInBounds_toArray, List.set_cons_zero, List.set_cons_succ]
            refine wpAnyH_take (i := 6) (oi := ⟨_, _, _, _, _, _⟩) (v := ?_) rfl (by kernel_rfl) (by kernel_rfl) (by kernel_rfl) (fun _ _ _ h => h) (Or.inl ⟨by rfl, ?_⟩) hHeld ?_
            rotate_left
            · ((intro w hSw; (try dsimp only at hSw); go_simp) <;> with_reducible rfl)
            try simp only [Act.put, List.setIfInBounds_toArray, List.set_cons_zero, List.set_cons_succ]
            refine wpAnyH_ready (rs := [7]) (by kernel_rfl) (by simp) ?_
            refine AllReadyH.cons (o := ⟨_, _, _, _, _, _⟩) rfl (fun KC hK => ?_) ?_
            rotate_left
            · exact AllReadyH.nil
            go_simp
            refine hK.out _ _ (by exact HSS.out _ (fun q hq hne => by first | rfl | exact Below.heap_alloc wr _ q hq | exact (Below.heap_setCell _ ⟨g, j, none⟩ _ q hne).trans (Below.heap_alloc wr _ q hq))) (fun hHeld => ?_)
            clear hK KC
            try simp only [Act.put, List.setIfInBounds_toArray, List.set_cons_zero, List.set_cons_succ]
            refine wpAnyH_ready (rs := [8]) (by kernel_rfl) (by simp) ?_
            refine AllReadyH.cons (o := ⟨_, _, _, _, _, _⟩) rfl (fun KC hK => ?_) ?_
            rotate_left
            · exact AllReadyH.nil
            go_simp
            refine hK.out _ _ (by exact HSS.out _ (fun q hq hne => by first | rfl | exact Below.heap_alloc wr _ q hq | exact (Below.heap_setCell _ ⟨g, j, none⟩ _ q hne).trans (Below.heap_alloc wr _ q hq))) (fun hHeld => ?_)
            clear hK KC
            try simp only [Act.put, List.setIfInBounds_toArray, List.set_cons_zero, List.set_cons_succ]
            refine wpAnyH_ready (rs := [9]) (by kernel_rfl) (by simp) ?_
            refine AllReadyH.cons (o := ⟨_, _, _, _, _, _⟩) rfl (fun KC hK => ?_) ?_
            rotate_left
            · exact AllReadyH.nil
            go_simp
            refine hK.out _ _ (by exact HSS.out _ (fun q hq hne => by first | rfl | exact Below.heap_alloc wr _ q hq | exact (Below.heap_setCell _ ⟨g, j, none⟩ _ q hne).trans (Below.heap_alloc wr _ q hq))) (fun hHeld => ?_)
            clear hK KC
            try simp only [Act.put, List.setIfInBounds_toArray, List.set_cons_zero, List.set_cons_succ]
            refine wpAnyH_take (i := 10) (oi := ⟨_, _, _, _, _, _⟩) (v := ?_) rfl (by kernel_rfl) (by kernel_rfl) (by kernel_rfl) (fun _ _ _ h => h) (Or.inl ⟨by rfl, ?_⟩) hHeld ?_
            rotate_left
            · ((intro w hSw; (try dsimp only at hSw); go_simp) <;> with_reducible rfl)
            try simp only [Act.put, List.setIfInBounds_toArray, List.set_cons_zero, List.set_cons_succ]
            refine wpAnyH_ready (rs := [11]) (by kernel_rfl) (by simp) ?_
            refine AllReadyH.cons (o := ⟨_, _, _, _, _, _⟩) rfl (fun KC hK => ?_) ?_
            rotate_left
            · exact AllReadyH.nil
            go_simp
            refine hK.out _ _ (by exact HSS.out _ (fun q hq hne => by first | rfl | exact Below.heap_alloc wr _ q hq | exact (Below.heap_setCell _ ⟨g, j, none⟩ _ q hne).trans (Below.heap_alloc wr _ q hq))) (fun hHeld => ?_)
            clear hK KC
            try simp only [Act.put, List.setIfInBounds_toArray, List.set_cons_zero, List.set_cons_succ]
            refine wpAnyH_done (by kernel_rfl) ?_ _
            go_wp2_with fail
            go_roundw
            case rel => exact ⟨j + 1, by omega, by simp, Lib.hid (by rw [← HEQ.out, HMS.out]; exact HEND.out)⟩
            case measure => show m - ((j : Int) + 1).toNat < m - (j : Int).toNat; omega
          · have hkmi : ¬ ((j : Int) < (m : Int)) := by omega
            have hkm2 : j = m := by omega
            have HEQ : Hid (l2 = l.set i (pv, List.replicate m (markO i))) := Lib.hid (by
              rw [HL2.out, hkm2, List.drop_eq_nil_of_le (by have := HMM.out; omega), List.append_nil, ← HMK.out])
            obtain ⟨qv, cv, rfl, _⟩ := HKH.out.cells
            clear kh hkm hkm2
            go_wp2_with fail
            exact ⟨⟨i + 1, by omega, by simp, Lib.hid ⟨l2, by rw [HEQ.out, List.length_set]; exact HV.out.1, by rw [HEQ.out]; exact mkO_set HV.out.2.1 (by have := HV.out.1; omega), fun p hp => (by
              rw [HEQ.out] at hp
              rcases List.mem_or_eq_of_mem_set hp with h | h
              · exact HV.out.2.2.1 p h
              · rw [h]; show (List.replicate m (markO i)).length ≤ _; rw [List.length_replicate]; exact hm4), HK2.out⟩⟩, (by show k - ((i : Int) + 1).toNat < k - (i : Int).toNat; omega)⟩
      · have hlti : ¬ (i : Int) < (k : Int) := by omega
        have hie : i = k := by omega
        have HMN : Hid (MkO l k) := Lib.hid (by rw [← hie]; exact HV.out.2.1)
        clear hlt hie
        go_wp2_with fail
        go_meet
        exact Lib.hid ⟨l, HV.out.1, HMN.out, HV.out.2.2⟩
  case rest =>
    obtain ⟨l, hl⟩ := hcut.out
    have HV := Lib.hid hl
    clear hl hcut H0
    have HMA : Hid (MkO l l.length) := Lib.hid (by rw [HV.out.1]; exact HV.out.2.1)
    obtain ⟨n4, hn4⟩ : ∃ n, n = 40 * k := ⟨_, rfl⟩
    have HN4 := Lib.hid hn4
    have hn4b : n4 ≤ 800 := by omega
    clear hn4
    go_upto_block 4 with fail
    go_cut [5, 6, 7, 8, 9] from 38 to 68 (fun x5 x6 _ _ _ wx => ∃ pa ca ph ch, x5 = .slice pa n4 ca ∧ x6 = .slice ph n4 ch ∧ Hid (∃ gr : List (Value × Nat), gr.length = n4 ∧ (∀ q ∈ gr, q.2 < k) ∧ OWx w wx B col0 (.slice pl0 k cl0) (.slice pa n4 ca) (.slice ph n4 ch) l gr (gr.map (·.2))))
    case first =>
      go_wp2_with fail
      go_loopw [5, 6, 7, 8, 9] (fun x5 x6 q _ _ wr => ∃ (i N : Nat) (pa : Option Addr) (ca : Nat) (ph : Option Addr) (ch : Nat), i ≤ k ∧ q = .int .i64 (i : Int) ∧ Hid (N = 40 * i) ∧ x5 = .slice pa N ca ∧ x6 = .slice ph N ch ∧ Hid (∃ gr : List (Value × Nat), gr.length = N ∧ (∀ q ∈ gr, q.2 < k) ∧ OWx w wr B col0 (.slice pl0 k cl0) (.slice pa N ca) (.slice ph N ch) l gr (gr.map (·.2)))) (fun _ _ q _ _ _ => k - (intOf q).toNat)
      case atStart => exact ⟨0, 0, none, 0, none, 0, Nat.zero_le _, rfl, Lib.hid rfl, rfl, rfl, Lib.hid ⟨[], rfl, (fun q hq => by simp at hq), HV.out.2.2.2⟩⟩
      case round =>
        obtain ⟨i, N, pa, ca, ph, ch, hi, rfl, HNI, rfl, rfl, HG⟩ := hrel
        by_cases hlt : i < k
        · have hlti : (i : Int) < (k : Int) := by omega
          have hi0 : (0 : Int) ≤ (i : Int) := by omega
          obtain ⟨⟨pv, pl⟩, hp⟩ : ∃ p, l[i]? = some p := ⟨l[i]'(by have := HV.out.1; omega), List.getElem?_eq_getElem _⟩
          obtain ⟨m, hm⟩ : ∃ m, m = pl.length := ⟨_, rfl⟩
          have hm4 : m ≤ 4096 := by rw [hm]; exact HV.out.2.2.1 (pv, pl) (List.mem_of_getElem? hp)
          obtain ⟨gr0, hg1, hg2, col1, ho⟩ := HG.out
          obtain ⟨p3, c3, k1, k2, k3⟩ := ho.row
          injection k1 with k1a k1b k1c
          clear k1b k1c
          obtain ⟨a3, rfl, ka⟩ := k3 i _ hp
          subst k1a
          have ka : wr.cell? (a3.add i) = some pv := ka
          have hpm : pl = List.replicate m (markO i) := by
            have := HMA.out i (pv, pl) (by have := HV.out.1; omega) hp
            rw [hm]; exact this
          have kh : Held wr 9 1 pv m (marks (mkO i) m) := by
            have := (ho.li i _ hp).1
            rw [← rep_marks, ← hpm]
            show Held wr 9 1 pv m (pl.map Value.string)
            rw [hm]; exact this
          have hcg : ∀ g, pv.ownBlock = some g → col1 g = 8 + i := (ho.li i _ hp).2.2
          obtain ⟨q0, c0, rfl, _⟩ := kh.cells
          have HS0 : Hid (∃ (col : Nat → Nat) (gr : List (Value × Nat)), gr.length = N ∧ (∀ q ∈ gr, q.2 < k) ∧ OW w wr B col0 col (.slice (some a3) k cl0) (.slice pa N ca) (.slice ph N ch) l gr (gr.map (·.2)) ∧ Held wr 9 1 (.slice q0 m c0) m (marks (mkO i) m) ∧ ∀ g, (Value.slice q0 m c0).ownBlock = some g → col g = 8 + i) := Lib.hid ⟨col1, gr0, hg1, hg2, ho, kh, hcg⟩
          obtain ⟨a, hae⟩ : ∃ a : UInt8, a = UInt8.ofNat ((i : Int) % 256).toNat := ⟨_, rfl⟩
          have e1 : (a.toNat : Int) = (i : Int) := by have h9 := byte_intU i; rw [← hae] at h9; omega
          have HE1 := Lib.hid e1
          have hw8 : IntKind.u8.wrap (i : Int) = (i : Int) := by first | (show (i : Int) % 256 = (i : Int); omega) | (simp [IntKind.wrap]; omega)
          have HMS : Hid (markO i = ⟨#[109, 97, 114, 107]⟩ ++ str [a]) := Lib.hid (by unfold markO; rw [← hae])
          have HLT := Lib.hid hlt
          have hN800 : N ≤ 800 := by have := HNI.out; omega
          clear hp hm hpm kh hcg ho k2 k3 hg1 hg2 hae e1 HG hlt
          go_wp2_with fail
          clear ka
          go_loopw [5, 6, 8, 9] (fun x5 x6 x8 q wr => ∃ (j N2 M2 : Nat) (pa : Option Addr) (ca : Nat) (ph : Option Addr) (ch : Nat) (qx : Option Addr) (cx : Nat), j ≤ 40 ∧ q = .int .i64 (j : Int) ∧ Hid (N2 = N + j ∧ M2 = m + j) ∧ x5 = .slice pa N2 ca ∧ x6 = .slice ph N2 ch ∧ x8 = .slice qx M2 cx ∧ Hid (∃ (col : Nat → Nat) (gr : List (Value × Nat)), gr.length = N2 ∧ (∀ q ∈ gr, q.2 < k) ∧ OW w wr B col0 col (.slice (some a3) k cl0) (.slice pa N2 ca) (.slice ph N2 ch) l gr (gr.map (·.2)) ∧ Held wr 9 1 (.slice qx M2 cx) M2 (marks (mkO i) M2) ∧ ∀ g, (Value.slice qx M2 cx).ownBlock = some g → col g = 8 + i)) (fun _ _ _ q _ => 40 - (intOf q).toNat)
          case atStart => exact ⟨0, N, m, pa, ca, ph, ch, q0, c0, by omega, rfl, Lib.hid ⟨rfl, rfl⟩, rfl, rfl, rfl, HS0⟩
          case round =>
            clear HS0
            obtain ⟨j, N2, M2, pb, cb, pw, cw, qx, cx, hj, rfl, HNM, rfl, rfl, rfl, HS⟩ := hrel
            obtain ⟨col2, gr2, hg1, hg2, ho2, hx2, hc2⟩ := HS.out
            clear HS
            have HG1 := Lib.hid hg1
            have HG2 := Lib.hid hg2
            have HO2 := Lib.hid ho2
            have HX2 := Lib.hid hx2
            have HC2 := Lib.hid hc2
            clear hg1 hg2 ho2 hx2 hc2
            by_cases hlt : j < 40
            · have hji : (j : Int) < 40 := by omega
              have hNb : N2 ≤ 840 := by have := HNM.out; omega
              have hMb : M2 ≤ 4136 := by have := HNM.out; omega
              have hl1 : (N2 + 1) * 24 ≤ 140737488355328 := by omega
              have hl2 : N2 + 1 ≤ 140737488355328 := by omega
              have hl3 : (N2 + 1) * 8 ≤ 140737488355328 := by omega
              have hl5 : (M2 + 1) * 16 ≤ 140737488355328 := by omega
              have hl6 : M2 + 1 ≤ 140737488355328 := by omega
              have HAR : Hid (Held wr 52 1 (.slice pb N2 cb) N2 (gr2.map (·.1))) := Lib.hid (by have := HO2.out.ar; rwa [HG1.out] at this)
              have HONE : Hid (∀ u ∈ [Value.slice qx M2 cx], u.oneCell' = true) := Lib.hid (fun u hu => by rw [List.mem_singleton.1 hu]; rfl)
              go_upto_region 18 with (at_builtin; refine wpList_grew (v := .slice pb N2 cb) rfl _ _ rfl Tryd.underlying35 (.slice none 0 0) 1 info_listO rfl (by decide) [.slice qx M2 cx] 1 (by simp [Act.eval]) (by simp [Act.eval]) HAR.out rfl rfl (by decide) HONE.out hl1 hl2 ?_; intro v5 w5 hg5; obtain ⟨p5, c5, rfl, _⟩ := hg5.held.cells; have HG5 := Lib.hid hg5; clear hg5)
              obtain ⟨o5, x5, y5⟩ := (HO2.out.below ((Below.refl _ _).alloc (Nat.le_refl _) _)).addA HG1.out.symm (HX2.out.below ((Below.refl _ _).alloc (Nat.le_refl _) _)) HC2.out HG5.out
              have HO5 := Lib.hid o5
              have HX5 := Lib.hid x5
              have HC5 := Lib.hid y5
              clear o5 x5 y5 HAR HONE HG5 HX2 HC2
              have HHR : Hid (Held w5 3 1 (.slice pw N2 cw) N2 ((gr2.map (·.2)).map fun c => Value.int .i64 ((c : Nat) : Int))) := Lib.hid (by have := HO5.out.hr; rwa [List.length_map, HG1.out] at this)
              have HONE : Hid (∀ u ∈ [Value.int .i64 (i : Int)], u.oneCell' = true) := Lib.hid (fun u hu => by rw [List.mem_singleton.1 hu]; rfl)
              go_upto_region 19 with (at_builtin; refine wpList_grew (v := .slice pw N2 cw) rfl _ _ rfl Tryd.underlying48 (.int .i64 0) 1 info_intO rfl (by decide) [.int .i64 (i : Int)] 1 (by simp [Act.eval]) (by simp [Act.eval]) HHR.out rfl rfl (by decide) HONE.out hl3 hl2 ?_; intro v6 w6 hg6; obtain ⟨p6, c6, rfl, _⟩ := hg6.held.cells; have HG6 := Lib.hid hg6; clear hg6)
              obtain ⟨o6, x6, y6⟩ := (HO5.out.below ((Below.refl _ _).alloc (Nat.le_refl _) _)).addH (c := i) (by rw [List.length_map]; exact HG1.out.symm) HG6.out
              have HX6 : Hid (Held w6 9 1 (.slice qx M2 cx) M2 (marks (mkO i) M2)) := Lib.hid ((HX5.out.below ((Below.refl _ _).alloc (Nat.le_refl _) _)).keep fun g hg => y6 g ((HX5.out.below ((Below.refl _ _).alloc (Nat.le_refl _) _)).lt hg) (by rw [HC5.out g hg]; omega))
              have HC6 : Hid (∀ g, (Value.slice qx M2 cx).ownBlock = some g → _) := Lib.hid (fun g hg => (x6 g ((HX5.out.below ((Below.refl _ _).alloc (Nat.le_refl _) _)).lt hg)).trans (HC5.out g hg))
              have HO6 := Lib.hid o6
              clear o6 x6 y6 HHR HONE HG6 HO5 HX5 HC5 HO2
              obtain ⟨o, ho⟩ : ∃ o, o = Obj.cells (bytesV [a]).toArray 5 := ⟨_, rfl⟩
              have hcv := mark_cv w6 a (w6.alloc o) (.inl (by rw [ho]))
              have hbA : Below w6.heap.size w6 (w6.alloc o) := (Below.refl _ _).alloc (Nat.le_refl _) _
              have HX7 := Lib.hid (HX6.out.below hbA)
              have HO7 := Lib.hid (HO6.out.below hbA)
              clear hbA
              rw [ho] at hcv HX7 HO7
              simp only [bytesV, List.map_cons, List.map_nil, HE1.out] at hcv HX7 HO7
              clear ho o
              have HMV : Hid (mkO i = [Value.string (⟨#[109, 97, 114, 107]⟩ ++ str [a])]) := Lib.hid (by unfold mkO; rw [HMS.out])
              have HONE : Hid (∀ u ∈ [Value.string (⟨#[109, 97, 114, 107]⟩ ++ str [a])], u.oneCell' = true) := Lib.hid (fun u hu => by rw [List.mem_singleton.1 hu]; rfl)
              go_wp2_with (at_builtin; refine wpList_grew (v := .slice qx M2 cx) rfl _ _ rfl Tryd.underlying52 (.string ⟨#[]⟩) 1 info_strT rfl (by decide) [.string (⟨#[109, 97, 114, 107]⟩ ++ str [a])] 1 (by simp [Act.eval]) (by simp [Act.eval]) HX7.out rfl rfl (by decide) HONE.out hl5 hl6 ?_; intro v8 w8 hg8; obtain ⟨p8, c8, rfl, _⟩ := hg8.held.cells; have HG8 := Lib.hid hg8; clear hg8)
              have hg9 := HG8.out
              rw [← HMV.out] at hg9
              obtain ⟨o8, x8, y8⟩ := (HO7.out.below ((Below.refl _ _).alloc (Nat.le_refl _) _)).grow HMA.out HC6.out hg9
              exact ⟨⟨j + 1, N2 + 1, M2 + 1, p5, c5, p6, c6, p8, c8, by omega, by simp, Lib.hid (by have := HNM.out; omega), rfl, rfl, rfl, Lib.hid ⟨_, gr2 ++ [(.slice qx M2 cx, i)], by rw [List.length_append, HG1.out]; rfl, fun q hq => (by
                rcases List.mem_append.1 hq with h | h
                · exact HG2.out q h
                · rw [List.mem_singleton.1 h]; exact HLT.out), by rw [List.map_append]; exact o8, x8, y8⟩⟩, by show 40 - ((j : Int) + 1).toNat < 40 - (j : Int).toNat; omega⟩
            · have hji : ¬ (j : Int) < 40 := by omega
              have hj40 : j = 40 := by omega
              have HJ := Lib.hid hj40
              clear hlt hj40
              go_wp2_with fail
              exact ⟨⟨i + 1, N2, pb, cb, pw, cw, by have := HLT.out; omega, by simp, Lib.hid (by have := HNM.out; have := HNI.out; have := HJ.out; omega), rfl, rfl, Lib.hid ⟨gr2, HG1.out, HG2.out, _, HO2.out⟩⟩, by show k - ((i : Int) + 1).toNat < k - (i : Int).toNat; have := HLT.out; omega⟩
        · have hlti : ¬ (i : Int) < (k : Int) := by omega
          obtain rfl : N = n4 := by have := HNI.out; have := HN4.out; have : i = k := by omega
                                    subst this; omega
          clear hlt
          go_wp2_with fail
          go_meet
          exact ⟨pa, ca, ph, ch, rfl, rfl, HG⟩
    case rest =>
      obtain ⟨pa, ca, ph, ch, rfl, rfl, HG⟩ := hcut
      obtain ⟨gr, hg1, hg2, col1, ho⟩ := HG.out
      obtain ⟨p5, c5, p6, c6, e5, e5b, e6, e6b, r5, r6⟩ := ho.all
      injection e5 with e5a e5x e5c
      injection e6 with e6a e6x e6c
      rw [List.length_map] at e6x e6b
      subst e5a e6a
      have R5 := Lib.hid r5
      have R6 := Lib.hid r6
      have HG1 := Lib.hid hg1
      have HG2 := Lib.hid hg2
      have HON := Lib.hid ho.on
      rw [hg1] at e5b e6b
      have hca : n4 ≤ ca := by omega
      have hch : n4 ≤ ch := by omega
      clear e5x e5c e6x e6c e5b e6b r5 r6 hg1 hg2 ho HG HV HMA HN4
      go_wp2_with fail
      go_loopw [10, 11] (fun q _ wr => ∃ i : Nat, i ≤ n4 ∧ q = .int .i64 (i : Int) ∧ Hid (Below wc.heap.size wc wr)) (fun q _ _ => n4 - (intOf q).toNat)
      case atStart => exact ⟨0, Nat.zero_le _, rfl, Lib.hid (Below.refl _ _)⟩
      case round =>
        obtain ⟨i, hi, rfl, HB⟩ := hrel
        by_cases hlt : i < n4
        · have hlti : (i : Int) < (n4 : Int) := by omega
          have hi0 : (0 : Int) ≤ (i : Int) := by omega
          obtain ⟨⟨xv, xc⟩, hq⟩ : ∃ q, gr[i]? = some q := ⟨gr[i]'(by rw [HG1.out]; exact hlt), List.getElem?_eq_getElem _⟩
          obtain ⟨⟨a5, rfl, ka⟩, hfull⟩ := R5.out i _ hq
          obtain ⟨a6, rfl, kb⟩ := R6.out i xc (by rw [List.getElem?_map, hq]; rfl)
          have hxc : xc < 20 := Nat.lt_of_lt_of_le (HG2.out _ (List.mem_of_getElem? hq)) hk20
          obtain ⟨px, nx, cx, rfl, hnc, hnm, hat⟩ := full_get hfull
          have hnx9 : nx ≤ 9223372036854775807 := Nat.le_trans hnm (by decide)
          clear hnm
          have HSS : Hid (∀ w', Below wc.heap.size wc w' → w'.cell? (a5.add i) = some (.slice px nx cx) ∧ w'.cell? (a6.add i) = some (.int .i64 (xc : Int)) ∧ ∀ j, j < nx → ∃ b, px = some b ∧ w'.cell? (b.add j) = some (.string (markO xc))) := Lib.hid (fun w' hb => ⟨(hb.cell (block_lt_of_cell ka)).trans ka, (hb.cell (block_lt_of_cell kb)).trans kb, fun j hj => by
            obtain ⟨b, hb1, hb2⟩ := hat j hj
            exact ⟨b, hb1, (hb.cell (block_lt_of_cell hb2)).trans hb2⟩⟩)
          have HLT := Lib.hid hlt
          obtain ⟨a, hae⟩ : ∃ a : UInt8, a = UInt8.ofNat ((xc : Int) % 256).toNat := ⟨_, rfl⟩
          have e1 : (a.toNat : Int) = (xc : Int) := by have h9 := byte_intU xc; rw [← hae] at h9; omega
          have HE1 := Lib.hid e1
          have hw8 : IntKind.u8.wrap (xc : Int) = (xc : Int) := by first | (show (xc : Int) % 256 = (xc : Int); omega) | (simp [IntKind.wrap]; omega)
          have HMS : Hid (markO xc = ⟨#[109, 97, 114, 107]⟩ ++ str [a]) := Lib.hid (by unfold markO; rw [← hae])
          obtain ⟨mk, hmk⟩ : ∃ x, x = (⟨#[109, 97, 114, 107]⟩ : ByteArray) ++ str [a] := ⟨_, rfl⟩
          rw [HMS.out, ← hmk] at HSS
          have HMK := Lib.hid hmk
          have hst := textU_same mk
          clear hq ka kb hfull hat hlt hae e1 hxc hmk
          go_wp2_with fail
          go_loopw [11] (fun q wr => ∃ j : Nat, j ≤ nx ∧ q = .int .i64 (j : Int) ∧ Hid (Below wc.heap.size wc wr)) (fun q _ => nx - (intOf q).toNat)
          case atStart => exact ⟨0, Nat.zero_le _, rfl, HB⟩
          case round =>
            clear HB
            obtain ⟨j, hj, rfl, HB⟩ := hrel
            obtain ⟨ka, kb, kc⟩ := HSS.out wr HB.out
            by_cases hjn : j < nx
            · have hjj : (j : Int) < (nx : Int) := by omega
              have hj0 : (0 : Int) ≤ (j : Int) := by omega
              obtain ⟨b, rfl, kd⟩ := kc j hjn
              have HSX : Hid (∀ w', Below wc.heap.size wc w' → w'.cell? (a5.add i) = some (.slice (some b) nx cx) ∧ w'.cell? (a6.add i) = some (.int .i64 (xc : Int)) ∧ w'.cell? (b.add j) = some (.string mk)) := Lib.hid (fun w' hb => by
                obtain ⟨q1, q2, q3⟩ := HSS.out w' hb
                obtain ⟨b', e, q4⟩ := q3 j hjn
                obtain rfl := Option.some.inj e
                exact ⟨q1, q2, q4⟩)
              have HB0 : Hid (Below wc.heap.size wc wr.drew) := Lib.hid HB.out.drew
              obtain ⟨o, ho⟩ : ∃ o, o = Obj.cells (bytesV [a]).toArray 5 := ⟨_, rfl⟩
              have hcv := mark_cv wr a (wr.alloc o).drew (.inr (by rw [ho]))
              have hb1 : Below wc.heap.size wc (wr.alloc o).drew := (HB.out.alloc HB.out.size o).drew
              have HB1 := Lib.hid hb1
              clear hb1
              rw [ho] at hcv HB1
              simp only [bytesV, List.map_cons, List.map_nil, HE1.out] at hcv HB1
              clear ho o kc
              have HJN := Lib.hid hjn
              have hmk := HMK.out.symm
              clear hjn
              go_upto_region 26 with fail
              clear ka kb kd
              refine wp_region_held_drew (S := fun w' => w'.cell? (a5.add i) = some (.slice (some b) nx cx) ∧ w'.cell? (a6.add i) = some (.int .i64 (xc : Int)) ∧ w'.cell? (b.add j) = some (.string mk)) (by kernel_rfl) (by exact HSX.out _ (by first | exact HB1.out | exact HB0.out)) (fun hHeld => ?_)
              refine wpAnyH_take (i := 0) (oi := ⟨_, _, _, _, _, _⟩) (v := ?_) rfl (by kernel_rfl) (by kernel_rfl) (by kernel_rfl) (fun _ _ _ h => h) (Or.inl ⟨by rfl, ?_⟩) hHeld ?_
              rotate_left
              · ((intro w hSw; (try dsimp only at hSw); go_simp) <;> with_reducible rfl)
              try simp only [Act.put, List.setIfInBounds_toArray, List.set_cons_zero, List.set_cons_succ]
              refine wpAnyH_take (i := 1) (oi := ⟨_, _, _, _, _, _⟩) (v := ?_) rfl (by kernel_rfl) (by kernel_rfl) (by kernel_rfl) (fun _ _ _ h => h) (Or.inl ⟨by rfl, ?_⟩) hHeld ?_
              rotate_left
              · ((intro w hSw; (try dsimp only at hSw); go_simp) <;> with_reducible rfl)
              try simp only [Act.put, List.setIfInBounds_toArray, List.set_cons_zero, List.set_cons_succ]
              refine wpAnyH_take (i := 2) (oi := ⟨_, _, _, _, _, _⟩) (v := ?_) rfl (by kernel_rfl) (by kernel_rfl) (by kernel_rfl) (fun _ _ _ h => h) (Or.inl ⟨by rfl, ?_⟩) hHeld ?_
              rotate_left
              · ((intro w hSw; (try dsimp only at hSw); go_simp) <;> with_reducible rfl)
              try simp only [Act.put, List.setIfInBounds_toArray, List.set_cons_zero, List.set_cons_succ]
              refine wpAnyH_take (i := 3) (oi := ⟨_, _, _, _, _, _⟩) (v := ?_) rfl (by kernel_rfl) (by kernel_rfl) (by kernel_rfl) (fun _ _ _ h => h) (Or.inl ⟨by rfl, ?_⟩) hHeld ?_
              rotate_left
              · ((intro w hSw; (try dsimp only at hSw); go_simp) <;> with_reducible rfl)
              try simp only [Act.put, List.setIfInBounds_toArray, List.set_cons_zero, List.set_cons_succ]
              refine wpAnyH_take (i := 4) (oi := ⟨_, _, _, _, _, _⟩) (v := ?_) rfl (by kernel_rfl) (by kernel_rfl) (by kernel_rfl) (fun _ _ _ h => h) (Or.inl ⟨by rfl, ?_⟩) hHeld ?_
              rotate_left
              · ((intro w hSw; (try dsimp only at hSw); go_simp) <;> with_reducible rfl)
              try simp only [Act.put, List.setIfInBounds_toArray, List.set_cons_zero, List.set_cons_succ]
              refine wpAnyH_take (i := 5) (oi := ⟨_, _, _, _, _, _⟩) (v := ?_) rfl (by kernel_rfl) (by kernel_rfl) (by kernel_rfl) (fun _ _ _ h => h) (Or.inl ⟨by rfl, ?_⟩) hHeld ?_
              rotate_left
              · ((intro w hSw; (try dsimp only at hSw); go_simp) <;> with_reducible rfl)
              try simp only [Act.put, List.setIfInBounds_toArray, List.set_cons_zero, List.set_cons_succ]
              refine wpAnyH_take (i := 6) (oi := ⟨_, _, _, _, _, _⟩) (v := ?_) rfl (by kernel_rfl) (by kernel_rfl) (by kernel_rfl) (fun _ _ _ h => h) (Or.inl ⟨by rfl, ?_⟩) hHeld ?_
              rotate_left
              · ((intro w hSw; (try dsimp only at hSw); go_simp) <;> with_reducible rfl)
              try simp only [Act.put, List.setIfInBounds_toArray, List.set_cons_zero, List.set_cons_succ]
              refine wpAnyH_take (i := 7) (oi := ⟨_, _, _, _, _, _⟩) (v := ?_) rfl (by kernel_rfl) (by kernel_rfl) (by kernel_rfl) (fun _ _ _ h => h) (Or.inl ⟨by rfl, ?_⟩) hHeld ?_
              rotate_left
              · ((intro w hSw; (try dsimp only at hSw); go_simp) <;> with_reducible rfl)
              try simp only [Act.put, List.setIfInBounds_toArray, List.set_cons_zero, List.set_cons_succ]
              refine wpAnyH_take (i := 8) (oi := ⟨_, _, _, _, _, _⟩) (v := ?_) rfl (by kernel_rfl) (by kernel_rfl) (by kernel_rfl) (fun _ _ _ h => h) (Or.inl ⟨by rfl, ?_⟩) hHeld ?_
              rotate_left
              · ((intro w hSw; (try dsimp only at hSw); go_simp) <;> with_reducible rfl)
              try simp only [Act.put, List.setIfInBounds_toArray, List.set_cons_zero, List.set_cons_succ]
              refine wpAnyH_take (i := 9) (oi := ⟨_, _, _, _, _, _⟩) (v := ?_) rfl (by kernel_rfl) (by kernel_rfl) (by kernel_rfl) (fun _ _ _ h => h) (Or.inl ⟨by rfl, ?_⟩) hHeld ?_
              rotate_left
              · ((intro w hSw; (try dsimp only at hSw); go_simp) <;> with_reducible rfl)
              try simp only [Act.put, List.setIfInBounds_toArray, List.set_cons_zero, List.set_cons_succ]
              refine wpAnyH_take (i := 10) (oi := ⟨_, _, _, _, _, _⟩) (v := ?_) rfl (by kernel_rfl) (by kernel_rfl) (by kernel_rfl) (fun _ _ _ h => h) (Or.inl ⟨by rfl, ?_⟩) hHeld ?_
              rotate_left
              · ((intro w hSw; (try dsimp only at hSw); go_simp) <;> with_reducible rfl)
              try simp only [Act.put, List.setIfInBounds_toArray, List.set_cons_zero, List.set_cons_succ]
              refine wpAnyH_take (i := 11) (oi := ⟨_, _, _, _, _, _⟩) (v := ?_) rfl (by kernel_rfl) (by kernel_rfl) (by kernel_rfl) (fun _ _ _ h => h) (Or.inl ⟨by rfl, ?_⟩) hHeld ?_
              rotate_left
              · ((intro w hSw; (try dsimp only at hSw); go_simp) <;> with_reducible rfl)
              try simp only [Act.put, List.setIfInBounds_toArray, List.set_cons_zero, List.set_cons_succ]
              refine wpAnyH_ready (rs := [12]) (by kernel_rfl) (by simp) ?_
              refine AllReadyH.cons (o := ⟨_, _, _, _, _, _⟩) rfl (fun KC hK => ?_) ?_
              rotate_left
              · exact AllReadyH.nil
              go_simp
              refine hK.out _ _ (by exact HSX.out _ (by first | exact HB1.out | exact HB0.out)) (fun hHeld => ?_)
              clear hK KC
              try simp only [Act.put, List.setIfInBounds_toArray, List.set_cons_zero, List.set_cons_succ]
              refine wpAnyH_ready (rs := [13]) (by kernel_rfl) (by simp) ?_
              refine AllReadyH.cons (o := ⟨_, _, _, _, _, _⟩) rfl (fun KC hK => ?_) ?_
              rotate_left
              · exact AllReadyH.nil
              go_simp
              refine hK.out _ _ (by exact HSX.out _ (by first | exact HB1.out | exact HB0.out)) (fun hHeld => ?_)
              clear hK KC
              try simp only [Act.put, List.setIfInBounds_toArray, List.set_cons_zero, List.set_cons_succ]
              refine wpAnyH_ready (rs := [14]) (by kernel_rfl) (by simp) ?_
              refine AllReadyH.cons (o := ⟨_, _, _, _, _, _⟩) rfl (fun KC hK => ?_) ?_
              rotate_left
              · exact AllReadyH.nil
              go_simp
              refine hK.out _ _ (by exact HSX.out _ (by first | exact HB1.out | exact HB0.out)) (fun hHeld => ?_)
              clear hK KC
              try simp only [Act.put, List.setIfInBounds_toArray, List.set_cons_zero, List.set_cons_succ]
              refine wpAnyH_take (i := 15) (oi := ⟨_, _, _, _, _, _⟩) (v := ?_) rfl (by kernel_rfl) (by kernel_rfl) (by kernel_rfl) (fun _ _ _ h => h) (Or.inl ⟨by rfl, ?_⟩) hHeld ?_
              rotate_left
              · ((intro w hSw; (try dsimp only at hSw); go_simp) <;> with_reducible rfl)
              try simp only [Act.put, List.setIfInBounds_toArray, List.set_cons_zero, List.set_cons_succ]
              refine wpAnyH_done (by kernel_rfl) ?_ _
              go_wp2_with fail
              exact ⟨⟨j + 1, HJN.out, by simp, HB1⟩, by show nx - ((j : Int) + 1).toNat < nx - (j : Int).toNat; have := HJN.out; omega⟩
            · have hjj : ¬ (j : Int) < (nx : Int) := by omega
              clear kc
              go_wp2_with fail
              exact ⟨⟨i + 1, HLT.out, by simp, HB⟩, by show n4 - ((i : Int) + 1).toNat < n4 - (i : Int).toNat; have := HLT.out; omega⟩
        · have hlti : ¬ (i : Int) < (n4 : Int) := by omega
          go_wp2_with fail
          go_ret
          exact ⟨rfl, HON.out.trans' (only_of_below' (HB.out.mono (Nat.le_refl _)))⟩
end Go.Proofs.YtafookdllnhdaaaDoor
