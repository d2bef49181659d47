/- The cache as it lies in memory. -/
import Derived.Test.YthaccjjkbbkehaaCa2
import Derived.Test.YthaccjjkbbkehaaRcd1
namespace Go.Proofs.Ythaccjjkbbkehaa
open Go.RowKit Go.Scr Go.Maps
set_option linter.unusedVariables false

structure EntAt (w : World) (e : Ent) : Prop where
  k : w.cell? ⟨e.blk, 0, none⟩ = some (.string e.key)
  v : w.cell? ⟨e.blk, 1, none⟩ = some (.string e.val)
  p : w.cell? ⟨e.blk, 2, none⟩ = some (.int .i64 (e.pins : Int))
  a : ∃ u, w.cell? ⟨e.blk, 3, none⟩ = some u
  n : ∃ u, w.cell? ⟨e.blk, 4, none⟩ = some u
  t : Thaw w e.blk
theorem EntAt.lt {w : World} {e : Ent} (h : EntAt w e) : e.blk < w.heap.size := block_lt_of_cell h.k
theorem frozen_set {w : World} {a : Addr} {u : Value} (b : Addr) : (w.setCell a u).frozen? b = w.frozen? b := World.frozen?_setCell _ _ _ _
theorem Thaw.set {w : World} {b : Nat} (h : Thaw w b) (a : Addr) (u : Value) : Thaw (w.setCell a u) b := by
  obtain ⟨cs, T, hb⟩ := h
  by_cases hg : b = a.block
  · subst hg
    exact ⟨_, _, by simp only [World.setCell, Array.getElem?_modify, if_true, hb]; rfl⟩
  · exact ⟨_, _, blk_far hb hg u⟩
theorem cell_at {w w' : World} {b : Nat} (h : w'.heap[b]? = w.heap[b]?) (i : Nat) : w'.cell? ⟨b, i, none⟩ = w.cell? ⟨b, i, none⟩ := by
  unfold World.cell?
  simp only [h]
theorem frozen_at {w w' : World} {b : Nat} (h : w'.heap[b]? = w.heap[b]?) (i : Nat) : w'.frozen? ⟨b, i, none⟩ = w.frozen? ⟨b, i, none⟩ := by
  unfold World.frozen?
  simp only [h]
theorem Thaw.at {w w' : World} {b : Nat} (h : Thaw w b) (hk : w'.heap[b]? = w.heap[b]?) : Thaw w' b := by
  obtain ⟨cs, T, hb⟩ := h
  exact ⟨cs, T, hk.trans hb⟩
theorem EntAt.at {w w' : World} {e : Ent} (h : EntAt w e) (hk : w'.heap[e.blk]? = w.heap[e.blk]?) : EntAt w' e :=
  ⟨(cell_at hk 0).trans h.k, (cell_at hk 1).trans h.v, (cell_at hk 2).trans h.p, h.a.imp fun u hu => (cell_at hk 3).trans hu, h.n.imp fun u hu => (cell_at hk 4).trans hu, h.t.at hk⟩
/-- a link's pointers are written, or another block's cells -/
theorem EntAt.set {w : World} {e : Ent} (h : EntAt w e) {b i : Nat} (hi : b ≠ e.blk ∨ 3 ≤ i) (u : Value) : EntAt (w.setCell ⟨b, i, none⟩ u) e := by
  have hne : ∀ j, j < 3 → b ≠ e.blk ∨ i ≠ j := fun j hj => hi.imp id fun h => by omega
  refine ⟨(cs_ne u (hne 0 (by omega))).trans h.k, (cs_ne u (hne 1 (by omega))).trans h.v, (cs_ne u (hne 2 (by omega))).trans h.p, ?_, ?_, h.t.set _ _⟩
  · obtain ⟨x, hx⟩ := h.a
    exact cell?_setCell_some hx
  · obtain ⟨x, hx⟩ := h.n
    exact cell?_setCell_some hx

def blks (L : List Ent) : List Nat := L.map Ent.blk
/-- c: the seven numbers; L: the ring; M: the table -/
structure CB (w : World) (col : Nat → Nat) (κ cb ob mb : Nat) (c : Nat → Nat) (L M : List Ent) : Prop where
  c : ∀ j, j < 7 → w.cell? ⟨cb, j, none⟩ = some (.int .i64 (c j : Int))
  c7 : w.cell? ⟨cb, 7, none⟩ = some (.map (some mb))
  c8 : w.cell? ⟨cb, 8, none⟩ = some (bp ob)
  ct : Thaw w cb
  ot : Thaw w ob
  rg : Ring w ob (blks L)
  es : ∀ e ∈ L, EntAt w e
  nd : (ob :: blks L).Nodup
  nc : cb ∉ ob :: blks L
  mp : MapOf w mb M
  cc : col cb = κ ∧ col ob = κ ∧ col mb = κ ∧ ∀ e ∈ L, col e.blk = κ
theorem not_map {w : World} {mb : Nat} {M : List Ent} (h : MapOf w mb M) {b i : Nat} {v : Value} (hb : w.cell? ⟨b, i, none⟩ = some v) : b ≠ mb := by
  rintro rfl
  obtain ⟨D, ⟨es, clock, hm, _⟩, _⟩ := h
  simp [World.cell?, hm] at hb
theorem CB.ob_lt {w : World} {col : Nat → Nat} {κ cb ob mb : Nat} {c : Nat → Nat} {L M : List Ent} (h : CB w col κ cb ob mb c L M) : ∃ v, w.cell? ⟨ob, 4, none⟩ = some v := by
  obtain ⟨q, B', _, h1, _⟩ := h.rg.head
  exact ⟨_, h1⟩
/-- other blocks have turned -/
theorem CB.keep {w w' : World} {col col' : Nat → Nat} {κ cb ob mb : Nat} {c : Nat → Nat} {L M : List Ent} (h : CB w col κ cb ob mb c L M) (hk : ∀ g, g < w.heap.size → col g = κ → w'.heap[g]? = w.heap[g]?) (hc : ∀ g, g < w.heap.size → col' g = col g) :
    CB w' col' κ cb ob mb c L M := by
  obtain ⟨a1, a2, a3, a4⟩ := h.cc
  obtain ⟨v, hv⟩ := h.ob_lt
  have l1 := block_lt_of_cell h.c8
  have l2 := block_lt_of_cell hv
  have l3 := h.mp.lt
  have k1 := hk cb l1 a1
  have k2 := hk ob l2 a2
  have k3 : ∀ e ∈ L, w'.heap[e.blk]? = w.heap[e.blk]? := fun e he => hk _ (h.es e he).lt (a4 e he)
  refine ⟨fun j hj => (cell_at k1 j).trans (h.c j hj), (cell_at k1 7).trans h.c7, (cell_at k1 8).trans h.c8, h.ct.at k1, h.ot.at k2, h.rg.frame (fun b hb i => ?_), fun e he => (h.es e he).at (k3 e he), h.nd, h.nc, h.mp.keep (hk mb l3 a3), (hc _ l1).trans a1, (hc _ l2).trans a2, (hc _ l3).trans a3, fun e he => (hc _ (h.es e he).lt).trans (a4 e he)⟩
  rcases List.mem_cons.mp hb with rfl | hb
  · exact cell_at k2 i
  · obtain ⟨e, he, rfl⟩ := List.mem_map.mp hb
    exact cell_at (k3 e he) i
theorem CB.below {w w' : World} {col : Nat → Nat} {κ cb ob mb : Nat} {c : Nat → Nat} {L M : List Ent} (h : CB w col κ cb ob mb c L M) (hb : Below w.heap.size w w') : CB w' col κ cb ob mb c L M :=
  h.keep (fun g hg _ => hb.block g hg) (fun _ _ => rfl)
theorem CB.drewN {w : World} {col : Nat → Nat} {κ cb ob mb : Nat} {c : Nat → Nat} {L M : List Ent} (h : CB w col κ cb ob mb c L M) (n : Nat) : CB (w.drewN n) col κ cb ob mb c L M :=
  h.keep (fun g hg _ => rfl) (fun _ _ => rfl)
theorem CB.drew {w : World} {col : Nat → Nat} {κ cb ob mb : Nat} {c : Nat → Nat} {L M : List Ent} (h : CB w col κ cb ob mb c L M) : CB w.drew col κ cb ob mb c L M :=
  h.keep (fun g hg _ => rfl) (fun _ _ => rfl)
theorem EntAt.drew {w : World} {e : Ent} (h : EntAt w e) : EntAt w.drew e := h.at rfl
theorem only_drew' {col : Nat → Nat} {S : Nat → Prop} {w w' : World} (h : Only col S w w') : Only col S w w'.drew := ⟨h.os, h.tape, h.output, h.size, h.block⟩
/-- a number of the cache's -/
theorem CB.num {w : World} {col : Nat → Nat} {κ cb ob mb : Nat} {c : Nat → Nat} {L M : List Ent} (h : CB w col κ cb ob mb c L M) {j : Nat} (hj : j < 7) (x : Nat) :
    CB (w.setCell ⟨cb, j, none⟩ (.int .i64 (x : Int))) col κ cb ob mb (put1 c j x) L M := by
  have hne : ∀ b ∈ ob :: blks L, cb ≠ b := fun b hb e => h.nc (by rw [e]; exact hb)
  refine ⟨fun i hi => ?_, (cs_ne _ (.inr (by omega))).trans h.c7, (cs_ne _ (.inr (by omega))).trans h.c8, h.ct.set _ _, h.ot.set _ _, h.rg.frame fun b hb i => cs_ne _ (.inl (hne b hb)), fun e he => (h.es e he).set (.inl (hne _ (List.mem_cons_of_mem _ (List.mem_map_of_mem he)))) _, h.nd, h.nc, h.mp.keep ?_, h.cc⟩
  · by_cases hij : i = j
    · subst hij
      rw [put1_at]
      exact cs_at _ (h.c i hi)
    · rw [put1_ne hij]
      exact (cs_ne _ (.inr fun e => hij e.symm)).trans (h.c i hi)
  · exact Below.heap_setCell w _ _ mb (fun e => not_map h.mp h.c8 (by simpa using e.symm))
/-- a block of no thing there is written -/
theorem CB.apart {w : World} {col : Nat → Nat} {κ cb ob mb : Nat} {c : Nat → Nat} {L M : List Ent} (h : CB w col κ cb ob mb c L M) {b : Nat} (h1 : b ≠ cb) (h2 : b ∉ ob :: blks L) (h3 : b ≠ mb) (i : Nat) (u : Value) : CB (w.setCell ⟨b, i, none⟩ u) col κ cb ob mb c L M :=
  ⟨fun j hj => (cs_ne u (.inl h1)).trans (h.c j hj), (cs_ne u (.inl h1)).trans h.c7, (cs_ne u (.inl h1)).trans h.c8, h.ct.set _ _, h.ot.set _ _, h.rg.frame fun x hx i => cs_ne u (.inl fun e => h2 (by rw [e]; exact hx)), fun e he => (h.es e he).set (.inl fun e' => h2 (by rw [e']; exact List.mem_cons_of_mem _ (List.mem_map_of_mem he))) u, h.nd, h.nc, h.mp.keep (Below.heap_setCell w _ u mb (fun e => h3 e.symm)), h.cc⟩
theorem EntAt.write {w : World} {e : Ent} (h : EntAt w e) (k v : ByteArray) (p : Nat) (z : Value) (hz : z = .int .i64 (p : Int)) : EntAt (((w.setCell ⟨e.blk, 0, none⟩ (.string k)).setCell ⟨e.blk, 1, none⟩ (.string v)).setCell ⟨e.blk, 2, none⟩ z) ⟨e.blk, k, v, p⟩ := by
  subst hz
  obtain ⟨u3, h3⟩ := h.a
  obtain ⟨u4, h4⟩ := h.n
  refine ⟨?_, ?_, ?_, ⟨u3, ?_⟩, ⟨u4, ?_⟩, ((h.t.set _ _).set _ _).set _ _⟩
  · show (((w.setCell ⟨e.blk, 0, none⟩ (.string k)).setCell ⟨e.blk, 1, none⟩ (.string v)).setCell ⟨e.blk, 2, none⟩ _).cell? ⟨e.blk, 0, none⟩ = _
    rw [cs_ne _ (.inr (by decide)), cs_ne _ (.inr (by decide)), cs_at _ h.k]
  · show (((w.setCell ⟨e.blk, 0, none⟩ (.string k)).setCell ⟨e.blk, 1, none⟩ (.string v)).setCell ⟨e.blk, 2, none⟩ _).cell? ⟨e.blk, 1, none⟩ = _
    rw [cs_ne _ (.inr (by decide)), cs_at (v := .string e.val) _ (by rw [cs_ne _ (.inr (by decide))]; exact h.v)]
  · show (((w.setCell ⟨e.blk, 0, none⟩ (.string k)).setCell ⟨e.blk, 1, none⟩ (.string v)).setCell ⟨e.blk, 2, none⟩ _).cell? ⟨e.blk, 2, none⟩ = _
    rw [cs_at (v := .int .i64 (e.pins : Int)) _ (by rw [cs_ne _ (.inr (by decide)), cs_ne _ (.inr (by decide))]; exact h.p)]
  · show (((w.setCell ⟨e.blk, 0, none⟩ (.string k)).setCell ⟨e.blk, 1, none⟩ (.string v)).setCell ⟨e.blk, 2, none⟩ _).cell? ⟨e.blk, 3, none⟩ = _
    rw [cs_ne _ (.inr (by decide)), cs_ne _ (.inr (by decide)), cs_ne _ (.inr (by decide))]; exact h3
  · show (((w.setCell ⟨e.blk, 0, none⟩ (.string k)).setCell ⟨e.blk, 1, none⟩ (.string v)).setCell ⟨e.blk, 2, none⟩ _).cell? ⟨e.blk, 4, none⟩ = _
    rw [cs_ne _ (.inr (by decide)), cs_ne _ (.inr (by decide)), cs_ne _ (.inr (by decide))]; exact h4
theorem CB.map {w : World} {col : Nat → Nat} {κ cb ob mb : Nat} {c : Nat → Nat} {L M M' : List Ent} (h : CB w col κ cb ob mb c L M) (hm : MapOf w mb M') : CB w col κ cb ob mb c L M' :=
  ⟨h.c, h.c7, h.c8, h.ct, h.ot, h.rg, h.es, h.nd, h.nc, hm, h.cc⟩
theorem CB.thaw {w : World} {col : Nat → Nat} {κ cb ob mb : Nat} {c : Nat → Nat} {L M : List Ent} (h : CB w col κ cb ob mb c L M) {b : Nat} (hb : b ∈ ob :: blks L) : Thaw w b := by
  rcases List.mem_cons.mp hb with rfl | hb
  · exact h.ot
  · obtain ⟨e, he, rfl⟩ := List.mem_map.mp hb
    exact (h.es e he).t
theorem blks_app (X Y : List Ent) : blks (X ++ Y) = blks X ++ blks Y := List.map_append
/-- a thing is taken out of the ring -/
theorem CB.take {w : World} {col : Nat → Nat} {κ cb ob mb : Nat} {c : Nat → Nat} {X Y M : List Ent} {e : Ent} (h : CB w col κ cb ob mb c (X ++ e :: Y) M) :
    ∃ a b, w.cell? ⟨e.blk, 3, none⟩ = some (bp a) ∧ w.cell? ⟨e.blk, 4, none⟩ = some (bp b) ∧ (∃ u, w.cell? ⟨a, 4, none⟩ = some u) ∧ (∃ u, w.cell? ⟨b, 3, none⟩ = some u) ∧ Thaw w a ∧ Thaw w b ∧ col a = κ ∧ col b = κ ∧
      CB ((w.setCell ⟨a, 4, none⟩ (bp b)).setCell ⟨b, 3, none⟩ (bp a)) col κ cb ob mb c (X ++ Y) M ∧ EntAt ((w.setCell ⟨a, 4, none⟩ (bp b)).setCell ⟨b, 3, none⟩ (bp a)) e ∧ e.blk ∉ ob :: blks (X ++ Y) := by
  have hb : blks (X ++ e :: Y) = blks X ++ e.blk :: blks Y := by rw [blks_app]; rfl
  obtain ⟨a, b, h3, h4, ha, hbb, ha4, hb3, hr⟩ := Ring.take (X := blks X) (Y := blks Y) (l := e.blk) (by have := h.rg; rwa [hb] at this) (by have := h.nd; rwa [hb] at this)
  have hin : ∀ x ∈ ob :: blks X, x ∈ ob :: blks (X ++ e :: Y) := fun x hx => by rw [hb]; rcases List.mem_cons.mp hx with rfl | hx <;> simp [*]
  have hin2 : ∀ x ∈ ob :: blks Y, x ∈ ob :: blks (X ++ e :: Y) := fun x hx => by rw [hb]; rcases List.mem_cons.mp hx with rfl | hx <;> simp [*]
  have hcol : ∀ x ∈ ob :: blks (X ++ e :: Y), col x = κ := fun x hx => by
    rcases List.mem_cons.mp hx with rfl | hx
    · exact h.cc.2.1
    · obtain ⟨q, hq, rfl⟩ := List.mem_map.mp hx
      exact h.cc.2.2.2 q hq
  have hca : cb ≠ a := fun e' => h.nc (by rw [e']; exact hin a ha)
  have hcb : cb ≠ b := fun e' => h.nc (by rw [e']; exact hin2 b hbb)
  have hsub : ∀ x ∈ X ++ Y, x ∈ X ++ e :: Y := fun x hx => by simp only [List.mem_append, List.mem_cons] at hx ⊢; rcases hx with hx | hx <;> simp [hx]
  have hnd2 : (ob :: blks (X ++ Y)).Nodup := by
    have := h.nd
    rw [hb] at this
    rw [blks_app]
    exact this.sublist ((List.Sublist.append (List.Sublist.refl _) (List.sublist_cons_self ..)).cons_cons _)
  refine ⟨a, b, h3, h4, ⟨_, ha4⟩, ⟨_, hb3⟩, h.thaw (hin a ha), h.thaw (hin2 b hbb), hcol a (hin a ha), hcol b (hin2 b hbb), ⟨fun j hj => ?_, ?_, ?_, (h.ct.set _ _).set _ _, (h.ot.set _ _).set _ _, by rw [blks_app]; exact hr, fun x hx => ((h.es x (hsub x hx)).set (.inr (by decide)) _).set (.inr (by decide)) _, hnd2, fun hx => h.nc ?_, (h.mp.keep ?_), h.cc.1, h.cc.2.1, h.cc.2.2.1, fun x hx => h.cc.2.2.2 x (hsub x hx)⟩, ((h.es e (by simp)).set (.inr (by decide)) _).set (.inr (by decide)) _, ?_⟩
  · rw [cs_ne _ (.inl hcb.symm), cs_ne _ (.inl hca.symm)]; exact h.c j hj
  · rw [cs_ne _ (.inl hcb.symm), cs_ne _ (.inl hca.symm)]; exact h.c7
  · rw [cs_ne _ (.inl hcb.symm), cs_ne _ (.inl hca.symm)]; exact h.c8
  · rcases List.mem_cons.mp hx with rfl | hx
    · exact List.mem_cons_self ..
    · obtain ⟨q, hq, hqe⟩ := List.mem_map.mp hx
      rw [← hqe]
      exact List.mem_cons_of_mem _ (List.mem_map_of_mem (hsub q hq))
  · have e1 : a ≠ mb := not_map h.mp ha4
    have e2 : b ≠ mb := not_map h.mp hb3
    rw [Below.heap_setCell _ _ _ mb (fun h => e2 (by simpa using h.symm)), Below.heap_setCell _ _ _ mb (fun h => e1 (by simpa using h.symm))]
  · have := h.nd
    rw [hb, List.nodup_cons, List.nodup_append, List.nodup_cons] at this
    obtain ⟨n1, n2, ⟨n3, n4⟩, n5⟩ := this
    intro hx
    rw [blks_app] at hx
    rcases List.mem_cons.mp hx with hx | hx
    · exact n1 (by rw [← hx]; simp)
    · rcases List.mem_append.mp hx with hx | hx
      · exact n5 _ hx _ (List.mem_cons_self ..) rfl
      · exact n3 hx
/-- a thing is put in ahead of all -/
theorem CB.first {w : World} {col : Nat → Nat} {κ cb ob mb : Nat} {c : Nat → Nat} {L M : List Ent} {e : Ent} (h : CB w col κ cb ob mb c L M) (he : EntAt w e) (hce : col e.blk = κ) (hn : e.blk ∉ ob :: blks L) (hnc : e.blk ≠ cb) :
    ∃ q, w.cell? ⟨ob, 4, none⟩ = some (bp q) ∧ (∃ u, w.cell? ⟨q, 3, none⟩ = some u) ∧ Thaw w q ∧ col q = κ ∧
      CB ((((w.setCell ⟨e.blk, 3, none⟩ (bp ob)).setCell ⟨e.blk, 4, none⟩ (bp q)).setCell ⟨ob, 4, none⟩ (bp e.blk)).setCell ⟨q, 3, none⟩ (bp e.blk)) col κ cb ob mb c (e :: L) M := by
  obtain ⟨q, B', hB, h1, h2⟩ := h.rg.head
  have hq : q ∈ ob :: blks L := by
    have : q ∈ blks L ++ [ob] := by rw [hB]; simp
    simp only [List.mem_append, List.mem_singleton] at this
    exact List.mem_cons.mpr this.symm
  have hqc : col q = κ := by
    rcases List.mem_cons.mp hq with rfl | hq
    · exact h.cc.2.1
    · obtain ⟨x, hx, rfl⟩ := List.mem_map.mp hq
      exact h.cc.2.2.2 x hx
  have hoc : cb ≠ ob := fun e' => h.nc (by simp [e'])
  have hqcb : cb ≠ q := fun e' => h.nc (by rw [e']; exact hq)
  have nd2 : (ob :: e.blk :: blks L).Nodup := by
    have := h.nd
    simp only [List.nodup_cons, List.mem_cons, not_or] at this hn ⊢
    exact ⟨⟨fun e' => hn.1 e'.symm, this.1⟩, hn.2, this.2⟩
  obtain ⟨u3, hu3⟩ := he.a
  obtain ⟨u4, hu4⟩ := he.n
  refine ⟨q, h1, ⟨_, h2⟩, h.thaw hq, hqc, ⟨fun j hj => ?_, ?_, ?_, (((h.ct.set _ _).set _ _).set _ _).set _ _, (((h.ot.set _ _).set _ _).set _ _).set _ _, Ring.first h.rg nd2 hB hu3 hu4, fun x hx => ?_, nd2, fun hx => ?_, h.mp.keep ?_, h.cc.1, h.cc.2.1, h.cc.2.2.1, fun x hx => ?_⟩⟩
  · rw [cs_ne _ (.inl hqcb.symm), cs_ne _ (.inl hoc.symm), cs_ne _ (.inl hnc), cs_ne _ (.inl hnc)]; exact h.c j hj
  · rw [cs_ne _ (.inl hqcb.symm), cs_ne _ (.inl hoc.symm), cs_ne _ (.inl hnc), cs_ne _ (.inl hnc)]; exact h.c7
  · rw [cs_ne _ (.inl hqcb.symm), cs_ne _ (.inl hoc.symm), cs_ne _ (.inl hnc), cs_ne _ (.inl hnc)]; exact h.c8
  · have hx' : EntAt w x := by
      rcases List.mem_cons.mp hx with rfl | hx
      · exact he
      · exact h.es x hx
    exact (((hx'.set (.inr (by decide)) _).set (.inr (by decide)) _).set (.inr (by decide)) _).set (.inr (by decide)) _
  · simp only [blks, List.map_cons, List.mem_cons] at hx
    rcases hx with hx | hx | hx
    · exact hoc hx
    · exact hnc hx.symm
    · exact h.nc (List.mem_cons_of_mem _ hx)
  · have e1 : e.blk ≠ mb := not_map h.mp he.k
    have e2 : ob ≠ mb := not_map h.mp h1
    have e3 : q ≠ mb := not_map h.mp h2
    rw [Below.heap_setCell _ _ _ mb (fun h => e3 (by simpa using h.symm)), Below.heap_setCell _ _ _ mb (fun h => e2 (by simpa using h.symm)), Below.heap_setCell _ _ _ mb (fun h => e1 (by simpa using h.symm)), Below.heap_setCell _ _ _ mb (fun h => e1 (by simpa using h.symm))]
  · rcases List.mem_cons.mp hx with rfl | hx
    · exact hce
    · exact h.cc.2.2.2 x hx
/-- the table has turned -/
theorem CB.table {w w' : World} {col : Nat → Nat} {κ cb ob mb : Nat} {c : Nat → Nat} {L M M' : List Ent} (h : CB w col κ cb ob mb c L M) (hm : MapOf w' mb M') (ht : w.mapTurned w' mb) : CB w' col κ cb ob mb c L M' := by
  have hg := ht.grown
  have hk : ∀ b i v, w.cell? ⟨b, i, none⟩ = some v → w'.heap[b]? = w.heap[b]? := fun b i v hb => hg.block b (block_lt_of_cell hb) (fun e => not_map h.mp hb (Option.some.inj e))
  obtain ⟨v, hv⟩ := h.ob_lt
  have k1 := hk _ _ _ h.c8
  have k2 := hk _ _ _ hv
  have k3 : ∀ e ∈ L, w'.heap[e.blk]? = w.heap[e.blk]? := fun e he => hk _ _ _ (h.es e he).k
  refine ⟨fun j hj => (cell_at k1 j).trans (h.c j hj), (cell_at k1 7).trans h.c7, (cell_at k1 8).trans h.c8, h.ct.at k1, h.ot.at k2, h.rg.frame (fun b hb i => ?_), fun e he => (h.es e he).at (k3 e he), h.nd, h.nc, hm, h.cc⟩
  rcases List.mem_cons.mp hb with rfl | hb
  · exact cell_at k2 i
  · obtain ⟨e, he, rfl⟩ := List.mem_map.mp hb
    exact cell_at (k3 e he) i
end Go.Proofs.Ythaccjjkbbkehaa
