/- The cache's table by keys; the cache as it lies in memory. -/
import Derived.Test.YthaccjjkbbkehaaCa0
import Derived.Test.YthaccjjkbbkehaaCa1
import Derived.Maps.OwnSet
import Derived.Test.YthaccjjkbbkehaaChecked
namespace Go.Proofs.Ythaccjjkbbkehaa
open Go.RowKit Go.Scr Go.Maps Go.ChangeMaps Go.MapKept Go.WideMaps Go.WideElems
set_option linter.unusedVariables false

def ptrElem : Value → Option (DataW Unit × List MemPlace)
  | .pointer (some ⟨b, 0, none⟩) => some (.lit (.int .i64 (b : Int)), [])
  | .pointer none => some (.nil, [])
  | _ => none
theorem ptrElem_bp (b : Nat) : ptrElem (bp b) = some (.lit (.int .i64 (b : Int)), []) := rfl
theorem ptrElem_inv {v : Value} {b : Nat} {ps : List MemPlace} (h : ptrElem v = some (.lit (.int .i64 (b : Int)), ps)) : v = bp b := by
  unfold ptrElem at h
  split at h
  · simp only [Option.some.injEq, Prod.mk.injEq, DataW.lit.injEq, Lit.int.injEq, true_and] at h
    have h1 := h.1
    have h2 := Int.ofNat.inj h1
    subst h2
    rfl
  · simp at h
  · simp at h
theorem ptrElem_nil {v : Value} {ps : List MemPlace} (h : ptrElem v = some (.nil, ps)) : v = .pointer none := by
  unfold ptrElem at h
  split at h
  · simp at h
  · rfl
  · simp at h
def kl (s : ByteArray) : Lit := .string s.data.toList
theorem kl_inj {s t : ByteArray} (h : kl s = kl t) : s = t := by
  unfold kl at h
  simp only [Lit.string.injEq] at h
  cases s; cases t
  simp only [ByteArray.mk.injEq]
  exact Array.ext' h
theorem kl_key (s : ByteArray) : WideAt.IsKeyLit (kl s) := trivial
theorem law_str : Keyed Try.prog 9 := string_keyed Try.underlying9
theorem own_size {w : World} {b n : Nat} {D : DataW Unit} (h : w.ownsMap Try.prog 9 ptrElem b n D) : w.ownsMap Try.prog 9 ptrElem b (size D) D := by
  obtain ⟨es, clock, hb, F, hs, rfl⟩ := h
  exact ⟨es, clock, hb, F, by simp [Maps.size, length_sorted], rfl⟩

def Has (L : List Ent) (s : ByteArray) : Prop := ∃ e ∈ L, e.key = s
def MapOf (w : World) (mb : Nat) (L : List Ent) : Prop :=
  ∃ D : DataW Unit, w.ownsMap Try.prog 9 ptrElem mb (size D) D ∧ size D = L.length ∧
    ∀ s : ByteArray, (∀ e ∈ L, e.key = s → ∀ z, D.atKey (kl s) z = .lit (.int .i64 (e.blk : Int))) ∧ ((∀ e ∈ L, e.key ≠ s) → ∀ z, D.atKey (kl s) z = z)
theorem MapOf.lt {w : World} {mb : Nat} {L : List Ent} (h : MapOf w mb L) : mb < w.heap.size := by obtain ⟨D, h, _⟩ := h; exact h.lt
theorem MapOf.keep {w w' : World} {mb : Nat} {L : List Ent} (h : MapOf w mb L) (hk : w'.heap[mb]? = w.heap[mb]?) : MapOf w' mb L := by
  obtain ⟨D, ⟨es, clock, hb, F, hs, hD⟩, h2⟩ := h
  exact ⟨D, ⟨es, clock, hk.trans hb, F, hs, hD⟩, h2⟩
theorem MapOf.made (w : World) : MapOf (w.alloc (.map #[] 0)) w.heap.size [] :=
  ⟨.map [], World.ownsMap_made w _ _ _, rfl, fun s => ⟨fun e he => (by cases he), fun _ z => rfl⟩⟩
/-- another order, or other values: the same keys at the same blocks -/
theorem MapOf.turn {w : World} {mb : Nat} {L L' : List Ent} (h : MapOf w mb L) (hl : L'.length = L.length) (hk : ∀ e ∈ L', ∃ e' ∈ L, e'.key = e.key ∧ e'.blk = e.blk) (hk2 : ∀ e ∈ L, ∃ e' ∈ L', e'.key = e.key) : MapOf w mb L' := by
  obtain ⟨D, h1, h2, h3⟩ := h
  refine ⟨D, h1, h2.trans hl.symm, fun s => ⟨fun e he hes z => ?_, fun hn z => ?_⟩⟩
  · obtain ⟨e', he', hkk, hbb⟩ := hk e he
    rw [(h3 s).1 e' he' (hkk.trans hes) z, hbb]
  · refine (h3 s).2 (fun e he hes => ?_) z
    obtain ⟨e', he', hkk⟩ := hk2 e he
    exact hn e' he' (hkk.trans hes)
theorem MapOf.put {w w' : World} {mb n : Nat} {L : List Ent} {D : DataW Unit} (e : Ent) (h1 : w.ownsMap Try.prog 9 ptrElem mb (size D) D) (h2 : size D = L.length)
    (h3 : ∀ s : ByteArray, (∀ e ∈ L, e.key = s → ∀ z, D.atKey (kl s) z = .lit (.int .i64 (e.blk : Int))) ∧ ((∀ e ∈ L, e.key ≠ s) → ∀ z, D.atKey (kl s) z = z))
    (hn : ∀ x ∈ L, x.key ≠ e.key) (hw : w'.ownsMap Try.prog 9 ptrElem mb n (D.put (kl e.key) (.lit (.int .i64 (e.blk : Int))))) : MapOf w' mb (e :: L) := by
  have ht := h1.tidy law_str
  refine ⟨_, own_size hw, ?_, fun s => ⟨fun x hx hxs z => ?_, fun hx z => ?_⟩⟩
  · rw [size_put ht, has_false_of_atKey ((h3 e.key).2 hn)]
    simp [h2]
  · rcases List.mem_cons.mp hx with rfl | hx
    · rw [← hxs, atKey_put_same ht.isMap (kl_key _)]
    · have hne : s ≠ e.key := by rw [← hxs]; exact hn x hx
      rw [atKey_put_other (fun h => hne (kl_inj h))]
      exact (h3 s).1 x hx hxs z
  · have hne : s ≠ e.key := fun h => hx e (List.mem_cons_self ..) h.symm
    rw [atKey_put_other (fun h => hne (kl_inj h))]
    exact (h3 s).2 (fun x hxL => hx x (List.mem_cons_of_mem _ hxL)) z
theorem MapOf.del {w w' : World} {mb n : Nat} {L L' : List Ent} {D : DataW Unit} (e : Ent) (h1 : w.ownsMap Try.prog 9 ptrElem mb (size D) D) (h2 : size D = L.length)
    (h3 : ∀ s : ByteArray, (∀ e ∈ L, e.key = s → ∀ z, D.atKey (kl s) z = .lit (.int .i64 (e.blk : Int))) ∧ ((∀ e ∈ L, e.key ≠ s) → ∀ z, D.atKey (kl s) z = z))
    (he : e ∈ L) (hL : ∀ x, x ∈ L' ↔ x ∈ L ∧ x.key ≠ e.key) (hl : L'.length + 1 = L.length) (hw : w'.ownsMap Try.prog 9 ptrElem mb n (D.del (kl e.key))) : MapOf w' mb L' := by
  have ht := h1.tidy law_str
  refine ⟨_, own_size hw, ?_, fun s => ⟨fun x hx hxs z => ?_, fun hx z => ?_⟩⟩
  · have h := size_del (k := kl e.key) ht
    rw [has_true_of_atKey ((h3 e.key).1 e he rfl)] at h
    simp at h
    omega
  · obtain ⟨hxL, hxe⟩ := (hL x).mp hx
    rw [atKey_del_other (fun h => hxe (by rw [hxs]; exact kl_inj h))]
    exact (h3 s).1 x hxL hxs z
  · by_cases hse : s = e.key
    · rw [hse, atKey_del_same]
    · rw [atKey_del_other (fun h => hse (kl_inj h))]
      exact (h3 s).2 (fun x hxL hxs => hx x ((hL x).mpr ⟨hxL, fun h => hse (by rw [← hxs, h])⟩) hxs) z

theorem zero_link (w : World) : (zeroValue 60).run Try.prog w = .ok (.pointer none) w := by kernel_rfl
/-- 'v, ok := m[k]': it is there -/
theorem wpList_look_in {w : World} {ops : Array Oper} {rest : List Oper} {o : Oper} {a : Act} {Q : Exit → Act → World → Prop} {mb : Nat} {L : List Ent} {s : ByteArray} {e : Ent} (hg : o.guard = none) (m x : Operand) (hop : o.op = Op.lookup 51 m x true)
    (hm : a.eval m = .map (some mb)) (hx : a.eval x = .string s) (hs : s.size ≤ maxLen) (hown : MapOf w mb L) (he : e ∈ L) (hes : e.key = s)
    (hK : wpList Try.prog ops Q rest (a.put o.dst (.tuple #[bp e.blk, .bool true])) w) : wpList Try.prog ops Q (o :: rest) a w := by
  obtain ⟨D, h1, h2, h3⟩ := hown
  have hat := (h3 s).1 e he hes
  refine wpList_lookup_own_ok w hg m x _ hop _ _ law_str Try.underlying51 ptrElem (zero_link w) .nil [] rfl mb _ D hm h1 _ (kl s) hx (keyOf_string_mk Try.underlying9 hs) fun v ps hv => ?_
  rw [hat] at hv
  rw [ptrElem_inv hv, has_true_of_atKey hat]
  exact hK
/-- .. it is not -/
theorem wpList_look_out {w : World} {ops : Array Oper} {rest : List Oper} {o : Oper} {a : Act} {Q : Exit → Act → World → Prop} {mb : Nat} {L : List Ent} {s : ByteArray} (hg : o.guard = none) (m x : Operand) (hop : o.op = Op.lookup 51 m x true)
    (hm : a.eval m = .map (some mb)) (hx : a.eval x = .string s) (hs : s.size ≤ maxLen) (hown : MapOf w mb L) (he : ∀ e ∈ L, e.key ≠ s)
    (hK : wpList Try.prog ops Q rest (a.put o.dst (.tuple #[.pointer none, .bool false])) w) : wpList Try.prog ops Q (o :: rest) a w := by
  obtain ⟨D, h1, h2, h3⟩ := hown
  have hat := (h3 s).2 he
  refine wpList_lookup_own_ok w hg m x _ hop _ _ law_str Try.underlying51 ptrElem (zero_link w) .nil [] rfl mb _ D hm h1 _ (kl s) hx (keyOf_string_mk Try.underlying9 hs) fun v ps hv => ?_
  rw [hat] at hv
  rw [ptrElem_nil hv, has_false_of_atKey hat]
  exact hK
/-- 'm[k] = l': a new key -/
theorem wpList_map_put {w : World} {ops : Array Oper} {rest : List Oper} {o : Oper} {a : Act} {Q : Exit → Act → World → Prop} {mb : Nat} {L : List Ent} (e : Ent) (hg : o.guard = none) (m x v : Operand) (hop : o.op = Op.mapUpdate 51 m x v)
    (hm : a.eval m = .map (some mb)) (hx : a.eval x = .string e.key) (hv : a.eval v = bp e.blk) (hs : e.key.size ≤ maxLen) (hown : MapOf w mb L) (hl : L.length < maxLen) (hn : ∀ x ∈ L, x.key ≠ e.key)
    (hK : ∀ w', MapOf w' mb (e :: L) → w.mapTurned w' mb → wpList Try.prog ops Q rest (a.put o.dst undef) w') : wpList Try.prog ops Q (o :: rest) a w := by
  obtain ⟨D, h1, h2, h3⟩ := hown
  exact wpList_mapUpdate_in w hg m x v _ hop _ _ law_str Try.underlying51 ptrElem mb _ D hm h1 (by omega) _ _ (kl e.key) hx hv (keyOf_string_mk Try.underlying9 hs) _ [] (ptrElem_bp e.blk) fun w' r1 r2 => hK w' (MapOf.put e h1 h2 h3 hn r1) r2
/-- 'delete(m, k)' -/
theorem wpList_map_del {w : World} {ops : Array Oper} {rest : List Oper} {o : Oper} {a : Act} {Q : Exit → Act → World → Prop} {mb : Nat} {L L' : List Ent} (e : Ent) (hg : o.guard = none) (m x : Operand) (hop : o.op = Op.call { callee := Callee.builtin Builtin.delete, args := #[m, x], argTypes := #[51, 9] })
    (hm : a.eval m = .map (some mb)) (hx : a.eval x = .string e.key) (hs : e.key.size ≤ maxLen) (hown : MapOf w mb L) (he : e ∈ L) (hL : ∀ x, x ∈ L' ↔ x ∈ L ∧ x.key ≠ e.key) (hl : L'.length + 1 = L.length)
    (hK : ∀ w', MapOf w' mb L' → w.mapTurned w' mb → wpList Try.prog ops Q rest (a.put o.dst (.tuple #[])) w') : wpList Try.prog ops Q (o :: rest) a w := by
  obtain ⟨D, h1, h2, h3⟩ := hown
  exact wpList_delete_own w hg m x _ _ hop _ law_str Try.underlying51 ptrElem mb _ D hm h1 _ (kl e.key) hx (keyOf_string_mk Try.underlying9 hs) fun w' r1 r2 => hK w' (MapOf.del e h1 h2 h3 he hL hl r1) r2
end Go.Proofs.Ythaccjjkbbkehaa
