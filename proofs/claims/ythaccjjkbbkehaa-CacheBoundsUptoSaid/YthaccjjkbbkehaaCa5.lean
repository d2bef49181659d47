/- The cache's calls: the table asked; what a thing counts; a thing used; a thing gone. -/
import Derived.Test.YthaccjjkbbkehaaCa4
namespace Go.Proofs.Ythaccjjkbbkehaa
open Go.RowKit Go.Scr Go.Maps Go.ChangeMaps Go.MapKept Go.WideMaps Go.WideElems
set_option linter.unusedVariables false

abbrev itemV (k v : ByteArray) (p : Nat) : Value := .agg #[.string k, .string v, .int .i64 (p : Int)]
set_option maxRecDepth 100000 in
theorem counts_any (k v : ByteArray) (p : Nat) (w : World) (hk : k.size ≤ 140737488355328) (hv : v.size ≤ 140737488355328) :
    Calls Try.prog 21 #[itemV k v p] w fun r w' => r = .returned (.int .i64 ((k.size + v.size : Nat) : Int)) ∧ Below w.heap.size w w' := by
  go_enter Try.func21, Try.ntmps21
  go_wp2
  go_ret
  refine ⟨?_, (Below.refl _ _).alloc (Nat.le_refl _) _⟩
  simp
set_option maxRecDepth 100000 in
theorem get_in {w : World} {cb mb : Nat} {L : List Ent} {s : ByteArray} {e : Ent} (h7 : w.cell? ⟨cb, 7, none⟩ = some (.map (some mb))) (hm : MapOf w mb L) (he : e ∈ L) (hes : e.key = s) (hs : s.size ≤ maxLen) :
    Calls Try.prog 19 #[.pointer (some ⟨cb, 7, none⟩), .string s] w fun r w' => r = .returned (.tuple #[bp e.blk, .bool true]) ∧ w' = w := by
  have HM := Lib.hid hm
  have HE := Lib.hid he
  have HS := Lib.hid hes
  clear hm he hes
  go_enter Try.func19, Try.ntmps19
  go_wp2_with (first | (at_lookup; refine wpList_look_in rfl _ _ rfl rfl rfl hs HM.out HE.out HS.out ?_))
  go_ret2
  exact ⟨rfl, rfl⟩
set_option maxRecDepth 100000 in
theorem get_out {w : World} {cb mb : Nat} {L : List Ent} {s : ByteArray} (h7 : w.cell? ⟨cb, 7, none⟩ = some (.map (some mb))) (hm : MapOf w mb L) (he : ∀ e ∈ L, e.key ≠ s) (hs : s.size ≤ maxLen) :
    Calls Try.prog 19 #[.pointer (some ⟨cb, 7, none⟩), .string s] w fun r w' => r = .returned (.tuple #[.pointer none, .bool false]) ∧ w' = w := by
  have HM := Lib.hid hm
  have HE := Lib.hid he
  clear hm he
  go_enter Try.func19, Try.ntmps19
  go_wp2_with (first | (at_lookup; refine wpList_look_out rfl _ _ rfl rfl rfl hs HM.out HE.out ?_))
  go_ret2
  exact ⟨rfl, rfl⟩
set_option maxRecDepth 100000 in
/-- it becomes the one used last -/
theorem used_any {w : World} {col : Nat → Nat} {κ cb ob mb : Nat} {c : Nat → Nat} {X Y M : List Ent} {e : Ent} (h : CB w col κ cb ob mb c (X ++ e :: Y) M) :
    Calls Try.prog 20 #[bp cb, bp e.blk] w fun r w' => r = .returned (.tuple #[]) ∧ CB w' col κ cb ob mb c (e :: (X ++ Y)) M ∧ Only col (fun k => k = κ) w w' := by
  have hce : col e.blk = κ := h.cc.2.2.2 e (by simp)
  have hnc : e.blk ≠ cb := fun e' => h.nc (by rw [← e']; simp [blks])
  have CT := Lib.hid (take_any h)
  have c8 := h.c8
  have HCE := Lib.hid hce
  have HNC := Lib.hid hnc
  clear h hce hnc
  go_enter Try.func20, Try.ntmps20
  go_wp2_with (first
    | (go_at_call 25; with_reducible refine (CT.out).mono ?_; rintro r w1 ⟨rfl, hC, hE, hn, hO⟩; have d8 := hC.c8; have CF := Lib.hid (first_any hC hE HCE.out hn HNC.out); have HO := Lib.hid hO; clear hC hE hn hO c8)
    | (go_at_call 26; with_reducible refine (CF.out).mono ?_; rintro r w2 ⟨rfl, hC, hO⟩; have HC2 := Lib.hid hC; have HO2 := Lib.hid hO; clear hC hO))
  go_end0
  exact ⟨rfl, HC2.out, HO.out.trans' HO2.out⟩
/-- 'delete(m, k)' as a step of a region that draws its order -/
theorem step_map_del {ops : Array Oper} {o : Oper} {a : Act} {w : World} {K : Act → World → Prop} {Q : Exit → Act → World → Prop} {E : Prop} {mb : Nat} {L L' : List Ent} (e : Ent)
    (hg : o.guard = none) (m x : Operand) (hop : o.op = Op.call { callee := Callee.builtin Builtin.delete, args := #[m, x], argTypes := #[51, 9] })
    (hm : a.eval m = .map (some mb)) (hx : a.eval x = .string e.key) (hs : e.key.size ≤ maxLen) (hown : MapOf w mb L) (he : e ∈ L) (hL : ∀ x, x ∈ L' ↔ x ∈ L ∧ x.key ≠ e.key) (hl : L'.length + 1 = L.length)
    (hK : ∀ w', MapOf w' mb L' → w.mapTurned w' mb → K (a.put o.dst (.tuple #[])) w') :
    if Region.wanted o (yielded ops a.tmps) = true then Oper.wp Try.prog o a w K Q else E := by
  have hw : Region.wanted o (yielded ops a.tmps) = true := by simp [Region.wanted, hg]
  rw [if_pos hw]
  obtain ⟨D, h1, h2, h3⟩ := hown
  obtain ⟨w', hrun, r1, r2⟩ := h1.drop law_str Try.underlying51 (keyOf_string_mk Try.underlying9 hs) o.type
  unfold Oper.wp
  simp [execOp, hop, resolve, invoke, builtin, hm, hx, hrun, Result.andThen]
  exact hK w' (MapOf.del e h1 h2 h3 he hL hl r1) r2
end Go.Proofs.Ythaccjjkbbkehaa
