/- CacheBounds, walked. -/
import Derived.Test.YthaccjjkbbkehaaCam
import Derived.Deep.CutBlock
import Derived.BigQuiet
namespace Go.Proofs.Ythaccjjkbbkehaa
open Go.RowKit Go.Scr Go.Maps
set_option linter.unusedVariables false

structure OpC where
  oth : Bool
  kind : Int
  n : Int
  key : ByteArray
  val : ByteArray
def OpC.row (q : OpC) : Array Value := #[.bool q.oth, .int .i64 q.kind, .int .i64 q.n, .string q.key, .string q.val]
def OpsC (w : World) (v : Value) (S : List OpC) : Prop :=
  ∃ (p : Option Addr) (c : Nat), v = .slice p S.length c ∧ S.length ≤ c ∧ S.length ≤ 281474976710656 ∧ ∀ (i : Nat) (q : OpC), S[i]? = some q →
    (-9223372036854775808 ≤ q.kind ∧ q.kind ≤ 9223372036854775807) ∧ (-9223372036854775808 ≤ q.n ∧ q.n ≤ 9223372036854775807) ∧ q.key.size ≤ 1048576 ∧ q.val.size ≤ 1048576 ∧
      ∃ a, p = some a ∧ w.cell? (a.add (i * 5)) = some (.bool q.oth) ∧ w.cell? (a.add (i * 5 + 1)) = some (.int .i64 q.kind) ∧ w.cell? (a.add (i * 5 + 2)) = some (.int .i64 q.n) ∧ w.cell? (a.add (i * 5 + 3)) = some (.string q.key) ∧ w.cell? (a.add (i * 5 + 4)) = some (.string q.val)
theorem add3 (a : Addr) (k j : Nat) : a.add (k + j) = (a.add k).add j := by
  unfold Addr.add
  split <;> split <;> split <;> simp_all <;> omega
theorem toList_neC {s t : ByteArray} (h : s ≠ t) : (s.toList == t.toList) = false := by
  rw [beq_eq_false_iff_ne, ByteArray.toList_eq, ByteArray.toList_eq]
  intro e
  apply h
  cases s
  cases t
  congr 1
  exact Array.toList_inj.mp e
theorem str_one1 (s : ByteArray) : ∀ u ∈ [Value.string s], u.oneCell' = true := fun u hu => by rw [List.mem_singleton.mp hu]; rfl
theorem int_one1 (z : Int) : ∀ u ∈ [Value.int .i64 z], u.oneCell' = true := fun u hu => by rw [List.mem_singleton.mp hu]; rfl
theorem info_intC : (Try.prog.info? 3).map (fun i => (i.zero, i.size, i.bytes)) = some (some (.int .i64 0), 1, 8) := by kernel_rfl
theorem lt_of_row {w : World} {b : Nat} {o : Obj} (h : w.heap[b]? = some o) : b < w.heap.size := (Array.getElem?_eq_some_iff.mp h).1
/-- is a key among the first ones? -/
def Fnd (K : List ByteArray) (k : ByteArray) (j : Nat) (r : Int) : Prop := (r = -1 ∧ ∀ i, i < j → K[i]? ≠ some k) ∨ ∃ i : Nat, i < j ∧ r = (i : Int) ∧ K[i]? = some k
theorem bn_start {w0 w : World} {cb n : Nat} {col : Nat → Nat} (h1 : ST w0 w col) (h2 : Cash w col 1 cb n 0 0 0 []) : BN w0 w cb n 0 0 [] [] [] (.slice none 0 0) (.slice none 0 0) (.slice none 0 0) := by
  have hh : ∀ T c, OwnC w col c T (.slice none 0 0) [] := fun T c => ⟨⟨(by simp), .inl ⟨rfl, rfl⟩⟩, (fun g hg => by cases hg)⟩
  refine ⟨col, [], 0, 0, 0, h1, h2, hh _ 2, hh _ 3, hh _ 4, ⟨List.nodup_nil, rfl, rfl, (fun e he => by cases he), (fun j k p hj => by simp at hj), Nat.zero_le _⟩, Nat.le_refl _, Nat.le_refl _, ⟨Nat.le_refl _, Nat.le_refl _, Nat.zero_le _⟩, (fun p hp => by cases hp), (fun k hk => by cases hk)⟩
set_option maxRecDepth 100000 in
set_option maxHeartbeats 4000000 in
theorem cbounds_any (bud : Int) (v : Value) (S : List OpC) (w : World) (hbud : -9223372036854775808 ≤ bud ∧ bud ≤ 9223372036854775807) (hv : OpsC w v S) :
    Calls Try.prog 4 #[.int .i64 bud, v] w fun e w' => e = .returned (.bool true) ∧ Below w.heap.size w w' := by
  obtain ⟨p, c, rfl, hs1, hs2, hs3⟩ := hv
  obtain ⟨sn, hsn⟩ : ∃ x, x = S.length := ⟨_, rfl⟩
  have HSN := Lib.hid hsn
  have HS3 := Lib.hid hs3
  rw [← hsn] at hs1 hs2 ⊢
  clear hsn hs3
  have CK := Lib.hid (cknown_any w)
  obtain ⟨n, hn⟩ : ∃ x, x = pickC bud 100 := ⟨_, rfl⟩
  have hn1 : n < 100 := by rw [hn]; exact pickC_lt _ (by decide)
  have hpa : ∀ w', Calls Try.prog 7 #[.int .i64 bud, .int .i64 100] w' fun e w2 => e = .returned (.int .i64 (n : Int)) ∧ w2 = w' := fun w' => by rw [hn]; exact pickC_any bud 100 w' (by decide) (by decide) hbud
  have HPA := Lib.hid hpa
  clear hn hpa hbud
  go_enter Try.func4, Try.ntmps4
  go_upto_region 3 with (first
    | (go_at_call 6; with_reducible refine (CK.out).mono ?_; rintro r w1 ⟨rfl, hb⟩; have HB1 := Lib.hid hb; clear hb CK)
    | (go_at_call 7; with_reducible refine (HPA.out _).mono ?_; rintro r wx ⟨rfl, hwx⟩; rw [hwx]; clear hwx wx))
  have HS1 := Lib.hid ((ST.start w).below HB1.out)
  have CN : Hid (Calls Try.prog 8 #[.int .i64 (n : Int)] w1 fun r w' => ∃ cb, r = .returned (.tuple #[bp cb, .int .i64 0]) ∧ NewPost w1 w' (fun _ => 0) 1 cb n) := Lib.hid (cnew_any n w1 (fun _ => 0) 1 (by decide) (fun g h => absurd rfl h) (by omega))
  go_upto_region 4 with (first
    | (go_at_call 8; with_reducible refine (CN.out).mono ?_; rintro r w2 ⟨cb, rfl, hp⟩; have HP := Lib.hid hp; clear hp CN))
  have HJ : Hid (BN w w2 cb n 0 0 [] [] [] (.slice none 0 0) (.slice none 0 0) (.slice none 0 0)) := Lib.hid (by
    obtain ⟨_, col1, ht1, _, hc1⟩ := HP.out
    have hh : ∀ T, OwnC w2 col1 T 9 (.slice none 0 0) [] := fun T => ⟨⟨(by simp), .inl ⟨rfl, rfl⟩⟩, (fun g hg => by cases hg)⟩
    exact bn_start (HS1.out.turn (by decide) ht1) hc1)
  clear HP HB1 HS1
  go_wp2_with fail
  go_loopw [9, 10, 11, 12] (fun sk sv sp q wr => ∃ (i N : Nat) (pk pv pp : Option Addr) (ck cv cp : Nat), i ≤ sn ∧ i ≤ 100 ∧ N ≤ i ∧ q = .int .i64 i ∧ sk = .slice pk N ck ∧ sv = .slice pv N cv ∧ sp = .slice pp N cp ∧ Hid (∃ K V P, K.length = N ∧ BN w wr cb n (2 * i) (200 * i) K V P (.slice pk N ck) (.slice pv N cv) (.slice pp N cp))) (fun _ _ _ q _ => 100 - (intOf q).toNat)
  case atStart => exact ⟨0, 0, none, none, none, 0, 0, 0, by omega, by omega, Nat.le_refl _, rfl, rfl, rfl, rfl, Lib.hid ⟨[], [], [], rfl, HJ.out⟩⟩
  case round =>
    clear HJ
    obtain ⟨i, N, pk, pv, pp, ck, cv, cp, hi, hi2, hNi, rfl, rfl, rfl, rfl, hinv⟩ := hrel
    have HI := Lib.hid hinv.out
    clear hinv
    by_cases hlt : i < sn ∧ i < 100
    · obtain ⟨hl1, hl2⟩ := hlt
      have hli : (i : Int) < (sn : Int) := by omega
      have hli2 : (i : Int) < 100 := by omega
      have hi0 : (0 : Int) ≤ (i : Int) := by omega
      obtain ⟨q, hq⟩ : ∃ q, S[i]? = some q := ⟨S[i]'(by rw [← HSN.out]; exact hl1), List.getElem?_eq_getElem _⟩
      obtain ⟨hk1, hn2, hks, hvs, aa, rfl, hc0, hc1, hc2, hc3, hc4⟩ := HS3.out i q hq
      obtain ⟨oth, kind, nn, key, val⟩ := q
      obtain ⟨K, V, P, hKN, col0, L0, fo0, mi0, ou0, hB0⟩ := HI.out
      rw [add3] at hc1 hc2 hc3 hc4
      have hbl : ∀ {a u}, w.cell? a = some u → wr.cell? a = some u := fun h => (hB0.st.bl.cell (block_lt_of_cell h)).trans h
      have d0 := hbl hc0
      have d1 : wr.cell? ⟨(aa.add (i * 5)).block, (aa.add (i * 5)).off + 1, none⟩ = some (.int .i64 kind) := hbl hc1
      have d2 : wr.cell? ⟨(aa.add (i * 5)).block, (aa.add (i * 5)).off + 2, none⟩ = some (.int .i64 nn) := hbl hc2
      have d3 : wr.cell? ⟨(aa.add (i * 5)).block, (aa.add (i * 5)).off + 3, none⟩ = some (.string key) := hbl hc3
      have d4 : wr.cell? ⟨(aa.add (i * 5)).block, (aa.add (i * 5)).off + 4, none⟩ = some (.string val) := hbl hc4
      simp only at d0 hk1 hks hvs
      have HB0 : Hid (BN w wr cb n (2 * i) (200 * i) K V P (.slice pk N ck) (.slice pv N cv) (.slice pp N cp)) := Lib.hid ⟨col0, L0, fo0, mi0, ou0, hB0⟩
      have HKN := Lib.hid hKN
      have HKS := Lib.hid hks
      have HVS := Lib.hid hvs
      clear hq hc0 hc1 hc2 hc3 hc4 hB0 hKN hbl HI hn2 hks hvs
      go_upto_region 13 with fail
      obtain ⟨R, hR⟩ : ∃ x, x = (#[.bool oth, .int .i64 kind, .int .i64 nn, .string key, .string val] : Array Value) := ⟨_, rfl⟩
      have HR := Lib.hid hR
      obtain ⟨pb, hpb⟩ : ∃ x, x = wr.heap.size := ⟨_, rfl⟩
      obtain ⟨w3, hw3⟩ : ∃ x, x = wr.alloc (.cells R 41) := ⟨_, rfl⟩
      have HB3 : Hid (BO w w3 cb n (2 * i) (200 * i) K V P (.slice pk N ck) (.slice pv N cv) (.slice pp N cp) pb R) := Lib.hid (by rw [hw3, hpb]; exact HB0.out.box R)
      rw [← hR, ← hw3, ← hpb]
      clear hR hpb hw3 d0 d1 d2 d3 d4 HB0
      have HLT : Hid (i < sn ∧ i < 100) := Lib.hid ⟨hl1, hl2⟩
      clear hl1 hl2 hli hli2 hi0 hi hi2
      have HNI := Lib.hid hNi
      have hN0 : N ≤ 100 := by have := HLT.out; omega
      clear hNi
      go_wp2_with fail
      go_loopw [14, 15] (fun a_ jv wx => ∃ (j : Nat) (r : Int), j ≤ N ∧ jv = .int .i64 j ∧ a_ = .int .i64 r ∧ Hid (Fnd K key j r ∧ BO w wx cb n (2 * i) (200 * i) K V P (.slice pk N ck) (.slice pv N cv) (.slice pp N cp) pb R)) (fun _ jv _ => N - (intOf jv).toNat)
      case atStart => exact ⟨0, -1, by omega, rfl, rfl, Lib.hid ⟨.inl ⟨rfl, fun i h => by omega⟩, HB3.out⟩⟩
      case round =>
        clear HB3
        obtain ⟨j, r, hj, rfl, rfl, hinv⟩ := hrel
        obtain ⟨hf, hb⟩ := hinv.out
        have HF := Lib.hid hf
        have HB := Lib.hid hb
        clear hinv hf hb
        by_cases hlt : j < N
        · have hji : (j : Int) < (N : Int) := by omega
          have hj0 : (0 : Int) ≤ (j : Int) := by omega
          have hlen := HB.out.bn.lens
          obtain ⟨s, hs⟩ : ∃ s, K[j]? = some s := ⟨K[j]'(by omega), List.getElem?_eq_getElem _⟩
          obtain ⟨g, rfl, hc⟩ := HB.out.bn.cellK hs
          have hck : N ≤ ck := hlen.2.2.2.1
          have hd : wr.cell? ⟨pb, 3, none⟩ = some (.string key) := (HB.out.cellR 3).trans (by rw [HR.out]; rfl)
          have HSK := Lib.hid hs
          clear hlen hs
          by_cases he : s = key
          · rw [he] at hc HSK
            clear he
            go_upto_region 17 with fail
            go_quiet (fail)
            have HB5 : Hid (BO w (wr.drewN nq) cb n (2 * i) (200 * i) K V P (.slice (some ⟨g, 0, none⟩) N ck) (.slice pv N cv) (.slice pp N cp) pb R) := Lib.hid (HB.out.below (below_drewN (Below.refl _ _) nq))
            clear hc hd HB
            generalize wr.drewN nq = w9 at HB5 ⊢
            go_wp2_with fail
            exact ⟨⟨j + 1, j, by omega, rfl, rfl, Lib.hid ⟨.inr ⟨j, by omega, rfl, HSK.out⟩, HB5.out⟩⟩, (by show N - ((j : Int) + 1).toNat < N - (j : Int).toNat; omega)⟩
          · have hne : (s.toList == key.toList) = false := by
              exact toList_neC he
            have HE := Lib.hid he
            clear he
            go_upto_region 17 with fail
            go_quiet (fail)
            have HB5 : Hid (BO w (wr.drewN nq) cb n (2 * i) (200 * i) K V P (.slice (some ⟨g, 0, none⟩) N ck) (.slice pv N cv) (.slice pp N cp) pb R) := Lib.hid (HB.out.below (below_drewN (Below.refl _ _) nq))
            clear hc hd HB
            generalize wr.drewN nq = w9 at HB5 ⊢
            go_wp2_with fail
            refine ⟨⟨j + 1, r, by omega, rfl, rfl, Lib.hid ⟨?_, HB5.out⟩⟩, (by show N - ((j : Int) + 1).toNat < N - (j : Int).toNat; omega)⟩
            rcases HF.out with ⟨h1, h2⟩ | ⟨x, h1, h2, h3⟩
            · refine .inl ⟨h1, fun x hx => ?_⟩
              by_cases hxj : x < j
              · exact h2 x hxj
              · have hxe : x = j := by omega
                rw [hxe, HSK.out]
                exact fun e => HE.out (Option.some.inj e)
            · exact .inr ⟨x, by omega, h2, h3⟩
        · have hjn : j = N := by omega
          rw [hjn] at HF
          have hjk : ¬ ((j : Int) < (N : Int)) := by omega
          clear hlt hjn
          go_upto_if 73 with fail
          go_cut [9, 10, 11, 14] from 73 to 86 (fun sk sv sp a_ wx => ∃ (M a : Nat) (qk qv qp : Option Addr) (dk dv dp : Nat), a < M ∧ M ≤ 100 ∧ sk = .slice qk M dk ∧ sv = .slice qv M dv ∧ sp = .slice qp M dp ∧ a_ = .int .i64 a ∧ Hid (M ≤ i + 1 ∧ ∃ K V P, BO w wx cb n (2 * i + 1) (200 * i) K V P (.slice qk M dk) (.slice qv M dv) (.slice qp M dp) pb R ∧ K[a]? = some key))
          case first =>
            rcases HF.out with ⟨h1, h2⟩ | ⟨x, h1, h2, h3⟩
            · have H2 := Lib.hid h2
              have hr : r < 0 := by omega
              clear h1 h2 HF
              obtain ⟨col, L, fo, mi, ou, hBI, hOp⟩ := HB.out
              have hd : wr.cell? ⟨pb, 3, none⟩ = some (.string key) := (HB.out.cellR 3).trans (by rw [HR.out]; rfl)
              have hlen := HB.out.bn.lens
              have HLEN := Lib.hid hlen
              have hBL : BL w wr cb n L fo mi ou (.slice pk N ck) (.slice pv N cv) (.slice pp N cp) (K.map Value.string) (V.map Value.string) (P.map fun p => Value.int .i64 ((p : Nat) : Int)) pb R col := ⟨hBI.st, hBI.ca, hBI.ok, hBI.ov, hBI.op, hOp⟩
              have HBI := Lib.hid hBI
              have HBL := Lib.hid hBL
              have HH1 : Hid (Held wr 9 1 (.slice pk N ck) N (K.map Value.string)) := Lib.hid (by have := hBL.ok.h; rwa [List.length_map, hlen.1] at this)
              have ho1 := str_one1 key
              have HO1 := Lib.hid ho1
              have HO2 := Lib.hid (str_one1 ⟨#[]⟩)
              have HO3 := Lib.hid (int_one1 0)
              have hb1 : (N + 1) * 16 ≤ 140737488355328 := by omega
              have hb2 : N + 1 ≤ 140737488355328 := by omega
              have hb3 : (N + 1) * 8 ≤ 140737488355328 := by omega
              clear hBI hOp hlen hBL ho1
              go_upto_region 22 with (first
                | (at_builtin; refine wpList_grew (v := .slice pk N ck) (l := K.map Value.string) rfl _ _ rfl Try.underlying33 (.string ⟨#[]⟩) 1 info_strC rfl (by decide) [Value.string key] 1 (by simp [Act.eval]) (by simp [Act.eval]) HH1.out rfl rfl (by decide) HO1.out hb1 hb2 ?_; intro v4 w4 hg4; obtain ⟨p4, c4, rfl, _⟩ := hg4.held.cells; have HG4 := Lib.hid hg4; clear hg4))
              obtain ⟨col4, hBL4⟩ := HBL.out.k (by rw [List.length_map]; exact HLEN.out.1.symm) HG4.out
              have HBL4 := Lib.hid hBL4
              have HH2 : Hid (Held w4 9 1 (.slice pv N cv) N (V.map Value.string)) := Lib.hid (by have := hBL4.ov.h; rwa [List.length_map, HLEN.out.2.1] at this)
              clear hBL4 hd HBL
              go_upto_region 23 with (first
                | (at_builtin; refine wpList_grew (v := .slice pv N cv) (l := V.map Value.string) rfl _ _ rfl Try.underlying33 (.string ⟨#[]⟩) 1 info_strC rfl (by decide) [Value.string ⟨#[]⟩] 1 (by simp [Act.eval]) (by simp [Act.eval]) HH2.out rfl rfl (by decide) HO2.out hb1 hb2 ?_; intro v5 w5 hg5; obtain ⟨p5, c5, rfl, _⟩ := hg5.held.cells; have HG5 := Lib.hid hg5; clear hg5))
              obtain ⟨col5, hBL5⟩ := HBL4.out.v (by rw [List.length_map]; exact HLEN.out.2.1.symm) HG5.out
              have HBL5 := Lib.hid hBL5
              have HH3 : Hid (Held w5 3 1 (.slice pp N cp) N (P.map fun p => Value.int .i64 ((p : Nat) : Int))) := Lib.hid (by have := hBL5.op.h; rwa [List.length_map, HLEN.out.2.2.1] at this)
              clear hBL5 HBL4
              go_wp2_with (first
                | (at_builtin; refine wpList_grew (v := .slice pp N cp) (l := P.map fun p => Value.int .i64 ((p : Nat) : Int)) rfl _ _ rfl Try.underlying22 (.int .i64 0) 1 info_intC rfl (by decide) [Value.int .i64 0] 1 (by simp [Act.eval]) (by simp [Act.eval]) HH3.out rfl rfl (by decide) HO3.out hb3 hb2 ?_; intro v6 w6 hg6; obtain ⟨p6, c6, rfl, _⟩ := hg6.held.cells; have HG6 := Lib.hid hg6; clear hg6))
              obtain ⟨col6, hBL6⟩ := HBL5.out.p (by rw [List.length_map]; exact HLEN.out.2.2.1.symm) HG6.out
              have HBL6 := Lib.hid hBL6
              clear hBL6 HBL5
              have HRES : Hid (N + 1 ≤ i + 1 ∧ ∃ K V P, BO w w6 cb n (2 * i + 1) (200 * i) K V P (.slice p4 (N + 1) c4) (.slice p5 (N + 1) c5) (.slice p6 (N + 1) c6) pb R ∧ K[N]? = some key) := Lib.hid (by
                have hb := HBI.out
                have hl := HLEN.out
                have hlt := HLT.out
                have hni := HNI.out
                refine ⟨by omega, K ++ [key], V ++ [⟨#[]⟩], P ++ [0], ⟨col6, L, fo, mi, ou, ⟨HBL6.out.st, HBL6.out.ca, by rw [List.map_append]; exact HBL6.out.ok, by rw [List.map_append]; exact HBL6.out.ov, by rw [List.map_append]; exact HBL6.out.op, hb.iv.snoc (fun x hx => ?_) _, by rw [List.length_append]; have := hb.ki; simp; omega, by have := hb.li; omega, ⟨hb.fm.1, hb.fm.2.1, by have := hb.fm.2.2; omega⟩, fun p hp => ?_, fun x hx => ?_⟩, HBL6.out.re⟩, by rw [List.getElem?_append_right (by omega), hl.1]; simp⟩
                · have hxn : x < N := by rw [← hl.1]; exact (List.getElem?_eq_some_iff.mp hx).1
                  exact H2.out x hxn hx
                · rcases List.mem_append.mp hp with hp | hp
                  · have := hb.pb p hp; omega
                  · simp only [List.mem_singleton] at hp; omega
                · rcases List.mem_append.mp hx with hx | hx
                  · exact hb.kb x hx
                  · rw [List.mem_singleton.mp hx]; exact HKS.out)
              go_meet
              exact ⟨N + 1, N, p4, p5, p6, c4, c5, c6, by omega, by have := HLT.out; have := HNI.out; omega, rfl, rfl, rfl, rfl, Lib.hid HRES.out⟩
            · have hr : ¬ r < 0 := by omega
              have HX : Hid (x < N ∧ r = (x : Int) ∧ K[x]? = some key) := Lib.hid ⟨h1, h2, h3⟩
              clear h1 h2 h3 HF
              go_wp2_with fail
              go_meet
              exact ⟨N, x, pk, pv, pp, ck, cv, cp, HX.out.1, hN0, rfl, rfl, rfl, by rw [HX.out.2.1], Lib.hid ⟨by have := HNI.out; omega, K, V, P, HB.out.more (by omega) (Nat.le_refl _), HX.out.2.2⟩⟩
          case rest =>
            clear HF HB HSN HNI hN0 hj
            obtain ⟨M, a, qk, qv, qp, dk, dv, dp, haM, hM, rfl, rfl, rfl, rfl, h5⟩ := hcut
            obtain ⟨hMi, K', V', P', hbo, hka⟩ := h5.out
            have HMI : Hid (M ≤ i + 1) := Lib.hid hMi
            have HB := Lib.hid hbo
            have HKA := Lib.hid hka
            obtain ⟨t0, tb, tp, t3, t4, t5, hbn, hpb, htal⟩ := bo_tally hbo
            have HT := Lib.hid htal
            obtain ⟨w4, hw4⟩ : ∃ x, x = wc := ⟨_, rfl⟩
            rw [← hw4] at HB HT ⊢
            clear h5 hMi hbo hka htal hw4 hbn hpb
            go_upto_region 25 with (first
              | (go_at_call 12; with_reducible refine (HT.out _ (Below.refl _ _)).mono ?_; rintro r w5 ⟨rfl, hb⟩; have HB5 := Lib.hid hb; clear hb))
            obtain ⟨wb, hwb⟩ : ∃ x, x = w5.heap.size := ⟨_, rfl⟩
            obtain ⟨w6, hw6⟩ : ∃ x, x = w5.alloc (.cells #[.int .i64 (t0 : Int), .int .i64 (tb : Int), .int .i64 (tp : Int), .int .i64 (t3 : Int), .int .i64 (t4 : Int), .int .i64 (t5 : Int)] 36) := ⟨_, rfl⟩
            have hb6 : Below w4.heap.size w4 w6 := by rw [hw6]; exact HB5.out.alloc HB5.out.size _
            have HROW : Hid (w6.heap[wb]? = some (.cells #[.int .i64 (t0 : Int), .int .i64 (tb : Int), .int .i64 (tp : Int), .int .i64 (t3 : Int), .int .i64 (t4 : Int), .int .i64 (t5 : Int)] 36 (0, 0)) ∧ Below w4.heap.size w4 w6) := Lib.hid ⟨by rw [hw6, hwb]; exact heap_alloc_new w5 _, hb6⟩
            have HB6 := Lib.hid (HB.out.below hb6)
            rw [← hw6, ← hwb]
            have hd1 : w6.cell? ⟨pb, 1, none⟩ = some (.int .i64 kind) := (HB6.out.cellR 1).trans (by rw [HR.out]; rfl)
            clear hb6 hw6 hwb HB5 HB
            go_upto_block 4 with fail
            go_cut [17, 18, 19] from 91 to 149 (fun _ _ _ wx => Hid (∃ V P, BO w wx cb n (2 * i + 2) (200 * i) K' V P (.slice qk M dk) (.slice qv M dv) (.slice qp M dp) pb R))
            case first =>
              clear hd1
              have hlen := HB6.out.bn.lens
              have hdv := hlen.2.2.2.2.1
              have hdp := hlen.2.2.2.2.2
              have HLEN := Lib.hid hlen
              have hi200 : 2 * i + 1 ≤ 200 := by have := HLT.out; omega
              obtain ⟨pa, hpa⟩ : ∃ p, P'[a]? = some p := ⟨P'[a]'(by omega), List.getElem?_eq_getElem _⟩
              have HPA := Lib.hid hpa
              have hd3 : w6.cell? ⟨pb, 3, none⟩ = some (.string key) := (HB6.out.cellR 3).trans (by rw [HR.out]; rfl)
              have hd4 : w6.cell? ⟨pb, 4, none⟩ = some (.string val) := (HB6.out.cellR 4).trans (by rw [HR.out]; rfl)
              have ha0 : (0 : Int) ≤ (a : Int) := by omega
              have haMi : (a : Int) < (M : Int) := by omega
              have hpab : pa ≤ 200 := by
                obtain ⟨_, _, _, _, _, hb, _⟩ := HB6.out
                have := hb.pb pa (List.mem_of_getElem? hpa)
                omega
              clear hlen hpa
              by_cases hk2 : kind = 2
              · subst hk2
                have HVS2 := Lib.hid HVS.out
                rcases bo_put HB6.out HKA.out HVS.out hi200 (by omega) with hcp | hcp
                · have CP := Lib.hid hcp
                  clear hcp
                  go_upto_region 28 with (first
                    | (go_at_call 10; with_reducible refine (CP.out).mono ?_; rintro r w7 ⟨rfl, hb⟩; have HB7 := Lib.hid hb; clear hb CP))
                  obtain ⟨g, u, rfl, hc, hf, ho, hr⟩ := HB7.out.cellV (j := a) (by rw [HLEN.out.2.1]; exact haM)
                  have hd4 : w7.cell? ⟨pb, 4, none⟩ = some (.string val) := (hr 4).trans (by rw [HR.out]; rfl)
                  have HO := Lib.hid ho
                  clear ho hr hd3
                  go_wp2_with fail
                  go_meet
                  exact Lib.hid ⟨_, _, (HB7.out.vals HO.out)⟩
                · have CP := Lib.hid hcp
                  clear hcp
                  go_upto_region 30 with (first
                    | (go_at_call 10; with_reducible refine (CP.out).mono ?_; rintro r w7 ⟨rfl, hb⟩; have HB7 := Lib.hid hb; clear hb CP))
                  have HR7 : Hid (∀ w', Below w7.drew.heap.size w7.drew w' → w'.cell? ⟨wb, 0, none⟩ = some (.int .i64 (t0 : Int)) ∧ w'.cell? ⟨wb, 1, none⟩ = some (.int .i64 (tb : Int)) ∧ w'.cell? ⟨wb, 2, none⟩ = some (.int .i64 (tp : Int)) ∧ w'.cell? ⟨wb, 3, none⟩ = some (.int .i64 (t3 : Int)) ∧ w'.cell? ⟨wb, 4, none⟩ = some (.int .i64 (t4 : Int)) ∧ w'.cell? ⟨wb, 5, none⟩ = some (.int .i64 (t5 : Int)) ∧ Below w6.heap.size w6 w') := Lib.hid (fun w' hb => by
                    have hb6 : Below w6.heap.size w6 w' := below_on HB7.out.drew hb HB7.out.size
                    have hrow := hb6.block wb (lt_of_row HROW.out.1)
                    rw [HROW.out.1] at hrow
                    exact ⟨cell_of_row _ _ _ _ _ _ hrow, cell_of_row _ _ _ _ _ _ hrow, cell_of_row _ _ _ _ _ _ hrow, cell_of_row _ _ _ _ _ _ hrow, cell_of_row _ _ _ _ _ _ hrow, cell_of_row _ _ _ _ _ _ hrow, hb6⟩)
                  have HS := Lib.hid (HR7.out _ (Below.refl _ _))
                  have htn := tally_neq (t0 : Int) (tb : Int) (tp : Int) (t3 : Int) (t4 : Int) (t5 : Int)
                  go_region_held3 (fun w' => w'.cell? ⟨wb, 0, none⟩ = some (.int .i64 (t0 : Int)) ∧ w'.cell? ⟨wb, 1, none⟩ = some (.int .i64 (tb : Int)) ∧ w'.cell? ⟨wb, 2, none⟩ = some (.int .i64 (tp : Int)) ∧ w'.cell? ⟨wb, 3, none⟩ = some (.int .i64 (t3 : Int)) ∧ w'.cell? ⟨wb, 4, none⟩ = some (.int .i64 (t4 : Int)) ∧ w'.cell? ⟨wb, 5, none⟩ = some (.int .i64 (t5 : Int)) ∧ Below w6.heap.size w6 w') (first | exact HS2.out | exact HS.out) (first
                    | (go_at_call 12; with_reducible refine (HT.out _ (below_on HROW.out.2 HS.out.2.2.2.2.2.2 HROW.out.2.size)).mono ?_; rintro r w8 ⟨rfl, hb⟩; have HS2 := Lib.hid (HR7.out w8 hb); clear hb))
                  have HF := Lib.hid (HB6.out.below HS2.out.2.2.2.2.2.2)
                  go_wp2_with fail
                  go_meet
                  exact Lib.hid ⟨_, _, HF.out.more (by omega) (Nat.le_refl _)⟩
              · have hk2b : (kind == 2) = false := by simpa using hk2
                by_cases hk4 : kind = 4
                · subst hk4
                  clear hk2
                  rcases bo_pin HB6.out HKA.out HPA.out hi200 (by omega) with hcp | hcp
                  · have CP := Lib.hid hcp
                    clear hcp
                    go_upto_region 34 with (first
                      | (go_at_call 13; with_reducible refine (CP.out).mono ?_; rintro r w7 ⟨rfl, hb⟩; have HB7 := Lib.hid hb; clear hb CP))
                    obtain ⟨g, rfl, hc, hf, ho⟩ := HB7.out.cellP HPA.out
                    have HO := Lib.hid ho
                    have hwp : IntKind.i64.wrap ((pa : Int) + 1) = (pa : Int) + 1 := IntWalk.i64_in _ (by omega)
                    clear ho hd3 hd4
                    go_wp2_with fail
                    go_meet
                    exact Lib.hid ⟨_, _, (HB7.out.pinned HO.out _ rfl)⟩
                  · have CP := Lib.hid hcp
                    clear hcp
                    go_wp2_with (first
                      | (go_at_call 13; with_reducible refine (CP.out).mono ?_; rintro r w7 ⟨rfl, hw7⟩; rw [hw7]; clear hw7 w7))
                    go_meet
                    exact Lib.hid ⟨_, _, HB6.out.more (by omega) (Nat.le_refl _)⟩
                · have hk4b : (kind == 4) = false := by simpa using hk4
                  by_cases hk5 : kind = 5
                  · subst hk5
                    clear hk2 hk4
                    rcases bo_unpin HB6.out HKA.out HPA.out hi200 (by omega) with ⟨hp0, hcp⟩ | ⟨hp0, code, hcode, hcp⟩
                    · have CP := Lib.hid hcp
                      have hp0i : (0 : Int) < (pa : Int) := by omega
                      clear hcp
                      go_upto_region 38 with (first
                        | (go_at_call 14; with_reducible refine (CP.out).mono ?_; rintro r w7 ⟨rfl, hb⟩; have HB7 := Lib.hid hb; clear hb CP))
                      obtain ⟨g, rfl, hc, hf, ho⟩ := HB7.out.cellP HPA.out
                      have HO := Lib.hid ho
                      have hwp : IntKind.i64.wrap ((pa : Int) - 1) = (pa : Int) - 1 := IntWalk.i64_in _ (by omega)
                      have HPP : Hid (Value.int .i64 ((pa : Int) - 1) = .int .i64 ((pa - 1 : Nat) : Int)) := Lib.hid (by congr 1; omega)
                      clear ho hd3 hd4
                      go_wp2_with fail
                      go_meet
                      exact Lib.hid ⟨_, _, (HB7.out.pinned HO.out _ HPP.out)⟩
                    · have CP := Lib.hid hcp
                      have hcb : (code == 0) = false := by simpa using hcode
                      subst hp0
                      obtain ⟨g, rfl, hc⟩ := HB6.out.bn.cellP HPA.out
                      have hc' : w6.cell? ⟨g, a, none⟩ = some (.int .i64 0) := hc
                      clear hcp hcode hc
                      go_wp2_with (first
                        | (go_at_call 14; with_reducible refine (CP.out).mono ?_; rintro r w7 ⟨rfl, hw7⟩; rw [hw7]; clear hw7 w7))
                      go_meet
                      exact Lib.hid ⟨_, _, HB6.out.more (by omega) (Nat.le_refl _)⟩
                  · have hk5b : (kind == 5) = false := by simpa using hk5
                    clear hk2 hk4 hk5
                    go_wp2_with fail
                    go_meet
                    exact Lib.hid ⟨_, _, HB6.out.more (by omega) (Nat.le_refl _)⟩
            case rest =>
              clear HB6 HROW HT hd1
              obtain ⟨V2, P2, hbo⟩ := hcut.out
              have HB := Lib.hid hbo
              obtain ⟨t0, tb, tp, t3, t4, t5, hbn, hpb, htal⟩ := bo_tally hbo
              have HT := Lib.hid htal
              have HLEN := Lib.hid hbo.bn.lens
              obtain ⟨w6, hw6⟩ : ∃ x, x = wc := ⟨_, rfl⟩
              rw [← hw6] at HB HT ⊢
              have hgt1 : ¬ ((n : Int) < (tb : Int)) := by omega
              have hgt2 : ¬ ((tb : Int) < (tp : Int)) := by omega
              clear hcut hbo htal hw6
              go_upto_region 43 with (first
                | (go_at_call 12; with_reducible refine (HT.out _ (Below.refl _ _)).mono ?_; rintro r w7 ⟨rfl, hb⟩; have HB7 := Lib.hid hb; clear hb))
              obtain ⟨wb, hwb⟩ : ∃ x, x = w7.heap.size := ⟨_, rfl⟩
              obtain ⟨w8, hw8⟩ : ∃ x, x = w7.alloc (.cells #[.int .i64 (t0 : Int), .int .i64 (tb : Int), .int .i64 (tp : Int), .int .i64 (t3 : Int), .int .i64 (t4 : Int), .int .i64 (t5 : Int)] 36) := ⟨_, rfl⟩
              have HB8 : Hid (BO w w8 cb n (2 * i + 2) (200 * i) K' V2 P2 (.slice qk M dk) (.slice qv M dv) (.slice qp M dp) pb R) := Lib.hid (by
                have hb8 : Below w6.heap.size w6 w8 := by rw [hw8]; exact HB7.out.alloc HB7.out.size _
                exact HB.out.below hb8)
              have hrow : w8.heap[wb]? = some (.cells #[.int .i64 (t0 : Int), .int .i64 (tb : Int), .int .i64 (tp : Int), .int .i64 (t3 : Int), .int .i64 (t4 : Int), .int .i64 (t5 : Int)] 36 (0, 0)) := by rw [hw8, hwb]; exact heap_alloc_new w7 _
              have hq1 : w8.cell? ⟨wb, 1, none⟩ = some (.int .i64 (tb : Int)) := cell_of_row _ _ _ _ _ _ hrow
              have hq2 : w8.cell? ⟨wb, 2, none⟩ = some (.int .i64 (tp : Int)) := cell_of_row _ _ _ _ _ _ hrow
              have hd3 : w8.cell? ⟨pb, 3, none⟩ = some (.string key) := (HB8.out.cellR 3).trans (by rw [HR.out]; rfl)
              rw [← hw8, ← hwb]
              obtain ⟨gv, gis, hcase, hcg⟩ := bo_get HB8.out HKA.out (by have := HLT.out; omega)
              have CG := Lib.hid hcg
              have HCASE := Lib.hid hcase
              clear hw8 hwb HB7 HB HT hrow hcg hcase
              go_upto_region 46 with (first
                | (go_at_call 9; with_reducible refine (CG.out).mono ?_; rintro r w9 ⟨rfl, hb⟩; have HB9 := Lib.hid hb; clear hb CG))
              clear hq1 hq2 hd3 hgt1 hgt2
              have hdv := HLEN.out.2.2.2.2.1
              have hdp := HLEN.out.2.2.2.2.2
              have ha0 : (0 : Int) ≤ (a : Int) := by omega
              have haMi : (a : Int) < (M : Int) := by omega
              go_cut [197] from 170 to 196 (fun q wx => q = .bool false ∧ Hid (BN w wx cb n (2 * i + 2) (200 * i + 1) K' V2 P2 (.slice qk M dk) (.slice qv M dv) (.slice qp M dp)))
              case first =>
                rcases HCASE.out with ⟨h1, h2⟩ | ⟨h1, h2, h3⟩
                · obtain ⟨g, rfl, hc⟩ := HB9.out.cellV h2
                  subst h1
                  clear h2
                  go_wp2_with fail
                  go_meet
                  exact ⟨rfl, Lib.hid HB9.out⟩
                · obtain ⟨g, rfl, hc⟩ := HB9.out.cellP h3
                  have hc' : w9.cell? ⟨g, a, none⟩ = some (.int .i64 0) := hc
                  subst h1 h2
                  clear h3 hc
                  go_wp2_with fail
                  go_meet
                  exact ⟨rfl, Lib.hid HB9.out⟩
              case rest =>
                obtain ⟨hq, h5⟩ := hcut
                subst hq
                have HB := Lib.hid h5.out
                obtain ⟨wA, hwA⟩ : ∃ x, x = wc := ⟨_, rfl⟩
                rw [← hwA] at HB ⊢
                clear h5 hwA HB8 HB9 HCASE ha0 haMi
                go_wp2_with fail
                go_loopw [23] (fun jv wx => ∃ j : Nat, j ≤ M ∧ jv = .int .i64 j ∧ Hid (BN w wx cb n (2 * i + 2) (200 * i + 1 + j) K' V2 P2 (.slice qk M dk) (.slice qv M dv) (.slice qp M dp))) (fun jv _ => M - (intOf jv).toNat)
                case atStart => exact ⟨0, by omega, rfl, Lib.hid HB.out⟩
                case round =>
                  clear HB
                  obtain ⟨j2, hj2, rfl, hinv⟩ := hrel
                  have HB := Lib.hid hinv.out
                  clear hinv
                  by_cases hjm : j2 < M
                  · have hji : (j2 : Int) < (M : Int) := by omega
                    have hj0 : (0 : Int) ≤ (j2 : Int) := by omega
                    have hdk := HLEN.out.2.2.2.1
                    obtain ⟨s, hs⟩ : ∃ s, K'[j2]? = some s := ⟨K'[j2]'(by have := HLEN.out; omega), List.getElem?_eq_getElem _⟩
                    obtain ⟨p2, hp2⟩ : ∃ p, P2[j2]? = some p := ⟨P2[j2]'(by have := HLEN.out; omega), List.getElem?_eq_getElem _⟩
                    obtain ⟨g, rfl, hc⟩ := HB.out.cellK hs
                    obtain ⟨gv2, gis2, hcase, hcg⟩ := bn_get HB.out hs (by have := HLT.out; omega)
                    have CG := Lib.hid hcg
                    have HCASE := Lib.hid hcase
                    have HP2 := Lib.hid hp2
                    clear hs hcg hcase hp2
                    go_upto_region 52 with (first
                      | (go_at_call 9; with_reducible refine (CG.out).mono ?_; rintro r w9 ⟨rfl, hb⟩; have HB9 := Lib.hid hb; clear hb CG))
                    clear hc
                    go_cut [232] from 213 to 231 (fun q wx => q = .bool false ∧ Hid (BN w wx cb n (2 * i + 2) (200 * i + 1 + j2 + 1) K' V2 P2 (.slice (some ⟨g, 0, none⟩) M dk) (.slice qv M dv) (.slice qp M dp)))
                    case first =>
                      obtain ⟨gp, rfl, hcp⟩ := HB9.out.cellP HP2.out
                      rcases HCASE.out with ⟨h1, h2⟩ | ⟨h1, h2, h3⟩
                      · obtain ⟨gg, rfl, hc⟩ := HB9.out.cellV h2
                        subst h1
                        clear h2
                        rcases Nat.eq_zero_or_pos p2 with hp0 | hp0
                        · subst hp0
                          have hcp' : w9.cell? ⟨gp, j2, none⟩ = some (.int .i64 0) := hcp
                          clear hcp
                          go_wp2_with fail
                          go_meet
                          exact ⟨rfl, Lib.hid HB9.out⟩
                        · have hp0i : (0 : Int) < (p2 : Int) := by omega
                          clear hp0
                          go_wp2_with fail
                          go_meet
                          exact ⟨rfl, Lib.hid HB9.out⟩
                      · have hp0 : p2 = 0 := by have := HP2.out; rw [h3] at this; exact (Option.some.inj this).symm
                        subst hp0
                        have hcp' : w9.cell? ⟨gp, j2, none⟩ = some (.int .i64 0) := hcp
                        subst h1 h2
                        clear h3 hcp
                        go_wp2_with fail
                        go_meet
                        exact ⟨rfl, Lib.hid HB9.out⟩
                    case rest =>
                      obtain ⟨hq, h5⟩ := hcut
                      subst hq
                      have HBF := Lib.hid h5.out
                      clear h5 HB9 HCASE HB
                      go_wp2_with fail
                      exact ⟨⟨j2 + 1, by omega, rfl, Lib.hid HBF.out⟩, (by show M - ((j2 : Int) + 1).toNat < M - (j2 : Int).toNat; omega)⟩
                  · have hji : ¬ ((j2 : Int) < (M : Int)) := by omega
                    have hjM : j2 = M := by omega
                    rw [hjM] at HB
                    have HFI : Hid (∃ K V P, K.length = M ∧ BN w wr cb n (2 * (i + 1)) (200 * (i + 1)) K V P (.slice qk M dk) (.slice qv M dv) (.slice qp M dp)) := Lib.hid ⟨K', V2, P2, HLEN.out.1, HB.out.more (by omega) (by have := HMI.out; have := HLT.out; omega)⟩
                    have hib : i ≤ 100 := by have := HLT.out; omega
                    clear hjm hjM HB
                    go_wp2_with fail
                    have hlt := HLT.out
                    exact ⟨⟨i + 1, M, qk, qv, qp, dk, dv, dp, by omega, by omega, HMI.out, rfl, rfl, rfl, rfl, Lib.hid HFI.out⟩, (by show 100 - ((i : Int) + 1).toNat < 100 - (i : Int).toNat; omega)⟩
    · have HBE : Hid (Below w.heap.size w wr) := Lib.hid (by
        obtain ⟨_, _, _, _, _, _, _, _, _, h⟩ := HI.out
        exact h.st.bl)
      clear HI
      by_cases hzl : i < sn
      · have hli : (i : Int) < (sn : Int) := by omega
        have hli2 : ¬ ((i : Int) < 100) := by omega
        clear hlt hzl hi hi2 hNi
        go_wp2_with fail
        go_ret
        exact ⟨rfl, HBE.out⟩
      · have hli : ¬ ((i : Int) < (sn : Int)) := by omega
        clear hlt hzl hi hi2 hNi
        go_wp2_with fail
        go_ret
        exact ⟨rfl, HBE.out⟩
end Go.Proofs.Ythaccjjkbbkehaa
