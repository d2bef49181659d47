/- DigestTexts: the law's walk. -/
import Derived.Test.YtdgblimeehijpaaDoorTxu2
import Derived.Test.YtdgblimeehijpaaDoorKnow1
namespace Go.Proofs.YtdgblimeehijpaaDoor
open Go.RowKit Go.Scr
set_option linter.unusedVariables false

set_option maxRecDepth 100000 in
set_option maxHeartbeats 1000000 in
theorem dtexts_any (s t : ByteArray) (w : World) (ht : Tabs w) (hs : s.size ≤ 1048576) (hl : t.size ≤ 1048576) :
    Calls Tryd.prog 6 #[.string s, .string t] w fun e w' => e = .returned (.bool true) ∧ Below w.heap.size w w' := by
  have HT := Lib.hid ht
  have HB0 := Lib.hid (Below.refl w.heap.size w)
  have d1 := fun w => dfromhex_any t w (by omega)
  have d2 := fun w => rfromhex_any t w (by omega)
  have d3 := fun w => dfrom64_any t w (by omega)
  have d4 := fun w => rfrom64_any t w (by omega)
  have d5 := fun w => dhex_any s w (by omega)
  have d6 := fun w => rhex_any s w (by omega)
  have d7 := fun w => db64_any s w (by omega)
  have d8 := fun w => rb64_any s w (by omega)
  obtain ⟨a, ha⟩ : ∃ a, a = fhS t.data.toList := ⟨_, rfl⟩
  obtain ⟨ae, hae⟩ : ∃ a, a = fhE t.data.toList := ⟨_, rfl⟩
  obtain ⟨b, hb⟩ : ∃ a, a = fbS t.data.toList := ⟨_, rfl⟩
  obtain ⟨be, hbe⟩ : ∃ a, a = fbE t.data.toList := ⟨_, rfl⟩
  obtain ⟨X, hX⟩ : ∃ a, a = str (hexL s.data.toList) := ⟨_, rfl⟩
  obtain ⟨Y, hY⟩ : ∃ a, a = str (b64 s.data.toList) := ⟨_, rfl⟩
  rw [← ha, ← hae] at d1 d2
  rw [← hb, ← hbe] at d3 d4
  rw [← hX] at d5 d6
  rw [← hY] at d7 d8
  have D1 := Lib.hid d1
  have D2 := Lib.hid d2
  have D3 := Lib.hid d3
  have D4 := Lib.hid d4
  have D5 := Lib.hid d5
  have D6 := Lib.hid d6
  have D7 := Lib.hid d7
  have D8 := Lib.hid d8
  clear ht ha hae hb hbe hX hY d1 d2 d3 d4 d5 d6 d7 d8
  go_enter Tryd.func6, Tryd.ntmps6
  go_wp2_with (first
    | (go_at_call 15; with_reducible refine (known1_any w HT.out).mono ?_; rintro r w1 ⟨rfl, hb⟩; have HB1 := Lib.hid (below_from HB0.out hb HB0.out.size); clear hb)
    | (go_at_call 19; with_reducible refine (D1.out w1).mono ?_; rintro r w2 ⟨rfl, hb⟩; have HB2 := Lib.hid (below_from HB1.out hb HB1.out.size); clear hb)
    | (go_at_call 20; with_reducible refine (D2.out w2).mono ?_; rintro r w3 ⟨rfl, hb⟩; have HB3 := Lib.hid (below_from HB2.out hb HB2.out.size); clear hb)
    | (go_at_call 21; with_reducible refine (D3.out w3).mono ?_; rintro r w4 ⟨rfl, hb⟩; have HB4 := Lib.hid (below_from HB3.out hb HB3.out.size); clear hb)
    | (go_at_call 22; with_reducible refine (D4.out w4).mono ?_; rintro r w5 ⟨rfl, hb⟩; have HB5 := Lib.hid (below_from HB4.out hb HB4.out.size); clear hb)
    | (go_at_call 23; with_reducible refine (D5.out w5).mono ?_; rintro r w6 ⟨rfl, hb⟩; have HB6 := Lib.hid (below_from HB5.out hb HB5.out.size); clear hb)
    | (go_at_call 24; with_reducible refine (D6.out w6).mono ?_; rintro r w7 ⟨rfl, hb⟩; have HB7 := Lib.hid (below_from HB6.out hb HB6.out.size); clear hb)
    | (go_at_call 25; with_reducible refine (D7.out w7).mono ?_; rintro r w8 ⟨rfl, hb⟩; have HB8 := Lib.hid (below_from HB7.out hb HB7.out.size); clear hb)
    | (go_at_call 26; with_reducible refine (D8.out w8).mono ?_; rintro r w9 ⟨rfl, hb⟩; have HB9 := Lib.hid (below_from HB8.out hb HB8.out.size); clear hb))
  go_ret
  exact ⟨rfl, HB9.out⟩
end Go.Proofs.YtdgblimeehijpaaDoor
