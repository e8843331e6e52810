/- Walks: EntityBack. -/
import Derived.Test.YtgkfadkgkdjcoaaDoorAlive
import Derived.Test.YtgkfadkgkdjcoaaDoorUcheck
set_option linter.unusedVariables false
set_option linter.unusedSimpArgs false
namespace Go.Proofs.YtgkfadkgkdjcoaaDoor
open Go.RowKit

/-- '[]byte(s)' and tipstaveref01.Check of it: what a walk takes. -/
theorem conv_check (l : List UInt8) (hl : l.length ≤ 2147483647) (w : World) : ∃ W1 cap, (convert 9 32 (.string ⟨l.toArray⟩)).run Tryd.prog w = .ok (.slice (some ⟨w.heap.size, 0, none⟩) l.length cap) W1 ∧ Below w.heap.size w W1 ∧ l.length ≤ cap ∧ bytesAt W1 w.heap.size 0 l ∧ W1.heap.size = w.heap.size + 1 := by
  have hcv := Lib.run_convert_string_bytes (P := Tryd.prog) w 9 32 5 ⟨l.toArray⟩ (u := .string) Tryd.underlying9 Tryd.underlying32 Tryd.underlying5
  rw [ba_size] at hcv
  refine ⟨_, _, hcv, bytesWorld_below w 5 _, grownCap_ge w l.length 0 5, fun j hj => ?_, Lib.bytesWorld_size w 5 _⟩
  rw [Nat.zero_add]; exact Lib.bytesWorld_cell w 5 ⟨l.toArray⟩ j (by rw [ba_size]; exact hj)

set_option maxHeartbeats 8000000 in
theorem back_any (l : List UInt8) (s : ByteArray) (hs : s = ⟨l.toArray⟩) (w : World) (hR : Ready w) :
    Calls Tryd.prog 8 #[.string s] w fun e w' => e = .returned (.bool true) ∧ Below w.heap.size w w' := by
  subst hs
  by_cases hl : 2000 < l.length
  · have i1 : (2000 : Int) < (l.length : Int) := by omega
    go_enter Tryd.func8, Tryd.ntmps8
    go_wp2_with (go_at_call 9; refine (alive_any _ hR).mono ?_; rintro e w' ⟨rfl, hb⟩)
    go_ret
    exact ⟨rfl, hb⟩
  · have i1 : ¬ ((2000 : Int) < (l.length : Int)) := by omega
    have c1 := fun wx hx => escText_any l ⟨l.toArray⟩ rfl wx (by omega) hx
    have c2 := fun wx hx => escValue_any l ⟨l.toArray⟩ rfl wx (by omega) hx
    cases hck : (checkL l).2 with
    | true =>
      obtain ⟨cs, hf, rfl⟩ := checkL_ok hck
      have hb1 := escL_len escT (by decide) cs hf
      have hb2 := escL_len escV (by decide) cs hf
      have c3 := fun wx hx => text_any (escL escT (chars cs)) ⟨(escL escT (chars cs)).toArray⟩ rfl wx (by omega) hx
      have c4 := fun wx hx => value_any (escL escV (chars cs)) ⟨(escL escV (chars cs)).toArray⟩ rfl wx (by omega) hx
      unfold escRes at c1 c2
      rw [hck, if_pos rfl] at c1 c2
      rw [back_T cs hf, tellRes_mk] at c3
      rw [back_V cs hf, tellRes_mk] at c4
      have C1 := Lib.hid c1
      have C2 := Lib.hid c2
      have C3 := Lib.hid c3
      have C4 := Lib.hid c4
      clear c1 c2 c3 c4 hf hck hb1 hb2
      generalize escL escT (chars cs) = a at *
      generalize escL escV (chars cs) = b at *
      generalize chars cs = l at *
      go_enter Tryd.func8, Tryd.ntmps8
      go_wp2_with fail
      refine (C1.out _ hR).mono ?_
      rintro e w1 ⟨rfl, hb1⟩
      have hR1 := hR.below hb1
      have hs1 := hb1.size
      go_wp2_with fail
      refine (C2.out _ hR1).mono ?_
      rintro e w2 ⟨rfl, hb2⟩
      have hR2 := hR1.below hb2
      have hs2 := hb2.size
      go_wp2_with fail
      refine (C3.out _ hR2).mono ?_
      rintro e w3 ⟨rfl, hb3⟩
      have hR3 := hR2.below hb3
      have hs3 := hb3.size
      go_wp2_with fail
      refine (C4.out _ hR3).mono ?_
      rintro e w4 ⟨rfl, hb4⟩
      have hR4 := hR3.below hb4
      have hs4 := hb4.size
      go_wp2_with fail
      refine (alive_any _ hR4).mono ?_
      rintro e w5 ⟨rfl, hb5⟩
      go_wp2
      go_ret
      exact ⟨rfl, hb1.trans ((hb2.mono hs1).trans ((hb3.mono (by omega)).trans ((hb4.mono (by omega)).trans (hb5.mono (by omega)))))⟩
    | false =>
      have hlt := (checkL_le l).2 hck
      have c3 := fun wx (cap : Nat) (b : Nat) (hc : l.length ≤ cap) (hm : bytesAt wx b 0 l) => checkR_any l b l.length cap rfl wx (by omega) hc hm
      unfold escRes at c1 c2
      rw [hck, if_neg (by decide)] at c1 c2
      generalize (checkL l).1 = p at *
      have C1 := Lib.hid c1
      have C2 := Lib.hid c2
      have C3 := Lib.hid c3
      have ip : ((p : Int) != (l.length : Int)) = true := by rw [bne_iff_ne]; omega
      clear c1 c2 c3 hck
      go_enter Tryd.func8, Tryd.ntmps8
      go_wp2_with fail
      refine (C1.out _ hR).mono ?_
      rintro e w1 ⟨rfl, hb1⟩
      have hR1 := hR.below hb1
      have hs1 := hb1.size
      go_wp2_with fail
      refine (C2.out _ hR1).mono ?_
      rintro e w2 ⟨rfl, hb2⟩
      have hR2 := hR1.below hb2
      have hs2 := hb2.size
      go_wp2_with fail
      refine (alive_any _ hR2).mono ?_
      rintro e w3 ⟨rfl, hb3⟩
      have hs3 := hb3.size
      obtain ⟨W1, cap, hcv, hB, hcap, hby, hsW⟩ := conv_check l (by omega) w3
      have HB := Lib.hid hB
      have HBY := Lib.hid hby
      have hsW2 : w3.heap.size ≤ W1.heap.size := by omega
      clear hB hby hsW
      go_wp2_with (go_at_call 16; refine (C3.out _ _ _ hcap HBY.out).mono ?_; rintro e w5 ⟨rfl, hb5⟩)
      go_ret
      exact ⟨rfl, hb1.trans ((hb2.mono hs1).trans ((hb3.mono (by omega)).trans ((HB.out.mono (by omega)).trans (hb5.mono (by omega)))))⟩

end Go.Proofs.YtgkfadkgkdjcoaaDoor
