/- Walks: EntityOne. -/
import Derived.Test.YtgkfadkgkdjcoaaDoorAlive
set_option linter.unusedVariables false
set_option linter.unusedSimpArgs false
namespace Go.Proofs.YtgkfadkgkdjcoaaDoor
open Go.RowKit

set_option maxHeartbeats 8000000 in
theorem one_any (l : List UInt8) (s : ByteArray) (hs : s = ⟨l.toArray⟩) (w : World) (hR : Ready w) :
    Calls Tryd.prog 6 #[.string s] w fun e w' => e = .returned (.bool true) ∧ Below w.heap.size w w' := by
  subst hs
  by_cases hl : 2000 < l.length
  · have i1 : (2000 : Int) < (l.length : Int) := by omega
    go_enter Tryd.func6, Tryd.ntmps6
    go_wp2_with (go_at_call 9; refine (alive_any _ hR).mono ?_; rintro e w' ⟨rfl, hb⟩)
    go_ret
    exact ⟨rfl, hb⟩
  · have i1 : ¬ ((2000 : Int) < (l.length : Int)) := by omega
    have c1 := fun wx hx => text_any l ⟨l.toArray⟩ rfl wx (by omega) hx
    rcases tellL_out false l with ⟨ds, hf, ho⟩ | ⟨q, e, hq, he, ho⟩
    · have hal : (chars ds).length ≤ 8000 := by have := tellL_len false l; rw [ho] at this; simp only [] at this; omega
      have hbl := escL_len escT (by decide) ds hf
      have c2 := fun wx hx => escText_any (chars ds) ⟨(chars ds).toArray⟩ rfl wx (by omega) hx
      have c3 := fun wx hx => text_any (escL escT (chars ds)) ⟨(escL escT (chars ds)).toArray⟩ rfl wx (by omega) hx
      have e2 : escRes escT (chars ds) = .tuple #[.string ⟨(escL escT (chars ds)).toArray⟩, .int .i64 0] := by unfold escRes; rw [checkL_chars ds hf, if_pos rfl]
      rw [ho, tellRes_mk] at c1
      rw [e2] at c2
      rw [back_T ds hf, tellRes_mk] at c3
      have C1 := Lib.hid c1
      have C2 := Lib.hid c2
      have C3 := Lib.hid c3
      clear c1 c2 c3 e2 ho hf hal hbl
      generalize (escL escT (chars ds)).length = n3 at *
      generalize escL escT (chars ds) = b at *
      generalize chars ds = a at *
      go_enter Tryd.func6, Tryd.ntmps6
      go_wp2_with fail
      refine (C1.out _ hR).mono ?_
      rintro e w1 ⟨rfl, hb1⟩
      have hR1 := hR.below hb1
      have hs1 := hb1.size
      go_wp2_with fail
      refine (C2.out _ hR1).mono ?_
      rintro e w2 ⟨rfl, hb2⟩
      have hR2 := hR1.below hb2
      have hs2 := hb2.size
      go_wp2_with fail
      refine (C3.out _ hR2).mono ?_
      rintro e w3 ⟨rfl, hb3⟩
      have hR3 := hR2.below hb3
      have hs3 := hb3.size
      go_wp2_with fail
      refine (C2.out _ hR3).mono ?_
      rintro e w4 ⟨rfl, hb4⟩
      have hR4 := hR3.below hb4
      have hs4 := hb4.size
      go_wp2_with fail
      refine (alive_any _ hR4).mono ?_
      rintro e w5 ⟨rfl, hb5⟩
      go_wp2
      go_ret
      exact ⟨rfl, hb1.trans ((hb2.mono hs1).trans ((hb3.mono (by omega)).trans ((hb4.mono (by omega)).trans (hb5.mono (by omega)))))⟩
    · rw [ho, tellRes_mk] at c1
      have C1 := Lib.hid c1
      clear c1 ho
      have i2 : (0 : Int) ≤ (q : Int) := by omega
      have i3 : (q : Int) ≤ (l.length : Int) := by omega
      rcases he with rfl | rfl
      · go_enter Tryd.func6, Tryd.ntmps6
        go_wp2_with (first | (go_at_call 10; refine (C1.out _ hR).mono ?_; rintro e w1 ⟨rfl, hb1⟩; have hR1 := hR.below hb1; have hs1 := hb1.size) | (go_at_call 9; refine (alive_any _ hR1).mono ?_; rintro e w' ⟨rfl, hb⟩))
        go_ret
        exact ⟨rfl, hb1.trans (hb.mono hs1)⟩
      · go_enter Tryd.func6, Tryd.ntmps6
        go_wp2_with (first | (go_at_call 10; refine (C1.out _ hR).mono ?_; rintro e w1 ⟨rfl, hb1⟩; have hR1 := hR.below hb1; have hs1 := hb1.size) | (go_at_call 9; refine (alive_any _ hR1).mono ?_; rintro e w' ⟨rfl, hb⟩))
        go_ret
        exact ⟨rfl, hb1.trans (hb.mono hs1)⟩
end Go.Proofs.YtgkfadkgkdjcoaaDoor
