/- Walks: the laws of chapter 3: the document's examples. -/
import Derived.Test.YtgkfadkgkdjcoaaDoorEsc
import Derived.Test.YtgkfadkgkdjcoaaDoorPure
set_option linter.unusedVariables false
set_option linter.unusedSimpArgs false
namespace Go.Proofs.YtgkfadkgkdjcoaaDoor
open Go.RowKit

theorem alive_1 : tellL false [97, 38, 35, 54, 53, 59, 38, 108, 116, 59] = ([97, 65, 60], 10, 0) := by decide +kernel
theorem alive_2 : tellL true [97, 13, 10, 98] = ([97, 32, 98], 4, 0) := by decide +kernel
theorem alive_3 : tellL false [97, 38, 98] = ([], 1, 5) := by decide +kernel

set_option maxHeartbeats 4000000 in
theorem alive_any (w : World) (hR : Ready w) : Calls Tryd.prog 9 #[] w fun e w' => e = .returned (.bool true) ∧ Below w.heap.size w w' := by
  have c1 := fun wx hx => text_any [97, 38, 35, 54, 53, 59, 38, 108, 116, 59] _ rfl wx (by decide) hx
  have c2 := fun wx hx => value_any [97, 13, 10, 98] _ rfl wx (by decide) hx
  have c3 := fun wx hx => text_any [97, 38, 98] _ rfl wx (by decide) hx
  rw [alive_1] at c1
  rw [alive_2] at c2
  rw [alive_3] at c3
  rw [tellRes_mk] at c1 c2 c3
  have C1 := Lib.hid c1
  have C2 := Lib.hid c2
  have C3 := Lib.hid c3
  clear c1 c2 c3
  go_enter Tryd.func9, Tryd.ntmps9
  go_wp2_with fail
  refine (C1.out _ hR).mono ?_
  rintro e w1 ⟨rfl, hb1⟩
  have hR1 := hR.below hb1
  have hs1 := hb1.size
  go_wp2_with fail
  refine (C2.out _ hR1).mono ?_
  rintro e w2 ⟨rfl, hb2⟩
  have hR2 := hR1.below hb2
  have hs2 := hb2.size
  go_wp2_with fail
  refine (C3.out _ hR2).mono ?_
  rintro e w3 ⟨rfl, hb3⟩
  go_wp2
  go_ret
  exact ⟨rfl, hb1.trans ((hb2.mono hs1).trans (hb3.mono (by omega)))⟩

end Go.Proofs.YtgkfadkgkdjcoaaDoor
