/- Walks: EntityTells. -/
import Derived.Test.YtgkfadkgkdjcoaaDoorAlive
import Derived.Test.YtgkfadkgkdjcoaaDoorTellr
set_option linter.unusedVariables false
set_option linter.unusedSimpArgs false
namespace Go.Proofs.YtgkfadkgkdjcoaaDoor
open Go.RowKit

set_option maxHeartbeats 4000000 in
theorem tells_any (l : List UInt8) (s : ByteArray) (hs : s = ⟨l.toArray⟩) (w : World) (hR : Ready w) :
    Calls Tryd.prog 3 #[.string s] w fun e w' => e = .returned (.bool true) ∧ Below w.heap.size w w' := by
  subst hs
  by_cases hl : 2000 < l.length
  · have i1 : (2000 : Int) < (l.length : Int) := by omega
    go_enter Tryd.func3, Tryd.ntmps3
    go_wp2_with (go_at_call 9; refine (alive_any _ hR).mono ?_; rintro e w' ⟨rfl, hb⟩)
    go_ret
    exact ⟨rfl, hb⟩
  · have i1 : ¬ ((2000 : Int) < (l.length : Int)) := by omega
    have c1 := fun wx hx => text_any l ⟨l.toArray⟩ rfl wx (by omega) hx
    have c2 := fun wx hx => value_any l ⟨l.toArray⟩ rfl wx (by omega) hx
    have c3 := fun wx => tell3_any false l ⟨l.toArray⟩ rfl wx (by omega)
    have c4 := fun wx => tell3_any true l ⟨l.toArray⟩ rfl wx (by omega)
    have he : ∀ v, (tellL v l).2.2 ≤ 5 := fun v => by
      rcases tellL_out v l with ⟨ds, _, ho⟩ | ⟨q, e, _, he, ho⟩
      · rw [ho]; exact Nat.zero_le 5
      · rw [ho]; simp only []; omega
    have he1 := he false
    have he2 := he true
    generalize tellL false l = a at *
    generalize tellL true l = b at *
    obtain ⟨a, n, e⟩ := a
    obtain ⟨b, k, f⟩ := b
    have hea : e ≤ 5 := he1
    have heb : f ≤ 5 := he2
    rw [tellRes_mk] at c1 c2 c3 c4
    have C1 := Lib.hid c1
    have C2 := Lib.hid c2
    have C3 := Lib.hid c3
    have C4 := Lib.hid c4
    clear c1 c2 c3 c4 he he1 he2
    go_enter Tryd.func3, Tryd.ntmps3
    go_wp2_with fail
    refine (C1.out _ hR).mono ?_
    rintro e1 w1 ⟨rfl, hb1⟩
    have hR1 := hR.below hb1
    have hs1 := hb1.size
    go_wp2_with fail
    refine (C2.out _ hR1).mono ?_
    rintro e2 w2 ⟨rfl, hb2⟩
    have hR2 := hR1.below hb2
    have hs2 := hb2.size
    go_wp2_with fail
    refine (C3.out _).mono ?_
    rintro e3 w3 ⟨rfl, hb3⟩
    have hR3 := hR2.below hb3
    have hs3 := hb3.size
    go_wp2_with fail
    refine (C4.out _).mono ?_
    rintro e4 w4 ⟨rfl, hb4⟩
    have hR4 := hR3.below hb4
    have hs4 := hb4.size
    go_wp2_with fail
    refine (alive_any _ hR4).mono ?_
    rintro e5 w5 ⟨rfl, hb5⟩
    go_wp2
    go_ret
    exact ⟨rfl, hb1.trans ((hb2.mono hs1).trans ((hb3.mono (by omega)).trans ((hb4.mono (by omega)).trans (hb5.mono (by omega)))))⟩
end Go.Proofs.YtgkfadkgkdjcoaaDoor
