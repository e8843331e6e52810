/- Walks: tipstaveref01.Check. -/
import Derived.Test.YtgkfadkgkdjcoaaDoorUeq
set_option linter.unusedVariables false
set_option linter.unusedSimpArgs false
namespace Go.Proofs.YtgkfadkgkdjcoaaDoor
open Go.RowKit

theorem drop_ne {l : List UInt8} {pos : Nat} (h : pos < l.length) : l.drop pos ≠ [] := by
  intro e
  have := congrArg List.length e
  rw [List.length_drop] at this
  simp at this
  omega

theorem runeP_any (l : List UInt8) (b off n cap : Nat) (hn : n = l.length) (w : World) (hl : l.length ≤ 2147483647) (hcap : l.length ≤ cap) (hm : bytesAt w b off l) :
    Calls Tryd.prog 21 #[.slice (some ⟨b, off, none⟩) n cap] w fun e w' => e = .returned (pairRes (runePair l)) ∧ Below w.heap.size w w' := by
  have h := runeR_any l b off n cap hn w hl hcap hm
  rw [refRune_eq] at h
  exact h

set_option maxHeartbeats 2000000 in
theorem checkR_any (l : List UInt8) (b n cap : Nat) (hn : n = l.length) (w : World) (hl : l.length ≤ 2147483647) (hcap : l.length ≤ cap) (hm : bytesAt w b 0 l) :
    Calls Tryd.prog 16 #[.slice (some ⟨b, 0, none⟩) n cap] w fun e w' => e = .returned (.int .i64 (checkL l).1) ∧ Below w.heap.size w w' := by
  subst hn
  have HM := Lib.hid hm
  clear hm
  go_enter Tryd.func16, Tryd.ntmps16
  go_wp2
  go_loopw [3] (fun v3 wr => ∃ pos fuel : Nat, v3 = .int .i64 pos ∧ Below w.heap.size w wr ∧ checkL l = checkGo fuel (l.drop pos) pos ∧ l.length ≤ pos + fuel ∧ pos ≤ l.length) (fun v3 _ => l.length - (intOf v3).toNat)
  case atStart => exact ⟨0, l.length, rfl, Below.refl _ w, rfl, by omega, by omega⟩
  case round =>
    obtain ⟨pos, fuel, rfl, hbw, hchk, hfu, hpl⟩ := hrel
    have hsz := hbw.size
    by_cases hp : pos < l.length
    · have h0 := drop_ne hp
      have hbl : b < w.heap.size := Lib.lt_of_cell (HM.out 0 (by omega))
      have hm2 : bytesAt wr b (0 + pos) (l.drop pos) := (HM.out.below hbw hbl).drop pos
      rw [Nat.zero_add] at hm2
      have cR := runeP_any (l.drop pos) b pos (l.length - pos) (cap - pos) (by simp) wr (by simp; omega) (by simp; omega) hm2
      have hne : ¬ cap = pos := by omega
      cases hr : rune1 (l.drop pos) with
      | none =>
        have e : runePair (l.drop pos) = (0, 0) := by unfold runePair; rw [hr]
        rw [e, pairRes_mk] at cR
        have HF : Hid ((checkL l).1 = pos) := Lib.hid (by rw [hchk, checkGo_none fuel pos (by simp; omega) h0 hr])
        have CR := Lib.hid cR
        clear cR e hr hchk h0 hm2
        go_wp2_with (go_at_call 21; refine (CR.out).mono ?_; rintro e w2 ⟨rfl, hb2⟩)
        go_ret
        exact ⟨by rw [HF.out]; rfl, hbw.trans (hb2.mono hsz)⟩
      | some cn =>
        obtain ⟨c, n⟩ := cn
        have e : runePair (l.drop pos) = ((c : Int), (n : Int)) := by unfold runePair; rw [hr]
        rw [e, pairRes_mk] at cR
        obtain ⟨_, b1, b2, b3, b4, b5⟩ := rune1_bounds hr
        rw [List.length_drop] at b3
        have HF : Hid (checkL l = checkGo (fuel - 1) (l.drop (pos + n)) (pos + n)) := Lib.hid (by rw [hchk, checkGo_some fuel pos (by simp; omega) h0 hr, List.drop_drop])
        have CR := Lib.hid cR
        have in0 : ((n : Int) == 0) = false := by rw [beq_eq_false_iff_ne]; omega
        clear cR e hr hchk h0 hm2 b5
        go_wp2_with (go_at_call 21; refine (CR.out).mono ?_; rintro e w2 ⟨rfl, hb2⟩)
        go_roundw
        case rel => exact ⟨pos + n, fuel - 1, by go_num, hbw.trans (hb2.mono hsz), HF.out, by omega, by omega⟩
        case measure => simp [intOf]; omega
    · have HF : Hid ((checkL l).1 = pos) := Lib.hid (by rw [hchk, List.drop_eq_nil_of_le (by omega), checkGo_nil])
      clear hchk
      go_wp2
      go_ret
      exact ⟨by rw [HF.out]; rfl, hbw⟩

end Go.Proofs.YtgkfadkgkdjcoaaDoor
