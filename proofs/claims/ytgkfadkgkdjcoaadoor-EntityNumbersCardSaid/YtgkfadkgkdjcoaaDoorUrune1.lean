/- Walks: tipstaveref01.Rune at a character of one byte. -/
import Derived.Test.YtgkfadkgkdjcoaaDoorUrune
set_option linter.unusedVariables false
set_option linter.unusedSimpArgs false
namespace Go.Proofs.YtgkfadkgkdjcoaaDoor
open Go.RowKit

set_option maxHeartbeats 2000000 in
set_option maxRecDepth 100000 in
theorem runeR_1 (l : List UInt8) (x : UInt8) (b off cap : Nat) (w : World) (hl : l.length ≤ 2147483647) (hcap : l.length ≤ cap) (hm : bytesAt w b off l) (h0 : l ≠ []) (hx0 : l.getD 0 0 = x) (hA : x.toNat < 128) :
    Calls Tryd.prog 21 #[.slice (some ⟨b, off, none⟩) l.length cap] w fun e w' => e = .returned (pairRes (refRune l)) ∧ Below w.heap.size w w' := by
  have hpos : 0 < l.length := by cases l with | nil => exact absurd rfl h0 | cons x l => simp
  have hc := hm 0 hpos
  rw [Nat.add_zero, hx0] at hc
  have hcl : cls x.toNat = (1, x.toNat) := by unfold cls; rw [if_pos hA]
  have i0 : (0 : Int) < (l.length : Int) := by omega
  have i1 : ¬ ((l.length : Int) < 1) := by omega
  have il : ((l.length : Int) == 0) = false := by rw [beq_eq_false_iff_ne]; omega
  have hRF := refRune_at h0 hx0 hcl (by decide) (by omega)
  have hln : (l.take 1).drop 1 = [] := List.drop_eq_nil_of_le (by rw [List.length_take]; omega)
  rw [hln] at hRF
  have HF : Hid (refRune l = refEnd (x.toNat : Int) 1) := Lib.hid (by
    rw [hRF]
    show (if (0 : Int) < 0 then _ else _) = _
    rw [if_neg (by decide)]
    congr 1
    show (x.toNat : Int) * 64 ^ 0 + 0 = _
    omega)
  have CL : Hid (∀ off' cap', Calls Tryd.prog 31 #[.slice (some ⟨b, off', none⟩) 0 cap'] w fun e w' => e = .returned (.int .i64 0) ∧ w' = w) := Lib.hid (fun off' cap' => low_any [] b off' cap' w (by simp) (fun j hj => absurd hj (by simp)))
  clear hRF hln hcl h0 hx0 hm
  by_cases hc1 : cap = 1
  · subst hc1
    go_enter Tryd.func21, Tryd.ntmps21
    go_wp2_with (go_at_call 31; refine (CL.out _ _).mono ?_; rintro e w' ⟨rfl, rfl⟩)
    go_loop [6, 8] (fun vt vi => vt = .int .i64 (x.toNat : Int) ∧ vi = .int .i64 1) (fun _ _ => 0)
    case atStart => exact ⟨rfl, rfl⟩
    case round =>
      obtain ⟨rfl, rfl⟩ := hrel
      cases hf : fineB (x.toNat : Int) with
      | false =>
        have HE : Hid (refEnd (x.toNat : Int) 1 = (0, 0)) := Lib.hid (by unfold refEnd; rw [if_pos hf])
        go_wp2_with (go_at_call 14; refine (fineR_any _ _).mono ?_; rintro e w' ⟨rfl, rfl⟩)
        go_ret2
        exact ⟨by rw [HF.out, HE.out]; rfl, Below.refl _ _⟩
      | true =>
        have CP := Lib.hid (fun wx => putZ_any (x.toNat : Int) hf wx)
        have hpl : (put (x.toNat : Int).toNat).length = 1 := by
          rw [put_length]
          have e : (((x.toNat : Int).toNat : Nat) : Int) = (x.toNat : Int) := by omega
          rw [e, Lib.encodeRuneZ_one (by omega) (by omega)]; rfl
        have HE : Hid (refEnd (x.toNat : Int) 1 = ((x.toNat : Int), 1)) := Lib.hid (by unfold refEnd; rw [if_neg (by rw [hf]; decide), hpl, if_neg (by decide)])
        rw [hpl] at CP
        clear hpl
        go_wp2_with (first | (go_at_call 14; refine (fineR_any _ _).mono ?_; rintro e w' ⟨rfl, rfl⟩) | (go_at_call 15; refine (CP.out _).mono ?_; rintro e w' ⟨pb, pc, rfl, _, _, _, hpb⟩))
        go_ret2
        exact ⟨by rw [HF.out, HE.out]; rfl, hpb⟩
  · go_enter Tryd.func21, Tryd.ntmps21
    go_wp2_with (go_at_call 31; refine (CL.out _ _).mono ?_; rintro e w' ⟨rfl, rfl⟩)
    go_loop [6, 8] (fun vt vi => vt = .int .i64 (x.toNat : Int) ∧ vi = .int .i64 1) (fun _ _ => 0)
    case atStart => exact ⟨rfl, rfl⟩
    case round =>
      obtain ⟨rfl, rfl⟩ := hrel
      cases hf : fineB (x.toNat : Int) with
      | false =>
        have HE : Hid (refEnd (x.toNat : Int) 1 = (0, 0)) := Lib.hid (by unfold refEnd; rw [if_pos hf])
        go_wp2_with (go_at_call 14; refine (fineR_any _ _).mono ?_; rintro e w' ⟨rfl, rfl⟩)
        go_ret2
        exact ⟨by rw [HF.out, HE.out]; rfl, Below.refl _ _⟩
      | true =>
        have CP := Lib.hid (fun wx => putZ_any (x.toNat : Int) hf wx)
        have hpl : (put (x.toNat : Int).toNat).length = 1 := by
          rw [put_length]
          have e : (((x.toNat : Int).toNat : Nat) : Int) = (x.toNat : Int) := by omega
          rw [e, Lib.encodeRuneZ_one (by omega) (by omega)]; rfl
        have HE : Hid (refEnd (x.toNat : Int) 1 = ((x.toNat : Int), 1)) := Lib.hid (by unfold refEnd; rw [if_neg (by rw [hf]; decide), hpl, if_neg (by decide)])
        rw [hpl] at CP
        clear hpl
        go_wp2_with (first | (go_at_call 14; refine (fineR_any _ _).mono ?_; rintro e w' ⟨rfl, rfl⟩) | (go_at_call 15; refine (CP.out _).mono ?_; rintro e w' ⟨pb, pc, rfl, _, _, _, hpb⟩))
        go_ret2
        exact ⟨by rw [HF.out, HE.out]; rfl, hpb⟩
end Go.Proofs.YtgkfadkgkdjcoaaDoor
