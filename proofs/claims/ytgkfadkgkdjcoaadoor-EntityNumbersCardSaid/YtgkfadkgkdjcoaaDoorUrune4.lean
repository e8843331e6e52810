/- Walks: tipstaveref01.Rune at a character of 4 bytes. -/
import Derived.Test.YtgkfadkgkdjcoaaDoorUrune
set_option linter.unusedVariables false
set_option linter.unusedSimpArgs false
namespace Go.Proofs.YtgkfadkgkdjcoaaDoor
open Go.RowKit

set_option maxHeartbeats 2000000 in
set_option maxRecDepth 100000 in
theorem runeR_4 (l : List UInt8) (x : UInt8) (b off cap : Nat) (w : World) (hl : l.length ≤ 2147483647) (hcap : l.length ≤ cap) (hm : bytesAt w b off l) (h0 : l ≠ []) (hx0 : l.getD 0 0 = x) (hA : 240 ≤ x.toNat ∧ x.toNat < 248) :
    Calls Tryd.prog 21 #[.slice (some ⟨b, off, none⟩) l.length cap] w fun e w' => e = .returned (pairRes (refRune l)) ∧ Below w.heap.size w w' := by
  have hpos : 0 < l.length := by cases l with | nil => exact absurd rfl h0 | cons x l => simp
  have hc := hm 0 hpos
  rw [Nat.add_zero, hx0] at hc
  have hcl : cls x.toNat = (4, x.toNat - 240) := by unfold cls; (repeat' split) <;> first | rfl | omega
  have i0 : (0 : Int) < (l.length : Int) := by omega
  have il : ((l.length : Int) == 0) = false := by rw [beq_eq_false_iff_ne]; omega
  have hx := x.toNat_lt
  by_cases hlen : l.length < 4
  · have HF : Hid (refRune l = (0, 0)) := Lib.hid (refRune_short h0 hx0 hcl (Or.inr hlen))
    have ilen : (l.length : Int) < 4 := by omega
    clear hcl hm hlen h0 hx0
    go_enter Tryd.func21, Tryd.ntmps21
    go_wp2
    go_ret2
    exact ⟨by rw [HF.out]; rfl, Below.refl _ _⟩
  · have hRF := refRune_at h0 hx0 hcl (by decide) (by omega)
    have hln : ((l.take 4).drop 1).length = 3 := by rw [List.length_drop, List.length_take]; omega
    have hbd := lowGo_bd ((l.take 4).drop 1) 0 (by omega)
    rw [hln] at hbd
    have hm1 := bytes_mid hm 4
    have cL := fun off' cap' (hm' : bytesAt w b off' ((l.take 4).drop 1)) => lowN_any ((l.take 4).drop 1) b off' 3 cap' w hln.symm (by omega) hm'
    generalize lowGo ((l.take 4).drop 1) 0 = r at *
    have r0 := hbd.1
    have r1 : r < 262144 := by have h := hbd.2; exact h
    have hp : (64 : Int) ^ (4 - 1) = 262144 := by decide
    rw [hp] at hRF
    have ilen : ¬ ((l.length : Int) < 4) := by omega
    have CL := Lib.hid cL
    have HM1 := Lib.hid hm1
    clear cL hm1 hbd hm hcl hp h0 hx0 hln
    obtain ⟨t, ht⟩ : ∃ t : Int, t = ((x.toNat - 240 : Nat) : Int) := ⟨_, rfl⟩
    rw [← ht] at hRF
    have t0 : 0 ≤ t := by omega
    have t1 : t ≤ 127 := by omega
    have HT : Hid (t = (x.toNat : Int) - 240) := Lib.hid (by omega)
    clear ht
    by_cases hr : r < 0
    · have HF : Hid (refRune l = (0, 0)) := Lib.hid (by rw [hRF, if_pos hr])
      clear hRF
      go_enter Tryd.func21, Tryd.ntmps21
      go_wp2_with (go_at_call 31; refine (CL.out _ _ HM1.out).mono ?_; rintro e w' ⟨rfl, rfl⟩)
      go_ret2
      exact ⟨by rw [HF.out]; rfl, Below.refl _ _⟩
    · rw [if_neg hr] at hRF
      have HRF := Lib.hid hRF
      clear hRF
      have hr0 : 0 ≤ r := by omega
      clear hr
      go_enter Tryd.func21, Tryd.ntmps21
      go_wp2_with (go_at_call 31; refine (CL.out _ _ HM1.out).mono ?_; rintro e w' ⟨rfl, rfl⟩)
      go_loop [6, 8] (fun vt vi => ∃ (k : Nat) (v : Int), 1 ≤ k ∧ k ≤ 4 ∧ vi = .int .i64 k ∧ vt = .int .i64 v ∧ Hid (v = t * 64 ^ (k - 1)) ∧ 0 ≤ v ∧ v ≤ 33292288 ∧ (k ≤ 3 → v ≤ 520192) ∧ (k ≤ 2 → v ≤ 8128) ∧ (k ≤ 1 → v ≤ 127)) (fun _ vi => 4 - (intOf vi).toNat)
      case atStart => exact ⟨1, t, by omega, by omega, rfl, by have := HT.out; first | rfl | (congr 1; omega), by simp [Hid], by omega, by omega, by omega, by omega, by omega⟩
      case round =>
        obtain ⟨k, v, k1, k2, rfl, rfl, hv, v0, v1, v2, v3, v4⟩ := hrel
        by_cases hk : k < 4
        · have ik : (k : Int) < 4 := by omega
          go_wp2
          go_round
          case rel =>
            refine ⟨k + 1, 64 * v, by omega, by omega, by go_num, rfl, ?_, by omega, by omega, by omega, by omega, by omega⟩
            have e := hv.out
            obtain ⟨j, rfl⟩ : ∃ j, k = j + 1 := ⟨k - 1, by omega⟩
            simp only [Nat.add_sub_cancel] at e ⊢
            exact Lib.hid (by rw [e, Int.pow_succ]; rw [Int.mul_comm 64, Int.mul_assoc])
          case measure => simp [intOf]; omega
        · have hkn : k = 4 := by omega
          have ik : ¬ (k : Int) < 4 := by omega
          have HF : Hid (refRune l = refEnd (v + r) 4) := Lib.hid (by
            have e := hv.out
            rw [hkn] at e
            have e2 : v = t * 262144 := e
            rw [HRF.out, e2]; rfl)
          clear hv hkn HRF
          cases hf : fineB (v + r) with
          | false =>
            have HE : Hid (refEnd (v + r) 4 = (0, 0)) := Lib.hid (by unfold refEnd; rw [if_pos hf])
            go_wp2_with (go_at_call 14; refine (fineR_any _ _).mono ?_; rintro e w' ⟨rfl, rfl⟩)
            go_ret2
            exact ⟨by rw [HF.out, HE.out]; rfl, Below.refl _ _⟩
          | true =>
            have CP := Lib.hid (fun wx => putZ_any (v + r) hf wx)
            by_cases hpl : ((put (v + r).toNat).length : Int) = 4
            · have HE : Hid (refEnd (v + r) 4 = (v + r, 4)) := Lib.hid (by unfold refEnd; rw [if_neg (by rw [hf]; decide), if_neg (by omega)])
              generalize (put (v + r).toNat).length = pl at *
              have ipn : ((pl : Int) != 4) = false := by rw [bne_eq_false_iff_eq]; omega
              clear hpl
              go_wp2_with (first | (go_at_call 14; refine (fineR_any _ _).mono ?_; rintro e w' ⟨rfl, rfl⟩) | (go_at_call 15; refine (CP.out _).mono ?_; rintro e w' ⟨pb, pc, rfl, _, _, _, hpb⟩))
              go_ret2
              exact ⟨by rw [HF.out, HE.out]; rfl, hpb⟩
            · have HE : Hid (refEnd (v + r) 4 = (0, 0)) := Lib.hid (by unfold refEnd; rw [if_neg (by rw [hf]; decide), if_pos (by omega)])
              generalize (put (v + r).toNat).length = pl at *
              have ipn : ((pl : Int) != 4) = true := by rw [bne_iff_ne]; omega
              clear hpl
              go_wp2_with (first | (go_at_call 14; refine (fineR_any _ _).mono ?_; rintro e w' ⟨rfl, rfl⟩) | (go_at_call 15; refine (CP.out _).mono ?_; rintro e w' ⟨pb, pc, rfl, _, _, _, hpb⟩))
              go_ret2
              exact ⟨by rw [HF.out, HE.out]; rfl, hpb⟩
end Go.Proofs.YtgkfadkgkdjcoaaDoor
