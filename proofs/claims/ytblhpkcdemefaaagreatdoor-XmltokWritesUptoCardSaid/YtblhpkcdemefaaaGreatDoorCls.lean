/- Walks: classes of characters (utf.First, Next, Start, Part). -/
import Derived.Test.YtblhpkcdemefaaaGreatDoorUtf
import Derived.Test.YtblhpkcdemefaaaGreatDoorXp
set_option linter.unusedVariables false
set_option linter.unusedSimpArgs false
namespace Go.Proofs.YtblhpkcdemefaaaGreatDoor
open Go.RowKit

set_option maxHeartbeats 4000000 in
theorem first_any (c : Int) (w : World) :
    Calls Tryz.prog 146 #[.int .i64 c] w fun e w' => e = .returned (.bool (firstB c)) ∧ w' = w := by
  by_cases h192 : c < 192
  · have hF : firstB c = letterB c := by
      unfold firstB
      rw [decide_eq_false (fun h => by omega), Bool.false_and, Bool.or_false]
    rw [hF]
    have key : ∀ b : Bool, (b = true ↔ ((97 ≤ c ∧ c ≤ 122) ∨ (65 ≤ c ∧ c ≤ 90) ∨ c = 95)) → letterB c = b := by
      intro b hb
      unfold letterB
      rw [Bool.eq_iff_iff, decide_eq_true_iff]
      exact hb.symm
    have hcl : c < 65 ∨ (65 ≤ c ∧ c ≤ 90) ∨ (90 < c ∧ c < 95) ∨ c = 95 ∨ c = 96 ∨ (97 ≤ c ∧ c ≤ 122) ∨ (122 < c) := by omega
    rcases hcl with h | ⟨h, h'⟩ | ⟨h, h'⟩ | h | h | ⟨h, h'⟩ | h
    · have HF := Lib.hid (key false ⟨fun h => (by cases h), fun h => by omega⟩)
      have i95 : (c == 95) = false := by rw [beq_eq_false_iff_ne]; omega
      clear key hF
      go_enter Tryz.func146, Tryz.ntmps146
      go_wp2
      go_ret
      first | exact ⟨retb HF.out.symm, rfl⟩ | exact ⟨retb (by rw [HF.out]; simp; omega), rfl⟩
    · have HF := Lib.hid (key true ⟨fun _ => by omega, fun h => rfl⟩)
      clear key hF
      go_enter Tryz.func146, Tryz.ntmps146
      go_wp2
      go_ret
      first | exact ⟨retb HF.out.symm, rfl⟩ | exact ⟨retb (by rw [HF.out]; simp; omega), rfl⟩
    · have HF := Lib.hid (key false ⟨fun h => (by cases h), fun h => by omega⟩)
      have i95 : (c == 95) = false := by rw [beq_eq_false_iff_ne]; omega
      clear key hF
      go_enter Tryz.func146, Tryz.ntmps146
      go_wp2
      go_ret
      first | exact ⟨retb HF.out.symm, rfl⟩ | exact ⟨retb (by rw [HF.out]; simp; omega), rfl⟩
    · subst h
      go_enter Tryz.func146, Tryz.ntmps146
      go_wp2
      go_ret
      exact ⟨retb (by decide), rfl⟩
    · subst h
      go_enter Tryz.func146, Tryz.ntmps146
      go_wp2
      go_ret
      exact ⟨retb (by decide), rfl⟩
    · have HF := Lib.hid (key true ⟨fun _ => by omega, fun h => rfl⟩)
      clear key hF
      go_enter Tryz.func146, Tryz.ntmps146
      go_wp2
      go_ret
      first | exact ⟨retb HF.out.symm, rfl⟩ | exact ⟨retb (by rw [HF.out]; simp; omega), rfl⟩
    · have HF := Lib.hid (key false ⟨fun h => (by cases h), fun h => by omega⟩)
      have i95 : (c == 95) = false := by rw [beq_eq_false_iff_ne]; omega
      clear key hF
      go_enter Tryz.func146, Tryz.ntmps146
      go_wp2
      go_ret
      first | exact ⟨retb HF.out.symm, rfl⟩ | exact ⟨retb (by rw [HF.out]; simp; omega), rfl⟩
  · have hl : letterB c = false := by unfold letterB; exact decide_eq_false (fun h => by omega)
    by_cases h215 : c = 215
    · subst h215
      go_enter Tryz.func146, Tryz.ntmps146
      go_wp2_with (go_at_call 57; refine (fine_any _ _).mono ?_; rintro e w' ⟨rfl, rfl⟩)
      go_ret
      exact ⟨retb (by decide), rfl⟩
    · by_cases h247 : c = 247
      · subst h247
        go_enter Tryz.func146, Tryz.ntmps146
        go_wp2_with (go_at_call 57; refine (fine_any _ _).mono ?_; rintro e w' ⟨rfl, rfl⟩)
        go_ret
        exact ⟨retb (by decide), rfl⟩
      · have HF : Hid (firstB c = fineB c) := Lib.hid (by unfold firstB; rw [hl, decide_eq_true ⟨by omega, h215, h247⟩]; simp)
        have i215 : (c != 215) = true := by rw [bne_iff_ne]; exact h215
        have i247 : (c != 247) = true := by rw [bne_iff_ne]; exact h247
        clear hl
        go_enter Tryz.func146, Tryz.ntmps146
        go_wp2_with (go_at_call 57; refine (fine_any _ _).mono ?_; rintro e w' ⟨rfl, rfl⟩)
        go_ret
        first | exact ⟨retb HF.out.symm, rfl⟩ | exact ⟨retb (by rw [HF.out]; simp; omega), rfl⟩

theorem next_any (c : Int) (w : World) :
    Calls Tryz.prog 145 #[.int .i64 c] w fun e w' => e = .returned (.bool (nextB c)) ∧ w' = w := by
  have C := Lib.hid (first_any c)
  cases hf : firstB c with
  | true =>
    have HF : Hid (nextB c = true) := Lib.hid (by unfold nextB; rw [hf]; rfl)
    rw [hf] at C
    clear hf
    go_enter Tryz.func145, Tryz.ntmps145
    go_wp2_with (go_at_call 146; refine (C.out _).mono ?_; rintro e w' ⟨rfl, rfl⟩)
    go_ret
    first | exact ⟨retb HF.out.symm, rfl⟩ | exact ⟨retb (by rw [HF.out]; simp; omega), rfl⟩
  | false =>
    have HF : Hid (nextB c = decide (48 ≤ c ∧ c ≤ 57)) := Lib.hid (by unfold nextB; rw [hf]; rfl)
    rw [hf] at C
    clear hf
    have hc : c < 48 ∨ (48 ≤ c ∧ c ≤ 57) ∨ 57 < c := by omega
    rcases hc with h | ⟨h, h'⟩ | h
    · rw [decide_eq_false (by omega)] at HF
      go_enter Tryz.func145, Tryz.ntmps145
      go_wp2_with (go_at_call 146; refine (C.out _).mono ?_; rintro e w' ⟨rfl, rfl⟩)
      go_ret
      first | exact ⟨retb HF.out.symm, rfl⟩ | exact ⟨retb (by rw [HF.out]; simp; omega), rfl⟩
    · rw [decide_eq_true (by omega)] at HF
      go_enter Tryz.func145, Tryz.ntmps145
      go_wp2_with (go_at_call 146; refine (C.out _).mono ?_; rintro e w' ⟨rfl, rfl⟩)
      go_ret
      first | exact ⟨retb HF.out.symm, rfl⟩ | exact ⟨retb (by rw [HF.out]; simp; omega), rfl⟩
    · rw [decide_eq_false (by omega)] at HF
      go_enter Tryz.func145, Tryz.ntmps145
      go_wp2_with (go_at_call 146; refine (C.out _).mono ?_; rintro e w' ⟨rfl, rfl⟩)
      go_ret
      first | exact ⟨retb HF.out.symm, rfl⟩ | exact ⟨retb (by rw [HF.out]; simp; omega), rfl⟩

theorem start_any (c : Int) (w : World) :
    Calls Tryz.prog 111 #[.int .i64 c] w fun e w' => e = .returned (.bool (firstB c)) ∧ w' = w := by
  go_enter Tryz.func111, Tryz.ntmps111
  go_wp2_with (go_at_call 146; refine (first_any c _).mono ?_; rintro e w' ⟨rfl, rfl⟩)
  go_ret
  exact ⟨rfl, rfl⟩

theorem part_any (c : Int) (w : World) :
    Calls Tryz.prog 110 #[.int .i64 c] w fun e w' => e = .returned (.bool (partB c)) ∧ w' = w := by
  have C := Lib.hid (next_any c)
  cases hf : nextB c with
  | true =>
    have HF : Hid (partB c = true) := Lib.hid (by unfold partB; rw [hf]; rfl)
    rw [hf] at C
    clear hf
    go_enter Tryz.func110, Tryz.ntmps110
    go_wp2_with (go_at_call 145; refine (C.out _).mono ?_; rintro e w' ⟨rfl, rfl⟩)
    go_ret
    first | exact ⟨retb HF.out.symm, rfl⟩ | exact ⟨retb (by rw [HF.out]; simp; omega), rfl⟩
  | false =>
    have HF : Hid (partB c = decide (c = 45 ∨ c = 46 ∨ c = 183)) := Lib.hid (by unfold partB; rw [hf]; rfl)
    rw [hf] at C
    clear hf
    by_cases h45 : c = 45
    · subst h45
      go_enter Tryz.func110, Tryz.ntmps110
      go_wp2_with (go_at_call 145; refine (C.out _).mono ?_; rintro e w' ⟨rfl, rfl⟩)
      go_ret
      first | exact ⟨retb HF.out.symm, rfl⟩ | exact ⟨retb (by rw [HF.out]; simp; omega), rfl⟩
    · by_cases h46 : c = 46
      · subst h46
        go_enter Tryz.func110, Tryz.ntmps110
        go_wp2_with (go_at_call 145; refine (C.out _).mono ?_; rintro e w' ⟨rfl, rfl⟩)
        go_ret
        first | exact ⟨retb HF.out.symm, rfl⟩ | exact ⟨retb (by rw [HF.out]; simp; omega), rfl⟩
      · by_cases h183 : c = 183
        · subst h183
          go_enter Tryz.func110, Tryz.ntmps110
          go_wp2_with (go_at_call 145; refine (C.out _).mono ?_; rintro e w' ⟨rfl, rfl⟩)
          go_ret
          first | exact ⟨retb HF.out.symm, rfl⟩ | exact ⟨retb (by rw [HF.out]; simp; omega), rfl⟩
        · rw [decide_eq_false (by omega)] at HF
          have i45 : (c == 45) = false := by rw [beq_eq_false_iff_ne]; exact h45
          have i46 : (c == 46) = false := by rw [beq_eq_false_iff_ne]; exact h46
          have i183 : (c == 183) = false := by rw [beq_eq_false_iff_ne]; exact h183
          go_enter Tryz.func110, Tryz.ntmps110
          go_wp2_with (go_at_call 145; refine (C.out _).mono ?_; rintro e w' ⟨rfl, rfl⟩)
          go_ret
          first | exact ⟨retb HF.out.symm, rfl⟩ | exact ⟨retb (by rw [HF.out]; simp; omega), rfl⟩

end Go.Proofs.YtblhpkcdemefaaaGreatDoor
