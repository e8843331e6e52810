/- Walks: strconv.ParseInt of a few digits, to the base 10 and 16: the two functions above ParseUint. -/
import Derived.Test.YtblhpkcdemefaaaGreatDoorNum
import Derived.Deep.DeepFit
set_option linter.unusedVariables false
set_option linter.unusedSimpArgs false
namespace Go.Proofs.YtblhpkcdemefaaaGreatDoor
open Go.RowKit

set_option maxHeartbeats 4000000 in
set_option maxRecDepth 100000 in
theorem parseIntIn10_any (l : List UInt8) (s : ByteArray) (hs : s = ⟨l.toArray⟩) (w : World) (h0 : l ≠ []) (hl : l.length ≤ 7) (hd : allD 10 l = true) :
    Calls Tryz.prog 225 #[.string s, .int .i64 10, .int .i64 64] w fun e w' => e = .returned (.tuple #[.int .i64 (numL 10 l : Nat), .nilIface]) ∧ Below w.heap.size w w' := by
  subst hs
  have cU := fun wx => parseUint10_any l ⟨l.toArray⟩ rfl wx h0 hl hd
  have hlt := numL_lt7 10 (by omega) (by omega) l hd hl
  have hz := ba_size l
  cases l with
  | nil => exact absurd rfl h0
  | cons c r =>
    have hg := allD_get hd 0 (by simp)
    have hc : 48 ≤ c.toNat := by
      have hg' : digV c < 10 := hg
      unfold digV at hg'
      split at hg'
      · omega
      · split at hg'
        · omega
        · split at hg'
          · omega
          · omega
    have hc2 := c.toNat_lt
    have CU := Lib.hid cU
    have hpos : (0 : Int) < ((⟨(c :: r).toArray⟩ : ByteArray).size : Int) := by rw [hz]; simp
    have hg0 : (⟨(c :: r).toArray⟩ : ByteArray)[0]'(by rw [ba_size]; simp) = c := rfl
    have i43 : ((c.toNat : Int) == 43) = false := by rw [beq_eq_false_iff_ne]; omega
    have i45 : ((c.toNat : Int) == 45) = false := by rw [beq_eq_false_iff_ne]; omega
    generalize numL 10 (c :: r) = v at *
    obtain ⟨a, ha⟩ : ∃ a : Int, a = (v : Int) := ⟨_, rfl⟩
    rw [← ha] at CU ⊢
    clear cU hg hd hl h0 hz
    have a0 : 0 ≤ a := by omega
    have a1 : a < 268435456 := by omega
    clear ha hlt
    go_enter Tryz.func225, Tryz.ntmps225
    go_wp2_with (go_at_call 236; refine (CU.out _).mono ?_; rintro e w' ⟨rfl, hb⟩)
    go_ret2
    exact ⟨rfl, hb⟩

theorem parseInt10_any (l : List UInt8) (s : ByteArray) (hs : s = ⟨l.toArray⟩) (w : World) (h0 : l ≠ []) (hl : l.length ≤ 7) (hd : allD 10 l = true) :
    Calls Tryz.prog 204 #[.string s, .int .i64 10, .int .i64 64] w fun e w' => e = .returned (.tuple #[.int .i64 (numL 10 l : Nat), .nilIface]) ∧ Below w.heap.size w w' := by
  have CU := Lib.hid (fun wx => parseIntIn10_any l s hs wx h0 hl hd)
  generalize numL 10 l = v at *
  clear h0 hl hd hs
  go_enter Tryz.func204, Tryz.ntmps204
  go_wp2_with (go_at_call 225; refine (CU.out _).mono ?_; rintro e w' ⟨rfl, hb⟩)
  go_ret2
  exact ⟨rfl, hb⟩

set_option maxHeartbeats 4000000 in
set_option maxRecDepth 100000 in
theorem parseIntIn16_any (l : List UInt8) (s : ByteArray) (hs : s = ⟨l.toArray⟩) (w : World) (h0 : l ≠ []) (hl : l.length ≤ 7) (hd : allD 16 l = true) :
    Calls Tryz.prog 225 #[.string s, .int .i64 16, .int .i64 64] w fun e w' => e = .returned (.tuple #[.int .i64 (numL 16 l : Nat), .nilIface]) ∧ Below w.heap.size w w' := by
  subst hs
  have cU := fun wx => parseUint16_any l ⟨l.toArray⟩ rfl wx h0 hl hd
  have hlt := numL_lt7 16 (by omega) (by omega) l hd hl
  have hz := ba_size l
  cases l with
  | nil => exact absurd rfl h0
  | cons c r =>
    have hg := allD_get hd 0 (by simp)
    have hc : 48 ≤ c.toNat := by
      have hg' : digV c < 16 := hg
      unfold digV at hg'
      split at hg'
      · omega
      · split at hg'
        · omega
        · split at hg'
          · omega
          · omega
    have hc2 := c.toNat_lt
    have CU := Lib.hid cU
    have hpos : (0 : Int) < ((⟨(c :: r).toArray⟩ : ByteArray).size : Int) := by rw [hz]; simp
    have hg0 : (⟨(c :: r).toArray⟩ : ByteArray)[0]'(by rw [ba_size]; simp) = c := rfl
    have i43 : ((c.toNat : Int) == 43) = false := by rw [beq_eq_false_iff_ne]; omega
    have i45 : ((c.toNat : Int) == 45) = false := by rw [beq_eq_false_iff_ne]; omega
    generalize numL 16 (c :: r) = v at *
    obtain ⟨a, ha⟩ : ∃ a : Int, a = (v : Int) := ⟨_, rfl⟩
    rw [← ha] at CU ⊢
    clear cU hg hd hl h0 hz
    have a0 : 0 ≤ a := by omega
    have a1 : a < 268435456 := by omega
    clear ha hlt
    go_enter Tryz.func225, Tryz.ntmps225
    go_wp2_with (go_at_call 236; refine (CU.out _).mono ?_; rintro e w' ⟨rfl, hb⟩)
    go_ret2
    exact ⟨rfl, hb⟩

theorem parseInt16_any (l : List UInt8) (s : ByteArray) (hs : s = ⟨l.toArray⟩) (w : World) (h0 : l ≠ []) (hl : l.length ≤ 7) (hd : allD 16 l = true) :
    Calls Tryz.prog 204 #[.string s, .int .i64 16, .int .i64 64] w fun e w' => e = .returned (.tuple #[.int .i64 (numL 16 l : Nat), .nilIface]) ∧ Below w.heap.size w w' := by
  have CU := Lib.hid (fun wx => parseIntIn16_any l s hs wx h0 hl hd)
  generalize numL 16 l = v at *
  clear h0 hl hd hs
  go_enter Tryz.func204, Tryz.ntmps204
  go_wp2_with (go_at_call 225; refine (CU.out _).mono ?_; rintro e w' ⟨rfl, hb⟩)
  go_ret2
  exact ⟨rfl, hb⟩
end Go.Proofs.YtblhpkcdemefaaaGreatDoor
