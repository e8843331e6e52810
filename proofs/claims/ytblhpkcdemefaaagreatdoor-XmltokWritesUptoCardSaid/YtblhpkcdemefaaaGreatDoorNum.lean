/- Walks: strconv.ParseInt of a few digits, to the base 10 and 16. -/
import Derived.Test.YtblhpkcdemefaaaGreatDoorUtf
import Derived.Lib.ConvBytes
import Derived.BigGuard
import Derived.Laws.Closers25
import Derived.Laws.Closers25b
import Derived.Laws.Strings3
set_option linter.unusedVariables false
set_option linter.unusedSimpArgs false
namespace Go.Proofs.YtblhpkcdemefaaaGreatDoor
open Go.RowKit

theorem bytesWorld_below (w : World) (e : TypeId) (s : ByteArray) : Below w.heap.size w (Lib.bytesWorld w e s) :=
  ⟨rfl, rfl, rfl, by rw [Lib.bytesWorld_size]; omega, fun k hk => Lib.bytesWorld_at_old w e s k hk⟩

theorem lower_any (c : Int) (w : World) : Calls Tryz.prog 241 #[.int .u8 c] w fun e w' => e = .returned (.int .u8 (bits .or .u8 c 32)) ∧ w' = w := by
  go_enter Tryz.func241, Tryz.ntmps241
  go_wp2
  go_ret
  exact ⟨rfl, rfl⟩

set_option maxHeartbeats 8000000 in
set_option maxRecDepth 100000 in
theorem parseUint10_any (l : List UInt8) (s : ByteArray) (hs : s = ⟨l.toArray⟩) (w : World) (h0 : l ≠ []) (hl : l.length ≤ 7) (hd : allD 10 l = true) :
    Calls Tryz.prog 236 #[.string s, .int .i64 10, .int .i64 64] w fun e w' => e = .returned (.tuple #[.int .u64 (numL 10 l : Nat), .nilIface]) ∧ Below w.heap.size w w' := by
  subst hs
  have hpos : 0 < l.length := by cases l with | nil => exact absurd rfl h0 | cons x l => simp
  have hemp : l.isEmpty = false := by cases l with | nil => exact absurd rfl h0 | cons x l => rfl
  have hcv := Lib.run_convert_string_bytes (P := Tryz.prog) w 9 22 5 ⟨l.toArray⟩ (u := .string) Tryz.underlying9 Tryz.underlying22 Tryz.underlying5
  have hB : ∀ j, j < l.length → (Lib.bytesWorld w 5 ⟨l.toArray⟩).cell? ⟨w.heap.size, j, none⟩ = some (.int .u8 (l.getD j 0).toNat) := fun j hj => Lib.bytesWorld_cell w 5 ⟨l.toArray⟩ j (by rw [ba_size]; exact hj)
  have hbelow : Below w.heap.size w (Lib.bytesWorld w 5 ⟨l.toArray⟩) := bytesWorld_below w 5 _
  rw [ba_size] at hcv
  obtain ⟨W1, hW1⟩ : ∃ W1, W1 = Lib.bytesWorld w 5 ⟨l.toArray⟩ := ⟨_, rfl⟩
  rw [← hW1] at hcv hB hbelow
  clear hW1 h0
  have hmv : IntKind.u64.wrap (IntKind.u64.wrap 18446744073709551616 - 1) = 18446744073709551615 := by
    rw [IntKind.wrap_u64, IntKind.wrap_u64]
    decide
  have HD := Lib.hid hd
  clear hd
  go_enter Tryz.func236, Tryz.ntmps236
  go_wp2
  go_loop [12, 13, 101] (fun vu vn vi => ∃ (k : Nat) (a : Int), vu = .bool false ∧ vn = .int .u64 a ∧ vi = .int .i64 k ∧ k ≤ l.length ∧ Hid (a = (numL 10 (l.take k) : Nat))) (fun _ _ vi => l.length - (intOf vi).toNat)
  case atStart => exact ⟨0, 0, rfl, rfl, rfl, by omega, rfl⟩
  case round =>
    obtain ⟨k, a, rfl, rfl, rfl, hk, ha⟩ := hrel
    have hlt := numL_lt7 10 (by omega) (by omega) (l.take k) (allD_take HD.out k) (by rw [List.length_take]; omega)
    have a0 : 0 ≤ a := by have := ha.out; omega
    have a1 : a < 268435456 := by have := ha.out; omega
    by_cases hkn : k < l.length
    · have hc := hB k hkn
      have hget : l.getD k 0 = l[k] := by simp [List.getD, hkn]
      rw [hget] at hc
      have HN := Lib.hid (numL_take 10 l k hkn)
      have hdk := allD_get HD.out k hkn
      generalize l[k] = c at *
      have hc256 : c.toNat < 256 := c.toNat_lt
      clear hB hget hlt
      unfold digV at hdk
      by_cases hdig : 48 ≤ c.toNat ∧ c.toNat ≤ 57
      · obtain ⟨hd0, hd1⟩ := hdig
        have HV : Hid (digV c = c.toNat - 48) := Lib.hid (by unfold digV; rw [if_pos ⟨hd0, hd1⟩])
        clear hdk
        have icut : a < 1844674407370955162 := by omega
        go_wp2
        refine ⟨⟨k + 1, a * 10 + ((c.toNat : Int) - 48), rfl, (by first | rfl | (congr 1; omega)), (by first | rfl | (congr 1; omega)), by omega, ?_⟩, by simp [intOf]; omega⟩
        have e1 := ha.out; have e2 := HN.out; have e3 := HV.out
        exact Lib.hid (by rw [e2, e3]; omega)
      · exfalso
        rw [if_neg hdig] at hdk
        split at hdk
        · omega
        · split at hdk <;> omega
    · have hkk : k = l.length := by omega
      have he : l.take k = l := List.take_of_length_le (by omega)
      rw [he] at ha
      clear he
      have HA := Lib.hid ha.out
      go_wp2
      go_ret2
      exact ⟨by rw [← HA.out]; rfl, hbelow⟩

set_option maxHeartbeats 8000000 in
set_option maxRecDepth 100000 in
theorem parseUint16_any (l : List UInt8) (s : ByteArray) (hs : s = ⟨l.toArray⟩) (w : World) (h0 : l ≠ []) (hl : l.length ≤ 7) (hd : allD 16 l = true) :
    Calls Tryz.prog 236 #[.string s, .int .i64 16, .int .i64 64] w fun e w' => e = .returned (.tuple #[.int .u64 (numL 16 l : Nat), .nilIface]) ∧ Below w.heap.size w w' := by
  subst hs
  have hpos : 0 < l.length := by cases l with | nil => exact absurd rfl h0 | cons x l => simp
  have hemp : l.isEmpty = false := by cases l with | nil => exact absurd rfl h0 | cons x l => rfl
  have hcv := Lib.run_convert_string_bytes (P := Tryz.prog) w 9 22 5 ⟨l.toArray⟩ (u := .string) Tryz.underlying9 Tryz.underlying22 Tryz.underlying5
  have hB : ∀ j, j < l.length → (Lib.bytesWorld w 5 ⟨l.toArray⟩).cell? ⟨w.heap.size, j, none⟩ = some (.int .u8 (l.getD j 0).toNat) := fun j hj => Lib.bytesWorld_cell w 5 ⟨l.toArray⟩ j (by rw [ba_size]; exact hj)
  have hbelow : Below w.heap.size w (Lib.bytesWorld w 5 ⟨l.toArray⟩) := bytesWorld_below w 5 _
  rw [ba_size] at hcv
  obtain ⟨W1, hW1⟩ : ∃ W1, W1 = Lib.bytesWorld w 5 ⟨l.toArray⟩ := ⟨_, rfl⟩
  rw [← hW1] at hcv hB hbelow
  clear hW1 h0
  have hmv : IntKind.u64.wrap (IntKind.u64.wrap 18446744073709551616 - 1) = 18446744073709551615 := by
    rw [IntKind.wrap_u64, IntKind.wrap_u64]
    decide
  have HD := Lib.hid hd
  clear hd
  go_enter Tryz.func236, Tryz.ntmps236
  go_wp2
  go_loop [12, 13, 101] (fun vu vn vi => ∃ (k : Nat) (a : Int), vu = .bool false ∧ vn = .int .u64 a ∧ vi = .int .i64 k ∧ k ≤ l.length ∧ Hid (a = (numL 16 (l.take k) : Nat))) (fun _ _ vi => l.length - (intOf vi).toNat)
  case atStart => exact ⟨0, 0, rfl, rfl, rfl, by omega, rfl⟩
  case round =>
    obtain ⟨k, a, rfl, rfl, rfl, hk, ha⟩ := hrel
    have hlt := numL_lt7 16 (by omega) (by omega) (l.take k) (allD_take HD.out k) (by rw [List.length_take]; omega)
    have a0 : 0 ≤ a := by have := ha.out; omega
    have a1 : a < 268435456 := by have := ha.out; omega
    by_cases hkn : k < l.length
    · have hc := hB k hkn
      have hget : l.getD k 0 = l[k] := by simp [List.getD, hkn]
      rw [hget] at hc
      have HN := Lib.hid (numL_take 16 l k hkn)
      have hdk := allD_get HD.out k hkn
      generalize l[k] = c at *
      have hc256 : c.toNat < 256 := c.toNat_lt
      clear hB hget hlt
      unfold digV at hdk
      by_cases hdig : 48 ≤ c.toNat ∧ c.toNat ≤ 57
      · obtain ⟨hd0, hd1⟩ := hdig
        have HV : Hid (digV c = c.toNat - 48) := Lib.hid (by unfold digV; rw [if_pos ⟨hd0, hd1⟩])
        clear hdk
        have icut : a < 1152921504606846976 := by omega
        go_wp2
        refine ⟨⟨k + 1, a * 16 + ((c.toNat : Int) - 48), rfl, (by first | rfl | (congr 1; omega)), (by first | rfl | (congr 1; omega)), by omega, ?_⟩, by simp [intOf]; omega⟩
        have e1 := ha.out; have e2 := HN.out; have e3 := HV.out
        exact Lib.hid (by rw [e2, e3]; omega)
      · have hlet : (97 ≤ c.toNat ∧ c.toNat ≤ 102) ∨ (65 ≤ c.toNat ∧ c.toNat ≤ 70) := by
          rw [if_neg hdig] at hdk
          split at hdk
          · exact Or.inl (by assumption)
          · split at hdk
            · exact Or.inr (by assumption)
            · omega
        clear hdk
        obtain ⟨v, hv97, hv102, hlow, hdv⟩ : ∃ v : Nat, 97 ≤ v ∧ v ≤ 102 ∧ bits .or .u8 (c.toNat : Int) 32 = (v : Int) ∧ digV c = v - 87 := by
          rcases hlet with h | h
          · refine ⟨c.toNat, h.1, h.2, ?_, ?_⟩
            · have : c.toNat = 97 ∨ c.toNat = 98 ∨ c.toNat = 99 ∨ c.toNat = 100 ∨ c.toNat = 101 ∨ c.toNat = 102 := by omega
              rcases this with e | e | e | e | e | e <;> rw [e] <;> decide
            · unfold digV; rw [if_neg hdig, if_pos h]
          · refine ⟨c.toNat + 32, by omega, by omega, ?_, ?_⟩
            · have : c.toNat = 65 ∨ c.toNat = 66 ∨ c.toNat = 67 ∨ c.toNat = 68 ∨ c.toNat = 69 ∨ c.toNat = 70 := by omega
              rcases this with e | e | e | e | e | e <;> rw [e] <;> decide
            · unfold digV; rw [if_neg hdig, if_neg (by omega), if_pos h]; omega
        have HV := Lib.hid hdv
        have cL := fun wx => lower_any (c.toNat : Int) wx
        rw [hlow] at cL
        have CL := Lib.hid cL
        have i95 : ((c.toNat : Int) == 95) = false := by rw [beq_eq_false_iff_ne]; omega
        have idig : ¬ ((48 : Int) ≤ (c.toNat : Int) ∧ (c.toNat : Int) ≤ 57) := by omega
        have icut : a < 1152921504606846976 := by omega
        have hge : 58 ≤ c.toNat := by omega
        clear hdv cL hlow hdig hlet
        · go_wp2_with (go_at_call 241; refine (CL.out _).mono ?_; rintro e w' ⟨rfl, rfl⟩)
          refine ⟨⟨k + 1, a * 16 + ((v : Int) - 97 + 10), rfl, (by first | rfl | (congr 1; omega)), (by first | rfl | (congr 1; omega)), by omega, ?_⟩, by simp [intOf]; omega⟩
          have e1 := ha.out; have e2 := HN.out; have e3 := HV.out
          exact Lib.hid (by rw [e2, e3]; omega)
    · have hkk : k = l.length := by omega
      have he : l.take k = l := List.take_of_length_le (by omega)
      rw [he] at ha
      clear he
      have HA := Lib.hid ha.out
      go_wp2
      go_ret2
      exact ⟨by rw [← HA.out]; rfl, hbelow⟩

end Go.Proofs.YtblhpkcdemefaaaGreatDoor
