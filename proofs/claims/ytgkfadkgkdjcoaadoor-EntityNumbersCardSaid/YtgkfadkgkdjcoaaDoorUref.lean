/- Walks: the document's answer of layer 1 (tipstaveref01). -/
import Derived.Test.YtgkfadkgkdjcoaaDoorNum
import Derived.Test.YtgkfadkgkdjcoaaDoorPure
set_option linter.unusedVariables false
set_option linter.unusedSimpArgs false
namespace Go.Proofs.YtgkfadkgkdjcoaaDoor
open Go.RowKit

set_option maxHeartbeats 4000000 in
theorem fineR_any (c : Int) (w : World) :
    Calls Tryd.prog 14 #[.int .i64 c] w fun e w' => e = .returned (.bool (fineB c)) ∧ w' = w := by
  by_cases h9 : c = 9
  · subst h9
    go_enter Tryd.func14, Tryd.ntmps14
    go_wp2
    go_ret
    exact ⟨retb (by decide), rfl⟩
  · by_cases h10 : c = 10
    · subst h10
      go_enter Tryd.func14, Tryd.ntmps14
      go_wp2
      go_ret
      exact ⟨retb (by decide), rfl⟩
    · by_cases h13 : c = 13
      · subst h13
        go_enter Tryd.func14, Tryd.ntmps14
        go_wp2
        go_ret
        exact ⟨retb (by decide), rfl⟩
      · have i9 : (c == 9) = false := by rw [beq_eq_false_iff_ne]; exact h9
        have i10 : (c == 10) = false := by rw [beq_eq_false_iff_ne]; exact h10
        have i13 : (c == 13) = false := by rw [beq_eq_false_iff_ne]; exact h13
        by_cases a1 : c < 32
        · have HF : Hid (fineB c = false) := Lib.hid ((fineB_not c).2 (by omega))
          go_enter Tryd.func14, Tryd.ntmps14
          go_wp2
          go_ret
          exact ⟨retb HF.out.symm, rfl⟩
        · by_cases a2 : c ≤ 55295
          · have HF : Hid (fineB c = true) := Lib.hid ((fineB_iff c).2 (by omega))
            go_enter Tryd.func14, Tryd.ntmps14
            go_wp2
            go_ret
            exact ⟨retb HF.out.symm, rfl⟩
          · by_cases a3 : c < 57344
            · have HF : Hid (fineB c = false) := Lib.hid ((fineB_not c).2 (by omega))
              go_enter Tryd.func14, Tryd.ntmps14
              go_wp2
              go_ret
              exact ⟨retb HF.out.symm, rfl⟩
            · by_cases a4 : c ≤ 65533
              · have HF : Hid (fineB c = true) := Lib.hid ((fineB_iff c).2 (by omega))
                go_enter Tryd.func14, Tryd.ntmps14
                go_wp2
                go_ret
                exact ⟨retb HF.out.symm, rfl⟩
              · by_cases a5 : c < 65536
                · have HF : Hid (fineB c = false) := Lib.hid ((fineB_not c).2 (by omega))
                  go_enter Tryd.func14, Tryd.ntmps14
                  go_wp2
                  go_ret
                  exact ⟨retb HF.out.symm, rfl⟩
                · by_cases a6 : c ≤ 1114111
                  · have HF : Hid (fineB c = true) := Lib.hid ((fineB_iff c).2 (by omega))
                    go_enter Tryd.func14, Tryd.ntmps14
                    go_wp2
                    go_ret
                    exact ⟨retb HF.out.symm, rfl⟩
                  · have HF : Hid (fineB c = false) := Lib.hid ((fineB_not c).2 (by omega))
                    go_enter Tryd.func14, Tryd.ntmps14
                    go_wp2
                    go_ret
                    exact ⟨retb HF.out.symm, rfl⟩

/-- A number's six bits, or that a byte is none of such. -/
def lowGo : List UInt8 → Int → Int
  | [], n => n
  | b :: l, n => if 128 ≤ b.toNat ∧ b.toNat ≤ 191 then lowGo l (64 * n + b.toNat - 128) else -1

theorem lowGo_pos {b : UInt8} {l : List UInt8} (n : Int) (h : 128 ≤ b.toNat ∧ b.toNat ≤ 191) : lowGo (b :: l) n = lowGo l (64 * n + b.toNat - 128) := if_pos h

set_option maxHeartbeats 4000000 in
theorem low_any (l : List UInt8) (b off cap : Nat) (w : World) (hl : l.length ≤ 3) (hm : bytesAt w b off l) :
    Calls Tryd.prog 31 #[.slice (some ⟨b, off, none⟩) l.length cap] w fun e w' => e = .returned (.int .i64 (lowGo l 0)) ∧ w' = w := by
  go_enter Tryd.func31, Tryd.ntmps31
  go_wp2
  go_loop [3, 4] (fun vn vi => ∃ (k : Nat) (n : Int), k ≤ l.length ∧ vi = .int .i64 k ∧ vn = .int .i64 n ∧ Hid (lowGo l 0 = lowGo (l.drop k) n) ∧ 0 ≤ n ∧ n ≤ 262143 ∧ (k ≤ 2 → n ≤ 4095) ∧ (k ≤ 1 → n ≤ 63) ∧ (k ≤ 0 → n ≤ 0)) (fun _ vi => l.length - (intOf vi).toNat)
  case atStart => exact ⟨0, 0, by omega, rfl, rfl, rfl, by omega, by omega, by omega, by omega, by omega⟩
  case round =>
    obtain ⟨k, n, hk, rfl, rfl, hh, n0, n1, n2, n3, n4⟩ := hrel
    by_cases hkn : k < l.length
    · have hc := hm k hkn
      have hget : l.getD k 0 = l[k] := by simp [List.getD, hkn]
      rw [hget] at hc
      have hdrop : l.drop k = l[k] :: l.drop (k + 1) := List.drop_eq_getElem_cons hkn
      have HD := Lib.hid hdrop
      generalize l[k] = c at *
      have hc256 := c.toNat_lt
      clear hget hdrop hm
      by_cases h1 : c.toNat < 128
      · have HF : Hid (lowGo l 0 = -1) := Lib.hid (by rw [hh.out, HD.out]; unfold lowGo; rw [if_neg (by omega)])
        have i1 : (c.toNat : Int) < 128 := by omega
        go_wp2
        go_ret
        exact ⟨by rw [HF.out]; rfl, rfl⟩
      · by_cases h2 : 191 < c.toNat
        · have HF : Hid (lowGo l 0 = -1) := Lib.hid (by rw [hh.out, HD.out]; unfold lowGo; rw [if_neg (by omega)])
          have i1 : ¬ (c.toNat : Int) < 128 := by omega
          have i2 : (191 : Int) < (c.toNat : Int) := by omega
          go_wp2
          go_ret
          exact ⟨by rw [HF.out]; rfl, rfl⟩
        · have HF : Hid (lowGo l 0 = lowGo (l.drop (k + 1)) (64 * n + c.toNat - 128)) := Lib.hid (by rw [hh.out, HD.out, lowGo_pos _ (by omega)])
          have i1 : ¬ (c.toNat : Int) < 128 := by omega
          have i2 : ¬ (191 : Int) < (c.toNat : Int) := by omega
          go_wp2
          go_round
          case rel => exact ⟨k + 1, 64 * n + c.toNat - 128, by omega, by go_num, rfl, HF, by omega, by omega, by omega, by omega, by omega⟩
          case measure => simp [intOf]; omega
    · have HF : Hid (lowGo l 0 = n) := Lib.hid (by rw [hh.out, List.drop_eq_nil_of_le (by omega)]; rfl)
      go_wp2
      go_ret
      exact ⟨by rw [HF.out]; rfl, rfl⟩

theorem bytesAt_new (w : World) (arr : Array Value) (t : TypeId) (l : List UInt8) (h : arr.toList = Lib.byteCells l) : bytesAt (w.alloc (.cells arr t)) w.heap.size 0 l := by
  intro j hj
  have e : (w.alloc (.cells arr t)).cell? ⟨w.heap.size, 0 + j, none⟩ = arr[j]? := by
    unfold World.cell?
    rw [(MapKept.heap_alloc w _).1]
    simp
  rw [e, ← Array.getElem?_toList, h]
  unfold Lib.byteCells
  rw [List.getElem?_map, List.getElem?_eq_getElem hj]
  simp [List.getD, hj]

theorem u8m (x : Int) (h0 : 0 ≤ x) (h1 : x < 256) : Value.int .u8 (x % 256) = Value.int .u8 x := by rw [Int.emod_eq_of_lt h0 h1]

theorem put_cells (c : Nat) : Lib.byteCells (put c) = (Lib.encodeRuneZ (c : Int)).map fun x => Value.int .u8 x := Lib.byteCells_encodeRune (c : Int)
theorem put_length (c : Nat) : (put c).length = (Lib.encodeRuneZ (c : Int)).length := by unfold put Lib.encodeRune; rw [List.length_map]

set_option maxHeartbeats 4000000 in
set_option maxRecDepth 100000 in
theorem put_any (c : Nat) (hf : fineB c = true) (w : World) :
    Calls Tryd.prog 15 #[.int .i64 c] w fun e w' => ∃ b cap, e = .returned (.slice (some ⟨b, 0, none⟩) (put c).length cap) ∧ w.heap.size ≤ b ∧ (put c).length ≤ cap ∧ bytesAt w' b 0 (put c) ∧ Below w.heap.size w w' := by
  obtain ⟨a, ha⟩ : ∃ a : Int, a = (c : Int) := ⟨_, rfl⟩
  have hb := (fineB_iff _).1 hf
  have hcells := put_cells c
  have hlen := put_length c
  rw [← ha] at hb hcells hlen ⊢
  by_cases h1 : a < 128
  · rw [Lib.encodeRuneZ_one (by omega) (by omega)] at hcells hlen
    have HC := Lib.hid hcells
    have HL := Lib.hid hlen
    have b0 : 0 ≤ a := by omega
    clear hcells hlen ha hb
    go_enter Tryd.func15, Tryd.ntmps15
    go_wp2
    go_ret
    refine ⟨w.heap.size, 1, ?_, Nat.le_refl _, by rw [HL.out]; simp, bytesAt_new _ _ _ _ (by rw [HC.out]; rfl), (Below.refl _ _).alloc (Nat.le_refl _) _⟩
    rw [HL.out]; rfl
  · by_cases h2 : a < 2048
    · rw [Lib.encodeRuneZ_two (by omega) (by omega)] at hcells hlen
      have HC := Lib.hid hcells
      have HL := Lib.hid hlen
      have b0 : 0 ≤ a := by omega
      clear hcells hlen ha hb
      go_enter Tryd.func15, Tryd.ntmps15
      go_wp2
      go_ret
      refine ⟨w.heap.size, 2, ?_, Nat.le_refl _, by rw [HL.out]; simp, bytesAt_new _ _ _ _ (by rw [HC.out]; rfl), (Below.refl _ _).alloc (Nat.le_refl _) _⟩
      rw [HL.out]; rfl
    · by_cases h3 : a < 65536
      · rw [Lib.encodeRuneZ_three (by omega)] at hcells hlen
        have HC := Lib.hid hcells
        have HL := Lib.hid hlen
        have b0 : 0 ≤ a := by omega
        clear hcells hlen ha hb
        go_enter Tryd.func15, Tryd.ntmps15
        go_wp2
        go_ret
        refine ⟨w.heap.size, 3, ?_, Nat.le_refl _, by rw [HL.out]; simp, bytesAt_new _ _ _ _ (by rw [HC.out]; rfl), (Below.refl _ _).alloc (Nat.le_refl _) _⟩
        rw [HL.out]; rfl
      · rw [Lib.encodeRuneZ_four (by omega) (by omega)] at hcells hlen
        have HC := Lib.hid hcells
        have HL := Lib.hid hlen
        have b0 : a ≤ 1114111 := by omega
        clear hcells hlen ha hb
        go_enter Tryd.func15, Tryd.ntmps15
        go_wp2
        go_ret
        refine ⟨w.heap.size, 4, ?_, Nat.le_refl _, by rw [HL.out]; simp, bytesAt_new _ _ _ _ (by rw [HC.out]; rfl), (Below.refl _ _).alloc (Nat.le_refl _) _⟩
        rw [HL.out]; rfl
end Go.Proofs.YtgkfadkgkdjcoaaDoor
