/- Walks: the document's answer of layer 1 (tipstaveref01). Walks: tipstaveref01.Rune and Check. Walks: tipstaveref01.Rune at a character of one byte. Walks: tipstaveref01.Rune at a character of 2 bytes. Walks: tipstaveref01.Rune at a character of 3 bytes. Walks: tipstaveref01.Rune at a character of 4 bytes. tipstaveref01.Rune is the character at the head; tipstaveref01.Check. Walks: tipstaveref01.Check. -/
import Derived.Test.YtblhpkcdemefaaaGreatDoorNum
import Derived.Test.YtblhpkcdemefaaaGreatDoorPure
set_option linter.unusedVariables false
set_option linter.unusedSimpArgs false
namespace Go.Proofs.YtblhpkcdemefaaaGreatDoor
open Go.RowKit

set_option maxHeartbeats 4000000 in
theorem fineR_any (c : Int) (w : World) :
    Calls Tryz.prog 184 #[.int .i64 c] w fun e w' => e = .returned (.bool (fineB c)) ∧ w' = w := by
  by_cases h9 : c = 9
  · subst h9
    go_enter Tryz.func184, Tryz.ntmps184
    go_wp2
    go_ret
    exact ⟨retb (by decide), rfl⟩
  · by_cases h10 : c = 10
    · subst h10
      go_enter Tryz.func184, Tryz.ntmps184
      go_wp2
      go_ret
      exact ⟨retb (by decide), rfl⟩
    · by_cases h13 : c = 13
      · subst h13
        go_enter Tryz.func184, Tryz.ntmps184
        go_wp2
        go_ret
        exact ⟨retb (by decide), rfl⟩
      · have i9 : (c == 9) = false := by rw [beq_eq_false_iff_ne]; exact h9
        have i10 : (c == 10) = false := by rw [beq_eq_false_iff_ne]; exact h10
        have i13 : (c == 13) = false := by rw [beq_eq_false_iff_ne]; exact h13
        by_cases a1 : c < 32
        · have HF : Hid (fineB c = false) := Lib.hid ((fineB_not c).2 (by omega))
          go_enter Tryz.func184, Tryz.ntmps184
          go_wp2
          go_ret
          exact ⟨retb HF.out.symm, rfl⟩
        · by_cases a2 : c ≤ 55295
          · have HF : Hid (fineB c = true) := Lib.hid ((fineB_iff c).2 (by omega))
            go_enter Tryz.func184, Tryz.ntmps184
            go_wp2
            go_ret
            exact ⟨retb HF.out.symm, rfl⟩
          · by_cases a3 : c < 57344
            · have HF : Hid (fineB c = false) := Lib.hid ((fineB_not c).2 (by omega))
              go_enter Tryz.func184, Tryz.ntmps184
              go_wp2
              go_ret
              exact ⟨retb HF.out.symm, rfl⟩
            · by_cases a4 : c ≤ 65533
              · have HF : Hid (fineB c = true) := Lib.hid ((fineB_iff c).2 (by omega))
                go_enter Tryz.func184, Tryz.ntmps184
                go_wp2
                go_ret
                exact ⟨retb HF.out.symm, rfl⟩
              · by_cases a5 : c < 65536
                · have HF : Hid (fineB c = false) := Lib.hid ((fineB_not c).2 (by omega))
                  go_enter Tryz.func184, Tryz.ntmps184
                  go_wp2
                  go_ret
                  exact ⟨retb HF.out.symm, rfl⟩
                · by_cases a6 : c ≤ 1114111
                  · have HF : Hid (fineB c = true) := Lib.hid ((fineB_iff c).2 (by omega))
                    go_enter Tryz.func184, Tryz.ntmps184
                    go_wp2
                    go_ret
                    exact ⟨retb HF.out.symm, rfl⟩
                  · have HF : Hid (fineB c = false) := Lib.hid ((fineB_not c).2 (by omega))
                    go_enter Tryz.func184, Tryz.ntmps184
                    go_wp2
                    go_ret
                    exact ⟨retb HF.out.symm, rfl⟩

/-- A number's six bits, or that a byte is none of such. -/
def lowGo : List UInt8 → Int → Int
  | [], n => n
  | b :: l, n => if 128 ≤ b.toNat ∧ b.toNat ≤ 191 then lowGo l (64 * n + b.toNat - 128) else -1

theorem lowGo_pos {b : UInt8} {l : List UInt8} (n : Int) (h : 128 ≤ b.toNat ∧ b.toNat ≤ 191) : lowGo (b :: l) n = lowGo l (64 * n + b.toNat - 128) := if_pos h

set_option maxHeartbeats 4000000 in
theorem low_any (l : List UInt8) (b off cap : Nat) (w : World) (hl : l.length ≤ 3) (hm : bytesAt w b off l) :
    Calls Tryz.prog 183 #[.slice (some ⟨b, off, none⟩) l.length cap] w fun e w' => e = .returned (.int .i64 (lowGo l 0)) ∧ w' = w := by
  go_enter Tryz.func183, Tryz.ntmps183
  go_wp2
  go_loop [3, 4] (fun vn vi => ∃ (k : Nat) (n : Int), k ≤ l.length ∧ vi = .int .i64 k ∧ vn = .int .i64 n ∧ Hid (lowGo l 0 = lowGo (l.drop k) n) ∧ 0 ≤ n ∧ n ≤ 262143 ∧ (k ≤ 2 → n ≤ 4095) ∧ (k ≤ 1 → n ≤ 63) ∧ (k ≤ 0 → n ≤ 0)) (fun _ vi => l.length - (intOf vi).toNat)
  case atStart => exact ⟨0, 0, by omega, rfl, rfl, rfl, by omega, by omega, by omega, by omega, by omega⟩
  case round =>
    obtain ⟨k, n, hk, rfl, rfl, hh, n0, n1, n2, n3, n4⟩ := hrel
    by_cases hkn : k < l.length
    · have hc := hm k hkn
      have hget : l.getD k 0 = l[k] := by simp [List.getD, hkn]
      rw [hget] at hc
      have hdrop : l.drop k = l[k] :: l.drop (k + 1) := List.drop_eq_getElem_cons hkn
      have HD := Lib.hid hdrop
      generalize l[k] = c at *
      have hc256 := c.toNat_lt
      clear hget hdrop hm
      by_cases h1 : c.toNat < 128
      · have HF : Hid (lowGo l 0 = -1) := Lib.hid (by rw [hh.out, HD.out]; unfold lowGo; rw [if_neg (by omega)])
        have i1 : (c.toNat : Int) < 128 := by omega
        go_wp2
        go_ret
        exact ⟨by rw [HF.out]; rfl, rfl⟩
      · by_cases h2 : 191 < c.toNat
        · have HF : Hid (lowGo l 0 = -1) := Lib.hid (by rw [hh.out, HD.out]; unfold lowGo; rw [if_neg (by omega)])
          have i1 : ¬ (c.toNat : Int) < 128 := by omega
          have i2 : (191 : Int) < (c.toNat : Int) := by omega
          go_wp2
          go_ret
          exact ⟨by rw [HF.out]; rfl, rfl⟩
        · have HF : Hid (lowGo l 0 = lowGo (l.drop (k + 1)) (64 * n + c.toNat - 128)) := Lib.hid (by rw [hh.out, HD.out, lowGo_pos _ (by omega)])
          have i1 : ¬ (c.toNat : Int) < 128 := by omega
          have i2 : ¬ (191 : Int) < (c.toNat : Int) := by omega
          go_wp2
          go_round
          case rel => exact ⟨k + 1, 64 * n + c.toNat - 128, by omega, by go_num, rfl, HF, by omega, by omega, by omega, by omega, by omega⟩
          case measure => simp [intOf]; omega
    · have HF : Hid (lowGo l 0 = n) := Lib.hid (by rw [hh.out, List.drop_eq_nil_of_le (by omega)]; rfl)
      go_wp2
      go_ret
      exact ⟨by rw [HF.out]; rfl, rfl⟩

theorem bytesAt_new (w : World) (arr : Array Value) (t : TypeId) (l : List UInt8) (h : arr.toList = Lib.byteCells l) : bytesAt (w.alloc (.cells arr t)) w.heap.size 0 l := by
  intro j hj
  have e : (w.alloc (.cells arr t)).cell? ⟨w.heap.size, 0 + j, none⟩ = arr[j]? := by
    unfold World.cell?
    rw [(MapKept.heap_alloc w _).1]
    simp
  rw [e, ← Array.getElem?_toList, h]
  unfold Lib.byteCells
  rw [List.getElem?_map, List.getElem?_eq_getElem hj]
  simp [List.getD, hj]

theorem u8m (x : Int) (h0 : 0 ≤ x) (h1 : x < 256) : Value.int .u8 (x % 256) = Value.int .u8 x := by rw [Int.emod_eq_of_lt h0 h1]

theorem put_cells (c : Nat) : Lib.byteCells (put c) = (Lib.encodeRuneZ (c : Int)).map fun x => Value.int .u8 x := Lib.byteCells_encodeRune (c : Int)
theorem put_length (c : Nat) : (put c).length = (Lib.encodeRuneZ (c : Int)).length := by unfold put Lib.encodeRune; rw [List.length_map]

set_option maxHeartbeats 4000000 in
set_option maxRecDepth 100000 in
theorem put_any (c : Nat) (hf : fineB c = true) (w : World) :
    Calls Tryz.prog 185 #[.int .i64 c] w fun e w' => ∃ b cap, e = .returned (.slice (some ⟨b, 0, none⟩) (put c).length cap) ∧ w.heap.size ≤ b ∧ (put c).length ≤ cap ∧ bytesAt w' b 0 (put c) ∧ Below w.heap.size w w' := by
  obtain ⟨a, ha⟩ : ∃ a : Int, a = (c : Int) := ⟨_, rfl⟩
  have hb := (fineB_iff _).1 hf
  have hcells := put_cells c
  have hlen := put_length c
  rw [← ha] at hb hcells hlen ⊢
  by_cases h1 : a < 128
  · rw [Lib.encodeRuneZ_one (by omega) (by omega)] at hcells hlen
    have HC := Lib.hid hcells
    have HL := Lib.hid hlen
    have b0 : 0 ≤ a := by omega
    clear hcells hlen ha hb
    go_enter Tryz.func185, Tryz.ntmps185
    go_wp2
    go_ret
    refine ⟨w.heap.size, 1, ?_, Nat.le_refl _, by rw [HL.out]; simp, bytesAt_new _ _ _ _ (by rw [HC.out]; rfl), (Below.refl _ _).alloc (Nat.le_refl _) _⟩
    rw [HL.out]; rfl
  · by_cases h2 : a < 2048
    · rw [Lib.encodeRuneZ_two (by omega) (by omega)] at hcells hlen
      have HC := Lib.hid hcells
      have HL := Lib.hid hlen
      have b0 : 0 ≤ a := by omega
      clear hcells hlen ha hb
      go_enter Tryz.func185, Tryz.ntmps185
      go_wp2
      go_ret
      refine ⟨w.heap.size, 2, ?_, Nat.le_refl _, by rw [HL.out]; simp, bytesAt_new _ _ _ _ (by rw [HC.out]; rfl), (Below.refl _ _).alloc (Nat.le_refl _) _⟩
      rw [HL.out]; rfl
    · by_cases h3 : a < 65536
      · rw [Lib.encodeRuneZ_three (by omega)] at hcells hlen
        have HC := Lib.hid hcells
        have HL := Lib.hid hlen
        have b0 : 0 ≤ a := by omega
        clear hcells hlen ha hb
        go_enter Tryz.func185, Tryz.ntmps185
        go_wp2
        go_ret
        refine ⟨w.heap.size, 3, ?_, Nat.le_refl _, by rw [HL.out]; simp, bytesAt_new _ _ _ _ (by rw [HC.out]; rfl), (Below.refl _ _).alloc (Nat.le_refl _) _⟩
        rw [HL.out]; rfl
      · rw [Lib.encodeRuneZ_four (by omega) (by omega)] at hcells hlen
        have HC := Lib.hid hcells
        have HL := Lib.hid hlen
        have b0 : a ≤ 1114111 := by omega
        clear hcells hlen ha hb
        go_enter Tryz.func185, Tryz.ntmps185
        go_wp2
        go_ret
        refine ⟨w.heap.size, 4, ?_, Nat.le_refl _, by rw [HL.out]; simp, bytesAt_new _ _ _ _ (by rw [HC.out]; rfl), (Below.refl _ _).alloc (Nat.le_refl _) _⟩
        rw [HL.out]; rfl
end Go.Proofs.YtblhpkcdemefaaaGreatDoor

namespace Go.Proofs.YtblhpkcdemefaaaGreatDoor
open Go.RowKit

theorem lowGo_bd : ∀ (l : List UInt8) (n : Int), 0 ≤ n → -1 ≤ lowGo l n ∧ lowGo l n < (n + 1) * 64 ^ l.length
  | [], n, h => by simp [lowGo]; omega
  | b :: l, n, h => by
    unfold lowGo
    split
    · rename_i hb
      have ih := lowGo_bd l (64 * n + b.toNat - 128) (by omega)
      refine ⟨ih.1, Int.lt_of_lt_of_le ih.2 ?_⟩
      rw [List.length_cons, Int.pow_succ, Int.mul_comm ((64 : Int) ^ l.length) 64, ← Int.mul_assoc]
      exact Int.mul_le_mul_of_nonneg_right (by omega) (Int.pow_nonneg (by decide))
    · refine ⟨by omega, ?_⟩
      have : (0 : Int) < (n + 1) * 64 ^ (b :: l).length := Int.mul_pos (by omega) (Int.pow_pos (by decide))
      omega

theorem lowN_any (l : List UInt8) (b off n cap : Nat) (w : World) (hn : n = l.length) (hl : l.length ≤ 3) (hm : bytesAt w b off l) :
    Calls Tryz.prog 183 #[.slice (some ⟨b, off, none⟩) n cap] w fun e w' => e = .returned (.int .i64 (lowGo l 0)) ∧ w' = w := by
  subst hn; exact low_any l b off cap w hl hm

/-- How many bytes a first byte asks for, and what it bears. -/
def cls (b0 : Nat) : Nat × Nat :=
  if b0 < 128 then (1, b0) else if b0 < 192 then (0, 0) else if b0 < 224 then (2, b0 - 192) else if b0 < 240 then (3, b0 - 224) else if b0 < 248 then (4, b0 - 240) else (0, 0)

/-- The document's reading of a character, as its text goes. -/
def refRune (l : List UInt8) : Int × Int :=
  if l = [] then (0, 0)
  else if (cls (l.getD 0 0).toNat).1 = 0 ∨ l.length < (cls (l.getD 0 0).toNat).1 then (0, 0)
  else if lowGo ((l.take (cls (l.getD 0 0).toNat).1).drop 1) 0 < 0 then (0, 0)
  else if fineB (((cls (l.getD 0 0).toNat).2 : Int) * 64 ^ ((cls (l.getD 0 0).toNat).1 - 1) + lowGo ((l.take (cls (l.getD 0 0).toNat).1).drop 1) 0) = false then (0, 0)
  else if (put (((cls (l.getD 0 0).toNat).2 : Int) * 64 ^ ((cls (l.getD 0 0).toNat).1 - 1) + lowGo ((l.take (cls (l.getD 0 0).toNat).1).drop 1) 0).toNat).length ≠ (cls (l.getD 0 0).toNat).1 then (0, 0)
  else (((cls (l.getD 0 0).toNat).2 : Int) * 64 ^ ((cls (l.getD 0 0).toNat).1 - 1) + lowGo ((l.take (cls (l.getD 0 0).toNat).1).drop 1) 0, (cls (l.getD 0 0).toNat).1)

def pairRes (r : Int × Int) : Value := .tuple #[.int .i64 r.1, .int .i64 r.2]
theorem pairRes_mk (a b : Int) : pairRes (a, b) = .tuple #[.int .i64 a, .int .i64 b] := rfl

theorem putZ_any (a : Int) (hf : fineB a = true) (w : World) :
    Calls Tryz.prog 185 #[.int .i64 a] w fun e w' => ∃ b cap, e = .returned (.slice (some ⟨b, 0, none⟩) (put a.toNat).length cap) ∧ w.heap.size ≤ b ∧ (put a.toNat).length ≤ cap ∧ bytesAt w' b 0 (put a.toNat) ∧ Below w.heap.size w w' := by
  have h0 := (fineB_le hf).1
  obtain ⟨c, rfl⟩ : ∃ c : Nat, a = c := ⟨a.toNat, by omega⟩
  exact put_any c hf w

theorem bytes_mid {w : World} {b off : Nat} {l : List UInt8} (hm : bytesAt w b off l) (n : Nat) : bytesAt w b (off + 1) ((l.take n).drop 1) := by
  intro j hj
  rw [List.length_drop, List.length_take] at hj
  have := hm (1 + j) (by omega)
  rw [Nat.add_assoc, this]
  congr 3
  have h2 : 1 + j < n := by omega
  simp only [List.getD_eq_getElem?_getD, List.getElem?_drop, List.getElem?_take]
  rw [if_pos h2]

/-- What is left to ask of a character's number. -/
def refEnd (z : Int) (n : Int) : Int × Int := if fineB z = false then (0, 0) else if ((put z.toNat).length : Int) ≠ n then (0, 0) else (z, n)

theorem refRune_at {l : List UInt8} {x : UInt8} (h0 : l ≠ []) (hx : l.getD 0 0 = x) {n top : Nat} (hc : cls x.toNat = (n, top)) (hn : n ≠ 0) (hl : n ≤ l.length) :
    refRune l = if lowGo ((l.take n).drop 1) 0 < 0 then (0, 0) else refEnd ((top : Int) * 64 ^ (n - 1) + lowGo ((l.take n).drop 1) 0) n := by
  unfold refRune refEnd
  rw [if_neg h0, hx, hc]
  simp only []
  rw [if_neg (by omega)]
  split
  · rfl
  · split
    · rfl
    · split
      · rename_i h
        rw [if_pos (by omega)]
      · rename_i h
        rw [if_neg (by omega)]

theorem refRune_short {l : List UInt8} {x : UInt8} (h0 : l ≠ []) (hx : l.getD 0 0 = x) {n top : Nat} (hc : cls x.toNat = (n, top)) (hl : n = 0 ∨ l.length < n) : refRune l = (0, 0) := by
  unfold refRune
  rw [if_neg h0, hx, hc]
  simp only []
  rw [if_pos hl]

end Go.Proofs.YtblhpkcdemefaaaGreatDoor

namespace Go.Proofs.YtblhpkcdemefaaaGreatDoor
open Go.RowKit

set_option maxHeartbeats 2000000 in
set_option maxRecDepth 100000 in
theorem runeR_1 (l : List UInt8) (x : UInt8) (b off cap : Nat) (w : World) (hl : l.length ≤ 2147483647) (hcap : l.length ≤ cap) (hm : bytesAt w b off l) (h0 : l ≠ []) (hx0 : l.getD 0 0 = x) (hA : x.toNat < 128) :
    Calls Tryz.prog 154 #[.slice (some ⟨b, off, none⟩) l.length cap] w fun e w' => e = .returned (pairRes (refRune l)) ∧ Below w.heap.size w w' := by
  have hpos : 0 < l.length := by cases l with | nil => exact absurd rfl h0 | cons x l => simp
  have hc := hm 0 hpos
  rw [Nat.add_zero, hx0] at hc
  have hcl : cls x.toNat = (1, x.toNat) := by unfold cls; rw [if_pos hA]
  have i0 : (0 : Int) < (l.length : Int) := by omega
  have i1 : ¬ ((l.length : Int) < 1) := by omega
  have il : ((l.length : Int) == 0) = false := by rw [beq_eq_false_iff_ne]; omega
  have hRF := refRune_at h0 hx0 hcl (by decide) (by omega)
  have hln : (l.take 1).drop 1 = [] := List.drop_eq_nil_of_le (by rw [List.length_take]; omega)
  rw [hln] at hRF
  have HF : Hid (refRune l = refEnd (x.toNat : Int) 1) := Lib.hid (by
    rw [hRF]
    show (if (0 : Int) < 0 then _ else _) = _
    rw [if_neg (by decide)]
    congr 1
    show (x.toNat : Int) * 64 ^ 0 + 0 = _
    omega)
  have CL : Hid (∀ off' cap', Calls Tryz.prog 183 #[.slice (some ⟨b, off', none⟩) 0 cap'] w fun e w' => e = .returned (.int .i64 0) ∧ w' = w) := Lib.hid (fun off' cap' => low_any [] b off' cap' w (by simp) (fun j hj => absurd hj (by simp)))
  clear hRF hln hcl h0 hx0 hm
  by_cases hc1 : cap = 1
  · subst hc1
    go_enter Tryz.func154, Tryz.ntmps154
    go_wp2_with (go_at_call 183; refine (CL.out _ _).mono ?_; rintro e w' ⟨rfl, rfl⟩)
    go_loop [6, 8] (fun vt vi => vt = .int .i64 (x.toNat : Int) ∧ vi = .int .i64 1) (fun _ _ => 0)
    case atStart => exact ⟨rfl, rfl⟩
    case round =>
      obtain ⟨rfl, rfl⟩ := hrel
      cases hf : fineB (x.toNat : Int) with
      | false =>
        have HE : Hid (refEnd (x.toNat : Int) 1 = (0, 0)) := Lib.hid (by unfold refEnd; rw [if_pos hf])
        go_wp2_with (go_at_call 184; refine (fineR_any _ _).mono ?_; rintro e w' ⟨rfl, rfl⟩)
        go_ret2
        exact ⟨by rw [HF.out, HE.out]; rfl, Below.refl _ _⟩
      | true =>
        have CP := Lib.hid (fun wx => putZ_any (x.toNat : Int) hf wx)
        have hpl : (put (x.toNat : Int).toNat).length = 1 := by
          rw [put_length]
          have e : (((x.toNat : Int).toNat : Nat) : Int) = (x.toNat : Int) := by omega
          rw [e, Lib.encodeRuneZ_one (by omega) (by omega)]; rfl
        have HE : Hid (refEnd (x.toNat : Int) 1 = ((x.toNat : Int), 1)) := Lib.hid (by unfold refEnd; rw [if_neg (by rw [hf]; decide), hpl, if_neg (by decide)])
        rw [hpl] at CP
        clear hpl
        go_wp2_with (first | (go_at_call 184; refine (fineR_any _ _).mono ?_; rintro e w' ⟨rfl, rfl⟩) | (go_at_call 185; refine (CP.out _).mono ?_; rintro e w' ⟨pb, pc, rfl, _, _, _, hpb⟩))
        go_ret2
        exact ⟨by rw [HF.out, HE.out]; rfl, hpb⟩
  · go_enter Tryz.func154, Tryz.ntmps154
    go_wp2_with (go_at_call 183; refine (CL.out _ _).mono ?_; rintro e w' ⟨rfl, rfl⟩)
    go_loop [6, 8] (fun vt vi => vt = .int .i64 (x.toNat : Int) ∧ vi = .int .i64 1) (fun _ _ => 0)
    case atStart => exact ⟨rfl, rfl⟩
    case round =>
      obtain ⟨rfl, rfl⟩ := hrel
      cases hf : fineB (x.toNat : Int) with
      | false =>
        have HE : Hid (refEnd (x.toNat : Int) 1 = (0, 0)) := Lib.hid (by unfold refEnd; rw [if_pos hf])
        go_wp2_with (go_at_call 184; refine (fineR_any _ _).mono ?_; rintro e w' ⟨rfl, rfl⟩)
        go_ret2
        exact ⟨by rw [HF.out, HE.out]; rfl, Below.refl _ _⟩
      | true =>
        have CP := Lib.hid (fun wx => putZ_any (x.toNat : Int) hf wx)
        have hpl : (put (x.toNat : Int).toNat).length = 1 := by
          rw [put_length]
          have e : (((x.toNat : Int).toNat : Nat) : Int) = (x.toNat : Int) := by omega
          rw [e, Lib.encodeRuneZ_one (by omega) (by omega)]; rfl
        have HE : Hid (refEnd (x.toNat : Int) 1 = ((x.toNat : Int), 1)) := Lib.hid (by unfold refEnd; rw [if_neg (by rw [hf]; decide), hpl, if_neg (by decide)])
        rw [hpl] at CP
        clear hpl
        go_wp2_with (first | (go_at_call 184; refine (fineR_any _ _).mono ?_; rintro e w' ⟨rfl, rfl⟩) | (go_at_call 185; refine (CP.out _).mono ?_; rintro e w' ⟨pb, pc, rfl, _, _, _, hpb⟩))
        go_ret2
        exact ⟨by rw [HF.out, HE.out]; rfl, hpb⟩
end Go.Proofs.YtblhpkcdemefaaaGreatDoor

namespace Go.Proofs.YtblhpkcdemefaaaGreatDoor
open Go.RowKit

set_option maxHeartbeats 2000000 in
set_option maxRecDepth 100000 in
theorem runeR_2 (l : List UInt8) (x : UInt8) (b off cap : Nat) (w : World) (hl : l.length ≤ 2147483647) (hcap : l.length ≤ cap) (hm : bytesAt w b off l) (h0 : l ≠ []) (hx0 : l.getD 0 0 = x) (hA : 192 ≤ x.toNat ∧ x.toNat < 224) :
    Calls Tryz.prog 154 #[.slice (some ⟨b, off, none⟩) l.length cap] w fun e w' => e = .returned (pairRes (refRune l)) ∧ Below w.heap.size w w' := by
  have hpos : 0 < l.length := by cases l with | nil => exact absurd rfl h0 | cons x l => simp
  have hc := hm 0 hpos
  rw [Nat.add_zero, hx0] at hc
  have hcl : cls x.toNat = (2, x.toNat - 192) := by unfold cls; (repeat' split) <;> first | rfl | omega
  have i0 : (0 : Int) < (l.length : Int) := by omega
  have il : ((l.length : Int) == 0) = false := by rw [beq_eq_false_iff_ne]; omega
  have hx := x.toNat_lt
  by_cases hlen : l.length < 2
  · have HF : Hid (refRune l = (0, 0)) := Lib.hid (refRune_short h0 hx0 hcl (Or.inr hlen))
    have ilen : (l.length : Int) < 2 := by omega
    clear hcl hm hlen h0 hx0
    go_enter Tryz.func154, Tryz.ntmps154
    go_wp2
    go_ret2
    exact ⟨by rw [HF.out]; rfl, Below.refl _ _⟩
  · have hRF := refRune_at h0 hx0 hcl (by decide) (by omega)
    have hln : ((l.take 2).drop 1).length = 1 := by rw [List.length_drop, List.length_take]; omega
    have hbd := lowGo_bd ((l.take 2).drop 1) 0 (by omega)
    rw [hln] at hbd
    have hm1 := bytes_mid hm 2
    have cL := fun off' cap' (hm' : bytesAt w b off' ((l.take 2).drop 1)) => lowN_any ((l.take 2).drop 1) b off' 1 cap' w hln.symm (by omega) hm'
    generalize lowGo ((l.take 2).drop 1) 0 = r at *
    have r0 := hbd.1
    have r1 : r < 64 := by have h := hbd.2; exact h
    have hp : (64 : Int) ^ (2 - 1) = 64 := by decide
    rw [hp] at hRF
    have ilen : ¬ ((l.length : Int) < 2) := by omega
    have CL := Lib.hid cL
    have HM1 := Lib.hid hm1
    clear cL hm1 hbd hm hcl hp h0 hx0 hln
    obtain ⟨t, ht⟩ : ∃ t : Int, t = ((x.toNat - 192 : Nat) : Int) := ⟨_, rfl⟩
    rw [← ht] at hRF
    have t0 : 0 ≤ t := by omega
    have t1 : t ≤ 127 := by omega
    have HT : Hid (t = (x.toNat : Int) - 192) := Lib.hid (by omega)
    clear ht
    by_cases hr : r < 0
    · have HF : Hid (refRune l = (0, 0)) := Lib.hid (by rw [hRF, if_pos hr])
      clear hRF
      go_enter Tryz.func154, Tryz.ntmps154
      go_wp2_with (go_at_call 183; refine (CL.out _ _ HM1.out).mono ?_; rintro e w' ⟨rfl, rfl⟩)
      go_ret2
      exact ⟨by rw [HF.out]; rfl, Below.refl _ _⟩
    · rw [if_neg hr] at hRF
      have HRF := Lib.hid hRF
      clear hRF
      have hr0 : 0 ≤ r := by omega
      clear hr
      go_enter Tryz.func154, Tryz.ntmps154
      go_wp2_with (go_at_call 183; refine (CL.out _ _ HM1.out).mono ?_; rintro e w' ⟨rfl, rfl⟩)
      go_loop [6, 8] (fun vt vi => ∃ (k : Nat) (v : Int), 1 ≤ k ∧ k ≤ 2 ∧ vi = .int .i64 k ∧ vt = .int .i64 v ∧ Hid (v = t * 64 ^ (k - 1)) ∧ 0 ≤ v ∧ v ≤ 33292288 ∧ (k ≤ 3 → v ≤ 520192) ∧ (k ≤ 2 → v ≤ 8128) ∧ (k ≤ 1 → v ≤ 127)) (fun _ vi => 2 - (intOf vi).toNat)
      case atStart => exact ⟨1, t, by omega, by omega, rfl, by have := HT.out; first | rfl | (congr 1; omega), by simp [Hid], by omega, by omega, by omega, by omega, by omega⟩
      case round =>
        obtain ⟨k, v, k1, k2, rfl, rfl, hv, v0, v1, v2, v3, v4⟩ := hrel
        by_cases hk : k < 2
        · have ik : (k : Int) < 2 := by omega
          go_wp2
          go_round
          case rel =>
            refine ⟨k + 1, 64 * v, by omega, by omega, by go_num, rfl, ?_, by omega, by omega, by omega, by omega, by omega⟩
            have e := hv.out
            obtain ⟨j, rfl⟩ : ∃ j, k = j + 1 := ⟨k - 1, by omega⟩
            simp only [Nat.add_sub_cancel] at e ⊢
            exact Lib.hid (by rw [e, Int.pow_succ]; rw [Int.mul_comm 64, Int.mul_assoc])
          case measure => simp [intOf]; omega
        · have hkn : k = 2 := by omega
          have ik : ¬ (k : Int) < 2 := by omega
          have HF : Hid (refRune l = refEnd (v + r) 2) := Lib.hid (by
            have e := hv.out
            rw [hkn] at e
            have e2 : v = t * 64 := e
            rw [HRF.out, e2]; rfl)
          clear hv hkn HRF
          cases hf : fineB (v + r) with
          | false =>
            have HE : Hid (refEnd (v + r) 2 = (0, 0)) := Lib.hid (by unfold refEnd; rw [if_pos hf])
            go_wp2_with (go_at_call 184; refine (fineR_any _ _).mono ?_; rintro e w' ⟨rfl, rfl⟩)
            go_ret2
            exact ⟨by rw [HF.out, HE.out]; rfl, Below.refl _ _⟩
          | true =>
            have CP := Lib.hid (fun wx => putZ_any (v + r) hf wx)
            by_cases hpl : ((put (v + r).toNat).length : Int) = 2
            · have HE : Hid (refEnd (v + r) 2 = (v + r, 2)) := Lib.hid (by unfold refEnd; rw [if_neg (by rw [hf]; decide), if_neg (by omega)])
              generalize (put (v + r).toNat).length = pl at *
              have ipn : ((pl : Int) != 2) = false := by rw [bne_eq_false_iff_eq]; omega
              clear hpl
              go_wp2_with (first | (go_at_call 184; refine (fineR_any _ _).mono ?_; rintro e w' ⟨rfl, rfl⟩) | (go_at_call 185; refine (CP.out _).mono ?_; rintro e w' ⟨pb, pc, rfl, _, _, _, hpb⟩))
              go_ret2
              exact ⟨by rw [HF.out, HE.out]; rfl, hpb⟩
            · have HE : Hid (refEnd (v + r) 2 = (0, 0)) := Lib.hid (by unfold refEnd; rw [if_neg (by rw [hf]; decide), if_pos (by omega)])
              generalize (put (v + r).toNat).length = pl at *
              have ipn : ((pl : Int) != 2) = true := by rw [bne_iff_ne]; omega
              clear hpl
              go_wp2_with (first | (go_at_call 184; refine (fineR_any _ _).mono ?_; rintro e w' ⟨rfl, rfl⟩) | (go_at_call 185; refine (CP.out _).mono ?_; rintro e w' ⟨pb, pc, rfl, _, _, _, hpb⟩))
              go_ret2
              exact ⟨by rw [HF.out, HE.out]; rfl, hpb⟩
end Go.Proofs.YtblhpkcdemefaaaGreatDoor

namespace Go.Proofs.YtblhpkcdemefaaaGreatDoor
open Go.RowKit

set_option maxHeartbeats 2000000 in
set_option maxRecDepth 100000 in
theorem runeR_3 (l : List UInt8) (x : UInt8) (b off cap : Nat) (w : World) (hl : l.length ≤ 2147483647) (hcap : l.length ≤ cap) (hm : bytesAt w b off l) (h0 : l ≠ []) (hx0 : l.getD 0 0 = x) (hA : 224 ≤ x.toNat ∧ x.toNat < 240) :
    Calls Tryz.prog 154 #[.slice (some ⟨b, off, none⟩) l.length cap] w fun e w' => e = .returned (pairRes (refRune l)) ∧ Below w.heap.size w w' := by
  have hpos : 0 < l.length := by cases l with | nil => exact absurd rfl h0 | cons x l => simp
  have hc := hm 0 hpos
  rw [Nat.add_zero, hx0] at hc
  have hcl : cls x.toNat = (3, x.toNat - 224) := by unfold cls; (repeat' split) <;> first | rfl | omega
  have i0 : (0 : Int) < (l.length : Int) := by omega
  have il : ((l.length : Int) == 0) = false := by rw [beq_eq_false_iff_ne]; omega
  have hx := x.toNat_lt
  by_cases hlen : l.length < 3
  · have HF : Hid (refRune l = (0, 0)) := Lib.hid (refRune_short h0 hx0 hcl (Or.inr hlen))
    have ilen : (l.length : Int) < 3 := by omega
    clear hcl hm hlen h0 hx0
    go_enter Tryz.func154, Tryz.ntmps154
    go_wp2
    go_ret2
    exact ⟨by rw [HF.out]; rfl, Below.refl _ _⟩
  · have hRF := refRune_at h0 hx0 hcl (by decide) (by omega)
    have hln : ((l.take 3).drop 1).length = 2 := by rw [List.length_drop, List.length_take]; omega
    have hbd := lowGo_bd ((l.take 3).drop 1) 0 (by omega)
    rw [hln] at hbd
    have hm1 := bytes_mid hm 3
    have cL := fun off' cap' (hm' : bytesAt w b off' ((l.take 3).drop 1)) => lowN_any ((l.take 3).drop 1) b off' 2 cap' w hln.symm (by omega) hm'
    generalize lowGo ((l.take 3).drop 1) 0 = r at *
    have r0 := hbd.1
    have r1 : r < 4096 := by have h := hbd.2; exact h
    have hp : (64 : Int) ^ (3 - 1) = 4096 := by decide
    rw [hp] at hRF
    have ilen : ¬ ((l.length : Int) < 3) := by omega
    have CL := Lib.hid cL
    have HM1 := Lib.hid hm1
    clear cL hm1 hbd hm hcl hp h0 hx0 hln
    obtain ⟨t, ht⟩ : ∃ t : Int, t = ((x.toNat - 224 : Nat) : Int) := ⟨_, rfl⟩
    rw [← ht] at hRF
    have t0 : 0 ≤ t := by omega
    have t1 : t ≤ 127 := by omega
    have HT : Hid (t = (x.toNat : Int) - 224) := Lib.hid (by omega)
    clear ht
    by_cases hr : r < 0
    · have HF : Hid (refRune l = (0, 0)) := Lib.hid (by rw [hRF, if_pos hr])
      clear hRF
      go_enter Tryz.func154, Tryz.ntmps154
      go_wp2_with (go_at_call 183; refine (CL.out _ _ HM1.out).mono ?_; rintro e w' ⟨rfl, rfl⟩)
      go_ret2
      exact ⟨by rw [HF.out]; rfl, Below.refl _ _⟩
    · rw [if_neg hr] at hRF
      have HRF := Lib.hid hRF
      clear hRF
      have hr0 : 0 ≤ r := by omega
      clear hr
      go_enter Tryz.func154, Tryz.ntmps154
      go_wp2_with (go_at_call 183; refine (CL.out _ _ HM1.out).mono ?_; rintro e w' ⟨rfl, rfl⟩)
      go_loop [6, 8] (fun vt vi => ∃ (k : Nat) (v : Int), 1 ≤ k ∧ k ≤ 3 ∧ vi = .int .i64 k ∧ vt = .int .i64 v ∧ Hid (v = t * 64 ^ (k - 1)) ∧ 0 ≤ v ∧ v ≤ 33292288 ∧ (k ≤ 3 → v ≤ 520192) ∧ (k ≤ 2 → v ≤ 8128) ∧ (k ≤ 1 → v ≤ 127)) (fun _ vi => 3 - (intOf vi).toNat)
      case atStart => exact ⟨1, t, by omega, by omega, rfl, by have := HT.out; first | rfl | (congr 1; omega), by simp [Hid], by omega, by omega, by omega, by omega, by omega⟩
      case round =>
        obtain ⟨k, v, k1, k2, rfl, rfl, hv, v0, v1, v2, v3, v4⟩ := hrel
        by_cases hk : k < 3
        · have ik : (k : Int) < 3 := by omega
          go_wp2
          go_round
          case rel =>
            refine ⟨k + 1, 64 * v, by omega, by omega, by go_num, rfl, ?_, by omega, by omega, by omega, by omega, by omega⟩
            have e := hv.out
            obtain ⟨j, rfl⟩ : ∃ j, k = j + 1 := ⟨k - 1, by omega⟩
            simp only [Nat.add_sub_cancel] at e ⊢
            exact Lib.hid (by rw [e, Int.pow_succ]; rw [Int.mul_comm 64, Int.mul_assoc])
          case measure => simp [intOf]; omega
        · have hkn : k = 3 := by omega
          have ik : ¬ (k : Int) < 3 := by omega
          have HF : Hid (refRune l = refEnd (v + r) 3) := Lib.hid (by
            have e := hv.out
            rw [hkn] at e
            have e2 : v = t * 4096 := e
            rw [HRF.out, e2]; rfl)
          clear hv hkn HRF
          cases hf : fineB (v + r) with
          | false =>
            have HE : Hid (refEnd (v + r) 3 = (0, 0)) := Lib.hid (by unfold refEnd; rw [if_pos hf])
            go_wp2_with (go_at_call 184; refine (fineR_any _ _).mono ?_; rintro e w' ⟨rfl, rfl⟩)
            go_ret2
            exact ⟨by rw [HF.out, HE.out]; rfl, Below.refl _ _⟩
          | true =>
            have CP := Lib.hid (fun wx => putZ_any (v + r) hf wx)
            by_cases hpl : ((put (v + r).toNat).length : Int) = 3
            · have HE : Hid (refEnd (v + r) 3 = (v + r, 3)) := Lib.hid (by unfold refEnd; rw [if_neg (by rw [hf]; decide), if_neg (by omega)])
              generalize (put (v + r).toNat).length = pl at *
              have ipn : ((pl : Int) != 3) = false := by rw [bne_eq_false_iff_eq]; omega
              clear hpl
              go_wp2_with (first | (go_at_call 184; refine (fineR_any _ _).mono ?_; rintro e w' ⟨rfl, rfl⟩) | (go_at_call 185; refine (CP.out _).mono ?_; rintro e w' ⟨pb, pc, rfl, _, _, _, hpb⟩))
              go_ret2
              exact ⟨by rw [HF.out, HE.out]; rfl, hpb⟩
            · have HE : Hid (refEnd (v + r) 3 = (0, 0)) := Lib.hid (by unfold refEnd; rw [if_neg (by rw [hf]; decide), if_pos (by omega)])
              generalize (put (v + r).toNat).length = pl at *
              have ipn : ((pl : Int) != 3) = true := by rw [bne_iff_ne]; omega
              clear hpl
              go_wp2_with (first | (go_at_call 184; refine (fineR_any _ _).mono ?_; rintro e w' ⟨rfl, rfl⟩) | (go_at_call 185; refine (CP.out _).mono ?_; rintro e w' ⟨pb, pc, rfl, _, _, _, hpb⟩))
              go_ret2
              exact ⟨by rw [HF.out, HE.out]; rfl, hpb⟩
end Go.Proofs.YtblhpkcdemefaaaGreatDoor

namespace Go.Proofs.YtblhpkcdemefaaaGreatDoor
open Go.RowKit

set_option maxHeartbeats 2000000 in
set_option maxRecDepth 100000 in
theorem runeR_4 (l : List UInt8) (x : UInt8) (b off cap : Nat) (w : World) (hl : l.length ≤ 2147483647) (hcap : l.length ≤ cap) (hm : bytesAt w b off l) (h0 : l ≠ []) (hx0 : l.getD 0 0 = x) (hA : 240 ≤ x.toNat ∧ x.toNat < 248) :
    Calls Tryz.prog 154 #[.slice (some ⟨b, off, none⟩) l.length cap] w fun e w' => e = .returned (pairRes (refRune l)) ∧ Below w.heap.size w w' := by
  have hpos : 0 < l.length := by cases l with | nil => exact absurd rfl h0 | cons x l => simp
  have hc := hm 0 hpos
  rw [Nat.add_zero, hx0] at hc
  have hcl : cls x.toNat = (4, x.toNat - 240) := by unfold cls; (repeat' split) <;> first | rfl | omega
  have i0 : (0 : Int) < (l.length : Int) := by omega
  have il : ((l.length : Int) == 0) = false := by rw [beq_eq_false_iff_ne]; omega
  have hx := x.toNat_lt
  by_cases hlen : l.length < 4
  · have HF : Hid (refRune l = (0, 0)) := Lib.hid (refRune_short h0 hx0 hcl (Or.inr hlen))
    have ilen : (l.length : Int) < 4 := by omega
    clear hcl hm hlen h0 hx0
    go_enter Tryz.func154, Tryz.ntmps154
    go_wp2
    go_ret2
    exact ⟨by rw [HF.out]; rfl, Below.refl _ _⟩
  · have hRF := refRune_at h0 hx0 hcl (by decide) (by omega)
    have hln : ((l.take 4).drop 1).length = 3 := by rw [List.length_drop, List.length_take]; omega
    have hbd := lowGo_bd ((l.take 4).drop 1) 0 (by omega)
    rw [hln] at hbd
    have hm1 := bytes_mid hm 4
    have cL := fun off' cap' (hm' : bytesAt w b off' ((l.take 4).drop 1)) => lowN_any ((l.take 4).drop 1) b off' 3 cap' w hln.symm (by omega) hm'
    generalize lowGo ((l.take 4).drop 1) 0 = r at *
    have r0 := hbd.1
    have r1 : r < 262144 := by have h := hbd.2; exact h
    have hp : (64 : Int) ^ (4 - 1) = 262144 := by decide
    rw [hp] at hRF
    have ilen : ¬ ((l.length : Int) < 4) := by omega
    have CL := Lib.hid cL
    have HM1 := Lib.hid hm1
    clear cL hm1 hbd hm hcl hp h0 hx0 hln
    obtain ⟨t, ht⟩ : ∃ t : Int, t = ((x.toNat - 240 : Nat) : Int) := ⟨_, rfl⟩
    rw [← ht] at hRF
    have t0 : 0 ≤ t := by omega
    have t1 : t ≤ 127 := by omega
    have HT : Hid (t = (x.toNat : Int) - 240) := Lib.hid (by omega)
    clear ht
    by_cases hr : r < 0
    · have HF : Hid (refRune l = (0, 0)) := Lib.hid (by rw [hRF, if_pos hr])
      clear hRF
      go_enter Tryz.func154, Tryz.ntmps154
      go_wp2_with (go_at_call 183; refine (CL.out _ _ HM1.out).mono ?_; rintro e w' ⟨rfl, rfl⟩)
      go_ret2
      exact ⟨by rw [HF.out]; rfl, Below.refl _ _⟩
    · rw [if_neg hr] at hRF
      have HRF := Lib.hid hRF
      clear hRF
      have hr0 : 0 ≤ r := by omega
      clear hr
      go_enter Tryz.func154, Tryz.ntmps154
      go_wp2_with (go_at_call 183; refine (CL.out _ _ HM1.out).mono ?_; rintro e w' ⟨rfl, rfl⟩)
      go_loop [6, 8] (fun vt vi => ∃ (k : Nat) (v : Int), 1 ≤ k ∧ k ≤ 4 ∧ vi = .int .i64 k ∧ vt = .int .i64 v ∧ Hid (v = t * 64 ^ (k - 1)) ∧ 0 ≤ v ∧ v ≤ 33292288 ∧ (k ≤ 3 → v ≤ 520192) ∧ (k ≤ 2 → v ≤ 8128) ∧ (k ≤ 1 → v ≤ 127)) (fun _ vi => 4 - (intOf vi).toNat)
      case atStart => exact ⟨1, t, by omega, by omega, rfl, by have := HT.out; first | rfl | (congr 1; omega), by simp [Hid], by omega, by omega, by omega, by omega, by omega⟩
      case round =>
        obtain ⟨k, v, k1, k2, rfl, rfl, hv, v0, v1, v2, v3, v4⟩ := hrel
        by_cases hk : k < 4
        · have ik : (k : Int) < 4 := by omega
          go_wp2
          go_round
          case rel =>
            refine ⟨k + 1, 64 * v, by omega, by omega, by go_num, rfl, ?_, by omega, by omega, by omega, by omega, by omega⟩
            have e := hv.out
            obtain ⟨j, rfl⟩ : ∃ j, k = j + 1 := ⟨k - 1, by omega⟩
            simp only [Nat.add_sub_cancel] at e ⊢
            exact Lib.hid (by rw [e, Int.pow_succ]; rw [Int.mul_comm 64, Int.mul_assoc])
          case measure => simp [intOf]; omega
        · have hkn : k = 4 := by omega
          have ik : ¬ (k : Int) < 4 := by omega
          have HF : Hid (refRune l = refEnd (v + r) 4) := Lib.hid (by
            have e := hv.out
            rw [hkn] at e
            have e2 : v = t * 262144 := e
            rw [HRF.out, e2]; rfl)
          clear hv hkn HRF
          cases hf : fineB (v + r) with
          | false =>
            have HE : Hid (refEnd (v + r) 4 = (0, 0)) := Lib.hid (by unfold refEnd; rw [if_pos hf])
            go_wp2_with (go_at_call 184; refine (fineR_any _ _).mono ?_; rintro e w' ⟨rfl, rfl⟩)
            go_ret2
            exact ⟨by rw [HF.out, HE.out]; rfl, Below.refl _ _⟩
          | true =>
            have CP := Lib.hid (fun wx => putZ_any (v + r) hf wx)
            by_cases hpl : ((put (v + r).toNat).length : Int) = 4
            · have HE : Hid (refEnd (v + r) 4 = (v + r, 4)) := Lib.hid (by unfold refEnd; rw [if_neg (by rw [hf]; decide), if_neg (by omega)])
              generalize (put (v + r).toNat).length = pl at *
              have ipn : ((pl : Int) != 4) = false := by rw [bne_eq_false_iff_eq]; omega
              clear hpl
              go_wp2_with (first | (go_at_call 184; refine (fineR_any _ _).mono ?_; rintro e w' ⟨rfl, rfl⟩) | (go_at_call 185; refine (CP.out _).mono ?_; rintro e w' ⟨pb, pc, rfl, _, _, _, hpb⟩))
              go_ret2
              exact ⟨by rw [HF.out, HE.out]; rfl, hpb⟩
            · have HE : Hid (refEnd (v + r) 4 = (0, 0)) := Lib.hid (by unfold refEnd; rw [if_neg (by rw [hf]; decide), if_pos (by omega)])
              generalize (put (v + r).toNat).length = pl at *
              have ipn : ((pl : Int) != 4) = true := by rw [bne_iff_ne]; omega
              clear hpl
              go_wp2_with (first | (go_at_call 184; refine (fineR_any _ _).mono ?_; rintro e w' ⟨rfl, rfl⟩) | (go_at_call 185; refine (CP.out _).mono ?_; rintro e w' ⟨pb, pc, rfl, _, _, _, hpb⟩))
              go_ret2
              exact ⟨by rw [HF.out, HE.out]; rfl, hpb⟩
end Go.Proofs.YtblhpkcdemefaaaGreatDoor

namespace Go.Proofs.YtblhpkcdemefaaaGreatDoor
open Go.RowKit

theorem cls_bad {n : Nat} (h : (128 ≤ n ∧ n < 192) ∨ 248 ≤ n) : cls n = (0, 0) := by
  unfold cls; rcases h with h | h <;> (repeat' split) <;> first | rfl | omega

set_option maxHeartbeats 2000000 in
set_option maxRecDepth 100000 in
theorem runeR_any (l : List UInt8) (b off n cap : Nat) (hn : n = l.length) (w : World) (hl : l.length ≤ 2147483647) (hcap : l.length ≤ cap) (hm : bytesAt w b off l) :
    Calls Tryz.prog 154 #[.slice (some ⟨b, off, none⟩) n cap] w fun e w' => e = .returned (pairRes (refRune l)) ∧ Below w.heap.size w w' := by
  subst hn
  by_cases h0 : l = []
  · subst h0
    go_enter Tryz.func154, Tryz.ntmps154
    go_wp2
    go_ret2
    exact ⟨rfl, Below.refl _ _⟩
  · obtain ⟨x, hx0⟩ : ∃ x, l.getD 0 0 = x := ⟨_, rfl⟩
    have hx := x.toNat_lt
    by_cases h1 : x.toNat < 128
    · exact runeR_1 l x b off cap w hl hcap hm h0 hx0 h1
    · by_cases h2 : 192 ≤ x.toNat ∧ x.toNat < 224
      · exact runeR_2 l x b off cap w hl hcap hm h0 hx0 h2
      · by_cases h3 : 224 ≤ x.toNat ∧ x.toNat < 240
        · exact runeR_3 l x b off cap w hl hcap hm h0 hx0 h3
        · by_cases h4 : 240 ≤ x.toNat ∧ x.toNat < 248
          · exact runeR_4 l x b off cap w hl hcap hm h0 hx0 h4
          · have hpos : 0 < l.length := by cases l with | nil => exact absurd rfl h0 | cons x l => simp
            have hc := hm 0 hpos
            rw [Nat.add_zero, hx0] at hc
            have hbad : (128 ≤ x.toNat ∧ x.toNat < 192) ∨ 248 ≤ x.toNat := by omega
            have HF : Hid (refRune l = (0, 0)) := Lib.hid (refRune_short h0 hx0 (cls_bad hbad) (Or.inl rfl))
            have i0 : (0 : Int) < (l.length : Int) := by omega
            have il : ((l.length : Int) == 0) = false := by rw [beq_eq_false_iff_ne]; omega
            clear hm h0 hx0 h1 h2 h3 h4
            rcases hbad with ⟨h1, h2⟩ | h1
            · go_enter Tryz.func154, Tryz.ntmps154
              go_wp2
              go_ret2
              exact ⟨by rw [HF.out]; rfl, Below.refl _ _⟩
            · go_enter Tryz.func154, Tryz.ntmps154
              go_wp2
              go_ret2
              exact ⟨by rw [HF.out]; rfl, Below.refl _ _⟩

theorem refEnd_ok {c n : Nat} (hf : fineB c = true) (hn : (put c).length = n) : refEnd (c : Int) (n : Int) = ((c : Int), (n : Int)) := by
  unfold refEnd
  have e : ((c : Int)).toNat = c := by omega
  rw [if_neg (by rw [hf]; decide), e, hn, if_neg (by omega)]

theorem refRune_cons {x : UInt8} {r : List UInt8} {n top : Nat} (hc : cls x.toNat = (n, top)) (hn : n ≠ 0) (hl : n ≤ r.length + 1) (h0 : 0 ≤ lowGo (((x :: r).take n).drop 1) 0) :
    refRune (x :: r) = refEnd ((top : Int) * 64 ^ (n - 1) + lowGo (((x :: r).take n).drop 1) 0) n := by
  rw [refRune_at (l := x :: r) (x := x) (by simp) rfl hc hn (by simpa using hl), if_neg (by omega)]

theorem refRune_put (c : Nat) (hf : fineB c = true) (r : List UInt8) : refRune (put c ++ r) = ((c : Int), ((put c).length : Int)) := by
  have hb := (fineB_iff _).1 hf
  unfold put Lib.encodeRune
  by_cases h1 : c ≤ 127
  · have hz := Lib.encodeRuneZ_one (r := (c : Int)) (by omega) (by omega)
    have hp := put_length c
    rw [hz] at hp ⊢
    simp only [List.map_cons, List.map_nil, List.cons_append, List.nil_append, List.length_cons, List.length_nil]
    have e0 := u8_nat (c : Int) (by omega) (by omega)
    have hcl : cls ((c : Int).toNat.toUInt8).toNat = (1, c) := by unfold cls; rw [e0, if_pos (by omega)]; simp
    rw [refRune_cons hcl (by decide) (by omega) (by simp [lowGo])]
    have hz0 : lowGo (List.drop 1 (List.take 1 ((c : Int).toNat.toUInt8 :: r))) 0 = 0 := by simp [lowGo]
    rw [hz0]
    have e : ((c : Int) * 64 ^ (1 - 1) + 0) = (c : Int) := by simp
    rw [e]
    exact refEnd_ok hf (by rw [hp]; rfl)
  · by_cases h2 : c ≤ 2047
    · have hz := Lib.encodeRuneZ_two (r := (c : Int)) (by omega) (by omega)
      have hp := put_length c
      rw [hz] at hp ⊢
      simp only [List.map_cons, List.map_nil, List.cons_append, List.nil_append, List.length_cons, List.length_nil]
      have e0 := u8_nat (192 + (c : Int) / 64) (by omega) (by omega)
      have e1 := u8_nat (128 + (c : Int) % 64) (by omega) (by omega)
      generalize (192 + (c : Int) / 64).toNat.toUInt8 = x0 at *
      generalize (128 + (c : Int) % 64).toNat.toUInt8 = x1 at *
      have hcl : cls x0.toNat = (2, x0.toNat - 192) := by unfold cls; rw [if_neg (by omega), if_neg (by omega), if_pos (by omega)]
      have hlow : lowGo (List.drop 1 (List.take 2 (x0 :: x1 :: r))) 0 = (x1.toNat : Int) - 128 := by
        show lowGo [x1] 0 = _
        rw [lowGo_pos 0 (by omega)]; simp [lowGo]
      rw [refRune_cons hcl (by decide) (by simp) (by rw [hlow]; omega), hlow]
      have e : (((x0.toNat - 192 : Nat) : Int) * 64 ^ (2 - 1) + ((x1.toNat : Int) - 128)) = (c : Int) := by
        show ((x0.toNat - 192 : Nat) : Int) * 64 + _ = _
        omega
      rw [e]
      exact refEnd_ok hf (by rw [hp]; rfl)
    · by_cases h3 : c ≤ 65535
      · have hz := Lib.encodeRuneZ_three (r := (c : Int)) (by omega)
        have hp := put_length c
        rw [hz] at hp ⊢
        simp only [List.map_cons, List.map_nil, List.cons_append, List.nil_append, List.length_cons, List.length_nil]
        have e0 := u8_nat (224 + (c : Int) / 4096) (by omega) (by omega)
        have e1 := u8_nat (128 + (c : Int) / 64 % 64) (by omega) (by omega)
        have e2 := u8_nat (128 + (c : Int) % 64) (by omega) (by omega)
        generalize (224 + (c : Int) / 4096).toNat.toUInt8 = x0 at *
        generalize (128 + (c : Int) / 64 % 64).toNat.toUInt8 = x1 at *
        generalize (128 + (c : Int) % 64).toNat.toUInt8 = x2 at *
        have hcl : cls x0.toNat = (3, x0.toNat - 224) := by unfold cls; rw [if_neg (by omega), if_neg (by omega), if_neg (by omega), if_pos (by omega)]
        have hlow : lowGo (List.drop 1 (List.take 3 (x0 :: x1 :: x2 :: r))) 0 = 64 * ((x1.toNat : Int) - 128) + x2.toNat - 128 := by
          show lowGo [x1, x2] 0 = _
          rw [lowGo_pos 0 (by omega), lowGo_pos _ (by omega)]; simp [lowGo]
        rw [refRune_cons hcl (by decide) (by simp) (by rw [hlow]; omega), hlow]
        have e : (((x0.toNat - 224 : Nat) : Int) * 64 ^ (3 - 1) + (64 * ((x1.toNat : Int) - 128) + x2.toNat - 128)) = (c : Int) := by
          show ((x0.toNat - 224 : Nat) : Int) * 4096 + _ = _
          omega
        rw [e]
        exact refEnd_ok hf (by rw [hp]; rfl)
      · have hz := Lib.encodeRuneZ_four (r := (c : Int)) (by omega) (by omega)
        have hp := put_length c
        rw [hz] at hp ⊢
        simp only [List.map_cons, List.map_nil, List.cons_append, List.nil_append, List.length_cons, List.length_nil]
        have e0 := u8_nat (240 + (c : Int) / 262144) (by omega) (by omega)
        have e1 := u8_nat (128 + (c : Int) / 4096 % 64) (by omega) (by omega)
        have e2 := u8_nat (128 + (c : Int) / 64 % 64) (by omega) (by omega)
        have e3 := u8_nat (128 + (c : Int) % 64) (by omega) (by omega)
        generalize (240 + (c : Int) / 262144).toNat.toUInt8 = x0 at *
        generalize (128 + (c : Int) / 4096 % 64).toNat.toUInt8 = x1 at *
        generalize (128 + (c : Int) / 64 % 64).toNat.toUInt8 = x2 at *
        generalize (128 + (c : Int) % 64).toNat.toUInt8 = x3 at *
        have hcl : cls x0.toNat = (4, x0.toNat - 240) := by unfold cls; rw [if_neg (by omega), if_neg (by omega), if_neg (by omega), if_neg (by omega), if_pos (by omega)]
        have hlow : lowGo (List.drop 1 (List.take 4 (x0 :: x1 :: x2 :: x3 :: r))) 0 = 64 * (64 * ((x1.toNat : Int) - 128) + x2.toNat - 128) + x3.toNat - 128 := by
          show lowGo [x1, x2, x3] 0 = _
          rw [lowGo_pos 0 (by omega), lowGo_pos _ (by omega), lowGo_pos _ (by omega)]; simp [lowGo]
        rw [refRune_cons hcl (by decide) (by simp) (by rw [hlow]; omega), hlow]
        have e : (((x0.toNat - 240 : Nat) : Int) * 64 ^ (4 - 1) + (64 * (64 * ((x1.toNat : Int) - 128) + x2.toNat - 128) + x3.toNat - 128)) = (c : Int) := by
          show ((x0.toNat - 240 : Nat) : Int) * 262144 + _ = _
          omega
        rw [e]
        exact refEnd_ok hf (by rw [hp]; rfl)

theorem lowGo_inv {b : UInt8} {l : List UInt8} {n : Int} (h : 0 ≤ lowGo (b :: l) n) : (128 ≤ b.toNat ∧ b.toNat ≤ 191) ∧ lowGo (b :: l) n = lowGo l (64 * n + b.toNat - 128) := by
  by_cases hb : 128 ≤ b.toNat ∧ b.toNat ≤ 191
  · exact ⟨hb, lowGo_pos n hb⟩
  · exfalso
    unfold lowGo at h
    rw [if_neg hb] at h
    omega

theorem refEnd_cases (z n : Int) : refEnd z n = (0, 0) ∨ (fineB z = true ∧ ((put z.toNat).length : Int) = n ∧ refEnd z n = (z, n)) := by
  unfold refEnd
  cases hf : fineB z with
  | false => left; rw [if_pos rfl]
  | true =>
    rw [if_neg (by decide)]
    by_cases h : ((put z.toNat).length : Int) = n
    · right; exact ⟨rfl, h, by rw [if_neg (by omega)]⟩
    · left; rw [if_pos h]

theorem put_of {c : Nat} {x : List UInt8} (h : Lib.encodeRuneZ (c : Int) = x.map fun b => (b.toNat : Int)) : put c = x := by
  unfold put Lib.encodeRune
  rw [h, List.map_map]
  conv => rhs; rw [← List.map_id x]
  apply List.map_congr_left
  intro b _
  exact u8_of _ b rfl

theorem put_len_cases (c : Nat) : (c ≤ 127 ∧ (put c).length = 1) ∨ (128 ≤ c ∧ c ≤ 2047 ∧ (put c).length = 2) ∨ (((2048 ≤ c ∧ c < 55296) ∨ (57343 < c ∧ c ≤ 65535)) ∧ (put c).length = 3) ∨ (65536 ≤ c ∧ c ≤ 1114111 ∧ (put c).length = 4) ∨ (((55296 ≤ c ∧ c ≤ 57343) ∨ 1114111 < c)) := by
  rw [put_length]
  by_cases h1 : c ≤ 127
  · left; rw [Lib.encodeRuneZ_one (by omega) (by omega)]; exact ⟨h1, rfl⟩
  · right
    by_cases h2 : c ≤ 2047
    · left; rw [Lib.encodeRuneZ_two (by omega) (by omega)]; exact ⟨by omega, h2, rfl⟩
    · right
      by_cases h3 : (2048 ≤ c ∧ c < 55296) ∨ (57343 < c ∧ c ≤ 65535)
      · left; rw [Lib.encodeRuneZ_three (by omega)]; exact ⟨h3, rfl⟩
      · right
        by_cases h4 : c ≤ 1114111 ∧ 65536 ≤ c
        · left; rw [Lib.encodeRuneZ_four (by omega) (by omega)]; exact ⟨h4.2, h4.1, rfl⟩
        · right; omega

/-- The document's reading is the character at the head, or nothing. -/
theorem refRune_split (l : List UInt8) : refRune l = (0, 0) ∨ ∃ c r, fineB (c : Nat) = true ∧ l = put c ++ r ∧ refRune l = ((c : Int), ((put c).length : Int)) := by
  cases l with
  | nil => exact Or.inl rfl
  | cons x r =>
    have hx := x.toNat_lt
    have hnil : x :: r ≠ [] := by simp
    have key : ∀ n top : Nat, cls x.toNat = (n, top) → n ≠ 0 → n ≤ r.length + 1 → 0 ≤ lowGo (((x :: r).take n).drop 1) 0 →
        (∀ z : Nat, (z : Int) = (top : Int) * 64 ^ (n - 1) + lowGo (((x :: r).take n).drop 1) 0 → fineB (z : Int) = true → (put z).length = n → put z = (x :: r).take n) →
        refRune (x :: r) = (0, 0) ∨ ∃ c r', fineB (c : Nat) = true ∧ x :: r = put c ++ r' ∧ refRune (x :: r) = ((c : Int), ((put c).length : Int)) := by
      intro n top hc hn hl h0 hz
      rw [refRune_cons hc hn hl h0]
      have hge : 0 ≤ (top : Int) * 64 ^ (n - 1) + lowGo (((x :: r).take n).drop 1) 0 := by
        have : (0 : Int) ≤ (top : Int) * 64 ^ (n - 1) := Int.mul_nonneg (by omega) (Int.pow_nonneg (by decide))
        omega
      obtain ⟨z, hzz⟩ : ∃ z : Nat, (z : Int) = (top : Int) * 64 ^ (n - 1) + lowGo (((x :: r).take n).drop 1) 0 := ⟨_, Int.toNat_of_nonneg hge⟩
      have hz' := hz z hzz
      rw [← hzz]
      have ez : ((z : Int)).toNat = z := by omega
      rcases refEnd_cases z n with h | ⟨h1, h2, h3⟩
      · exact Or.inl h
      · rw [ez] at h2
        have hpl : (put z).length = n := by omega
        refine Or.inr ⟨z, (x :: r).drop n, h1, ?_, by rw [h3, hpl]⟩
        rw [hz' h1 hpl, List.take_append_drop]
    by_cases hs : (cls x.toNat).1 = 0 ∨ (x :: r).length < (cls x.toNat).1
    · exact Or.inl (refRune_short (x := x) hnil rfl (n := (cls x.toNat).1) (top := (cls x.toNat).2) rfl hs)
    · by_cases hr : lowGo (((x :: r).take (cls x.toNat).1).drop 1) 0 < 0
      · left
        rw [refRune_at (l := x :: r) (x := x) hnil rfl (n := (cls x.toNat).1) (top := (cls x.toNat).2) rfl (by omega) (by omega), if_pos hr]
      · have hlen : (cls x.toNat).1 ≤ r.length + 1 := by
          have : (x :: r).length = r.length + 1 := rfl
          omega
        refine key (cls x.toNat).1 (cls x.toNat).2 rfl (by omega) hlen (by omega) ?_
        intro z hz hf hpl
        have hlc := put_len_cases z
        have hfb := (fineB_iff _).1 hf
        by_cases h1 : x.toNat < 128
        · have hc : cls x.toNat = (1, x.toNat) := by unfold cls; rw [if_pos h1]
          rw [hc] at hz hpl ⊢
          simp only [] at hz hpl ⊢
          have e : (z : Int) = (x.toNat : Int) * 1 + 0 := hz
          refine put_of ?_
          rw [Lib.encodeRuneZ_one (by omega) (by omega)]
          simp
          omega
        · by_cases h2 : 192 ≤ x.toNat ∧ x.toNat < 224
          · have hc : cls x.toNat = (2, x.toNat - 192) := by unfold cls; rw [if_neg h1, if_neg (by omega), if_pos (by omega)]
            rw [hc] at hz hpl hr hlen ⊢
            simp only [] at hz hpl hr hlen ⊢
            obtain ⟨a0, x1, r1, hxr⟩ := len_cons2 (l := x :: r) (by simp; omega)
            cases hxr
            have hlow : 0 ≤ lowGo [x1] 0 := by have : ¬ lowGo [x1] 0 < 0 := hr; omega
            obtain ⟨b1, e1⟩ := lowGo_inv hlow
            have e : (z : Int) = ((x.toNat - 192 : Nat) : Int) * 64 + lowGo [x1] 0 := hz
            rw [e1] at e
            have e2 : lowGo [] (64 * 0 + (x1.toNat : Int) - 128) = 64 * 0 + (x1.toNat : Int) - 128 := rfl
            rw [e2] at e
            show put z = [x, x1]
            refine put_of ?_
            rw [Lib.encodeRuneZ_two (by omega) (by omega)]
            simp only [List.map_cons, List.map_nil, List.cons.injEq, and_true]
            omega
          · by_cases h3 : 224 ≤ x.toNat ∧ x.toNat < 240
            · have hc : cls x.toNat = (3, x.toNat - 224) := by unfold cls; rw [if_neg h1, if_neg (by omega), if_neg (by omega), if_pos (by omega)]
              rw [hc] at hz hpl hr hlen ⊢
              simp only [] at hz hpl hr hlen ⊢
              obtain ⟨a0, x1, x2, r1, hxr⟩ := len_cons3 (l := x :: r) (by simp; omega)
              cases hxr
              have hlow : 0 ≤ lowGo [x1, x2] 0 := by have : ¬ lowGo [x1, x2] 0 < 0 := hr; omega
              obtain ⟨b1, e1⟩ := lowGo_inv hlow
              rw [e1] at hlow
              obtain ⟨b2, e2⟩ := lowGo_inv hlow
              have e : (z : Int) = ((x.toNat - 224 : Nat) : Int) * 4096 + lowGo [x1, x2] 0 := hz
              rw [e1, e2] at e
              have e3 : lowGo [] (64 * (64 * 0 + (x1.toNat : Int) - 128) + (x2.toNat : Int) - 128) = 64 * (64 * 0 + (x1.toNat : Int) - 128) + (x2.toNat : Int) - 128 := rfl
              rw [e3] at e
              show put z = [x, x1, x2]
              refine put_of ?_
              rw [Lib.encodeRuneZ_three (by omega)]
              simp only [List.map_cons, List.map_nil, List.cons.injEq, and_true]
              omega
            · by_cases h4 : 240 ≤ x.toNat ∧ x.toNat < 248
              · have hc : cls x.toNat = (4, x.toNat - 240) := by unfold cls; rw [if_neg h1, if_neg (by omega), if_neg (by omega), if_neg (by omega), if_pos (by omega)]
                rw [hc] at hz hpl hr hlen ⊢
                simp only [] at hz hpl hr hlen ⊢
                obtain ⟨a0, x1, x2, x3, r1, hxr⟩ := len_cons4 (l := x :: r) (by simp; omega)
                cases hxr
                have hlow : 0 ≤ lowGo [x1, x2, x3] 0 := by have : ¬ lowGo [x1, x2, x3] 0 < 0 := hr; omega
                obtain ⟨b1, e1⟩ := lowGo_inv hlow
                rw [e1] at hlow
                obtain ⟨b2, e2⟩ := lowGo_inv hlow
                rw [e2] at hlow
                obtain ⟨b3, e3⟩ := lowGo_inv hlow
                have e : (z : Int) = ((x.toNat - 240 : Nat) : Int) * 262144 + lowGo [x1, x2, x3] 0 := hz
                rw [e1, e2, e3] at e
                have e4 : lowGo [] (64 * (64 * (64 * 0 + (x1.toNat : Int) - 128) + (x2.toNat : Int) - 128) + (x3.toNat : Int) - 128) = 64 * (64 * (64 * 0 + (x1.toNat : Int) - 128) + (x2.toNat : Int) - 128) + (x3.toNat : Int) - 128 := rfl
                rw [e4] at e
                show put z = [x, x1, x2, x3]
                refine put_of ?_
                rw [Lib.encodeRuneZ_four (by omega) (by omega)]
                simp only [List.map_cons, List.map_nil, List.cons.injEq, and_true]
                omega
              · exfalso
                have := cls_bad (n := x.toNat) (by omega)
                rw [this] at hs
                exact hs (Or.inl rfl)

def runePair (l : List UInt8) : Int × Int := match rune1 l with | some (c, n) => ((c : Int), (n : Int)) | none => (0, 0)

theorem refRune_eq (l : List UInt8) : refRune l = runePair l := by
  unfold runePair
  cases hr : rune1 l with
  | some cn =>
    obtain ⟨c, n⟩ := cn
    obtain ⟨r, h1, h2⟩ := rune1_split hr
    have hf := (rune1_bounds hr).2.2.2.2.2
    rw [h1, h2]
    exact refRune_put c hf r
  | none =>
    rcases refRune_split l with h | ⟨c, r, hf, h1, h2⟩
    · exact h
    · rw [h1, rune1_put c hf r] at hr
      cases hr

end Go.Proofs.YtblhpkcdemefaaaGreatDoor

namespace Go.Proofs.YtblhpkcdemefaaaGreatDoor
open Go.RowKit

theorem drop_ne {l : List UInt8} {pos : Nat} (h : pos < l.length) : l.drop pos ≠ [] := by
  intro e
  have := congrArg List.length e
  rw [List.length_drop] at this
  simp at this
  omega

theorem runeP_any (l : List UInt8) (b off n cap : Nat) (hn : n = l.length) (w : World) (hl : l.length ≤ 2147483647) (hcap : l.length ≤ cap) (hm : bytesAt w b off l) :
    Calls Tryz.prog 154 #[.slice (some ⟨b, off, none⟩) n cap] w fun e w' => e = .returned (pairRes (runePair l)) ∧ Below w.heap.size w w' := by
  have h := runeR_any l b off n cap hn w hl hcap hm
  rw [refRune_eq] at h
  exact h

set_option maxHeartbeats 2000000 in
theorem checkR_any (l : List UInt8) (b n cap : Nat) (hn : n = l.length) (w : World) (hl : l.length ≤ 2147483647) (hcap : l.length ≤ cap) (hm : bytesAt w b 0 l) :
    Calls Tryz.prog 120 #[.slice (some ⟨b, 0, none⟩) n cap] w fun e w' => e = .returned (.int .i64 (checkL l).1) ∧ Below w.heap.size w w' := by
  subst hn
  have HM := Lib.hid hm
  clear hm
  go_enter Tryz.func120, Tryz.ntmps120
  go_wp2
  go_loopw [3] (fun v3 wr => ∃ pos fuel : Nat, v3 = .int .i64 pos ∧ Below w.heap.size w wr ∧ checkL l = checkGo fuel (l.drop pos) pos ∧ l.length ≤ pos + fuel ∧ pos ≤ l.length) (fun v3 _ => l.length - (intOf v3).toNat)
  case atStart => exact ⟨0, l.length, rfl, Below.refl _ w, rfl, by omega, by omega⟩
  case round =>
    obtain ⟨pos, fuel, rfl, hbw, hchk, hfu, hpl⟩ := hrel
    have hsz := hbw.size
    by_cases hp : pos < l.length
    · have h0 := drop_ne hp
      have hbl : b < w.heap.size := Lib.lt_of_cell (HM.out 0 (by omega))
      have hm2 : bytesAt wr b (0 + pos) (l.drop pos) := (HM.out.below hbw hbl).drop pos
      rw [Nat.zero_add] at hm2
      have cR := runeP_any (l.drop pos) b pos (l.length - pos) (cap - pos) (by simp) wr (by simp; omega) (by simp; omega) hm2
      have hne : ¬ cap = pos := by omega
      cases hr : rune1 (l.drop pos) with
      | none =>
        have e : runePair (l.drop pos) = (0, 0) := by unfold runePair; rw [hr]
        rw [e, pairRes_mk] at cR
        have HF : Hid ((checkL l).1 = pos) := Lib.hid (by rw [hchk, checkGo_none fuel pos (by simp; omega) h0 hr])
        have CR := Lib.hid cR
        clear cR e hr hchk h0 hm2
        go_wp2_with (go_at_call 154; refine (CR.out).mono ?_; rintro e w2 ⟨rfl, hb2⟩)
        go_ret
        exact ⟨by rw [HF.out]; rfl, hbw.trans (hb2.mono hsz)⟩
      | some cn =>
        obtain ⟨c, n⟩ := cn
        have e : runePair (l.drop pos) = ((c : Int), (n : Int)) := by unfold runePair; rw [hr]
        rw [e, pairRes_mk] at cR
        obtain ⟨_, b1, b2, b3, b4, b5⟩ := rune1_bounds hr
        rw [List.length_drop] at b3
        have HF : Hid (checkL l = checkGo (fuel - 1) (l.drop (pos + n)) (pos + n)) := Lib.hid (by rw [hchk, checkGo_some fuel pos (by simp; omega) h0 hr, List.drop_drop])
        have CR := Lib.hid cR
        have in0 : ((n : Int) == 0) = false := by rw [beq_eq_false_iff_ne]; omega
        clear cR e hr hchk h0 hm2 b5
        go_wp2_with (go_at_call 154; refine (CR.out).mono ?_; rintro e w2 ⟨rfl, hb2⟩)
        go_roundw
        case rel => exact ⟨pos + n, fuel - 1, by go_num, hbw.trans (hb2.mono hsz), HF.out, by omega, by omega⟩
        case measure => simp [intOf]; omega
    · have HF : Hid ((checkL l).1 = pos) := Lib.hid (by rw [hchk, List.drop_eq_nil_of_le (by omega), checkGo_nil])
      clear hchk
      go_wp2
      go_ret
      exact ⟨by rw [HF.out]; rfl, hbw⟩

end Go.Proofs.YtblhpkcdemefaaaGreatDoor
