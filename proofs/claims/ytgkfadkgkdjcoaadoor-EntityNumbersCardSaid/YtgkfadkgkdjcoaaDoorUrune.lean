/- Walks: tipstaveref01.Rune and Check. -/
import Derived.Test.YtgkfadkgkdjcoaaDoorUref
set_option linter.unusedVariables false
set_option linter.unusedSimpArgs false
namespace Go.Proofs.YtgkfadkgkdjcoaaDoor
open Go.RowKit

theorem lowGo_bd : ∀ (l : List UInt8) (n : Int), 0 ≤ n → -1 ≤ lowGo l n ∧ lowGo l n < (n + 1) * 64 ^ l.length
  | [], n, h => by simp [lowGo]; omega
  | b :: l, n, h => by
    unfold lowGo
    split
    · rename_i hb
      have ih := lowGo_bd l (64 * n + b.toNat - 128) (by omega)
      refine ⟨ih.1, Int.lt_of_lt_of_le ih.2 ?_⟩
      rw [List.length_cons, Int.pow_succ, Int.mul_comm ((64 : Int) ^ l.length) 64, ← Int.mul_assoc]
      exact Int.mul_le_mul_of_nonneg_right (by omega) (Int.pow_nonneg (by decide))
    · refine ⟨by omega, ?_⟩
      have : (0 : Int) < (n + 1) * 64 ^ (b :: l).length := Int.mul_pos (by omega) (Int.pow_pos (by decide))
      omega

theorem lowN_any (l : List UInt8) (b off n cap : Nat) (w : World) (hn : n = l.length) (hl : l.length ≤ 3) (hm : bytesAt w b off l) :
    Calls Tryd.prog 31 #[.slice (some ⟨b, off, none⟩) n cap] w fun e w' => e = .returned (.int .i64 (lowGo l 0)) ∧ w' = w := by
  subst hn; exact low_any l b off cap w hl hm

/-- How many bytes a first byte asks for, and what it bears. -/
def cls (b0 : Nat) : Nat × Nat :=
  if b0 < 128 then (1, b0) else if b0 < 192 then (0, 0) else if b0 < 224 then (2, b0 - 192) else if b0 < 240 then (3, b0 - 224) else if b0 < 248 then (4, b0 - 240) else (0, 0)

/-- The document's reading of a character, as its text goes. -/
def refRune (l : List UInt8) : Int × Int :=
  if l = [] then (0, 0)
  else if (cls (l.getD 0 0).toNat).1 = 0 ∨ l.length < (cls (l.getD 0 0).toNat).1 then (0, 0)
  else if lowGo ((l.take (cls (l.getD 0 0).toNat).1).drop 1) 0 < 0 then (0, 0)
  else if fineB (((cls (l.getD 0 0).toNat).2 : Int) * 64 ^ ((cls (l.getD 0 0).toNat).1 - 1) + lowGo ((l.take (cls (l.getD 0 0).toNat).1).drop 1) 0) = false then (0, 0)
  else if (put (((cls (l.getD 0 0).toNat).2 : Int) * 64 ^ ((cls (l.getD 0 0).toNat).1 - 1) + lowGo ((l.take (cls (l.getD 0 0).toNat).1).drop 1) 0).toNat).length ≠ (cls (l.getD 0 0).toNat).1 then (0, 0)
  else (((cls (l.getD 0 0).toNat).2 : Int) * 64 ^ ((cls (l.getD 0 0).toNat).1 - 1) + lowGo ((l.take (cls (l.getD 0 0).toNat).1).drop 1) 0, (cls (l.getD 0 0).toNat).1)

def pairRes (r : Int × Int) : Value := .tuple #[.int .i64 r.1, .int .i64 r.2]
theorem pairRes_mk (a b : Int) : pairRes (a, b) = .tuple #[.int .i64 a, .int .i64 b] := rfl

theorem putZ_any (a : Int) (hf : fineB a = true) (w : World) :
    Calls Tryd.prog 15 #[.int .i64 a] w fun e w' => ∃ b cap, e = .returned (.slice (some ⟨b, 0, none⟩) (put a.toNat).length cap) ∧ w.heap.size ≤ b ∧ (put a.toNat).length ≤ cap ∧ bytesAt w' b 0 (put a.toNat) ∧ Below w.heap.size w w' := by
  have h0 := (fineB_le hf).1
  obtain ⟨c, rfl⟩ : ∃ c : Nat, a = c := ⟨a.toNat, by omega⟩
  exact put_any c hf w

theorem bytes_mid {w : World} {b off : Nat} {l : List UInt8} (hm : bytesAt w b off l) (n : Nat) : bytesAt w b (off + 1) ((l.take n).drop 1) := by
  intro j hj
  rw [List.length_drop, List.length_take] at hj
  have := hm (1 + j) (by omega)
  rw [Nat.add_assoc, this]
  congr 3
  have h2 : 1 + j < n := by omega
  simp only [List.getD_eq_getElem?_getD, List.getElem?_drop, List.getElem?_take]
  rw [if_pos h2]

/-- What is left to ask of a character's number. -/
def refEnd (z : Int) (n : Int) : Int × Int := if fineB z = false then (0, 0) else if ((put z.toNat).length : Int) ≠ n then (0, 0) else (z, n)

theorem refRune_at {l : List UInt8} {x : UInt8} (h0 : l ≠ []) (hx : l.getD 0 0 = x) {n top : Nat} (hc : cls x.toNat = (n, top)) (hn : n ≠ 0) (hl : n ≤ l.length) :
    refRune l = if lowGo ((l.take n).drop 1) 0 < 0 then (0, 0) else refEnd ((top : Int) * 64 ^ (n - 1) + lowGo ((l.take n).drop 1) 0) n := by
  unfold refRune refEnd
  rw [if_neg h0, hx, hc]
  simp only []
  rw [if_neg (by omega)]
  split
  · rfl
  · split
    · rfl
    · split
      · rename_i h
        rw [if_pos (by omega)]
      · rename_i h
        rw [if_neg (by omega)]

theorem refRune_short {l : List UInt8} {x : UInt8} (h0 : l ≠ []) (hx : l.getD 0 0 = x) {n top : Nat} (hc : cls x.toNat = (n, top)) (hl : n = 0 ∨ l.length < n) : refRune l = (0, 0) := by
  unfold refRune
  rw [if_neg h0, hx, hc]
  simp only []
  rw [if_pos hl]

end Go.Proofs.YtgkfadkgkdjcoaaDoor
