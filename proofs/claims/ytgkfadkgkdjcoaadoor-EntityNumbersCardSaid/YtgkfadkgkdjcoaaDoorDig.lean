/- Walks: the document's answer of layer 3: digits, numbers (tipstaveref03.digit, number, begins). -/
import Derived.Test.YtgkfadkgkdjcoaaDoorBack
set_option linter.unusedVariables false
set_option linter.unusedSimpArgs false
namespace Go.Proofs.YtgkfadkgkdjcoaaDoor
open Go.RowKit

/-- A digit's value to the base; -1: it is none. -/
def digZ (base : Nat) (b : UInt8) : Int := if digV b < base then (digV b : Int) else -1

theorem digV_cases (b : UInt8) : ((b.toNat : Int) < 48 ∧ digV b = 99) ∨ (48 ≤ (b.toNat : Int) ∧ (b.toNat : Int) ≤ 57 ∧ (digV b : Int) = (b.toNat : Int) - 48) ∨ (57 < (b.toNat : Int) ∧ (b.toNat : Int) < 65 ∧ digV b = 99) ∨ (65 ≤ (b.toNat : Int) ∧ (b.toNat : Int) ≤ 70 ∧ (digV b : Int) = (b.toNat : Int) - 55) ∨ (70 < (b.toNat : Int) ∧ (b.toNat : Int) < 97 ∧ digV b = 99) ∨ (97 ≤ (b.toNat : Int) ∧ (b.toNat : Int) ≤ 102 ∧ (digV b : Int) = (b.toNat : Int) - 87) ∨ (102 < (b.toNat : Int) ∧ digV b = 99) := by
  unfold digV
  repeat' split
  all_goals omega

set_option maxHeartbeats 4000000 in
theorem digit_any (base : Nat) (hbase : base = 10 ∨ base = 16) (b : UInt8) (w : World) :
    Calls Tryd.prog 46 #[.int .u8 b.toNat, .int .i64 base] w fun e w' => e = .returned (.int .i64 (digZ base b)) ∧ w' = w := by
  have hd := digV_cases b
  have hb0 := b.toNat_lt
  obtain ⟨z, hz⟩ : ∃ z : Int, z = digZ base b := ⟨_, rfl⟩
  have hz2 : ((digV b : Int) < base ∧ z = digV b) ∨ ((base : Int) ≤ digV b ∧ z = -1) := by
    rw [hz]; unfold digZ; split <;> omega
  obtain ⟨d, hdd⟩ : ∃ d : Int, d = (digV b : Int) := ⟨_, rfl⟩
  obtain ⟨a, ha⟩ : ∃ a : Int, a = (b.toNat : Int) := ⟨_, rfl⟩
  have h99 : digV b = 99 ↔ d = 99 := by omega
  rw [← hz]
  rw [← ha, ← hdd, h99] at hd
  rw [← hdd] at hz2
  rw [← ha]
  have a0 : 0 ≤ a := by omega
  have a1 : a < 256 := by omega
  clear ha hdd h99 hz hb0
  rcases hbase with rfl | rfl
  all_goals
    rcases hd with ⟨k1, k2⟩ | ⟨k1, k2, k3⟩ | ⟨k1, k2, k3⟩ | ⟨k1, k2, k3⟩ | ⟨k1, k2, k3⟩ | ⟨k1, k2, k3⟩ | ⟨k1, k2⟩
  all_goals
    rcases hz2 with ⟨q1, q2⟩ | ⟨q1, q2⟩
  all_goals first
    | (exfalso; omega)
    | (subst q2
       go_enter Tryd.func46, Tryd.ntmps46
       go_wp2
       go_ret
       exact ⟨by go_num, rfl⟩)

/-- A number's digits at a text's head. -/
def digs (base : Nat) (l : List UInt8) : List UInt8 := l.takeWhile fun b => decide (digV b < base)
/-- The number and how many bytes with the ;: none: 0. -/
def numRes (base most : Nat) (l : List UInt8) : Nat × Nat :=
  if most < (digs base l).length then (0, 0)
  else if digs base l = [] ∨ (l.drop (digs base l).length).head? ≠ some 59 ∨ fineB (numL base (digs base l)) = false then (0, 0)
  else (numL base (digs base l), (digs base l).length + 1)

theorem digs_at {base : Nat} : ∀ (l : List UInt8) (i : Nat), i ≤ l.length → allD base (l.take i) = true → (∀ h : i < l.length, ¬ digV l[i] < base) → digs base l = l.take i
  | [], i, hi, h, hn => by simp [digs]
  | b :: l, 0, hi, h, hn => by
    have := hn (by simp)
    simp at this
    unfold digs
    rw [List.takeWhile_cons, if_neg (by simpa using this)]
    rfl
  | b :: l, i + 1, hi, h, hn => by
    have hb : digV b < base := by
      unfold allD at h; simp at h; exact h.1
    have ht : allD base (l.take i) = true := by
      unfold allD at h ⊢; simp at h ⊢; exact h.2
    have ih := digs_at l i (by simpa using hi) ht (fun h2 => by have := hn (by simpa using h2); simpa using this)
    unfold digs at ih ⊢
    rw [List.takeWhile_cons, if_pos (by simpa using hb), ih]
    rfl

theorem digs_long {base : Nat} : ∀ (l : List UInt8) (i : Nat) (hi : i < l.length), allD base (l.take i) = true → digV l[i] < base → i < (digs base l).length
  | [], i, hi, h, hn => by simp at hi
  | b :: l, 0, hi, h, hn => by
    simp at hn
    unfold digs
    rw [List.takeWhile_cons, if_pos (by simpa using hn)]
    simp
  | b :: l, i + 1, hi, h, hn => by
    have hb : digV b < base := by
      unfold allD at h; simp at h; exact h.1
    have ht : allD base (l.take i) = true := by
      unfold allD at h ⊢; simp at h ⊢; exact h.2
    have ih := digs_long l i (by simpa using hi) ht (by simpa using hn)
    unfold digs at ih ⊢
    rw [List.takeWhile_cons, if_pos (by simpa using hb)]
    simpa using ih

theorem allD_snoc {base : Nat} {l : List UInt8} {i : Nat} (hi : i < l.length) (h : allD base (l.take i) = true) (hd : digV l[i] < base) : allD base (l.take (i + 1)) = true := by
  rw [List.take_succ_eq_append_getElem hi]
  unfold allD at h ⊢
  rw [List.all_append, h]
  simpa using hd

theorem numRes_at {base most i : Nat} {l : List UInt8} (hds : digs base l = l.take i) (hi : i ≤ l.length) (him : i ≤ most) :
    numRes base most l = if i = 0 ∨ (l.drop i).head? ≠ some 59 ∨ fineB (numL base (l.take i)) = false then (0, 0) else (numL base (l.take i), i + 1) := by
  have hlen : (l.take i).length = i := by rw [List.length_take]; omega
  unfold numRes
  rw [hds, hlen, if_neg (by omega)]
  have e : (l.take i = []) = (i = 0) := by
    apply propext
    constructor
    · intro h; rw [h] at hlen; simpa using hlen.symm
    · rintro rfl; simp
  simp only [e]

/-- A pair of numbers, as the program returns it. -/
def nnRes (x : Nat × Nat) : Value := .tuple #[.int .i64 (x.1 : Nat), .int .i64 (x.2 : Nat)]
theorem nnRes_mk (a b : Nat) : nnRes (a, b) = .tuple #[.int .i64 (a : Nat), .int .i64 (b : Nat)] := rfl

set_option maxHeartbeats 4000000 in
set_option maxRecDepth 100000 in
theorem number10_any (l : List UInt8) (s : ByteArray) (hs : s = ⟨l.toArray⟩) (most : Nat) (hmost : most ≤ 7) (w : World) (hl : l.length ≤ 2147483647) :
    Calls Tryd.prog 32 #[.string s, .int .i64 10, .int .i64 most] w fun e w' => e = .returned (nnRes (numRes 10 most l)) ∧ w' = w := by
  subst hs
  go_enter Tryd.func32, Tryd.ntmps32
  go_wp2
  go_loop [8, 9] (fun v7 v8 => ∃ (i x : Nat), v7 = .int .i64 x ∧ v8 = .int .i64 i ∧ i ≤ l.length ∧ i ≤ most ∧ Hid (allD 10 (l.take i) = true) ∧ Hid (x = numL 10 (l.take i)) ∧ x < 268435456) (fun v7 v8 => l.length - (intOf v8).toNat)
  case atStart => exact ⟨0, 0, rfl, rfl, by omega, by omega, Lib.hid rfl, Lib.hid rfl, by omega⟩
  case round =>
    obtain ⟨i, x, rfl, rfl, hi, him, hall, hx, hxb⟩ := hrel
    by_cases hp : i < l.length
    · have hg0 : (⟨l.toArray⟩ : ByteArray)[i]'(by rw [ba_size]; exact hp) = l[i] := rfl
      have hlong := fun h => digs_long (base := 10) l i hp hall.out h
      have hat : (¬ digV l[i] < 10) → digs 10 l = l.take i := fun h => digs_at l i hi hall.out (fun _ => h)
      have hsnoc := fun h => allD_snoc (base := 10) hp hall.out h
      have hnum := numL_take 10 l i hp
      have hdrop : l.drop i = l[i] :: l.drop (i + 1) := List.drop_eq_getElem_cons hp
      have hlen : (l.take i).length = i := by rw [List.length_take]; omega
      generalize hgb : l[i] = b at *
      have HG0 := hg0
      have hin : (i : Int) < (l.length : Int) := by omega
      have hb256 := b.toNat_lt
      have cD := fun wx => digit_any 10 (by decide) b wx
      have eB : ((10 : Nat) : Int) = (10 : Int) := rfl
      rw [eB] at cD
      clear eB
      by_cases hd : digV b < 10
      · have hz : digZ 10 b = (digV b : Int) := by unfold digZ; rw [if_pos hd]
        rw [hz] at cD
        by_cases hm : i = most
        · have HF : Hid (numRes 10 most l = (0, 0)) := Lib.hid (by unfold numRes; rw [if_pos (by have := hlong hd; omega)])
          subst hm
          have CD := Lib.hid cD
          clear cD hz hsnoc hnum hdrop hlen hlong hat hall hx hgb
          go_wp2_with (go_at_call 46; refine (CD.out _).mono ?_; rintro e w1 ⟨rfl, rfl⟩)
          go_ret2
          exact ⟨by rw [HF.out]; rfl, rfl⟩
        · have im : ((i : Int) == (most : Int)) = false := by rw [beq_eq_false_iff_ne]; omega
          have hall2 := hsnoc hd
          have hxn : 10 * x + digV b = numL 10 (l.take (i + 1)) := by rw [hnum, hx.out]; omega
          have hlt := numL_lt7 10 (by decide) (by decide) (l.take (i + 1)) hall2 (by rw [List.length_take]; omega)
          have hxb2 : 10 * x + digV b < 268435456 := by omega
          have HA := Lib.hid hall2
          have HX := Lib.hid hxn
          have CD := Lib.hid cD
          generalize digV b = d at *
          clear cD hz hsnoc hnum hdrop hlen hlong hat hall hx hgb hall2 hxn hlt
          go_wp2_with (go_at_call 46; refine (CD.out _).mono ?_; rintro e w1 ⟨rfl, rfl⟩)
          go_round
          case rel => exact ⟨i + 1, 10 * x + d, by go_num, by go_num, by omega, by omega, HA, HX, hxb2⟩
          case measure => simp [intOf]; omega
      · have hz : digZ 10 b = -1 := by unfold digZ; rw [if_neg hd]
        rw [hz] at cD
        have hds := numRes_at (most := most) (hat hd) hi him
        have hdr : (l.drop i).head? = some b := by rw [hdrop]; rfl
        rw [hdr, ← hx.out] at hds
        have CD := Lib.hid cD
        clear cD hz hsnoc hnum hdrop hlen hlong hat hall hx hgb hdr
        by_cases h0 : i = 0
        · have HF : Hid (numRes 10 most l = (0, 0)) := Lib.hid (by rw [hds, if_pos (Or.inl h0)])
          subst h0
          clear hds
          go_wp2_with (go_at_call 46; refine (CD.out _).mono ?_; rintro e w1 ⟨rfl, rfl⟩)
          go_ret2
          exact ⟨by rw [HF.out]; rfl, rfl⟩
        · have i0 : ((i : Int) == 0) = false := by rw [beq_eq_false_iff_ne]; omega
          have il : ((i : Int) == (l.length : Int)) = false := by rw [beq_eq_false_iff_ne]; omega
          by_cases h59 : b = 59
          · subst h59
            cases hfx : fineB (x : Int) with
            | false =>
              have HF : Hid (numRes 10 most l = (0, 0)) := Lib.hid (by rw [hds, if_pos (Or.inr (Or.inr hfx))])
              have cF := fun wx => fineR_any (x : Int) wx
              rw [hfx] at cF
              have CF := Lib.hid cF
              clear hds cF hfx
              go_wp2_with (first | (go_at_call 46; refine (CD.out _).mono ?_; rintro e w1 ⟨rfl, rfl⟩) | (go_at_call 14; refine (CF.out _).mono ?_; rintro e w1 ⟨rfl, rfl⟩))
              go_ret2
              exact ⟨by rw [HF.out]; rfl, rfl⟩
            | true =>
              have HF : Hid (numRes 10 most l = (x, i + 1)) := Lib.hid (by rw [hds, if_neg]; rintro (h | h | h); exact h0 h; exact h rfl; rw [hfx] at h; cases h)
              have cF := fun wx => fineR_any (x : Int) wx
              rw [hfx] at cF
              have CF := Lib.hid cF
              clear hds cF hfx
              go_wp2_with (first | (go_at_call 46; refine (CD.out _).mono ?_; rintro e w1 ⟨rfl, rfl⟩) | (go_at_call 14; refine (CF.out _).mono ?_; rintro e w1 ⟨rfl, rfl⟩))
              go_ret2
              exact ⟨by rw [HF.out, nnRes_mk]; go_num, rfl⟩
          · have HF : Hid (numRes 10 most l = (0, 0)) := Lib.hid (by rw [hds, if_pos (Or.inr (Or.inl (fun h => h59 (Option.some.inj h))))])
            have i59 : ((b.toNat : Int) != 59) = true := by
              rw [bne_iff_ne]; intro h; exact h59 (UInt8.toNat_inj.1 (by simpa using (by omega : b.toNat = 59)))
            have cF := fun wx => fineR_any (x : Int) wx
            have CF := Lib.hid cF
            clear hds cF h59
            go_wp2_with (first | (go_at_call 46; refine (CD.out _).mono ?_; rintro e w1 ⟨rfl, rfl⟩) | (go_at_call 14; refine (CF.out _).mono ?_; rintro e w1 ⟨rfl, rfl⟩))
            go_ret2
            exact ⟨by rw [HF.out]; rfl, rfl⟩
    · have hie : i = l.length := by omega
      have hat : digs 10 l = l.take i := digs_at l i hi hall.out (fun h => absurd h hp)
      have hds := numRes_at (most := most) hat hi him
      have HF : Hid (numRes 10 most l = (0, 0)) := Lib.hid (by rw [hds, if_pos (Or.inr (Or.inl (by rw [hie, List.drop_length]; simp)))])
      clear hds hat hall hx
      subst hie
      by_cases h0 : l.length = 0
      · have i0 : ((l.length : Int) == 0) = true := by rw [beq_iff_eq]; omega
        go_wp2
        go_ret2
        exact ⟨by rw [HF.out]; rfl, rfl⟩
      · have i0 : ((l.length : Int) == 0) = false := by rw [beq_eq_false_iff_ne]; omega
        go_wp2
        go_ret2
        exact ⟨by rw [HF.out]; rfl, rfl⟩

set_option maxHeartbeats 4000000 in
set_option maxRecDepth 100000 in
theorem number16_any (l : List UInt8) (s : ByteArray) (hs : s = ⟨l.toArray⟩) (most : Nat) (hmost : most ≤ 7) (w : World) (hl : l.length ≤ 2147483647) :
    Calls Tryd.prog 32 #[.string s, .int .i64 16, .int .i64 most] w fun e w' => e = .returned (nnRes (numRes 16 most l)) ∧ w' = w := by
  subst hs
  go_enter Tryd.func32, Tryd.ntmps32
  go_wp2
  go_loop [8, 9] (fun v7 v8 => ∃ (i x : Nat), v7 = .int .i64 x ∧ v8 = .int .i64 i ∧ i ≤ l.length ∧ i ≤ most ∧ Hid (allD 16 (l.take i) = true) ∧ Hid (x = numL 16 (l.take i)) ∧ x < 268435456) (fun v7 v8 => l.length - (intOf v8).toNat)
  case atStart => exact ⟨0, 0, rfl, rfl, by omega, by omega, Lib.hid rfl, Lib.hid rfl, by omega⟩
  case round =>
    obtain ⟨i, x, rfl, rfl, hi, him, hall, hx, hxb⟩ := hrel
    by_cases hp : i < l.length
    · have hg0 : (⟨l.toArray⟩ : ByteArray)[i]'(by rw [ba_size]; exact hp) = l[i] := rfl
      have hlong := fun h => digs_long (base := 16) l i hp hall.out h
      have hat : (¬ digV l[i] < 16) → digs 16 l = l.take i := fun h => digs_at l i hi hall.out (fun _ => h)
      have hsnoc := fun h => allD_snoc (base := 16) hp hall.out h
      have hnum := numL_take 16 l i hp
      have hdrop : l.drop i = l[i] :: l.drop (i + 1) := List.drop_eq_getElem_cons hp
      have hlen : (l.take i).length = i := by rw [List.length_take]; omega
      generalize hgb : l[i] = b at *
      have HG0 := hg0
      have hin : (i : Int) < (l.length : Int) := by omega
      have hb256 := b.toNat_lt
      have cD := fun wx => digit_any 16 (by decide) b wx
      have eB : ((16 : Nat) : Int) = (16 : Int) := rfl
      rw [eB] at cD
      clear eB
      by_cases hd : digV b < 16
      · have hz : digZ 16 b = (digV b : Int) := by unfold digZ; rw [if_pos hd]
        rw [hz] at cD
        by_cases hm : i = most
        · have HF : Hid (numRes 16 most l = (0, 0)) := Lib.hid (by unfold numRes; rw [if_pos (by have := hlong hd; omega)])
          subst hm
          have CD := Lib.hid cD
          clear cD hz hsnoc hnum hdrop hlen hlong hat hall hx hgb
          go_wp2_with (go_at_call 46; refine (CD.out _).mono ?_; rintro e w1 ⟨rfl, rfl⟩)
          go_ret2
          exact ⟨by rw [HF.out]; rfl, rfl⟩
        · have im : ((i : Int) == (most : Int)) = false := by rw [beq_eq_false_iff_ne]; omega
          have hall2 := hsnoc hd
          have hxn : 16 * x + digV b = numL 16 (l.take (i + 1)) := by rw [hnum, hx.out]; omega
          have hlt := numL_lt7 16 (by decide) (by decide) (l.take (i + 1)) hall2 (by rw [List.length_take]; omega)
          have hxb2 : 16 * x + digV b < 268435456 := by omega
          have HA := Lib.hid hall2
          have HX := Lib.hid hxn
          have CD := Lib.hid cD
          generalize digV b = d at *
          clear cD hz hsnoc hnum hdrop hlen hlong hat hall hx hgb hall2 hxn hlt
          go_wp2_with (go_at_call 46; refine (CD.out _).mono ?_; rintro e w1 ⟨rfl, rfl⟩)
          go_round
          case rel => exact ⟨i + 1, 16 * x + d, by go_num, by go_num, by omega, by omega, HA, HX, hxb2⟩
          case measure => simp [intOf]; omega
      · have hz : digZ 16 b = -1 := by unfold digZ; rw [if_neg hd]
        rw [hz] at cD
        have hds := numRes_at (most := most) (hat hd) hi him
        have hdr : (l.drop i).head? = some b := by rw [hdrop]; rfl
        rw [hdr, ← hx.out] at hds
        have CD := Lib.hid cD
        clear cD hz hsnoc hnum hdrop hlen hlong hat hall hx hgb hdr
        by_cases h0 : i = 0
        · have HF : Hid (numRes 16 most l = (0, 0)) := Lib.hid (by rw [hds, if_pos (Or.inl h0)])
          subst h0
          clear hds
          go_wp2_with (go_at_call 46; refine (CD.out _).mono ?_; rintro e w1 ⟨rfl, rfl⟩)
          go_ret2
          exact ⟨by rw [HF.out]; rfl, rfl⟩
        · have i0 : ((i : Int) == 0) = false := by rw [beq_eq_false_iff_ne]; omega
          have il : ((i : Int) == (l.length : Int)) = false := by rw [beq_eq_false_iff_ne]; omega
          by_cases h59 : b = 59
          · subst h59
            cases hfx : fineB (x : Int) with
            | false =>
              have HF : Hid (numRes 16 most l = (0, 0)) := Lib.hid (by rw [hds, if_pos (Or.inr (Or.inr hfx))])
              have cF := fun wx => fineR_any (x : Int) wx
              rw [hfx] at cF
              have CF := Lib.hid cF
              clear hds cF hfx
              go_wp2_with (first | (go_at_call 46; refine (CD.out _).mono ?_; rintro e w1 ⟨rfl, rfl⟩) | (go_at_call 14; refine (CF.out _).mono ?_; rintro e w1 ⟨rfl, rfl⟩))
              go_ret2
              exact ⟨by rw [HF.out]; rfl, rfl⟩
            | true =>
              have HF : Hid (numRes 16 most l = (x, i + 1)) := Lib.hid (by rw [hds, if_neg]; rintro (h | h | h); exact h0 h; exact h rfl; rw [hfx] at h; cases h)
              have cF := fun wx => fineR_any (x : Int) wx
              rw [hfx] at cF
              have CF := Lib.hid cF
              clear hds cF hfx
              go_wp2_with (first | (go_at_call 46; refine (CD.out _).mono ?_; rintro e w1 ⟨rfl, rfl⟩) | (go_at_call 14; refine (CF.out _).mono ?_; rintro e w1 ⟨rfl, rfl⟩))
              go_ret2
              exact ⟨by rw [HF.out, nnRes_mk]; go_num, rfl⟩
          · have HF : Hid (numRes 16 most l = (0, 0)) := Lib.hid (by rw [hds, if_pos (Or.inr (Or.inl (fun h => h59 (Option.some.inj h))))])
            have i59 : ((b.toNat : Int) != 59) = true := by
              rw [bne_iff_ne]; intro h; exact h59 (UInt8.toNat_inj.1 (by simpa using (by omega : b.toNat = 59)))
            have cF := fun wx => fineR_any (x : Int) wx
            have CF := Lib.hid cF
            clear hds cF h59
            go_wp2_with (first | (go_at_call 46; refine (CD.out _).mono ?_; rintro e w1 ⟨rfl, rfl⟩) | (go_at_call 14; refine (CF.out _).mono ?_; rintro e w1 ⟨rfl, rfl⟩))
            go_ret2
            exact ⟨by rw [HF.out]; rfl, rfl⟩
    · have hie : i = l.length := by omega
      have hat : digs 16 l = l.take i := digs_at l i hi hall.out (fun h => absurd h hp)
      have hds := numRes_at (most := most) hat hi him
      have HF : Hid (numRes 16 most l = (0, 0)) := Lib.hid (by rw [hds, if_pos (Or.inr (Or.inl (by rw [hie, List.drop_length]; simp)))])
      clear hds hat hall hx
      subst hie
      by_cases h0 : l.length = 0
      · have i0 : ((l.length : Int) == 0) = true := by rw [beq_iff_eq]; omega
        go_wp2
        go_ret2
        exact ⟨by rw [HF.out]; rfl, rfl⟩
      · have i0 : ((l.length : Int) == 0) = false := by rw [beq_eq_false_iff_ne]; omega
        go_wp2
        go_ret2
        exact ⟨by rw [HF.out]; rfl, rfl⟩

end Go.Proofs.YtgkfadkgkdjcoaaDoor
