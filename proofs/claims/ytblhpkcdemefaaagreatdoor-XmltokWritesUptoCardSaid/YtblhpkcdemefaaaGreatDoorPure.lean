/- Plain laws: characters put and read again; what is escaped tells what it was. -/
import Derived.Test.YtblhpkcdemefaaaGreatDoorEscp
set_option linter.unusedVariables false
set_option linter.unusedSimpArgs false
namespace Go.Proofs.YtblhpkcdemefaaaGreatDoor

theorem decL_N (l : List UInt8) : Lib.decodeL l = Lib.decodeN l.length (l.getD 0 0).toNat (l.getD 1 0).toNat (l.getD 2 0).toNat (l.getD 3 0).toNat := by
  unfold Lib.decodeL
  rw [Lib.decode_at]
  have hs : (⟨l.toArray⟩ : ByteArray).size = l.length := Lib.size_eq _
  rw [hs, get!_toList, get!_toList, get!_toList, get!_toList]
  rfl

theorem u8_nat (x : Int) (h0 : 0 ≤ x) (h1 : x < 256) : (x.toNat.toUInt8).toNat = x.toNat := by
  simp [Nat.toUInt8, UInt8.toNat_ofNat]
  omega

/-- A character that may be, put, is read, whatever stands behind. -/
theorem rune1_encode (c : Nat) (hf : fineB c = true) (r : List UInt8) : rune1 (Lib.encodeRune (c : Int) ++ r) = some (c, (Lib.encodeRune (c : Int)).length) := by
  have hc := (fineB_iff _).1 hf
  have key : Lib.decodeL (Lib.encodeRune (c : Int) ++ r) = (c, (Lib.encodeRune (c : Int)).length) := by
    rw [decL_N]
    unfold Lib.encodeRune
    by_cases h1 : c ≤ 127
    · rw [Lib.encodeRuneZ_one (by omega) (by omega)]
      have e0 := u8_nat (c : Int) (by omega) (by omega)
      simp only [List.map_cons, List.map_nil, List.cons_append, List.nil_append, List.length_cons, List.getD_cons_zero, List.length_nil]
      rw [e0]
      unfold Lib.decodeN
      rw [if_pos (by omega)]
      simp
    · by_cases h2 : c ≤ 2047
      · rw [Lib.encodeRuneZ_two (by omega) (by omega)]
        have e0 := u8_nat (192 + (c : Int) / 64) (by omega) (by omega)
        have e1 := u8_nat (128 + (c : Int) % 64) (by omega) (by omega)
        simp only [List.map_cons, List.map_nil, List.cons_append, List.nil_append, List.length_cons, List.getD_cons_zero, List.getD_cons_succ, List.length_nil]
        rw [e0, e1]
        unfold Lib.decodeN
        rw [if_neg (by omega), if_pos (by omega), if_pos (by omega)]
        apply Prod.ext <;> simp only [] <;> omega
      · by_cases h3 : c ≤ 65535
        · rw [Lib.encodeRuneZ_three (by omega)]
          have e0 := u8_nat (224 + (c : Int) / 4096) (by omega) (by omega)
          have e1 := u8_nat (128 + (c : Int) / 64 % 64) (by omega) (by omega)
          have e2 := u8_nat (128 + (c : Int) % 64) (by omega) (by omega)
          simp only [List.map_cons, List.map_nil, List.cons_append, List.nil_append, List.length_cons, List.getD_cons_zero, List.getD_cons_succ, List.length_nil]
          rw [e0, e1, e2]
          unfold Lib.decodeN
          rw [if_neg (by omega), if_neg (by omega), if_pos (by omega), if_pos (by omega)]
          apply Prod.ext <;> simp only [] <;> omega
        · rw [Lib.encodeRuneZ_four (by omega) (by omega)]
          have e0 := u8_nat (240 + (c : Int) / 262144) (by omega) (by omega)
          have e1 := u8_nat (128 + (c : Int) / 4096 % 64) (by omega) (by omega)
          have e2 := u8_nat (128 + (c : Int) / 64 % 64) (by omega) (by omega)
          have e3 := u8_nat (128 + (c : Int) % 64) (by omega) (by omega)
          simp only [List.map_cons, List.map_nil, List.cons_append, List.nil_append, List.length_cons, List.getD_cons_zero, List.getD_cons_succ, List.length_nil]
          rw [e0, e1, e2, e3]
          unfold Lib.decodeN
          rw [if_neg (by omega), if_neg (by omega), if_neg (by omega), if_pos (by omega), if_pos (by omega)]
          apply Prod.ext <;> simp only [] <;> omega
  have hne : Lib.encodeRune (c : Int) ++ r ≠ [] := by
    intro h
    have h1 := (List.append_eq_nil_iff.1 h).1
    have h2 := (Lib.runeCells_le (c : Int)).1
    rw [Lib.runeCells_length, h1] at h2
    simp at h2
  unfold rune1
  rw [if_neg hne, key]
  simp only []
  rw [if_neg, if_pos hf]
  rintro ⟨rfl, h⟩
  have : (Lib.encodeRune (65533 : Int)).length = 3 := by decide
  have e : ((65533 : Nat) : Int) = (65533 : Int) := rfl
  rw [e] at h
  omega

theorem u8_of (x : Int) (b : UInt8) (h : x = (b.toNat : Int)) : x.toNat.toUInt8 = b := by
  subst h
  simp [Nat.toUInt8]

theorem len_cons2 {l : List UInt8} (h : 1 < l.length) : ∃ x0 x1 r, l = x0 :: x1 :: r := by
  cases l with
  | nil => simp at h
  | cons a l => cases l with
    | nil => simp at h
    | cons b l => exact ⟨a, b, l, rfl⟩
theorem len_cons3 {l : List UInt8} (h : 2 < l.length) : ∃ x0 x1 x2 r, l = x0 :: x1 :: x2 :: r := by
  obtain ⟨a, b, r, rfl⟩ := len_cons2 (l := l) (by omega)
  cases r with
  | nil => simp at h
  | cons c r => exact ⟨a, b, c, r, rfl⟩
theorem len_cons4 {l : List UInt8} (h : 3 < l.length) : ∃ x0 x1 x2 x3 r, l = x0 :: x1 :: x2 :: x3 :: r := by
  obtain ⟨a, b, c, r, rfl⟩ := len_cons3 (l := l) (by omega)
  cases r with
  | nil => simp at h
  | cons d r => exact ⟨a, b, c, d, r, rfl⟩

/-- What is read is its bytes, and what stands behind. -/
theorem rune1_split {l : List UInt8} {c n : Nat} (h : rune1 l = some (c, n)) : ∃ r, l = Lib.encodeRune (c : Int) ++ r ∧ n = (Lib.encodeRune (c : Int)).length := by
  obtain ⟨h0, b1, b2, b3, b4, b5⟩ := rune1_bounds h
  have hd : Lib.decodeL l = (c, n) ∧ ¬ (c = 65533 ∧ n < 2) := by
    unfold rune1 at h
    rw [if_neg h0] at h
    split at h
    · cases h
    · rename_i hn
      split at h
      · have e := Option.some.inj h
        rw [e] at hn
        exact ⟨e, hn⟩
      · cases h
  obtain ⟨hd, hn⟩ := hd
  rw [decL_N] at hd
  obtain ⟨x0, l1, rfl⟩ : ∃ x l1, l = x :: l1 := by
    cases l with
    | nil => exact absurd rfl h0
    | cons x l1 => exact ⟨x, l1, rfl⟩
  have g0 : ((x0 :: l1).getD 0 0) = x0 := rfl
  rw [g0] at hd
  have t0 := x0.toNat_lt
  unfold Lib.decodeN at hd
  split at hd
  · have e1 : x0.toNat = c := congrArg Prod.fst hd
    have e2 : 1 = n := congrArg Prod.snd hd
    refine ⟨l1, ?_, ?_⟩
    · unfold Lib.encodeRune
      rw [Lib.encodeRuneZ_one (by omega) (by omega)]
      simp only [List.map_cons, List.map_nil, List.cons_append, List.nil_append]
      rw [u8_of _ x0 (by omega)]
    · unfold Lib.encodeRune
      rw [Lib.encodeRuneZ_one (by omega) (by omega)]
      simp; omega
  · rename_i hx0
    split at hd
    · rename_i hc
      obtain ⟨y0, y1, r, he⟩ := len_cons2 hc.2.1
      cases he
      have g1 : ((x0 :: y1 :: r).getD 1 0) = y1 := rfl
      rw [g1] at hd hc
      have t1 := y1.toNat_lt
      split at hd
      · have e1 := congrArg Prod.fst hd
        have e2 : 2 = n := congrArg Prod.snd hd
        simp only [] at e1
        refine ⟨r, ?_, ?_⟩
        · unfold Lib.encodeRune
          rw [Lib.encodeRuneZ_two (by omega) (by omega)]
          simp only [List.map_cons, List.map_nil, List.cons_append, List.nil_append]
          rw [u8_of _ x0 (by omega), u8_of _ y1 (by omega)]
        · unfold Lib.encodeRune
          rw [Lib.encodeRuneZ_two (by omega) (by omega)]
          simp; omega
      · exact absurd ⟨(congrArg Prod.fst hd).symm, by have := congrArg Prod.snd hd; simp only [] at this; omega⟩ hn
    · split at hd
      · rename_i hc
        obtain ⟨y0, y1, y2, r, he⟩ := len_cons3 hc.2.2.1
        cases he
        have g1 : ((x0 :: y1 :: y2 :: r).getD 1 0) = y1 := rfl
        have g2 : ((x0 :: y1 :: y2 :: r).getD 2 0) = y2 := rfl
        rw [g1, g2] at hd hc
        have t1 := y1.toNat_lt
        have t2 := y2.toNat_lt
        split at hd
        · have e1 := congrArg Prod.fst hd
          have e2 : 3 = n := congrArg Prod.snd hd
          simp only [] at e1
          refine ⟨r, ?_, ?_⟩
          · unfold Lib.encodeRune
            rw [Lib.encodeRuneZ_three (by omega)]
            simp only [List.map_cons, List.map_nil, List.cons_append, List.nil_append]
            rw [u8_of _ x0 (by omega), u8_of _ y1 (by omega), u8_of _ y2 (by omega)]
          · unfold Lib.encodeRune
            rw [Lib.encodeRuneZ_three (by omega)]
            simp; omega
        · exact absurd ⟨(congrArg Prod.fst hd).symm, by have := congrArg Prod.snd hd; simp only [] at this; omega⟩ hn
      · split at hd
        · rename_i hc
          obtain ⟨y0, y1, y2, y3, r, he⟩ := len_cons4 hc.2.2.2.1
          cases he
          have g1 : ((x0 :: y1 :: y2 :: y3 :: r).getD 1 0) = y1 := rfl
          have g2 : ((x0 :: y1 :: y2 :: y3 :: r).getD 2 0) = y2 := rfl
          have g3 : ((x0 :: y1 :: y2 :: y3 :: r).getD 3 0) = y3 := rfl
          rw [g1, g2, g3] at hd hc
          have t1 := y1.toNat_lt
          have t2 := y2.toNat_lt
          have t3 := y3.toNat_lt
          split at hd
          · have e1 := congrArg Prod.fst hd
            have e2 : 4 = n := congrArg Prod.snd hd
            simp only [] at e1
            refine ⟨r, ?_, ?_⟩
            · unfold Lib.encodeRune
              rw [Lib.encodeRuneZ_four (by omega) (by omega)]
              simp only [List.map_cons, List.map_nil, List.cons_append, List.nil_append]
              rw [u8_of _ x0 (by omega), u8_of _ y1 (by omega), u8_of _ y2 (by omega), u8_of _ y3 (by omega)]
            · unfold Lib.encodeRune
              rw [Lib.encodeRuneZ_four (by omega) (by omega)]
              simp; omega
          · exact absurd ⟨(congrArg Prod.fst hd).symm, by have := congrArg Prod.snd hd; simp only [] at this; omega⟩ hn
        · exact absurd ⟨(congrArg Prod.fst hd).symm, by have := congrArg Prod.snd hd; simp only [] at this; omega⟩ hn

/-- Characters, put one behind the other. -/
def put (c : Nat) : List UInt8 := Lib.encodeRune (c : Int)
def chars (cs : List Nat) : List UInt8 := cs.flatMap put
def allFine (cs : List Nat) : Prop := ∀ c ∈ cs, fineB (c : Int) = true

theorem allFine_nil : allFine [] := fun c hc => (List.not_mem_nil hc).elim

theorem put_len (c : Nat) : 1 ≤ (put c).length ∧ (put c).length ≤ 4 := by
  have h := Lib.runeCells_le (c : Int)
  rw [Lib.runeCells_length] at h
  exact h
theorem chars_cons (c : Nat) (cs : List Nat) : chars (c :: cs) = put c ++ chars cs := List.flatMap_cons
theorem chars_nil : chars [] = [] := rfl
theorem chars_append (a b : List Nat) : chars (a ++ b) = chars a ++ chars b := List.flatMap_append
theorem rune1_put (c : Nat) (hf : fineB c = true) (r : List UInt8) : rune1 (put c ++ r) = some (c, (put c).length) := rune1_encode c hf r
theorem put_ne (c : Nat) (r : List UInt8) : put c ++ r ≠ [] := by
  intro h
  have h1 := (List.append_eq_nil_iff.1 h).1
  have h2 := put_len c
  rw [h1] at h2
  simp at h2

theorem rune1_dec {l : List UInt8} {x : Nat × Nat} (h : rune1 l = some x) : Lib.decodeL l = x := by
  unfold rune1 at h
  split at h
  · cases h
  · split at h
    · cases h
    · split at h
      · exact Option.some.inj h
      · cases h

theorem checkGo_chars (cs : List Nat) : ∀ (f p : Nat), allFine cs → (chars cs).length ≤ f → checkGo f (chars cs) p = (p + (chars cs).length, true) := by
  induction cs with
  | nil => intro f p _ _; rw [chars_nil, checkGo_nil]; simp
  | cons c cs ih =>
    intro f p hf hl
    rw [chars_cons] at hl ⊢
    have h1 := put_len c
    rw [checkGo_some f p hl (put_ne _ _) (rune1_put c (hf c List.mem_cons_self) _)]
    rw [List.drop_left, ih (f - 1) _ (fun x hx => hf x (List.mem_cons_of_mem _ hx)) (by rw [List.length_append] at hl; omega)]
    rw [List.length_append, Nat.add_assoc]

theorem checkL_chars (cs : List Nat) (h : allFine cs) : checkL (chars cs) = ((chars cs).length, true) := by
  unfold checkL
  rw [checkGo_chars cs _ 0 h (Nat.le_refl _), Nat.zero_add]

theorem checkGo_ok : ∀ (f : Nat) (l : List UInt8) (p : Nat), l.length ≤ f → (checkGo f l p).2 = true → ∃ cs, allFine cs ∧ l = chars cs := by
  intro f
  induction f with
  | zero =>
    intro l p hl _
    have : l = [] := List.eq_nil_of_length_eq_zero (by omega)
    exact ⟨[], allFine_nil, this⟩
  | succ f ih =>
    intro l p hl h
    by_cases h0 : l = []
    · exact ⟨[], allFine_nil, h0⟩
    · cases hr : rune1 l with
      | none => rw [checkGo_none (f + 1) p hl h0 hr] at h; cases h
      | some cn =>
        obtain ⟨c, n⟩ := cn
        rw [checkGo_some (f + 1) p hl h0 hr] at h
        obtain ⟨_, b1, _, b3, _, b5⟩ := rune1_bounds hr
        obtain ⟨r, hlr, hn⟩ := rune1_split hr
        have hd : l.drop n = r := by rw [hlr, hn, List.drop_left]
        obtain ⟨cs, hc1, hc2⟩ := ih (l.drop n) (p + n) (by rw [List.length_drop]; omega) h
        refine ⟨c :: cs, ?_, ?_⟩
        · intro x hx
          rcases List.mem_cons.1 hx with e | e
          · rw [e]; exact b5
          · exact hc1 x e
        · rw [chars_cons, ← hc2, hd]; exact hlr

theorem checkL_ok {l : List UInt8} (h : (checkL l).2 = true) : ∃ cs, allFine cs ∧ l = chars cs := checkGo_ok l.length l 0 (Nat.le_refl _) h

theorem checkGo_le : ∀ (f : Nat) (l : List UInt8) (p : Nat), l.length ≤ f → p ≤ (checkGo f l p).1 ∧ (checkGo f l p).1 ≤ p + l.length ∧ ((checkGo f l p).2 = false → (checkGo f l p).1 < p + l.length) := by
  intro f
  induction f with
  | zero => intro l p hl; simp [checkGo]
  | succ f ih =>
    intro l p hl
    by_cases h0 : l = []
    · subst h0; rw [checkGo_nil]; simp
    · have hpos : 0 < l.length := by cases l with | nil => exact absurd rfl h0 | cons x l => simp
      cases hr : rune1 l with
      | none => rw [checkGo_none (f + 1) p hl h0 hr]; simp; omega
      | some cn =>
        obtain ⟨c, n⟩ := cn
        rw [checkGo_some (f + 1) p hl h0 hr]
        obtain ⟨_, b1, _, b3, _, b5⟩ := rune1_bounds hr
        obtain ⟨i1, i2, i3⟩ := ih (l.drop n) (p + n) (by rw [List.length_drop]; omega)
        rw [List.length_drop] at i2 i3
        exact ⟨by simp only [Nat.add_sub_cancel]; omega, by simp only [Nat.add_sub_cancel]; omega, fun h => by have := i3 h; simp only [Nat.add_sub_cancel]; omega⟩

theorem checkL_le (l : List UInt8) : (checkL l).1 ≤ l.length ∧ ((checkL l).2 = false → (checkL l).1 < l.length) := by
  obtain ⟨_, h2, h3⟩ := checkGo_le l.length l 0 (Nat.le_refl _)
  unfold checkL
  exact ⟨by omega, fun h => by have := h3 h; omega⟩

theorem escGo_chars (E : List (Int × List UInt8)) (cs : List Nat) : ∀ f : Nat, allFine cs → (chars cs).length ≤ f → escGo E f (chars cs) = cs.flatMap (escB E) := by
  induction cs with
  | nil => intro f _ _; rw [chars_nil, escGo_nil]; rfl
  | cons c cs ih =>
    intro f hf hl
    rw [chars_cons] at hl ⊢
    have h1 := put_len c
    have hd := rune1_dec (rune1_put c (hf c List.mem_cons_self) (chars cs))
    rw [escGo_step E hl (put_ne _ _), hd]
    simp only []
    rw [List.drop_left, ih (f - 1) (fun x hx => hf x (List.mem_cons_of_mem _ hx)) (by rw [List.length_append] at hl; omega)]
    rfl

theorem escL_chars (E : List (Int × List UInt8)) (cs : List Nat) (h : allFine cs) : escL E (chars cs) = cs.flatMap (escB E) := escGo_chars E cs _ h (Nat.le_refl _)

/-- What a text tells are characters that may be; where it is wrong nothing is told, and the place is in it. -/
theorem tellGo_out (v : Bool) : ∀ (f : Nat) (l : List UInt8) (p : Nat) (cs : List Nat), l.length ≤ f → allFine cs →
    (∃ ds, allFine ds ∧ tellGo v f l p (chars cs) = (chars ds, p + l.length, 0)) ∨ (∃ q e, p ≤ q ∧ q < p + l.length ∧ (e = 4 ∨ e = 5) ∧ tellGo v f l p (chars cs) = ([], q, e)) := by
  intro f
  induction f with
  | zero =>
    intro l p cs hl hc
    have : l = [] := List.eq_nil_of_length_eq_zero (by omega)
    subst this
    exact Or.inl ⟨cs, hc, by rw [tellGo_nil]; simp⟩
  | succ f ih =>
    intro l p cs hl hc
    by_cases h0 : l = []
    · subst h0
      exact Or.inl ⟨cs, hc, by rw [tellGo_nil]; simp⟩
    · have hpos : 0 < l.length := by cases l with | nil => exact absurd rfl h0 | cons x l => simp
      obtain ⟨e, x, k, hst⟩ : ∃ e x k, step1 v l = (e, x, k) := ⟨_, _, _, rfl⟩
      by_cases he : e = 0
      · subst he
        obtain ⟨k1, k2, k3, k4⟩ := step1_ok hst
        rw [tellGo_step p (chars cs) hl h0 hst]
        have e1 : chars cs ++ Lib.encodeRune (x : Int) = chars (cs ++ [x]) := by rw [chars_append, chars_cons, chars_nil, List.append_nil]; rfl
        rw [e1]
        have hc2 : allFine (cs ++ [x]) := fun y hy => by
          rcases List.mem_append.1 hy with h | h
          · exact hc y h
          · rw [List.mem_singleton.1 h]; exact k4
        rcases ih (l.drop k) (p + k) (cs ++ [x]) (by rw [List.length_drop]; omega) hc2 with ⟨ds, h1, h2⟩ | ⟨q, e, h1, h2, h3, h4⟩
        · refine Or.inl ⟨ds, h1, ?_⟩
          rw [Nat.add_sub_cancel, h2, List.length_drop]
          congr 2
          omega
        · rw [List.length_drop] at h2
          exact Or.inr ⟨q, e, by omega, by omega, h3, by rw [Nat.add_sub_cancel]; exact h4⟩
      · have hxk : (e = 4 ∨ e = 5) ∧ x = 0 ∧ k = 0 := by
          unfold step1 at hst
          split at hst
          · cases hst; simp
          · split at hst
            · cases hst; simp
            · split at hst
              · split at hst
                · cases hst; simp
                · cases hst; exact absurd rfl he
              · split at hst
                · cases hst; exact absurd rfl he
                · cases hst; exact absurd rfl he
        obtain ⟨h4, rfl, rfl⟩ := hxk
        exact Or.inr ⟨p, e, Nat.le_refl _, by omega, h4, tellGo_bad p (chars cs) hl h0 hst he⟩

theorem tellL_out (v : Bool) (l : List UInt8) : (∃ ds, allFine ds ∧ tellL v l = (chars ds, l.length, 0)) ∨ (∃ q e, q < l.length ∧ (e = 4 ∨ e = 5) ∧ tellL v l = ([], q, e)) := by
  rcases tellGo_out v l.length l 0 [] (Nat.le_refl _) allFine_nil with ⟨ds, h1, h2⟩ | ⟨q, e, _, h2, h3, h4⟩
  · exact Or.inl ⟨ds, h1, by rw [Nat.zero_add] at h2; exact h2⟩
  · exact Or.inr ⟨q, e, by omega, h3, h4⟩

theorem step_ref (v : Bool) (t : List UInt8) (x k : Nat) (h : ref1 t = some (x, k)) : step1 v (38 :: t) = (0, x, k) := by
  have hr : rune1 ([38] ++ t) = some (38, 1) := rune1_encode 38 (by decide) t
  have hr' : rune1 (38 :: t) = some (38, 1) := hr
  unfold step1
  rw [hr']
  simp only []
  rw [if_neg (by decide), if_pos trivial, List.drop_succ_cons, List.drop_zero, h]

theorem ref1_38 (r : List UInt8) : ref1 ([97, 109, 112, 59] ++ r) = some (38, 5) := by
  have h : refIn [97, 109, 112] = some 38 := by decide
  simp [ref1, cutB, h]
theorem ref1_60 (r : List UInt8) : ref1 ([108, 116, 59] ++ r) = some (60, 4) := by
  have h : refIn [108, 116] = some 60 := by decide
  simp [ref1, cutB, h]
theorem ref1_62 (r : List UInt8) : ref1 ([103, 116, 59] ++ r) = some (62, 4) := by
  have h : refIn [103, 116] = some 62 := by decide
  simp [ref1, cutB, h]
theorem ref1_13 (r : List UInt8) : ref1 ([35, 49, 51, 59] ++ r) = some (13, 5) := by
  have h : refIn [35, 49, 51] = some 13 := by decide
  simp [ref1, cutB, h]
theorem ref1_34 (r : List UInt8) : ref1 ([113, 117, 111, 116, 59] ++ r) = some (34, 6) := by
  have h : refIn [113, 117, 111, 116] = some 34 := by decide
  simp [ref1, cutB, h]
theorem ref1_9 (r : List UInt8) : ref1 ([35, 57, 59] ++ r) = some (9, 4) := by
  have h : refIn [35, 57] = some 9 := by decide
  simp [ref1, cutB, h]
theorem ref1_10 (r : List UInt8) : ref1 ([35, 49, 48, 59] ++ r) = some (10, 5) := by
  have h : refIn [35, 49, 48] = some 10 := by decide
  simp [ref1, cutB, h]

theorem encode_ascii (c : Nat) (h : c < 128) : put c = [UInt8.ofNat c] := by
  unfold put Lib.encodeRune
  rw [Lib.encodeRuneZ_one (by omega) (by omega)]
  rfl

theorem step_put (v : Bool) (c : Nat) (hf : fineB c = true) (r : List UInt8) (h1 : c ≠ 60) (h2 : c ≠ 38) (h3 : ¬ (c = 13 ∨ c = 10 ∨ c = 9)) : step1 v (put c ++ r) = (0, c, (put c).length) := by
  unfold step1
  rw [rune1_put c hf r]
  simp only []
  rw [if_neg h1, if_neg h2, if_neg h3]

theorem step_lf (c : Nat) (hc : c = 10 ∨ c = 9) (r : List UInt8) : step1 false (put c ++ r) = (0, c, (put c).length) := by
  rcases hc with rfl | rfl
  · have hr := rune1_put 10 (by decide) r
    have e : put 10 = [10] := by decide
    rw [e] at hr ⊢
    unfold step1
    rw [hr]
    have : Lib.hasPrefix (10 :: r) [13, 10] = false := by simp only [Lib.hasPrefix, List.isPrefixOf]; rfl
    simp [this]
  · have hr := rune1_put 9 (by decide) r
    have e : put 9 = [9] := by decide
    rw [e] at hr ⊢
    unfold step1
    rw [hr]
    have : Lib.hasPrefix (9 :: r) [13, 10] = false := by simp only [Lib.hasPrefix, List.isPrefixOf]; rfl
    simp [this]

theorem step_escT (c : Nat) (hf : fineB c = true) (r : List UInt8) : step1 false (escB escT c ++ r) = (0, c, (escB escT c).length) := by
  by_cases h38 : c = 38
  · subst h38
    have e : escB escT 38 = [38, 97, 109, 112, 59] := by decide
    rw [e]
    exact step_ref false _ 38 5 (ref1_38 r)
  by_cases h60 : c = 60
  · subst h60
    have e : escB escT 60 = [38, 108, 116, 59] := by decide
    rw [e]
    exact step_ref false _ 60 4 (ref1_60 r)
  by_cases h62 : c = 62
  · subst h62
    have e : escB escT 62 = [38, 103, 116, 59] := by decide
    rw [e]
    exact step_ref false _ 62 4 (ref1_62 r)
  by_cases h13 : c = 13
  · subst h13
    have e : escB escT 13 = [38, 35, 49, 51, 59] := by decide
    rw [e]
    exact step_ref false _ 13 5 (ref1_13 r)
  have hn : escB escT c = put c := escB_none (by
    intro p hp
    have : ∀ q ∈ escT, q.1 = 38 ∨ q.1 = 60 ∨ q.1 = 62 ∨ q.1 = 13 := by decide
    have := this p hp
    omega)
  rw [hn]
  by_cases h9 : c = 10 ∨ c = 9
  · exact step_lf c h9 r
  · exact step_put false c hf r h60 h38 (by omega)

theorem step_escV (c : Nat) (hf : fineB c = true) (r : List UInt8) : step1 true (escB escV c ++ r) = (0, c, (escB escV c).length) := by
  by_cases h38 : c = 38
  · subst h38
    have e : escB escV 38 = [38, 97, 109, 112, 59] := by decide
    rw [e]
    exact step_ref true _ 38 5 (ref1_38 r)
  by_cases h60 : c = 60
  · subst h60
    have e : escB escV 60 = [38, 108, 116, 59] := by decide
    rw [e]
    exact step_ref true _ 60 4 (ref1_60 r)
  by_cases h62 : c = 62
  · subst h62
    have e : escB escV 62 = [38, 103, 116, 59] := by decide
    rw [e]
    exact step_ref true _ 62 4 (ref1_62 r)
  by_cases h13 : c = 13
  · subst h13
    have e : escB escV 13 = [38, 35, 49, 51, 59] := by decide
    rw [e]
    exact step_ref true _ 13 5 (ref1_13 r)
  by_cases h34 : c = 34
  · subst h34
    have e : escB escV 34 = [38, 113, 117, 111, 116, 59] := by decide
    rw [e]
    exact step_ref true _ 34 6 (ref1_34 r)
  by_cases h9 : c = 9
  · subst h9
    have e : escB escV 9 = [38, 35, 57, 59] := by decide
    rw [e]
    exact step_ref true _ 9 4 (ref1_9 r)
  by_cases h10 : c = 10
  · subst h10
    have e : escB escV 10 = [38, 35, 49, 48, 59] := by decide
    rw [e]
    exact step_ref true _ 10 5 (ref1_10 r)
  have hn : escB escV c = put c := escB_none (by
    intro p hp
    have : ∀ q ∈ escV, q.1 = 38 ∨ q.1 = 60 ∨ q.1 = 62 ∨ q.1 = 13 ∨ q.1 = 34 ∨ q.1 = 9 ∨ q.1 = 10 := by decide
    have := this p hp
    omega)
  rw [hn]
  exact step_put true c hf r h60 h38 (by omega)

theorem escB_len (E : List (Int × List UInt8)) (hE : ∀ q ∈ E, 1 ≤ q.2.length) (c : Nat) : 1 ≤ (escB E c).length := by
  unfold escB escOf
  cases h : E.find? (fun p => p.1 == (c : Int)) with
  | none => exact (put_len c).1
  | some q => exact hE q (List.mem_of_find?_eq_some h)

/-- What is escaped tells what it was. -/
theorem tellGo_esc (v : Bool) (E : List (Int × List UInt8)) (hE : ∀ q ∈ E, 1 ≤ q.2.length) (hS : ∀ (c : Nat) (r : List UInt8), fineB c = true → step1 v (escB E c ++ r) = (0, c, (escB E c).length)) (cs : List Nat) :
    ∀ (f p : Nat) (acc : List UInt8), allFine cs → (cs.flatMap (escB E)).length ≤ f → tellGo v f (cs.flatMap (escB E)) p acc = (acc ++ chars cs, p + (cs.flatMap (escB E)).length, 0) := by
  induction cs with
  | nil => intro f p acc _ _; rw [List.flatMap_nil, tellGo_nil, chars_nil]; simp
  | cons c cs ih =>
    intro f p acc hf hl
    rw [List.flatMap_cons] at hl ⊢
    have h1 := escB_len E hE c
    have hne : escB E c ++ cs.flatMap (escB E) ≠ [] := by
      intro h
      have := (List.append_eq_nil_iff.1 h).1
      rw [this] at h1
      simp at h1
    rw [tellGo_step p acc hl hne (hS c _ (hf c List.mem_cons_self)), List.drop_left, ih (f - 1) _ _ (fun x hx => hf x (List.mem_cons_of_mem _ hx)) (by rw [List.length_append] at hl; omega)]
    rw [chars_cons, List.length_append, List.append_assoc, Nat.add_assoc]
    rfl

theorem back_T (cs : List Nat) (h : allFine cs) : tellL false (escL escT (chars cs)) = (chars cs, (escL escT (chars cs)).length, 0) := by
  rw [escL_chars escT cs h]
  unfold tellL
  rw [tellGo_esc false escT (by decide) (fun c r hf => step_escT c hf r) cs _ 0 [] h (Nat.le_refl _), List.nil_append, Nat.zero_add]
theorem back_V (cs : List Nat) (h : allFine cs) : tellL true (escL escV (chars cs)) = (chars cs, (escL escV (chars cs)).length, 0) := by
  rw [escL_chars escV cs h]
  unfold tellL
  rw [tellGo_esc true escV (by decide) (fun c r hf => step_escV c hf r) cs _ 0 [] h (Nat.le_refl _), List.nil_append, Nat.zero_add]

theorem encode_le (c : Nat) : (Lib.encodeRune (c : Int)).length ≤ 4 := (put_len c).2

theorem tellGo_len (v : Bool) : ∀ (f : Nat) (l : List UInt8) (p : Nat) (acc : List UInt8), l.length ≤ f → (tellGo v f l p acc).1.length ≤ acc.length + 4 * l.length := by
  intro f
  induction f with
  | zero => intro l p acc hl; simp [tellGo]
  | succ f ih =>
    intro l p acc hl
    unfold tellGo
    by_cases h0 : l = []
    · rw [if_pos h0]; simp
    · rw [if_neg h0]
      obtain ⟨e, x, k, hst⟩ : ∃ e x k, step1 v l = (e, x, k) := ⟨_, _, _, rfl⟩
      rw [hst]
      by_cases he : e = 0
      · subst he
        obtain ⟨k1, k2, _, _⟩ := step1_ok hst
        rw [if_neg (by simp)]
        have h1 := ih (l.drop k) (p + k) (acc ++ Lib.encodeRune (x : Int)) (by rw [List.length_drop]; omega)
        have h2 := encode_le x
        rw [List.length_append, List.length_drop] at h1
        simp only []
        omega
      · rw [if_pos he]; simp

theorem tellL_len (v : Bool) (l : List UInt8) : (tellL v l).1.length ≤ 4 * l.length := by
  have := tellGo_len v l.length l 0 [] (Nat.le_refl _)
  simpa [tellL] using this

theorem chars_len (cs : List Nat) : cs.length ≤ (chars cs).length := by
  induction cs with
  | nil => simp [chars]
  | cons c cs ih => rw [chars_cons, List.length_append, List.length_cons]; have := put_len c; omega

theorem escB_le (E : List (Int × List UInt8)) (hE : ∀ q ∈ E, q.2.length ≤ 6) (c : Nat) : (escB E c).length ≤ 6 := by
  unfold escB escOf
  cases h : E.find? (fun p => p.1 == (c : Int)) with
  | none => have := encode_le c; exact Nat.le_trans this (by decide)
  | some q => exact hE q (List.mem_of_find?_eq_some h)

theorem esc_len (E : List (Int × List UInt8)) (hE : ∀ q ∈ E, q.2.length ≤ 6) (cs : List Nat) : (cs.flatMap (escB E)).length ≤ 6 * cs.length := by
  induction cs with
  | nil => simp
  | cons c cs ih => rw [List.flatMap_cons, List.length_append, List.length_cons]; have := escB_le E hE c; omega

theorem escL_len (E : List (Int × List UInt8)) (hE : ∀ q ∈ E, q.2.length ≤ 6) (cs : List Nat) (h : allFine cs) : (escL E (chars cs)).length ≤ 6 * (chars cs).length := by
  rw [escL_chars E cs h]
  have h1 := esc_len E hE cs
  have h2 := chars_len cs
  omega

end Go.Proofs.YtblhpkcdemefaaaGreatDoor
