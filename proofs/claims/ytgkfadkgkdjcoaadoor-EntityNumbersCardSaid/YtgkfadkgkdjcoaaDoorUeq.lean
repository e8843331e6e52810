/- tipstaveref01.Rune is the character at the head; tipstaveref01.Check. -/
import Derived.Test.YtgkfadkgkdjcoaaDoorUrune1
import Derived.Test.YtgkfadkgkdjcoaaDoorUrune2
import Derived.Test.YtgkfadkgkdjcoaaDoorUrune3
import Derived.Test.YtgkfadkgkdjcoaaDoorUrune4
set_option linter.unusedVariables false
set_option linter.unusedSimpArgs false
namespace Go.Proofs.YtgkfadkgkdjcoaaDoor
open Go.RowKit

theorem cls_bad {n : Nat} (h : (128 ≤ n ∧ n < 192) ∨ 248 ≤ n) : cls n = (0, 0) := by
  unfold cls; rcases h with h | h <;> (repeat' split) <;> first | rfl | omega

set_option maxHeartbeats 2000000 in
set_option maxRecDepth 100000 in
theorem runeR_any (l : List UInt8) (b off n cap : Nat) (hn : n = l.length) (w : World) (hl : l.length ≤ 2147483647) (hcap : l.length ≤ cap) (hm : bytesAt w b off l) :
    Calls Tryd.prog 21 #[.slice (some ⟨b, off, none⟩) n cap] w fun e w' => e = .returned (pairRes (refRune l)) ∧ Below w.heap.size w w' := by
  subst hn
  by_cases h0 : l = []
  · subst h0
    go_enter Tryd.func21, Tryd.ntmps21
    go_wp2
    go_ret2
    exact ⟨rfl, Below.refl _ _⟩
  · obtain ⟨x, hx0⟩ : ∃ x, l.getD 0 0 = x := ⟨_, rfl⟩
    have hx := x.toNat_lt
    by_cases h1 : x.toNat < 128
    · exact runeR_1 l x b off cap w hl hcap hm h0 hx0 h1
    · by_cases h2 : 192 ≤ x.toNat ∧ x.toNat < 224
      · exact runeR_2 l x b off cap w hl hcap hm h0 hx0 h2
      · by_cases h3 : 224 ≤ x.toNat ∧ x.toNat < 240
        · exact runeR_3 l x b off cap w hl hcap hm h0 hx0 h3
        · by_cases h4 : 240 ≤ x.toNat ∧ x.toNat < 248
          · exact runeR_4 l x b off cap w hl hcap hm h0 hx0 h4
          · have hpos : 0 < l.length := by cases l with | nil => exact absurd rfl h0 | cons x l => simp
            have hc := hm 0 hpos
            rw [Nat.add_zero, hx0] at hc
            have hbad : (128 ≤ x.toNat ∧ x.toNat < 192) ∨ 248 ≤ x.toNat := by omega
            have HF : Hid (refRune l = (0, 0)) := Lib.hid (refRune_short h0 hx0 (cls_bad hbad) (Or.inl rfl))
            have i0 : (0 : Int) < (l.length : Int) := by omega
            have il : ((l.length : Int) == 0) = false := by rw [beq_eq_false_iff_ne]; omega
            clear hm h0 hx0 h1 h2 h3 h4
            rcases hbad with ⟨h1, h2⟩ | h1
            · go_enter Tryd.func21, Tryd.ntmps21
              go_wp2
              go_ret2
              exact ⟨by rw [HF.out]; rfl, Below.refl _ _⟩
            · go_enter Tryd.func21, Tryd.ntmps21
              go_wp2
              go_ret2
              exact ⟨by rw [HF.out]; rfl, Below.refl _ _⟩

theorem refEnd_ok {c n : Nat} (hf : fineB c = true) (hn : (put c).length = n) : refEnd (c : Int) (n : Int) = ((c : Int), (n : Int)) := by
  unfold refEnd
  have e : ((c : Int)).toNat = c := by omega
  rw [if_neg (by rw [hf]; decide), e, hn, if_neg (by omega)]

theorem refRune_cons {x : UInt8} {r : List UInt8} {n top : Nat} (hc : cls x.toNat = (n, top)) (hn : n ≠ 0) (hl : n ≤ r.length + 1) (h0 : 0 ≤ lowGo (((x :: r).take n).drop 1) 0) :
    refRune (x :: r) = refEnd ((top : Int) * 64 ^ (n - 1) + lowGo (((x :: r).take n).drop 1) 0) n := by
  rw [refRune_at (l := x :: r) (x := x) (by simp) rfl hc hn (by simpa using hl), if_neg (by omega)]

theorem refRune_put (c : Nat) (hf : fineB c = true) (r : List UInt8) : refRune (put c ++ r) = ((c : Int), ((put c).length : Int)) := by
  have hb := (fineB_iff _).1 hf
  unfold put Lib.encodeRune
  by_cases h1 : c ≤ 127
  · have hz := Lib.encodeRuneZ_one (r := (c : Int)) (by omega) (by omega)
    have hp := put_length c
    rw [hz] at hp ⊢
    simp only [List.map_cons, List.map_nil, List.cons_append, List.nil_append, List.length_cons, List.length_nil]
    have e0 := u8_nat (c : Int) (by omega) (by omega)
    have hcl : cls ((c : Int).toNat.toUInt8).toNat = (1, c) := by unfold cls; rw [e0, if_pos (by omega)]; simp
    rw [refRune_cons hcl (by decide) (by omega) (by simp [lowGo])]
    have hz0 : lowGo (List.drop 1 (List.take 1 ((c : Int).toNat.toUInt8 :: r))) 0 = 0 := by simp [lowGo]
    rw [hz0]
    have e : ((c : Int) * 64 ^ (1 - 1) + 0) = (c : Int) := by simp
    rw [e]
    exact refEnd_ok hf (by rw [hp]; rfl)
  · by_cases h2 : c ≤ 2047
    · have hz := Lib.encodeRuneZ_two (r := (c : Int)) (by omega) (by omega)
      have hp := put_length c
      rw [hz] at hp ⊢
      simp only [List.map_cons, List.map_nil, List.cons_append, List.nil_append, List.length_cons, List.length_nil]
      have e0 := u8_nat (192 + (c : Int) / 64) (by omega) (by omega)
      have e1 := u8_nat (128 + (c : Int) % 64) (by omega) (by omega)
      generalize (192 + (c : Int) / 64).toNat.toUInt8 = x0 at *
      generalize (128 + (c : Int) % 64).toNat.toUInt8 = x1 at *
      have hcl : cls x0.toNat = (2, x0.toNat - 192) := by unfold cls; rw [if_neg (by omega), if_neg (by omega), if_pos (by omega)]
      have hlow : lowGo (List.drop 1 (List.take 2 (x0 :: x1 :: r))) 0 = (x1.toNat : Int) - 128 := by
        show lowGo [x1] 0 = _
        rw [lowGo_pos 0 (by omega)]; simp [lowGo]
      rw [refRune_cons hcl (by decide) (by simp) (by rw [hlow]; omega), hlow]
      have e : (((x0.toNat - 192 : Nat) : Int) * 64 ^ (2 - 1) + ((x1.toNat : Int) - 128)) = (c : Int) := by
        show ((x0.toNat - 192 : Nat) : Int) * 64 + _ = _
        omega
      rw [e]
      exact refEnd_ok hf (by rw [hp]; rfl)
    · by_cases h3 : c ≤ 65535
      · have hz := Lib.encodeRuneZ_three (r := (c : Int)) (by omega)
        have hp := put_length c
        rw [hz] at hp ⊢
        simp only [List.map_cons, List.map_nil, List.cons_append, List.nil_append, List.length_cons, List.length_nil]
        have e0 := u8_nat (224 + (c : Int) / 4096) (by omega) (by omega)
        have e1 := u8_nat (128 + (c : Int) / 64 % 64) (by omega) (by omega)
        have e2 := u8_nat (128 + (c : Int) % 64) (by omega) (by omega)
        generalize (224 + (c : Int) / 4096).toNat.toUInt8 = x0 at *
        generalize (128 + (c : Int) / 64 % 64).toNat.toUInt8 = x1 at *
        generalize (128 + (c : Int) % 64).toNat.toUInt8 = x2 at *
        have hcl : cls x0.toNat = (3, x0.toNat - 224) := by unfold cls; rw [if_neg (by omega), if_neg (by omega), if_neg (by omega), if_pos (by omega)]
        have hlow : lowGo (List.drop 1 (List.take 3 (x0 :: x1 :: x2 :: r))) 0 = 64 * ((x1.toNat : Int) - 128) + x2.toNat - 128 := by
          show lowGo [x1, x2] 0 = _
          rw [lowGo_pos 0 (by omega), lowGo_pos _ (by omega)]; simp [lowGo]
        rw [refRune_cons hcl (by decide) (by simp) (by rw [hlow]; omega), hlow]
        have e : (((x0.toNat - 224 : Nat) : Int) * 64 ^ (3 - 1) + (64 * ((x1.toNat : Int) - 128) + x2.toNat - 128)) = (c : Int) := by
          show ((x0.toNat - 224 : Nat) : Int) * 4096 + _ = _
          omega
        rw [e]
        exact refEnd_ok hf (by rw [hp]; rfl)
      · have hz := Lib.encodeRuneZ_four (r := (c : Int)) (by omega) (by omega)
        have hp := put_length c
        rw [hz] at hp ⊢
        simp only [List.map_cons, List.map_nil, List.cons_append, List.nil_append, List.length_cons, List.length_nil]
        have e0 := u8_nat (240 + (c : Int) / 262144) (by omega) (by omega)
        have e1 := u8_nat (128 + (c : Int) / 4096 % 64) (by omega) (by omega)
        have e2 := u8_nat (128 + (c : Int) / 64 % 64) (by omega) (by omega)
        have e3 := u8_nat (128 + (c : Int) % 64) (by omega) (by omega)
        generalize (240 + (c : Int) / 262144).toNat.toUInt8 = x0 at *
        generalize (128 + (c : Int) / 4096 % 64).toNat.toUInt8 = x1 at *
        generalize (128 + (c : Int) / 64 % 64).toNat.toUInt8 = x2 at *
        generalize (128 + (c : Int) % 64).toNat.toUInt8 = x3 at *
        have hcl : cls x0.toNat = (4, x0.toNat - 240) := by unfold cls; rw [if_neg (by omega), if_neg (by omega), if_neg (by omega), if_neg (by omega), if_pos (by omega)]
        have hlow : lowGo (List.drop 1 (List.take 4 (x0 :: x1 :: x2 :: x3 :: r))) 0 = 64 * (64 * ((x1.toNat : Int) - 128) + x2.toNat - 128) + x3.toNat - 128 := by
          show lowGo [x1, x2, x3] 0 = _
          rw [lowGo_pos 0 (by omega), lowGo_pos _ (by omega), lowGo_pos _ (by omega)]; simp [lowGo]
        rw [refRune_cons hcl (by decide) (by simp) (by rw [hlow]; omega), hlow]
        have e : (((x0.toNat - 240 : Nat) : Int) * 64 ^ (4 - 1) + (64 * (64 * ((x1.toNat : Int) - 128) + x2.toNat - 128) + x3.toNat - 128)) = (c : Int) := by
          show ((x0.toNat - 240 : Nat) : Int) * 262144 + _ = _
          omega
        rw [e]
        exact refEnd_ok hf (by rw [hp]; rfl)

theorem lowGo_inv {b : UInt8} {l : List UInt8} {n : Int} (h : 0 ≤ lowGo (b :: l) n) : (128 ≤ b.toNat ∧ b.toNat ≤ 191) ∧ lowGo (b :: l) n = lowGo l (64 * n + b.toNat - 128) := by
  by_cases hb : 128 ≤ b.toNat ∧ b.toNat ≤ 191
  · exact ⟨hb, lowGo_pos n hb⟩
  · exfalso
    unfold lowGo at h
    rw [if_neg hb] at h
    omega

theorem refEnd_cases (z n : Int) : refEnd z n = (0, 0) ∨ (fineB z = true ∧ ((put z.toNat).length : Int) = n ∧ refEnd z n = (z, n)) := by
  unfold refEnd
  cases hf : fineB z with
  | false => left; rw [if_pos rfl]
  | true =>
    rw [if_neg (by decide)]
    by_cases h : ((put z.toNat).length : Int) = n
    · right; exact ⟨rfl, h, by rw [if_neg (by omega)]⟩
    · left; rw [if_pos h]

theorem put_of {c : Nat} {x : List UInt8} (h : Lib.encodeRuneZ (c : Int) = x.map fun b => (b.toNat : Int)) : put c = x := by
  unfold put Lib.encodeRune
  rw [h, List.map_map]
  conv => rhs; rw [← List.map_id x]
  apply List.map_congr_left
  intro b _
  exact u8_of _ b rfl

theorem put_len_cases (c : Nat) : (c ≤ 127 ∧ (put c).length = 1) ∨ (128 ≤ c ∧ c ≤ 2047 ∧ (put c).length = 2) ∨ (((2048 ≤ c ∧ c < 55296) ∨ (57343 < c ∧ c ≤ 65535)) ∧ (put c).length = 3) ∨ (65536 ≤ c ∧ c ≤ 1114111 ∧ (put c).length = 4) ∨ (((55296 ≤ c ∧ c ≤ 57343) ∨ 1114111 < c)) := by
  rw [put_length]
  by_cases h1 : c ≤ 127
  · left; rw [Lib.encodeRuneZ_one (by omega) (by omega)]; exact ⟨h1, rfl⟩
  · right
    by_cases h2 : c ≤ 2047
    · left; rw [Lib.encodeRuneZ_two (by omega) (by omega)]; exact ⟨by omega, h2, rfl⟩
    · right
      by_cases h3 : (2048 ≤ c ∧ c < 55296) ∨ (57343 < c ∧ c ≤ 65535)
      · left; rw [Lib.encodeRuneZ_three (by omega)]; exact ⟨h3, rfl⟩
      · right
        by_cases h4 : c ≤ 1114111 ∧ 65536 ≤ c
        · left; rw [Lib.encodeRuneZ_four (by omega) (by omega)]; exact ⟨h4.2, h4.1, rfl⟩
        · right; omega

/-- The document's reading is the character at the head, or nothing. -/
theorem refRune_split (l : List UInt8) : refRune l = (0, 0) ∨ ∃ c r, fineB (c : Nat) = true ∧ l = put c ++ r ∧ refRune l = ((c : Int), ((put c).length : Int)) := by
  cases l with
  | nil => exact Or.inl rfl
  | cons x r =>
    have hx := x.toNat_lt
    have hnil : x :: r ≠ [] := by simp
    have key : ∀ n top : Nat, cls x.toNat = (n, top) → n ≠ 0 → n ≤ r.length + 1 → 0 ≤ lowGo (((x :: r).take n).drop 1) 0 →
        (∀ z : Nat, (z : Int) = (top : Int) * 64 ^ (n - 1) + lowGo (((x :: r).take n).drop 1) 0 → fineB (z : Int) = true → (put z).length = n → put z = (x :: r).take n) →
        refRune (x :: r) = (0, 0) ∨ ∃ c r', fineB (c : Nat) = true ∧ x :: r = put c ++ r' ∧ refRune (x :: r) = ((c : Int), ((put c).length : Int)) := by
      intro n top hc hn hl h0 hz
      rw [refRune_cons hc hn hl h0]
      have hge : 0 ≤ (top : Int) * 64 ^ (n - 1) + lowGo (((x :: r).take n).drop 1) 0 := by
        have : (0 : Int) ≤ (top : Int) * 64 ^ (n - 1) := Int.mul_nonneg (by omega) (Int.pow_nonneg (by decide))
        omega
      obtain ⟨z, hzz⟩ : ∃ z : Nat, (z : Int) = (top : Int) * 64 ^ (n - 1) + lowGo (((x :: r).take n).drop 1) 0 := ⟨_, Int.toNat_of_nonneg hge⟩
      have hz' := hz z hzz
      rw [← hzz]
      have ez : ((z : Int)).toNat = z := by omega
      rcases refEnd_cases z n with h | ⟨h1, h2, h3⟩
      · exact Or.inl h
      · rw [ez] at h2
        have hpl : (put z).length = n := by omega
        refine Or.inr ⟨z, (x :: r).drop n, h1, ?_, by rw [h3, hpl]⟩
        rw [hz' h1 hpl, List.take_append_drop]
    by_cases hs : (cls x.toNat).1 = 0 ∨ (x :: r).length < (cls x.toNat).1
    · exact Or.inl (refRune_short (x := x) hnil rfl (n := (cls x.toNat).1) (top := (cls x.toNat).2) rfl hs)
    · by_cases hr : lowGo (((x :: r).take (cls x.toNat).1).drop 1) 0 < 0
      · left
        rw [refRune_at (l := x :: r) (x := x) hnil rfl (n := (cls x.toNat).1) (top := (cls x.toNat).2) rfl (by omega) (by omega), if_pos hr]
      · have hlen : (cls x.toNat).1 ≤ r.length + 1 := by
          have : (x :: r).length = r.length + 1 := rfl
          omega
        refine key (cls x.toNat).1 (cls x.toNat).2 rfl (by omega) hlen (by omega) ?_
        intro z hz hf hpl
        have hlc := put_len_cases z
        have hfb := (fineB_iff _).1 hf
        by_cases h1 : x.toNat < 128
        · have hc : cls x.toNat = (1, x.toNat) := by unfold cls; rw [if_pos h1]
          rw [hc] at hz hpl ⊢
          simp only [] at hz hpl ⊢
          have e : (z : Int) = (x.toNat : Int) * 1 + 0 := hz
          refine put_of ?_
          rw [Lib.encodeRuneZ_one (by omega) (by omega)]
          simp
          omega
        · by_cases h2 : 192 ≤ x.toNat ∧ x.toNat < 224
          · have hc : cls x.toNat = (2, x.toNat - 192) := by unfold cls; rw [if_neg h1, if_neg (by omega), if_pos (by omega)]
            rw [hc] at hz hpl hr hlen ⊢
            simp only [] at hz hpl hr hlen ⊢
            obtain ⟨a0, x1, r1, hxr⟩ := len_cons2 (l := x :: r) (by simp; omega)
            cases hxr
            have hlow : 0 ≤ lowGo [x1] 0 := by have : ¬ lowGo [x1] 0 < 0 := hr; omega
            obtain ⟨b1, e1⟩ := lowGo_inv hlow
            have e : (z : Int) = ((x.toNat - 192 : Nat) : Int) * 64 + lowGo [x1] 0 := hz
            rw [e1] at e
            have e2 : lowGo [] (64 * 0 + (x1.toNat : Int) - 128) = 64 * 0 + (x1.toNat : Int) - 128 := rfl
            rw [e2] at e
            show put z = [x, x1]
            refine put_of ?_
            rw [Lib.encodeRuneZ_two (by omega) (by omega)]
            simp only [List.map_cons, List.map_nil, List.cons.injEq, and_true]
            omega
          · by_cases h3 : 224 ≤ x.toNat ∧ x.toNat < 240
            · have hc : cls x.toNat = (3, x.toNat - 224) := by unfold cls; rw [if_neg h1, if_neg (by omega), if_neg (by omega), if_pos (by omega)]
              rw [hc] at hz hpl hr hlen ⊢
              simp only [] at hz hpl hr hlen ⊢
              obtain ⟨a0, x1, x2, r1, hxr⟩ := len_cons3 (l := x :: r) (by simp; omega)
              cases hxr
              have hlow : 0 ≤ lowGo [x1, x2] 0 := by have : ¬ lowGo [x1, x2] 0 < 0 := hr; omega
              obtain ⟨b1, e1⟩ := lowGo_inv hlow
              rw [e1] at hlow
              obtain ⟨b2, e2⟩ := lowGo_inv hlow
              have e : (z : Int) = ((x.toNat - 224 : Nat) : Int) * 4096 + lowGo [x1, x2] 0 := hz
              rw [e1, e2] at e
              have e3 : lowGo [] (64 * (64 * 0 + (x1.toNat : Int) - 128) + (x2.toNat : Int) - 128) = 64 * (64 * 0 + (x1.toNat : Int) - 128) + (x2.toNat : Int) - 128 := rfl
              rw [e3] at e
              show put z = [x, x1, x2]
              refine put_of ?_
              rw [Lib.encodeRuneZ_three (by omega)]
              simp only [List.map_cons, List.map_nil, List.cons.injEq, and_true]
              omega
            · by_cases h4 : 240 ≤ x.toNat ∧ x.toNat < 248
              · have hc : cls x.toNat = (4, x.toNat - 240) := by unfold cls; rw [if_neg h1, if_neg (by omega), if_neg (by omega), if_neg (by omega), if_pos (by omega)]
                rw [hc] at hz hpl hr hlen ⊢
                simp only [] at hz hpl hr hlen ⊢
                obtain ⟨a0, x1, x2, x3, r1, hxr⟩ := len_cons4 (l := x :: r) (by simp; omega)
                cases hxr
                have hlow : 0 ≤ lowGo [x1, x2, x3] 0 := by have : ¬ lowGo [x1, x2, x3] 0 < 0 := hr; omega
                obtain ⟨b1, e1⟩ := lowGo_inv hlow
                rw [e1] at hlow
                obtain ⟨b2, e2⟩ := lowGo_inv hlow
                rw [e2] at hlow
                obtain ⟨b3, e3⟩ := lowGo_inv hlow
                have e : (z : Int) = ((x.toNat - 240 : Nat) : Int) * 262144 + lowGo [x1, x2, x3] 0 := hz
                rw [e1, e2, e3] at e
                have e4 : lowGo [] (64 * (64 * (64 * 0 + (x1.toNat : Int) - 128) + (x2.toNat : Int) - 128) + (x3.toNat : Int) - 128) = 64 * (64 * (64 * 0 + (x1.toNat : Int) - 128) + (x2.toNat : Int) - 128) + (x3.toNat : Int) - 128 := rfl
                rw [e4] at e
                show put z = [x, x1, x2, x3]
                refine put_of ?_
                rw [Lib.encodeRuneZ_four (by omega) (by omega)]
                simp only [List.map_cons, List.map_nil, List.cons.injEq, and_true]
                omega
              · exfalso
                have := cls_bad (n := x.toNat) (by omega)
                rw [this] at hs
                exact hs (Or.inl rfl)

def runePair (l : List UInt8) : Int × Int := match rune1 l with | some (c, n) => ((c : Int), (n : Int)) | none => (0, 0)

theorem refRune_eq (l : List UInt8) : refRune l = runePair l := by
  unfold runePair
  cases hr : rune1 l with
  | some cn =>
    obtain ⟨c, n⟩ := cn
    obtain ⟨r, h1, h2⟩ := rune1_split hr
    have hf := (rune1_bounds hr).2.2.2.2.2
    rw [h1, h2]
    exact refRune_put c hf r
  | none =>
    rcases refRune_split l with h | ⟨c, r, hf, h1, h2⟩
    · exact h
    · rw [h1, rune1_put c hf r] at hr
      cases hr

end Go.Proofs.YtgkfadkgkdjcoaaDoor
