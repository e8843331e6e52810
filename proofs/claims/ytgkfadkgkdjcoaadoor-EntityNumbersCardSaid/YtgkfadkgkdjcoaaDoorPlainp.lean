/- Plain laws: a text without references and ends of lines tells itself. -/
import Derived.Test.YtgkfadkgkdjcoaaDoorPure
set_option linter.unusedVariables false
set_option linter.unusedSimpArgs false
namespace Go.Proofs.YtgkfadkgkdjcoaaDoor

def bad5 (b : UInt8) : Bool := decide (b = 38 ∨ b = 60 ∨ b = 13 ∨ b = 10 ∨ b = 9)

theorem bad5_no {cs : List Nat} (h : ∀ b ∈ chars cs, bad5 b = false) : ∀ c ∈ cs, c ≠ 60 ∧ c ≠ 38 ∧ ¬ (c = 13 ∨ c = 10 ∨ c = 9) := by
  intro c hc
  have key : ∀ x : UInt8, bad5 x = true → put c = [x] → False := by
    intro x hx hp
    have hm : x ∈ chars cs := by
      unfold chars
      rw [List.mem_flatMap]
      exact ⟨c, hc, by rw [hp]; exact List.mem_cons_self⟩
    rw [h x hm] at hx
    cases hx
  refine ⟨?_, ?_, ?_⟩
  · rintro rfl; exact key 60 (by decide) (by decide)
  · rintro rfl; exact key 38 (by decide) (by decide)
  · rintro (rfl | rfl | rfl)
    · exact key 13 (by decide) (by decide)
    · exact key 10 (by decide) (by decide)
    · exact key 9 (by decide) (by decide)

theorem tellGo_plain (v : Bool) (r : List UInt8) (cs : List Nat) : ∀ (f p : Nat) (acc : List UInt8), allFine cs → (∀ c ∈ cs, c ≠ 60 ∧ c ≠ 38 ∧ ¬ (c = 13 ∨ c = 10 ∨ c = 9)) → (chars cs ++ r).length ≤ f →
    ∃ f', r.length ≤ f' ∧ tellGo v f (chars cs ++ r) p acc = tellGo v f' r (p + (chars cs).length) (acc ++ chars cs) := by
  induction cs with
  | nil => intro f p acc _ _ hl; exact ⟨f, by simpa [chars_nil] using hl, by simp [chars_nil]⟩
  | cons c cs ih =>
    intro f p acc hf hb hl
    rw [chars_cons, List.append_assoc] at hl ⊢
    obtain ⟨h1, h2, h3⟩ := hb c List.mem_cons_self
    have hlp := put_len c
    obtain ⟨f', g1, g2⟩ := ih (f - 1) (p + (put c).length) (acc ++ put c) (fun x hx => hf x (List.mem_cons_of_mem _ hx)) (fun x hx => hb x (List.mem_cons_of_mem _ hx)) (by rw [List.length_append] at hl; omega)
    refine ⟨f', g1, ?_⟩
    rw [tellGo_step p acc hl (put_ne c _) (step_put v c (hf c List.mem_cons_self) _ h1 h2 h3), List.drop_left]
    show tellGo v (f - 1) (chars cs ++ r) (p + (put c).length) (acc ++ put c) = _
    rw [g2, List.length_append, List.append_assoc, Nat.add_assoc]

theorem plain_self (v : Bool) (cs : List Nat) (hf : allFine cs) (hb : ∀ b ∈ chars cs, bad5 b = false) : tellL v (chars cs) = (chars cs, (chars cs).length, 0) := by
  unfold tellL
  obtain ⟨f', _, h⟩ := tellGo_plain v [] cs (chars cs).length 0 [] hf (bad5_no hb) (by rw [List.append_nil]; exact Nat.le_refl _)
  rw [List.append_nil] at h
  rw [h, tellGo_nil, List.nil_append, Nat.zero_add]

theorem ref1_x26 : ref1 [35, 120, 50, 54, 59] = some (38, 6) := by decide +kernel
theorem ref1_d10 : ref1 [35, 49, 48, 59] = some (10, 5) := by decide +kernel

/-- A reference ahead, and one behind. -/
theorem plain_refs (v : Bool) (cs : List Nat) (hf : allFine cs) (hb : ∀ b ∈ chars cs, bad5 b = false) (a z : List UInt8) (x y : Nat) (hx : ∀ r, ref1 (a ++ r) = some (x, a.length + 1)) (hy : ref1 z = some (y, z.length + 1)) :
    tellL v ((38 :: a) ++ chars cs ++ (38 :: z)) = (put x ++ chars cs ++ put y, ((38 :: a) ++ chars cs ++ (38 :: z)).length, 0) := by
  unfold tellL
  have e : (38 :: a) ++ chars cs ++ (38 :: z) = 38 :: (a ++ (chars cs ++ (38 :: z))) := by simp
  generalize hL : ((38 :: a) ++ chars cs ++ (38 :: z)).length = L
  have hlen : L = 1 + (a.length + ((chars cs).length + (1 + z.length))) := by rw [← hL]; simp; omega
  rw [e]
  rw [tellGo_step 0 [] (by simp; omega) (by simp) (step_ref v _ x _ (hx _))]
  have hd : (38 :: (a ++ (chars cs ++ 38 :: z))).drop (a.length + 1) = chars cs ++ 38 :: z := by rw [List.drop_succ_cons, List.drop_left]
  rw [hd]
  obtain ⟨f', g1, g2⟩ := tellGo_plain v (38 :: z) cs (L - 1) (0 + (a.length + 1)) ([] ++ Lib.encodeRune (x : Int)) hf (bad5_no hb) (by simp; omega)
  rw [g2, tellGo_step _ _ g1 (by simp) (step_ref v _ y _ hy)]
  have hd2 : (38 :: z).drop (z.length + 1) = [] := by rw [List.drop_succ_cons, List.drop_length]
  rw [hd2, tellGo_nil, List.nil_append]
  congr 2
  omega

theorem plain_T (cs : List Nat) (hf : allFine cs) (hb : ∀ b ∈ chars cs, bad5 b = false) :
    tellL false ([38, 108, 116, 59] ++ chars cs ++ [38, 35, 120, 50, 54, 59]) = ([60] ++ chars cs ++ [38], ([38, 108, 116, 59] ++ chars cs ++ [38, 35, 120, 50, 54, 59]).length, 0) := by
  have h := plain_refs false cs hf hb [108, 116, 59] [35, 120, 50, 54, 59] 60 38 (fun r => ref1_60 r) ref1_x26
  have e1 : put 60 = [60] := by decide
  have e2 : put 38 = [38] := by decide
  rw [e1, e2] at h
  exact h

theorem plain_V (cs : List Nat) (hf : allFine cs) (hb : ∀ b ∈ chars cs, bad5 b = false) :
    tellL true ([38, 113, 117, 111, 116, 59] ++ chars cs ++ [38, 35, 49, 48, 59]) = ([34] ++ chars cs ++ [10], ([38, 113, 117, 111, 116, 59] ++ chars cs ++ [38, 35, 49, 48, 59]).length, 0) := by
  have h := plain_refs true cs hf hb [113, 117, 111, 116, 59] [35, 49, 48, 59] 34 10 (fun r => ref1_34 r) ref1_d10
  have e1 : put 34 = [34] := by decide
  have e2 : put 10 = [10] := by decide
  rw [e1, e2] at h
  exact h

end Go.Proofs.YtgkfadkgkdjcoaaDoor
