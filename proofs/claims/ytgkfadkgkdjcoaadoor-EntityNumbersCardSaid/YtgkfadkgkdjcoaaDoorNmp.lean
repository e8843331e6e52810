/- Plain laws: a number's digits, and what they tell as a reference. -/
import Derived.Test.YtgkfadkgkdjcoaaDoorPure
set_option linter.unusedVariables false
set_option linter.unusedSimpArgs false
namespace Go.Proofs.YtgkfadkgkdjcoaaDoor

/-- A number's digits, to a base, by a table. -/
def digF (base : Nat) (tb : List UInt8) : Nat → Nat → List UInt8
  | 0, _ => []
  | f + 1, n => if n < base then [tb.getD n 0] else digF base tb f (n / base) ++ [tb.getD (n % base) 0]

/-- The table's bytes are the base's digits. -/
def goodT (base : Nat) (tb : List UInt8) : Prop := tb.length = base ∧ ∀ i, i < base → digV (tb.getD i 0) = i

theorem digF_num {base : Nat} {tb : List UInt8} (hb : 2 ≤ base) (hb2 : base ≤ 16) (hg : goodT base tb) : ∀ (f n : Nat), n < base ^ f → 1 ≤ f →
    numL base (digF base tb f n) = n ∧ allD base (digF base tb f n) = true ∧ 1 ≤ (digF base tb f n).length ∧ (digF base tb f n).length ≤ f
  | 0, n, _, h => by omega
  | f + 1, n, hn, _ => by
    unfold digF
    by_cases h : n < base
    · rw [if_pos h]
      have h1 := hg.2 n h
      refine ⟨?_, ?_, by simp, by simp⟩
      · simp only [numL, List.foldl_cons, List.foldl_nil]; rw [h1]; omega
      · simp only [allD, List.all_cons, List.all_nil]; rw [h1]; simpa using h
    · rw [if_neg h]
      have hm : n % base < base := Nat.mod_lt _ (by omega)
      have h1 := hg.2 (n % base) hm
      have hf : 1 ≤ f := by
        cases f with
        | zero => simp at hn; omega
        | succ f => omega
      have hdiv : n / base < base ^ f := by
        rw [Nat.div_lt_iff_lt_mul (by omega)]
        rw [Nat.pow_succ] at hn; exact hn
      obtain ⟨i1, i2, i3, i4⟩ := digF_num hb hb2 hg f (n / base) hdiv hf
      refine ⟨?_, ?_, ?_, ?_⟩
      · rw [numL_snoc, i1, h1, Nat.mul_comm]; exact Nat.div_add_mod n base
      · unfold allD at i2 ⊢
        rw [List.all_append, i2]
        simp only [List.all_cons, List.all_nil]; rw [h1]; simpa using hm
      · simp
      · rw [List.length_append]; simp; omega

theorem good10 : goodT 10 [48, 49, 50, 51, 52, 53, 54, 55, 56, 57] := ⟨rfl, by decide⟩
theorem good16 : goodT 16 [48, 49, 50, 51, 52, 53, 54, 55, 56, 57, 97, 98, 99, 100, 101, 102] := ⟨rfl, by decide⟩
theorem good16u : goodT 16 [48, 49, 50, 51, 52, 53, 54, 55, 56, 57, 65, 66, 67, 68, 69, 70] := ⟨rfl, by decide⟩

theorem digit_ne {base : Nat} (hb : base ≤ 16) {ds : List UInt8} (h : allD base ds = true) (x : UInt8) (hx : digV x = 99) : x ∉ ds := by
  intro hm
  unfold allD at h
  rw [List.all_eq_true] at h
  have := of_decide_eq_true (h x hm)
  omega

theorem cutB_end (b : UInt8) : ∀ l : List UInt8, b ∉ l → cutB b (l ++ [b]) = (l, [], true)
  | [], _ => by simp [cutB]
  | x :: l, h => by
    have hx : x ≠ b := fun e => h (by rw [e]; exact List.mem_cons_self)
    have ih := cutB_end b l (fun h2 => h (List.mem_cons_of_mem _ h2))
    rw [List.cons_append]
    unfold cutB
    rw [if_neg hx, ih]

theorem cutB_none (b : UInt8) : ∀ l : List UInt8, b ∉ l → (cutB b l).2.2 = false
  | [], _ => by simp [cutB]
  | x :: l, h => by
    have hx : x ≠ b := fun e => h (by rw [e]; exact List.mem_cons_self)
    have ih := cutB_none b l (fun h2 => h (List.mem_cons_of_mem _ h2))
    unfold cutB
    rw [if_neg hx]; exact ih

/-- A reference's inside that tells c if it may be. -/
structure Ins (ins : List UInt8) (c : Nat) : Prop where
  no : 59 ∉ ins
  len : ins.length ≤ 10
  tells : refIn ins = if fineB (c : Int) = true then some c else none

theorem numOf_digs {base most c : Nat} {ds : List UInt8} (h1 : numL base ds = c) (h2 : allD base ds = true) (h3 : 1 ≤ ds.length) (h4 : ds.length ≤ most) : numOf base most ds = if fineB (c : Int) = true then some c else none := by
  unfold numOf
  rw [h1, h2]
  have hne : ds ≠ [] := by rintro rfl; simp at h3
  cases hf : fineB (c : Int) with
  | true => rw [if_neg (by rintro (h | h | h | h); exact hne h; omega; cases h; cases h)]; rfl
  | false => rw [if_pos (Or.inr (Or.inr (Or.inr rfl)))]; rfl

theorem ins10 {ds : List UInt8} {c : Nat} (h1 : numL 10 ds = c) (h2 : allD 10 ds = true) (h3 : 1 ≤ ds.length) (h4 : ds.length ≤ 7) : Ins (35 :: ds) c := by
  refine ⟨?_, by simp; omega, ?_⟩
  · have := digit_ne (by decide) h2 59 (by decide)
    simp [this]
  · rw [← numOf_digs h1 h2 h3 h4]
    have h120 := digit_ne (by decide) h2 120 (by decide)
    cases ds with
    | nil => simp at h3
    | cons y ds =>
      have hy : y ≠ 120 := fun e => h120 (by rw [e]; exact List.mem_cons_self)
      have hn : nameOf (35 :: y :: ds) = none := by unfold nameOf; simp
      unfold refIn; rw [hn]
      show (match 35 :: y :: ds with | 35 :: 120 :: ds => numOf 16 6 ds | 35 :: ds => numOf 10 7 ds | _ => none) = _
      split <;> simp_all

theorem ins16 {ds : List UInt8} {c : Nat} (h1 : numL 16 ds = c) (h2 : allD 16 ds = true) (h3 : 1 ≤ ds.length) (h4 : ds.length ≤ 6) : Ins (35 :: 120 :: ds) c := by
  refine ⟨?_, by simp; omega, ?_⟩
  · have := digit_ne (by decide) h2 59 (by decide)
    simp [this]
  · rw [← numOf_digs h1 h2 h3 h4]
    have hn : nameOf (35 :: 120 :: ds) = none := by unfold nameOf; simp
    unfold refIn; rw [hn]; rfl

theorem ref1_ins {ins : List UInt8} {c : Nat} (h : Ins ins c) : ref1 (ins ++ [59]) = if fineB (c : Int) = true then some (c, ins.length + 2) else none := by
  have ht : (ins ++ [59]).take 11 = ins ++ [59] := List.take_of_length_le (by rw [List.length_append]; have := h.len; simp; omega)
  unfold ref1
  rw [ht, cutB_end 59 ins h.no, h.tells]
  simp only []
  rw [if_neg (by decide)]
  by_cases hf : fineB (c : Int) = true
  · rw [if_pos hf, if_pos hf]
  · rw [if_neg hf, if_neg hf]

theorem ref1_noend {ins : List UInt8} {c : Nat} (h : Ins ins c) : ref1 ins = none := by
  have ht : ins.take 11 = ins := List.take_of_length_le (by have := h.len; omega)
  unfold ref1
  rw [ht, if_pos (cutB_none 59 ins h.no)]

theorem step_bad (v : Bool) (t : List UInt8) (h : ref1 t = none) : step1 v (38 :: t) = (5, 0, 0) := by
  have hr : rune1 ([38] ++ t) = some (38, 1) := rune1_encode 38 (by decide) t
  have hr' : rune1 (38 :: t) = some (38, 1) := hr
  unfold step1
  rw [hr']
  simp only []
  rw [if_neg (by decide), if_pos trivial, List.drop_succ_cons, List.drop_zero, h]

theorem step_x (r : List UInt8) : step1 false (120 :: r) = (0, 120, 1) := by
  have e : put 120 = [120] := by decide
  have h := step_put false 120 (by decide) r (by decide) (by decide) (by decide)
  rw [e] at h
  exact h

theorem value_ins {ins : List UInt8} {c : Nat} (h : Ins ins c) : tellL true (38 :: (ins ++ [59])) = if fineB (c : Int) = true then (put c, ins.length + 2, 0) else ([], 0, 5) := by
  unfold tellL
  have hr := ref1_ins h
  by_cases hf : fineB (c : Int) = true
  · rw [if_pos hf] at hr ⊢
    rw [tellGo_step 0 [] (Nat.le_refl _) (by simp) (step_ref true _ c _ hr)]
    have : (38 :: (ins ++ [59])).drop (ins.length + 2) = [] := List.drop_eq_nil_of_le (by simp)
    rw [this, tellGo_nil, Nat.zero_add]; rfl
  · rw [if_neg hf] at hr ⊢
    exact tellGo_bad 0 [] (Nat.le_refl _) (by simp) (step_bad true _ hr) (by decide)

theorem text_ins {ins : List UInt8} {c : Nat} (h : Ins ins c) : tellL false (120 :: 38 :: (ins ++ [59])) = if fineB (c : Int) = true then (120 :: put c, ins.length + 3, 0) else ([], 1, 5) := by
  unfold tellL
  have hr := ref1_ins h
  rw [tellGo_step 0 [] (Nat.le_refl _) (by simp) (step_x _), List.drop_succ_cons, List.drop_zero]
  have e : [] ++ Lib.encodeRune ((120 : Nat) : Int) = [120] := by decide
  rw [e]
  by_cases hf : fineB (c : Int) = true
  · rw [if_pos hf] at hr ⊢
    rw [tellGo_step (0 + 1) [120] (by simp) (by simp) (step_ref false _ c _ hr)]
    have : (38 :: (ins ++ [59])).drop (ins.length + 2) = [] := List.drop_eq_nil_of_le (by simp)
    rw [this, tellGo_nil]
    have e2 : 0 + 1 + (ins.length + 2) = ins.length + 3 := by omega
    rw [e2]; rfl
  · rw [if_neg hf] at hr ⊢
    exact tellGo_bad (0 + 1) [120] (by simp) (by simp) (step_bad false _ hr) (by decide)

theorem noend_ins {ins : List UInt8} {c : Nat} (h : Ins ins c) : tellL false (38 :: ins) = ([], 0, 5) := by
  unfold tellL
  exact tellGo_bad 0 [] (Nat.le_refl _) (by simp) (step_bad false _ (ref1_noend h)) (by decide)

end Go.Proofs.YtgkfadkgkdjcoaaDoor
