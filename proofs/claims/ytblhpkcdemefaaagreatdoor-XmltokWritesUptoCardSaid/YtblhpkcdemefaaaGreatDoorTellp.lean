/- Plain words: what a text tells (chapter 3), as the program goes through it. -/
import Derived.Test.YtblhpkcdemefaaaGreatDoorPlain
import Derived.Lib.IndexMore
set_option linter.unusedVariables false
set_option linter.unusedSimpArgs false
namespace Go.Proofs.YtblhpkcdemefaaaGreatDoor

/-- A text cut at a byte: what stands ahead, behind, and whether it is there. -/
def cutB (b : UInt8) : List UInt8 → List UInt8 × List UInt8 × Bool
  | [] => ([], [], false)
  | x :: r => if x = b then ([], r, true) else (x :: (cutB b r).1, (cutB b r).2.1, (cutB b r).2.2)

theorem cut_cutB (b : UInt8) : ∀ l : List UInt8, Lib.cut l [b] = cutB b l
  | [] => by simp [Lib.cut, Lib.index, cutB]
  | x :: r => by
    have ih := cut_cutB b r
    have hge := Lib.index_ge r [b]
    by_cases h : x = b
    · subst h
      simp [Lib.cut, Lib.index, cutB]
    · have hp : ([b].isPrefixOf (x :: r)) = false := by
        simp [List.isPrefixOf]
        exact fun e => h e.symm
      unfold cutB
      rw [if_neg h, ← ih]
      unfold Lib.cut
      have hi : Lib.index (x :: r) [b] = if Lib.index r [b] == -1 then -1 else Lib.index r [b] + 1 := by
        conv => lhs; unfold Lib.index
        rw [if_neg (by rw [hp]; decide)]
      rw [hi]
      by_cases h1 : Lib.index r [b] = -1
      · rw [h1]
        simp
      · have h2 : (Lib.index r [b] == -1) = false := by rw [beq_eq_false_iff_ne]; exact h1
        rw [h2]
        obtain ⟨n, hn⟩ : ∃ n : Nat, Lib.index r [b] = n := ⟨(Lib.index r [b]).toNat, by omega⟩
        rw [hn]
        have e1 : ((n : Int) + 1).toNat = n + 1 := by omega
        simp [e1]
        omega

theorem cutB_le (b : UInt8) : ∀ l : List UInt8, (cutB b l).1.length ≤ l.length ∧ ((cutB b l).2.2 = true → (cutB b l).1.length + 1 ≤ l.length)
  | [] => ⟨Nat.le_refl _, fun h => by cases h⟩
  | x :: r => by
    have ih := cutB_le b r
    unfold cutB
    by_cases h : x = b
    · rw [if_pos h]; simp
    · rw [if_neg h]
      refine ⟨by simp; exact ih.1, fun h2 => ?_⟩
      have := ih.2 h2
      simp
      omega

/-- A reference behind its &: the character, and how many bytes with & and ;. -/
def ref1 (t : List UInt8) : Option (Nat × Nat) :=
  if (cutB 59 (t.take 11)).2.2 = false then none
  else match refIn (cutB 59 (t.take 11)).1 with
    | none => none
    | some x => some (x, (cutB 59 (t.take 11)).1.length + 2)

/-- One step at a text's head: the error, else 0, the character, how many bytes. -/
def step1 (v : Bool) (l : List UInt8) : Nat × Nat × Nat :=
  match rune1 l with
  | none => (4, 0, 0)
  | some (c, n) =>
    if c = 60 then (5, 0, 0)
    else if c = 38 then (match ref1 (l.drop 1) with | none => (5, 0, 0) | some (x, k) => (0, x, k))
    else if c = 13 ∨ c = 10 ∨ c = 9 then (0, if v = true then 32 else if c = 13 then 10 else c, if Lib.hasPrefix l [13, 10] = true then 2 else n)
    else (0, c, n)

def tellGo (v : Bool) : Nat → List UInt8 → Nat → List UInt8 → List UInt8 × Nat × Nat
  | 0, _, p, acc => (acc, p, 0)
  | f + 1, l, p, acc =>
    if l = [] then (acc, p, 0)
    else if (step1 v l).1 ≠ 0 then ([], p, (step1 v l).1)
    else tellGo v f (l.drop (step1 v l).2.2) (p + (step1 v l).2.2) (acc ++ Lib.encodeRune (step1 v l).2.1)

def tellL (v : Bool) (l : List UInt8) : List UInt8 × Nat × Nat := tellGo v l.length l 0 []

theorem tellGo_nil (v : Bool) (f p : Nat) (acc : List UInt8) : tellGo v f [] p acc = (acc, p, 0) := by cases f <;> simp [tellGo]
theorem tellGo_bad {v : Bool} {f : Nat} {l : List UInt8} (p : Nat) (acc : List UInt8) {e : Nat} (hf : l.length ≤ f) (hl : l ≠ []) (h : step1 v l = (e, 0, 0)) (he : e ≠ 0) : tellGo v f l p acc = ([], p, e) := by
  cases f with
  | zero => cases l with | nil => exact absurd rfl hl | cons x l => simp at hf
  | succ f => simp [tellGo, hl, h, he]
theorem tellGo_step {v : Bool} {f : Nat} {l : List UInt8} (p : Nat) (acc : List UInt8) {x k : Nat} (hf : l.length ≤ f) (hl : l ≠ []) (h : step1 v l = (0, x, k)) : tellGo v f l p acc = tellGo v (f - 1) (l.drop k) (p + k) (acc ++ Lib.encodeRune x) := by
  cases f with
  | zero => cases l with | nil => exact absurd rfl hl | cons x l => simp at hf
  | succ f => simp [tellGo, hl, h]

theorem dec_bounds' (l : List UInt8) (h : l ≠ []) : 1 ≤ (Lib.decodeL l).2 ∧ (Lib.decodeL l).2 ≤ 4 ∧ (Lib.decodeL l).2 ≤ l.length ∧ (Lib.decodeL l).1 ≤ 1114111 := by
  unfold Lib.decodeL
  rw [Lib.decode_at]
  have hs : (⟨l.toArray⟩ : ByteArray).size = l.length := Lib.size_eq _
  rw [hs]
  have hl : 1 ≤ l.length := by cases l with | nil => exact absurd rfl h | cons x l => simp
  have hb : ∀ k, ((⟨l.toArray⟩ : ByteArray).get! k).toNat < 256 := fun k => ((⟨l.toArray⟩ : ByteArray).get! k).toNat_lt
  have h0 := hb 0; have h1 := hb (0 + 1); have h2 := hb (0 + 2); have h3 := hb (0 + 3)
  unfold Lib.decodeN
  repeat' split
  all_goals (refine ⟨?_, ?_, ?_, ?_⟩ <;> simp only [] <;> omega)

theorem rune1_bounds {l : List UInt8} {c n : Nat} (h : rune1 l = some (c, n)) : l ≠ [] ∧ 1 ≤ n ∧ n ≤ 4 ∧ n ≤ l.length ∧ c ≤ 1114111 ∧ fineB c = true := by
  unfold rune1 at h
  by_cases h0 : l = []
  · rw [if_pos h0] at h; cases h
  · rw [if_neg h0] at h
    obtain ⟨a1, a2, a3, a4⟩ := dec_bounds' l h0
    split at h
    · cases h
    · split at h
      · rename_i hf
        have e := Option.some.inj h
        rw [e] at a1 a2 a3 a4 hf
        exact ⟨h0, a1, a2, a3, a4, hf⟩
      · cases h

theorem fineB_le {c : Int} (h : fineB c = true) : 9 ≤ c ∧ c ≤ 1114111 := by
  rw [fineB_iff] at h; omega

theorem numOf_some {b m x : Nat} {ds : List UInt8} (h : numOf b m ds = some x) : fineB x = true := by
  unfold numOf at h
  split at h
  · cases h
  · rename_i hn
    have e := Option.some.inj h
    rw [← e]
    cases hf : fineB (numL b ds) with
    | true => rfl
    | false => exact absurd (Or.inr (Or.inr (Or.inr hf))) hn

theorem nameOf_some {t : List UInt8} {x : Nat} (h : nameOf t = some x) : fineB x = true := by
  unfold nameOf at h
  repeat' split at h
  all_goals first | (cases h; done) | (cases Option.some.inj h; decide)

theorem refIn_some {t : List UInt8} {x : Nat} (h : refIn t = some x) : fineB x = true := by
  unfold refIn at h
  split at h
  · rename_i c hc
    have e := Option.some.inj h
    rw [← e]
    exact nameOf_some hc
  · split at h
    · exact numOf_some h
    · exact numOf_some h
    · cases h

theorem ref1_bounds {t : List UInt8} {x k : Nat} (h : ref1 t = some (x, k)) : fineB x = true ∧ 2 ≤ k ∧ k ≤ t.length + 1 := by
  unfold ref1 at h
  split at h
  · cases h
  · rename_i hf
    split at h
    · cases h
    · rename_i y hy
      have e := Option.some.inj h
      have e1 : y = x := congrArg Prod.fst e
      have e2 : (cutB 59 (t.take 11)).1.length + 2 = k := congrArg Prod.snd e
      have h1 := (cutB_le 59 (t.take 11)).2 (by simpa using hf)
      have h2 : (t.take 11).length ≤ t.length := by rw [List.length_take]; omega
      exact ⟨by rw [← e1]; exact refIn_some hy, by omega, by omega⟩

theorem hasPrefix_le {l p : List UInt8} (h : Lib.hasPrefix l p = true) : p.length ≤ l.length := by
  unfold Lib.hasPrefix at h
  exact (List.isPrefixOf_iff_prefix.1 h).length_le

theorem step1_ok {v : Bool} {l : List UInt8} {x k : Nat} (h : step1 v l = (0, x, k)) : 1 ≤ k ∧ k ≤ l.length ∧ x ≤ 1114111 ∧ fineB x = true := by
  unfold step1 at h
  split at h
  · cases h
  · rename_i c n hr
    obtain ⟨h0, b1, b2, b3, b4, b5⟩ := rune1_bounds hr
    split at h
    · cases h
    · split at h
      · split at h
        · cases h
        · rename_i y m hm
          obtain ⟨c1, c2, c3⟩ := ref1_bounds hm
          have e1 : y = x := congrArg (fun p : Nat × Nat × Nat => p.2.1) h
          have e2 : m = k := congrArg (fun p : Nat × Nat × Nat => p.2.2) h
          subst e1 e2
          rw [List.length_drop] at c3
          exact ⟨by omega, by have : 1 ≤ l.length := by omega
                              omega, by have := (fineB_le c1).2; omega, c1⟩
      · split at h
        · rename_i hc
          have e1 := congrArg (fun p : Nat × Nat × Nat => p.2.1) h
          have e2 := congrArg (fun p : Nat × Nat × Nat => p.2.2) h
          simp only [] at e1 e2
          have h2 : Lib.hasPrefix l [13, 10] = true → 2 ≤ l.length := fun h => hasPrefix_le h
          refine ⟨?_, ?_, ?_, ?_⟩
          · rw [← e2]; split <;> omega
          · rw [← e2]; split
            · rename_i h3; exact h2 h3
            · exact b3
          · rw [← e1]; split
            · omega
            · split <;> omega
          · rw [← e1]; split
            · decide
            · split
              · decide
              · exact b5
        · have e1 : c = x := congrArg (fun p : Nat × Nat × Nat => p.2.1) h
          have e2 : n = k := congrArg (fun p : Nat × Nat × Nat => p.2.2) h
          subst e1 e2
          exact ⟨b1, b3, b4, b5⟩

end Go.Proofs.YtblhpkcdemefaaaGreatDoor
