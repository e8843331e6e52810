/- Plain laws: the document's references are those that the program takes. -/
import Derived.Test.YtgkfadkgkdjcoaaDoorDoc
set_option linter.unusedVariables false
set_option linter.unusedSimpArgs false
namespace Go.Proofs.YtgkfadkgkdjcoaaDoor

theorem cutB_yes (b : UInt8) : ∀ l : List UInt8, (cutB b l).2.2 = true → l = (cutB b l).1 ++ b :: (cutB b l).2.1 ∧ b ∉ (cutB b l).1
  | [], h => by cases h
  | x :: r, h => by
    unfold cutB at h ⊢
    by_cases hx : x = b
    · rw [if_pos hx]; subst hx; simp
    · rw [if_neg hx] at h ⊢
      obtain ⟨h1, h2⟩ := cutB_yes b r h
      refine ⟨?_, ?_⟩
      · simp only [List.cons_append]; rw [← h1]
      · simp only [List.mem_cons, not_or]; exact ⟨fun e => hx e.symm, h2⟩

theorem cutB_no (b : UInt8) : ∀ l : List UInt8, (cutB b l).2.2 = false → b ∉ l
  | [], h => by simp
  | x :: r, h => by
    unfold cutB at h
    by_cases hx : x = b
    · rw [if_pos hx] at h; cases h
    · rw [if_neg hx] at h
      simp only [List.mem_cons, not_or]
      exact ⟨fun e => hx e.symm, cutB_no b r h⟩

theorem pre59 : ∀ (nm ins r : List UInt8), 59 ∉ nm → 59 ∉ ins → ((nm ++ [59]).isPrefixOf (ins ++ 59 :: r) = true ↔ ins = nm)
  | [], [], r, _, _ => by simp [List.isPrefixOf]
  | [], x :: ins, r, _, h => by
    have hx : x ≠ 59 := fun e => h (by rw [e]; exact List.mem_cons_self)
    simp [List.isPrefixOf, hx.symm]
  | y :: nm, [], r, h, _ => by
    have hy : y ≠ 59 := fun e => h (by rw [e]; exact List.mem_cons_self)
    simp [List.isPrefixOf, hy]
  | y :: nm, x :: ins, r, h1, h2 => by
    have ih := pre59 nm ins r (fun h => h1 (List.mem_cons_of_mem _ h)) (fun h => h2 (List.mem_cons_of_mem _ h))
    simp only [List.cons_append, List.isPrefixOf, Bool.and_eq_true, beq_iff_eq, List.cons.injEq, ih]
    exact ⟨fun h => ⟨h.1.symm, h.2⟩, fun h => ⟨h.1.symm, h.2⟩⟩

theorem preN (nm ins r : List UInt8) (h1 : 59 ∉ nm) (h2 : 59 ∉ ins) : Lib.hasPrefix (38 :: (ins ++ 59 :: r)) (38 :: (nm ++ [59])) = decide (ins = nm) := by
  have h := pre59 nm ins r h1 h2
  have e : Lib.hasPrefix (38 :: (ins ++ 59 :: r)) (38 :: (nm ++ [59])) = (nm ++ [59]).isPrefixOf (ins ++ 59 :: r) := by
    simp [Lib.hasPrefix, List.isPrefixOf]
  rw [e]
  by_cases hi : ins = nm
  · rw [h.2 hi, decide_eq_true hi]
  · rw [decide_eq_false hi]
    cases hb : (nm ++ [59]).isPrefixOf (ins ++ 59 :: r) with
    | false => rfl
    | true => exact absurd (h.1 hb) hi

theorem digs_all {base : Nat} (hb : base ≤ 16) : ∀ (ds r : List UInt8), allD base ds = true → digs base (ds ++ 59 :: r) = ds
  | [], r, _ => by
    have : ¬ digV 59 < base := by have : digV 59 = 99 := by decide
                                  omega
    simp [digs, List.takeWhile_cons, this]
  | b :: ds, r, h => by
    have h1 : digV b < base := by unfold allD at h; simp at h; exact h.1
    have h2 : allD base ds = true := by unfold allD at h ⊢; simp at h ⊢; exact h.2
    have ih := digs_all hb ds r h2
    unfold digs at ih ⊢
    rw [List.cons_append, List.takeWhile_cons, if_pos (by simpa using h1), ih]

theorem digs_some {base : Nat} : ∀ (ds r : List UInt8), allD base ds = false → ∃ y ∈ ds, ((ds ++ r).drop (digs base (ds ++ r)).length).head? = some y
  | [], r, h => by cases h
  | b :: ds, r, h => by
    by_cases hb : digV b < base
    · have h2 : allD base ds = false := by unfold allD at h ⊢; simpa [hb] using h
      obtain ⟨y, hy, hd⟩ := digs_some ds r h2
      refine ⟨y, List.mem_cons_of_mem _ hy, ?_⟩
      unfold digs at hd ⊢
      rw [List.cons_append, List.takeWhile_cons, if_pos (by simpa using hb), List.length_cons, List.drop_succ_cons]
      exact hd
    · refine ⟨b, List.mem_cons_self, ?_⟩
      unfold digs
      rw [List.cons_append, List.takeWhile_cons, if_neg (by simpa using hb)]
      rfl

/-- What a number's text tells, as a pair. -/
def pairK (o : Option Nat) (k : Nat) : Nat × Nat := match o with | some x => (x, k) | none => (0, 0)

theorem numRes_num (base most k : Nat) (hb : base ≤ 16) (ds r : List UInt8) (h59 : 59 ∉ ds) : add3 (numRes base most (ds ++ 59 :: r)) k = pairK (numOf base most ds) (ds.length + 1 + k) := by
  cases ha : allD base ds with
  | true =>
    have hd := digs_all hb ds r ha
    unfold numRes numOf
    rw [hd, ha, List.drop_left]
    by_cases h1 : most < ds.length
    · rw [if_pos h1, if_pos (Or.inr (Or.inl h1))]; rfl
    · rw [if_neg h1]
      by_cases h2 : ds = []
      · rw [if_pos (Or.inl h2), if_pos (Or.inl h2)]; rfl
      · cases h3 : fineB (numL base ds : Int) with
        | false => rw [if_pos (Or.inr (Or.inr rfl)), if_pos (Or.inr (Or.inr (Or.inr rfl)))]; rfl
        | true =>
          rw [if_neg (by rintro (h | h | h); exact h2 h; exact h rfl; cases h), if_neg (by rintro (h | h | h | h); exact h2 h; exact h1 h; cases h; cases h)]
          unfold add3 pairK
          rw [if_neg (by simp)]
  | false =>
    obtain ⟨y, hy, hd⟩ := digs_some ds (59 :: r) ha
    have hn : numOf base most ds = none := by unfold numOf; rw [if_pos (Or.inr (Or.inr (Or.inl ha)))]
    have hr : numRes base most (ds ++ 59 :: r) = (0, 0) := by
      unfold numRes
      by_cases h1 : most < (digs base (ds ++ 59 :: r)).length
      · rw [if_pos h1]
      · rw [if_neg h1, if_pos]
        refine Or.inr (Or.inl ?_)
        rw [hd]
        intro e
        exact h59 (by rw [← Option.some.inj e]; exact hy)
    rw [hn, hr]; rfl

theorem numRes_ok {base most : Nat} {l : List UInt8} (h : (numRes base most l).2 ≠ 0) : ∃ i, i ≤ most ∧ l[i]? = some 59 := by
  unfold numRes at h
  split at h
  · exact absurd rfl h
  · rename_i h1
    split at h
    · exact absurd rfl h
    · rename_i h2
      refine ⟨(digs base l).length, by omega, ?_⟩
      have : (l.drop (digs base l).length).head? = some 59 := Classical.byContradiction (fun hc => h2 (Or.inr (Or.inl hc)))
      rw [List.head?_drop] at this
      exact this

theorem mem_take {l : List UInt8} {j n : Nat} (h : l[j]? = some 59) (hj : j < n) : 59 ∈ l.take n := by
  apply List.mem_of_getElem? (i := j)
  rw [List.getElem?_take, if_pos hj]; exact h

theorem add3_ne {q : Nat × Nat} {k : Nat} (h : ¬ q.2 ≠ 0) : add3 q k = (0, 0) := by
  unfold add3; rw [if_pos (by omega)]

theorem preGet {l p : List UInt8} {j : Nat} {x : UInt8} (h : Lib.hasPrefix l p = true) (hp : p[j]? = some x) : l[j]? = some x := by
  unfold Lib.hasPrefix at h
  rw [List.isPrefixOf_iff_prefix] at h
  obtain ⟨r, rfl⟩ := h
  have hj : j < p.length := (List.getElem?_eq_some_iff.1 hp).1
  rw [List.getElem?_append_left hj]; exact hp

/-- A reference: the document's is the program's. -/
def pairO (o : Option (Nat × Nat)) : Nat × Nat := match o with | some q => q | none => (0, 0)

theorem refDoc_eq (t : List UInt8) : refDoc (38 :: t) = pairO (ref1 t) := by
  cases hc : (cutB 59 (t.take 11)).2.2 with
  | false =>
    have hno := cutB_no 59 _ hc
    have hr : ref1 t = none := by unfold ref1; rw [if_pos hc]
    rw [hr]
    have hnm : ∀ (p : List UInt8) (j : Nat), p[j + 1]? = some 59 → j < 11 → Lib.hasPrefix (38 :: t) p = false := by
      intro p j hp hj
      cases h : Lib.hasPrefix (38 :: t) p with
      | false => rfl
      | true =>
        have := preGet h hp
        rw [List.getElem?_cons_succ] at this
        exact absurd (mem_take this hj) hno
    have hf : nms.find? (fun q => Lib.hasPrefix (38 :: t) q.1) = none := by
      rw [List.find?_eq_none]
      intro q hq
      simp only [nms, List.mem_cons, List.not_mem_nil, or_false] at hq
      rcases hq with rfl | rfl | rfl | rfl | rfl
      · rw [hnm _ 3 rfl (by decide)]; decide
      · rw [hnm _ 2 rfl (by decide)]; decide
      · rw [hnm _ 2 rfl (by decide)]; decide
      · rw [hnm _ 4 rfl (by decide)]; decide
      · rw [hnm _ 4 rfl (by decide)]; decide
    unfold refDoc
    rw [hf]
    show (if _ then _ else _) = (0, 0)
    split
    · apply add3_ne
      intro h
      obtain ⟨i, hi, hg⟩ := numRes_ok h
      rw [List.getElem?_drop, show 3 + i = (i + 2) + 1 by omega, List.getElem?_cons_succ] at hg
      exact hno (mem_take hg (by omega))
    · split
      · apply add3_ne
        intro h
        obtain ⟨i, hi, hg⟩ := numRes_ok h
        rw [List.getElem?_drop, show 2 + i = (i + 1) + 1 by omega, List.getElem?_cons_succ] at hg
        exact hno (mem_take hg (by omega))
      · rfl
  | true =>
    obtain ⟨h1, h2⟩ := cutB_yes 59 _ hc
    have hr : ref1 t = match refIn (cutB 59 (t.take 11)).1 with | none => none | some x => some (x, (cutB 59 (t.take 11)).1.length + 2) := by
      unfold ref1; rw [if_neg (by rw [hc]; decide)]; rfl
    generalize (cutB 59 (t.take 11)).1 = ins at *
    generalize (cutB 59 (t.take 11)).2.1 = r0 at *
    have ht : t = ins ++ 59 :: (r0 ++ t.drop 11) := by
      conv => lhs; rw [← List.take_append_drop 11 t, h1]
      simp
    generalize r0 ++ t.drop 11 = r at ht
    clear h1 hc
    have p1 := preN [97, 109, 112] ins r (by decide) h2
    have p2 := preN [108, 116] ins r (by decide) h2
    have p3 := preN [103, 116] ins r (by decide) h2
    have p4 := preN [113, 117, 111, 116] ins r (by decide) h2
    have p5 := preN [97, 112, 111, 115] ins r (by decide) h2
    simp only [List.cons_append, List.nil_append] at p1 p2 p3 p4 p5
    rw [hr]
    subst ht
    unfold refDoc nms
    simp only [List.find?_cons, p1, p2, p3, p4, p5, List.find?_nil]
    by_cases e1 : ins = [97, 109, 112]
    · subst e1; rfl
    by_cases e2 : ins = [108, 116]
    · subst e2; rfl
    by_cases e3 : ins = [103, 116]
    · subst e3; rfl
    by_cases e4 : ins = [113, 117, 111, 116]
    · subst e4; rfl
    by_cases e5 : ins = [97, 112, 111, 115]
    · subst e5; rfl
    simp only [e1, e2, e3, e4, e5, decide_false]
    have hnn : nameOf ins = none := by
      unfold nameOf; rw [if_neg e1, if_neg e2, if_neg e3, if_neg e4, if_neg e5]
    have pk : ∀ (o : Option Nat) (k : Nat), pairO (match o with | none => none | some x => some (x, k)) = pairK o k := by
      intro o k; cases o <;> rfl
    rw [pk]
    cases ins with
    | nil =>
      have hv : refIn [] = none := by decide
      have q1 : Lib.hasPrefix (38 :: ([] ++ 59 :: r)) [38, 35, 120] = false := by simp [Lib.hasPrefix, List.isPrefixOf]
      have q2 : Lib.hasPrefix (38 :: ([] ++ 59 :: r)) [38, 35] = false := by simp [Lib.hasPrefix, List.isPrefixOf]
      rw [q1, q2, hv]; rfl
    | cons x ins =>
      by_cases hx : x = 35
      · subst hx
        cases ins with
        | nil =>
          have hv : refIn [35] = numOf 10 7 [] := by decide
          have q1 : Lib.hasPrefix (38 :: ([35] ++ 59 :: r)) [38, 35, 120] = false := by simp [Lib.hasPrefix, List.isPrefixOf]
          have q2 : Lib.hasPrefix (38 :: ([35] ++ 59 :: r)) [38, 35] = true := by simp [Lib.hasPrefix, List.isPrefixOf]
          rw [q1, q2, hv]
          exact numRes_num 10 7 2 (by decide) [] r (by simp)
        | cons y ds =>
          have h59 : 59 ∉ y :: ds := fun h => h2 (List.mem_cons_of_mem _ h)
          by_cases hy : y = 120
          · subst hy
            have hv : refIn (35 :: 120 :: ds) = numOf 16 6 ds := by unfold refIn; rw [hnn]; rfl
            have q1 : Lib.hasPrefix (38 :: ((35 :: 120 :: ds) ++ 59 :: r)) [38, 35, 120] = true := by simp [Lib.hasPrefix, List.isPrefixOf]
            rw [q1, hv]
            exact numRes_num 16 6 3 (by decide) ds r (fun h => h59 (List.mem_cons_of_mem _ h))
          · have hv : refIn (35 :: y :: ds) = numOf 10 7 (y :: ds) := by
              unfold refIn; rw [hnn]
              show (match 35 :: y :: ds with | 35 :: 120 :: ds => numOf 16 6 ds | 35 :: ds => numOf 10 7 ds | _ => none) = _
              split <;> simp_all
            have q1 : Lib.hasPrefix (38 :: ((35 :: y :: ds) ++ 59 :: r)) [38, 35, 120] = false := by simp [Lib.hasPrefix, List.isPrefixOf]; exact fun h => hy h.symm
            have q2 : Lib.hasPrefix (38 :: ((35 :: y :: ds) ++ 59 :: r)) [38, 35] = true := by simp [Lib.hasPrefix, List.isPrefixOf]
            rw [q1, q2, hv]
            exact numRes_num 10 7 2 (by decide) (y :: ds) r h59
      · have hv : refIn (x :: ins) = none := by
          unfold refIn; rw [hnn]
          show (match x :: ins with | 35 :: 120 :: ds => numOf 16 6 ds | 35 :: ds => numOf 10 7 ds | _ => none) = _
          split <;> simp_all
        have q1 : Lib.hasPrefix (38 :: ((x :: ins) ++ 59 :: r)) [38, 35, 120] = false := by simp [Lib.hasPrefix, List.isPrefixOf]; exact fun h => absurd h.symm hx
        have q2 : Lib.hasPrefix (38 :: ((x :: ins) ++ 59 :: r)) [38, 35] = false := by simp [Lib.hasPrefix, List.isPrefixOf]; exact fun h => absurd h.symm hx
        rw [q1, q2, hv]; rfl

end Go.Proofs.YtgkfadkgkdjcoaaDoor
