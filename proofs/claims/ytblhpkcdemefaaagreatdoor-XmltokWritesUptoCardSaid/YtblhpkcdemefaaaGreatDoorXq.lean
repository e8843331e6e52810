/- Plain law: going through a text moves forward, stays in it, and what is wrong is in it. -/
import Derived.Test.YtblhpkcdemefaaaGreatDoorVal
set_option linter.unusedVariables false
set_option linter.unusedSimpArgs false
namespace Go.Proofs.YtblhpkcdemefaaaGreatDoor

structure Le (s : List UInt8) (st st' : St) : Prop where
  i : st.i ≤ st'.i
  ii : st.i ≤ s.length → st'.i ≤ s.length
  be : st'.be = 0 → st.be = 0
  bat : st.i ≤ s.length → st.bat ≤ s.length → st'.bat ≤ s.length
  out : st'.out = st.out

variable {s : List UInt8} {st st' st'' : St}

theorem Le.refl (s : List UInt8) (st : St) : Le s st st := ⟨Nat.le_refl _, id, id, fun _ h => h, rfl⟩
theorem Le.trans (h : Le s st st') (k : Le s st' st'') : Le s st st'' :=
  ⟨Nat.le_trans h.i k.i, fun x => k.ii (h.ii x), fun x => h.be (k.be x), fun x y => k.bat (h.ii x) (h.bat x y), k.out.trans h.out⟩
theorem le_fail (a e : Nat) (ha : st.i ≤ s.length → a ≤ s.length) : Le s st (xFail st a e) := by
  unfold xFail
  split
  · rename_i h
    exact ⟨Nat.le_refl _, id, fun _ => h, fun x _ => ha x, rfl⟩
  · exact Le.refl _ _
theorem le_move (n : Nat) (hn : st.i ≤ s.length → st.i + n ≤ s.length) : Le s st (xMove st n) :=
  ⟨Nat.le_add_right _ _, fun h => hn h, id, fun _ h => h, rfl⟩
theorem le_miss : Le s st (xMiss s st) := by
  unfold xMiss
  split
  · exact le_fail _ _ (fun _ => Nat.le_refl _)
  · exact le_fail _ _ id
theorem take_len {t : List UInt8} (h : xTake s st t = true) : Lib.hasPrefix (s.drop st.i) t = true ∧ st.be = 0 := by
  unfold xTake at h
  rw [Bool.and_eq_true, decide_eq_true_iff] at h
  exact ⟨h.2, h.1⟩
theorem le_pre {t : List UInt8} (h : Lib.hasPrefix (s.drop st.i) t = true) : Le s st (xMove st t.length) := by
  have := hasPre_len h
  rw [List.length_drop] at this
  exact le_move _ (fun h => by omega)
theorem le_need (t : List UInt8) : Le s st (xNeed s st t) := by
  unfold xNeed
  split
  · rename_i h
    exact le_pre (take_len h).1
  · exact le_miss
theorem blank_le (l : List UInt8) : blankN l ≤ l.length := Nat.sub_le _ _
theorem le_blank : Le s st (xBlank s st) := by
  have := blank_le (s.drop st.i)
  rw [List.length_drop] at this
  exact le_move _ (fun h => by omega)
theorem le_until (t : List UInt8) : Le s st (xUntil s st t).1 := by
  unfold xUntil
  split
  · rename_i h
    have := cut_bound h
    rw [List.length_drop] at this
    exact le_move _ (fun h => by omega)
  · exact le_fail _ _ (fun _ => Nat.le_refl _)
theorem nameL_pre (l : List UInt8) : ∃ r, l = nameL l ++ r ∧ (nameL l).length ≤ l.length := by
  unfold nameL
  split
  · exact ⟨l, rfl, Nat.zero_le _⟩
  · split
    · exact ⟨l.drop (nmLen l), (List.take_append_drop _ _).symm, by rw [List.length_take]; omega⟩
    · exact ⟨l, rfl, Nat.zero_le _⟩
theorem fail_i (a e : Nat) : (xFail st a e).i = st.i := by unfold xFail; split <;> rfl
theorem le_name : Le s st (xName s st).1 := by
  unfold xName
  split
  · exact Le.refl _ _
  · split
    · exact le_miss
    · obtain ⟨r, h1, h2⟩ := nameL_pre (s.drop st.i)
      rw [List.length_drop] at h2
      generalize nameL (s.drop st.i) = nm at *
      have h3 : Le s st (if splitB nm = true then st else xFail st st.i 6) := by
        split
        · exact Le.refl _ _
        · exact le_fail _ _ id
      refine h3.trans (le_move _ (fun h => ?_))
      have : (if splitB nm = true then st else xFail st st.i 6).i = st.i := by split; rfl; exact fail_i _ _
      omega
theorem le_valueIn (q : UInt8) : Le s st (xValueIn s st q).1 := by
  unfold xValueIn
  refine Le.trans ?_ (le_until _)
  split
  · exact Le.refl _ _
  · refine le_fail _ _ (fun h => ?_)
    have hcl := (cutB_le q (s.drop st.i)).1
    rw [List.length_drop] at hcl
    rcases tellL_out true (cutB q (s.drop st.i)).1 with ⟨ds, _, ho⟩ | ⟨q', e', h1, h2, ho⟩
    · rw [ho]; simp only []; omega
    · rw [ho]; simp only []; omega
theorem le_value : Le s st (xValue s st).1 := by
  unfold xValue
  split
  · exact Le.refl _ _
  · split
    · rename_i h
      exact (le_pre h).trans (le_valueIn _)
    · split
      · rename_i h
        exact (le_pre h).trans (le_valueIn _)
      · exact le_miss
theorem le_attrB : Le s st (xAttrB s st).1 := le_blank.trans ((le_need _).trans (le_blank.trans le_value))
theorem le_twice (a : Nat) (nm : List UInt8) (l : List PrA) (ha : st.i ≤ s.length → a ≤ s.length) : Le s st (xTwice st a nm l) := by
  unfold xTwice
  split
  · exact le_fail _ _ ha
  · exact Le.refl _ _
theorem xAttr_1 (l : List PrA) : (xAttr s st l).1 = (xAttrB s (xTwice (xName s st).1 st.i (xName s st).2 l)).1 := rfl
theorem le_attr (l : List PrA) : Le s st (xAttr s st l).1 := by
  rw [xAttr_1]
  have h1 : Le s st (xName s st).1 := le_name
  exact h1.trans ((le_twice _ _ _ (fun h => Nat.le_trans h1.i h)).trans le_attrB)
end Go.Proofs.YtblhpkcdemefaaaGreatDoor
