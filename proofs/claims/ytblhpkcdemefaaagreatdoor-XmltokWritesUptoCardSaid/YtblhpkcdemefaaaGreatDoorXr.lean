/- Plain law: one step of the scanner moves forward, or notes what is wrong; it adds one token at most. -/
import Derived.Test.YtblhpkcdemefaaaGreatDoorStp
set_option linter.unusedVariables false
set_option linter.unusedSimpArgs false
namespace Go.Proofs.YtblhpkcdemefaaaGreatDoor

/-- As Le, but tokens may come: at most so many. -/
structure Lt (s : List UInt8) (k : Nat) (st st' : St) : Prop where
  i : st.i ≤ st'.i
  ii : st.i ≤ s.length → st'.i ≤ s.length
  be : st'.be = 0 → st.be = 0
  bat : st.i ≤ s.length → st.bat ≤ s.length → st'.bat ≤ s.length
  out : st'.out.length ≤ st.out.length + k

variable {s : List UInt8} {st st' st'' : St}

theorem Le.lt (h : Le s st st') (k : Nat) : Lt s k st st' := ⟨h.i, h.ii, h.be, h.bat, by rw [h.out]; omega⟩
theorem Lt.push (h : Le s st st') (t : Tk) : Lt s 1 st (xPush st' t) := ⟨h.i, h.ii, h.be, h.bat, by
  show (st'.out ++ [t]).length ≤ _
  rw [h.out, List.length_append]; simp⟩

theorem le_attrs : ∀ (f : Nat) (st : St) (l : List PrA), Le s st (xAttrs s f st l).1
  | 0, st, l => Le.refl _ _
  | f + 1, st, l => by
    unfold xAttrs
    split
    · exact Le.refl _ _
    · split
      · exact le_blank
      · split
        · exact le_blank.trans le_miss
        · exact (le_blank.trans (le_attr l)).trans (le_attrs f _ _)
theorem lt_open (a : Nat) : Lt s 1 st (xOpen s st a) := by
  unfold xOpen
  have h : Le s st (xAttrs s (s.length + 1) (xName s st).1 []).1 := le_name.trans (le_attrs _ _ _)
  generalize (xAttrs s (s.length + 1) (xName s st).1 []).1 = st1 at *
  unfold xOpenB
  split
  · rename_i ht
    exact Lt.push (h.trans ((le_pre (take_len ht).1).trans (le_need _))) _
  · exact Lt.push (h.trans (le_need _)) _
theorem textE_le (raw : List UInt8) : (textE raw).1 ≤ raw.length := by
  unfold textE
  split
  · rename_i h
    have := index_bound raw [93, 93, 62] h.1
    simp at this
    show (Lib.index raw [93, 93, 62]).toNat ≤ _
    omega
  · rcases tellL_out false raw with ⟨ds, _, ho⟩ | ⟨q', e', h1, h2, ho⟩
    · rw [ho]; exact Nat.le_refl _
    · rw [ho]; exact Nat.le_of_lt h1
theorem lt_text : Lt s 1 st (xText s st st.i) := by
  unfold xText
  have hcl := (cutB_le 60 (s.drop st.i)).1
  rw [List.length_drop] at hcl
  generalize (cutB 60 (s.drop st.i)).1 = raw at *
  have ht := textE_le raw
  refine Lt.push (Le.trans ?_ (le_move _ ?_)) _
  · split
    · exact Le.refl _ _
    · exact le_fail _ _ (fun h => by omega)
  · intro h
    have : (if (textE raw).2 = 0 then st else xFail st (st.i + (textE raw).1) (textE raw).2).i = st.i := by split; rfl; exact fail_i _ _
    omega
theorem le_comm (h2 : 2 ≤ st.i) : Le s st (xComm s st) := by
  unfold xComm
  split
  · exact Le.refl _ _
  · split
    · rename_i h
      exact le_pre (take_len h).1
    · split
      · exact le_miss.trans (le_fail _ _ (fun h => by rw [miss_i] at h; omega))
      · exact le_fail _ _ (fun h => by omega)
theorem lt_data (a : Nat) (t : List UInt8) : Lt s 1 st (xData st a t) := by
  unfold xData
  split
  · exact (Le.refl s st).lt 1
  · exact Lt.push (Le.refl _ _) _
theorem lt_close (a : Nat) : Lt s 1 st (xClose s st a) := Lt.push (le_name.trans (le_blank.trans (le_need _))) _
theorem Le.andLt (h : Le s st st') {k : Nat} (g : Lt s k st' st'') : Lt s k st st'' :=
  ⟨Nat.le_trans h.i g.i, fun x => g.ii (h.ii x), fun x => h.be (g.be x), fun x y => g.bat (h.ii x) (h.bat x y), by rw [← h.out]; exact g.out⟩
theorem lt_one : Lt s 1 st (xOne s st) := by
  unfold xOne
  split
  · exact (le_until _).lt 1
  · split
    · rename_i h
      have h1 : Le s st (xMove st 4) := le_pre (take_len h).1
      have h2 : Le s (xMove st 4) (xUntil s (xMove st 4) [45, 45]).1 := le_until _
      have h3 : st.i + 4 ≤ (xUntil s (xMove st 4) [45, 45]).1.i := h2.i
      exact (h1.trans (h2.trans (le_comm (by omega)))).lt 1
    · split
      · rename_i h
        have h1 : Le s st (xMove st 9) := le_pre (take_len h).1
        exact (h1.trans (le_until _)).andLt (lt_data _ _)
      · split
        · exact (le_fail _ _ id).lt 1
        · split
          · rename_i h
            have h1 : Le s st (xMove st 2) := le_pre (take_len h).1
            exact h1.andLt (lt_close _)
          · split
            · rename_i h
              have h1 : Le s st (xMove st 1) := le_pre (take_len h).1
              exact h1.andLt (lt_open _)
            · exact lt_text

theorem fail_be (a e : Nat) (he : e ≠ 0) : (xFail st a e).be ≠ 0 := by
  unfold xFail; split
  · exact he
  · assumption
theorem until_or (t : List UInt8) (ht : 0 < t.length) : (xUntil s st t).1.be ≠ 0 ∨ st.i < (xUntil s st t).1.i := by
  unfold xUntil
  split
  · right; show st.i < st.i + _; omega
  · left; exact fail_be _ _ (by decide)
theorem cutB_head {x q : UInt8} {r : List UInt8} (h : x ≠ q) : 0 < (cutB q (x :: r)).1.length := by
  unfold cutB; rw [if_neg h]; simp
/-- A step moves on, or something is wrong. -/
theorem one_or (h0 : st.be = 0) (hr : s.drop st.i ≠ []) : (xOne s st).be ≠ 0 ∨ st.i < (xOne s st).i := by
  unfold xOne
  split
  · exact until_or _ (by decide)
  · split
    · right
      have h2 : Le s (xMove st 4) (xUntil s (xMove st 4) [45, 45]).1 := le_until _
      have h3 : st.i + 4 ≤ (xUntil s (xMove st 4) [45, 45]).1.i := h2.i
      have := (le_comm (s := s) (st := (xUntil s (xMove st 4) [45, 45]).1) (by omega)).i
      omega
    · split
      · right
        have h2 : Le s (xMove st 9) (xUntil s (xMove st 9) [93, 93, 62]).1 := le_until _
        have h3 : st.i + 9 ≤ (xUntil s (xMove st 9) [93, 93, 62]).1.i := h2.i
        have := (lt_data (s := s) (st := (xUntil s (xMove st 9) [93, 93, 62]).1) st.i (linesL (xUntil s (xMove st 9) [93, 93, 62]).2)).i
        omega
      · split
        · left; exact fail_be _ _ (by decide)
        · split
          · right
            have h3 : st.i + 2 ≤ (xClose s (xMove st 2) st.i).i := (lt_close (s := s) (st := xMove st 2) st.i).i
            omega
          · split
            · right
              have h3 : st.i + 1 ≤ (xOpen s (xMove st 1) st.i).i := (lt_open (s := s) (st := xMove st 1) st.i).i
              omega
            · rename_i h6
              right
              cases hd : s.drop st.i with
              | nil => exact absurd hd hr
              | cons x r =>
                have hx : x ≠ 60 := by
                  intro e
                  apply h6
                  unfold xTake
                  rw [h0, hd, e]
                  simp [Lib.hasPrefix]
                have := cutB_head (r := r) hx
                unfold xText
                rw [hd]
                show st.i < (if (textE (cutB 60 (x :: r)).1).2 = 0 then st else xFail st (st.i + (textE (cutB 60 (x :: r)).1).1) (textE (cutB 60 (x :: r)).1).2).i + (cutB 60 (x :: r)).1.length
                have e2 : (if (textE (cutB 60 (x :: r)).1).2 = 0 then st else xFail st (st.i + (textE (cutB 60 (x :: r)).1).1) (textE (cutB 60 (x :: r)).1).2).i = st.i := by split; rfl; exact fail_i _ _
                omega

theorem loop_stop {f : Nat} (h : st.be ≠ 0 ∨ s.drop st.i = []) : xLoop s f st = st := by
  cases f with
  | zero => rfl
  | succ f => unfold xLoop; rw [if_pos h]
theorem loop_next {f : Nat} (hf : 0 < f) (h0 : st.be = 0) (hr : s.drop st.i ≠ []) : xLoop s f st = xLoop s (f - 1) (xOne s st) := by
  cases f with
  | zero => omega
  | succ f =>
    conv => lhs; unfold xLoop
    rw [if_neg (fun h => h.elim (fun h => h h0) hr)]
    rfl
end Go.Proofs.YtblhpkcdemefaaaGreatDoor
