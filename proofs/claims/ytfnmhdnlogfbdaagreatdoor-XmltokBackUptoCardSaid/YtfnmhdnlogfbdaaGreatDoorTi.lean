/- Plain law: a tag's bytes tell its token; unclosed they are too short. -/
import Derived.Test.YtfnmhdnlogfbdaaGreatDoorTh
set_option linter.unusedVariables false
set_option linter.unusedSimpArgs false
namespace Go.Proofs.YtfnmhdnlogfbdaaGreatDoor

theorem esc_chars : ∀ vs : List Nat, allFine vs → ∃ es, allFine es ∧ vs.flatMap (escB escV) = chars es
  | [], _ => ⟨[], allFine_nil, rfl⟩
  | c :: vs, h => by
    obtain ⟨es, he, hes⟩ := esc_chars vs (fun x hx => h x (List.mem_cons_of_mem _ hx))
    have hfc := h c List.mem_cons_self
    have key : ∃ ks, allFine ks ∧ escB escV c = chars ks := by
      by_cases hk : c = 38 ∨ c = 60 ∨ c = 62 ∨ c = 13 ∨ c = 34 ∨ c = 9 ∨ c = 10
      · rcases hk with rfl | rfl | rfl | rfl | rfl | rfl | rfl
        · exact ⟨[38, 97, 109, 112, 59], by unfold allFine; decide, by decide⟩
        · exact ⟨[38, 108, 116, 59], by unfold allFine; decide, by decide⟩
        · exact ⟨[38, 103, 116, 59], by unfold allFine; decide, by decide⟩
        · exact ⟨[38, 35, 49, 51, 59], by unfold allFine; decide, by decide⟩
        · exact ⟨[38, 113, 117, 111, 116, 59], by unfold allFine; decide, by decide⟩
        · exact ⟨[38, 35, 57, 59], by unfold allFine; decide, by decide⟩
        · exact ⟨[38, 35, 49, 48, 59], by unfold allFine; decide, by decide⟩
      · refine ⟨[c], fun x hx => by rw [List.mem_singleton] at hx; subst hx; exact hfc, ?_⟩
        have : escB escV c = put c := escB_none (by
          intro p hp
          simp only [escV, List.mem_cons, List.not_mem_nil, or_false] at hp
          rcases hp with rfl | rfl | rfl | rfl | rfl | rfl | rfl <;> (simp only []; omega))
        rw [this, chars_cons, chars_nil, List.append_nil]
    obtain ⟨ks, hk, hks⟩ := key
    refine ⟨ks ++ es, fun x hx => (List.mem_append.1 hx).elim (hk x) (he x), ?_⟩
    rw [List.flatMap_cons, chars_append, hks, hes]

theorem check_tag {cs ds vs tls : List Nat} (hc : NameCs cs) (hd : NameCs ds) (hv : allFine vs) (ht : allFine tls) : (checkL (tagH cs ds vs ++ chars tls)).2 = true := by
  obtain ⟨es, he, hes⟩ := esc_chars vs hv
  have hE : escL escV (chars vs) = chars es := by rw [escL_chars escV vs hv, hes]
  have hs : tagH cs ds vs ++ chars tls = chars ([60] ++ cs ++ [32] ++ ds ++ [61, 34] ++ es ++ [34] ++ tls) := by
    unfold tagH
    rw [hE]
    simp only [chars_append]
    have c1 : chars [60] = [60] := by decide
    have c2 : chars [32] = [32] := by decide
    have c3 : chars [61, 34] = [61, 34] := by decide
    have c4 : chars [34] = [34] := by decide
    rw [c1, c2, c3, c4]
    simp
  have hf : allFine ([60] ++ cs ++ [32] ++ ds ++ [61, 34] ++ es ++ [34] ++ tls) := by
    have k : ∀ l : List Nat, (∀ c ∈ l, fineB (c : Nat) = true) → allFine l := fun l h => h
    have app : ∀ a b : List Nat, allFine a → allFine b → allFine (a ++ b) := fun a b ha hb x hx => (List.mem_append.1 hx).elim (ha x) (hb x)
    exact app _ _ (app _ _ (app _ _ (app _ _ (app _ _ (app _ _ (app _ _ (by unfold allFine; decide) hc.1) (by unfold allFine; decide)) hd.1) (by unfold allFine; decide)) he) (by unfold allFine; decide)) ht
  rw [hs, checkL_chars _ hf]

section
variable {cs ds vs : List Nat} (hc : NameCs cs) (hsc : splitB (chars cs) = true) (hd : NameCs ds) (hsd : splitB (chars ds) = true) (hv : allFine vs)

theorem tok_of {s : List UInt8} {st : St} (hl : s.length ≤ 16777216) (hck : (checkL s).2 = true) (h0 : s ≠ []) (h1 : xOne s ⟨0, 0, 0, []⟩ = st) (h2 : st.be ≠ 0 ∨ s.drop st.i = []) :
    tokL s = if st.be ≠ 0 then ([], st.bat, st.be) else (st.out, s.length, 0) := by
  have hA : xAll s = st := by
    unfold xAll
    rw [loop_next (s := s) (st := ⟨0, 0, 0, []⟩) (Nat.succ_pos _) rfl (by simp only [List.drop_zero]; exact h0), h1]
    exact loop_stop h2
  unfold tokL
  rw [if_neg (by omega), if_neg (by rw [hck]; decide), hA]

theorem blank_nil : blankN [] = 0 := rfl
theorem xBlank_same {s : List UInt8} {st : St} (h : blankN (s.drop st.i) = 0) : xBlank s st = st := by
  unfold xBlank xMove; rw [h]; rfl

include hc hsc hd hsd hv
/-- Closed by >. -/
theorem tok_gt (hl : (tagH cs ds vs).length ≤ 10000000) : tokL (tagH cs ds vs ++ [62]) = ([⟨0, 0, chars cs, [⟨chars ds, chars vs, 1 + (chars cs).length + 1⟩]⟩], (tagH cs ds vs).length + 1, 0) := by
  have hck : (checkL (tagH cs ds vs ++ [62])).2 = true := by have := check_tag (tls := [62]) hc hd hv (by unfold allFine; decide); rw [show chars [62] = [62] from by decide] at this; exact this
  have hlen : (tagH cs ds vs ++ [62]).length = (tagH cs ds vs).length + 1 := by simp
  have hB : xBlank (tagH cs ds vs ++ [62]) ⟨(tagH cs ds vs).length, 0, 0, []⟩ = ⟨(tagH cs ds vs).length, 0, 0, []⟩ := xBlank_same (by rw [d7]; exact blank_head (by decide))
  have hA := attrs_gt (s := tagH cs ds vs ++ [62]) (f := (tagH cs ds vs ++ [62]).length) (st := ⟨(tagH cs ds vs).length, 0, 0, []⟩) (l := [⟨chars ds, chars vs, 1 + (chars cs).length + 1⟩]) rfl (by omega) (Or.inl (by rw [hB, d7]; rfl))
  have hO := open_at (tl := [62]) hc hsc hd hsd hv
  rw [hA, hB] at hO
  have hX : xOpenB (tagH cs ds vs ++ [62]) ⟨(tagH cs ds vs).length, 0, 0, []⟩ 0 (chars cs) [⟨chars ds, chars vs, 1 + (chars cs).length + 1⟩] = ⟨(tagH cs ds vs).length + 1, 0, 0, [⟨0, 0, chars cs, [⟨chars ds, chars vs, 1 + (chars cs).length + 1⟩]⟩]⟩ := by
    unfold xOpenB xNeed xTake
    simp only []
    rw [d7]
    rfl
  simp only [] at hO
  rw [hX] at hO
  rw [tok_of (by omega) hck (by simp [tagH]) hO (Or.inr (by simp only []; rw [List.drop_eq_nil_of_le (by omega)]))]
  rw [if_neg (fun h => h rfl), hlen]

/-- Closed by />. -/
theorem tok_sl (hl : (tagH cs ds vs).length ≤ 10000000) : tokL (tagH cs ds vs ++ [47, 62]) = ([⟨2, 0, chars cs, [⟨chars ds, chars vs, 1 + (chars cs).length + 1⟩]⟩], (tagH cs ds vs).length + 2, 0) := by
  have hck : (checkL (tagH cs ds vs ++ [47, 62])).2 = true := by have := check_tag (tls := [47, 62]) hc hd hv (by unfold allFine; decide); rw [show chars [47, 62] = [47, 62] from by decide] at this; exact this
  have hlen : (tagH cs ds vs ++ [47, 62]).length = (tagH cs ds vs).length + 2 := by simp
  have hB : xBlank (tagH cs ds vs ++ [47, 62]) ⟨(tagH cs ds vs).length, 0, 0, []⟩ = ⟨(tagH cs ds vs).length, 0, 0, []⟩ := xBlank_same (by rw [d7]; exact blank_head (by decide))
  have hA := attrs_gt (s := tagH cs ds vs ++ [47, 62]) (f := (tagH cs ds vs ++ [47, 62]).length) (st := ⟨(tagH cs ds vs).length, 0, 0, []⟩) (l := [⟨chars ds, chars vs, 1 + (chars cs).length + 1⟩]) rfl (by omega) (Or.inr (by rw [hB, d7]; rfl))
  have hO := open_at (tl := [47, 62]) hc hsc hd hsd hv
  rw [hA, hB] at hO
  have h8 : (tagH cs ds vs ++ [47, 62]).drop ((tagH cs ds vs).length + 1) = [62] := by rw [← List.drop_drop, d7]; rfl
  have hX : xOpenB (tagH cs ds vs ++ [47, 62]) ⟨(tagH cs ds vs).length, 0, 0, []⟩ 0 (chars cs) [⟨chars ds, chars vs, 1 + (chars cs).length + 1⟩] = ⟨(tagH cs ds vs).length + 2, 0, 0, [⟨2, 0, chars cs, [⟨chars ds, chars vs, 1 + (chars cs).length + 1⟩]⟩]⟩ := by
    unfold xOpenB xNeed xTake xMove
    simp only []
    rw [d7, h8]
    rfl
  simp only [] at hO
  rw [hX] at hO
  rw [tok_of (by omega) hck (by simp [tagH]) hO (Or.inr (by simp only []; rw [List.drop_eq_nil_of_le (by omega)]))]
  rw [if_neg (fun h => h rfl), hlen]

/-- Unclosed, behind the attribute. -/
theorem tok_no (hl : (tagH cs ds vs).length ≤ 10000000) : tokL (tagH cs ds vs) = ([], (tagH cs ds vs).length, 10) := by
  have e : tagH cs ds vs = tagH cs ds vs ++ [] := (List.append_nil _).symm
  have hck : (checkL (tagH cs ds vs ++ [])).2 = true := check_tag (tls := []) hc hd hv allFine_nil
  have hlen : (tagH cs ds vs ++ []).length = (tagH cs ds vs).length := by simp
  have hB : xBlank (tagH cs ds vs ++ []) ⟨(tagH cs ds vs).length, 0, 0, []⟩ = ⟨(tagH cs ds vs).length, 0, 0, []⟩ := xBlank_same (by rw [d7]; rfl)
  have hpos : 0 < (tagH cs ds vs).length := by rw [tag_len]; omega
  have hA := attrs_miss (s := tagH cs ds vs ++ []) (f := (tagH cs ds vs ++ []).length) (st := ⟨(tagH cs ds vs).length, 0, 0, []⟩) (l := [⟨chars ds, chars vs, 1 + (chars cs).length + 1⟩]) rfl (by omega) (by rw [hB, d7]; rfl) (by rw [hB, d7]; rfl) (by rw [d7]; rfl)
  have hO := open_at (tl := []) hc hsc hd hsd hv
  rw [hA, hB] at hO
  have hM : xMiss (tagH cs ds vs ++ []) ⟨(tagH cs ds vs).length, 0, 0, []⟩ = ⟨(tagH cs ds vs).length, (tagH cs ds vs).length, 10, []⟩ := by
    unfold xMiss xFail
    simp only []
    rw [d7, hlen]
    simp
  have hX : xOpenB (tagH cs ds vs ++ []) ⟨(tagH cs ds vs).length, (tagH cs ds vs).length, 10, []⟩ 0 (chars cs) [⟨chars ds, chars vs, 1 + (chars cs).length + 1⟩] = ⟨(tagH cs ds vs).length, (tagH cs ds vs).length, 10, [⟨0, 0, chars cs, [⟨chars ds, chars vs, 1 + (chars cs).length + 1⟩]⟩]⟩ := by
    unfold xOpenB xNeed xTake xMiss xFail
    simp only []
    rw [d7]
    rfl
  simp only [] at hO
  rw [hM, hX] at hO
  rw [show tokL (tagH cs ds vs) = tokL (tagH cs ds vs ++ []) from by rw [← e]]
  rw [tok_of (by omega) hck (by simp [tagH]) hO (Or.inl (by show (10 : Nat) ≠ 0; decide))]
  rw [if_pos (by show (10 : Nat) ≠ 0; decide)]

/-- Unclosed, behind the slash. -/
theorem tok_ns (hl : (tagH cs ds vs).length ≤ 10000000) : tokL (tagH cs ds vs ++ [47]) = ([], (tagH cs ds vs).length + 1, 10) := by
  have hck : (checkL (tagH cs ds vs ++ [47])).2 = true := by have := check_tag (tls := [47]) hc hd hv (by unfold allFine; decide); rw [show chars [47] = [47] from by decide] at this; exact this
  have hlen : (tagH cs ds vs ++ [47]).length = (tagH cs ds vs).length + 1 := by simp
  have hB : xBlank (tagH cs ds vs ++ [47]) ⟨(tagH cs ds vs).length, 0, 0, []⟩ = ⟨(tagH cs ds vs).length, 0, 0, []⟩ := xBlank_same (by rw [d7]; exact blank_head (by decide))
  have hA := attrs_gt (s := tagH cs ds vs ++ [47]) (f := (tagH cs ds vs ++ [47]).length) (st := ⟨(tagH cs ds vs).length, 0, 0, []⟩) (l := [⟨chars ds, chars vs, 1 + (chars cs).length + 1⟩]) rfl (by omega) (Or.inr (by rw [hB, d7]; rfl))
  have hO := open_at (tl := [47]) hc hsc hd hsd hv
  rw [hA, hB] at hO
  have h8 : (tagH cs ds vs ++ [47]).drop ((tagH cs ds vs).length + 1) = [] := List.drop_eq_nil_of_le (by omega)
  have hX : xOpenB (tagH cs ds vs ++ [47]) ⟨(tagH cs ds vs).length, 0, 0, []⟩ 0 (chars cs) [⟨chars ds, chars vs, 1 + (chars cs).length + 1⟩] = ⟨(tagH cs ds vs).length + 1, (tagH cs ds vs).length + 1, 10, [⟨2, 0, chars cs, [⟨chars ds, chars vs, 1 + (chars cs).length + 1⟩]⟩]⟩ := by
    unfold xOpenB xNeed xTake xMove xMiss xFail
    simp only []
    rw [d7, h8, hlen]
    rfl
  simp only [] at hO
  rw [hX] at hO
  rw [tok_of (by omega) hck (by simp [tagH]) hO (Or.inl (by show (10 : Nat) ≠ 0; decide))]
  rw [if_pos (by show (10 : Nat) ≠ 0; decide)]
end

/-- No <![CDATA[ stands in a tag's bytes. -/
theorem tag_free {cs ds vs : List Nat} {tl : List UInt8} (hc : NameCs cs) (hd : NameCs ds) (hv : allFine vs) (ht : ∀ b ∈ tl, b ≠ 60) : ∀ i, Lib.hasPrefix ((tagH cs ds vs ++ tl).drop i) [60, 33, 91, 67, 68, 65, 84, 65, 91] = false := by
  obtain ⟨b, r, hb, hh⟩ := name_head hc
  have hne := headB_ne hh
  intro i
  cases i with
  | zero =>
    rw [List.drop_zero, tag_eq, hb]
    have := pre1 (b := b) (x := 33) (r := r ++ 32 :: (chars ds ++ 61 :: 34 :: (escL escV (chars vs) ++ 34 :: tl))) (t := [91, 67, 68, 65, 84, 65, 91]) hne.2.2.2.1
    unfold Lib.hasPrefix at this ⊢
    simpa [List.isPrefixOf] using this
  | succ i =>
    have h60 : ∀ x ∈ (tagH cs ds vs ++ tl).drop (i + 1), x ≠ 60 := by
      intro x hx
      have hx' : x ∈ chars cs ++ 32 :: (chars ds ++ 61 :: 34 :: (escL escV (chars vs) ++ 34 :: tl)) := by
        rw [tag_eq, List.drop_succ_cons] at hx
        exact List.mem_of_mem_drop hx
      have n1 := chars_no 60 (by decide) cs hc.1 (name_not 60 (by decide) hc)
      have n2 := chars_no 60 (by decide) ds hd.1 (name_not 60 (by decide) hd)
      have n3 := escL_no 60 (Or.inr rfl) vs hv
      simp only [List.mem_append, List.mem_cons] at hx'
      rcases hx' with h | rfl | h | rfl | rfl | h | rfl | h
      · exact n1 x h
      · decide
      · exact n2 x h
      · decide
      · decide
      · exact n3 x h
      · decide
      · exact ht x h
    cases hd' : (tagH cs ds vs ++ tl).drop (i + 1) with
    | nil => rfl
    | cons x r' =>
      rw [hd'] at h60
      have := h60 x List.mem_cons_self
      exact pre1 (fun e => this (UInt8.toNat_inj.1 e))
end Go.Proofs.YtfnmhdnlogfbdaaGreatDoor
