/- Plain law: a tag's bytes tell its token; unclosed they are too short. -/
import Derived.Test.YtfnmhdnlogfbdaaGreatDoorTg
set_option linter.unusedVariables false
set_option linter.unusedSimpArgs false
namespace Go.Proofs.YtfnmhdnlogfbdaaGreatDoor

theorem nm32 (r : List UInt8) : nameB (Lib.decodeL (32 :: r)).1 = false := by rw [dec_ascii 32 r (by decide)]; decide
theorem nm61 (r : List UInt8) : nameB (Lib.decodeL (61 :: r)).1 = false := by rw [dec_ascii 61 r (by decide)]; decide

theorem xName_at {s : List UInt8} {st : St} {cs : List Nat} {r : List UInt8} (h0 : st.be = 0) (hd : s.drop st.i = chars cs ++ r) (hc : NameCs cs) (hs : splitB (chars cs) = true) (hr : r ≠ [] → nameB (Lib.decodeL r).1 = false) :
    xName s st = (xMove st (chars cs).length, chars cs) := by
  unfold xName
  rw [if_neg (by omega), hd, nameL_chars cs r hc hr]
  obtain ⟨b, t, hb, _⟩ := name_head hc
  rw [if_neg (by rw [hb]; simp), if_pos hs]

section
variable {cs ds vs : List Nat} {tl : List UInt8}

theorem tag_eq : tagH cs ds vs ++ tl = 60 :: (chars cs ++ 32 :: (chars ds ++ 61 :: 34 :: (escL escV (chars vs) ++ 34 :: tl))) := by
  unfold tagH; simp
theorem tag_len : (tagH cs ds vs).length = (chars cs).length + (chars ds).length + (escL escV (chars vs)).length + 5 := by
  unfold tagH; simp; omega
theorem d1 : (tagH cs ds vs ++ tl).drop 1 = chars cs ++ 32 :: (chars ds ++ 61 :: 34 :: (escL escV (chars vs) ++ 34 :: tl)) := by rw [tag_eq]; rfl
theorem d2 : (tagH cs ds vs ++ tl).drop (1 + (chars cs).length) = 32 :: (chars ds ++ 61 :: 34 :: (escL escV (chars vs) ++ 34 :: tl)) := by
  rw [← List.drop_drop, d1]; exact drop_app rfl
theorem d3 : (tagH cs ds vs ++ tl).drop (1 + (chars cs).length + 1) = chars ds ++ 61 :: 34 :: (escL escV (chars vs) ++ 34 :: tl) := by
  rw [← List.drop_drop, d2]; rfl
theorem d4 : (tagH cs ds vs ++ tl).drop (1 + (chars cs).length + 1 + (chars ds).length) = 61 :: 34 :: (escL escV (chars vs) ++ 34 :: tl) := by
  rw [← List.drop_drop, d3]; exact drop_app rfl
theorem d5 : (tagH cs ds vs ++ tl).drop (1 + (chars cs).length + 1 + (chars ds).length + 1) = 34 :: (escL escV (chars vs) ++ 34 :: tl) := by
  rw [← List.drop_drop, d4]; rfl
theorem d6 : (tagH cs ds vs ++ tl).drop (1 + (chars cs).length + 1 + (chars ds).length + 1 + 1) = escL escV (chars vs) ++ 34 :: tl := by
  rw [← List.drop_drop, d5]; rfl
theorem d7 : (tagH cs ds vs ++ tl).drop (tagH cs ds vs).length = tl := drop_app rfl

/-- The place behind the attribute. -/
theorem tag_pos : 1 + (chars cs).length + 1 + (chars ds).length + 1 + 1 + ((escL escV (chars vs)).length + 1) = (tagH cs ds vs).length := by rw [tag_len]; omega

theorem attr_at (hd : NameCs ds) (hsd : splitB (chars ds) = true) (hv : allFine vs) :
    xAttr (tagH cs ds vs ++ tl) ⟨1 + (chars cs).length + 1, 0, 0, []⟩ [] = (⟨(tagH cs ds vs).length, 0, 0, []⟩, ⟨chars ds, chars vs, 1 + (chars cs).length + 1⟩) := by
  have hN : xName (tagH cs ds vs ++ tl) ⟨1 + (chars cs).length + 1, 0, 0, []⟩ = (⟨1 + (chars cs).length + 1 + (chars ds).length, 0, 0, []⟩, chars ds) :=
    xName_at (st := ⟨1 + (chars cs).length + 1, 0, 0, []⟩) rfl d3 hd hsd (fun _ => nm61 _)
  have hB1 : xBlank (tagH cs ds vs ++ tl) ⟨1 + (chars cs).length + 1 + (chars ds).length, 0, 0, []⟩ = ⟨1 + (chars cs).length + 1 + (chars ds).length, 0, 0, []⟩ := by
    unfold xBlank
    simp only []
    rw [d4, blank_head (by decide)]
    rfl
  have hN1 : xNeed (tagH cs ds vs ++ tl) ⟨1 + (chars cs).length + 1 + (chars ds).length, 0, 0, []⟩ [61] = ⟨1 + (chars cs).length + 1 + (chars ds).length + 1, 0, 0, []⟩ := by
    unfold xNeed xTake
    simp only []
    rw [d4]
    rfl
  have hB2 : xBlank (tagH cs ds vs ++ tl) ⟨1 + (chars cs).length + 1 + (chars ds).length + 1, 0, 0, []⟩ = ⟨1 + (chars cs).length + 1 + (chars ds).length + 1, 0, 0, []⟩ := by
    unfold xBlank
    simp only []
    rw [d5, blank_head (by decide)]
    rfl
  have hcut : cutB 34 (escL escV (chars vs) ++ 34 :: tl) = (escL escV (chars vs), tl, true) := cutB_no 34 _ _ (escL_no 34 (Or.inl rfl) vs hv)
  have hV : xValue (tagH cs ds vs ++ tl) ⟨1 + (chars cs).length + 1 + (chars ds).length + 1, 0, 0, []⟩ = (⟨(tagH cs ds vs).length, 0, 0, []⟩, chars vs) := by
    unfold xValue
    rw [if_neg (fun h => h rfl)]
    simp only []
    rw [d5, if_pos (by rfl)]
    unfold xValueIn xUntil xMove
    simp only []
    rw [d6, hcut]
    simp only []
    rw [back_V vs hv]
    simp only [if_true]
    rw [d6, cut_cutB, hcut]
    simp only [if_true]
    rw [show [(34 : UInt8)].length = 1 from rfl, tag_pos]
  rw [show xAttr (tagH cs ds vs ++ tl) ⟨1 + (chars cs).length + 1, 0, 0, []⟩ [] = ((xAttrB (tagH cs ds vs ++ tl) (xTwice (xName (tagH cs ds vs ++ tl) ⟨1 + (chars cs).length + 1, 0, 0, []⟩).1 (1 + (chars cs).length + 1) (xName (tagH cs ds vs ++ tl) ⟨1 + (chars cs).length + 1, 0, 0, []⟩).2 [])).1, ⟨(xName (tagH cs ds vs ++ tl) ⟨1 + (chars cs).length + 1, 0, 0, []⟩).2, (xAttrB (tagH cs ds vs ++ tl) (xTwice (xName (tagH cs ds vs ++ tl) ⟨1 + (chars cs).length + 1, 0, 0, []⟩).1 (1 + (chars cs).length + 1) (xName (tagH cs ds vs ++ tl) ⟨1 + (chars cs).length + 1, 0, 0, []⟩).2 [])).2, 1 + (chars cs).length + 1⟩) from rfl]
  rw [hN]
  have hT : xTwice ⟨1 + (chars cs).length + 1 + (chars ds).length, 0, 0, []⟩ (1 + (chars cs).length + 1) (chars ds) [] = ⟨1 + (chars cs).length + 1 + (chars ds).length, 0, 0, []⟩ := rfl
  simp only []
  rw [hT]
  unfold xAttrB
  rw [hB1, hN1, hB2, hV]

theorem attrs_at (hc : NameCs cs) (hd : NameCs ds) (hsd : splitB (chars ds) = true) (hv : allFine vs) (f : Nat) :
    xAttrs (tagH cs ds vs ++ tl) (f + 1) ⟨1 + (chars cs).length, 0, 0, []⟩ [] = xAttrs (tagH cs ds vs ++ tl) f ⟨(tagH cs ds vs).length, 0, 0, []⟩ [⟨chars ds, chars vs, 1 + (chars cs).length + 1⟩] := by
  obtain ⟨b, r, hb, hh⟩ := name_head hd
  have hne := headB_ne hh
  have hbl : blankN ((tagH cs ds vs ++ tl).drop (1 + (chars cs).length)) = 1 := by
    rw [d2, hb, List.cons_append]; exact blank_one hne.1
  have hB : xBlank (tagH cs ds vs ++ tl) ⟨1 + (chars cs).length, 0, 0, []⟩ = ⟨1 + (chars cs).length + 1, 0, 0, []⟩ := by
    unfold xBlank xMove; simp only []; rw [hbl]
  have h3 : (tagH cs ds vs ++ tl).drop (1 + (chars cs).length + 1) = b :: (r ++ 61 :: 34 :: (escL escV (chars vs) ++ 34 :: tl)) := by rw [d3, hb]; rfl
  rw [attrs_next rfl (Nat.succ_pos f) (by rw [hB]; simp only []; rw [h3]; exact pre1 hne.2.1) (by rw [hB]; simp only []; rw [h3]; exact pre1 hne.2.2.1) (by simp only []; rw [hbl]; decide)]
  rw [hB, attr_at hd hsd hv]
  rfl

theorem open_at (hc : NameCs cs) (hsc : splitB (chars cs) = true) (hd : NameCs ds) (hsd : splitB (chars ds) = true) (hv : allFine vs) :
    xOne (tagH cs ds vs ++ tl) ⟨0, 0, 0, []⟩ = xOpenB (tagH cs ds vs ++ tl) (xAttrs (tagH cs ds vs ++ tl) (tagH cs ds vs ++ tl).length ⟨(tagH cs ds vs).length, 0, 0, []⟩ [⟨chars ds, chars vs, 1 + (chars cs).length + 1⟩]).1 0 (chars cs) (xAttrs (tagH cs ds vs ++ tl) (tagH cs ds vs ++ tl).length ⟨(tagH cs ds vs).length, 0, 0, []⟩ [⟨chars ds, chars vs, 1 + (chars cs).length + 1⟩]).2 := by
  obtain ⟨b, r, hb, hh⟩ := name_head hc
  have hne := headB_ne hh
  have h0 : (tagH cs ds vs ++ tl).drop 0 = 60 :: b :: (r ++ 32 :: (chars ds ++ 61 :: 34 :: (escL escV (chars vs) ++ 34 :: tl))) := by rw [List.drop_zero, tag_eq, hb]; rfl
  have hp : ∀ (x : UInt8) (t : List UInt8), b.toNat ≠ x.toNat → Lib.hasPrefix ((tagH cs ds vs ++ tl).drop 0) (60 :: x :: t) = false := by
    intro x t hx
    rw [h0]
    have := pre1 (b := b) (x := x) (r := r ++ 32 :: (chars ds ++ 61 :: 34 :: (escL escV (chars vs) ++ 34 :: tl))) (t := t) hx
    unfold Lib.hasPrefix at this ⊢
    simpa [List.isPrefixOf] using this
  have hD : isDecl (tagH cs ds vs ++ tl) ⟨0, 0, 0, []⟩ = false := by unfold isDecl; simp only []; rw [hp 63 _ hne.2.2.2.2]; rfl
  have hT : ∀ (x : UInt8) (t : List UInt8), b.toNat ≠ x.toNat → xTake (tagH cs ds vs ++ tl) ⟨0, 0, 0, []⟩ (60 :: x :: t) = false := by
    intro x t hx; unfold xTake; simp only []; rw [hp x t hx, Bool.and_false]
  have hO : xTake (tagH cs ds vs ++ tl) ⟨0, 0, 0, []⟩ [60] = true := by unfold xTake; simp only []; rw [h0]; rfl
  unfold xOne
  rw [hD, hT 33 _ hne.2.2.2.1, hT 33 _ hne.2.2.2.1, hT 47 _ hne.2.2.1, hO]
  simp only [Bool.false_eq_true, if_false, if_true]
  rw [hp 33 _ hne.2.2.2.1, hp 63 _ hne.2.2.2.2]
  simp only [Bool.false_eq_true, or_self, if_false]
  have hN : xName (tagH cs ds vs ++ tl) (xMove ⟨0, 0, 0, []⟩ 1) = (⟨1 + (chars cs).length, 0, 0, []⟩, chars cs) := by
    have := xName_at (s := tagH cs ds vs ++ tl) (st := ⟨1, 0, 0, []⟩) rfl d1 hc hsc (fun _ => nm32 _)
    exact this
  unfold xOpen
  rw [hN]
  simp only []
  rw [attrs_at hc hd hsd hv]

end
end Go.Proofs.YtfnmhdnlogfbdaaGreatDoor
