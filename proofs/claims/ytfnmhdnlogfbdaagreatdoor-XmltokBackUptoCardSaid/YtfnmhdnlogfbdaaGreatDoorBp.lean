/- Plain law: what is written is read as it was: names, attributes, tags anywhere in a text. -/
import Derived.Test.YtfnmhdnlogfbdaaGreatDoorBkw
set_option linter.unusedVariables false
set_option linter.unusedSimpArgs false
namespace Go.Proofs.YtfnmhdnlogfbdaaGreatDoor

theorem drop_add {s a b : List UInt8} {i n : Nat} (h : s.drop i = a ++ b) (hn : n = a.length) : s.drop (i + n) = b := by
  rw [← List.drop_drop, h]; exact drop_app hn

theorem blank_at {s : List UInt8} {st : St} {x : UInt8} {r : List UInt8} (hd : s.drop st.i = x :: r) (hx : x.toNat ≠ 32 ∧ x.toNat ≠ 9 ∧ x.toNat ≠ 13 ∧ x.toNat ≠ 10) : xBlank s st = st :=
  xBlank_same (by rw [hd]; exact blank_head hx)

theorem need_at {s : List UInt8} {i bat : Nat} {out : List Tk} {x : UInt8} {r : List UInt8} (hd : s.drop i = x :: r) : xNeed s ⟨i, bat, 0, out⟩ [x] = ⟨i + 1, bat, 0, out⟩ := by
  unfold xNeed xTake
  simp only []
  rw [hd]
  simp [Lib.hasPrefix, xMove]

/-- A value in quotes is read. -/
theorem value_at {s : List UInt8} {i bat : Nat} {out : List Tk} {vs : List Nat} {r : List UInt8} (hv : allFine vs) (hd : s.drop i = 34 :: (escL escV (chars vs) ++ 34 :: r)) :
    xValue s ⟨i, bat, 0, out⟩ = (⟨i + ((escL escV (chars vs)).length + 2), bat, 0, out⟩, chars vs) := by
  have hcut : cutB 34 (escL escV (chars vs) ++ 34 :: r) = (escL escV (chars vs), r, true) := cutB_no 34 _ _ (escL_no 34 (Or.inl rfl) vs hv)
  have hd1 : s.drop (i + 1) = escL escV (chars vs) ++ 34 :: r := by rw [← List.drop_drop, hd]; rfl
  unfold xValue
  rw [if_neg (fun h => h rfl)]
  simp only []
  rw [hd, if_pos (by rfl)]
  unfold xValueIn xUntil xMove
  simp only []
  rw [hd1, hcut]
  simp only []
  rw [back_V vs hv]
  simp only [if_true]
  rw [hd1, cut_cutB, hcut]
  simp only [if_true]
  rw [show [(34 : UInt8)].length = 1 from rfl, show i + 1 + ((escL escV (chars vs)).length + 1) = i + ((escL escV (chars vs)).length + 2) from by omega]

/-- An attribute is read, behind its blank. -/
theorem attr_gen {s : List UInt8} {i bat : Nat} {out : List Tk} {ds vs : List Nat} {r : List UInt8} {ps : List PrA} (hd : NameCs ds) (hsd : splitB (chars ds) = true) (hv : allFine vs)
    (hno : ps.any (fun q => q.name == chars ds) = false) (hs : s.drop i = chars ds ++ 61 :: 34 :: (escL escV (chars vs) ++ 34 :: r)) :
    xAttr s ⟨i, bat, 0, out⟩ ps = (⟨i + (chars ds).length + ((escL escV (chars vs)).length + 3), bat, 0, out⟩, ⟨chars ds, chars vs, i⟩) := by
  have hN : xName s ⟨i, bat, 0, out⟩ = (⟨i + (chars ds).length, bat, 0, out⟩, chars ds) := xName_at (st := ⟨i, bat, 0, out⟩) rfl hs hd hsd (fun _ => nm61 _)
  have h4 : s.drop (i + (chars ds).length) = 61 :: 34 :: (escL escV (chars vs) ++ 34 :: r) := drop_add hs rfl
  have h5 : s.drop (i + (chars ds).length + 1) = 34 :: (escL escV (chars vs) ++ 34 :: r) := by rw [← List.drop_drop, h4]; rfl
  have hB1 : xBlank s ⟨i + (chars ds).length, bat, 0, out⟩ = ⟨i + (chars ds).length, bat, 0, out⟩ := blank_at h4 (by decide)
  have hN1 : xNeed s ⟨i + (chars ds).length, bat, 0, out⟩ [61] = ⟨i + (chars ds).length + 1, bat, 0, out⟩ := need_at h4
  have hB2 : xBlank s ⟨i + (chars ds).length + 1, bat, 0, out⟩ = ⟨i + (chars ds).length + 1, bat, 0, out⟩ := blank_at h5 (by decide)
  have hV := value_at (bat := bat) (out := out) hv h5
  rw [show xAttr s ⟨i, bat, 0, out⟩ ps = ((xAttrB s (xTwice (xName s ⟨i, bat, 0, out⟩).1 i (xName s ⟨i, bat, 0, out⟩).2 ps)).1, ⟨(xName s ⟨i, bat, 0, out⟩).2, (xAttrB s (xTwice (xName s ⟨i, bat, 0, out⟩).1 i (xName s ⟨i, bat, 0, out⟩).2 ps)).2, i⟩) from rfl]
  rw [hN]
  have hT : xTwice ⟨i + (chars ds).length, bat, 0, out⟩ i (chars ds) ps = ⟨i + (chars ds).length, bat, 0, out⟩ := by
    unfold xTwice
    rw [hno, Bool.and_false]
    rfl
  simp only []
  rw [hT]
  unfold xAttrB
  rw [hB1, hN1, hB2, hV]
  simp only []
  rw [show i + (chars ds).length + 1 + ((escL escV (chars vs)).length + 2) = i + (chars ds).length + ((escL escV (chars vs)).length + 3) from by omega]

/-- One round of a tag's attributes. -/
theorem attrs_gen {s : List UInt8} {i bat : Nat} {out : List Tk} {ds vs : List Nat} {r : List UInt8} {ps : List PrA} (f : Nat) (hd : NameCs ds) (hsd : splitB (chars ds) = true) (hv : allFine vs)
    (hno : ps.any (fun q => q.name == chars ds) = false) (hs : s.drop i = 32 :: (chars ds ++ 61 :: 34 :: (escL escV (chars vs) ++ 34 :: r))) :
    xAttrs s (f + 1) ⟨i, bat, 0, out⟩ ps = xAttrs s f ⟨i + (chars ds).length + ((escL escV (chars vs)).length + 4), bat, 0, out⟩ (ps ++ [⟨chars ds, chars vs, i + 1⟩]) := by
  obtain ⟨b, t, hb, hh⟩ := name_head hd
  have hne := headB_ne hh
  have hbl : blankN (s.drop i) = 1 := by rw [hs, hb, List.cons_append]; exact blank_one hne.1
  have hB : xBlank s ⟨i, bat, 0, out⟩ = ⟨i + 1, bat, 0, out⟩ := by unfold xBlank xMove; simp only []; rw [hbl]
  have h3 : s.drop (i + 1) = chars ds ++ 61 :: 34 :: (escL escV (chars vs) ++ 34 :: r) := by rw [← List.drop_drop, hs]; rfl
  have h3' : s.drop (i + 1) = b :: (t ++ 61 :: 34 :: (escL escV (chars vs) ++ 34 :: r)) := by rw [h3, hb]; rfl
  rw [attrs_next rfl (Nat.succ_pos f) (by rw [hB]; simp only []; rw [h3']; exact pre1 hne.2.1) (by rw [hB]; simp only []; rw [h3']; exact pre1 hne.2.2.1) (by simp only []; rw [hbl]; decide)]
  rw [hB, attr_gen hd hsd hv hno h3]
  simp only [Nat.add_sub_cancel]
  rw [show i + 1 + (chars ds).length + ((escL escV (chars vs)).length + 3) = i + (chars ds).length + ((escL escV (chars vs)).length + 4) from by omega]
  rfl

theorem attrW_eq {xa : Int} {ds vs : List Nat} {r : List UInt8} : attrW ⟨xa, chars ds, chars vs⟩ ++ r = 32 :: (chars ds ++ 61 :: 34 :: (escL escV (chars vs) ++ 34 :: r)) := by unfold attrW; simp
theorem attrW_len {xa : Int} {ds vs : List Nat} : (attrW ⟨xa, chars ds, chars vs⟩).length = (chars ds).length + ((escL escV (chars vs)).length + 4) := by unfold attrW; simp; omega

/-- The bytes of attributes, one behind another. -/
def attrsW (ps : List RP) : List UInt8 := ps.flatMap attrW
/-- Attributes that may be written behind others. -/
def AttrsOk : List RP → List RP → Prop
  | [], _ => True
  | p :: r, seen => attrE seen p = 0 ∧ AttrsOk r (seen ++ [p])
theorem attrsGo_ok : ∀ (ps seen : List RP) (acc : List UInt8), (attrsGo ps seen acc).2 = 0 → AttrsOk ps seen ∧ (attrsGo ps seen acc).1 = acc ++ attrsW ps
  | [], seen, acc, _ => ⟨trivial, by simp [attrsGo, attrsW]⟩
  | p :: r, seen, acc, h => by
    unfold attrsGo at h ⊢
    by_cases he : attrE seen p = 0
    · rw [if_pos he] at h ⊢
      obtain ⟨h1, h2⟩ := attrsGo_ok r _ _ h
      exact ⟨⟨he, h1⟩, by rw [h2]; simp [attrsW]⟩
    · rw [if_neg he] at h
      exact absurd h he
theorem attrE_ok {seen : List RP} {p : RP} (h : attrE seen p = 0) : splitB p.name = true ∧ seen.any (fun q => q.name == p.name) = false ∧ (checkL p.value).2 = true := by
  unfold attrE at h
  split at h
  · exact absurd h (by decide)
  · split at h
    · exact absurd h (by decide)
    · split at h
      · exact absurd h (by decide)
      · rename_i a b c
        exact ⟨by simpa using a, by simpa using b, by simpa using c⟩

/-- A tag's attributes are read, all of them, and their places. -/
theorem attrs_all : ∀ (rs seen : List RP) (ps : List PrA) (s : List UInt8) (i bat : Nat) (out : List Tk) (f : Nat) (r : List UInt8), AttrsOk rs seen → ps.map (fun q => (q.name, q.value)) = seen.map (fun q => (q.name, q.value)) → s.drop i = attrsW rs ++ r →
    ∃ qs : List PrA, qs.map (fun q => (q.name, q.value)) = rs.map (fun q => (q.name, q.value)) ∧ xAttrs s (f + rs.length) ⟨i, bat, 0, out⟩ ps = xAttrs s f ⟨i + (attrsW rs).length, bat, 0, out⟩ (ps ++ qs)
  | [], seen, ps, s, i, bat, out, f, r, _, _, _ => ⟨[], rfl, by rw [List.append_nil]; rfl⟩
  | p :: rs, seen, ps, s, i, bat, out, f, r, ho, hps, hs => by
    obtain ⟨he, ho'⟩ := ho
    obtain ⟨h1, h2, h3⟩ := attrE_ok he
    obtain ⟨xa, xn, xv⟩ := p
    simp only [] at h1 h2 h3
    obtain ⟨ds, rfl, hds⟩ := split_chars h1
    obtain ⟨vs, hvs, rfl⟩ := checkL_ok h3
    have hW : attrsW (⟨xa, chars ds, chars vs⟩ :: rs) = attrW ⟨xa, chars ds, chars vs⟩ ++ attrsW rs := by unfold attrsW; rw [List.flatMap_cons]
    rw [hW, List.append_assoc] at hs
    have hs2 := hs
    rw [attrW_eq] at hs2
    have hno : ps.any (fun q => q.name == chars ds) = false := by
      have e1 : ps.any (fun q => q.name == chars ds) = (ps.map (fun q => (q.name, q.value))).any (fun q => q.1 == chars ds) := by rw [List.any_map]; rfl
      have e2 : seen.any (fun q => q.name == chars ds) = (seen.map (fun q => (q.name, q.value))).any (fun q => q.1 == chars ds) := by rw [List.any_map]; rfl
      rw [e1, hps, ← e2]
      exact h2
    have hstep := attrs_gen (bat := bat) (out := out) (f + rs.length) hds h1 hvs hno hs2
    have hs3 : s.drop (i + (chars ds).length + ((escL escV (chars vs)).length + 4)) = attrsW rs ++ r := by
      rw [Nat.add_assoc]
      exact drop_add hs (by rw [attrW_len])
    obtain ⟨qs, hq, hx⟩ := attrs_all rs (seen ++ [⟨xa, chars ds, chars vs⟩]) (ps ++ [⟨chars ds, chars vs, i + 1⟩]) s _ bat out f r ho' (by rw [List.map_append, List.map_append, hps]; rfl) hs3
    refine ⟨⟨chars ds, chars vs, i + 1⟩ :: qs, by rw [List.map_cons, List.map_cons, hq], ?_⟩
    rw [show f + (⟨xa, chars ds, chars vs⟩ :: rs : List RP).length = f + rs.length + 1 from by simp; omega, hstep, hx, hW, List.length_append, attrW_len, List.append_assoc]
    rw [show i + (chars ds).length + ((escL escV (chars vs)).length + 4) + (attrsW rs).length = i + ((chars ds).length + ((escL escV (chars vs)).length + 4) + (attrsW rs).length) from by omega]
    rfl
end Go.Proofs.YtfnmhdnlogfbdaaGreatDoor
