/- What the plain law of XmltokBack says. Plain law: what is written is read as it was: names, attributes, tags anywhere in a text. Plain law: what is written is read as it was: one token anywhere in a text. Plain law: what is written is read as it was: all tokens. Plain law: what is written is read as it was, but for places. -/
import Derived.Test.YtblhpkcdemefaaaGreatDoorNil
import Derived.Test.YtblhpkcdemefaaaGreatDoorTi
set_option linter.unusedVariables false
set_option linter.unusedSimpArgs false
namespace Go.Proofs.YtblhpkcdemefaaaGreatDoor
open Go.RowKit

/-- What the plain law says of tokens: what is written is read as it was, but for places. -/
def BackP (l : List RT) : Prop := szL l ≤ 3000 → (writeL l).2.2 = 0 → ∃ ts : List Tk, tokL (writeL l).1 = (ts, (writeL l).1.length, 0) ∧ sameL false l (ts.map Tk.raw) = true ∧ (ts.length ≤ 1000000000 ∧ ∀ t ∈ ts, t.attrs.length ≤ 1000000000) ∧ ∀ i, Lib.hasPrefix ((writeL l).1.drop i) [60, 33, 91, 67, 68, 65, 84, 65, 91] = false

theorem sz_in {l : List RT} (h : szL l ≤ 3000) : l.length ≤ 3000 ∧ ∀ t ∈ l, t.s.length ≤ 3000 ∧ t.attrs.length ≤ 3000 ∧ ∀ p ∈ t.attrs, p.name.length ≤ 3000 ∧ p.value.length ≤ 3000 := by
  unfold szL at h
  refine ⟨by omega, fun t ht => ?_⟩
  have h1 : szT t ≤ szTs l := sum_mem szT l t ht
  have h2 := szPs_len t.attrs
  have h1' : t.s.length + szPs t.attrs ≤ szTs l := h1
  refine ⟨by omega, by omega, fun p hp => ?_⟩
  have h3 : szP p ≤ szPs t.attrs := sum_mem szP t.attrs p hp
  have h3' : 1 + p.name.length + p.value.length ≤ szPs t.attrs := h3
  omega

theorem writeGo_len : ∀ (l : List RT) (i : Nat) (b : Bool) (acc : List UInt8), (∀ t ∈ l, t.s.length ≤ 3000 ∧ t.attrs.length ≤ 3000 ∧ ∀ p ∈ t.attrs, p.name.length ≤ 3000 ∧ p.value.length ≤ 3000) → (writeGo l i b acc).1.length ≤ acc.length + l.length * 100000000
  | [], i, b, acc, _ => by simp [writeGo]
  | t :: r, i, b, acc, h => by
    unfold writeGo
    split
    · have ht := h t List.mem_cons_self
      have ih := writeGo_len r (i + 1) (decide (t.kind = 3)) (acc ++ (tokW t b).1) (fun u hu => h u (List.mem_cons_of_mem _ hu))
      have := tokW_len t b ht.1 ht.2.1 ht.2.2
      rw [List.length_append] at ih
      rw [List.length_cons, Nat.add_mul]
      omega
    · simp

end Go.Proofs.YtblhpkcdemefaaaGreatDoor

namespace Go.Proofs.YtblhpkcdemefaaaGreatDoor

theorem drop_add {s a b : List UInt8} {i n : Nat} (h : s.drop i = a ++ b) (hn : n = a.length) : s.drop (i + n) = b := by
  rw [← List.drop_drop, h]; exact drop_app hn

theorem blank_at {s : List UInt8} {st : St} {x : UInt8} {r : List UInt8} (hd : s.drop st.i = x :: r) (hx : x.toNat ≠ 32 ∧ x.toNat ≠ 9 ∧ x.toNat ≠ 13 ∧ x.toNat ≠ 10) : xBlank s st = st :=
  xBlank_same (by rw [hd]; exact blank_head hx)

theorem need_at {s : List UInt8} {i bat : Nat} {out : List Tk} {x : UInt8} {r : List UInt8} (hd : s.drop i = x :: r) : xNeed s ⟨i, bat, 0, out⟩ [x] = ⟨i + 1, bat, 0, out⟩ := by
  unfold xNeed xTake
  simp only []
  rw [hd]
  simp [Lib.hasPrefix, xMove]

/-- A value in quotes is read. -/
theorem value_at {s : List UInt8} {i bat : Nat} {out : List Tk} {vs : List Nat} {r : List UInt8} (hv : allFine vs) (hd : s.drop i = 34 :: (escL escV (chars vs) ++ 34 :: r)) :
    xValue s ⟨i, bat, 0, out⟩ = (⟨i + ((escL escV (chars vs)).length + 2), bat, 0, out⟩, chars vs) := by
  have hcut : cutB 34 (escL escV (chars vs) ++ 34 :: r) = (escL escV (chars vs), r, true) := cutB_no 34 _ _ (escL_no 34 (Or.inl rfl) vs hv)
  have hd1 : s.drop (i + 1) = escL escV (chars vs) ++ 34 :: r := by rw [← List.drop_drop, hd]; rfl
  unfold xValue
  rw [if_neg (fun h => h rfl)]
  simp only []
  rw [hd, if_pos (by rfl)]
  unfold xValueIn xUntil xMove
  simp only []
  rw [hd1, hcut]
  simp only []
  rw [back_V vs hv]
  simp only [if_true]
  rw [hd1, cut_cutB, hcut]
  simp only [if_true]
  rw [show [(34 : UInt8)].length = 1 from rfl, show i + 1 + ((escL escV (chars vs)).length + 1) = i + ((escL escV (chars vs)).length + 2) from by omega]

/-- An attribute is read, behind its blank. -/
theorem attr_gen {s : List UInt8} {i bat : Nat} {out : List Tk} {ds vs : List Nat} {r : List UInt8} {ps : List PrA} (hd : NameCs ds) (hsd : splitB (chars ds) = true) (hv : allFine vs)
    (hno : ps.any (fun q => q.name == chars ds) = false) (hs : s.drop i = chars ds ++ 61 :: 34 :: (escL escV (chars vs) ++ 34 :: r)) :
    xAttr s ⟨i, bat, 0, out⟩ ps = (⟨i + (chars ds).length + ((escL escV (chars vs)).length + 3), bat, 0, out⟩, ⟨chars ds, chars vs, i⟩) := by
  have hN : xName s ⟨i, bat, 0, out⟩ = (⟨i + (chars ds).length, bat, 0, out⟩, chars ds) := xName_at (st := ⟨i, bat, 0, out⟩) rfl hs hd hsd (fun _ => nm61 _)
  have h4 : s.drop (i + (chars ds).length) = 61 :: 34 :: (escL escV (chars vs) ++ 34 :: r) := drop_add hs rfl
  have h5 : s.drop (i + (chars ds).length + 1) = 34 :: (escL escV (chars vs) ++ 34 :: r) := by rw [← List.drop_drop, h4]; rfl
  have hB1 : xBlank s ⟨i + (chars ds).length, bat, 0, out⟩ = ⟨i + (chars ds).length, bat, 0, out⟩ := blank_at h4 (by decide)
  have hN1 : xNeed s ⟨i + (chars ds).length, bat, 0, out⟩ [61] = ⟨i + (chars ds).length + 1, bat, 0, out⟩ := need_at h4
  have hB2 : xBlank s ⟨i + (chars ds).length + 1, bat, 0, out⟩ = ⟨i + (chars ds).length + 1, bat, 0, out⟩ := blank_at h5 (by decide)
  have hV := value_at (bat := bat) (out := out) hv h5
  rw [show xAttr s ⟨i, bat, 0, out⟩ ps = ((xAttrB s (xTwice (xName s ⟨i, bat, 0, out⟩).1 i (xName s ⟨i, bat, 0, out⟩).2 ps)).1, ⟨(xName s ⟨i, bat, 0, out⟩).2, (xAttrB s (xTwice (xName s ⟨i, bat, 0, out⟩).1 i (xName s ⟨i, bat, 0, out⟩).2 ps)).2, i⟩) from rfl]
  rw [hN]
  have hT : xTwice ⟨i + (chars ds).length, bat, 0, out⟩ i (chars ds) ps = ⟨i + (chars ds).length, bat, 0, out⟩ := by
    unfold xTwice
    rw [hno, Bool.and_false]
    rfl
  simp only []
  rw [hT]
  unfold xAttrB
  rw [hB1, hN1, hB2, hV]
  simp only []
  rw [show i + (chars ds).length + 1 + ((escL escV (chars vs)).length + 2) = i + (chars ds).length + ((escL escV (chars vs)).length + 3) from by omega]

/-- One round of a tag's attributes. -/
theorem attrs_gen {s : List UInt8} {i bat : Nat} {out : List Tk} {ds vs : List Nat} {r : List UInt8} {ps : List PrA} (f : Nat) (hd : NameCs ds) (hsd : splitB (chars ds) = true) (hv : allFine vs)
    (hno : ps.any (fun q => q.name == chars ds) = false) (hs : s.drop i = 32 :: (chars ds ++ 61 :: 34 :: (escL escV (chars vs) ++ 34 :: r))) :
    xAttrs s (f + 1) ⟨i, bat, 0, out⟩ ps = xAttrs s f ⟨i + (chars ds).length + ((escL escV (chars vs)).length + 4), bat, 0, out⟩ (ps ++ [⟨chars ds, chars vs, i + 1⟩]) := by
  obtain ⟨b, t, hb, hh⟩ := name_head hd
  have hne := headB_ne hh
  have hbl : blankN (s.drop i) = 1 := by rw [hs, hb, List.cons_append]; exact blank_one hne.1
  have hB : xBlank s ⟨i, bat, 0, out⟩ = ⟨i + 1, bat, 0, out⟩ := by unfold xBlank xMove; simp only []; rw [hbl]
  have h3 : s.drop (i + 1) = chars ds ++ 61 :: 34 :: (escL escV (chars vs) ++ 34 :: r) := by rw [← List.drop_drop, hs]; rfl
  have h3' : s.drop (i + 1) = b :: (t ++ 61 :: 34 :: (escL escV (chars vs) ++ 34 :: r)) := by rw [h3, hb]; rfl
  rw [attrs_next rfl (Nat.succ_pos f) (by rw [hB]; simp only []; rw [h3']; exact pre1 hne.2.1) (by rw [hB]; simp only []; rw [h3']; exact pre1 hne.2.2.1) (by simp only []; rw [hbl]; decide)]
  rw [hB, attr_gen hd hsd hv hno h3]
  simp only [Nat.add_sub_cancel]
  rw [show i + 1 + (chars ds).length + ((escL escV (chars vs)).length + 3) = i + (chars ds).length + ((escL escV (chars vs)).length + 4) from by omega]
  rfl

theorem attrW_eq {xa : Int} {ds vs : List Nat} {r : List UInt8} : attrW ⟨xa, chars ds, chars vs⟩ ++ r = 32 :: (chars ds ++ 61 :: 34 :: (escL escV (chars vs) ++ 34 :: r)) := by unfold attrW; simp
theorem attrW_len {xa : Int} {ds vs : List Nat} : (attrW ⟨xa, chars ds, chars vs⟩).length = (chars ds).length + ((escL escV (chars vs)).length + 4) := by unfold attrW; simp; omega

/-- The bytes of attributes, one behind another. -/
def attrsW (ps : List RP) : List UInt8 := ps.flatMap attrW
/-- Attributes that may be written behind others. -/
def AttrsOk : List RP → List RP → Prop
  | [], _ => True
  | p :: r, seen => attrE seen p = 0 ∧ AttrsOk r (seen ++ [p])
theorem attrsGo_ok : ∀ (ps seen : List RP) (acc : List UInt8), (attrsGo ps seen acc).2 = 0 → AttrsOk ps seen ∧ (attrsGo ps seen acc).1 = acc ++ attrsW ps
  | [], seen, acc, _ => ⟨trivial, by simp [attrsGo, attrsW]⟩
  | p :: r, seen, acc, h => by
    unfold attrsGo at h ⊢
    by_cases he : attrE seen p = 0
    · rw [if_pos he] at h ⊢
      obtain ⟨h1, h2⟩ := attrsGo_ok r _ _ h
      exact ⟨⟨he, h1⟩, by rw [h2]; simp [attrsW]⟩
    · rw [if_neg he] at h
      exact absurd h he
theorem attrE_ok {seen : List RP} {p : RP} (h : attrE seen p = 0) : splitB p.name = true ∧ seen.any (fun q => q.name == p.name) = false ∧ (checkL p.value).2 = true := by
  unfold attrE at h
  split at h
  · exact absurd h (by decide)
  · split at h
    · exact absurd h (by decide)
    · split at h
      · exact absurd h (by decide)
      · rename_i a b c
        exact ⟨by simpa using a, by simpa using b, by simpa using c⟩

/-- A tag's attributes are read, all of them, and their places. -/
theorem attrs_all : ∀ (rs seen : List RP) (ps : List PrA) (s : List UInt8) (i bat : Nat) (out : List Tk) (f : Nat) (r : List UInt8), AttrsOk rs seen → ps.map (fun q => (q.name, q.value)) = seen.map (fun q => (q.name, q.value)) → s.drop i = attrsW rs ++ r →
    ∃ qs : List PrA, qs.map (fun q => (q.name, q.value)) = rs.map (fun q => (q.name, q.value)) ∧ xAttrs s (f + rs.length) ⟨i, bat, 0, out⟩ ps = xAttrs s f ⟨i + (attrsW rs).length, bat, 0, out⟩ (ps ++ qs)
  | [], seen, ps, s, i, bat, out, f, r, _, _, _ => ⟨[], rfl, by rw [List.append_nil]; rfl⟩
  | p :: rs, seen, ps, s, i, bat, out, f, r, ho, hps, hs => by
    obtain ⟨he, ho'⟩ := ho
    obtain ⟨h1, h2, h3⟩ := attrE_ok he
    obtain ⟨xa, xn, xv⟩ := p
    simp only [] at h1 h2 h3
    obtain ⟨ds, rfl, hds⟩ := split_chars h1
    obtain ⟨vs, hvs, rfl⟩ := checkL_ok h3
    have hW : attrsW (⟨xa, chars ds, chars vs⟩ :: rs) = attrW ⟨xa, chars ds, chars vs⟩ ++ attrsW rs := by unfold attrsW; rw [List.flatMap_cons]
    rw [hW, List.append_assoc] at hs
    have hs2 := hs
    rw [attrW_eq] at hs2
    have hno : ps.any (fun q => q.name == chars ds) = false := by
      have e1 : ps.any (fun q => q.name == chars ds) = (ps.map (fun q => (q.name, q.value))).any (fun q => q.1 == chars ds) := by rw [List.any_map]; rfl
      have e2 : seen.any (fun q => q.name == chars ds) = (seen.map (fun q => (q.name, q.value))).any (fun q => q.1 == chars ds) := by rw [List.any_map]; rfl
      rw [e1, hps, ← e2]
      exact h2
    have hstep := attrs_gen (bat := bat) (out := out) (f + rs.length) hds h1 hvs hno hs2
    have hs3 : s.drop (i + (chars ds).length + ((escL escV (chars vs)).length + 4)) = attrsW rs ++ r := by
      rw [Nat.add_assoc]
      exact drop_add hs (by rw [attrW_len])
    obtain ⟨qs, hq, hx⟩ := attrs_all rs (seen ++ [⟨xa, chars ds, chars vs⟩]) (ps ++ [⟨chars ds, chars vs, i + 1⟩]) s _ bat out f r ho' (by rw [List.map_append, List.map_append, hps]; rfl) hs3
    refine ⟨⟨chars ds, chars vs, i + 1⟩ :: qs, by rw [List.map_cons, List.map_cons, hq], ?_⟩
    rw [show f + (⟨xa, chars ds, chars vs⟩ :: rs : List RP).length = f + rs.length + 1 from by simp; omega, hstep, hx, hW, List.length_append, attrW_len, List.append_assoc]
    rw [show i + (chars ds).length + ((escL escV (chars vs)).length + 4) + (attrsW rs).length = i + ((chars ds).length + ((escL escV (chars vs)).length + 4) + (attrsW rs).length) from by omega]
    rfl
end Go.Proofs.YtblhpkcdemefaaaGreatDoor

namespace Go.Proofs.YtblhpkcdemefaaaGreatDoor

theorem nm62 (r : List UInt8) : nameB (Lib.decodeL (62 :: r)).1 = false := by rw [dec_ascii 62 r (by decide)]; decide
theorem nm47 (r : List UInt8) : nameB (Lib.decodeL (47 :: r)).1 = false := by rw [dec_ascii 47 r (by decide)]; decide

theorem pre2 {b x y : UInt8} {r t : List UInt8} (h : b.toNat ≠ x.toNat) : Lib.hasPrefix (y :: b :: r) (y :: x :: t) = false := by
  have := pre1 (b := b) (x := x) (r := r) (t := t) h
  unfold Lib.hasPrefix at this ⊢
  simpa [List.isPrefixOf] using this

/-- Where a tag opens. -/
theorem one_open {s : List UInt8} {i bat : Nat} {out : List Tk} {b : UInt8} {r : List UInt8} (hd : s.drop i = 60 :: b :: r) (hb : headB b) : xOne s ⟨i, bat, 0, out⟩ = xOpen s ⟨i + 1, bat, 0, out⟩ i := by
  have hne := headB_ne hb
  have hp : ∀ (x : UInt8) (t : List UInt8), b.toNat ≠ x.toNat → Lib.hasPrefix (s.drop i) (60 :: x :: t) = false := by
    intro x t hx; rw [hd]; exact pre2 hx
  have hD : isDecl s ⟨i, bat, 0, out⟩ = false := by unfold isDecl; simp only []; rw [hp 63 _ hne.2.2.2.2]; rfl
  have hT : ∀ (x : UInt8) (t : List UInt8), b.toNat ≠ x.toNat → xTake s ⟨i, bat, 0, out⟩ (60 :: x :: t) = false := by
    intro x t hx; unfold xTake; simp only []; rw [hp x t hx, Bool.and_false]
  have hO : xTake s ⟨i, bat, 0, out⟩ [60] = true := by unfold xTake; simp only []; rw [hd]; rfl
  unfold xOne
  rw [hD, hT 33 _ hne.2.2.2.1, hT 33 _ hne.2.2.2.1, hT 47 _ hne.2.2.1, hO]
  simp only [Bool.false_eq_true, if_false, if_true]
  rw [hp 33 _ hne.2.2.2.1, hp 63 _ hne.2.2.2.2]
  simp only [Bool.false_eq_true, or_self, if_false]
  rfl

/-- Where a tag closes. -/
theorem one_close {s : List UInt8} {i bat : Nat} {out : List Tk} {r : List UInt8} (hd : s.drop i = 60 :: 47 :: r) : xOne s ⟨i, bat, 0, out⟩ = xClose s ⟨i + 2, bat, 0, out⟩ i := by
  have hp : ∀ (x : UInt8) (t : List UInt8), (47 : UInt8).toNat ≠ x.toNat → Lib.hasPrefix (s.drop i) (60 :: x :: t) = false := by
    intro x t hx; rw [hd]; exact pre2 hx
  have hD : isDecl s ⟨i, bat, 0, out⟩ = false := by unfold isDecl; simp only []; rw [hp 63 _ (by decide)]; rfl
  have hT : ∀ (x : UInt8) (t : List UInt8), (47 : UInt8).toNat ≠ x.toNat → xTake s ⟨i, bat, 0, out⟩ (60 :: x :: t) = false := by
    intro x t hx; unfold xTake; simp only []; rw [hp x t hx, Bool.and_false]
  have hO : xTake s ⟨i, bat, 0, out⟩ [60, 47] = true := by unfold xTake; simp only []; rw [hd]; simp [Lib.hasPrefix]
  unfold xOne
  rw [hD, hT 33 _ (by decide), hT 33 _ (by decide), hO]
  simp only [Bool.false_eq_true, if_false, if_true]
  rw [hp 33 _ (by decide), hp 63 _ (by decide)]
  simp only [Bool.false_eq_true, or_self, if_false]
  rfl

/-- Where a text stands. -/
theorem one_text {s : List UInt8} {i bat : Nat} {out : List Tk} {x : UInt8} {r : List UInt8} (hd : s.drop i = x :: r) (hx : x ≠ 60) : xOne s ⟨i, bat, 0, out⟩ = xText s ⟨i, bat, 0, out⟩ i := by
  have hx' : x.toNat ≠ (60 : UInt8).toNat := fun e => hx (UInt8.toNat_inj.1 e)
  have hp : ∀ (t : List UInt8), Lib.hasPrefix (s.drop i) (60 :: t) = false := by
    intro t; rw [hd]; exact pre1 hx'
  have hD : isDecl s ⟨i, bat, 0, out⟩ = false := by unfold isDecl; simp only []; rw [hp]; rfl
  have hT : ∀ (t : List UInt8), xTake s ⟨i, bat, 0, out⟩ (60 :: t) = false := by
    intro t; unfold xTake; simp only []; rw [hp, Bool.and_false]
  unfold xOne
  rw [hD, hT, hT, hT, hT]
  simp only [Bool.false_eq_true, if_false, if_true]
  rw [hp, hp]
  simp only [Bool.false_eq_true, or_self, if_false]

theorem attrsW_len : ∀ ps : List RP, ps.length ≤ (attrsW ps).length
  | [] => Nat.le_refl _
  | p :: r => by
    have := attrsW_len r
    have h2 : 1 ≤ (attrW p).length := by unfold attrW; simp
    unfold attrsW at this ⊢
    rw [List.flatMap_cons, List.length_append, List.length_cons]
    omega

/-- What a token that is read tells, but for its place. -/
def LikeT (t : RT) (k : Tk) : Prop := t.kind = (k.kind : Int) ∧ t.s = k.s ∧ k.attrs.map (fun q => (q.name, q.value)) = t.attrs.map (fun q => (q.name, q.value))

/-- A tag that opens, with its attributes, is read. -/
theorem read_open {s : List UInt8} {i bat : Nat} {out : List Tk} {cs : List Nat} {ps : List RP} {e : Bool} {r : List UInt8} (hc : NameCs cs) (hsc : splitB (chars cs) = true) (ho : AttrsOk ps [])
    (hd : s.drop i = 60 :: (chars cs ++ (attrsW ps ++ ((if e = true then [47, 62] else [62]) ++ r)))) :
    ∃ qs : List PrA, qs.map (fun q => (q.name, q.value)) = ps.map (fun q => (q.name, q.value)) ∧
      xOne s ⟨i, bat, 0, out⟩ = ⟨i + (1 + (chars cs).length + (attrsW ps).length + (if e = true then 2 else 1)), bat, 0, out ++ [⟨if e = true then 2 else 0, i, chars cs, qs⟩]⟩ := by
  obtain ⟨b, t, hb, hh⟩ := name_head hc
  have hd' := hd
  rw [hb, List.cons_append] at hd'
  rw [one_open hd' hh]
  have h1 : s.drop (i + 1) = chars cs ++ (attrsW ps ++ ((if e = true then [47, 62] else [62]) ++ r)) := by rw [← List.drop_drop, hd]; rfl
  have hN : xName s ⟨i + 1, bat, 0, out⟩ = (⟨i + 1 + (chars cs).length, bat, 0, out⟩, chars cs) := xName_at (st := ⟨i + 1, bat, 0, out⟩) rfl h1 hc hsc (fun _ => by
    cases ps with
    | nil => cases e
             · exact nm62 _
             · exact nm47 _
    | cons p ps => unfold attrsW attrW; exact nm32 _)
  have h2 : s.drop (i + 1 + (chars cs).length) = attrsW ps ++ ((if e = true then [47, 62] else [62]) ++ r) := drop_add h1 rfl
  have hlen : ps.length ≤ s.length := by
    have hl := congrArg List.length h2
    rw [List.length_drop, List.length_append] at hl
    have := attrsW_len ps
    omega
  obtain ⟨qs, hq, hx⟩ := attrs_all ps [] [] s (i + 1 + (chars cs).length) bat out (s.length + 1 - ps.length) _ ho rfl h2
  rw [show s.length + 1 - ps.length + ps.length = s.length + 1 from by omega, List.nil_append] at hx
  have h3 : s.drop (i + 1 + (chars cs).length + (attrsW ps).length) = (if e = true then [47, 62] else [62]) ++ r := drop_add h2 rfl
  have hB : xBlank s ⟨i + 1 + (chars cs).length + (attrsW ps).length, bat, 0, out⟩ = ⟨i + 1 + (chars cs).length + (attrsW ps).length, bat, 0, out⟩ := by
    cases e
    · exact blank_at (r := r) (x := 62) h3 (by decide)
    · exact blank_at (r := 62 :: r) (x := 47) h3 (by decide)
  have hA := attrs_gt (s := s) (f := s.length + 1 - ps.length) (st := ⟨i + 1 + (chars cs).length + (attrsW ps).length, bat, 0, out⟩) (l := qs) rfl (by omega) (by
    rw [hB]
    simp only []
    rw [h3]
    cases e
    · exact Or.inl (by simp [Lib.hasPrefix])
    · exact Or.inr (by simp [Lib.hasPrefix]))
  rw [hB] at hA
  rw [hA] at hx
  refine ⟨qs, hq, ?_⟩
  unfold xOpen
  rw [hN]
  simp only []
  rw [hx]
  simp only []
  unfold xOpenB
  cases e
  · have hT : xTake s ⟨i + 1 + (chars cs).length + (attrsW ps).length, bat, 0, out⟩ [47] = false := by
      unfold xTake; simp only []; rw [h3]; rfl
    rw [hT]
    simp only [Bool.false_eq_true, if_false]
    rw [need_at (r := r) (x := 62) h3]
    unfold xPush
    simp only []
    rw [show i + 1 + (chars cs).length + (attrsW ps).length + 1 = i + (1 + (chars cs).length + (attrsW ps).length + 1) from by omega]
  · have hT : xTake s ⟨i + 1 + (chars cs).length + (attrsW ps).length, bat, 0, out⟩ [47] = true := by
      unfold xTake; simp only []; rw [h3]; simp [Lib.hasPrefix]
    have h4 : s.drop (i + 1 + (chars cs).length + (attrsW ps).length + 1) = 62 :: r := by rw [← List.drop_drop, h3]; rfl
    rw [hT]
    simp only [if_true]
    unfold xMove
    simp only []
    rw [need_at (r := r) (x := 62) h4]
    unfold xPush
    simp only []
    rw [show i + 1 + (chars cs).length + (attrsW ps).length + 1 + 1 = i + (1 + (chars cs).length + (attrsW ps).length + 2) from by omega]

/-- A tag that closes is read. -/
theorem read_close {s : List UInt8} {i bat : Nat} {out : List Tk} {cs : List Nat} {r : List UInt8} (hc : NameCs cs) (hsc : splitB (chars cs) = true) (hd : s.drop i = 60 :: 47 :: (chars cs ++ 62 :: r)) :
    xOne s ⟨i, bat, 0, out⟩ = ⟨i + (3 + (chars cs).length), bat, 0, out ++ [⟨1, i, chars cs, []⟩]⟩ := by
  rw [one_close hd]
  have h1 : s.drop (i + 2) = chars cs ++ 62 :: r := by rw [← List.drop_drop, hd]; rfl
  have hN : xName s ⟨i + 2, bat, 0, out⟩ = (⟨i + 2 + (chars cs).length, bat, 0, out⟩, chars cs) := xName_at (st := ⟨i + 2, bat, 0, out⟩) rfl h1 hc hsc (fun _ => nm62 _)
  have h2 : s.drop (i + 2 + (chars cs).length) = 62 :: r := drop_add h1 rfl
  have hB : xBlank s ⟨i + 2 + (chars cs).length, bat, 0, out⟩ = ⟨i + 2 + (chars cs).length, bat, 0, out⟩ := blank_at h2 (by decide)
  unfold xClose
  rw [hN]
  simp only []
  rw [hB, need_at h2]
  unfold xPush
  simp only []
  rw [show i + 2 + (chars cs).length + 1 = i + (3 + (chars cs).length) from by omega]

theorem escT_no (x : UInt8) (hx : x = 62 ∨ x = 60) (c : Nat) (hf : fineB c = true) : ∀ b ∈ escB escT c, b ≠ x := by
  by_cases hk : c = 38 ∨ c = 60 ∨ c = 62 ∨ c = 13
  · rcases hx with rfl | rfl <;> rcases hk with rfl | rfl | rfl | rfl <;> decide
  · have : escB escT c = put c := escB_none (by
      intro p hp
      simp only [escT, List.mem_cons, List.not_mem_nil, or_false] at hp
      rcases hp with rfl | rfl | rfl | rfl <;> (simp only []; omega))
    rw [this]
    rcases hx with rfl | rfl
    · exact put_no 62 (by decide) c hf (by show c ≠ 62; omega)
    · exact put_no 60 (by decide) c hf (by show c ≠ 60; omega)
theorem escT_all (x : UInt8) (hx : x = 62 ∨ x = 60) (vs : List Nat) (hf : allFine vs) : ∀ b ∈ escL escT (chars vs), b ≠ x := by
  intro b hb
  rw [escL_chars escT vs hf] at hb
  obtain ⟨c, hc, hb⟩ := List.mem_flatMap.1 hb
  exact escT_no x hx c (hf c hc) b hb
theorem escT_ne (vs : List Nat) (hf : allFine vs) (h0 : chars vs ≠ []) : escL escT (chars vs) ≠ [] := by
  rw [escL_chars escT vs hf]
  cases vs with
  | nil => exact absurd rfl h0
  | cons c vs =>
    rw [List.flatMap_cons]
    have := escB_len escT (by decide) c
    intro e
    have := congrArg List.length e
    rw [List.length_append, List.length_nil] at this
    omega

theorem cutB_none (q : UInt8) : ∀ (l : List UInt8), (∀ b ∈ l, b ≠ q) → cutB q l = (l, [], false)
  | [], _ => rfl
  | x :: l, h => by
    unfold cutB
    rw [if_neg (h x List.mem_cons_self), cutB_none q l (fun b hb => h b (List.mem_cons_of_mem _ hb))]

/-- No ]]> stands where no > does. -/
theorem index_no (l : List UInt8) (h : ∀ b ∈ l, b ≠ 62) : Lib.index l [93, 93, 62] = -1 := by
  apply Lib.index_none
  intro j hj
  cases ho : Lib.occAt l [93, 93, 62] j with
  | false => rfl
  | true =>
    exfalso
    unfold Lib.occAt at ho
    obtain ⟨t, ht⟩ := List.isPrefixOf_iff_prefix.1 ho
    have hm : (62 : UInt8) ∈ l.drop j := by rw [← ht]; simp
    exact h 62 (List.mem_of_mem_drop hm) rfl

/-- A text is read. -/
theorem read_text {s : List UInt8} {i bat : Nat} {out : List Tk} {vs : List Nat} {r : List UInt8} (hv : allFine vs) (h0 : chars vs ≠ []) (hr : r = [] ∨ ∃ r', r = 60 :: r') (hd : s.drop i = escL escT (chars vs) ++ r) :
    xOne s ⟨i, bat, 0, out⟩ = ⟨i + (escL escT (chars vs)).length, bat, 0, out ++ [⟨3, i, chars vs, []⟩]⟩ := by
  have hne := escT_ne vs hv h0
  have h60 := escT_all 60 (Or.inr rfl) vs hv
  have h62 := escT_all 62 (Or.inl rfl) vs hv
  have hbk := back_T vs hv
  revert hbk hd
  generalize hE : escL escT (chars vs) = E at *
  intro hd hbk
  have hc : (cutB 60 (s.drop i)).1 = E := by
    rw [hd]
    rcases hr with rfl | ⟨r', rfl⟩
    · rw [List.append_nil, cutB_none 60 _ h60]
    · rw [cutB_no 60 _ _ h60]
  obtain ⟨x, y, hxy⟩ : ∃ x y, E = x :: y := by
    cases E with
    | nil => exact absurd rfl hne
    | cons x y => exact ⟨x, y, rfl⟩
  have hd' : s.drop i = x :: (y ++ r) := by rw [hd, hxy]; rfl
  rw [one_text hd' (h60 x (by rw [hxy]; exact List.mem_cons_self))]
  unfold xText xPush xMove
  simp only []
  rw [hc]
  have hT : textE E = (E.length, 0) := by
    unfold textE
    rw [index_no E h62, hbk, if_neg (by intro h; exact absurd h.1 (by decide))]
  rw [hT, hbk]
  rfl

end Go.Proofs.YtblhpkcdemefaaaGreatDoor

namespace Go.Proofs.YtblhpkcdemefaaaGreatDoor

/-- A token that may be written, behind a text or not. -/
inductive Good : RT → Bool → Prop
  | text (t : RT) (vs : List Nat) (hk : t.kind = 3) (hv : allFine vs) (hs : t.s = chars vs) (h0 : chars vs ≠ []) (ha : t.attrs = []) : Good t false
  | close (t : RT) (b : Bool) (cs : List Nat) (hk : t.kind = 1) (hc : NameCs cs) (hs : t.s = chars cs) (hsp : splitB (chars cs) = true) (ha : t.attrs = []) : Good t b
  | open_ (t : RT) (b : Bool) (cs : List Nat) (e : Bool) (hk : t.kind = if e = true then 2 else 0) (hc : NameCs cs) (hs : t.s = chars cs) (hsp : splitB (chars cs) = true) (ho : AttrsOk t.attrs []) : Good t b
/-- Its bytes. -/
def tokX (t : RT) : List UInt8 :=
  if t.kind = 3 then escL escT t.s else if t.kind = 1 then [60, 47] ++ t.s ++ [62] else [60] ++ t.s ++ attrsW t.attrs ++ (if t.kind = 2 then [47, 62] else [62])
theorem tokW_good {t : RT} {b : Bool} (h : (tokW t b).2 = 0) : Good t b ∧ (tokW t b).1 = tokX t := by
  unfold tokW at h ⊢
  by_cases hk : t.kind = 3
  · rw [if_pos hk] at h ⊢
    by_cases hx : t.s = [] ∨ t.attrs ≠ [] ∨ b = true
    · rw [if_pos hx] at h; exact absurd h (by decide)
    · rw [if_neg hx] at h ⊢
      by_cases hc : (checkL t.s).2 = true
      · rw [if_pos hc]
        obtain ⟨vs, hv, hs⟩ := checkL_ok hc
        have hb : b = false := by cases b with
          | false => rfl
          | true => exact absurd (Or.inr (Or.inr rfl)) hx
        have ha : t.attrs = [] := Classical.byContradiction fun e => hx (Or.inr (Or.inl e))
        subst hb
        exact ⟨.text t vs hk hv hs (fun e => hx (Or.inl (hs.trans e))) ha, by unfold tokX; rw [if_pos hk]⟩
      · rw [if_neg hc] at h; exact absurd h (by decide)
  · rw [if_neg hk] at h ⊢
    by_cases hk2 : t.kind = 0 ∨ t.kind = 1 ∨ t.kind = 2
    · rw [if_neg (fun f => f hk2)] at h ⊢
      by_cases hs : splitB t.s = false
      · rw [if_pos hs] at h; exact absurd h (by decide)
      · rw [if_neg hs] at h ⊢
        have hs' : splitB t.s = true := by simpa using hs
        obtain ⟨cs, hcs, hn⟩ := split_chars hs'
        by_cases h1 : t.kind = 1
        · rw [if_pos h1] at h ⊢
          by_cases ha : t.attrs ≠ []
          · rw [if_pos ha] at h; exact absurd h (by decide)
          · rw [if_neg ha]
            refine ⟨.close t b cs h1 hn hcs (by rw [← hcs]; exact hs') (Classical.byContradiction ha), ?_⟩
            unfold tokX
            rw [if_neg hk, if_pos h1]
        · rw [if_neg h1] at h ⊢
          by_cases ha : (attrsL t.attrs).2 ≠ 0
          · rw [if_pos ha] at h; exact absurd h ha
          · rw [if_neg ha]
            obtain ⟨ho, hw⟩ := attrsGo_ok t.attrs [] [] (Classical.byContradiction ha)
            rw [List.nil_append] at hw
            refine ⟨?_, by unfold tokX; rw [if_neg hk, if_neg h1]; show [60] ++ t.s ++ (attrsGo t.attrs [] []).1 ++ _ = _; rw [hw]⟩
            by_cases h2 : t.kind = 2
            · exact .open_ t b cs true (by rw [if_pos rfl]; exact h2) hn hcs (by rw [← hcs]; exact hs') ho
            · exact .open_ t b cs false (by rw [if_neg (by decide)]; omega) hn hcs (by rw [← hcs]; exact hs') ho
    · rw [if_pos hk2] at h; exact absurd h (by decide)

/-- Tokens that may be written. -/
def RowOk : List RT → Bool → Prop
  | [], _ => True
  | t :: r, b => Good t b ∧ RowOk r (decide (t.kind = 3))
def rowX (l : List RT) : List UInt8 := l.flatMap tokX
theorem rowX_cons (t : RT) (r : List RT) : rowX (t :: r) = tokX t ++ rowX r := by unfold rowX; rw [List.flatMap_cons]
theorem writeGo_ok : ∀ (l : List RT) (i : Nat) (b : Bool) (acc : List UInt8), (writeGo l i b acc).2.2 = 0 → RowOk l b ∧ (writeGo l i b acc).1 = acc ++ rowX l
  | [], i, b, acc, _ => ⟨trivial, by simp [writeGo, rowX]⟩
  | t :: r, i, b, acc, h => by
    unfold writeGo at h ⊢
    by_cases he : (tokW t b).2 = 0
    · rw [if_pos he] at h ⊢
      obtain ⟨h1, h2⟩ := writeGo_ok r _ _ _ h
      obtain ⟨g, hg⟩ := tokW_good he
      exact ⟨⟨g, h1⟩, by rw [h2, hg, rowX_cons, List.append_assoc]⟩
    · rw [if_neg he] at h
      exact absurd h he

theorem tokX_text {t : RT} (hk : t.kind = 3) : tokX t = escL escT t.s := by unfold tokX; rw [if_pos hk]
theorem tokX_close {t : RT} (hk : t.kind = 1) : tokX t = 60 :: 47 :: (t.s ++ [62]) := by unfold tokX; rw [if_neg (by omega), if_pos hk]; simp
theorem tokX_open {t : RT} {e : Bool} (hk : t.kind = if e = true then 2 else 0) : tokX t = 60 :: (t.s ++ (attrsW t.attrs ++ (if e = true then [47, 62] else [62]))) := by
  unfold tokX
  cases e
  · have hk' : t.kind = 0 := hk
    rw [if_neg (by omega), if_neg (by omega), if_neg (by omega)]; simp
  · have hk' : t.kind = 2 := hk
    rw [if_neg (by omega), if_neg (by omega), if_pos hk']; simp

theorem row_head {l : List RT} (h : RowOk l true) : rowX l = [] ∨ ∃ r, rowX l = 60 :: r := by
  cases l with
  | nil => exact Or.inl rfl
  | cons t r =>
    refine Or.inr ?_
    rw [rowX_cons]
    obtain ⟨g, _⟩ := h
    generalize hb : true = b at g
    cases g with
    | text vs hk hv hs h0 ha => exact absurd hb (by decide)
    | close _ cs hk hc hs hsp ha => rw [tokX_close hk]; exact ⟨_, rfl⟩
    | open_ _ cs e hk hc hs hsp ho => rw [tokX_open hk]; exact ⟨_, rfl⟩

/-- One token is read. -/
theorem read_one {s : List UInt8} {i bat : Nat} {out : List Tk} {t : RT} {b : Bool} {r : List UInt8} (h : Good t b) (hr : t.kind = 3 → r = [] ∨ ∃ r', r = 60 :: r') (hd : s.drop i = tokX t ++ r) :
    ∃ k : Tk, LikeT t k ∧ xOne s ⟨i, bat, 0, out⟩ = ⟨i + (tokX t).length, bat, 0, out ++ [k]⟩ := by
  cases h with
  | text vs hk hv hs h0 ha =>
    rw [tokX_text hk, hs] at hd ⊢
    exact ⟨⟨3, i, chars vs, []⟩, ⟨hk, hs, by rw [ha]; rfl⟩, read_text hv h0 (hr hk) hd⟩
  | close _ cs hk hc hs hsp ha =>
    rw [tokX_close hk, hs] at hd ⊢
    refine ⟨⟨1, i, chars cs, []⟩, ⟨hk, hs, by rw [ha]; rfl⟩, (read_close (r := r) hc hsp (by rw [hd]; simp)).trans ?_⟩
    rw [show (60 :: 47 :: (chars cs ++ [62])).length = 3 + (chars cs).length from by simp; omega]
  | open_ _ cs e hk hc hs hsp ho =>
    rw [tokX_open hk, hs] at hd ⊢
    obtain ⟨qs, hq, hx⟩ := read_open (bat := bat) (out := out) (e := e) (r := r) hc hsp ho (by rw [hd]; simp)
    refine ⟨⟨if e = true then 2 else 0, i, chars cs, qs⟩, ⟨by rw [hk]; cases e <;> rfl, hs, hq⟩, hx.trans ?_⟩
    rw [show (60 :: (chars cs ++ (attrsW t.attrs ++ (if e = true then [47, 62] else [62])))).length = 1 + (chars cs).length + (attrsW t.attrs).length + (if e = true then 2 else 1) from by cases e <;> simp <;> omega]

theorem tokX_ne {t : RT} {b : Bool} (h : Good t b) : 1 ≤ (tokX t).length := by
  cases h with
  | text vs hk hv hs h0 ha =>
    rw [tokX_text hk, hs]
    have := escT_ne vs hv h0
    cases hE : escL escT (chars vs) with
    | nil => exact absurd hE this
    | cons x y => simp
  | close _ cs hk hc hs hsp ha => rw [tokX_close hk]; simp
  | open_ _ cs e hk hc hs hsp ho => rw [tokX_open hk]; simp

theorem samePs_like : ∀ (ps : List RP) (qs : List PrA), qs.map (fun q => (q.name, q.value)) = ps.map (fun q => (q.name, q.value)) → samePs false ps (qs.map PrA.raw) = true ∧ qs.length = ps.length
  | [], [], _ => ⟨rfl, rfl⟩
  | [], q :: qs, h => by simp at h
  | p :: ps, [], h => by simp at h
  | p :: ps, q :: qs, h => by
    rw [List.map_cons, List.map_cons, List.cons.injEq] at h
    obtain ⟨h1, h2⟩ := h
    obtain ⟨i1, i2⟩ := samePs_like ps qs h2
    have e1 : q.name = p.name := congrArg Prod.fst h1
    have e2 : q.value = p.value := congrArg Prod.snd h1
    refine ⟨?_, by rw [List.length_cons, List.length_cons, i2]⟩
    rw [List.map_cons]
    unfold samePs
    rw [i1]
    unfold sameP PrA.raw
    simp [e1, e2]

/-- All tokens are read. -/
theorem read_all : ∀ (l : List RT) (s : List UInt8) (i bat : Nat) (out : List Tk) (b : Bool) (f : Nat), RowOk l b → s.drop i = rowX l → l.length < f →
    ∃ ks : List Tk, sameTs false l (ks.map Tk.raw) = true ∧ ks.length = l.length ∧ (∀ k ∈ ks, ∃ t ∈ l, k.attrs.length = t.attrs.length) ∧ xLoop s f ⟨i, bat, 0, out⟩ = ⟨i + (rowX l).length, bat, 0, out ++ ks⟩
  | [], s, i, bat, out, b, f, _, hd, hf => ⟨[], rfl, rfl, (by intro k hk; cases hk), by
      rw [loop_stop (Or.inr (by rw [hd]; rfl)), List.append_nil]; rfl⟩
  | t :: r, s, i, bat, out, b, f, h, hd, hf => by
    obtain ⟨g, hr⟩ := h
    rw [rowX_cons] at hd
    have hne := tokX_ne g
    obtain ⟨k, hk, hx⟩ := read_one (bat := bat) (out := out) g (fun h3 => row_head (by rw [h3] at hr; exact hr)) hd
    have hd2 : s.drop (i + (tokX t).length) = rowX r := drop_add hd rfl
    obtain ⟨ks, h1, h2, h3, h4⟩ := read_all r s (i + (tokX t).length) bat (out ++ [k]) _ (f - 1) hr hd2 (by rw [List.length_cons] at hf; omega)
    obtain ⟨hp1, hp2⟩ := samePs_like t.attrs k.attrs hk.2.2
    refine ⟨k :: ks, ?_, by rw [List.length_cons, List.length_cons, h2], ?_, ?_⟩
    · rw [List.map_cons]
      unfold sameTs
      rw [h1, show (Tk.raw k).attrs = k.attrs.map PrA.raw from rfl, hp1]
      unfold sameH Tk.raw
      simp [hk.1, hk.2.1, hp2]
    · intro x hx
      rcases List.mem_cons.1 hx with rfl | hx
      · exact ⟨t, List.mem_cons_self, hp2⟩
      · obtain ⟨u, hu, he⟩ := h3 x hx
        exact ⟨u, List.mem_cons_of_mem _ hu, he⟩
    · rw [loop_next (s := s) (st := ⟨i, bat, 0, out⟩) (by omega) rfl (by
        rw [hd]
        intro e
        have := congrArg List.length e
        rw [List.length_append, List.length_nil] at this
        omega), hx, h4, rowX_cons, List.length_append, List.append_assoc, Nat.add_assoc]
      rfl

end Go.Proofs.YtblhpkcdemefaaaGreatDoor

namespace Go.Proofs.YtblhpkcdemefaaaGreatDoor

theorem escT_chars : ∀ vs : List Nat, allFine vs → ∃ es, allFine es ∧ vs.flatMap (escB escT) = chars es
  | [], _ => ⟨[], allFine_nil, rfl⟩
  | c :: vs, h => by
    obtain ⟨es, he, hes⟩ := escT_chars vs (fun x hx => h x (List.mem_cons_of_mem _ hx))
    have hfc := h c List.mem_cons_self
    have key : ∃ ks, allFine ks ∧ escB escT c = chars ks := by
      by_cases hk : c = 38 ∨ c = 60 ∨ c = 62 ∨ c = 13
      · rcases hk with rfl | rfl | rfl | rfl
        · exact ⟨[38, 97, 109, 112, 59], by unfold allFine; decide, by decide⟩
        · exact ⟨[38, 108, 116, 59], by unfold allFine; decide, by decide⟩
        · exact ⟨[38, 103, 116, 59], by unfold allFine; decide, by decide⟩
        · exact ⟨[38, 35, 49, 51, 59], by unfold allFine; decide, by decide⟩
      · refine ⟨[c], fun x hx => by rw [List.mem_singleton] at hx; subst hx; exact hfc, ?_⟩
        have : escB escT c = put c := escB_none (by
          intro p hp
          simp only [escT, List.mem_cons, List.not_mem_nil, or_false] at hp
          rcases hp with rfl | rfl | rfl | rfl <;> (simp only []; omega))
        rw [this, chars_cons, chars_nil, List.append_nil]
    obtain ⟨ks, hk, hks⟩ := key
    refine ⟨ks ++ es, fun x hx => (List.mem_append.1 hx).elim (hk x) (he x), ?_⟩
    rw [List.flatMap_cons, chars_append, hks, hes]

/-- Bytes that are characters. -/
def Fine (l : List UInt8) : Prop := ∃ cs, allFine cs ∧ l = chars cs
theorem Fine.app {a b : List UInt8} (ha : Fine a) (hb : Fine b) : Fine (a ++ b) := by
  obtain ⟨x, hx, rfl⟩ := ha
  obtain ⟨y, hy, rfl⟩ := hb
  exact ⟨x ++ y, fun c hc => (List.mem_append.1 hc).elim (hx c) (hy c), (chars_append x y).symm⟩
theorem Fine.nil : Fine [] := ⟨[], allFine_nil, rfl⟩
theorem Fine.one (b : UInt8) (h : b = 32 ∨ b = 34 ∨ b = 47 ∨ b = 60 ∨ b = 61 ∨ b = 62) : Fine [b] := by
  rcases h with rfl | rfl | rfl | rfl | rfl | rfl
  · exact ⟨[32], by unfold allFine; decide, by decide⟩
  · exact ⟨[34], by unfold allFine; decide, by decide⟩
  · exact ⟨[47], by unfold allFine; decide, by decide⟩
  · exact ⟨[60], by unfold allFine; decide, by decide⟩
  · exact ⟨[61], by unfold allFine; decide, by decide⟩
  · exact ⟨[62], by unfold allFine; decide, by decide⟩
theorem Fine.cons (b : UInt8) (h : b = 32 ∨ b = 34 ∨ b = 47 ∨ b = 60 ∨ b = 61 ∨ b = 62) {l : List UInt8} (hl : Fine l) : Fine (b :: l) := (Fine.one b h).app hl

theorem attr_parts {p : RP} {seen : List RP} (h : attrE seen p = 0) : ∃ ds vs, NameCs ds ∧ allFine vs ∧ p.name = chars ds ∧ p.value = chars vs := by
  obtain ⟨h1, h2, h3⟩ := attrE_ok h
  obtain ⟨ds, e1, hds⟩ := split_chars h1
  obtain ⟨vs, hvs, e2⟩ := checkL_ok h3
  exact ⟨ds, vs, hds, hvs, e1, e2⟩
theorem attrW_cat (p : RP) : attrW p = 32 :: (p.name ++ 61 :: 34 :: (escL escV p.value ++ [34])) := by unfold attrW; simp
theorem attrsW_cons (p : RP) (r : List RP) : attrsW (p :: r) = attrW p ++ attrsW r := by unfold attrsW; rw [List.flatMap_cons]

theorem name_no60 {ds : List Nat} (h : NameCs ds) : ∀ b ∈ chars ds, b ≠ 60 := chars_no 60 (by decide) ds h.1 (name_not 60 (by decide) h)

/-- Attributes' bytes: characters, none of them <; and not too many. -/
theorem attrs_ok : ∀ (ps seen : List RP), AttrsOk ps seen → Fine (attrsW ps) ∧ (∀ b ∈ attrsW ps, b ≠ 60) ∧ (attrsW ps).length ≤ 6 * szPs ps
  | [], _, _ => ⟨Fine.nil, (by intro b hb; cases hb), Nat.zero_le _⟩
  | p :: r, seen, h => by
    obtain ⟨he, hr⟩ := h
    obtain ⟨i1, i2, i3⟩ := attrs_ok r _ hr
    obtain ⟨ds, vs, hds, hvs, e1, e2⟩ := attr_parts he
    obtain ⟨es, hes, hee⟩ := esc_chars vs hvs
    have hE : escL escV (chars vs) = chars es := by rw [escL_chars escV vs hvs, hee]
    have hl := escL_len escV (by decide) vs hvs
    have hW : attrW p = 32 :: (chars ds ++ 61 :: 34 :: (escL escV (chars vs) ++ [34])) := by rw [attrW_cat, e1, e2]
    rw [attrsW_cons]
    refine ⟨?_, ?_, ?_⟩
    · rw [hW, hE]
      exact ((Fine.cons 32 (by decide) (Fine.app ⟨ds, hds.1, rfl⟩ (Fine.cons 61 (by decide) (Fine.cons 34 (by decide) (Fine.app ⟨es, hes, rfl⟩ (Fine.one 34 (by decide)))))))).app i1
    · intro b hb
      rw [hW] at hb
      simp only [List.mem_append, List.mem_cons, List.not_mem_nil, or_false] at hb
      rcases hb with (rfl | hb | rfl | rfl | hb | rfl) | hb
      · decide
      · exact name_no60 hds b hb
      · decide
      · decide
      · exact escL_no 60 (Or.inr rfl) vs hvs b hb
      · decide
      · exact i2 b hb
    · have hsz : szPs (p :: r) = 1 + p.name.length + p.value.length + szPs r := by unfold szPs szP; simp
      rw [hsz, e1, e2, hW]
      simp only [List.length_append, List.length_cons, List.length_nil]
      omega

/-- A token's bytes: characters; behind the first one no <, and if that is one no ! behind it. -/
theorem tok_ok {t : RT} {b : Bool} (h : Good t b) : Fine (tokX t) ∧ ((∀ x ∈ tokX t, x ≠ 60) ∨ ∃ y z, tokX t = 60 :: y :: z ∧ y.toNat ≠ 33 ∧ ∀ x ∈ y :: z, x ≠ 60) ∧ (tokX t).length ≤ 6 * szT t + 3 := by
  have hsz : szT t = t.s.length + szPs t.attrs := rfl
  cases h with
  | text vs hk hv hs h0 ha =>
    rw [tokX_text hk, hs]
    obtain ⟨es, hes, hee⟩ := escT_chars vs hv
    have hl := escL_len escT (by decide) vs hv
    exact ⟨⟨es, hes, by rw [escL_chars escT vs hv, hee]⟩, Or.inl (escT_all 60 (Or.inr rfl) vs hv), by rw [hsz, hs]; omega⟩
  | close _ cs hk hc hs hsp ha =>
    rw [tokX_close hk, hs]
    refine ⟨Fine.cons 60 (by decide) (Fine.cons 47 (by decide) (Fine.app ⟨cs, hc.1, rfl⟩ (Fine.one 62 (by decide)))), Or.inr ⟨47, chars cs ++ [62], rfl, by decide, ?_⟩, ?_⟩
    · intro x hx
      simp only [List.mem_append, List.mem_cons, List.not_mem_nil, or_false] at hx
      rcases hx with rfl | hx | rfl
      · decide
      · exact name_no60 hc x hx
      · decide
    · rw [hsz, hs]
      simp only [List.length_append, List.length_cons, List.length_nil]
      omega
  | open_ _ cs e hk hc hs hsp ho =>
    rw [tokX_open hk, hs]
    obtain ⟨i1, i2, i3⟩ := attrs_ok t.attrs [] ho
    obtain ⟨y, z, hyz, hh⟩ := name_head hc
    have hne := headB_ne hh
    refine ⟨Fine.cons 60 (by decide) (Fine.app ⟨cs, hc.1, rfl⟩ (i1.app ?_)), Or.inr ⟨y, z ++ (attrsW t.attrs ++ (if e = true then [47, 62] else [62])), by rw [hyz]; rfl, hne.2.2.2.1, ?_⟩, ?_⟩
    · cases e
      · exact Fine.one 62 (by decide)
      · exact Fine.cons 47 (by decide) (Fine.one 62 (by decide))
    · intro x hx
      have hx' : x ∈ chars cs ++ (attrsW t.attrs ++ (if e = true then [47, 62] else [62])) := by rw [hyz]; exact hx
      simp only [List.mem_append] at hx'
      rcases hx' with hx | hx | hx
      · exact name_no60 hc x hx
      · exact i2 x hx
      · cases e
        · have : x = 62 := by simpa using hx
          subst this; decide
        · have : x = 47 ∨ x = 62 := by simpa using hx
          rcases this with rfl | rfl <;> decide
    · rw [hsz, hs]
      cases e <;> simp only [List.length_append, List.length_cons, List.length_nil, Bool.false_eq_true, if_false, if_true] <;> omega

/-- No <![CDATA[ stands there. -/
def NB (l : List UInt8) : Prop := ∀ i, Lib.hasPrefix (l.drop i) [60, 33, 91, 67, 68, 65, 84, 65, 91] = false
theorem NB.cons {x : UInt8} {r : List UInt8} (hr : NB r) (h : Lib.hasPrefix (x :: r) [60, 33, 91, 67, 68, 65, 84, 65, 91] = false) : NB (x :: r) := by
  intro i
  cases i with
  | zero => exact h
  | succ i => exact hr i
theorem NB.app {r : List UInt8} (hr : NB r) : ∀ a : List UInt8, (∀ x ∈ a, x ≠ 60) → NB (a ++ r)
  | [], _ => hr
  | x :: a, h => (NB.app hr a (fun y hy => h y (List.mem_cons_of_mem _ hy))).cons (pre1 (fun e => h x List.mem_cons_self (UInt8.toNat_inj.1 e)))

theorem row_ok : ∀ (l : List RT) (b : Bool), RowOk l b → Fine (rowX l) ∧ NB (rowX l) ∧ (rowX l).length ≤ 6 * szTs l + 3 * l.length
  | [], b, _ => ⟨Fine.nil, (by intro i; rw [show rowX [] = [] from rfl, List.drop_nil]; rfl), Nat.zero_le _⟩
  | t :: r, b, h => by
    obtain ⟨g, hr⟩ := h
    obtain ⟨i1, i2, i3⟩ := row_ok r _ hr
    obtain ⟨j1, j2, j3⟩ := tok_ok g
    rw [rowX_cons]
    refine ⟨j1.app i1, ?_, ?_⟩
    · rcases j2 with j2 | ⟨y, z, hyz, hy, hn⟩
      · exact i2.app _ j2
      · rw [hyz]
        exact (i2.app (y :: z) hn).cons (pre2 hy)
    · have hsz : szTs (t :: r) = szT t + szTs r := by unfold szTs; simp
      rw [hsz, List.length_append, List.length_cons]
      omega

theorem writeL_ok {l : List RT} (h : (writeL l).2.2 = 0) : RowOk l false ∧ (writeL l).1 = rowX l := writeGo_ok l 0 false [] h

theorem writeL_len (l : List RT) : (writeL l).1.length ≤ 6 * szL l := by
  by_cases h : (writeL l).2.2 = 0
  · obtain ⟨h1, h2⟩ := writeL_ok h
    obtain ⟨_, _, h3⟩ := row_ok l false h1
    rw [h2]
    unfold szL
    omega
  · have hw : writeL l = writeGo l 0 false [] := rfl
    rw [hw, writeGo_err l 0 false [] (by rw [← hw]; exact h)]
    exact Nat.zero_le _

theorem back_plain (l : List RT) : BackP l := by
  intro hsz herr
  obtain ⟨hok, hw⟩ := writeL_ok herr
  obtain ⟨hf, hnb, hlen⟩ := row_ok l false hok
  have hin := sz_in hsz
  have hsz' : l.length + szTs l ≤ 3000 := hsz
  rw [hw]
  obtain ⟨ks, h1, h2, h3, h4⟩ := read_all l (rowX l) 0 0 [] false ((rowX l).length + 1) hok (by rw [List.drop_zero]) (by
    have : l.length ≤ (rowX l).length := by
      clear herr hw hf hnb hlen hin hsz hsz'
      have go : ∀ (l : List RT) (b : Bool), RowOk l b → l.length ≤ (rowX l).length := by
        intro l
        induction l with
        | nil => intro b _; exact Nat.zero_le _
        | cons t r ih =>
          intro b h
          obtain ⟨g, hr⟩ := h
          have := ih _ hr
          have := tokX_ne g
          rw [rowX_cons, List.length_append, List.length_cons]
          omega
      exact go l false hok
    omega)
  obtain ⟨cs, hcs, hce⟩ := hf
  have hck : (checkL (rowX l)).2 = true := by rw [hce, checkL_chars _ hcs]
  refine ⟨ks, ?_, ?_, ⟨by rw [h2]; have := hin.1; omega, ?_⟩, hnb⟩
  · have hA : xAll (rowX l) = ⟨(rowX l).length, 0, 0, ks⟩ := by unfold xAll; rw [h4, Nat.zero_add, List.nil_append]
    unfold tokL
    rw [if_neg (by omega), if_neg (by rw [hck]; decide), hA]
    rfl
  · unfold sameL
    rw [h1, List.length_map, h2]
    simp
  · intro k hk
    obtain ⟨t, ht, he⟩ := h3 k hk
    have := (hin.2 t ht).2.1
    omega

end Go.Proofs.YtblhpkcdemefaaaGreatDoor
