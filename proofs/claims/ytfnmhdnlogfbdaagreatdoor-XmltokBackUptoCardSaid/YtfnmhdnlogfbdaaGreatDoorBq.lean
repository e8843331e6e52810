/- Plain law: what is written is read as it was: one token anywhere in a text. -/
import Derived.Test.YtfnmhdnlogfbdaaGreatDoorBp
set_option linter.unusedVariables false
set_option linter.unusedSimpArgs false
namespace Go.Proofs.YtfnmhdnlogfbdaaGreatDoor

theorem nm62 (r : List UInt8) : nameB (Lib.decodeL (62 :: r)).1 = false := by rw [dec_ascii 62 r (by decide)]; decide
theorem nm47 (r : List UInt8) : nameB (Lib.decodeL (47 :: r)).1 = false := by rw [dec_ascii 47 r (by decide)]; decide

theorem pre2 {b x y : UInt8} {r t : List UInt8} (h : b.toNat ≠ x.toNat) : Lib.hasPrefix (y :: b :: r) (y :: x :: t) = false := by
  have := pre1 (b := b) (x := x) (r := r) (t := t) h
  unfold Lib.hasPrefix at this ⊢
  simpa [List.isPrefixOf] using this

/-- Where a tag opens. -/
theorem one_open {s : List UInt8} {i bat : Nat} {out : List Tk} {b : UInt8} {r : List UInt8} (hd : s.drop i = 60 :: b :: r) (hb : headB b) : xOne s ⟨i, bat, 0, out⟩ = xOpen s ⟨i + 1, bat, 0, out⟩ i := by
  have hne := headB_ne hb
  have hp : ∀ (x : UInt8) (t : List UInt8), b.toNat ≠ x.toNat → Lib.hasPrefix (s.drop i) (60 :: x :: t) = false := by
    intro x t hx; rw [hd]; exact pre2 hx
  have hD : isDecl s ⟨i, bat, 0, out⟩ = false := by unfold isDecl; simp only []; rw [hp 63 _ hne.2.2.2.2]; rfl
  have hT : ∀ (x : UInt8) (t : List UInt8), b.toNat ≠ x.toNat → xTake s ⟨i, bat, 0, out⟩ (60 :: x :: t) = false := by
    intro x t hx; unfold xTake; simp only []; rw [hp x t hx, Bool.and_false]
  have hO : xTake s ⟨i, bat, 0, out⟩ [60] = true := by unfold xTake; simp only []; rw [hd]; rfl
  unfold xOne
  rw [hD, hT 33 _ hne.2.2.2.1, hT 33 _ hne.2.2.2.1, hT 47 _ hne.2.2.1, hO]
  simp only [Bool.false_eq_true, if_false, if_true]
  rw [hp 33 _ hne.2.2.2.1, hp 63 _ hne.2.2.2.2]
  simp only [Bool.false_eq_true, or_self, if_false]
  rfl

/-- Where a tag closes. -/
theorem one_close {s : List UInt8} {i bat : Nat} {out : List Tk} {r : List UInt8} (hd : s.drop i = 60 :: 47 :: r) : xOne s ⟨i, bat, 0, out⟩ = xClose s ⟨i + 2, bat, 0, out⟩ i := by
  have hp : ∀ (x : UInt8) (t : List UInt8), (47 : UInt8).toNat ≠ x.toNat → Lib.hasPrefix (s.drop i) (60 :: x :: t) = false := by
    intro x t hx; rw [hd]; exact pre2 hx
  have hD : isDecl s ⟨i, bat, 0, out⟩ = false := by unfold isDecl; simp only []; rw [hp 63 _ (by decide)]; rfl
  have hT : ∀ (x : UInt8) (t : List UInt8), (47 : UInt8).toNat ≠ x.toNat → xTake s ⟨i, bat, 0, out⟩ (60 :: x :: t) = false := by
    intro x t hx; unfold xTake; simp only []; rw [hp x t hx, Bool.and_false]
  have hO : xTake s ⟨i, bat, 0, out⟩ [60, 47] = true := by unfold xTake; simp only []; rw [hd]; simp [Lib.hasPrefix]
  unfold xOne
  rw [hD, hT 33 _ (by decide), hT 33 _ (by decide), hO]
  simp only [Bool.false_eq_true, if_false, if_true]
  rw [hp 33 _ (by decide), hp 63 _ (by decide)]
  simp only [Bool.false_eq_true, or_self, if_false]
  rfl

/-- Where a text stands. -/
theorem one_text {s : List UInt8} {i bat : Nat} {out : List Tk} {x : UInt8} {r : List UInt8} (hd : s.drop i = x :: r) (hx : x ≠ 60) : xOne s ⟨i, bat, 0, out⟩ = xText s ⟨i, bat, 0, out⟩ i := by
  have hx' : x.toNat ≠ (60 : UInt8).toNat := fun e => hx (UInt8.toNat_inj.1 e)
  have hp : ∀ (t : List UInt8), Lib.hasPrefix (s.drop i) (60 :: t) = false := by
    intro t; rw [hd]; exact pre1 hx'
  have hD : isDecl s ⟨i, bat, 0, out⟩ = false := by unfold isDecl; simp only []; rw [hp]; rfl
  have hT : ∀ (t : List UInt8), xTake s ⟨i, bat, 0, out⟩ (60 :: t) = false := by
    intro t; unfold xTake; simp only []; rw [hp, Bool.and_false]
  unfold xOne
  rw [hD, hT, hT, hT, hT]
  simp only [Bool.false_eq_true, if_false, if_true]
  rw [hp, hp]
  simp only [Bool.false_eq_true, or_self, if_false]

theorem attrsW_len : ∀ ps : List RP, ps.length ≤ (attrsW ps).length
  | [] => Nat.le_refl _
  | p :: r => by
    have := attrsW_len r
    have h2 : 1 ≤ (attrW p).length := by unfold attrW; simp
    unfold attrsW at this ⊢
    rw [List.flatMap_cons, List.length_append, List.length_cons]
    omega

/-- What a token that is read tells, but for its place. -/
def LikeT (t : RT) (k : Tk) : Prop := t.kind = (k.kind : Int) ∧ t.s = k.s ∧ k.attrs.map (fun q => (q.name, q.value)) = t.attrs.map (fun q => (q.name, q.value))

/-- A tag that opens, with its attributes, is read. -/
theorem read_open {s : List UInt8} {i bat : Nat} {out : List Tk} {cs : List Nat} {ps : List RP} {e : Bool} {r : List UInt8} (hc : NameCs cs) (hsc : splitB (chars cs) = true) (ho : AttrsOk ps [])
    (hd : s.drop i = 60 :: (chars cs ++ (attrsW ps ++ ((if e = true then [47, 62] else [62]) ++ r)))) :
    ∃ qs : List PrA, qs.map (fun q => (q.name, q.value)) = ps.map (fun q => (q.name, q.value)) ∧
      xOne s ⟨i, bat, 0, out⟩ = ⟨i + (1 + (chars cs).length + (attrsW ps).length + (if e = true then 2 else 1)), bat, 0, out ++ [⟨if e = true then 2 else 0, i, chars cs, qs⟩]⟩ := by
  obtain ⟨b, t, hb, hh⟩ := name_head hc
  have hd' := hd
  rw [hb, List.cons_append] at hd'
  rw [one_open hd' hh]
  have h1 : s.drop (i + 1) = chars cs ++ (attrsW ps ++ ((if e = true then [47, 62] else [62]) ++ r)) := by rw [← List.drop_drop, hd]; rfl
  have hN : xName s ⟨i + 1, bat, 0, out⟩ = (⟨i + 1 + (chars cs).length, bat, 0, out⟩, chars cs) := xName_at (st := ⟨i + 1, bat, 0, out⟩) rfl h1 hc hsc (fun _ => by
    cases ps with
    | nil => cases e
             · exact nm62 _
             · exact nm47 _
    | cons p ps => unfold attrsW attrW; exact nm32 _)
  have h2 : s.drop (i + 1 + (chars cs).length) = attrsW ps ++ ((if e = true then [47, 62] else [62]) ++ r) := drop_add h1 rfl
  have hlen : ps.length ≤ s.length := by
    have hl := congrArg List.length h2
    rw [List.length_drop, List.length_append] at hl
    have := attrsW_len ps
    omega
  obtain ⟨qs, hq, hx⟩ := attrs_all ps [] [] s (i + 1 + (chars cs).length) bat out (s.length + 1 - ps.length) _ ho rfl h2
  rw [show s.length + 1 - ps.length + ps.length = s.length + 1 from by omega, List.nil_append] at hx
  have h3 : s.drop (i + 1 + (chars cs).length + (attrsW ps).length) = (if e = true then [47, 62] else [62]) ++ r := drop_add h2 rfl
  have hB : xBlank s ⟨i + 1 + (chars cs).length + (attrsW ps).length, bat, 0, out⟩ = ⟨i + 1 + (chars cs).length + (attrsW ps).length, bat, 0, out⟩ := by
    cases e
    · exact blank_at (r := r) (x := 62) h3 (by decide)
    · exact blank_at (r := 62 :: r) (x := 47) h3 (by decide)
  have hA := attrs_gt (s := s) (f := s.length + 1 - ps.length) (st := ⟨i + 1 + (chars cs).length + (attrsW ps).length, bat, 0, out⟩) (l := qs) rfl (by omega) (by
    rw [hB]
    simp only []
    rw [h3]
    cases e
    · exact Or.inl (by simp [Lib.hasPrefix])
    · exact Or.inr (by simp [Lib.hasPrefix]))
  rw [hB] at hA
  rw [hA] at hx
  refine ⟨qs, hq, ?_⟩
  unfold xOpen
  rw [hN]
  simp only []
  rw [hx]
  simp only []
  unfold xOpenB
  cases e
  · have hT : xTake s ⟨i + 1 + (chars cs).length + (attrsW ps).length, bat, 0, out⟩ [47] = false := by
      unfold xTake; simp only []; rw [h3]; rfl
    rw [hT]
    simp only [Bool.false_eq_true, if_false]
    rw [need_at (r := r) (x := 62) h3]
    unfold xPush
    simp only []
    rw [show i + 1 + (chars cs).length + (attrsW ps).length + 1 = i + (1 + (chars cs).length + (attrsW ps).length + 1) from by omega]
  · have hT : xTake s ⟨i + 1 + (chars cs).length + (attrsW ps).length, bat, 0, out⟩ [47] = true := by
      unfold xTake; simp only []; rw [h3]; simp [Lib.hasPrefix]
    have h4 : s.drop (i + 1 + (chars cs).length + (attrsW ps).length + 1) = 62 :: r := by rw [← List.drop_drop, h3]; rfl
    rw [hT]
    simp only [if_true]
    unfold xMove
    simp only []
    rw [need_at (r := r) (x := 62) h4]
    unfold xPush
    simp only []
    rw [show i + 1 + (chars cs).length + (attrsW ps).length + 1 + 1 = i + (1 + (chars cs).length + (attrsW ps).length + 2) from by omega]

/-- A tag that closes is read. -/
theorem read_close {s : List UInt8} {i bat : Nat} {out : List Tk} {cs : List Nat} {r : List UInt8} (hc : NameCs cs) (hsc : splitB (chars cs) = true) (hd : s.drop i = 60 :: 47 :: (chars cs ++ 62 :: r)) :
    xOne s ⟨i, bat, 0, out⟩ = ⟨i + (3 + (chars cs).length), bat, 0, out ++ [⟨1, i, chars cs, []⟩]⟩ := by
  rw [one_close hd]
  have h1 : s.drop (i + 2) = chars cs ++ 62 :: r := by rw [← List.drop_drop, hd]; rfl
  have hN : xName s ⟨i + 2, bat, 0, out⟩ = (⟨i + 2 + (chars cs).length, bat, 0, out⟩, chars cs) := xName_at (st := ⟨i + 2, bat, 0, out⟩) rfl h1 hc hsc (fun _ => nm62 _)
  have h2 : s.drop (i + 2 + (chars cs).length) = 62 :: r := drop_add h1 rfl
  have hB : xBlank s ⟨i + 2 + (chars cs).length, bat, 0, out⟩ = ⟨i + 2 + (chars cs).length, bat, 0, out⟩ := blank_at h2 (by decide)
  unfold xClose
  rw [hN]
  simp only []
  rw [hB, need_at h2]
  unfold xPush
  simp only []
  rw [show i + 2 + (chars cs).length + 1 = i + (3 + (chars cs).length) from by omega]

theorem escT_no (x : UInt8) (hx : x = 62 ∨ x = 60) (c : Nat) (hf : fineB c = true) : ∀ b ∈ escB escT c, b ≠ x := by
  by_cases hk : c = 38 ∨ c = 60 ∨ c = 62 ∨ c = 13
  · rcases hx with rfl | rfl <;> rcases hk with rfl | rfl | rfl | rfl <;> decide
  · have : escB escT c = put c := escB_none (by
      intro p hp
      simp only [escT, List.mem_cons, List.not_mem_nil, or_false] at hp
      rcases hp with rfl | rfl | rfl | rfl <;> (simp only []; omega))
    rw [this]
    rcases hx with rfl | rfl
    · exact put_no 62 (by decide) c hf (by show c ≠ 62; omega)
    · exact put_no 60 (by decide) c hf (by show c ≠ 60; omega)
theorem escT_all (x : UInt8) (hx : x = 62 ∨ x = 60) (vs : List Nat) (hf : allFine vs) : ∀ b ∈ escL escT (chars vs), b ≠ x := by
  intro b hb
  rw [escL_chars escT vs hf] at hb
  obtain ⟨c, hc, hb⟩ := List.mem_flatMap.1 hb
  exact escT_no x hx c (hf c hc) b hb
theorem escT_ne (vs : List Nat) (hf : allFine vs) (h0 : chars vs ≠ []) : escL escT (chars vs) ≠ [] := by
  rw [escL_chars escT vs hf]
  cases vs with
  | nil => exact absurd rfl h0
  | cons c vs =>
    rw [List.flatMap_cons]
    have := escB_len escT (by decide) c
    intro e
    have := congrArg List.length e
    rw [List.length_append, List.length_nil] at this
    omega

theorem cutB_none (q : UInt8) : ∀ (l : List UInt8), (∀ b ∈ l, b ≠ q) → cutB q l = (l, [], false)
  | [], _ => rfl
  | x :: l, h => by
    unfold cutB
    rw [if_neg (h x List.mem_cons_self), cutB_none q l (fun b hb => h b (List.mem_cons_of_mem _ hb))]

/-- No ]]> stands where no > does. -/
theorem index_no (l : List UInt8) (h : ∀ b ∈ l, b ≠ 62) : Lib.index l [93, 93, 62] = -1 := by
  apply Lib.index_none
  intro j hj
  cases ho : Lib.occAt l [93, 93, 62] j with
  | false => rfl
  | true =>
    exfalso
    unfold Lib.occAt at ho
    obtain ⟨t, ht⟩ := List.isPrefixOf_iff_prefix.1 ho
    have hm : (62 : UInt8) ∈ l.drop j := by rw [← ht]; simp
    exact h 62 (List.mem_of_mem_drop hm) rfl

/-- A text is read. -/
theorem read_text {s : List UInt8} {i bat : Nat} {out : List Tk} {vs : List Nat} {r : List UInt8} (hv : allFine vs) (h0 : chars vs ≠ []) (hr : r = [] ∨ ∃ r', r = 60 :: r') (hd : s.drop i = escL escT (chars vs) ++ r) :
    xOne s ⟨i, bat, 0, out⟩ = ⟨i + (escL escT (chars vs)).length, bat, 0, out ++ [⟨3, i, chars vs, []⟩]⟩ := by
  have hne := escT_ne vs hv h0
  have h60 := escT_all 60 (Or.inr rfl) vs hv
  have h62 := escT_all 62 (Or.inl rfl) vs hv
  have hbk := back_T vs hv
  revert hbk hd
  generalize hE : escL escT (chars vs) = E at *
  intro hd hbk
  have hc : (cutB 60 (s.drop i)).1 = E := by
    rw [hd]
    rcases hr with rfl | ⟨r', rfl⟩
    · rw [List.append_nil, cutB_none 60 _ h60]
    · rw [cutB_no 60 _ _ h60]
  obtain ⟨x, y, hxy⟩ : ∃ x y, E = x :: y := by
    cases E with
    | nil => exact absurd rfl hne
    | cons x y => exact ⟨x, y, rfl⟩
  have hd' : s.drop i = x :: (y ++ r) := by rw [hd, hxy]; rfl
  rw [one_text hd' (h60 x (by rw [hxy]; exact List.mem_cons_self))]
  unfold xText xPush xMove
  simp only []
  rw [hc]
  have hT : textE E = (E.length, 0) := by
    unfold textE
    rw [index_no E h62, hbk, if_neg (by intro h; exact absurd h.1 (by decide))]
  rw [hT, hbk]
  rfl

end Go.Proofs.YtfnmhdnlogfbdaaGreatDoor
