/- Plain law: names are characters; what a tag's bytes tell. Plain law: a tag's bytes tell its token; unclosed they are too short. Plain law: a tag's bytes tell its token; unclosed they are too short. Small words on a tag's memory and bytes. -/
import Derived.Test.YtblhpkcdemefaaaGreatDoorWr
set_option linter.unusedVariables false
set_option linter.unusedSimpArgs false
namespace Go.Proofs.YtblhpkcdemefaaaGreatDoor

theorem dec_put (c : Nat) (hf : fineB c = true) (r : List UInt8) : Lib.decodeL (put c ++ r) = (c, (put c).length) := rune1_dec (rune1_put c hf r)

theorem first_part {c : Int} (h : firstB c = true) : partB c = true := by unfold partB nextB; rw [h]; rfl
theorem part_name {c : Int} (h : partB c = true) : nameB c = true := by unfold nameB; rw [h, Bool.or_true]

theorem made_chars (p q : Int → Bool) : ∀ (f : Nat) (l : List UInt8) (b : Bool), l.length ≤ f → madeGo p q f l b = true →
    ∃ cs, l = chars cs ∧ allFine cs ∧ (match cs with | [] => True | c :: r => (if b = true then p c else q c) = true ∧ ∀ x ∈ r, q (x : Nat) = true)
  | 0, l, b, hl, h => ⟨[], by have : l = [] := List.eq_nil_of_length_eq_zero (by omega); rw [this]; rfl, allFine_nil, trivial⟩
  | f + 1, l, b, hl, h => by
    by_cases h0 : l = []
    · exact ⟨[], by rw [h0]; rfl, allFine_nil, trivial⟩
    · unfold madeGo at h
      rw [if_neg h0] at h
      cases hr : rune1 l with
      | none => rw [hr] at h; cases h
      | some cn =>
        obtain ⟨c, n⟩ := cn
        rw [hr] at h
        simp only [Bool.and_eq_true] at h
        obtain ⟨h1, h2⟩ := h
        obtain ⟨r, hl', hn⟩ := rune1_split hr
        have hfc := (rune1_bounds hr).2.2.2.2.2
        have hput : Lib.encodeRune (c : Int) = put c := rfl
        rw [hput] at hl' hn
        have hpl := put_len c
        have hd : l.drop n = r := by rw [hl', hn]; simp
        rw [hd] at h2
        have hrl : r.length ≤ f := by
          have := congrArg List.length hl'
          rw [List.length_append] at this
          omega
        obtain ⟨cs, hcs, hfs, hm⟩ := made_chars p q f r false hrl h2
        refine ⟨c :: cs, by rw [chars_cons, ← hcs]; exact hl', ?_, h1, ?_⟩
        · intro x hx
          rcases List.mem_cons.1 hx with rfl | hx
          · exact hfc
          · exact hfs x hx
        · intro x hx
          cases cs with
          | nil => cases hx
          | cons y ys =>
            simp only [Bool.false_eq_true, if_false] at hm
            rcases List.mem_cons.1 hx with rfl | hx
            · exact hm.1
            · exact hm.2 x hx

/-- Characters of a name: the first one, all others. -/
def NameCs (cs : List Nat) : Prop := allFine cs ∧ ∃ c r, cs = c :: r ∧ firstB c = true ∧ ∀ x ∈ cs, nameB (x : Nat) = true

theorem plain_chars {l : List UInt8} (h : plainL l = true) : ∃ cs, l = chars cs ∧ NameCs cs ∧ ∀ x ∈ cs, partB (x : Nat) = true := by
  unfold plainL madeL at h
  rw [Bool.and_eq_true] at h
  obtain ⟨h1, h2⟩ := h
  obtain ⟨cs, hl, hf, hm⟩ := made_chars firstB partB _ _ _ (Nat.le_refl _) h1
  cases cs with
  | nil => rw [hl] at h2; exact absurd h2 (by decide)
  | cons c r =>
    simp only [if_true] at hm
    have hp : ∀ x ∈ c :: r, partB (x : Nat) = true := by
      intro x hx
      rcases List.mem_cons.1 hx with rfl | hx
      · exact first_part hm.1
      · exact hm.2 x hx
    exact ⟨c :: r, hl, ⟨hf, c, r, rfl, hm.1, fun x hx => part_name (hp x hx)⟩, hp⟩

theorem cutB_app (b : UInt8) : ∀ l : List UInt8, (cutB b l).2.2 = true → l = (cutB b l).1 ++ b :: (cutB b l).2.1
  | [], h => by cases h
  | x :: r, h => by
    unfold cutB at h ⊢
    by_cases hx : x = b
    · rw [if_pos hx]; simp [hx]
    · rw [if_neg hx] at h ⊢
      have := cutB_app b r h
      simp only [List.cons_append]
      rw [← this]

theorem split_chars {l : List UInt8} (h : splitB l = true) : ∃ cs, l = chars cs ∧ NameCs cs := by
  unfold splitB at h
  split at h
  · rename_i hb
    rw [Bool.and_eq_true] at h
    obtain ⟨a, ha, ⟨hfa, c, r, hc, hfc, hna⟩, _⟩ := plain_chars h.1
    obtain ⟨b, hbl, ⟨hfb, _, _, _, _, hnb⟩, _⟩ := plain_chars h.2
    have h58 : chars [58] = [58] := by decide
    refine ⟨a ++ [58] ++ b, ?_, ?_, c, r ++ [58] ++ b, by rw [hc]; rfl, hfc, ?_⟩
    · rw [chars_append, chars_append, ← ha, ← hbl, h58]
      have := cutB_app 58 l hb
      rw [List.append_assoc]
      exact this
    · intro x hx
      rcases List.mem_append.1 hx with hx | hx
      · rcases List.mem_append.1 hx with hx | hx
        · exact hfa x hx
        · rw [List.mem_singleton] at hx; subst hx; decide
      · exact hfb x hx
    · intro x hx
      rcases List.mem_append.1 hx with hx | hx
      · rcases List.mem_append.1 hx with hx | hx
        · exact hna x hx
        · rw [List.mem_singleton] at hx; subst hx; decide
      · exact hnb x hx
  · obtain ⟨cs, h1, h2, _⟩ := plain_chars h
    exact ⟨cs, h1, h2⟩

theorem nmGo_chars : ∀ (cs : List Nat) (f : Nat) (r : List UInt8), allFine cs → (∀ x ∈ cs, nameB (x : Nat) = true) → (r ≠ [] → nameB (Lib.decodeL r).1 = false) → (chars cs ++ r).length ≤ f → nmGo f (chars cs ++ r) = (chars cs).length
  | [], f, r, _, _, hr, hl => by
    rw [chars_nil, List.nil_append]
    cases f with
    | zero => rfl
    | succ f =>
      unfold nmGo
      by_cases h0 : r = []
      · rw [if_pos h0]; rfl
      · rw [if_neg h0, if_neg (by rw [hr h0]; decide)]; rfl
  | c :: cs, f, r, hf, hn, hr, hl => by
    have hpl := put_len c
    rw [chars_cons, List.append_assoc] at hl ⊢
    rw [List.length_append] at hl
    cases f with
    | zero => omega
    | succ f =>
      unfold nmGo
      have hne : put c ++ (chars cs ++ r) ≠ [] := put_ne c _
      have hfc := hf c List.mem_cons_self
      rw [if_neg hne, dec_put c hfc, if_pos (hn c List.mem_cons_self)]
      simp only []
      have hd : (put c ++ (chars cs ++ r)).drop (put c).length = chars cs ++ r := by simp
      rw [hd, nmGo_chars cs f r (fun x hx => hf x (List.mem_cons_of_mem _ hx)) (fun x hx => hn x (List.mem_cons_of_mem _ hx)) hr (by omega), List.length_append]

theorem nameL_chars (cs : List Nat) (r : List UInt8) (h : NameCs cs) (hr : r ≠ [] → nameB (Lib.decodeL r).1 = false) : nameL (chars cs ++ r) = chars cs := by
  obtain ⟨hf, c, t, rfl, hfc, hn⟩ := h
  have hl : nmLen (chars (c :: t) ++ r) = (chars (c :: t)).length := nmGo_chars _ _ _ hf hn hr (Nat.le_refl _)
  unfold nameL
  rw [hl, List.take_left]
  have hne : chars (c :: t) ≠ [] := by rw [chars_cons]; exact put_ne c _
  rw [if_neg hne]
  have hd : Lib.decodeL (chars (c :: t)) = (c, (put c).length) := by rw [chars_cons]; exact dec_put c (hf c List.mem_cons_self) _
  rw [hd, if_pos (Or.inr hfc)]

theorem dec_ascii (b : UInt8) (r : List UInt8) (h : b.toNat < 128) : Lib.decodeL (b :: r) = (b.toNat, 1) := (decL_cons b r).1 h

/-- Bytes of a character beyond ASCII are beyond it. -/
theorem put_big (c : Nat) (h : 128 ≤ c) (hf : fineB c = true) : ∀ b ∈ put c, 128 ≤ b.toNat := by
  have hb := (fineB_iff _).1 hf
  unfold put Lib.encodeRune
  have key : ∀ l : List Int, (∀ x ∈ l, 128 ≤ x ∧ x < 256) → ∀ b ∈ l.map (fun x => x.toNat.toUInt8), 128 ≤ b.toNat := by
    intro l hl b hb
    obtain ⟨x, hx, rfl⟩ := List.mem_map.1 hb
    have := hl x hx
    rw [u8_nat x (by omega) this.2]
    omega
  by_cases h2 : c ≤ 2047
  · rw [Lib.encodeRuneZ_two (by omega) (by omega)]
    exact key _ (by intro x hx; simp only [List.mem_cons, List.not_mem_nil, or_false] at hx; rcases hx with rfl | rfl <;> omega)
  · by_cases h4 : c ≤ 65535
    · rw [Lib.encodeRuneZ_three (by omega)]
      exact key _ (by intro x hx; simp only [List.mem_cons, List.not_mem_nil, or_false] at hx; rcases hx with rfl | rfl | rfl <;> omega)
    · rw [Lib.encodeRuneZ_four (by omega) (by omega)]
      exact key _ (by intro x hx; simp only [List.mem_cons, List.not_mem_nil, or_false] at hx; rcases hx with rfl | rfl | rfl | rfl <;> omega)

theorem put_no (x : UInt8) (hx : x.toNat < 128) (c : Nat) (hf : fineB c = true) (h : c ≠ x.toNat) : ∀ b ∈ put c, b ≠ x := by
  intro b hb e
  subst e
  by_cases hc : c < 128
  · rw [encode_ascii c hc, List.mem_singleton] at hb
    have := congrArg UInt8.toNat hb
    rw [UInt8.toNat_ofNat'] at this
    omega
  · have := put_big c (by omega) hf b hb
    omega
theorem chars_no (x : UInt8) (hx : x.toNat < 128) (cs : List Nat) (hf : allFine cs) (h : ∀ c ∈ cs, c ≠ x.toNat) : ∀ b ∈ chars cs, b ≠ x := by
  intro b hb
  unfold chars at hb
  obtain ⟨c, hc, hb⟩ := List.mem_flatMap.1 hb
  exact put_no x hx c (hf c hc) (h c hc) b hb

theorem escV_no (x : UInt8) (hx : x = 34 ∨ x = 60) (c : Nat) (hf : fineB c = true) : ∀ b ∈ escB escV c, b ≠ x := by
  by_cases hk : c = 38 ∨ c = 60 ∨ c = 62 ∨ c = 13 ∨ c = 34 ∨ c = 9 ∨ c = 10
  · rcases hx with rfl | rfl <;> rcases hk with rfl | rfl | rfl | rfl | rfl | rfl | rfl <;> decide
  · have : escB escV c = put c := escB_none (by
      intro p hp
      simp only [escV, List.mem_cons, List.not_mem_nil, or_false] at hp
      rcases hp with rfl | rfl | rfl | rfl | rfl | rfl | rfl <;> (simp only []; omega))
    rw [this]
    rcases hx with rfl | rfl
    · exact put_no 34 (by decide) c hf (fun e => hk (by have e' : c = 34 := e; omega))
    · exact put_no 60 (by decide) c hf (fun e => hk (by have e' : c = 60 := e; omega))
theorem escL_no (x : UInt8) (hx : x = 34 ∨ x = 60) (vs : List Nat) (hf : allFine vs) : ∀ b ∈ escL escV (chars vs), b ≠ x := by
  intro b hb
  rw [escL_chars escV vs hf] at hb
  obtain ⟨c, hc, hb⟩ := List.mem_flatMap.1 hb
  exact escV_no x hx c (hf c hc) b hb

/-- A name's first byte. -/
def headB (b : UInt8) : Prop := (97 ≤ b.toNat ∧ b.toNat ≤ 122) ∨ (65 ≤ b.toNat ∧ b.toNat ≤ 90) ∨ b.toNat = 95 ∨ 128 ≤ b.toNat
theorem name_head {cs : List Nat} (h : NameCs cs) : ∃ b r, chars cs = b :: r ∧ headB b := by
  obtain ⟨hf, c, t, rfl, hfc, _⟩ := h
  have hfi := hf c List.mem_cons_self
  rw [chars_cons]
  by_cases hc : c < 128
  · rw [encode_ascii c hc]
    refine ⟨UInt8.ofNat c, chars t, rfl, ?_⟩
    have e : (UInt8.ofNat c).toNat = c := by rw [UInt8.toNat_ofNat']; omega
    unfold headB
    rw [e]
    unfold firstB letterB at hfc
    rw [Bool.or_eq_true, Bool.and_eq_true, decide_eq_true_iff, decide_eq_true_iff] at hfc
    omega
  · have hp := put_big c (by omega) hfi
    have hl := put_len c
    cases hq : put c with
    | nil => rw [hq] at hl; simp at hl
    | cons b r =>
      rw [hq] at hp
      exact ⟨b, r ++ chars t, rfl, Or.inr (Or.inr (Or.inr (hp b List.mem_cons_self)))⟩

theorem name_not (x : Nat) (hx : nameB (x : Nat) = false) {cs : List Nat} (h : NameCs cs) : ∀ c ∈ cs, c ≠ x := by
  obtain ⟨_, _, _, _, _, hn⟩ := h
  intro c hc e
  rw [e] at hc
  rw [hn x hc] at hx
  cases hx

theorem cutB_no (q : UInt8) : ∀ (l r : List UInt8), (∀ b ∈ l, b ≠ q) → cutB q (l ++ q :: r) = (l, r, true)
  | [], r, _ => by show cutB q (q :: r) = _; unfold cutB; rw [if_pos rfl]
  | x :: l, r, h => by
    rw [List.cons_append]
    unfold cutB
    rw [if_neg (h x List.mem_cons_self), cutB_no q l r (fun b hb => h b (List.mem_cons_of_mem _ hb))]

theorem drop_app {a b : List UInt8} {n : Nat} (h : n = a.length) : (a ++ b).drop n = b := by subst h; simp

theorem trim_head {b : UInt8} {r : List UInt8} (h : b.toNat ≠ 32 ∧ b.toNat ≠ 9 ∧ b.toNat ≠ 13 ∧ b.toNat ≠ 10) : Lib.trimLeftS (b :: r) blanksL = b :: r := by
  unfold Lib.trimLeftS
  rw [List.dropWhile_cons, if_neg]
  intro hc
  have hm : b ∈ blanksL := by simpa using hc
  simp only [blanksL, List.mem_cons, List.not_mem_nil, or_false] at hm
  rcases hm with rfl | rfl | rfl | rfl
  · exact h.1 rfl
  · exact h.2.1 rfl
  · exact h.2.2.1 rfl
  · exact h.2.2.2 rfl
theorem blank_head {b : UInt8} {r : List UInt8} (h : b.toNat ≠ 32 ∧ b.toNat ≠ 9 ∧ b.toNat ≠ 13 ∧ b.toNat ≠ 10) : blankN (b :: r) = 0 := by
  unfold blankN; rw [trim_head h]; omega
theorem blank_one {b : UInt8} {r : List UInt8} (h : b.toNat ≠ 32 ∧ b.toNat ≠ 9 ∧ b.toNat ≠ 13 ∧ b.toNat ≠ 10) : blankN (32 :: b :: r) = 1 := by
  unfold blankN
  have : Lib.trimLeftS (32 :: b :: r) blanksL = b :: r := by
    unfold Lib.trimLeftS
    rw [List.dropWhile_cons, if_pos (by decide)]
    exact trim_head h
  rw [this]
  simp
theorem headB_ne {b : UInt8} (h : headB b) : (b.toNat ≠ 32 ∧ b.toNat ≠ 9 ∧ b.toNat ≠ 13 ∧ b.toNat ≠ 10) ∧ b.toNat ≠ 62 ∧ b.toNat ≠ 47 ∧ b.toNat ≠ 33 ∧ b.toNat ≠ 63 := by
  unfold headB at h; omega
theorem pre1 {b x : UInt8} {r t : List UInt8} (h : b.toNat ≠ x.toNat) : Lib.hasPrefix (b :: r) (x :: t) = false := by
  unfold Lib.hasPrefix
  have : (x == b) = false := by rw [beq_eq_false_iff_ne]; intro e; exact h (by rw [e])
  simp [List.isPrefixOf, this]

/-- A tag's bytes up to behind its attribute. -/
def tagH (cs ds vs : List Nat) : List UInt8 := [60] ++ chars cs ++ ([32] ++ chars ds ++ [61, 34] ++ escL escV (chars vs) ++ [34])

end Go.Proofs.YtblhpkcdemefaaaGreatDoor

namespace Go.Proofs.YtblhpkcdemefaaaGreatDoor

theorem nm32 (r : List UInt8) : nameB (Lib.decodeL (32 :: r)).1 = false := by rw [dec_ascii 32 r (by decide)]; decide
theorem nm61 (r : List UInt8) : nameB (Lib.decodeL (61 :: r)).1 = false := by rw [dec_ascii 61 r (by decide)]; decide

theorem xName_at {s : List UInt8} {st : St} {cs : List Nat} {r : List UInt8} (h0 : st.be = 0) (hd : s.drop st.i = chars cs ++ r) (hc : NameCs cs) (hs : splitB (chars cs) = true) (hr : r ≠ [] → nameB (Lib.decodeL r).1 = false) :
    xName s st = (xMove st (chars cs).length, chars cs) := by
  unfold xName
  rw [if_neg (by omega), hd, nameL_chars cs r hc hr]
  obtain ⟨b, t, hb, _⟩ := name_head hc
  rw [if_neg (by rw [hb]; simp), if_pos hs]

section
variable {cs ds vs : List Nat} {tl : List UInt8}

theorem tag_eq : tagH cs ds vs ++ tl = 60 :: (chars cs ++ 32 :: (chars ds ++ 61 :: 34 :: (escL escV (chars vs) ++ 34 :: tl))) := by
  unfold tagH; simp
theorem tag_len : (tagH cs ds vs).length = (chars cs).length + (chars ds).length + (escL escV (chars vs)).length + 5 := by
  unfold tagH; simp; omega
theorem d1 : (tagH cs ds vs ++ tl).drop 1 = chars cs ++ 32 :: (chars ds ++ 61 :: 34 :: (escL escV (chars vs) ++ 34 :: tl)) := by rw [tag_eq]; rfl
theorem d2 : (tagH cs ds vs ++ tl).drop (1 + (chars cs).length) = 32 :: (chars ds ++ 61 :: 34 :: (escL escV (chars vs) ++ 34 :: tl)) := by
  rw [← List.drop_drop, d1]; exact drop_app rfl
theorem d3 : (tagH cs ds vs ++ tl).drop (1 + (chars cs).length + 1) = chars ds ++ 61 :: 34 :: (escL escV (chars vs) ++ 34 :: tl) := by
  rw [← List.drop_drop, d2]; rfl
theorem d4 : (tagH cs ds vs ++ tl).drop (1 + (chars cs).length + 1 + (chars ds).length) = 61 :: 34 :: (escL escV (chars vs) ++ 34 :: tl) := by
  rw [← List.drop_drop, d3]; exact drop_app rfl
theorem d5 : (tagH cs ds vs ++ tl).drop (1 + (chars cs).length + 1 + (chars ds).length + 1) = 34 :: (escL escV (chars vs) ++ 34 :: tl) := by
  rw [← List.drop_drop, d4]; rfl
theorem d6 : (tagH cs ds vs ++ tl).drop (1 + (chars cs).length + 1 + (chars ds).length + 1 + 1) = escL escV (chars vs) ++ 34 :: tl := by
  rw [← List.drop_drop, d5]; rfl
theorem d7 : (tagH cs ds vs ++ tl).drop (tagH cs ds vs).length = tl := drop_app rfl

/-- The place behind the attribute. -/
theorem tag_pos : 1 + (chars cs).length + 1 + (chars ds).length + 1 + 1 + ((escL escV (chars vs)).length + 1) = (tagH cs ds vs).length := by rw [tag_len]; omega

theorem attr_at (hd : NameCs ds) (hsd : splitB (chars ds) = true) (hv : allFine vs) :
    xAttr (tagH cs ds vs ++ tl) ⟨1 + (chars cs).length + 1, 0, 0, []⟩ [] = (⟨(tagH cs ds vs).length, 0, 0, []⟩, ⟨chars ds, chars vs, 1 + (chars cs).length + 1⟩) := by
  have hN : xName (tagH cs ds vs ++ tl) ⟨1 + (chars cs).length + 1, 0, 0, []⟩ = (⟨1 + (chars cs).length + 1 + (chars ds).length, 0, 0, []⟩, chars ds) :=
    xName_at (st := ⟨1 + (chars cs).length + 1, 0, 0, []⟩) rfl d3 hd hsd (fun _ => nm61 _)
  have hB1 : xBlank (tagH cs ds vs ++ tl) ⟨1 + (chars cs).length + 1 + (chars ds).length, 0, 0, []⟩ = ⟨1 + (chars cs).length + 1 + (chars ds).length, 0, 0, []⟩ := by
    unfold xBlank
    simp only []
    rw [d4, blank_head (by decide)]
    rfl
  have hN1 : xNeed (tagH cs ds vs ++ tl) ⟨1 + (chars cs).length + 1 + (chars ds).length, 0, 0, []⟩ [61] = ⟨1 + (chars cs).length + 1 + (chars ds).length + 1, 0, 0, []⟩ := by
    unfold xNeed xTake
    simp only []
    rw [d4]
    rfl
  have hB2 : xBlank (tagH cs ds vs ++ tl) ⟨1 + (chars cs).length + 1 + (chars ds).length + 1, 0, 0, []⟩ = ⟨1 + (chars cs).length + 1 + (chars ds).length + 1, 0, 0, []⟩ := by
    unfold xBlank
    simp only []
    rw [d5, blank_head (by decide)]
    rfl
  have hcut : cutB 34 (escL escV (chars vs) ++ 34 :: tl) = (escL escV (chars vs), tl, true) := cutB_no 34 _ _ (escL_no 34 (Or.inl rfl) vs hv)
  have hV : xValue (tagH cs ds vs ++ tl) ⟨1 + (chars cs).length + 1 + (chars ds).length + 1, 0, 0, []⟩ = (⟨(tagH cs ds vs).length, 0, 0, []⟩, chars vs) := by
    unfold xValue
    rw [if_neg (fun h => h rfl)]
    simp only []
    rw [d5, if_pos (by rfl)]
    unfold xValueIn xUntil xMove
    simp only []
    rw [d6, hcut]
    simp only []
    rw [back_V vs hv]
    simp only [if_true]
    rw [d6, cut_cutB, hcut]
    simp only [if_true]
    rw [show [(34 : UInt8)].length = 1 from rfl, tag_pos]
  rw [show xAttr (tagH cs ds vs ++ tl) ⟨1 + (chars cs).length + 1, 0, 0, []⟩ [] = ((xAttrB (tagH cs ds vs ++ tl) (xTwice (xName (tagH cs ds vs ++ tl) ⟨1 + (chars cs).length + 1, 0, 0, []⟩).1 (1 + (chars cs).length + 1) (xName (tagH cs ds vs ++ tl) ⟨1 + (chars cs).length + 1, 0, 0, []⟩).2 [])).1, ⟨(xName (tagH cs ds vs ++ tl) ⟨1 + (chars cs).length + 1, 0, 0, []⟩).2, (xAttrB (tagH cs ds vs ++ tl) (xTwice (xName (tagH cs ds vs ++ tl) ⟨1 + (chars cs).length + 1, 0, 0, []⟩).1 (1 + (chars cs).length + 1) (xName (tagH cs ds vs ++ tl) ⟨1 + (chars cs).length + 1, 0, 0, []⟩).2 [])).2, 1 + (chars cs).length + 1⟩) from rfl]
  rw [hN]
  have hT : xTwice ⟨1 + (chars cs).length + 1 + (chars ds).length, 0, 0, []⟩ (1 + (chars cs).length + 1) (chars ds) [] = ⟨1 + (chars cs).length + 1 + (chars ds).length, 0, 0, []⟩ := rfl
  simp only []
  rw [hT]
  unfold xAttrB
  rw [hB1, hN1, hB2, hV]

theorem attrs_at (hc : NameCs cs) (hd : NameCs ds) (hsd : splitB (chars ds) = true) (hv : allFine vs) (f : Nat) :
    xAttrs (tagH cs ds vs ++ tl) (f + 1) ⟨1 + (chars cs).length, 0, 0, []⟩ [] = xAttrs (tagH cs ds vs ++ tl) f ⟨(tagH cs ds vs).length, 0, 0, []⟩ [⟨chars ds, chars vs, 1 + (chars cs).length + 1⟩] := by
  obtain ⟨b, r, hb, hh⟩ := name_head hd
  have hne := headB_ne hh
  have hbl : blankN ((tagH cs ds vs ++ tl).drop (1 + (chars cs).length)) = 1 := by
    rw [d2, hb, List.cons_append]; exact blank_one hne.1
  have hB : xBlank (tagH cs ds vs ++ tl) ⟨1 + (chars cs).length, 0, 0, []⟩ = ⟨1 + (chars cs).length + 1, 0, 0, []⟩ := by
    unfold xBlank xMove; simp only []; rw [hbl]
  have h3 : (tagH cs ds vs ++ tl).drop (1 + (chars cs).length + 1) = b :: (r ++ 61 :: 34 :: (escL escV (chars vs) ++ 34 :: tl)) := by rw [d3, hb]; rfl
  rw [attrs_next rfl (Nat.succ_pos f) (by rw [hB]; simp only []; rw [h3]; exact pre1 hne.2.1) (by rw [hB]; simp only []; rw [h3]; exact pre1 hne.2.2.1) (by simp only []; rw [hbl]; decide)]
  rw [hB, attr_at hd hsd hv]
  rfl

theorem open_at (hc : NameCs cs) (hsc : splitB (chars cs) = true) (hd : NameCs ds) (hsd : splitB (chars ds) = true) (hv : allFine vs) :
    xOne (tagH cs ds vs ++ tl) ⟨0, 0, 0, []⟩ = xOpenB (tagH cs ds vs ++ tl) (xAttrs (tagH cs ds vs ++ tl) (tagH cs ds vs ++ tl).length ⟨(tagH cs ds vs).length, 0, 0, []⟩ [⟨chars ds, chars vs, 1 + (chars cs).length + 1⟩]).1 0 (chars cs) (xAttrs (tagH cs ds vs ++ tl) (tagH cs ds vs ++ tl).length ⟨(tagH cs ds vs).length, 0, 0, []⟩ [⟨chars ds, chars vs, 1 + (chars cs).length + 1⟩]).2 := by
  obtain ⟨b, r, hb, hh⟩ := name_head hc
  have hne := headB_ne hh
  have h0 : (tagH cs ds vs ++ tl).drop 0 = 60 :: b :: (r ++ 32 :: (chars ds ++ 61 :: 34 :: (escL escV (chars vs) ++ 34 :: tl))) := by rw [List.drop_zero, tag_eq, hb]; rfl
  have hp : ∀ (x : UInt8) (t : List UInt8), b.toNat ≠ x.toNat → Lib.hasPrefix ((tagH cs ds vs ++ tl).drop 0) (60 :: x :: t) = false := by
    intro x t hx
    rw [h0]
    have := pre1 (b := b) (x := x) (r := r ++ 32 :: (chars ds ++ 61 :: 34 :: (escL escV (chars vs) ++ 34 :: tl))) (t := t) hx
    unfold Lib.hasPrefix at this ⊢
    simpa [List.isPrefixOf] using this
  have hD : isDecl (tagH cs ds vs ++ tl) ⟨0, 0, 0, []⟩ = false := by unfold isDecl; simp only []; rw [hp 63 _ hne.2.2.2.2]; rfl
  have hT : ∀ (x : UInt8) (t : List UInt8), b.toNat ≠ x.toNat → xTake (tagH cs ds vs ++ tl) ⟨0, 0, 0, []⟩ (60 :: x :: t) = false := by
    intro x t hx; unfold xTake; simp only []; rw [hp x t hx, Bool.and_false]
  have hO : xTake (tagH cs ds vs ++ tl) ⟨0, 0, 0, []⟩ [60] = true := by unfold xTake; simp only []; rw [h0]; rfl
  unfold xOne
  rw [hD, hT 33 _ hne.2.2.2.1, hT 33 _ hne.2.2.2.1, hT 47 _ hne.2.2.1, hO]
  simp only [Bool.false_eq_true, if_false, if_true]
  rw [hp 33 _ hne.2.2.2.1, hp 63 _ hne.2.2.2.2]
  simp only [Bool.false_eq_true, or_self, if_false]
  have hN : xName (tagH cs ds vs ++ tl) (xMove ⟨0, 0, 0, []⟩ 1) = (⟨1 + (chars cs).length, 0, 0, []⟩, chars cs) := by
    have := xName_at (s := tagH cs ds vs ++ tl) (st := ⟨1, 0, 0, []⟩) rfl d1 hc hsc (fun _ => nm32 _)
    exact this
  unfold xOpen
  rw [hN]
  simp only []
  rw [attrs_at hc hd hsd hv]

end
end Go.Proofs.YtblhpkcdemefaaaGreatDoor

namespace Go.Proofs.YtblhpkcdemefaaaGreatDoor

theorem esc_chars : ∀ vs : List Nat, allFine vs → ∃ es, allFine es ∧ vs.flatMap (escB escV) = chars es
  | [], _ => ⟨[], allFine_nil, rfl⟩
  | c :: vs, h => by
    obtain ⟨es, he, hes⟩ := esc_chars vs (fun x hx => h x (List.mem_cons_of_mem _ hx))
    have hfc := h c List.mem_cons_self
    have key : ∃ ks, allFine ks ∧ escB escV c = chars ks := by
      by_cases hk : c = 38 ∨ c = 60 ∨ c = 62 ∨ c = 13 ∨ c = 34 ∨ c = 9 ∨ c = 10
      · rcases hk with rfl | rfl | rfl | rfl | rfl | rfl | rfl
        · exact ⟨[38, 97, 109, 112, 59], by unfold allFine; decide, by decide⟩
        · exact ⟨[38, 108, 116, 59], by unfold allFine; decide, by decide⟩
        · exact ⟨[38, 103, 116, 59], by unfold allFine; decide, by decide⟩
        · exact ⟨[38, 35, 49, 51, 59], by unfold allFine; decide, by decide⟩
        · exact ⟨[38, 113, 117, 111, 116, 59], by unfold allFine; decide, by decide⟩
        · exact ⟨[38, 35, 57, 59], by unfold allFine; decide, by decide⟩
        · exact ⟨[38, 35, 49, 48, 59], by unfold allFine; decide, by decide⟩
      · refine ⟨[c], fun x hx => by rw [List.mem_singleton] at hx; subst hx; exact hfc, ?_⟩
        have : escB escV c = put c := escB_none (by
          intro p hp
          simp only [escV, List.mem_cons, List.not_mem_nil, or_false] at hp
          rcases hp with rfl | rfl | rfl | rfl | rfl | rfl | rfl <;> (simp only []; omega))
        rw [this, chars_cons, chars_nil, List.append_nil]
    obtain ⟨ks, hk, hks⟩ := key
    refine ⟨ks ++ es, fun x hx => (List.mem_append.1 hx).elim (hk x) (he x), ?_⟩
    rw [List.flatMap_cons, chars_append, hks, hes]

theorem check_tag {cs ds vs tls : List Nat} (hc : NameCs cs) (hd : NameCs ds) (hv : allFine vs) (ht : allFine tls) : (checkL (tagH cs ds vs ++ chars tls)).2 = true := by
  obtain ⟨es, he, hes⟩ := esc_chars vs hv
  have hE : escL escV (chars vs) = chars es := by rw [escL_chars escV vs hv, hes]
  have hs : tagH cs ds vs ++ chars tls = chars ([60] ++ cs ++ [32] ++ ds ++ [61, 34] ++ es ++ [34] ++ tls) := by
    unfold tagH
    rw [hE]
    simp only [chars_append]
    have c1 : chars [60] = [60] := by decide
    have c2 : chars [32] = [32] := by decide
    have c3 : chars [61, 34] = [61, 34] := by decide
    have c4 : chars [34] = [34] := by decide
    rw [c1, c2, c3, c4]
    simp
  have hf : allFine ([60] ++ cs ++ [32] ++ ds ++ [61, 34] ++ es ++ [34] ++ tls) := by
    have k : ∀ l : List Nat, (∀ c ∈ l, fineB (c : Nat) = true) → allFine l := fun l h => h
    have app : ∀ a b : List Nat, allFine a → allFine b → allFine (a ++ b) := fun a b ha hb x hx => (List.mem_append.1 hx).elim (ha x) (hb x)
    exact app _ _ (app _ _ (app _ _ (app _ _ (app _ _ (app _ _ (app _ _ (by unfold allFine; decide) hc.1) (by unfold allFine; decide)) hd.1) (by unfold allFine; decide)) he) (by unfold allFine; decide)) ht
  rw [hs, checkL_chars _ hf]

section
variable {cs ds vs : List Nat} (hc : NameCs cs) (hsc : splitB (chars cs) = true) (hd : NameCs ds) (hsd : splitB (chars ds) = true) (hv : allFine vs)

theorem tok_of {s : List UInt8} {st : St} (hl : s.length ≤ 16777216) (hck : (checkL s).2 = true) (h0 : s ≠ []) (h1 : xOne s ⟨0, 0, 0, []⟩ = st) (h2 : st.be ≠ 0 ∨ s.drop st.i = []) :
    tokL s = if st.be ≠ 0 then ([], st.bat, st.be) else (st.out, s.length, 0) := by
  have hA : xAll s = st := by
    unfold xAll
    rw [loop_next (s := s) (st := ⟨0, 0, 0, []⟩) (Nat.succ_pos _) rfl (by simp only [List.drop_zero]; exact h0), h1]
    exact loop_stop h2
  unfold tokL
  rw [if_neg (by omega), if_neg (by rw [hck]; decide), hA]

theorem blank_nil : blankN [] = 0 := rfl
theorem xBlank_same {s : List UInt8} {st : St} (h : blankN (s.drop st.i) = 0) : xBlank s st = st := by
  unfold xBlank xMove; rw [h]; rfl

include hc hsc hd hsd hv
/-- Closed by >. -/
theorem tok_gt (hl : (tagH cs ds vs).length ≤ 10000000) : tokL (tagH cs ds vs ++ [62]) = ([⟨0, 0, chars cs, [⟨chars ds, chars vs, 1 + (chars cs).length + 1⟩]⟩], (tagH cs ds vs).length + 1, 0) := by
  have hck : (checkL (tagH cs ds vs ++ [62])).2 = true := by have := check_tag (tls := [62]) hc hd hv (by unfold allFine; decide); rw [show chars [62] = [62] from by decide] at this; exact this
  have hlen : (tagH cs ds vs ++ [62]).length = (tagH cs ds vs).length + 1 := by simp
  have hB : xBlank (tagH cs ds vs ++ [62]) ⟨(tagH cs ds vs).length, 0, 0, []⟩ = ⟨(tagH cs ds vs).length, 0, 0, []⟩ := xBlank_same (by rw [d7]; exact blank_head (by decide))
  have hA := attrs_gt (s := tagH cs ds vs ++ [62]) (f := (tagH cs ds vs ++ [62]).length) (st := ⟨(tagH cs ds vs).length, 0, 0, []⟩) (l := [⟨chars ds, chars vs, 1 + (chars cs).length + 1⟩]) rfl (by omega) (Or.inl (by rw [hB, d7]; rfl))
  have hO := open_at (tl := [62]) hc hsc hd hsd hv
  rw [hA, hB] at hO
  have hX : xOpenB (tagH cs ds vs ++ [62]) ⟨(tagH cs ds vs).length, 0, 0, []⟩ 0 (chars cs) [⟨chars ds, chars vs, 1 + (chars cs).length + 1⟩] = ⟨(tagH cs ds vs).length + 1, 0, 0, [⟨0, 0, chars cs, [⟨chars ds, chars vs, 1 + (chars cs).length + 1⟩]⟩]⟩ := by
    unfold xOpenB xNeed xTake
    simp only []
    rw [d7]
    rfl
  simp only [] at hO
  rw [hX] at hO
  rw [tok_of (by omega) hck (by simp [tagH]) hO (Or.inr (by simp only []; rw [List.drop_eq_nil_of_le (by omega)]))]
  rw [if_neg (fun h => h rfl), hlen]

/-- Closed by />. -/
theorem tok_sl (hl : (tagH cs ds vs).length ≤ 10000000) : tokL (tagH cs ds vs ++ [47, 62]) = ([⟨2, 0, chars cs, [⟨chars ds, chars vs, 1 + (chars cs).length + 1⟩]⟩], (tagH cs ds vs).length + 2, 0) := by
  have hck : (checkL (tagH cs ds vs ++ [47, 62])).2 = true := by have := check_tag (tls := [47, 62]) hc hd hv (by unfold allFine; decide); rw [show chars [47, 62] = [47, 62] from by decide] at this; exact this
  have hlen : (tagH cs ds vs ++ [47, 62]).length = (tagH cs ds vs).length + 2 := by simp
  have hB : xBlank (tagH cs ds vs ++ [47, 62]) ⟨(tagH cs ds vs).length, 0, 0, []⟩ = ⟨(tagH cs ds vs).length, 0, 0, []⟩ := xBlank_same (by rw [d7]; exact blank_head (by decide))
  have hA := attrs_gt (s := tagH cs ds vs ++ [47, 62]) (f := (tagH cs ds vs ++ [47, 62]).length) (st := ⟨(tagH cs ds vs).length, 0, 0, []⟩) (l := [⟨chars ds, chars vs, 1 + (chars cs).length + 1⟩]) rfl (by omega) (Or.inr (by rw [hB, d7]; rfl))
  have hO := open_at (tl := [47, 62]) hc hsc hd hsd hv
  rw [hA, hB] at hO
  have h8 : (tagH cs ds vs ++ [47, 62]).drop ((tagH cs ds vs).length + 1) = [62] := by rw [← List.drop_drop, d7]; rfl
  have hX : xOpenB (tagH cs ds vs ++ [47, 62]) ⟨(tagH cs ds vs).length, 0, 0, []⟩ 0 (chars cs) [⟨chars ds, chars vs, 1 + (chars cs).length + 1⟩] = ⟨(tagH cs ds vs).length + 2, 0, 0, [⟨2, 0, chars cs, [⟨chars ds, chars vs, 1 + (chars cs).length + 1⟩]⟩]⟩ := by
    unfold xOpenB xNeed xTake xMove
    simp only []
    rw [d7, h8]
    rfl
  simp only [] at hO
  rw [hX] at hO
  rw [tok_of (by omega) hck (by simp [tagH]) hO (Or.inr (by simp only []; rw [List.drop_eq_nil_of_le (by omega)]))]
  rw [if_neg (fun h => h rfl), hlen]

/-- Unclosed, behind the attribute. -/
theorem tok_no (hl : (tagH cs ds vs).length ≤ 10000000) : tokL (tagH cs ds vs) = ([], (tagH cs ds vs).length, 10) := by
  have e : tagH cs ds vs = tagH cs ds vs ++ [] := (List.append_nil _).symm
  have hck : (checkL (tagH cs ds vs ++ [])).2 = true := check_tag (tls := []) hc hd hv allFine_nil
  have hlen : (tagH cs ds vs ++ []).length = (tagH cs ds vs).length := by simp
  have hB : xBlank (tagH cs ds vs ++ []) ⟨(tagH cs ds vs).length, 0, 0, []⟩ = ⟨(tagH cs ds vs).length, 0, 0, []⟩ := xBlank_same (by rw [d7]; rfl)
  have hpos : 0 < (tagH cs ds vs).length := by rw [tag_len]; omega
  have hA := attrs_miss (s := tagH cs ds vs ++ []) (f := (tagH cs ds vs ++ []).length) (st := ⟨(tagH cs ds vs).length, 0, 0, []⟩) (l := [⟨chars ds, chars vs, 1 + (chars cs).length + 1⟩]) rfl (by omega) (by rw [hB, d7]; rfl) (by rw [hB, d7]; rfl) (by rw [d7]; rfl)
  have hO := open_at (tl := []) hc hsc hd hsd hv
  rw [hA, hB] at hO
  have hM : xMiss (tagH cs ds vs ++ []) ⟨(tagH cs ds vs).length, 0, 0, []⟩ = ⟨(tagH cs ds vs).length, (tagH cs ds vs).length, 10, []⟩ := by
    unfold xMiss xFail
    simp only []
    rw [d7, hlen]
    simp
  have hX : xOpenB (tagH cs ds vs ++ []) ⟨(tagH cs ds vs).length, (tagH cs ds vs).length, 10, []⟩ 0 (chars cs) [⟨chars ds, chars vs, 1 + (chars cs).length + 1⟩] = ⟨(tagH cs ds vs).length, (tagH cs ds vs).length, 10, [⟨0, 0, chars cs, [⟨chars ds, chars vs, 1 + (chars cs).length + 1⟩]⟩]⟩ := by
    unfold xOpenB xNeed xTake xMiss xFail
    simp only []
    rw [d7]
    rfl
  simp only [] at hO
  rw [hM, hX] at hO
  rw [show tokL (tagH cs ds vs) = tokL (tagH cs ds vs ++ []) from by rw [← e]]
  rw [tok_of (by omega) hck (by simp [tagH]) hO (Or.inl (by show (10 : Nat) ≠ 0; decide))]
  rw [if_pos (by show (10 : Nat) ≠ 0; decide)]

/-- Unclosed, behind the slash. -/
theorem tok_ns (hl : (tagH cs ds vs).length ≤ 10000000) : tokL (tagH cs ds vs ++ [47]) = ([], (tagH cs ds vs).length + 1, 10) := by
  have hck : (checkL (tagH cs ds vs ++ [47])).2 = true := by have := check_tag (tls := [47]) hc hd hv (by unfold allFine; decide); rw [show chars [47] = [47] from by decide] at this; exact this
  have hlen : (tagH cs ds vs ++ [47]).length = (tagH cs ds vs).length + 1 := by simp
  have hB : xBlank (tagH cs ds vs ++ [47]) ⟨(tagH cs ds vs).length, 0, 0, []⟩ = ⟨(tagH cs ds vs).length, 0, 0, []⟩ := xBlank_same (by rw [d7]; exact blank_head (by decide))
  have hA := attrs_gt (s := tagH cs ds vs ++ [47]) (f := (tagH cs ds vs ++ [47]).length) (st := ⟨(tagH cs ds vs).length, 0, 0, []⟩) (l := [⟨chars ds, chars vs, 1 + (chars cs).length + 1⟩]) rfl (by omega) (Or.inr (by rw [hB, d7]; rfl))
  have hO := open_at (tl := [47]) hc hsc hd hsd hv
  rw [hA, hB] at hO
  have h8 : (tagH cs ds vs ++ [47]).drop ((tagH cs ds vs).length + 1) = [] := List.drop_eq_nil_of_le (by omega)
  have hX : xOpenB (tagH cs ds vs ++ [47]) ⟨(tagH cs ds vs).length, 0, 0, []⟩ 0 (chars cs) [⟨chars ds, chars vs, 1 + (chars cs).length + 1⟩] = ⟨(tagH cs ds vs).length + 1, (tagH cs ds vs).length + 1, 10, [⟨2, 0, chars cs, [⟨chars ds, chars vs, 1 + (chars cs).length + 1⟩]⟩]⟩ := by
    unfold xOpenB xNeed xTake xMove xMiss xFail
    simp only []
    rw [d7, h8, hlen]
    rfl
  simp only [] at hO
  rw [hX] at hO
  rw [tok_of (by omega) hck (by simp [tagH]) hO (Or.inl (by show (10 : Nat) ≠ 0; decide))]
  rw [if_pos (by show (10 : Nat) ≠ 0; decide)]
end

/-- No <![CDATA[ stands in a tag's bytes. -/
theorem tag_free {cs ds vs : List Nat} {tl : List UInt8} (hc : NameCs cs) (hd : NameCs ds) (hv : allFine vs) (ht : ∀ b ∈ tl, b ≠ 60) : ∀ i, Lib.hasPrefix ((tagH cs ds vs ++ tl).drop i) [60, 33, 91, 67, 68, 65, 84, 65, 91] = false := by
  obtain ⟨b, r, hb, hh⟩ := name_head hc
  have hne := headB_ne hh
  intro i
  cases i with
  | zero =>
    rw [List.drop_zero, tag_eq, hb]
    have := pre1 (b := b) (x := 33) (r := r ++ 32 :: (chars ds ++ 61 :: 34 :: (escL escV (chars vs) ++ 34 :: tl))) (t := [91, 67, 68, 65, 84, 65, 91]) hne.2.2.2.1
    unfold Lib.hasPrefix at this ⊢
    simpa [List.isPrefixOf] using this
  | succ i =>
    have h60 : ∀ x ∈ (tagH cs ds vs ++ tl).drop (i + 1), x ≠ 60 := by
      intro x hx
      have hx' : x ∈ chars cs ++ 32 :: (chars ds ++ 61 :: 34 :: (escL escV (chars vs) ++ 34 :: tl)) := by
        rw [tag_eq, List.drop_succ_cons] at hx
        exact List.mem_of_mem_drop hx
      have n1 := chars_no 60 (by decide) cs hc.1 (name_not 60 (by decide) hc)
      have n2 := chars_no 60 (by decide) ds hd.1 (name_not 60 (by decide) hd)
      have n3 := escL_no 60 (Or.inr rfl) vs hv
      simp only [List.mem_append, List.mem_cons] at hx'
      rcases hx' with h | rfl | h | rfl | rfl | h | rfl | h
      · exact n1 x h
      · decide
      · exact n2 x h
      · decide
      · decide
      · exact n3 x h
      · decide
      · exact ht x h
    cases hd' : (tagH cs ds vs ++ tl).drop (i + 1) with
    | nil => rfl
    | cons x r' =>
      rw [hd'] at h60
      have := h60 x List.mem_cons_self
      exact pre1 (fun e => this (UInt8.toNat_inj.1 e))
end Go.Proofs.YtblhpkcdemefaaaGreatDoor

namespace Go.Proofs.YtblhpkcdemefaaaGreatDoor
open Go.RowKit

theorem one_at (w : World) (g h : Nat) (k : Int) (n0 n1 v : List UInt8) (hg : w.heap[g]? = some (.cells #[.int .i64 k, .int .i64 0, .string ⟨n0.toArray⟩, .slice (some ⟨h, 0, none⟩) 1 1] 30 (0, 0)))
    (hh : w.heap[h]? = some (.cells #[.int .i64 0, .string ⟨n1.toArray⟩, .string ⟨v.toArray⟩] 32 (0, 0))) : ToksAt w (.slice (some ⟨g, 0, none⟩) 1 1) [⟨k, 0, n0, [⟨0, n1, v⟩]⟩] := by
  refine ⟨some ⟨g, 0, none⟩, 1, rfl, Nat.le_refl _, fun i hi => ?_⟩
  have hi1 : i < 1 := hi
  obtain rfl : i = 0 := by omega
  refine ⟨g, 0, .slice (some ⟨h, 0, none⟩) 1 1, rfl, blk4_c0 hg, blk4_c1 hg, blk4_c2 hg, blk4_c3 hg, some ⟨h, 0, none⟩, 1, rfl, Nat.le_refl _, fun j hj => ?_⟩
  have hj1 : j < 1 := hj
  obtain rfl : j = 0 := by omega
  exact ⟨h, 0, rfl, blk_c0 hh, blk_c1 hh, blk_c2 hh⟩

theorem own_cap {w : World} {base n cap g : Nat} {e : TypeId} {size : Nat} {xs : List Value} (h : w.ownsRow base e size (.slice (some ⟨g, 0, none⟩) n cap) n xs) : n ≤ cap := by
  rcases h.2 with ⟨h1, _⟩ | ⟨g', cap', cur, hv, _, _, hn, _⟩
  · cases h1
  · cases hv; exact hn
theorem own_bytes {w : World} {base N cap g : Nat} {l : List UInt8} (h : w.ownsRow base 5 1 (.slice (some ⟨g, 0, none⟩) N cap) N (Lib.byteCells l)) (hN : l.length = N) : bytesAt w g 0 l := by
  intro j hj
  have := h.cells (g := g) rfl j (.int .u8 (l.getD j 0).toNat) (by simp [Lib.byteCells, List.getD_eq_getElem?_getD, hj])
  rw [Addr.add_lit] at this
  exact this
theorem bytes_pre {w : World} {b off : Nat} {l m : List UInt8} (h : bytesAt w b off (l ++ m)) : bytesAt w b off l := by
  intro j hj
  have := h j (by rw [List.length_append]; omega)
  rw [this]
  simp [List.getD_eq_getElem?_getD, List.getElem?_append_left hj]

theorem attrs_one (n1 v : List UInt8) : attrsL [⟨0, n1, v⟩] = if splitB n1 = false then ([], 6) else if (checkL v).2 = false then ([], 4) else (attrW ⟨0, n1, v⟩, 0) := by
  unfold attrsL attrsGo attrE
  simp only [List.any_nil, Bool.false_eq_true, if_false]
  cases splitB n1 <;> cases (checkL v).2 <;> rfl

theorem tokW_0 (n0 n1 v : List UInt8) : (splitB n0 = true → splitB n1 = true → (checkL v).2 = true → tokW ⟨0, 0, n0, [⟨0, n1, v⟩]⟩ false = ([60] ++ n0 ++ attrW ⟨0, n1, v⟩ ++ [62], 0)) ∧
    (¬ (splitB n0 = true ∧ splitB n1 = true ∧ (checkL v).2 = true) → ∃ e, (e = 6 ∨ e = 4) ∧ tokW ⟨0, 0, n0, [⟨0, n1, v⟩]⟩ false = ([], e)) := by
  have h : tokW ⟨0, 0, n0, [⟨0, n1, v⟩]⟩ false = if splitB n0 = false then ([], 6) else if (attrsL [⟨0, n1, v⟩]).2 ≠ 0 then ([], (attrsL [⟨0, n1, v⟩]).2) else ([60] ++ n0 ++ (attrsL [⟨0, n1, v⟩]).1 ++ [62], 0) := rfl
  rw [attrs_one] at h
  constructor
  · intro a b c
    rw [h, a, b, c]; rfl
  · intro hn
    cases a : splitB n0 with
    | false => exact ⟨6, Or.inl rfl, by rw [h, a]; rfl⟩
    | true =>
      cases b : splitB n1 with
      | false => exact ⟨6, Or.inl rfl, by rw [h, a, b]; rfl⟩
      | true =>
        cases c : (checkL v).2 with
        | false => exact ⟨4, Or.inr rfl, by rw [h, a, b, c]; rfl⟩
        | true => exact absurd ⟨a, b, c⟩ hn
theorem tokW_2 (n0 n1 v : List UInt8) : (splitB n0 = true → splitB n1 = true → (checkL v).2 = true → tokW ⟨2, 0, n0, [⟨0, n1, v⟩]⟩ false = ([60] ++ n0 ++ attrW ⟨0, n1, v⟩ ++ [47, 62], 0)) ∧
    (¬ (splitB n0 = true ∧ splitB n1 = true ∧ (checkL v).2 = true) → ∃ e, (e = 6 ∨ e = 4) ∧ tokW ⟨2, 0, n0, [⟨0, n1, v⟩]⟩ false = ([], e)) := by
  have h : tokW ⟨2, 0, n0, [⟨0, n1, v⟩]⟩ false = if splitB n0 = false then ([], 6) else if (attrsL [⟨0, n1, v⟩]).2 ≠ 0 then ([], (attrsL [⟨0, n1, v⟩]).2) else ([60] ++ n0 ++ (attrsL [⟨0, n1, v⟩]).1 ++ [47, 62], 0) := rfl
  rw [attrs_one] at h
  constructor
  · intro a b c
    rw [h, a, b, c]; rfl
  · intro hn
    cases a : splitB n0 with
    | false => exact ⟨6, Or.inl rfl, by rw [h, a]; rfl⟩
    | true =>
      cases b : splitB n1 with
      | false => exact ⟨6, Or.inl rfl, by rw [h, a, b]; rfl⟩
      | true =>
        cases c : (checkL v).2 with
        | false => exact ⟨4, Or.inr rfl, by rw [h, a, b, c]; rfl⟩
        | true => exact absurd ⟨a, b, c⟩ hn

theorem and_u8 : ∀ n : Fin 256, bits BinOp.and IntKind.u8 ((n.val : Nat) : Int) 1 = (((n.val % 2 : Nat)) : Int) := by decide +kernel

end Go.Proofs.YtblhpkcdemefaaaGreatDoor
