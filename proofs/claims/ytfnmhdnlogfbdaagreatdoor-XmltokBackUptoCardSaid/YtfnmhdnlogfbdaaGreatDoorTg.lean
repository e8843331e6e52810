/- Plain law: names are characters; what a tag's bytes tell. -/
import Derived.Test.YtfnmhdnlogfbdaaGreatDoorWr
set_option linter.unusedVariables false
set_option linter.unusedSimpArgs false
namespace Go.Proofs.YtfnmhdnlogfbdaaGreatDoor

theorem dec_put (c : Nat) (hf : fineB c = true) (r : List UInt8) : Lib.decodeL (put c ++ r) = (c, (put c).length) := rune1_dec (rune1_put c hf r)

theorem first_part {c : Int} (h : firstB c = true) : partB c = true := by unfold partB nextB; rw [h]; rfl
theorem part_name {c : Int} (h : partB c = true) : nameB c = true := by unfold nameB; rw [h, Bool.or_true]

theorem made_chars (p q : Int → Bool) : ∀ (f : Nat) (l : List UInt8) (b : Bool), l.length ≤ f → madeGo p q f l b = true →
    ∃ cs, l = chars cs ∧ allFine cs ∧ (match cs with | [] => True | c :: r => (if b = true then p c else q c) = true ∧ ∀ x ∈ r, q (x : Nat) = true)
  | 0, l, b, hl, h => ⟨[], by have : l = [] := List.eq_nil_of_length_eq_zero (by omega); rw [this]; rfl, allFine_nil, trivial⟩
  | f + 1, l, b, hl, h => by
    by_cases h0 : l = []
    · exact ⟨[], by rw [h0]; rfl, allFine_nil, trivial⟩
    · unfold madeGo at h
      rw [if_neg h0] at h
      cases hr : rune1 l with
      | none => rw [hr] at h; cases h
      | some cn =>
        obtain ⟨c, n⟩ := cn
        rw [hr] at h
        simp only [Bool.and_eq_true] at h
        obtain ⟨h1, h2⟩ := h
        obtain ⟨r, hl', hn⟩ := rune1_split hr
        have hfc := (rune1_bounds hr).2.2.2.2.2
        have hput : Lib.encodeRune (c : Int) = put c := rfl
        rw [hput] at hl' hn
        have hpl := put_len c
        have hd : l.drop n = r := by rw [hl', hn]; simp
        rw [hd] at h2
        have hrl : r.length ≤ f := by
          have := congrArg List.length hl'
          rw [List.length_append] at this
          omega
        obtain ⟨cs, hcs, hfs, hm⟩ := made_chars p q f r false hrl h2
        refine ⟨c :: cs, by rw [chars_cons, ← hcs]; exact hl', ?_, h1, ?_⟩
        · intro x hx
          rcases List.mem_cons.1 hx with rfl | hx
          · exact hfc
          · exact hfs x hx
        · intro x hx
          cases cs with
          | nil => cases hx
          | cons y ys =>
            simp only [Bool.false_eq_true, if_false] at hm
            rcases List.mem_cons.1 hx with rfl | hx
            · exact hm.1
            · exact hm.2 x hx

/-- Characters of a name: the first one, all others. -/
def NameCs (cs : List Nat) : Prop := allFine cs ∧ ∃ c r, cs = c :: r ∧ firstB c = true ∧ ∀ x ∈ cs, nameB (x : Nat) = true

theorem plain_chars {l : List UInt8} (h : plainL l = true) : ∃ cs, l = chars cs ∧ NameCs cs ∧ ∀ x ∈ cs, partB (x : Nat) = true := by
  unfold plainL madeL at h
  rw [Bool.and_eq_true] at h
  obtain ⟨h1, h2⟩ := h
  obtain ⟨cs, hl, hf, hm⟩ := made_chars firstB partB _ _ _ (Nat.le_refl _) h1
  cases cs with
  | nil => rw [hl] at h2; exact absurd h2 (by decide)
  | cons c r =>
    simp only [if_true] at hm
    have hp : ∀ x ∈ c :: r, partB (x : Nat) = true := by
      intro x hx
      rcases List.mem_cons.1 hx with rfl | hx
      · exact first_part hm.1
      · exact hm.2 x hx
    exact ⟨c :: r, hl, ⟨hf, c, r, rfl, hm.1, fun x hx => part_name (hp x hx)⟩, hp⟩

theorem cutB_app (b : UInt8) : ∀ l : List UInt8, (cutB b l).2.2 = true → l = (cutB b l).1 ++ b :: (cutB b l).2.1
  | [], h => by cases h
  | x :: r, h => by
    unfold cutB at h ⊢
    by_cases hx : x = b
    · rw [if_pos hx]; simp [hx]
    · rw [if_neg hx] at h ⊢
      have := cutB_app b r h
      simp only [List.cons_append]
      rw [← this]

theorem split_chars {l : List UInt8} (h : splitB l = true) : ∃ cs, l = chars cs ∧ NameCs cs := by
  unfold splitB at h
  split at h
  · rename_i hb
    rw [Bool.and_eq_true] at h
    obtain ⟨a, ha, ⟨hfa, c, r, hc, hfc, hna⟩, _⟩ := plain_chars h.1
    obtain ⟨b, hbl, ⟨hfb, _, _, _, _, hnb⟩, _⟩ := plain_chars h.2
    have h58 : chars [58] = [58] := by decide
    refine ⟨a ++ [58] ++ b, ?_, ?_, c, r ++ [58] ++ b, by rw [hc]; rfl, hfc, ?_⟩
    · rw [chars_append, chars_append, ← ha, ← hbl, h58]
      have := cutB_app 58 l hb
      rw [List.append_assoc]
      exact this
    · intro x hx
      rcases List.mem_append.1 hx with hx | hx
      · rcases List.mem_append.1 hx with hx | hx
        · exact hfa x hx
        · rw [List.mem_singleton] at hx; subst hx; decide
      · exact hfb x hx
    · intro x hx
      rcases List.mem_append.1 hx with hx | hx
      · rcases List.mem_append.1 hx with hx | hx
        · exact hna x hx
        · rw [List.mem_singleton] at hx; subst hx; decide
      · exact hnb x hx
  · obtain ⟨cs, h1, h2, _⟩ := plain_chars h
    exact ⟨cs, h1, h2⟩

theorem nmGo_chars : ∀ (cs : List Nat) (f : Nat) (r : List UInt8), allFine cs → (∀ x ∈ cs, nameB (x : Nat) = true) → (r ≠ [] → nameB (Lib.decodeL r).1 = false) → (chars cs ++ r).length ≤ f → nmGo f (chars cs ++ r) = (chars cs).length
  | [], f, r, _, _, hr, hl => by
    rw [chars_nil, List.nil_append]
    cases f with
    | zero => rfl
    | succ f =>
      unfold nmGo
      by_cases h0 : r = []
      · rw [if_pos h0]; rfl
      · rw [if_neg h0, if_neg (by rw [hr h0]; decide)]; rfl
  | c :: cs, f, r, hf, hn, hr, hl => by
    have hpl := put_len c
    rw [chars_cons, List.append_assoc] at hl ⊢
    rw [List.length_append] at hl
    cases f with
    | zero => omega
    | succ f =>
      unfold nmGo
      have hne : put c ++ (chars cs ++ r) ≠ [] := put_ne c _
      have hfc := hf c List.mem_cons_self
      rw [if_neg hne, dec_put c hfc, if_pos (hn c List.mem_cons_self)]
      simp only []
      have hd : (put c ++ (chars cs ++ r)).drop (put c).length = chars cs ++ r := by simp
      rw [hd, nmGo_chars cs f r (fun x hx => hf x (List.mem_cons_of_mem _ hx)) (fun x hx => hn x (List.mem_cons_of_mem _ hx)) hr (by omega), List.length_append]

theorem nameL_chars (cs : List Nat) (r : List UInt8) (h : NameCs cs) (hr : r ≠ [] → nameB (Lib.decodeL r).1 = false) : nameL (chars cs ++ r) = chars cs := by
  obtain ⟨hf, c, t, rfl, hfc, hn⟩ := h
  have hl : nmLen (chars (c :: t) ++ r) = (chars (c :: t)).length := nmGo_chars _ _ _ hf hn hr (Nat.le_refl _)
  unfold nameL
  rw [hl, List.take_left]
  have hne : chars (c :: t) ≠ [] := by rw [chars_cons]; exact put_ne c _
  rw [if_neg hne]
  have hd : Lib.decodeL (chars (c :: t)) = (c, (put c).length) := by rw [chars_cons]; exact dec_put c (hf c List.mem_cons_self) _
  rw [hd, if_pos (Or.inr hfc)]

theorem dec_ascii (b : UInt8) (r : List UInt8) (h : b.toNat < 128) : Lib.decodeL (b :: r) = (b.toNat, 1) := (decL_cons b r).1 h

/-- Bytes of a character beyond ASCII are beyond it. -/
theorem put_big (c : Nat) (h : 128 ≤ c) (hf : fineB c = true) : ∀ b ∈ put c, 128 ≤ b.toNat := by
  have hb := (fineB_iff _).1 hf
  unfold put Lib.encodeRune
  have key : ∀ l : List Int, (∀ x ∈ l, 128 ≤ x ∧ x < 256) → ∀ b ∈ l.map (fun x => x.toNat.toUInt8), 128 ≤ b.toNat := by
    intro l hl b hb
    obtain ⟨x, hx, rfl⟩ := List.mem_map.1 hb
    have := hl x hx
    rw [u8_nat x (by omega) this.2]
    omega
  by_cases h2 : c ≤ 2047
  · rw [Lib.encodeRuneZ_two (by omega) (by omega)]
    exact key _ (by intro x hx; simp only [List.mem_cons, List.not_mem_nil, or_false] at hx; rcases hx with rfl | rfl <;> omega)
  · by_cases h4 : c ≤ 65535
    · rw [Lib.encodeRuneZ_three (by omega)]
      exact key _ (by intro x hx; simp only [List.mem_cons, List.not_mem_nil, or_false] at hx; rcases hx with rfl | rfl | rfl <;> omega)
    · rw [Lib.encodeRuneZ_four (by omega) (by omega)]
      exact key _ (by intro x hx; simp only [List.mem_cons, List.not_mem_nil, or_false] at hx; rcases hx with rfl | rfl | rfl | rfl <;> omega)

theorem put_no (x : UInt8) (hx : x.toNat < 128) (c : Nat) (hf : fineB c = true) (h : c ≠ x.toNat) : ∀ b ∈ put c, b ≠ x := by
  intro b hb e
  subst e
  by_cases hc : c < 128
  · rw [encode_ascii c hc, List.mem_singleton] at hb
    have := congrArg UInt8.toNat hb
    rw [UInt8.toNat_ofNat'] at this
    omega
  · have := put_big c (by omega) hf b hb
    omega
theorem chars_no (x : UInt8) (hx : x.toNat < 128) (cs : List Nat) (hf : allFine cs) (h : ∀ c ∈ cs, c ≠ x.toNat) : ∀ b ∈ chars cs, b ≠ x := by
  intro b hb
  unfold chars at hb
  obtain ⟨c, hc, hb⟩ := List.mem_flatMap.1 hb
  exact put_no x hx c (hf c hc) (h c hc) b hb

theorem escV_no (x : UInt8) (hx : x = 34 ∨ x = 60) (c : Nat) (hf : fineB c = true) : ∀ b ∈ escB escV c, b ≠ x := by
  by_cases hk : c = 38 ∨ c = 60 ∨ c = 62 ∨ c = 13 ∨ c = 34 ∨ c = 9 ∨ c = 10
  · rcases hx with rfl | rfl <;> rcases hk with rfl | rfl | rfl | rfl | rfl | rfl | rfl <;> decide
  · have : escB escV c = put c := escB_none (by
      intro p hp
      simp only [escV, List.mem_cons, List.not_mem_nil, or_false] at hp
      rcases hp with rfl | rfl | rfl | rfl | rfl | rfl | rfl <;> (simp only []; omega))
    rw [this]
    rcases hx with rfl | rfl
    · exact put_no 34 (by decide) c hf (fun e => hk (by have e' : c = 34 := e; omega))
    · exact put_no 60 (by decide) c hf (fun e => hk (by have e' : c = 60 := e; omega))
theorem escL_no (x : UInt8) (hx : x = 34 ∨ x = 60) (vs : List Nat) (hf : allFine vs) : ∀ b ∈ escL escV (chars vs), b ≠ x := by
  intro b hb
  rw [escL_chars escV vs hf] at hb
  obtain ⟨c, hc, hb⟩ := List.mem_flatMap.1 hb
  exact escV_no x hx c (hf c hc) b hb

/-- A name's first byte. -/
def headB (b : UInt8) : Prop := (97 ≤ b.toNat ∧ b.toNat ≤ 122) ∨ (65 ≤ b.toNat ∧ b.toNat ≤ 90) ∨ b.toNat = 95 ∨ 128 ≤ b.toNat
theorem name_head {cs : List Nat} (h : NameCs cs) : ∃ b r, chars cs = b :: r ∧ headB b := by
  obtain ⟨hf, c, t, rfl, hfc, _⟩ := h
  have hfi := hf c List.mem_cons_self
  rw [chars_cons]
  by_cases hc : c < 128
  · rw [encode_ascii c hc]
    refine ⟨UInt8.ofNat c, chars t, rfl, ?_⟩
    have e : (UInt8.ofNat c).toNat = c := by rw [UInt8.toNat_ofNat']; omega
    unfold headB
    rw [e]
    unfold firstB letterB at hfc
    rw [Bool.or_eq_true, Bool.and_eq_true, decide_eq_true_iff, decide_eq_true_iff] at hfc
    omega
  · have hp := put_big c (by omega) hfi
    have hl := put_len c
    cases hq : put c with
    | nil => rw [hq] at hl; simp at hl
    | cons b r =>
      rw [hq] at hp
      exact ⟨b, r ++ chars t, rfl, Or.inr (Or.inr (Or.inr (hp b List.mem_cons_self)))⟩

theorem name_not (x : Nat) (hx : nameB (x : Nat) = false) {cs : List Nat} (h : NameCs cs) : ∀ c ∈ cs, c ≠ x := by
  obtain ⟨_, _, _, _, _, hn⟩ := h
  intro c hc e
  rw [e] at hc
  rw [hn x hc] at hx
  cases hx

theorem cutB_no (q : UInt8) : ∀ (l r : List UInt8), (∀ b ∈ l, b ≠ q) → cutB q (l ++ q :: r) = (l, r, true)
  | [], r, _ => by show cutB q (q :: r) = _; unfold cutB; rw [if_pos rfl]
  | x :: l, r, h => by
    rw [List.cons_append]
    unfold cutB
    rw [if_neg (h x List.mem_cons_self), cutB_no q l r (fun b hb => h b (List.mem_cons_of_mem _ hb))]

theorem drop_app {a b : List UInt8} {n : Nat} (h : n = a.length) : (a ++ b).drop n = b := by subst h; simp

theorem trim_head {b : UInt8} {r : List UInt8} (h : b.toNat ≠ 32 ∧ b.toNat ≠ 9 ∧ b.toNat ≠ 13 ∧ b.toNat ≠ 10) : Lib.trimLeftS (b :: r) blanksL = b :: r := by
  unfold Lib.trimLeftS
  rw [List.dropWhile_cons, if_neg]
  intro hc
  have hm : b ∈ blanksL := by simpa using hc
  simp only [blanksL, List.mem_cons, List.not_mem_nil, or_false] at hm
  rcases hm with rfl | rfl | rfl | rfl
  · exact h.1 rfl
  · exact h.2.1 rfl
  · exact h.2.2.1 rfl
  · exact h.2.2.2 rfl
theorem blank_head {b : UInt8} {r : List UInt8} (h : b.toNat ≠ 32 ∧ b.toNat ≠ 9 ∧ b.toNat ≠ 13 ∧ b.toNat ≠ 10) : blankN (b :: r) = 0 := by
  unfold blankN; rw [trim_head h]; omega
theorem blank_one {b : UInt8} {r : List UInt8} (h : b.toNat ≠ 32 ∧ b.toNat ≠ 9 ∧ b.toNat ≠ 13 ∧ b.toNat ≠ 10) : blankN (32 :: b :: r) = 1 := by
  unfold blankN
  have : Lib.trimLeftS (32 :: b :: r) blanksL = b :: r := by
    unfold Lib.trimLeftS
    rw [List.dropWhile_cons, if_pos (by decide)]
    exact trim_head h
  rw [this]
  simp
theorem headB_ne {b : UInt8} (h : headB b) : (b.toNat ≠ 32 ∧ b.toNat ≠ 9 ∧ b.toNat ≠ 13 ∧ b.toNat ≠ 10) ∧ b.toNat ≠ 62 ∧ b.toNat ≠ 47 ∧ b.toNat ≠ 33 ∧ b.toNat ≠ 63 := by
  unfold headB at h; omega
theorem pre1 {b x : UInt8} {r t : List UInt8} (h : b.toNat ≠ x.toNat) : Lib.hasPrefix (b :: r) (x :: t) = false := by
  unfold Lib.hasPrefix
  have : (x == b) = false := by rw [beq_eq_false_iff_ne]; intro e; exact h (by rw [e])
  simp [List.isPrefixOf, this]

/-- A tag's bytes up to behind its attribute. -/
def tagH (cs ds vs : List Nat) : List UInt8 := [60] ++ chars cs ++ ([32] ++ chars ds ++ [61, 34] ++ escL escV (chars vs) ++ [34])

end Go.Proofs.YtfnmhdnlogfbdaaGreatDoor
