/- Plain law: what is written is read as it was, but for places. -/
import Derived.Test.YtfnmhdnlogfbdaaGreatDoorBr
set_option linter.unusedVariables false
set_option linter.unusedSimpArgs false
namespace Go.Proofs.YtfnmhdnlogfbdaaGreatDoor

theorem escT_chars : ∀ vs : List Nat, allFine vs → ∃ es, allFine es ∧ vs.flatMap (escB escT) = chars es
  | [], _ => ⟨[], allFine_nil, rfl⟩
  | c :: vs, h => by
    obtain ⟨es, he, hes⟩ := escT_chars vs (fun x hx => h x (List.mem_cons_of_mem _ hx))
    have hfc := h c List.mem_cons_self
    have key : ∃ ks, allFine ks ∧ escB escT c = chars ks := by
      by_cases hk : c = 38 ∨ c = 60 ∨ c = 62 ∨ c = 13
      · rcases hk with rfl | rfl | rfl | rfl
        · exact ⟨[38, 97, 109, 112, 59], by unfold allFine; decide, by decide⟩
        · exact ⟨[38, 108, 116, 59], by unfold allFine; decide, by decide⟩
        · exact ⟨[38, 103, 116, 59], by unfold allFine; decide, by decide⟩
        · exact ⟨[38, 35, 49, 51, 59], by unfold allFine; decide, by decide⟩
      · refine ⟨[c], fun x hx => by rw [List.mem_singleton] at hx; subst hx; exact hfc, ?_⟩
        have : escB escT c = put c := escB_none (by
          intro p hp
          simp only [escT, List.mem_cons, List.not_mem_nil, or_false] at hp
          rcases hp with rfl | rfl | rfl | rfl <;> (simp only []; omega))
        rw [this, chars_cons, chars_nil, List.append_nil]
    obtain ⟨ks, hk, hks⟩ := key
    refine ⟨ks ++ es, fun x hx => (List.mem_append.1 hx).elim (hk x) (he x), ?_⟩
    rw [List.flatMap_cons, chars_append, hks, hes]

/-- Bytes that are characters. -/
def Fine (l : List UInt8) : Prop := ∃ cs, allFine cs ∧ l = chars cs
theorem Fine.app {a b : List UInt8} (ha : Fine a) (hb : Fine b) : Fine (a ++ b) := by
  obtain ⟨x, hx, rfl⟩ := ha
  obtain ⟨y, hy, rfl⟩ := hb
  exact ⟨x ++ y, fun c hc => (List.mem_append.1 hc).elim (hx c) (hy c), (chars_append x y).symm⟩
theorem Fine.nil : Fine [] := ⟨[], allFine_nil, rfl⟩
theorem Fine.one (b : UInt8) (h : b = 32 ∨ b = 34 ∨ b = 47 ∨ b = 60 ∨ b = 61 ∨ b = 62) : Fine [b] := by
  rcases h with rfl | rfl | rfl | rfl | rfl | rfl
  · exact ⟨[32], by unfold allFine; decide, by decide⟩
  · exact ⟨[34], by unfold allFine; decide, by decide⟩
  · exact ⟨[47], by unfold allFine; decide, by decide⟩
  · exact ⟨[60], by unfold allFine; decide, by decide⟩
  · exact ⟨[61], by unfold allFine; decide, by decide⟩
  · exact ⟨[62], by unfold allFine; decide, by decide⟩
theorem Fine.cons (b : UInt8) (h : b = 32 ∨ b = 34 ∨ b = 47 ∨ b = 60 ∨ b = 61 ∨ b = 62) {l : List UInt8} (hl : Fine l) : Fine (b :: l) := (Fine.one b h).app hl

theorem attr_parts {p : RP} {seen : List RP} (h : attrE seen p = 0) : ∃ ds vs, NameCs ds ∧ allFine vs ∧ p.name = chars ds ∧ p.value = chars vs := by
  obtain ⟨h1, h2, h3⟩ := attrE_ok h
  obtain ⟨ds, e1, hds⟩ := split_chars h1
  obtain ⟨vs, hvs, e2⟩ := checkL_ok h3
  exact ⟨ds, vs, hds, hvs, e1, e2⟩
theorem attrW_cat (p : RP) : attrW p = 32 :: (p.name ++ 61 :: 34 :: (escL escV p.value ++ [34])) := by unfold attrW; simp
theorem attrsW_cons (p : RP) (r : List RP) : attrsW (p :: r) = attrW p ++ attrsW r := by unfold attrsW; rw [List.flatMap_cons]

theorem name_no60 {ds : List Nat} (h : NameCs ds) : ∀ b ∈ chars ds, b ≠ 60 := chars_no 60 (by decide) ds h.1 (name_not 60 (by decide) h)

/-- Attributes' bytes: characters, none of them <; and not too many. -/
theorem attrs_ok : ∀ (ps seen : List RP), AttrsOk ps seen → Fine (attrsW ps) ∧ (∀ b ∈ attrsW ps, b ≠ 60) ∧ (attrsW ps).length ≤ 6 * szPs ps
  | [], _, _ => ⟨Fine.nil, (by intro b hb; cases hb), Nat.zero_le _⟩
  | p :: r, seen, h => by
    obtain ⟨he, hr⟩ := h
    obtain ⟨i1, i2, i3⟩ := attrs_ok r _ hr
    obtain ⟨ds, vs, hds, hvs, e1, e2⟩ := attr_parts he
    obtain ⟨es, hes, hee⟩ := esc_chars vs hvs
    have hE : escL escV (chars vs) = chars es := by rw [escL_chars escV vs hvs, hee]
    have hl := escL_len escV (by decide) vs hvs
    have hW : attrW p = 32 :: (chars ds ++ 61 :: 34 :: (escL escV (chars vs) ++ [34])) := by rw [attrW_cat, e1, e2]
    rw [attrsW_cons]
    refine ⟨?_, ?_, ?_⟩
    · rw [hW, hE]
      exact ((Fine.cons 32 (by decide) (Fine.app ⟨ds, hds.1, rfl⟩ (Fine.cons 61 (by decide) (Fine.cons 34 (by decide) (Fine.app ⟨es, hes, rfl⟩ (Fine.one 34 (by decide)))))))).app i1
    · intro b hb
      rw [hW] at hb
      simp only [List.mem_append, List.mem_cons, List.not_mem_nil, or_false] at hb
      rcases hb with (rfl | hb | rfl | rfl | hb | rfl) | hb
      · decide
      · exact name_no60 hds b hb
      · decide
      · decide
      · exact escL_no 60 (Or.inr rfl) vs hvs b hb
      · decide
      · exact i2 b hb
    · have hsz : szPs (p :: r) = 1 + p.name.length + p.value.length + szPs r := by unfold szPs szP; simp
      rw [hsz, e1, e2, hW]
      simp only [List.length_append, List.length_cons, List.length_nil]
      omega

/-- A token's bytes: characters; behind the first one no <, and if that is one no ! behind it. -/
theorem tok_ok {t : RT} {b : Bool} (h : Good t b) : Fine (tokX t) ∧ ((∀ x ∈ tokX t, x ≠ 60) ∨ ∃ y z, tokX t = 60 :: y :: z ∧ y.toNat ≠ 33 ∧ ∀ x ∈ y :: z, x ≠ 60) ∧ (tokX t).length ≤ 6 * szT t + 3 := by
  have hsz : szT t = t.s.length + szPs t.attrs := rfl
  cases h with
  | text vs hk hv hs h0 ha =>
    rw [tokX_text hk, hs]
    obtain ⟨es, hes, hee⟩ := escT_chars vs hv
    have hl := escL_len escT (by decide) vs hv
    exact ⟨⟨es, hes, by rw [escL_chars escT vs hv, hee]⟩, Or.inl (escT_all 60 (Or.inr rfl) vs hv), by rw [hsz, hs]; omega⟩
  | close _ cs hk hc hs hsp ha =>
    rw [tokX_close hk, hs]
    refine ⟨Fine.cons 60 (by decide) (Fine.cons 47 (by decide) (Fine.app ⟨cs, hc.1, rfl⟩ (Fine.one 62 (by decide)))), Or.inr ⟨47, chars cs ++ [62], rfl, by decide, ?_⟩, ?_⟩
    · intro x hx
      simp only [List.mem_append, List.mem_cons, List.not_mem_nil, or_false] at hx
      rcases hx with rfl | hx | rfl
      · decide
      · exact name_no60 hc x hx
      · decide
    · rw [hsz, hs]
      simp only [List.length_append, List.length_cons, List.length_nil]
      omega
  | open_ _ cs e hk hc hs hsp ho =>
    rw [tokX_open hk, hs]
    obtain ⟨i1, i2, i3⟩ := attrs_ok t.attrs [] ho
    obtain ⟨y, z, hyz, hh⟩ := name_head hc
    have hne := headB_ne hh
    refine ⟨Fine.cons 60 (by decide) (Fine.app ⟨cs, hc.1, rfl⟩ (i1.app ?_)), Or.inr ⟨y, z ++ (attrsW t.attrs ++ (if e = true then [47, 62] else [62])), by rw [hyz]; rfl, hne.2.2.2.1, ?_⟩, ?_⟩
    · cases e
      · exact Fine.one 62 (by decide)
      · exact Fine.cons 47 (by decide) (Fine.one 62 (by decide))
    · intro x hx
      have hx' : x ∈ chars cs ++ (attrsW t.attrs ++ (if e = true then [47, 62] else [62])) := by rw [hyz]; exact hx
      simp only [List.mem_append] at hx'
      rcases hx' with hx | hx | hx
      · exact name_no60 hc x hx
      · exact i2 x hx
      · cases e
        · have : x = 62 := by simpa using hx
          subst this; decide
        · have : x = 47 ∨ x = 62 := by simpa using hx
          rcases this with rfl | rfl <;> decide
    · rw [hsz, hs]
      cases e <;> simp only [List.length_append, List.length_cons, List.length_nil, Bool.false_eq_true, if_false, if_true] <;> omega

/-- No <![CDATA[ stands there. -/
def NB (l : List UInt8) : Prop := ∀ i, Lib.hasPrefix (l.drop i) [60, 33, 91, 67, 68, 65, 84, 65, 91] = false
theorem NB.cons {x : UInt8} {r : List UInt8} (hr : NB r) (h : Lib.hasPrefix (x :: r) [60, 33, 91, 67, 68, 65, 84, 65, 91] = false) : NB (x :: r) := by
  intro i
  cases i with
  | zero => exact h
  | succ i => exact hr i
theorem NB.app {r : List UInt8} (hr : NB r) : ∀ a : List UInt8, (∀ x ∈ a, x ≠ 60) → NB (a ++ r)
  | [], _ => hr
  | x :: a, h => (NB.app hr a (fun y hy => h y (List.mem_cons_of_mem _ hy))).cons (pre1 (fun e => h x List.mem_cons_self (UInt8.toNat_inj.1 e)))

theorem row_ok : ∀ (l : List RT) (b : Bool), RowOk l b → Fine (rowX l) ∧ NB (rowX l) ∧ (rowX l).length ≤ 6 * szTs l + 3 * l.length
  | [], b, _ => ⟨Fine.nil, (by intro i; rw [show rowX [] = [] from rfl, List.drop_nil]; rfl), Nat.zero_le _⟩
  | t :: r, b, h => by
    obtain ⟨g, hr⟩ := h
    obtain ⟨i1, i2, i3⟩ := row_ok r _ hr
    obtain ⟨j1, j2, j3⟩ := tok_ok g
    rw [rowX_cons]
    refine ⟨j1.app i1, ?_, ?_⟩
    · rcases j2 with j2 | ⟨y, z, hyz, hy, hn⟩
      · exact i2.app _ j2
      · rw [hyz]
        exact (i2.app (y :: z) hn).cons (pre2 hy)
    · have hsz : szTs (t :: r) = szT t + szTs r := by unfold szTs; simp
      rw [hsz, List.length_append, List.length_cons]
      omega

theorem writeL_ok {l : List RT} (h : (writeL l).2.2 = 0) : RowOk l false ∧ (writeL l).1 = rowX l := writeGo_ok l 0 false [] h

theorem writeL_len (l : List RT) : (writeL l).1.length ≤ 6 * szL l := by
  by_cases h : (writeL l).2.2 = 0
  · obtain ⟨h1, h2⟩ := writeL_ok h
    obtain ⟨_, _, h3⟩ := row_ok l false h1
    rw [h2]
    unfold szL
    omega
  · have hw : writeL l = writeGo l 0 false [] := rfl
    rw [hw, writeGo_err l 0 false [] (by rw [← hw]; exact h)]
    exact Nat.zero_le _

theorem back_plain (l : List RT) : BackP l := by
  intro hsz herr
  obtain ⟨hok, hw⟩ := writeL_ok herr
  obtain ⟨hf, hnb, hlen⟩ := row_ok l false hok
  have hin := sz_in hsz
  have hsz' : l.length + szTs l ≤ 3000 := hsz
  rw [hw]
  obtain ⟨ks, h1, h2, h3, h4⟩ := read_all l (rowX l) 0 0 [] false ((rowX l).length + 1) hok (by rw [List.drop_zero]) (by
    have : l.length ≤ (rowX l).length := by
      clear herr hw hf hnb hlen hin hsz hsz'
      have go : ∀ (l : List RT) (b : Bool), RowOk l b → l.length ≤ (rowX l).length := by
        intro l
        induction l with
        | nil => intro b _; exact Nat.zero_le _
        | cons t r ih =>
          intro b h
          obtain ⟨g, hr⟩ := h
          have := ih _ hr
          have := tokX_ne g
          rw [rowX_cons, List.length_append, List.length_cons]
          omega
      exact go l false hok
    omega)
  obtain ⟨cs, hcs, hce⟩ := hf
  have hck : (checkL (rowX l)).2 = true := by rw [hce, checkL_chars _ hcs]
  refine ⟨ks, ?_, ?_, ⟨by rw [h2]; have := hin.1; omega, ?_⟩, hnb⟩
  · have hA : xAll (rowX l) = ⟨(rowX l).length, 0, 0, ks⟩ := by unfold xAll; rw [h4, Nat.zero_add, List.nil_append]
    unfold tokL
    rw [if_neg (by omega), if_neg (by rw [hck]; decide), hA]
    rfl
  · unfold sameL
    rw [h1, List.length_map, h2]
    simp
  · intro k hk
    obtain ⟨t, ht, he⟩ := h3 k hk
    have := (hin.2 t ht).2.1
    omega

end Go.Proofs.YtfnmhdnlogfbdaaGreatDoor
