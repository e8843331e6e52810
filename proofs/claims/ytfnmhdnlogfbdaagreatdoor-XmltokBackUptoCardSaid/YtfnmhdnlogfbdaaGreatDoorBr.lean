/- Plain law: what is written is read as it was: all tokens. -/
import Derived.Test.YtfnmhdnlogfbdaaGreatDoorBq
set_option linter.unusedVariables false
set_option linter.unusedSimpArgs false
namespace Go.Proofs.YtfnmhdnlogfbdaaGreatDoor

/-- A token that may be written, behind a text or not. -/
inductive Good : RT → Bool → Prop
  | text (t : RT) (vs : List Nat) (hk : t.kind = 3) (hv : allFine vs) (hs : t.s = chars vs) (h0 : chars vs ≠ []) (ha : t.attrs = []) : Good t false
  | close (t : RT) (b : Bool) (cs : List Nat) (hk : t.kind = 1) (hc : NameCs cs) (hs : t.s = chars cs) (hsp : splitB (chars cs) = true) (ha : t.attrs = []) : Good t b
  | open_ (t : RT) (b : Bool) (cs : List Nat) (e : Bool) (hk : t.kind = if e = true then 2 else 0) (hc : NameCs cs) (hs : t.s = chars cs) (hsp : splitB (chars cs) = true) (ho : AttrsOk t.attrs []) : Good t b
/-- Its bytes. -/
def tokX (t : RT) : List UInt8 :=
  if t.kind = 3 then escL escT t.s else if t.kind = 1 then [60, 47] ++ t.s ++ [62] else [60] ++ t.s ++ attrsW t.attrs ++ (if t.kind = 2 then [47, 62] else [62])
theorem tokW_good {t : RT} {b : Bool} (h : (tokW t b).2 = 0) : Good t b ∧ (tokW t b).1 = tokX t := by
  unfold tokW at h ⊢
  by_cases hk : t.kind = 3
  · rw [if_pos hk] at h ⊢
    by_cases hx : t.s = [] ∨ t.attrs ≠ [] ∨ b = true
    · rw [if_pos hx] at h; exact absurd h (by decide)
    · rw [if_neg hx] at h ⊢
      by_cases hc : (checkL t.s).2 = true
      · rw [if_pos hc]
        obtain ⟨vs, hv, hs⟩ := checkL_ok hc
        have hb : b = false := by cases b with
          | false => rfl
          | true => exact absurd (Or.inr (Or.inr rfl)) hx
        have ha : t.attrs = [] := Classical.byContradiction fun e => hx (Or.inr (Or.inl e))
        subst hb
        exact ⟨.text t vs hk hv hs (fun e => hx (Or.inl (hs.trans e))) ha, by unfold tokX; rw [if_pos hk]⟩
      · rw [if_neg hc] at h; exact absurd h (by decide)
  · rw [if_neg hk] at h ⊢
    by_cases hk2 : t.kind = 0 ∨ t.kind = 1 ∨ t.kind = 2
    · rw [if_neg (fun f => f hk2)] at h ⊢
      by_cases hs : splitB t.s = false
      · rw [if_pos hs] at h; exact absurd h (by decide)
      · rw [if_neg hs] at h ⊢
        have hs' : splitB t.s = true := by simpa using hs
        obtain ⟨cs, hcs, hn⟩ := split_chars hs'
        by_cases h1 : t.kind = 1
        · rw [if_pos h1] at h ⊢
          by_cases ha : t.attrs ≠ []
          · rw [if_pos ha] at h; exact absurd h (by decide)
          · rw [if_neg ha]
            refine ⟨.close t b cs h1 hn hcs (by rw [← hcs]; exact hs') (Classical.byContradiction ha), ?_⟩
            unfold tokX
            rw [if_neg hk, if_pos h1]
        · rw [if_neg h1] at h ⊢
          by_cases ha : (attrsL t.attrs).2 ≠ 0
          · rw [if_pos ha] at h; exact absurd h ha
          · rw [if_neg ha]
            obtain ⟨ho, hw⟩ := attrsGo_ok t.attrs [] [] (Classical.byContradiction ha)
            rw [List.nil_append] at hw
            refine ⟨?_, by unfold tokX; rw [if_neg hk, if_neg h1]; show [60] ++ t.s ++ (attrsGo t.attrs [] []).1 ++ _ = _; rw [hw]⟩
            by_cases h2 : t.kind = 2
            · exact .open_ t b cs true (by rw [if_pos rfl]; exact h2) hn hcs (by rw [← hcs]; exact hs') ho
            · exact .open_ t b cs false (by rw [if_neg (by decide)]; omega) hn hcs (by rw [← hcs]; exact hs') ho
    · rw [if_pos hk2] at h; exact absurd h (by decide)

/-- Tokens that may be written. -/
def RowOk : List RT → Bool → Prop
  | [], _ => True
  | t :: r, b => Good t b ∧ RowOk r (decide (t.kind = 3))
def rowX (l : List RT) : List UInt8 := l.flatMap tokX
theorem rowX_cons (t : RT) (r : List RT) : rowX (t :: r) = tokX t ++ rowX r := by unfold rowX; rw [List.flatMap_cons]
theorem writeGo_ok : ∀ (l : List RT) (i : Nat) (b : Bool) (acc : List UInt8), (writeGo l i b acc).2.2 = 0 → RowOk l b ∧ (writeGo l i b acc).1 = acc ++ rowX l
  | [], i, b, acc, _ => ⟨trivial, by simp [writeGo, rowX]⟩
  | t :: r, i, b, acc, h => by
    unfold writeGo at h ⊢
    by_cases he : (tokW t b).2 = 0
    · rw [if_pos he] at h ⊢
      obtain ⟨h1, h2⟩ := writeGo_ok r _ _ _ h
      obtain ⟨g, hg⟩ := tokW_good he
      exact ⟨⟨g, h1⟩, by rw [h2, hg, rowX_cons, List.append_assoc]⟩
    · rw [if_neg he] at h
      exact absurd h he

theorem tokX_text {t : RT} (hk : t.kind = 3) : tokX t = escL escT t.s := by unfold tokX; rw [if_pos hk]
theorem tokX_close {t : RT} (hk : t.kind = 1) : tokX t = 60 :: 47 :: (t.s ++ [62]) := by unfold tokX; rw [if_neg (by omega), if_pos hk]; simp
theorem tokX_open {t : RT} {e : Bool} (hk : t.kind = if e = true then 2 else 0) : tokX t = 60 :: (t.s ++ (attrsW t.attrs ++ (if e = true then [47, 62] else [62]))) := by
  unfold tokX
  cases e
  · have hk' : t.kind = 0 := hk
    rw [if_neg (by omega), if_neg (by omega), if_neg (by omega)]; simp
  · have hk' : t.kind = 2 := hk
    rw [if_neg (by omega), if_neg (by omega), if_pos hk']; simp

theorem row_head {l : List RT} (h : RowOk l true) : rowX l = [] ∨ ∃ r, rowX l = 60 :: r := by
  cases l with
  | nil => exact Or.inl rfl
  | cons t r =>
    refine Or.inr ?_
    rw [rowX_cons]
    obtain ⟨g, _⟩ := h
    generalize hb : true = b at g
    cases g with
    | text vs hk hv hs h0 ha => exact absurd hb (by decide)
    | close _ cs hk hc hs hsp ha => rw [tokX_close hk]; exact ⟨_, rfl⟩
    | open_ _ cs e hk hc hs hsp ho => rw [tokX_open hk]; exact ⟨_, rfl⟩

/-- One token is read. -/
theorem read_one {s : List UInt8} {i bat : Nat} {out : List Tk} {t : RT} {b : Bool} {r : List UInt8} (h : Good t b) (hr : t.kind = 3 → r = [] ∨ ∃ r', r = 60 :: r') (hd : s.drop i = tokX t ++ r) :
    ∃ k : Tk, LikeT t k ∧ xOne s ⟨i, bat, 0, out⟩ = ⟨i + (tokX t).length, bat, 0, out ++ [k]⟩ := by
  cases h with
  | text vs hk hv hs h0 ha =>
    rw [tokX_text hk, hs] at hd ⊢
    exact ⟨⟨3, i, chars vs, []⟩, ⟨hk, hs, by rw [ha]; rfl⟩, read_text hv h0 (hr hk) hd⟩
  | close _ cs hk hc hs hsp ha =>
    rw [tokX_close hk, hs] at hd ⊢
    refine ⟨⟨1, i, chars cs, []⟩, ⟨hk, hs, by rw [ha]; rfl⟩, (read_close (r := r) hc hsp (by rw [hd]; simp)).trans ?_⟩
    rw [show (60 :: 47 :: (chars cs ++ [62])).length = 3 + (chars cs).length from by simp; omega]
  | open_ _ cs e hk hc hs hsp ho =>
    rw [tokX_open hk, hs] at hd ⊢
    obtain ⟨qs, hq, hx⟩ := read_open (bat := bat) (out := out) (e := e) (r := r) hc hsp ho (by rw [hd]; simp)
    refine ⟨⟨if e = true then 2 else 0, i, chars cs, qs⟩, ⟨by rw [hk]; cases e <;> rfl, hs, hq⟩, hx.trans ?_⟩
    rw [show (60 :: (chars cs ++ (attrsW t.attrs ++ (if e = true then [47, 62] else [62])))).length = 1 + (chars cs).length + (attrsW t.attrs).length + (if e = true then 2 else 1) from by cases e <;> simp <;> omega]

theorem tokX_ne {t : RT} {b : Bool} (h : Good t b) : 1 ≤ (tokX t).length := by
  cases h with
  | text vs hk hv hs h0 ha =>
    rw [tokX_text hk, hs]
    have := escT_ne vs hv h0
    cases hE : escL escT (chars vs) with
    | nil => exact absurd hE this
    | cons x y => simp
  | close _ cs hk hc hs hsp ha => rw [tokX_close hk]; simp
  | open_ _ cs e hk hc hs hsp ho => rw [tokX_open hk]; simp

theorem samePs_like : ∀ (ps : List RP) (qs : List PrA), qs.map (fun q => (q.name, q.value)) = ps.map (fun q => (q.name, q.value)) → samePs false ps (qs.map PrA.raw) = true ∧ qs.length = ps.length
  | [], [], _ => ⟨rfl, rfl⟩
  | [], q :: qs, h => by simp at h
  | p :: ps, [], h => by simp at h
  | p :: ps, q :: qs, h => by
    rw [List.map_cons, List.map_cons, List.cons.injEq] at h
    obtain ⟨h1, h2⟩ := h
    obtain ⟨i1, i2⟩ := samePs_like ps qs h2
    have e1 : q.name = p.name := congrArg Prod.fst h1
    have e2 : q.value = p.value := congrArg Prod.snd h1
    refine ⟨?_, by rw [List.length_cons, List.length_cons, i2]⟩
    rw [List.map_cons]
    unfold samePs
    rw [i1]
    unfold sameP PrA.raw
    simp [e1, e2]

/-- All tokens are read. -/
theorem read_all : ∀ (l : List RT) (s : List UInt8) (i bat : Nat) (out : List Tk) (b : Bool) (f : Nat), RowOk l b → s.drop i = rowX l → l.length < f →
    ∃ ks : List Tk, sameTs false l (ks.map Tk.raw) = true ∧ ks.length = l.length ∧ (∀ k ∈ ks, ∃ t ∈ l, k.attrs.length = t.attrs.length) ∧ xLoop s f ⟨i, bat, 0, out⟩ = ⟨i + (rowX l).length, bat, 0, out ++ ks⟩
  | [], s, i, bat, out, b, f, _, hd, hf => ⟨[], rfl, rfl, (by intro k hk; cases hk), by
      rw [loop_stop (Or.inr (by rw [hd]; rfl)), List.append_nil]; rfl⟩
  | t :: r, s, i, bat, out, b, f, h, hd, hf => by
    obtain ⟨g, hr⟩ := h
    rw [rowX_cons] at hd
    have hne := tokX_ne g
    obtain ⟨k, hk, hx⟩ := read_one (bat := bat) (out := out) g (fun h3 => row_head (by rw [h3] at hr; exact hr)) hd
    have hd2 : s.drop (i + (tokX t).length) = rowX r := drop_add hd rfl
    obtain ⟨ks, h1, h2, h3, h4⟩ := read_all r s (i + (tokX t).length) bat (out ++ [k]) _ (f - 1) hr hd2 (by rw [List.length_cons] at hf; omega)
    obtain ⟨hp1, hp2⟩ := samePs_like t.attrs k.attrs hk.2.2
    refine ⟨k :: ks, ?_, by rw [List.length_cons, List.length_cons, h2], ?_, ?_⟩
    · rw [List.map_cons]
      unfold sameTs
      rw [h1, show (Tk.raw k).attrs = k.attrs.map PrA.raw from rfl, hp1]
      unfold sameH Tk.raw
      simp [hk.1, hk.2.1, hp2]
    · intro x hx
      rcases List.mem_cons.1 hx with rfl | hx
      · exact ⟨t, List.mem_cons_self, hp2⟩
      · obtain ⟨u, hu, he⟩ := h3 x hx
        exact ⟨u, List.mem_cons_of_mem _ hu, he⟩
    · rw [loop_next (s := s) (st := ⟨i, bat, 0, out⟩) (by omega) rfl (by
        rw [hd]
        intro e
        have := congrArg List.length e
        rw [List.length_append, List.length_nil] at this
        omega), hx, h4, rowX_cons, List.length_append, List.append_assoc, Nat.add_assoc]
      rfl

end Go.Proofs.YtfnmhdnlogfbdaaGreatDoor
