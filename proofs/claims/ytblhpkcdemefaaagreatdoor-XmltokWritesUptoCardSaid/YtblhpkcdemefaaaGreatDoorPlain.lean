/- Plain words: characters that may be, the character at a text's head, references, what a text tells, what is escaped. No program stands here. -/
import GoSem.Core.Utf8
import Derived.Lib.RuneBytes
import Derived.Lib.SpaceU
import Derived.Lib.DecodeN
import Derived.Lib.DecodeNEq
import Derived.Lib.IndexMore
import Derived.Lib.Hide
import Derived.Lib.Strings
set_option linter.unusedVariables false
set_option linter.unusedSimpArgs false
namespace Go.Proofs.YtblhpkcdemefaaaGreatDoor

/-- May the character be? -/
def fineB (c : Int) : Bool := decide (c = 9 ∨ c = 10 ∨ c = 13 ∨ (32 ≤ c ∧ c ≤ 55295) ∨ (57344 ≤ c ∧ c ≤ 65533) ∨ (65536 ≤ c ∧ c ≤ 1114111))

theorem fineB_iff (c : Int) : fineB c = true ↔ (c = 9 ∨ c = 10 ∨ c = 13 ∨ (32 ≤ c ∧ c ≤ 55295) ∨ (57344 ≤ c ∧ c ≤ 65533) ∨ (65536 ≤ c ∧ c ≤ 1114111)) := by
  unfold fineB; exact decide_eq_true_iff

theorem fineB_not (c : Int) : fineB c = false ↔ ¬ (c = 9 ∨ c = 10 ∨ c = 13 ∨ (32 ≤ c ∧ c ≤ 55295) ∨ (57344 ≤ c ∧ c ≤ 65533) ∨ (65536 ≤ c ∧ c ≤ 1114111)) := by
  unfold fineB; exact decide_eq_false_iff_not

/-- The character at a text's head, and how many bytes; none: none that may be. -/
def rune1 (l : List UInt8) : Option (Nat × Nat) :=
  if l = [] then none
  else if (Lib.decodeL l).1 = 65533 ∧ (Lib.decodeL l).2 < 2 then none
  else if fineB (Lib.decodeL l).1 = true then some (Lib.decodeL l) else none

/-- The model's decode at a place is the decode of what is left. -/
theorem get!_toList (s : ByteArray) (i : Nat) : s.get! i = s.data.toList.getD i 0 := by
  cases s with
  | mk a =>
    show a[i]! = _
    rw [getElem!_def]
    simp only [List.getD_eq_getElem?_getD, Array.getElem?_toList]
    cases a[i]? <;> rfl

theorem decode_drop (s : ByteArray) (i : Nat) : Utf8.decode s i = Lib.decodeL (s.data.toList.drop i) := by
  unfold Lib.decodeL
  rw [Lib.decode_at, Lib.decode_at]
  have hs : s.size = s.data.toList.length := Lib.size_eq s
  have h : ∀ k, s.get! (i + k) = (⟨(s.data.toList.drop i).toArray⟩ : ByteArray).get! k := by
    intro k
    rw [get!_toList, get!_toList]
    simp [List.getD_eq_getElem?_getD, List.getElem?_drop]
  have h0 : s.get! i = (⟨(s.data.toList.drop i).toArray⟩ : ByteArray).get! 0 := h 0
  rw [h0, h 1, h 2, h 3]
  simp only [Nat.zero_add]
  rw [Lib.size_eq ⟨(s.data.toList.drop i).toArray⟩, hs, List.toList_toArray, List.length_drop, Nat.sub_zero]

/-- The bytes gone through from the front: how far, and whether all are right. -/
def checkGo : Nat → List UInt8 → Nat → Nat × Bool
  | 0, _, p => (p, true)
  | f + 1, l, p => if l = [] then (p, true) else match rune1 l with | none => (p, false) | some (_, n) => checkGo f (l.drop n) (p + n)
def checkL (l : List UInt8) : Nat × Bool := checkGo l.length l 0

theorem checkGo_nil (f p : Nat) : checkGo f [] p = (p, true) := by cases f <;> simp [checkGo]
theorem checkGo_none (f : Nat) {l : List UInt8} (p : Nat) (hf : l.length ≤ f) (hl : l ≠ []) (h : rune1 l = none) : checkGo f l p = (p, false) := by
  cases f with
  | zero => cases l with | nil => exact absurd rfl hl | cons x l => simp at hf
  | succ f => simp [checkGo, hl, h]
theorem checkGo_some (f : Nat) {l : List UInt8} (p : Nat) {c n : Nat} (hf : l.length ≤ f) (hl : l ≠ []) (h : rune1 l = some (c, n)) : checkGo f l p = checkGo (f - 1) (l.drop n) (p + n) := by
  cases f with
  | zero => cases l with | nil => exact absurd rfl hl | cons x l => simp at hf
  | succ f => simp [checkGo, hl, h]

/-- Is the character one of the set's bytes? -/
def memB (c : Int) (set : List UInt8) : Bool := set.any fun d => c == (d.toNat : Int)

theorem memB_take (c : Int) (set : List UInt8) (j : Nat) (h : j < set.length) : memB c (set.take (j + 1)) = (memB c (set.take j) || (c == ((set[j]).toNat : Int))) := by
  unfold memB
  rw [List.take_succ_eq_append_getElem h, List.any_append]
  simp

theorem memB_lt {c : Int} {set : List UInt8} (hset : ∀ b ∈ set, b.toNat < 128) (h : memB c set = true) : c < 128 := by
  unfold memB at h
  rw [List.any_eq_true] at h
  obtain ⟨d, hd, he⟩ := h
  have := hset d hd
  have := of_decide_eq_true he
  omega

theorem decL_cons (b : UInt8) (t : List UInt8) : (b.toNat < 128 → Lib.decodeL (b :: t) = (b.toNat, 1)) ∧ (128 ≤ b.toNat → 128 ≤ (Lib.decodeL (b :: t)).1) := by
  have h0 : (⟨(b :: t).toArray⟩ : ByteArray).get! 0 = b := by rw [get!_toList]; rfl
  unfold Lib.decodeL
  rw [Lib.decode_at, h0]
  constructor
  · intro h
    unfold Lib.decodeN
    rw [if_pos h]
  · intro h
    have hb := b.toNat_lt
    unfold Lib.decodeN
    repeat' split
    all_goals (first | (exfalso; omega) | (simp only []; omega))

def cutL (l set : List UInt8) : List UInt8 := l.dropWhile fun b => memB b.toNat set
def cutR (l set : List UInt8) : List UInt8 := (l.reverse.dropWhile fun b => memB b.toNat set).reverse

theorem cutL_in {l set : List UInt8} (h0 : l ≠ []) (hset : ∀ b ∈ set, b.toNat < 128) (h : memB ((Lib.decodeL l).1 : Nat) set = true) : (Lib.decodeL l).2 = 1 ∧ cutL l set = cutL (l.drop 1) set := by
  cases l with
  | nil => exact absurd rfl h0
  | cons b t =>
    obtain ⟨h1, h2⟩ := decL_cons b t
    by_cases hb : b.toNat < 128
    · rw [h1 hb] at h ⊢
      refine ⟨rfl, ?_⟩
      unfold cutL
      rw [List.dropWhile_cons, if_pos h]
      rfl
    · have := memB_lt hset h
      have := h2 (by omega)
      omega

theorem cutL_out {l set : List UInt8} (h0 : l ≠ []) (hset : ∀ b ∈ set, b.toNat < 128) (h : memB ((Lib.decodeL l).1 : Nat) set = false) : cutL l set = l := by
  cases l with
  | nil => exact absurd rfl h0
  | cons b t =>
    obtain ⟨h1, h2⟩ := decL_cons b t
    unfold cutL
    by_cases hb : b.toNat < 128
    · rw [h1 hb] at h
      rw [List.dropWhile_cons, if_neg (by rw [h]; decide)]
    · rw [List.dropWhile_cons, if_neg]
      intro hm
      have := memB_lt hset hm
      omega

theorem cutL_nil (set : List UInt8) : cutL [] set = [] := rfl

theorem lastB {l : List UInt8} (h0 : l ≠ []) : ∃ t b, l = t ++ [b] := ⟨l.dropLast, l.getLast h0, (List.dropLast_concat_getLast h0).symm⟩

theorem decLast_snoc (t : List UInt8) (b : UInt8) : (b.toNat < 128 → Lib.decodeLastL (t ++ [b]) = (b.toNat, 1)) ∧ (128 ≤ b.toNat → 128 ≤ (Lib.decodeLastL (t ++ [b])).1) := by
  have e0 : (t ++ [b]).getD ((t ++ [b]).length - 1) 0 = b := by simp [List.getD_eq_getElem?_getD]
  have e1 : ¬ (t ++ [b] = []) := by simp
  constructor
  · intro h
    unfold Lib.decodeLastL
    rw [if_neg e1, e0, if_pos h]
  · intro h
    unfold Lib.decodeLastL
    rw [if_neg e1, e0, if_neg (by omega)]
    simp only []
    split
    · -- what begins at the place found is no ASCII: else it would be the last byte
      rename_i hw
      generalize Lib.lastStart (t ++ [b]) = k at hw ⊢
      cases hd : (t ++ [b]).drop k with
      | nil =>
        rw [hd] at hw
        have hw' : k + 1 = (t ++ [b]).length := hw
        have := congrArg List.length hd
        simp at this hw'
        omega
      | cons x r =>
        obtain ⟨g1, g2⟩ := decL_cons x r
        by_cases hx : x.toNat < 128
        · rw [hd, g1 hx] at hw
          have hk : k + 1 = (t ++ [b]).length := hw
          have : (t ++ [b])[k]? = some x := by
            have := congrArg (·[0]?) hd
            simpa [List.getElem?_drop] using this
          have hb' : (t ++ [b])[k]? = some b := by
            have : k = t.length := by simp at hk; omega
            rw [this]; simp
          rw [this] at hb'
          cases hb'
          omega
        · exact g2 (by omega)
    · decide

theorem cutR_in {l set : List UInt8} (h0 : l ≠ []) (hset : ∀ b ∈ set, b.toNat < 128) (h : memB ((Lib.decodeLastL l).1 : Nat) set = true) : (Lib.decodeLastL l).2 = 1 ∧ cutR l set = cutR (l.take (l.length - 1)) set := by
  obtain ⟨t, b, rfl⟩ := lastB h0
  obtain ⟨h1, h2⟩ := decLast_snoc t b
  by_cases hb : b.toNat < 128
  · rw [h1 hb] at h ⊢
    refine ⟨rfl, ?_⟩
    unfold cutR
    rw [List.reverse_append]
    simp only [List.reverse_cons, List.reverse_nil, List.nil_append, List.singleton_append]
    rw [List.dropWhile_cons, if_pos h]
    simp
  · have := memB_lt hset h
    have := h2 (by omega)
    omega

theorem cutR_out {l set : List UInt8} (h0 : l ≠ []) (hset : ∀ b ∈ set, b.toNat < 128) (h : memB ((Lib.decodeLastL l).1 : Nat) set = false) : cutR l set = l := by
  obtain ⟨t, b, rfl⟩ := lastB h0
  obtain ⟨h1, h2⟩ := decLast_snoc t b
  unfold cutR
  rw [List.reverse_append]
  simp only [List.reverse_cons, List.reverse_nil, List.nil_append, List.singleton_append]
  by_cases hb : b.toNat < 128
  · rw [h1 hb] at h
    rw [List.dropWhile_cons, if_neg (by rw [h]; decide)]
    simp
  · rw [List.dropWhile_cons, if_neg]
    · simp
    · intro hm
      have := memB_lt hset hm
      omega

theorem cutR_nil (set : List UInt8) : cutR [] set = [] := rfl

/-- A digit's value, to the base 16; what is none tells 99. -/
def digV (b : UInt8) : Nat := if 48 ≤ b.toNat ∧ b.toNat ≤ 57 then b.toNat - 48 else if 97 ≤ b.toNat ∧ b.toNat ≤ 102 then b.toNat - 87 else if 65 ≤ b.toNat ∧ b.toNat ≤ 70 then b.toNat - 55 else 99
/-- A number's digits, read to a base. -/
def numL (base : Nat) (l : List UInt8) : Nat := l.foldl (fun a b => a * base + digV b) 0
def allD (base : Nat) (l : List UInt8) : Bool := l.all fun b => decide (digV b < base)

theorem numL_snoc (base : Nat) (l : List UInt8) (b : UInt8) : numL base (l ++ [b]) = numL base l * base + digV b := by simp [numL]

theorem numL_take (base : Nat) (l : List UInt8) (k : Nat) (h : k < l.length) : numL base (l.take (k + 1)) = numL base (l.take k) * base + digV l[k] := by
  rw [List.take_succ_eq_append_getElem h, numL_snoc]

theorem numL_lt (base : Nat) (hb : 1 ≤ base) (h16 : base ≤ 16) (l : List UInt8) (h : allD base l = true) (n : Nat) (hn : l.length ≤ n) : numL base l < 16 ^ n := by
  induction n generalizing l with
  | zero =>
    have : l = [] := List.eq_nil_of_length_eq_zero (by omega)
    subst this
    simp [numL]
  | succ n ih =>
    by_cases h0 : l = []
    · subst h0; simp [numL]; exact Nat.pos_of_ne_zero (by simp)
    · obtain ⟨t, b, rfl⟩ := lastB h0
      rw [numL_snoc]
      have h1 : allD base t = true := by
        unfold allD at h ⊢; rw [List.all_append] at h; simp only [Bool.and_eq_true] at h; exact h.1
      have h2 : digV b < base := by
        unfold allD at h; rw [List.all_append] at h; simp at h; exact h.2
      have := ih t h1 (by simp at hn; omega)
      rw [Nat.pow_succ]
      have h3 : numL base t * base ≤ numL base t * 16 := Nat.mul_le_mul_left _ h16
      omega

theorem numL_lt7 (base : Nat) (hb : 1 ≤ base) (h16 : base ≤ 16) (l : List UInt8) (h : allD base l = true) (hn : l.length ≤ 7) : numL base l < 268435456 := numL_lt base hb h16 l h 7 hn

theorem allD_take {base : Nat} {l : List UInt8} (h : allD base l = true) (k : Nat) : allD base (l.take k) = true := by
  unfold allD at h ⊢
  rw [List.all_eq_true] at h ⊢
  exact fun x hx => h x (List.mem_of_mem_take hx)

theorem allD_get {base : Nat} {l : List UInt8} (h : allD base l = true) (k : Nat) (hk : k < l.length) : digV l[k] < base := by
  unfold allD at h
  rw [List.all_eq_true] at h
  exact of_decide_eq_true (h _ (List.getElem_mem hk))

/-- The character that a reference's name tells. -/
def nameOf (t : List UInt8) : Option Nat :=
  if t = [97, 109, 112] then some 38 else if t = [108, 116] then some 60 else if t = [103, 116] then some 62 else if t = [113, 117, 111, 116] then some 34 else if t = [97, 112, 111, 115] then some 39 else none

/-- A number's digits tell a character. -/
def numOf (base most : Nat) (ds : List UInt8) : Option Nat :=
  if ds = [] ∨ most < ds.length ∨ allD base ds = false ∨ fineB (numL base ds) = false then none else some (numL base ds)

/-- What a reference's inside (between & and ;) tells. -/
def refIn (t : List UInt8) : Option Nat :=
  match nameOf t with
  | some c => some c
  | none => match t with
    | 35 :: 120 :: ds => numOf 16 6 ds
    | 35 :: ds => numOf 10 7 ds
    | _ => none

def set10 : List UInt8 := [48, 49, 50, 51, 52, 53, 54, 55, 56, 57]
def set16 : List UInt8 := [48, 49, 50, 51, 52, 53, 54, 55, 56, 57, 97, 98, 99, 100, 101, 102, 65, 66, 67, 68, 69, 70]

theorem memB_set10 (b : UInt8) : memB b.toNat set10 = decide (digV b < 10) := by
  have h : ∀ n : Fin 256, memB (n.val : Int) set10 = decide (digV (UInt8.ofNat n.val) < 10) := by decide +kernel
  have := h ⟨b.toNat, b.toNat_lt⟩
  simpa using this
theorem memB_set16 (b : UInt8) : memB b.toNat set16 = decide (digV b < 16) := by
  have h : ∀ n : Fin 256, memB (n.val : Int) set16 = decide (digV (UInt8.ofNat n.val) < 16) := by decide +kernel
  have := h ⟨b.toNat, b.toNat_lt⟩
  simpa using this

theorem dw_nil {p : UInt8 → Bool} : ∀ {l : List UInt8}, l.dropWhile p = [] ↔ ∀ x ∈ l, p x = true
  | [] => by simp
  | a :: l => by
    rw [List.dropWhile_cons]
    by_cases h : p a = true
    · rw [if_pos h, dw_nil (l := l)]
      constructor
      · intro h2 x hx
        rcases List.mem_cons.1 hx with e | e
        · rw [e]; exact h
        · exact h2 x e
      · exact fun h2 x hx => h2 x (List.mem_cons_of_mem _ hx)
    · rw [if_neg h]
      constructor
      · intro h2; cases h2
      · intro h2; exact absurd (h2 a List.mem_cons_self) h

theorem dw_head {p : UInt8 → Bool} : ∀ {l : List UInt8} {x : UInt8} {r : List UInt8}, l.dropWhile p = x :: r → p x = false
  | [], x, r, h => by simp at h
  | a :: l, x, r, h => by
    rw [List.dropWhile_cons] at h
    by_cases h2 : p a = true
    · rw [if_pos h2] at h; exact dw_head h
    · rw [if_neg h2] at h
      cases h
      simpa using h2

theorem cut_digits {base : Nat} {set l : List UInt8} (hm : ∀ b, memB (b.toNat : Int) set = decide (digV b < base)) : cutR (cutL l set) set = [] ↔ allD base l = true := by
  have hp : (fun b : UInt8 => memB b.toNat set) = fun b => decide (digV b < base) := funext hm
  unfold cutR cutL allD
  rw [hp]
  constructor
  · intro h
    have h1 := List.reverse_eq_nil_iff.1 h
    rw [dw_nil] at h1
    rw [List.all_eq_true]
    intro x hx
    cases hd : l.dropWhile (fun b => decide (digV b < base)) with
    | nil => exact dw_nil.1 hd x hx
    | cons y r =>
      exfalso
      have h2 := dw_head hd
      have h3 := h1 y (by rw [List.mem_reverse, hd]; exact List.mem_cons_self)
      rw [h2] at h3
      cases h3
  · intro h
    rw [dw_nil.2 (fun x hx => List.all_eq_true.1 h x hx)]
    rfl

theorem cut_digits_ne {base : Nat} {set l : List UInt8} (hm : ∀ b, memB (b.toNat : Int) set = decide (digV b < base)) (h : allD base l = false) : cutR (cutL l set) set ≠ [] := by
  intro h'
  rw [(cut_digits hm).1 h'] at h
  cases h

end Go.Proofs.YtblhpkcdemefaaaGreatDoor
