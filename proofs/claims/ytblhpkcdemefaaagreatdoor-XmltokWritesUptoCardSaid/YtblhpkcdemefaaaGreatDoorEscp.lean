/- Plain words: what is escaped (chapter 3). -/
import Derived.Test.YtblhpkcdemefaaaGreatDoorTellp
set_option linter.unusedVariables false
set_option linter.unusedSimpArgs false
namespace Go.Proofs.YtblhpkcdemefaaaGreatDoor

/-- The characters that are escaped, and as what: between tags, and in a value. -/
def escT : List (Int × List UInt8) := [(38, [38, 97, 109, 112, 59]), (60, [38, 108, 116, 59]), (62, [38, 103, 116, 59]), (13, [38, 35, 49, 51, 59])]
def escV : List (Int × List UInt8) := [(38, [38, 97, 109, 112, 59]), (60, [38, 108, 116, 59]), (62, [38, 103, 116, 59]), (13, [38, 35, 49, 51, 59]), (34, [38, 113, 117, 111, 116, 59]), (9, [38, 35, 57, 59]), (10, [38, 35, 49, 48, 59])]

def escOf (E : List (Int × List UInt8)) (c : Nat) : Option (List UInt8) := (E.find? fun p => p.1 == (c : Int)).map (·.2)
def escB (E : List (Int × List UInt8)) (c : Nat) : List UInt8 := match escOf E c with | some x => x | none => Lib.encodeRune c

def escGo (E : List (Int × List UInt8)) : Nat → List UInt8 → List UInt8
  | 0, _ => []
  | f + 1, l => if l = [] then [] else escB E (Lib.decodeL l).1 ++ escGo E f (l.drop (Lib.decodeL l).2)

/-- What a text is escaped as, if it is right. -/
def escL (E : List (Int × List UInt8)) (l : List UInt8) : List UInt8 := escGo E l.length l

theorem escGo_nil (E : List (Int × List UInt8)) (f : Nat) : escGo E f [] = [] := by cases f <;> simp [escGo]
theorem escGo_step (E : List (Int × List UInt8)) {f : Nat} {l : List UInt8} (hf : l.length ≤ f) (hl : l ≠ []) : escGo E f l = escB E (Lib.decodeL l).1 ++ escGo E (f - 1) (l.drop (Lib.decodeL l).2) := by
  cases f with
  | zero => cases l with | nil => exact absurd rfl hl | cons x l => simp at hf
  | succ f => simp [escGo, hl]

theorem escB_none {E : List (Int × List UInt8)} {c : Nat} (h : ∀ p ∈ E, p.1 ≠ (c : Int)) : escB E c = Lib.encodeRune c := by
  have : E.find? (fun p => p.1 == (c : Int)) = none := by
    rw [List.find?_eq_none]
    intro p hp
    simpa using h p hp
  unfold escB escOf
  rw [this]
  rfl

theorem escOf_mem : ∀ {E : List (Int × List UInt8)} {c : Nat} {x : List UInt8}, (E.map (·.1)).Nodup → ((c : Int), x) ∈ E → escOf E c = some x
  | [], c, x, _, h => by cases h
  | p :: E, c, x, hn, h => by
    unfold escOf
    rw [List.map_cons, List.nodup_cons] at hn
    rcases List.mem_cons.1 h with e | e
    · rw [← e]
      simp
    · have hne : p.1 ≠ (c : Int) := fun e2 => hn.1 (by rw [e2]; exact List.mem_map.2 ⟨_, e, rfl⟩)
      rw [List.find?_cons_of_neg (by simpa using hne)]
      exact escOf_mem hn.2 e

end Go.Proofs.YtblhpkcdemefaaaGreatDoor
