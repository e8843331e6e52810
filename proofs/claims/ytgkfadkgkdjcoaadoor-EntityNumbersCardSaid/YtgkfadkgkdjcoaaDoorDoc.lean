/- Walks: the document's answer of layer 3: references (tipstaveref03.begins, reference). -/
import Derived.Test.YtgkfadkgkdjcoaaDoorDig
import Derived.Test.YtgkfadkgkdjcoaaDoorEscr
import Derived.Deep.QuietTactic
import Derived.BigQuiet
import Derived.WalkSmall
set_option linter.unusedVariables false
set_option linter.unusedSimpArgs false
namespace Go.Proofs.YtgkfadkgkdjcoaaDoor
open Go.RowKit

theorem pre_take {l p : List UInt8} : Lib.hasPrefix l p = true ↔ l.take p.length = p := by
  unfold Lib.hasPrefix
  rw [List.isPrefixOf_iff_prefix, List.prefix_iff_eq_take]
  exact ⟨fun h => h.symm, fun h => h.symm⟩

set_option maxHeartbeats 2000000 in
theorem begins_any (l p : List UInt8) (s t : ByteArray) (hs : s = ⟨l.toArray⟩) (ht : t = ⟨p.toArray⟩) (w : World) :
    Calls Tryd.prog 23 #[.string s, .string t] w fun e w' => e = .returned (.bool (Lib.hasPrefix l p)) ∧ w' = w := by
  subst hs ht
  by_cases hlen : l.length < p.length
  · have HF : Hid (Lib.hasPrefix l p = false) := Lib.hid (by
      cases h : Lib.hasPrefix l p with
      | false => rfl
      | true => have := hasPrefix_le h; omega)
    go_enter Tryd.func23, Tryd.ntmps23
    go_wp2
    go_ret
    exact ⟨by rw [HF.out]; rfl, rfl⟩
  · have hex := extract_take l p.length (by omega)
    have hle : p.length ≤ l.length := by omega
    cases h : Lib.hasPrefix l p with
    | true =>
      have ht := pre_take.1 h
      rw [ht] at hex
      clear h ht
      go_enter Tryd.func23, Tryd.ntmps23
      go_wp2
      go_ret
      exact ⟨rfl, rfl⟩
    | false =>
      have ht : ¬ l.take p.length = p := fun h2 => by rw [pre_take.2 h2] at h; cases h
      have hb : (l.take p.length == p) = false := by rw [beq_eq_false_iff_ne]; exact ht
      clear h
      go_enter Tryd.func23, Tryd.ntmps23
      go_wp2
      go_ret
      exact ⟨rfl, rfl⟩

def add3 (x : Nat × Nat) (k : Nat) : Nat × Nat := if x.2 = 0 then (0, 0) else (x.1, x.2 + k)

/-- The names' texts, with & and ;. -/
def nms : List (List UInt8 × Nat) := [([38, 97, 109, 112, 59], 38), ([38, 108, 116, 59], 60), ([38, 103, 116, 59], 62), ([38, 113, 117, 111, 116, 59], 34), ([38, 97, 112, 111, 115, 59], 39)]

/-- A reference, as the document's answer goes through it. -/
def refDoc (l : List UInt8) : Nat × Nat :=
  match nms.find? (fun q => Lib.hasPrefix l q.1) with
  | some q => (q.2, q.1.length)
  | none =>
    if Lib.hasPrefix l [38, 35, 120] = true then add3 (numRes 16 6 (l.drop 3)) 3
    else if Lib.hasPrefix l [38, 35] = true then add3 (numRes 10 7 (l.drop 2)) 2
    else (0, 0)

theorem numRes_le (base most : Nat) (h : most ≤ 7) (l : List UInt8) : (numRes base most l).2 ≤ 8 := by
  unfold numRes
  repeat' split
  all_goals (simp only []; omega)

theorem find_gen {α : Type} {p : α → Bool} : ∀ (L : List α) (k : Nat) (hk : k < L.length), (∀ q ∈ L.take k, p q = false) → p L[k] = true → L.find? p = some L[k]
  | [], k, hk, _, _ => by simp at hk
  | a :: L, 0, hk, _, h => List.find?_cons_of_pos h
  | a :: L, k + 1, hk, hno, h => by
    have h1 := hno a (by simp)
    rw [List.find?_cons_of_neg (by rw [h1]; decide)]
    exact find_gen L k (by simpa using hk) (fun q hq => hno q (by simp [hq])) h

theorem find_at {l : List UInt8} {k : Nat} (hno : ∀ q ∈ nms.take k, Lib.hasPrefix l q.1 = false) (hk : k < nms.length) (h : Lib.hasPrefix l nms[k].1 = true) : nms.find? (fun q => Lib.hasPrefix l q.1) = some nms[k] := find_gen nms k hk hno h

theorem find_no {l : List UInt8} {k : Nat} (hno : ∀ q ∈ nms.take k, Lib.hasPrefix l q.1 = false) (hk : k < nms.length) (h : Lib.hasPrefix l nms[k].1 = false) : ∀ q ∈ nms.take (k + 1), Lib.hasPrefix l q.1 = false := by
  intro q hq
  rw [List.take_succ_eq_append_getElem hk] at hq
  rcases List.mem_append.1 hq with h1 | h1
  · exact hno q h1
  · rw [List.mem_singleton.1 h1]; exact h

set_option maxHeartbeats 4000000 in
set_option maxRecDepth 100000 in
theorem refdoc_any (l : List UInt8) (s : ByteArray) (hs : s = ⟨l.toArray⟩) (w : World) (hl : l.length ≤ 2147483647) :
    Calls Tryd.prog 22 #[.string s] w fun e w' => e = .returned (nnRes (refDoc l)) ∧ Below w.heap.size w w' := by
  subst hs
  go_enter Tryd.func22, Tryd.ntmps22
  go_wp2
  go_loop [6] (fun v6 => ∃ k : Nat, v6 = .int .i64 k ∧ k ≤ 5 ∧ Hid (∀ q ∈ nms.take k, Lib.hasPrefix l q.1 = false)) (fun v6 => 5 - (intOf v6).toNat)
  case atStart => exact ⟨0, rfl, by omega, Lib.hid (fun q hq => by simp at hq)⟩
  case round =>
    obtain ⟨k, hv, hk5, hno⟩ := hrel
    have hk : k = 0 ∨ k = 1 ∨ k = 2 ∨ k = 3 ∨ k = 4 ∨ k = 5 := by omega
    rcases hk with rfl | rfl | rfl | rfl | rfl | rfl
    · obtain rfl : _ = Value.int .i64 0 := hv
      have cB := fun wx => begins_any l [38, 97, 109, 112, 59] _ _ rfl rfl wx
      cases hpre : Lib.hasPrefix l [38, 97, 109, 112, 59] with
      | true =>
        have HF : Hid (refDoc l = (38, [38, 97, 109, 112, 59].length)) := Lib.hid (by unfold refDoc; rw [find_at hno.out (by decide) hpre]; rfl)
        rw [hpre] at cB
        have CB := Lib.hid cB
        clear cB hpre hno
        go_wp2_with (go_at_call 23; refine (CB.out _).mono ?_; rintro e w1 ⟨rfl, rfl⟩)
        go_quiet (fail)
        go_wp2
        go_ret2
        exact ⟨by rw [HF.out]; rfl, (((Below.refl _ _).alloc (Nat.le_refl _) _).alloc (by simp) _).trans ⟨rfl, rfl, rfl, Nat.le_refl _, fun _ _ => rfl⟩⟩
      | false =>
        have HN := Lib.hid (find_no hno.out (by decide) hpre)
        rw [hpre] at cB
        have CB := Lib.hid cB
        clear cB hpre hno
        go_wp2_with (go_at_call 23; refine (CB.out _).mono ?_; rintro e w1 ⟨rfl, rfl⟩)
        go_round
        case rel => exact ⟨1, rfl, by omega, HN⟩
        case measure => decide
    · obtain rfl : _ = Value.int .i64 1 := hv
      have cB := fun wx => begins_any l [38, 108, 116, 59] _ _ rfl rfl wx
      cases hpre : Lib.hasPrefix l [38, 108, 116, 59] with
      | true =>
        have HF : Hid (refDoc l = (60, [38, 108, 116, 59].length)) := Lib.hid (by unfold refDoc; rw [find_at hno.out (by decide) hpre]; rfl)
        rw [hpre] at cB
        have CB := Lib.hid cB
        clear cB hpre hno
        go_wp2_with (go_at_call 23; refine (CB.out _).mono ?_; rintro e w1 ⟨rfl, rfl⟩)
        go_quiet (fail)
        go_wp2
        go_ret2
        exact ⟨by rw [HF.out]; rfl, (((Below.refl _ _).alloc (Nat.le_refl _) _).alloc (by simp) _).trans ⟨rfl, rfl, rfl, Nat.le_refl _, fun _ _ => rfl⟩⟩
      | false =>
        have HN := Lib.hid (find_no hno.out (by decide) hpre)
        rw [hpre] at cB
        have CB := Lib.hid cB
        clear cB hpre hno
        go_wp2_with (go_at_call 23; refine (CB.out _).mono ?_; rintro e w1 ⟨rfl, rfl⟩)
        go_round
        case rel => exact ⟨2, rfl, by omega, HN⟩
        case measure => decide
    · obtain rfl : _ = Value.int .i64 2 := hv
      have cB := fun wx => begins_any l [38, 103, 116, 59] _ _ rfl rfl wx
      cases hpre : Lib.hasPrefix l [38, 103, 116, 59] with
      | true =>
        have HF : Hid (refDoc l = (62, [38, 103, 116, 59].length)) := Lib.hid (by unfold refDoc; rw [find_at hno.out (by decide) hpre]; rfl)
        rw [hpre] at cB
        have CB := Lib.hid cB
        clear cB hpre hno
        go_wp2_with (go_at_call 23; refine (CB.out _).mono ?_; rintro e w1 ⟨rfl, rfl⟩)
        go_quiet (fail)
        go_wp2
        go_ret2
        exact ⟨by rw [HF.out]; rfl, (((Below.refl _ _).alloc (Nat.le_refl _) _).alloc (by simp) _).trans ⟨rfl, rfl, rfl, Nat.le_refl _, fun _ _ => rfl⟩⟩
      | false =>
        have HN := Lib.hid (find_no hno.out (by decide) hpre)
        rw [hpre] at cB
        have CB := Lib.hid cB
        clear cB hpre hno
        go_wp2_with (go_at_call 23; refine (CB.out _).mono ?_; rintro e w1 ⟨rfl, rfl⟩)
        go_round
        case rel => exact ⟨3, rfl, by omega, HN⟩
        case measure => decide
    · obtain rfl : _ = Value.int .i64 3 := hv
      have cB := fun wx => begins_any l [38, 113, 117, 111, 116, 59] _ _ rfl rfl wx
      cases hpre : Lib.hasPrefix l [38, 113, 117, 111, 116, 59] with
      | true =>
        have HF : Hid (refDoc l = (34, [38, 113, 117, 111, 116, 59].length)) := Lib.hid (by unfold refDoc; rw [find_at hno.out (by decide) hpre]; rfl)
        rw [hpre] at cB
        have CB := Lib.hid cB
        clear cB hpre hno
        go_wp2_with (go_at_call 23; refine (CB.out _).mono ?_; rintro e w1 ⟨rfl, rfl⟩)
        go_quiet (fail)
        go_wp2
        go_ret2
        exact ⟨by rw [HF.out]; rfl, (((Below.refl _ _).alloc (Nat.le_refl _) _).alloc (by simp) _).trans ⟨rfl, rfl, rfl, Nat.le_refl _, fun _ _ => rfl⟩⟩
      | false =>
        have HN := Lib.hid (find_no hno.out (by decide) hpre)
        rw [hpre] at cB
        have CB := Lib.hid cB
        clear cB hpre hno
        go_wp2_with (go_at_call 23; refine (CB.out _).mono ?_; rintro e w1 ⟨rfl, rfl⟩)
        go_round
        case rel => exact ⟨4, rfl, by omega, HN⟩
        case measure => decide
    · obtain rfl : _ = Value.int .i64 4 := hv
      have cB := fun wx => begins_any l [38, 97, 112, 111, 115, 59] _ _ rfl rfl wx
      cases hpre : Lib.hasPrefix l [38, 97, 112, 111, 115, 59] with
      | true =>
        have HF : Hid (refDoc l = (39, [38, 97, 112, 111, 115, 59].length)) := Lib.hid (by unfold refDoc; rw [find_at hno.out (by decide) hpre]; rfl)
        rw [hpre] at cB
        have CB := Lib.hid cB
        clear cB hpre hno
        go_wp2_with (go_at_call 23; refine (CB.out _).mono ?_; rintro e w1 ⟨rfl, rfl⟩)
        go_quiet (fail)
        go_wp2
        go_ret2
        exact ⟨by rw [HF.out]; rfl, (((Below.refl _ _).alloc (Nat.le_refl _) _).alloc (by simp) _).trans ⟨rfl, rfl, rfl, Nat.le_refl _, fun _ _ => rfl⟩⟩
      | false =>
        have HN := Lib.hid (find_no hno.out (by decide) hpre)
        rw [hpre] at cB
        have CB := Lib.hid cB
        clear cB hpre hno
        go_wp2_with (go_at_call 23; refine (CB.out _).mono ?_; rintro e w1 ⟨rfl, rfl⟩)
        go_round
        case rel => exact ⟨5, rfl, by omega, HN⟩
        case measure => decide
    · obtain rfl : _ = Value.int .i64 5 := hv
      have hnone : nms.find? (fun q => Lib.hasPrefix l q.1) = none := List.find?_eq_none.2 (fun q hq => by rw [hno.out q hq]; decide)
      have hdef : refDoc l = if Lib.hasPrefix l [38, 35, 120] = true then add3 (numRes 16 6 (l.drop 3)) 3 else if Lib.hasPrefix l [38, 35] = true then add3 (numRes 10 7 (l.drop 2)) 2 else (0, 0) := by
        unfold refDoc; rw [hnone]
      have cX := fun wx => begins_any l [38, 35, 120] _ _ rfl rfl wx
      have cD := fun wx => begins_any l [38, 35] _ _ rfl rfl wx
      have HB := Lib.hid (((Below.refl w.heap.size w).alloc (Nat.le_refl _) (.cells #[.string ⟨#[38, 97, 109, 112, 59]⟩, .string ⟨#[38, 108, 116, 59]⟩, .string ⟨#[38, 103, 116, 59]⟩, .string ⟨#[38, 113, 117, 111, 116, 59]⟩, .string ⟨#[38, 97, 112, 111, 115, 59]⟩] 9)).alloc (by simp) (.cells #[.int .i64 38, .int .i64 60, .int .i64 62, .int .i64 34, .int .i64 39] 3))
      clear hno hnone
      cases h1 : Lib.hasPrefix l [38, 35, 120] with
      | true =>
        have hle : 3 ≤ l.length := hasPrefix_le h1
        have c16 := fun wx => number16_any (l.drop 3) ((⟨l.toArray⟩ : ByteArray).extract 3 l.length) (extract_drop l 3 l.length (Nat.le_refl _)) 6 (by decide) wx (by rw [List.length_drop]; omega)
        have e6 : ((6 : Nat) : Int) = (6 : Int) := rfl
        rw [e6] at c16
        clear e6
        have hb8 := numRes_le 16 6 (by decide) (l.drop 3)
        rw [h1, if_pos rfl] at hdef
        rw [h1] at cX
        generalize numRes 16 6 (l.drop 3) = q at *
        obtain ⟨x, n⟩ := q
        rw [nnRes_mk] at c16
        have CX := Lib.hid cX
        have CN := Lib.hid c16
        by_cases hn : n = 0
        · subst hn
          have HF : Hid (refDoc l = (0, 0)) := Lib.hid (by rw [hdef]; rfl)
          clear cX c16 cD hdef h1 hb8
          go_wp2_with (first | (go_at_call 23; refine (CX.out _).mono ?_; rintro e w1 ⟨rfl, rfl⟩) | (go_at_call 32; refine (CN.out _).mono ?_; rintro e w1 ⟨rfl, rfl⟩))
          go_ret2
          exact ⟨by rw [HF.out]; rfl, HB.out⟩
        · have HF : Hid (refDoc l = (x, n + 3)) := Lib.hid (by rw [hdef]; unfold add3; rw [if_neg hn])
          have i0 : ((n : Int) == 0) = false := by rw [beq_eq_false_iff_ne]; omega
          have hb9 : n ≤ 8 := hb8
          clear cX c16 cD hdef h1 hb8 hn
          go_wp2_with (first | (go_at_call 23; refine (CX.out _).mono ?_; rintro e w1 ⟨rfl, rfl⟩) | (go_at_call 32; refine (CN.out _).mono ?_; rintro e w1 ⟨rfl, rfl⟩))
          go_ret2
          exact ⟨by rw [HF.out, nnRes_mk]; go_num, HB.out⟩
      | false =>
        rw [h1, if_neg (by decide)] at hdef
        rw [h1] at cX
        cases h2 : Lib.hasPrefix l [38, 35] with
        | true =>
          have hle : 2 ≤ l.length := hasPrefix_le h2
          have c10 := fun wx => number10_any (l.drop 2) ((⟨l.toArray⟩ : ByteArray).extract 2 l.length) (extract_drop l 2 l.length (Nat.le_refl _)) 7 (by decide) wx (by rw [List.length_drop]; omega)
          have e7 : ((7 : Nat) : Int) = (7 : Int) := rfl
          rw [e7] at c10
          clear e7
          have hb8 := numRes_le 10 7 (by decide) (l.drop 2)
          rw [h2, if_pos rfl] at hdef
          rw [h2] at cD
          generalize numRes 10 7 (l.drop 2) = q at *
          obtain ⟨x, n⟩ := q
          rw [nnRes_mk] at c10
          have CX := Lib.hid cX
          have CD := Lib.hid cD
          have CN := Lib.hid c10
          by_cases hn : n = 0
          · subst hn
            have HF : Hid (refDoc l = (0, 0)) := Lib.hid (by rw [hdef]; rfl)
            clear cX c10 cD hdef h1 hb8 h2
            go_wp2_with fail
            refine (CX.out _).mono ?_
            rintro e w1 ⟨rfl, rfl⟩
            go_wp2_with fail
            refine (CD.out _).mono ?_
            rintro e w1 ⟨rfl, rfl⟩
            go_wp2_with fail
            refine (CN.out _).mono ?_
            rintro e w1 ⟨rfl, rfl⟩
            go_wp2
            go_ret2
            exact ⟨by rw [HF.out]; rfl, HB.out⟩
          · have HF : Hid (refDoc l = (x, n + 2)) := Lib.hid (by rw [hdef]; unfold add3; rw [if_neg hn])
            have i0 : ((n : Int) == 0) = false := by rw [beq_eq_false_iff_ne]; omega
            have hb9 : n ≤ 8 := hb8
            clear cX c10 cD hdef h1 hb8 hn h2
            go_wp2_with fail
            refine (CX.out _).mono ?_
            rintro e w1 ⟨rfl, rfl⟩
            go_wp2_with fail
            refine (CD.out _).mono ?_
            rintro e w1 ⟨rfl, rfl⟩
            go_wp2_with fail
            refine (CN.out _).mono ?_
            rintro e w1 ⟨rfl, rfl⟩
            go_wp2
            go_ret2
            exact ⟨by rw [HF.out, nnRes_mk]; go_num, HB.out⟩
        | false =>
          rw [h2, if_neg (by decide)] at hdef
          rw [h2] at cD
          have HF := Lib.hid hdef
          have CX := Lib.hid cX
          have CD := Lib.hid cD
          clear cX cD hdef h1 h2
          go_wp2_with fail
          refine (CX.out _).mono ?_
          rintro e w1 ⟨rfl, rfl⟩
          go_wp2_with fail
          refine (CD.out _).mono ?_
          rintro e w1 ⟨rfl, rfl⟩
          go_wp2
          go_ret2
          exact ⟨by rw [HF.out]; rfl, HB.out⟩

end Go.Proofs.YtgkfadkgkdjcoaaDoor
