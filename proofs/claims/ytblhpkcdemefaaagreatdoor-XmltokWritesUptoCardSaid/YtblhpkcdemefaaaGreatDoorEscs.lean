/- Walks: the document's answer of layer 3: what is escaped (tipstaveref03.Escape). -/
import Derived.Test.YtblhpkcdemefaaaGreatDoorUcheck
import Derived.Test.YtblhpkcdemefaaaGreatDoorTi
import Derived.Test.YtblhpkcdemefaaaGreatDoorRcl
set_option linter.unusedVariables false
set_option linter.unusedSimpArgs false
namespace Go.Proofs.YtblhpkcdemefaaaGreatDoor
open Go.RowKit

/-- A byte, escaped. -/
def escY (v : Bool) (b : UInt8) : List UInt8 :=
  if b = 38 then [38, 97, 109, 112, 59] else if b = 60 then [38, 108, 116, 59] else if b = 62 then [38, 103, 116, 59] else if b = 13 then [38, 35, 49, 51, 59]
  else if v = true ∧ b = 34 then [38, 113, 117, 111, 116, 59] else if v = true ∧ b = 9 then [38, 35, 57, 59] else if v = true ∧ b = 10 then [38, 35, 49, 48, 59] else [b]

def escE (v : Bool) : List (Int × List UInt8) := if v = true then escV else escT

theorem escY_big (v : Bool) (b : UInt8) (h : 128 ≤ b.toNat) : escY v b = [b] := by
  have key : ∀ x : UInt8, x.toNat < 128 → b ≠ x := by rintro x hx rfl; omega
  unfold escY
  rw [if_neg (key _ (by decide)), if_neg (key _ (by decide)), if_neg (key _ (by decide)), if_neg (key _ (by decide)), if_neg (fun h => key _ (by decide) h.2), if_neg (fun h => key _ (by decide) h.2), if_neg (fun h => key _ (by decide) h.2)]

theorem escY_le (v : Bool) (b : UInt8) : (escY v b).length ≤ 6 := by
  unfold escY
  repeat' split
  all_goals simp

theorem escY_small (v : Bool) : ∀ n : Fin 128, (put n.val).flatMap (escY v) = escB (escE v) n.val := by
  cases v <;> decide +kernel

theorem flat_big (v : Bool) : ∀ l : List UInt8, (∀ b ∈ l, 128 ≤ b.toNat) → l.flatMap (escY v) = l
  | [], _ => rfl
  | b :: l, h => by
    rw [List.flatMap_cons, escY_big v b (h b List.mem_cons_self), flat_big v l (fun x hx => h x (List.mem_cons_of_mem _ hx))]
    rfl

theorem escY_put (v : Bool) (c : Nat) (hf : fineB c = true) : (put c).flatMap (escY v) = escB (escE v) c := by
  by_cases h : c < 128
  · exact escY_small v ⟨c, h⟩
  · have hb := (fineB_iff _).1 hf
    rw [flat_big v _ (put_big c (by omega) hf)]
    rw [escB_none]
    · rfl
    · intro p hp
      have : ∀ q ∈ escE v, q.1 < 128 := by cases v <;> decide
      have := this p hp
      omega

theorem escY_chars (v : Bool) (cs : List Nat) (hf : allFine cs) : (chars cs).flatMap (escY v) = escL (escE v) (chars cs) := by
  rw [escL_chars _ cs hf]
  induction cs with
  | nil => rfl
  | cons c cs ih =>
    rw [chars_cons, List.flatMap_append, escY_put v c (hf c List.mem_cons_self), ih (fun x hx => hf x (List.mem_cons_of_mem _ hx)), List.flatMap_cons]

/-- What Escape returns. -/
def esc3Res (v : Bool) (l : List UInt8) : Value := if (checkL l).2 = true then .tuple #[.string ⟨(escL (escE v) l).toArray⟩, .bool true] else .tuple #[.string ⟨#[]⟩, .bool false]

theorem one_slice (l : List UInt8) (pos : Nat) (hp : pos < l.length) (b : UInt8) (hb : l[pos] = b) (wx : World) :
    (Instr.slice 9 (.string ⟨l.toArray⟩) (some (.int .i64 pos)) (some (.int .i64 ((pos : Int) + 1))) none).run Tryz.prog wx = .ok (.string ⟨#[b]⟩) wx := by
  rw [run_slice_string wx 9 ⟨l.toArray⟩ .i64 .i64 _ _ Tryz.underlying9 (by omega) (by omega) (by rw [ba_size]; omega)]
  have e1 : ((pos : Int) + 1).toNat = pos + 1 := by omega
  have e2 : ((pos : Int)).toNat = pos := by omega
  rw [e1, e2, extract_mid l pos _ (by omega), show pos + 1 - pos = 1 by omega, List.drop_eq_getElem_cons hp, hb]
  rfl

theorem b_ne {b x : UInt8} (h : b ≠ x) : (b == x) = false := by rw [beq_eq_false_iff_ne]; exact h

set_option maxHeartbeats 8000000 in
set_option maxRecDepth 100000 in
theorem esc3_any (v : Bool) (l : List UInt8) (s : ByteArray) (hs : s = ⟨l.toArray⟩) (w : World) (hl : l.length ≤ 2147483647) :
    Calls Tryz.prog 74 #[.string s, .bool v] w fun e w' => e = .returned (esc3Res v l) ∧ Below w.heap.size w w' := by
  subst hs
  have c3 := fun wx (cap : Nat) (b : Nat) (hc : l.length ≤ cap) (hm : bytesAt wx b 0 l) => checkR_any l b l.length cap rfl wx hl hc hm
  obtain ⟨W1, cap, hcv, hB, hcap, hby, hsW⟩ := conv_check l hl w
  have HB := Lib.hid hB
  have HBY := Lib.hid hby
  have hsW2 : w.heap.size ≤ W1.heap.size := by omega
  cases hck : (checkL l).2 with
  | false =>
    have hlt := (checkL_le l).2 hck
    have HF : Hid (esc3Res v l = .tuple #[.string ⟨#[]⟩, .bool false]) := Lib.hid (by unfold esc3Res; rw [hck]; rfl)
    generalize (checkL l).1 = p at *
    have C3 := Lib.hid c3
    have ip : ((p : Int) != (l.length : Int)) = true := by rw [bne_iff_ne]; omega
    clear hB hby hsW c3 hck
    go_enter Tryz.func74, Tryz.ntmps74
    go_wp2_with (go_at_call 120; refine (C3.out _ _ _ hcap HBY.out).mono ?_; rintro e w5 ⟨rfl, hb5⟩)
    go_ret2
    have hs5 := hb5.size
    exact ⟨by rw [HF.out]; rfl, HB.out.trans (hb5.mono hsW2)⟩
  | true =>
    obtain ⟨cs, hf, he⟩ := checkL_ok hck
    have hck2 : (checkL l).1 = l.length := by rw [he, checkL_chars cs hf]
    have HF : Hid (esc3Res v l = .tuple #[.string ⟨(l.flatMap (escY v)).toArray⟩, .bool true]) := Lib.hid (by unfold esc3Res; rw [hck, if_pos rfl, he, escY_chars v cs hf])
    rw [hck2] at c3
    have C3 := Lib.hid c3
    clear hB hby hsW c3 hck hck2 he hf
    go_enter Tryz.func74, Tryz.ntmps74
    go_wp2_with (go_at_call 120; refine (C3.out _ _ _ hcap HBY.out).mono ?_; rintro e w5 ⟨rfl, hb5⟩)
    have hs5 := hb5.size
    go_wp2
    go_loop [6, 7, 8] (fun v6 v7 v8 => ∃ (pos : Nat) (acc : List UInt8), v6 = .string ⟨acc.toArray⟩ ∧ v7 = .int .i64 pos ∧ pos ≤ l.length ∧ Hid (l.flatMap (escY v) = acc ++ (l.drop pos).flatMap (escY v)) ∧ acc.length ≤ 6 * pos) (fun v6 v7 v8 => l.length - (intOf v7).toNat)
    case atStart => exact ⟨0, [], rfl, rfl, by omega, Lib.hid rfl, by simp⟩
    case round =>
      obtain ⟨pos, acc, rfl, rfl, hpl, hacc, hal⟩ := hrel
      by_cases hp : pos < l.length
      · have hnext : Hid (∀ b, l[pos] = b → l.flatMap (escY v) = (acc ++ escY v b) ++ (l.drop (pos + 1)).flatMap (escY v)) := Lib.hid (fun b hb => by
          rw [hacc.out, List.drop_eq_getElem_cons hp, hb, List.flatMap_cons, List.append_assoc])
        generalize hgb : l[pos] = b at hnext
        have hsl := fun wx => one_slice l pos hp b hgb wx
        cases v with
        | false =>
          by_cases h38 : b = 38
          · subst h38
            have HN := Lib.hid (hnext.out 38 rfl)
            clear hnext hgb
            go_wp2
            go_round
            case rel => exact ⟨pos + 1, acc ++ [38, 97, 109, 112, 59], congrArg Value.string (ba_app2 acc [38, 97, 109, 112, 59]), by go_num, by omega, Lib.hid (HN.out), by simp; omega⟩
            case measure => simp [intOf]; omega
          by_cases h60 : b = 60
          · subst h60
            have HN := Lib.hid (hnext.out 60 rfl)
            clear hnext hgb
            go_wp2
            go_round
            case rel => exact ⟨pos + 1, acc ++ [38, 108, 116, 59], congrArg Value.string (ba_app2 acc [38, 108, 116, 59]), by go_num, by omega, Lib.hid (HN.out), by simp; omega⟩
            case measure => simp [intOf]; omega
          by_cases h62 : b = 62
          · subst h62
            have HN := Lib.hid (hnext.out 62 rfl)
            clear hnext hgb
            go_wp2
            go_round
            case rel => exact ⟨pos + 1, acc ++ [38, 103, 116, 59], congrArg Value.string (ba_app2 acc [38, 103, 116, 59]), by go_num, by omega, Lib.hid (HN.out), by simp; omega⟩
            case measure => simp [intOf]; omega
          by_cases h13 : b = 13
          · subst h13
            have HN := Lib.hid (hnext.out 13 rfl)
            clear hnext hgb
            go_wp2
            go_round
            case rel => exact ⟨pos + 1, acc ++ [38, 35, 49, 51, 59], congrArg Value.string (ba_app2 acc [38, 35, 49, 51, 59]), by go_num, by omega, Lib.hid (HN.out), by simp; omega⟩
            case measure => simp [intOf]; omega
          have HN := Lib.hid (hnext.out b rfl)
          have hy : escY false b = [b] := by unfold escY; rw [if_neg h38, if_neg h60, if_neg h62, if_neg h13, if_neg (fun h => by cases h.1), if_neg (fun h => by cases h.1), if_neg (fun h => by cases h.1)]
          rw [hy] at HN
          have k38 := b_ne h38
          have k60 := b_ne h60
          have k62 := b_ne h62
          have k13 := b_ne h13
          clear hnext hgb hy h38 h60 h62 h13
          go_wp2
          go_round
          case rel => exact ⟨pos + 1, acc ++ [b], congrArg Value.string (ba_app2 acc [b]), by go_num, by omega, Lib.hid (HN.out), by simp; omega⟩
          case measure => simp [intOf]; omega
        | true =>
          by_cases h38 : b = 38
          · subst h38
            have HN := Lib.hid (hnext.out 38 rfl)
            clear hnext hgb
            go_wp2
            go_round
            case rel => exact ⟨pos + 1, acc ++ [38, 97, 109, 112, 59], congrArg Value.string (ba_app2 acc [38, 97, 109, 112, 59]), by go_num, by omega, Lib.hid (HN.out), by simp; omega⟩
            case measure => simp [intOf]; omega
          by_cases h60 : b = 60
          · subst h60
            have HN := Lib.hid (hnext.out 60 rfl)
            clear hnext hgb
            go_wp2
            go_round
            case rel => exact ⟨pos + 1, acc ++ [38, 108, 116, 59], congrArg Value.string (ba_app2 acc [38, 108, 116, 59]), by go_num, by omega, Lib.hid (HN.out), by simp; omega⟩
            case measure => simp [intOf]; omega
          by_cases h62 : b = 62
          · subst h62
            have HN := Lib.hid (hnext.out 62 rfl)
            clear hnext hgb
            go_wp2
            go_round
            case rel => exact ⟨pos + 1, acc ++ [38, 103, 116, 59], congrArg Value.string (ba_app2 acc [38, 103, 116, 59]), by go_num, by omega, Lib.hid (HN.out), by simp; omega⟩
            case measure => simp [intOf]; omega
          by_cases h13 : b = 13
          · subst h13
            have HN := Lib.hid (hnext.out 13 rfl)
            clear hnext hgb
            go_wp2
            go_round
            case rel => exact ⟨pos + 1, acc ++ [38, 35, 49, 51, 59], congrArg Value.string (ba_app2 acc [38, 35, 49, 51, 59]), by go_num, by omega, Lib.hid (HN.out), by simp; omega⟩
            case measure => simp [intOf]; omega
          by_cases h34 : b = 34
          · subst h34
            have HN := Lib.hid (hnext.out 34 rfl)
            clear hnext hgb
            go_wp2
            go_round
            case rel => exact ⟨pos + 1, acc ++ [38, 113, 117, 111, 116, 59], congrArg Value.string (ba_app2 acc [38, 113, 117, 111, 116, 59]), by go_num, by omega, Lib.hid (HN.out), by simp; omega⟩
            case measure => simp [intOf]; omega
          by_cases h9 : b = 9
          · subst h9
            have HN := Lib.hid (hnext.out 9 rfl)
            clear hnext hgb
            go_wp2
            go_round
            case rel => exact ⟨pos + 1, acc ++ [38, 35, 57, 59], congrArg Value.string (ba_app2 acc [38, 35, 57, 59]), by go_num, by omega, Lib.hid (HN.out), by simp; omega⟩
            case measure => simp [intOf]; omega
          by_cases h10 : b = 10
          · subst h10
            have HN := Lib.hid (hnext.out 10 rfl)
            clear hnext hgb
            go_wp2
            go_round
            case rel => exact ⟨pos + 1, acc ++ [38, 35, 49, 48, 59], congrArg Value.string (ba_app2 acc [38, 35, 49, 48, 59]), by go_num, by omega, Lib.hid (HN.out), by simp; omega⟩
            case measure => simp [intOf]; omega
          have HN := Lib.hid (hnext.out b rfl)
          have hy : escY true b = [b] := by unfold escY; rw [if_neg h38, if_neg h60, if_neg h62, if_neg h13, if_neg (fun h => h34 h.2), if_neg (fun h => h9 h.2), if_neg (fun h => h10 h.2)]
          rw [hy] at HN
          have k38 := b_ne h38
          have k60 := b_ne h60
          have k62 := b_ne h62
          have k13 := b_ne h13
          have k34 := b_ne h34
          have k9 := b_ne h9
          have k10 := b_ne h10
          clear hnext hgb hy h38 h60 h62 h13 h34 h9 h10
          go_wp2
          go_round
          case rel => exact ⟨pos + 1, acc ++ [b], congrArg Value.string (ba_app2 acc [b]), by go_num, by omega, Lib.hid (HN.out), by simp; omega⟩
          case measure => simp [intOf]; omega
      · have hpe : pos = l.length := by omega
        subst hpe
        have HG : Hid (l.flatMap (escY v) = acc) := Lib.hid (by rw [hacc.out, List.drop_length]; simp)
        go_wp2
        go_ret2
        exact ⟨by rw [HF.out, HG.out]; rfl, HB.out.trans (hb5.mono hsW2)⟩

end Go.Proofs.YtblhpkcdemefaaaGreatDoor
