/- Walks: entity.tell, Text, Value: what a text tells, between tags and as a value. -/
import Derived.Test.YtblhpkcdemefaaaGreatDoorRef
import Derived.Test.YtblhpkcdemefaaaGreatDoorTellp
import Derived.WalkLawsBesides
set_option linter.unusedVariables false
set_option linter.unusedSimpArgs false
namespace Go.Proofs.YtblhpkcdemefaaaGreatDoor
open Go.RowKit Go.WideMaps

/-- What tell hands back. -/
def tellRes (r : List UInt8 × Nat × Nat) : Value := .tuple #[.string ⟨r.1.toArray⟩, .int .i64 r.2.1, .int .i64 r.2.2]
theorem tellRes_mk (a : List UInt8) (p e : Nat) : tellRes (a, p, e) = .tuple #[.string ⟨a.toArray⟩, .int .i64 p, .int .i64 e] := rfl

/-- strings.Cut at one byte. -/
theorem cut_any (b : UInt8) (l : List UInt8) (s t : ByteArray) (hs : s = ⟨l.toArray⟩) (ht : t = ⟨#[b]⟩) (hl : l.length < 4294967281) (w : World) (hR : Ready w) :
    Calls Tryz.prog 104 #[.string s, .string t] w fun e w' => e = .returned (.tuple #[.string ⟨(cutB b l).1.toArray⟩, .string ⟨(cutB b l).2.1.toArray⟩, .bool (cutB b l).2.2]) ∧ Below w.heap.size w w' := by
  subst hs ht
  obtain ⟨m, hm⟩ := hR.maxl
  have h := Tryz.strings_Cut ⟨l.toArray⟩ ⟨#[b]⟩ m w (by rw [ba_size]; exact hl) hm
  have e : Lib.cut (⟨l.toArray⟩ : ByteArray).data.toList (⟨#[b]⟩ : ByteArray).data.toList = cutB b l := cut_cutB b l
  rw [e] at h
  refine h.mono ?_
  rintro e w' ⟨rfl, n, rfl⟩
  exact ⟨rfl, rfl, rfl, rfl, Nat.le_refl _, fun _ _ => rfl⟩

theorem hasPre_any (l p : List UInt8) (s t : ByteArray) (hs : s = ⟨l.toArray⟩) (ht : t = ⟨p.toArray⟩) (w : World) :
    Calls Tryz.prog 107 #[.string s, .string t] w fun e w' => e = .returned (.bool (Lib.hasPrefix l p)) ∧ w' = w := by
  subst hs ht
  exact Tryz.strings_HasPrefix ⟨l.toArray⟩ ⟨p.toArray⟩ w

theorem extract_mid (l : List UInt8) (i j : Nat) (h : j ≤ l.length) : (⟨l.toArray⟩ : ByteArray).extract i j = ⟨((l.drop i).take (j - i)).toArray⟩ := by
  apply ByteArray.ext
  apply Array.toList_inj.1
  rw [Lib.extract_data]

theorem take_min (l : List UInt8) (i n : Nat) (h : l.length ≤ i + n) : (l.drop i).take (l.length - i) = (l.drop i).take n := by
  rw [List.take_of_length_le (by rw [List.length_drop]; omega), List.take_of_length_le (by rw [List.length_drop]; omega)]

theorem below_grown {w w' : World} (h : Below w.heap.size w w') : w.grownBy w' none :=
  ⟨h.os, h.tape, h.output, h.size, fun i hi _ => h.block i hi⟩

/-- A builder stays one while only new blocks are laid. -/
theorem isBuilder_below {T e : TypeId} {B b : Nat} {bs : List Value} {w w' : World} (h : Lib.IsBuilderF T e B b bs w) (hb : Below w.heap.size w w') : Lib.IsBuilderF T e B b bs w' := by
  have key : ∀ {p : Value}, Lib.BuilderAtF T e B b p bs w → Lib.BuilderAtF T e B b p bs w' := by
    intro p h
    obtain ⟨hB, v, hbk, hown, hne⟩ := h
    have blk : ∀ {k : Nat} {o : Obj}, w.heap[k]? = some o → w'.heap[k]? = some o := fun {k o} hk => (hb.block k (Array.getElem?_eq_some_iff.1 hk).1).trans hk
    refine ⟨hB, v, blk hbk, ⟨hown.1, ?_⟩, hne⟩
    rcases hown.2 with hn | ⟨g, cap, cur, fz, hv, hbg, hg, rest⟩
    · exact .inl hn
    · exact .inr ⟨g, cap, cur, fz, hv, hbg, blk hg, rest⟩
  exact h.elim (fun x => .inl (key x)) (fun x => .inr (key x))

theorem ins_slice (l : List UInt8) (pos : Nat) (hp : pos < l.length) (wx : World) :
    (Instr.slice 9 (.string ⟨l.toArray⟩) (some (.int .i64 ((pos : Int) + 1))) (some (.int .i64 (min (l.length : Int) ((pos : Int) + 12)))) none).run Tryz.prog wx = .ok (.string ⟨(((l.drop pos).drop 1).take 11).toArray⟩) wx := by
  rw [run_slice_string wx 9 ⟨l.toArray⟩ .i64 .i64 _ _ Tryz.underlying9 (by omega) (by omega) (by rw [ba_size]; omega)]
  have e1 : ((pos : Int) + 1).toNat = pos + 1 := by omega
  have e2 : (min (l.length : Int) ((pos : Int) + 12)).toNat = min l.length (pos + 12) := by omega
  rw [e1, e2, extract_mid l (pos + 1) _ (by omega), List.drop_drop]
  by_cases h : l.length ≤ pos + 12
  · rw [show min l.length (pos + 12) = l.length by omega, take_min l (pos + 1) 11 (by omega)]
  · rw [show min l.length (pos + 12) = pos + 12 by omega, show pos + 12 - (pos + 1) = 11 by omega]

set_option maxHeartbeats 16000000 in
set_option maxRecDepth 100000 in
theorem tell_any (v : Bool) (l : List UInt8) (s : ByteArray) (hs : s = ⟨l.toArray⟩) (w : World) (hl : l.length ≤ 1000000000) (hR : Ready w) :
    Calls Tryz.prog 149 #[.string s, .bool v] w fun e w' => e = .returned (tellRes (tellL v l)) ∧ Below w.heap.size w w' := by
  subst hs
  have hcv := Lib.run_convert_string_bytes (P := Tryz.prog) w 9 22 5 ⟨l.toArray⟩ (u := .string) Tryz.underlying9 Tryz.underlying22 Tryz.underlying5
  have hcap := grownCap_ge w l.length 0 5
  have hB : bytesAt (Lib.bytesWorld w 5 ⟨l.toArray⟩) w.heap.size 0 l := fun j hj => by
    rw [Nat.zero_add]; exact Lib.bytesWorld_cell w 5 ⟨l.toArray⟩ j (by rw [ba_size]; exact hj)
  have hbelow : Below w.heap.size w (Lib.bytesWorld w 5 ⟨l.toArray⟩) := bytesWorld_below w 5 _
  have hsz1 : (Lib.bytesWorld w 5 ⟨l.toArray⟩).heap.size = w.heap.size + 1 := Lib.bytesWorld_size w 5 _
  rw [ba_size] at hcv
  generalize grownCap w l.length 0 5 = cap at *
  obtain ⟨W1, hW1⟩ : ∃ W1, W1 = Lib.bytesWorld w 5 ⟨l.toArray⟩ := ⟨_, rfl⟩
  rw [← hW1] at hcv hB hbelow hsz1
  clear hW1
  have hR1 := hR.below hbelow
  have hBd : Lib.IsBuilderF 111 5 (w.heap.size + 1) (w.heap.size + 1) (Lib.byteCells []) (W1.alloc (.cells #[.pointer none, .slice none 0 0] 111)) := by
    rw [← hsz1]; exact Lib.IsBuilderF.of (Lib.fresh_isBuilder 111 5 W1)
  have hBl : Below (w.heap.size + 1) W1 (W1.alloc (.cells #[.pointer none, .slice none 0 0] 111)) := (Below.refl _ W1).alloc (by rw [hsz1]; exact Nat.le_refl _) _
  have HB0 := Lib.hid hBd
  have HBL := Lib.hid hBl
  have HBYTES := Lib.hid hB
  have HBELOW := Lib.hid hbelow
  have HCAP := Lib.hid hcap
  clear hBd hBl hB hbelow hcap
  go_enter Tryz.func149, Tryz.ntmps149
  go_wp2
  go_loopw [9] (fun v9 wr => ∃ (pos fuel : Nat) (acc : List UInt8), v9 = .int .i64 pos ∧ Lib.IsBuilderF 111 5 (w.heap.size + 1) (w.heap.size + 1) (Lib.byteCells acc) wr ∧ Below (w.heap.size + 1) W1 wr ∧ tellL v l = tellGo v fuel (l.drop pos) pos acc ∧ pos ≤ l.length ∧ l.length ≤ pos + fuel ∧ acc.length ≤ 4 * pos) (fun v9 _ => l.length - (intOf v9).toNat)
  case atStart => exact ⟨0, l.length, [], rfl, HB0.out, HBL.out, rfl, by omega, by omega, by simp⟩
  case round =>
    obtain ⟨pos, fuel, acc, rfl, hI, hbw, hchk, hpl, hfu, hal⟩ := hrel
    have hsz : w.heap.size + 1 ≤ wr.heap.size := by have := hbw.size; omega
    have hRr := hR1.below (hbw.mono (by omega))
    by_cases hp : pos < l.length
    · have h0 : l.drop pos ≠ [] := by
        intro h
        have := congrArg List.length h
        simp at this
        omega
      have cR := rune_any l w.heap.size 0 cap pos wr (by omega) hRr.tabs (HBYTES.out.below hbw (by omega)) hp HCAP.out
      cases hr : rune1 (l.drop pos) with
      | none =>
        rw [runeRes_none hr] at cR
        have HF : Hid (tellL v l = ([], pos, 4)) := Lib.hid (by rw [hchk]; exact tellGo_bad pos acc (by simp; omega) h0 (by unfold step1; rw [hr]) (by decide))
        have RC := Lib.hid cR
        clear cR hchk hr h0
        go_wp2_with (go_at_call 176; refine (RC.out).mono ?_; rintro e w2 ⟨rfl, hb2⟩)
        go_ret3
        exact ⟨by rw [HF.out]; rfl, HBELOW.out.trans ((hbw.mono (by omega)).trans (hb2.mono (by omega)))⟩
      | some cn =>
        obtain ⟨c, n⟩ := cn
        rw [runeRes_some hr] at cR
        have RC := Lib.hid cR
        obtain ⟨_, rb1, rb2, rb3, rb4, rb5⟩ := rune1_bounds hr
        rw [List.length_drop] at rb3
        by_cases h60 : c = 60
        · subst h60
          have HF : Hid (tellL v l = ([], pos, 5)) := Lib.hid (by rw [hchk]; exact tellGo_bad pos acc (by simp; omega) h0 (by unfold step1; rw [hr]; rfl) (by decide))
          clear cR hchk hr h0 rb5
          go_wp2_with (go_at_call 176; refine (RC.out).mono ?_; rintro e w2 ⟨rfl, hb2⟩)
          go_ret3
          exact ⟨by rw [HF.out]; rfl, HBELOW.out.trans ((hbw.mono (by omega)).trans (hb2.mono (by omega)))⟩
        · have i60 : ((c : Int) == 60) = false := by rw [beq_eq_false_iff_ne]; omega
          by_cases h38 : c = 38
          · subst h38
            have hsl := ins_slice l pos hp
            have cC := fun wx hx => cut_any 59 (((l.drop pos).drop 1).take 11) _ _ rfl rfl (by rw [List.length_take]; omega) wx hx
            have hcl := cutB_le 59 (((l.drop pos).drop 1).take 11)
            have hr1 : ref1 ((l.drop pos).drop 1) = if (cutB 59 (((l.drop pos).drop 1).take 11)).2.2 = false then none else match refIn (cutB 59 (((l.drop pos).drop 1).take 11)).1 with | none => none | some x => some (x, (cutB 59 (((l.drop pos).drop 1).take 11)).1.length + 2) := rfl
            have hst : step1 v (l.drop pos) = match ref1 ((l.drop pos).drop 1) with | none => (5, 0, 0) | some (x, k) => (0, x, k) := by unfold step1; rw [hr]; rfl
            have hl11 : (((l.drop pos).drop 1).take 11).length ≤ 11 ∧ (((l.drop pos).drop 1).take 11).length + pos + 1 ≤ l.length := by
              rw [List.length_take, List.length_drop, List.length_drop]; omega
            generalize ((l.drop pos).drop 1).take 11 = t11 at *
            have CC := Lib.hid cC
            clear cC
            generalize cutB 59 t11 = q at *
            obtain ⟨ins, rest, found⟩ := q
            simp only [] at hcl hr1
            have cF := fun wx hx => reference_any ins ⟨ins.toArray⟩ rfl wx (by have := hcl.1; omega) hx
            have hil : ins.length ≤ 11 := by have := hcl.1; omega
            have hilt : found = true → ins.length + 1 ≤ t11.length := hcl.2
            clear hcl cR
            cases hri : refIn ins with
            | none =>
              rw [hri] at cF
              simp only [refRes] at cF
              have RF := Lib.hid cF
              clear cF
              have HF : Hid (tellL v l = ([], pos, 5)) := Lib.hid (by
                rw [hchk]
                refine tellGo_bad pos acc (by simp; omega) h0 (hst.trans ?_) (by decide)
                have : ref1 ((l.drop pos).drop 1) = none := by
                  rw [hr1, hri]
                  cases found <;> rfl
                rw [this])
              clear hri hst hr1 hchk hr h0 rb5 hilt
              cases found with
              | false =>
                go_wp2_with (first | (go_at_call 176; refine (RC.out).mono ?_; rintro e w2 ⟨rfl, hb2⟩; have hR2 := hRr.below hb2; have hs2 := hb2.size; have HI2 := Lib.hid (isBuilder_below hI hb2)) | (go_at_call 104; refine (CC.out _ hR2).mono ?_; rintro e w3 ⟨rfl, hb3⟩; have hR3 := hR2.below hb3; have hs3 := hb3.size; have HI3 := Lib.hid (isBuilder_below HI2.out hb3)) | (go_at_call 177; refine (RF.out _ hR3).mono ?_; rintro e w4 ⟨rfl, hb4⟩; have hs4 := hb4.size; have HI := Lib.hid (isBuilder_below HI3.out hb4)))
                go_ret3
                exact ⟨by rw [HF.out]; rfl, HBELOW.out.trans ((hbw.mono (by omega)).trans ((hb2.mono (by omega)).trans ((hb3.mono (by omega)).trans (hb4.mono (by omega)))))⟩
              | true =>
                go_wp2_with (first | (go_at_call 176; refine (RC.out).mono ?_; rintro e w2 ⟨rfl, hb2⟩; have hR2 := hRr.below hb2; have hs2 := hb2.size; have HI2 := Lib.hid (isBuilder_below hI hb2)) | (go_at_call 104; refine (CC.out _ hR2).mono ?_; rintro e w3 ⟨rfl, hb3⟩; have hR3 := hR2.below hb3; have hs3 := hb3.size; have HI3 := Lib.hid (isBuilder_below HI2.out hb3)) | (go_at_call 177; refine (RF.out _ hR3).mono ?_; rintro e w4 ⟨rfl, hb4⟩; have hs4 := hb4.size; have HI := Lib.hid (isBuilder_below HI3.out hb4)))
                go_ret3
                exact ⟨by rw [HF.out]; rfl, HBELOW.out.trans ((hbw.mono (by omega)).trans ((hb2.mono (by omega)).trans ((hb3.mono (by omega)).trans (hb4.mono (by omega)))))⟩
            | some x =>
              rw [hri] at cF
              simp only [refRes] at cF
              have RF := Lib.hid cF
              clear cF
              have hx1 := fineB_le (refIn_some hri)
              cases found with
              | false =>
                have HF : Hid (tellL v l = ([], pos, 5)) := Lib.hid (by
                  rw [hchk]
                  refine tellGo_bad pos acc (by simp; omega) h0 (hst.trans ?_) (by decide)
                  have : ref1 ((l.drop pos).drop 1) = none := by rw [hr1]; rfl
                  rw [this])
                clear hri hst hr1 hchk hr h0 rb5 hilt
                go_wp2_with (first | (go_at_call 176; refine (RC.out).mono ?_; rintro e w2 ⟨rfl, hb2⟩; have hR2 := hRr.below hb2; have hs2 := hb2.size; have HI2 := Lib.hid (isBuilder_below hI hb2)) | (go_at_call 104; refine (CC.out _ hR2).mono ?_; rintro e w3 ⟨rfl, hb3⟩; have hR3 := hR2.below hb3; have hs3 := hb3.size; have HI3 := Lib.hid (isBuilder_below HI2.out hb3)) | (go_at_call 177; refine (RF.out _ hR3).mono ?_; rintro e w4 ⟨rfl, hb4⟩; have hs4 := hb4.size; have HI := Lib.hid (isBuilder_below HI3.out hb4)))
                go_ret3
                exact ⟨by rw [HF.out]; rfl, HBELOW.out.trans ((hbw.mono (by omega)).trans ((hb2.mono (by omega)).trans ((hb3.mono (by omega)).trans (hb4.mono (by omega)))))⟩
              | true =>
                have hlt := hilt rfl
                have HF : Hid (tellL v l = tellGo v (fuel - 1) (l.drop (pos + (ins.length + 2))) (pos + (ins.length + 2)) (acc ++ Lib.encodeRune (x : Int))) := Lib.hid (by
                  rw [hchk, ← List.drop_drop]
                  refine tellGo_step pos acc (by simp; omega) h0 (hst.trans ?_)
                  have : ref1 ((l.drop pos).drop 1) = some (x, ins.length + 2) := by rw [hr1, hri]; rfl
                  rw [this])
                obtain ⟨a, ha⟩ : ∃ a : Int, a = (x : Int) := ⟨_, rfl⟩
                rw [← ha] at RF HF
                have a0 : 0 ≤ a := by omega
                have a1 : a ≤ 1114111 := by omega
                clear hri hst hr1 hchk hr h0 rb5 hilt hx1 ha
                go_wp2_with (first | (go_at_call 176; refine (RC.out).mono ?_; rintro e w2 ⟨rfl, hb2⟩; have hR2 := hRr.below hb2; have hs2 := hb2.size; have HI2 := Lib.hid (isBuilder_below hI hb2)) | (go_at_call 104; refine (CC.out _ hR2).mono ?_; rintro e w3 ⟨rfl, hb3⟩; have hR3 := hR2.below hb3; have hs3 := hb3.size; have HI3 := Lib.hid (isBuilder_below HI2.out hb3)) | (go_at_call 177; refine (RF.out _ hR3).mono ?_; rintro e w4 ⟨rfl, hb4⟩; have hs4 := hb4.size; have HI := Lib.hid (isBuilder_below HI3.out hb4)) | (go_at_call 151; refine (Tryz.bWriteRune (w.heap.size + 1) (w.heap.size + 1) _ _ (by omega) (by omega) _ HI.out (by rw [Lib.byteCells_length]; omega) (by omega)).mono ?_; rintro e w9 ⟨rfl, h1, b1, k1⟩))
                go_roundw
                case rel =>
                  have hl4 := Lib.runeCells_le (a : Int)
                  rw [Lib.runeCells_length] at hl4
                  refine ⟨pos + (ins.length + 2), fuel - 1, acc ++ Lib.encodeRune (a : Int), by first | rfl | (congr 1; omega), ?_, ((hbw.trans (hb2.mono (by omega))).trans ((hb3.mono (by omega)).trans (hb4.mono (by omega)))).trans b1, HF.out, by omega, by omega, by rw [List.length_append]; omega⟩
                  rw [Lib.byteCells_append, Lib.byteCells_encodeRune]
                  exact Or.inr h1
                case measure => simp [intOf]; omega
          · have i38 : ((c : Int) == 38) = false := by rw [beq_eq_false_iff_ne]; omega
            by_cases hws : c = 13 ∨ c = 10 ∨ c = 9
            · have cH := fun wx => hasPre_any (l.drop pos) [13, 10] ((⟨l.toArray⟩ : ByteArray).extract pos l.length) ⟨#[13, 10]⟩ (extract_drop l pos l.length (Nat.le_refl _)) rfl wx
              have hst : step1 v (l.drop pos) = (0, if v = true then 32 else if c = 13 then 10 else c, if Lib.hasPrefix (l.drop pos) [13, 10] = true then 2 else n) := by
                unfold step1; rw [hr]; simp only []; rw [if_neg h60, if_neg h38, if_pos hws]
              have hple : Lib.hasPrefix (l.drop pos) [13, 10] = true → 2 ≤ l.length - pos := fun h => by have := hasPrefix_le h; rw [List.length_drop] at this; exact this
              generalize Lib.hasPrefix (l.drop pos) [13, 10] = hp10 at *
              have CH := Lib.hid cH
              clear cH cR rb5 h60 h38 i60 i38
              have i3 : (pos : Int) ≤ (l.length : Int) := by omega
              rcases hws with rfl | rfl | rfl
              · cases hp10 with
                | true =>
                  have hk2 := hple rfl
                  cases v with
                  | true =>
                    have HF : Hid (tellL true l = tellGo true (fuel - 1) (l.drop (pos + 2)) (pos + 2) (acc ++ Lib.encodeRune (32 : Int))) := Lib.hid (by
                      rw [hchk, ← List.drop_drop]
                      exact tellGo_step pos acc (by simp; omega) h0 hst)
                    clear hst hchk hr h0 hple
                    go_wp2_with (first | (go_at_call 176; refine (RC.out).mono ?_; rintro e w2 ⟨rfl, hb2⟩; have hs2 := hb2.size; have HI := Lib.hid (isBuilder_below hI hb2)) | (go_at_call 107; refine (CH.out _).mono ?_; rintro e w' ⟨rfl, rfl⟩) | (go_at_call 151; refine (Tryz.bWriteRune (w.heap.size + 1) (w.heap.size + 1) _ _ (by omega) (by omega) _ HI.out (by rw [Lib.byteCells_length]; omega) (by omega)).mono ?_; rintro e w9 ⟨rfl, h1, b1, k1⟩))
                    go_roundw
                    case rel =>
                      have hl4 := Lib.runeCells_le (32 : Int)
                      rw [Lib.runeCells_length] at hl4
                      refine ⟨pos + 2, fuel - 1, acc ++ Lib.encodeRune (32 : Int), by first | rfl | (congr 1; omega), ?_, (hbw.trans (hb2.mono (by omega))).trans b1, HF.out, by omega, by omega, by rw [List.length_append]; omega⟩
                      rw [Lib.byteCells_append, Lib.byteCells_encodeRune]
                      exact Or.inr h1
                    case measure => simp [intOf]; omega
                  | false =>
                    have HF : Hid (tellL false l = tellGo false (fuel - 1) (l.drop (pos + 2)) (pos + 2) (acc ++ Lib.encodeRune (10 : Int))) := Lib.hid (by
                      rw [hchk, ← List.drop_drop]
                      exact tellGo_step pos acc (by simp; omega) h0 hst)
                    clear hst hchk hr h0 hple
                    go_wp2_with (first | (go_at_call 176; refine (RC.out).mono ?_; rintro e w2 ⟨rfl, hb2⟩; have hs2 := hb2.size; have HI := Lib.hid (isBuilder_below hI hb2)) | (go_at_call 107; refine (CH.out _).mono ?_; rintro e w' ⟨rfl, rfl⟩) | (go_at_call 151; refine (Tryz.bWriteRune (w.heap.size + 1) (w.heap.size + 1) _ _ (by omega) (by omega) _ HI.out (by rw [Lib.byteCells_length]; omega) (by omega)).mono ?_; rintro e w9 ⟨rfl, h1, b1, k1⟩))
                    go_roundw
                    case rel =>
                      have hl4 := Lib.runeCells_le (10 : Int)
                      rw [Lib.runeCells_length] at hl4
                      refine ⟨pos + 2, fuel - 1, acc ++ Lib.encodeRune (10 : Int), by first | rfl | (congr 1; omega), ?_, (hbw.trans (hb2.mono (by omega))).trans b1, HF.out, by omega, by omega, by rw [List.length_append]; omega⟩
                      rw [Lib.byteCells_append, Lib.byteCells_encodeRune]
                      exact Or.inr h1
                    case measure => simp [intOf]; omega
                | false =>
                  cases v with
                  | true =>
                    have HF : Hid (tellL true l = tellGo true (fuel - 1) (l.drop (pos + n)) (pos + n) (acc ++ Lib.encodeRune (32 : Int))) := Lib.hid (by
                      rw [hchk, ← List.drop_drop]
                      exact tellGo_step pos acc (by simp; omega) h0 hst)
                    clear hst hchk hr h0 hple
                    go_wp2_with (first | (go_at_call 176; refine (RC.out).mono ?_; rintro e w2 ⟨rfl, hb2⟩; have hs2 := hb2.size; have HI := Lib.hid (isBuilder_below hI hb2)) | (go_at_call 107; refine (CH.out _).mono ?_; rintro e w' ⟨rfl, rfl⟩) | (go_at_call 151; refine (Tryz.bWriteRune (w.heap.size + 1) (w.heap.size + 1) _ _ (by omega) (by omega) _ HI.out (by rw [Lib.byteCells_length]; omega) (by omega)).mono ?_; rintro e w9 ⟨rfl, h1, b1, k1⟩))
                    go_roundw
                    case rel =>
                      have hl4 := Lib.runeCells_le (32 : Int)
                      rw [Lib.runeCells_length] at hl4
                      refine ⟨pos + n, fuel - 1, acc ++ Lib.encodeRune (32 : Int), by first | rfl | (congr 1; omega), ?_, (hbw.trans (hb2.mono (by omega))).trans b1, HF.out, by omega, by omega, by rw [List.length_append]; omega⟩
                      rw [Lib.byteCells_append, Lib.byteCells_encodeRune]
                      exact Or.inr h1
                    case measure => simp [intOf]; omega
                  | false =>
                    have HF : Hid (tellL false l = tellGo false (fuel - 1) (l.drop (pos + n)) (pos + n) (acc ++ Lib.encodeRune (10 : Int))) := Lib.hid (by
                      rw [hchk, ← List.drop_drop]
                      exact tellGo_step pos acc (by simp; omega) h0 hst)
                    clear hst hchk hr h0 hple
                    go_wp2_with (first | (go_at_call 176; refine (RC.out).mono ?_; rintro e w2 ⟨rfl, hb2⟩; have hs2 := hb2.size; have HI := Lib.hid (isBuilder_below hI hb2)) | (go_at_call 107; refine (CH.out _).mono ?_; rintro e w' ⟨rfl, rfl⟩) | (go_at_call 151; refine (Tryz.bWriteRune (w.heap.size + 1) (w.heap.size + 1) _ _ (by omega) (by omega) _ HI.out (by rw [Lib.byteCells_length]; omega) (by omega)).mono ?_; rintro e w9 ⟨rfl, h1, b1, k1⟩))
                    go_roundw
                    case rel =>
                      have hl4 := Lib.runeCells_le (10 : Int)
                      rw [Lib.runeCells_length] at hl4
                      refine ⟨pos + n, fuel - 1, acc ++ Lib.encodeRune (10 : Int), by first | rfl | (congr 1; omega), ?_, (hbw.trans (hb2.mono (by omega))).trans b1, HF.out, by omega, by omega, by rw [List.length_append]; omega⟩
                      rw [Lib.byteCells_append, Lib.byteCells_encodeRune]
                      exact Or.inr h1
                    case measure => simp [intOf]; omega
              · cases hp10 with
                | true =>
                  have hk2 := hple rfl
                  cases v with
                  | true =>
                    have HF : Hid (tellL true l = tellGo true (fuel - 1) (l.drop (pos + 2)) (pos + 2) (acc ++ Lib.encodeRune (32 : Int))) := Lib.hid (by
                      rw [hchk, ← List.drop_drop]
                      exact tellGo_step pos acc (by simp; omega) h0 hst)
                    clear hst hchk hr h0 hple
                    go_wp2_with (first | (go_at_call 176; refine (RC.out).mono ?_; rintro e w2 ⟨rfl, hb2⟩; have hs2 := hb2.size; have HI := Lib.hid (isBuilder_below hI hb2)) | (go_at_call 107; refine (CH.out _).mono ?_; rintro e w' ⟨rfl, rfl⟩) | (go_at_call 151; refine (Tryz.bWriteRune (w.heap.size + 1) (w.heap.size + 1) _ _ (by omega) (by omega) _ HI.out (by rw [Lib.byteCells_length]; omega) (by omega)).mono ?_; rintro e w9 ⟨rfl, h1, b1, k1⟩))
                    go_roundw
                    case rel =>
                      have hl4 := Lib.runeCells_le (32 : Int)
                      rw [Lib.runeCells_length] at hl4
                      refine ⟨pos + 2, fuel - 1, acc ++ Lib.encodeRune (32 : Int), by first | rfl | (congr 1; omega), ?_, (hbw.trans (hb2.mono (by omega))).trans b1, HF.out, by omega, by omega, by rw [List.length_append]; omega⟩
                      rw [Lib.byteCells_append, Lib.byteCells_encodeRune]
                      exact Or.inr h1
                    case measure => simp [intOf]; omega
                  | false =>
                    have HF : Hid (tellL false l = tellGo false (fuel - 1) (l.drop (pos + 2)) (pos + 2) (acc ++ Lib.encodeRune (10 : Int))) := Lib.hid (by
                      rw [hchk, ← List.drop_drop]
                      exact tellGo_step pos acc (by simp; omega) h0 hst)
                    clear hst hchk hr h0 hple
                    go_wp2_with (first | (go_at_call 176; refine (RC.out).mono ?_; rintro e w2 ⟨rfl, hb2⟩; have hs2 := hb2.size; have HI := Lib.hid (isBuilder_below hI hb2)) | (go_at_call 107; refine (CH.out _).mono ?_; rintro e w' ⟨rfl, rfl⟩) | (go_at_call 151; refine (Tryz.bWriteRune (w.heap.size + 1) (w.heap.size + 1) _ _ (by omega) (by omega) _ HI.out (by rw [Lib.byteCells_length]; omega) (by omega)).mono ?_; rintro e w9 ⟨rfl, h1, b1, k1⟩))
                    go_roundw
                    case rel =>
                      have hl4 := Lib.runeCells_le (10 : Int)
                      rw [Lib.runeCells_length] at hl4
                      refine ⟨pos + 2, fuel - 1, acc ++ Lib.encodeRune (10 : Int), by first | rfl | (congr 1; omega), ?_, (hbw.trans (hb2.mono (by omega))).trans b1, HF.out, by omega, by omega, by rw [List.length_append]; omega⟩
                      rw [Lib.byteCells_append, Lib.byteCells_encodeRune]
                      exact Or.inr h1
                    case measure => simp [intOf]; omega
                | false =>
                  cases v with
                  | true =>
                    have HF : Hid (tellL true l = tellGo true (fuel - 1) (l.drop (pos + n)) (pos + n) (acc ++ Lib.encodeRune (32 : Int))) := Lib.hid (by
                      rw [hchk, ← List.drop_drop]
                      exact tellGo_step pos acc (by simp; omega) h0 hst)
                    clear hst hchk hr h0 hple
                    go_wp2_with (first | (go_at_call 176; refine (RC.out).mono ?_; rintro e w2 ⟨rfl, hb2⟩; have hs2 := hb2.size; have HI := Lib.hid (isBuilder_below hI hb2)) | (go_at_call 107; refine (CH.out _).mono ?_; rintro e w' ⟨rfl, rfl⟩) | (go_at_call 151; refine (Tryz.bWriteRune (w.heap.size + 1) (w.heap.size + 1) _ _ (by omega) (by omega) _ HI.out (by rw [Lib.byteCells_length]; omega) (by omega)).mono ?_; rintro e w9 ⟨rfl, h1, b1, k1⟩))
                    go_roundw
                    case rel =>
                      have hl4 := Lib.runeCells_le (32 : Int)
                      rw [Lib.runeCells_length] at hl4
                      refine ⟨pos + n, fuel - 1, acc ++ Lib.encodeRune (32 : Int), by first | rfl | (congr 1; omega), ?_, (hbw.trans (hb2.mono (by omega))).trans b1, HF.out, by omega, by omega, by rw [List.length_append]; omega⟩
                      rw [Lib.byteCells_append, Lib.byteCells_encodeRune]
                      exact Or.inr h1
                    case measure => simp [intOf]; omega
                  | false =>
                    have HF : Hid (tellL false l = tellGo false (fuel - 1) (l.drop (pos + n)) (pos + n) (acc ++ Lib.encodeRune (10 : Int))) := Lib.hid (by
                      rw [hchk, ← List.drop_drop]
                      exact tellGo_step pos acc (by simp; omega) h0 hst)
                    clear hst hchk hr h0 hple
                    go_wp2_with (first | (go_at_call 176; refine (RC.out).mono ?_; rintro e w2 ⟨rfl, hb2⟩; have hs2 := hb2.size; have HI := Lib.hid (isBuilder_below hI hb2)) | (go_at_call 107; refine (CH.out _).mono ?_; rintro e w' ⟨rfl, rfl⟩) | (go_at_call 151; refine (Tryz.bWriteRune (w.heap.size + 1) (w.heap.size + 1) _ _ (by omega) (by omega) _ HI.out (by rw [Lib.byteCells_length]; omega) (by omega)).mono ?_; rintro e w9 ⟨rfl, h1, b1, k1⟩))
                    go_roundw
                    case rel =>
                      have hl4 := Lib.runeCells_le (10 : Int)
                      rw [Lib.runeCells_length] at hl4
                      refine ⟨pos + n, fuel - 1, acc ++ Lib.encodeRune (10 : Int), by first | rfl | (congr 1; omega), ?_, (hbw.trans (hb2.mono (by omega))).trans b1, HF.out, by omega, by omega, by rw [List.length_append]; omega⟩
                      rw [Lib.byteCells_append, Lib.byteCells_encodeRune]
                      exact Or.inr h1
                    case measure => simp [intOf]; omega
              · cases hp10 with
                | true =>
                  have hk2 := hple rfl
                  cases v with
                  | true =>
                    have HF : Hid (tellL true l = tellGo true (fuel - 1) (l.drop (pos + 2)) (pos + 2) (acc ++ Lib.encodeRune (32 : Int))) := Lib.hid (by
                      rw [hchk, ← List.drop_drop]
                      exact tellGo_step pos acc (by simp; omega) h0 hst)
                    clear hst hchk hr h0 hple
                    go_wp2_with (first | (go_at_call 176; refine (RC.out).mono ?_; rintro e w2 ⟨rfl, hb2⟩; have hs2 := hb2.size; have HI := Lib.hid (isBuilder_below hI hb2)) | (go_at_call 107; refine (CH.out _).mono ?_; rintro e w' ⟨rfl, rfl⟩) | (go_at_call 151; refine (Tryz.bWriteRune (w.heap.size + 1) (w.heap.size + 1) _ _ (by omega) (by omega) _ HI.out (by rw [Lib.byteCells_length]; omega) (by omega)).mono ?_; rintro e w9 ⟨rfl, h1, b1, k1⟩))
                    go_roundw
                    case rel =>
                      have hl4 := Lib.runeCells_le (32 : Int)
                      rw [Lib.runeCells_length] at hl4
                      refine ⟨pos + 2, fuel - 1, acc ++ Lib.encodeRune (32 : Int), by first | rfl | (congr 1; omega), ?_, (hbw.trans (hb2.mono (by omega))).trans b1, HF.out, by omega, by omega, by rw [List.length_append]; omega⟩
                      rw [Lib.byteCells_append, Lib.byteCells_encodeRune]
                      exact Or.inr h1
                    case measure => simp [intOf]; omega
                  | false =>
                    have HF : Hid (tellL false l = tellGo false (fuel - 1) (l.drop (pos + 2)) (pos + 2) (acc ++ Lib.encodeRune (9 : Int))) := Lib.hid (by
                      rw [hchk, ← List.drop_drop]
                      exact tellGo_step pos acc (by simp; omega) h0 hst)
                    clear hst hchk hr h0 hple
                    go_wp2_with (first | (go_at_call 176; refine (RC.out).mono ?_; rintro e w2 ⟨rfl, hb2⟩; have hs2 := hb2.size; have HI := Lib.hid (isBuilder_below hI hb2)) | (go_at_call 107; refine (CH.out _).mono ?_; rintro e w' ⟨rfl, rfl⟩) | (go_at_call 151; refine (Tryz.bWriteRune (w.heap.size + 1) (w.heap.size + 1) _ _ (by omega) (by omega) _ HI.out (by rw [Lib.byteCells_length]; omega) (by omega)).mono ?_; rintro e w9 ⟨rfl, h1, b1, k1⟩))
                    go_roundw
                    case rel =>
                      have hl4 := Lib.runeCells_le (9 : Int)
                      rw [Lib.runeCells_length] at hl4
                      refine ⟨pos + 2, fuel - 1, acc ++ Lib.encodeRune (9 : Int), by first | rfl | (congr 1; omega), ?_, (hbw.trans (hb2.mono (by omega))).trans b1, HF.out, by omega, by omega, by rw [List.length_append]; omega⟩
                      rw [Lib.byteCells_append, Lib.byteCells_encodeRune]
                      exact Or.inr h1
                    case measure => simp [intOf]; omega
                | false =>
                  cases v with
                  | true =>
                    have HF : Hid (tellL true l = tellGo true (fuel - 1) (l.drop (pos + n)) (pos + n) (acc ++ Lib.encodeRune (32 : Int))) := Lib.hid (by
                      rw [hchk, ← List.drop_drop]
                      exact tellGo_step pos acc (by simp; omega) h0 hst)
                    clear hst hchk hr h0 hple
                    go_wp2_with (first | (go_at_call 176; refine (RC.out).mono ?_; rintro e w2 ⟨rfl, hb2⟩; have hs2 := hb2.size; have HI := Lib.hid (isBuilder_below hI hb2)) | (go_at_call 107; refine (CH.out _).mono ?_; rintro e w' ⟨rfl, rfl⟩) | (go_at_call 151; refine (Tryz.bWriteRune (w.heap.size + 1) (w.heap.size + 1) _ _ (by omega) (by omega) _ HI.out (by rw [Lib.byteCells_length]; omega) (by omega)).mono ?_; rintro e w9 ⟨rfl, h1, b1, k1⟩))
                    go_roundw
                    case rel =>
                      have hl4 := Lib.runeCells_le (32 : Int)
                      rw [Lib.runeCells_length] at hl4
                      refine ⟨pos + n, fuel - 1, acc ++ Lib.encodeRune (32 : Int), by first | rfl | (congr 1; omega), ?_, (hbw.trans (hb2.mono (by omega))).trans b1, HF.out, by omega, by omega, by rw [List.length_append]; omega⟩
                      rw [Lib.byteCells_append, Lib.byteCells_encodeRune]
                      exact Or.inr h1
                    case measure => simp [intOf]; omega
                  | false =>
                    have HF : Hid (tellL false l = tellGo false (fuel - 1) (l.drop (pos + n)) (pos + n) (acc ++ Lib.encodeRune (9 : Int))) := Lib.hid (by
                      rw [hchk, ← List.drop_drop]
                      exact tellGo_step pos acc (by simp; omega) h0 hst)
                    clear hst hchk hr h0 hple
                    go_wp2_with (first | (go_at_call 176; refine (RC.out).mono ?_; rintro e w2 ⟨rfl, hb2⟩; have hs2 := hb2.size; have HI := Lib.hid (isBuilder_below hI hb2)) | (go_at_call 107; refine (CH.out _).mono ?_; rintro e w' ⟨rfl, rfl⟩) | (go_at_call 151; refine (Tryz.bWriteRune (w.heap.size + 1) (w.heap.size + 1) _ _ (by omega) (by omega) _ HI.out (by rw [Lib.byteCells_length]; omega) (by omega)).mono ?_; rintro e w9 ⟨rfl, h1, b1, k1⟩))
                    go_roundw
                    case rel =>
                      have hl4 := Lib.runeCells_le (9 : Int)
                      rw [Lib.runeCells_length] at hl4
                      refine ⟨pos + n, fuel - 1, acc ++ Lib.encodeRune (9 : Int), by first | rfl | (congr 1; omega), ?_, (hbw.trans (hb2.mono (by omega))).trans b1, HF.out, by omega, by omega, by rw [List.length_append]; omega⟩
                      rw [Lib.byteCells_append, Lib.byteCells_encodeRune]
                      exact Or.inr h1
                    case measure => simp [intOf]; omega
            · have i13 : ((c : Int) == 13) = false := by rw [beq_eq_false_iff_ne]; omega
              have i10 : ((c : Int) == 10) = false := by rw [beq_eq_false_iff_ne]; omega
              have i9 : ((c : Int) == 9) = false := by rw [beq_eq_false_iff_ne]; omega
              have HF : Hid (tellL v l = tellGo v (fuel - 1) (l.drop (pos + n)) (pos + n) (acc ++ Lib.encodeRune (c : Int))) := Lib.hid (by
                rw [hchk, ← List.drop_drop]
                refine tellGo_step pos acc (by simp; omega) h0 ?_
                unfold step1; rw [hr]; simp only []; rw [if_neg h60, if_neg h38, if_neg hws])
              clear cR hchk hr h0 rb5 h60 h38 hws
              go_wp2_with (first | (go_at_call 176; refine (RC.out).mono ?_; rintro e w2 ⟨rfl, hb2⟩; have hs2 := hb2.size; have HI := Lib.hid (isBuilder_below hI hb2)) | (go_at_call 151; refine (Tryz.bWriteRune (w.heap.size + 1) (w.heap.size + 1) _ _ (by omega) (by omega) _ HI.out (by rw [Lib.byteCells_length]; omega) (by omega)).mono ?_; rintro e w9 ⟨rfl, h1, b1, k1⟩))
              go_roundw
              case rel =>
                have hl4 := Lib.runeCells_le (c : Int)
                rw [Lib.runeCells_length] at hl4
                refine ⟨pos + n, fuel - 1, acc ++ Lib.encodeRune (c : Int), by first | rfl | (congr 1; omega), ?_, (hbw.trans (hb2.mono (by omega))).trans b1, HF.out, by omega, by omega, by rw [List.length_append]; omega⟩
                rw [Lib.byteCells_append, Lib.byteCells_encodeRune]
                exact Or.inr h1
              case measure => simp [intOf]; omega
    · have hpe : pos = l.length := by omega
      have HF : Hid (tellL v l = (acc, l.length, 0)) := Lib.hid (by rw [hchk, hpe, List.drop_length, tellGo_nil])
      clear hchk
      go_wp2_with (go_at_call 54; refine (Tryz.Builder_String_any_k (w.heap.size + 1) (w.heap.size + 1) acc _ hI hsz).mono ?_; rintro e w9 ⟨rfl, _, b1, _⟩)
      go_ret3
      exact ⟨by rw [HF.out]; rfl, HBELOW.out.trans ((hbw.trans b1).mono (by omega))⟩

theorem text_any (l : List UInt8) (s : ByteArray) (hs : s = ⟨l.toArray⟩) (w : World) (hl : l.length ≤ 1000000000) (hR : Ready w) :
    Calls Tryz.prog 113 #[.string s] w fun e w' => e = .returned (tellRes (tellL false l)) ∧ Below w.heap.size w w' := by
  have C := Lib.hid (fun wx hx => tell_any false l s hs wx hl hx)
  clear hs
  unfold tellRes at C ⊢
  generalize tellL false l = r at *
  go_enter Tryz.func113, Tryz.ntmps113
  go_wp2_with (go_at_call 149; refine (C.out _ hR).mono ?_; rintro e w' ⟨rfl, hb⟩)
  go_ret3
  exact ⟨rfl, hb⟩

theorem value_any (l : List UInt8) (s : ByteArray) (hs : s = ⟨l.toArray⟩) (w : World) (hl : l.length ≤ 1000000000) (hR : Ready w) :
    Calls Tryz.prog 175 #[.string s] w fun e w' => e = .returned (tellRes (tellL true l)) ∧ Below w.heap.size w w' := by
  have C := Lib.hid (fun wx hx => tell_any true l s hs wx hl hx)
  clear hs
  unfold tellRes at C ⊢
  generalize tellL true l = r at *
  go_enter Tryz.func175, Tryz.ntmps175
  go_wp2_with (go_at_call 149; refine (C.out _ hR).mono ?_; rintro e w' ⟨rfl, hb⟩)
  go_ret3
  exact ⟨rfl, hb⟩

end Go.Proofs.YtblhpkcdemefaaaGreatDoor
