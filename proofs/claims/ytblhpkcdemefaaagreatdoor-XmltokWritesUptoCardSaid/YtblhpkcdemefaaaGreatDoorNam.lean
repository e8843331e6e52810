/- Walks: package names: is a text a name (names.made, Plain, Split). -/
import Derived.Test.YtblhpkcdemefaaaGreatDoorCls
import Derived.Test.YtblhpkcdemefaaaGreatDoorTell
import Derived.Test.YtblhpkcdemefaaaGreatDoorConv
set_option linter.unusedVariables false
set_option linter.unusedSimpArgs false
namespace Go.Proofs.YtblhpkcdemefaaaGreatDoor
open Go.RowKit

theorem firstB_fine {c : Int} (h : firstB c = true) : fineB c = true := by
  unfold firstB letterB at h
  rw [Bool.or_eq_true, Bool.and_eq_true, decide_eq_true_iff] at h
  rcases h with h | h
  · rw [fineB_iff]; omega
  · exact h.2
theorem partB_fine {c : Int} (h : partB c = true) : fineB c = true := by
  unfold partB nextB at h
  rw [Bool.or_eq_true, Bool.or_eq_true, decide_eq_true_iff, decide_eq_true_iff] at h
  rcases h with (h | h) | h
  · exact firstB_fine h
  · rw [fineB_iff]; omega
  · rw [fineB_iff]; omega

theorem madeGo_nil (p q : Int → Bool) (f : Nat) (b : Bool) : madeGo p q f [] b = true := by cases f <;> simp [madeGo]
theorem madeGo_none {p q : Int → Bool} {f : Nat} {l : List UInt8} {b : Bool} (hf : l.length ≤ f) (hl : l ≠ []) (h : rune1 l = none) : madeGo p q f l b = false := by
  cases f with
  | zero => cases l with | nil => exact absurd rfl hl | cons x l => simp at hf
  | succ f => unfold madeGo; rw [if_neg hl, h]
theorem madeGo_some {p q : Int → Bool} {f : Nat} {l : List UInt8} {b : Bool} {c n : Nat} (hf : l.length ≤ f) (hl : l ≠ []) (h : rune1 l = some (c, n)) :
    madeGo p q f l b = ((if b = true then p c else q c) && madeGo p q (f - 1) (l.drop n) false) := by
  cases f with
  | zero => cases l with | nil => exact absurd rfl hl | cons x l => simp at hf
  | succ f => conv => lhs; unfold madeGo
              rw [if_neg hl, h]
              rfl

/-- Two function values: the first one is asked of the first character, the second one of all others. -/
def atV (g1 g2 : Nat) (b : Bool) : Value := if b = true then .func (.func g1) #[] #[] else .func (.func g2) #[] #[]

set_option maxHeartbeats 4000000 in
theorem made_any (g1 g2 : Nat) (p q : Int → Bool) (eg1 : ∀ args w, (callFunc g1 args).run Tryz.prog w = .ok (.enter g1 args) w) (eg2 : ∀ args w, (callFunc g2 args).run Tryz.prog w = .ok (.enter g2 args) w)
    (hc1 : ∀ (c : Int) w, Calls Tryz.prog g1 #[.int .i64 c] w fun e w' => e = .returned (.bool (p c)) ∧ w' = w) (hc2 : ∀ (c : Int) w, Calls Tryz.prog g2 #[.int .i64 c] w fun e w' => e = .returned (.bool (q c)) ∧ w' = w)
    (hp : ∀ c, p c = true → fineB c = true) (hq : ∀ c, q c = true → fineB c = true)
    (l : List UInt8) (w : World) (hl : l.length ≤ 2147483647) (hR : Ready w) :
    Calls Tryz.prog 152 #[.string ⟨l.toArray⟩, .func (.func g1) #[] #[], .func (.func g2) #[] #[]] w fun e w' => e = .returned (.bool (madeL p q l)) ∧ Below w.heap.size w w' := by
  have hsz := ba_size l
  have HS := Lib.hid hsz
  clear hsz
  go_enter Tryz.func152, Tryz.ntmps152
  go_wp2
  go_loopw [7] (fun v7 wr => ∃ (pos fuel : Nat) (bl : Bool), v7 = atV g1 g2 bl ∧ wr.heap[w.heap.size]? = some (.stringIter ⟨l.toArray⟩ pos) ∧ Below w.heap.size w wr ∧ madeGo p q l.length l true = madeGo p q fuel (l.drop pos) bl ∧ l.length ≤ pos + fuel ∧ pos ≤ l.length) (fun _ wr => l.length - wr.iterPos w.heap.size)
  case atStart =>
    refine ⟨0, l.length, true, rfl, ?_, (Below.refl _ w).alloc (Nat.le_refl _) _, rfl, by omega, by omega⟩
    have := World.iter_heap w ⟨l.toArray⟩ 0
    simpa using this
  case round =>
    obtain ⟨pos, fuel, bl, rfl, hit, hbw, hchk, hfu, hpl⟩ := hrel
    have hsz : w.heap.size < wr.heap.size := (Array.getElem?_eq_some_iff.1 hit).1
    by_cases hp' : pos < l.length
    · have h0 : l.drop pos ≠ [] := by
        intro h
        have := congrArg List.length h
        simp at this
        omega
      have hnx : ∀ ty, (Instr.next (.pointer (some ⟨w.heap.size, 0, none⟩)) true ty).run Tryz.prog wr = _ := fun ty => Lib.run_next_any_at wr w.heap.size ⟨l.toArray⟩ pos ty hit (by rw [ba_size]; exact hp')
      rw [decode_drop] at hnx
      have hstr : ((⟨l.toArray⟩ : ByteArray)).data.toList.drop pos = l.drop pos := rfl
      rw [hstr] at hnx
      clear hstr
      obtain ⟨hb1, hb2, hb3, hb4⟩ := dec_bounds _ h0
      have hR1 : rune1 (l.drop pos) = if (Lib.decodeL (l.drop pos)).1 = 65533 ∧ (Lib.decodeL (l.drop pos)).2 < 2 then none else if fineB (Lib.decodeL (l.drop pos)).1 = true then some (Lib.decodeL (l.drop pos)) else none := by
        unfold rune1; rw [if_neg h0]
      rw [List.length_drop] at hb3
      have hN := fun hr => madeGo_none (p := p) (q := q) (b := bl) (f := fuel) (by simp; omega) h0 (hr : rune1 (l.drop pos) = none)
      have hS := fun c n hr => madeGo_some (p := p) (q := q) (b := bl) (f := fuel) (by simp; omega) h0 (hr : rune1 (l.drop pos) = some (c, n))
      obtain ⟨W1, cap, hcv, hB, hcap, hby, hsW⟩ := conv_check l hl (wr.iterAt w.heap.size ⟨l.toArray⟩ (pos + (Lib.decodeL (l.drop pos)).2))
      have cR := fun (hT : Ready W1) => rune_any l _ 0 cap pos W1 hl hT.tabs hby hp' hcap
      have hrr : rune1 (l.drop pos) = none → runeRes (l.drop pos) = .tuple #[.int .i64 0, .int .i64 0, .int .i64 4] := fun h => runeRes_none h
      have hrs : ∀ c n, rune1 (l.drop pos) = some (c, n) → runeRes (l.drop pos) = .tuple #[.int .i64 c, .int .i64 n, .int .i64 0] := fun c n h => runeRes_some h
      have hit2 := Lib.iterAt_heap wr w.heap.size ⟨l.toArray⟩ pos (pos + (Lib.decodeL (l.drop pos)).2) hit
      have hbw2 := Lib.below_iterAt hbw (k := w.heap.size) (Nat.le_refl _) ⟨l.toArray⟩ (pos + (Lib.decodeL (l.drop pos)).2)
      rw [Lib.iterAt_size] at hsW
      have hcn : Lib.decodeL (l.drop pos) = ((Lib.decodeL (l.drop pos)).1, (Lib.decodeL (l.drop pos)).2) := rfl
      generalize hc : (Lib.decodeL (l.drop pos)).1 = c at *
      generalize hn : (Lib.decodeL (l.drop pos)).2 = n at *
      rw [hcn] at hR1
      clear hcn h0 hby hc hn
      obtain ⟨w2, hw2⟩ : ∃ w2, w2 = wr.iterAt w.heap.size ⟨l.toArray⟩ (pos + n) := ⟨_, rfl⟩
      have hsz2 : w2.heap.size = wr.heap.size := by rw [hw2]; exact Lib.iterAt_size _ _ _ _
      rw [← hw2] at hnx hit2 hbw2 hcv hB cR
      clear hw2
      rw [hsz2] at cR hcv
      have HIT := Lib.hid hit
      have HIT2 := Lib.hid hit2
      have hRW1 : Ready W1 := hR.below (hbw2.trans (hB.mono (by omega)))
      have hbW1 : Below w.heap.size w W1 := hbw2.trans (hB.mono (by omega))
      have hitW1 : Hid (W1.heap[w.heap.size]? = some (.stringIter ⟨l.toArray⟩ (pos + n))) := Lib.hid ((hB.block _ (by omega)).trans hit2)
      have cR' := cR hRW1
      clear hit hit2 cR
      have hcv' := hcv
      by_cases h1 : c = 65533
      · subst h1
        by_cases h2 : n < 2
        · have hr : rune1 (l.drop pos) = none := hR1.trans (if_pos ⟨rfl, h2⟩)
          rw [hrr hr] at cR'
          have CR := Lib.hid cR'
          have HF : Hid (madeL p q l = false) := Lib.hid (by unfold madeL; rw [hchk, hN hr]; rfl)
          clear cR' hR1 hN hS hrr hrs hchk hr h2
          go_wp2_with fail
          refine (CR.out).mono ?_
          rintro e w4 ⟨rfl, hb4⟩
          go_wp2
          go_ret
          rw [HF.out]
          exact ⟨rfl, hbW1.trans (hb4.mono (by omega))⟩
        · have hr : rune1 (l.drop pos) = some (65533, n) := hR1.trans ((if_neg (fun h => h2 h.2)).trans (if_pos (by decide)))
          rw [hrs _ _ hr] at cR'
          have CR := Lib.hid cR'
          have hS' : madeGo p q fuel (l.drop pos) bl = ((if bl = true then p 65533 else q 65533) && madeGo p q (fuel - 1) ((l.drop pos).drop n) false) := hS _ _ hr
          clear cR' hR1 hN hS hrr hrs hr h2
          cases bl with
          | true =>
            rw [if_pos rfl] at hS'
            have cA := hc1 (65533)
            have hA : atV g1 g2 true = .func (.func g1) #[] #[] := rfl
            rw [hA]
            clear hA
            cases hr1 : p (65533) with
            | true =>
              rw [hr1] at hS' cA
              have HF : Hid (madeGo p q l.length l true = madeGo p q (fuel - 1) (l.drop (pos + n)) false) := Lib.hid (by rw [hchk, hS', Bool.true_and, List.drop_drop])
              have CA := Lib.hid cA
              clear hchk hS' cA hr1
              go_wp2_with fail
              refine (CR.out).mono ?_
              rintro e w4 ⟨rfl, hb4⟩
              go_wp2_with fail
              refine (CA.out _).mono ?_
              rintro e w5 ⟨rfl, rfl⟩
              go_wp2
              go_roundw
              case rel => exact ⟨pos + n, fuel - 1, false, rfl, (hb4.block _ (by omega)).trans hitW1.out, hbW1.trans (hb4.mono (by omega)), HF.out, by omega, by omega⟩
              case measure => simp only [World.iterPos, (hb4.block _ (by omega)).trans hitW1.out, HIT.out]; omega
            | false =>
              rw [hr1] at hS' cA
              have HF : Hid (madeL p q l = false) := Lib.hid (by unfold madeL; rw [hchk, hS']; rfl)
              have CA := Lib.hid cA
              clear hchk hS' cA hr1
              go_wp2_with fail
              refine (CR.out).mono ?_
              rintro e w4 ⟨rfl, hb4⟩
              go_wp2_with fail
              refine (CA.out _).mono ?_
              rintro e w5 ⟨rfl, rfl⟩
              go_wp2
              go_ret
              rw [HF.out]
              exact ⟨rfl, hbW1.trans (hb4.mono (by omega))⟩
          | false =>
            rw [if_neg (by decide)] at hS'
            have cA := hc2 (65533)
            have hA : atV g1 g2 false = .func (.func g2) #[] #[] := rfl
            rw [hA]
            clear hA
            cases hr1 : q (65533) with
            | true =>
              rw [hr1] at hS' cA
              have HF : Hid (madeGo p q l.length l true = madeGo p q (fuel - 1) (l.drop (pos + n)) false) := Lib.hid (by rw [hchk, hS', Bool.true_and, List.drop_drop])
              have CA := Lib.hid cA
              clear hchk hS' cA hr1
              go_wp2_with fail
              refine (CR.out).mono ?_
              rintro e w4 ⟨rfl, hb4⟩
              go_wp2_with fail
              refine (CA.out _).mono ?_
              rintro e w5 ⟨rfl, rfl⟩
              go_wp2
              go_roundw
              case rel => exact ⟨pos + n, fuel - 1, false, rfl, (hb4.block _ (by omega)).trans hitW1.out, hbW1.trans (hb4.mono (by omega)), HF.out, by omega, by omega⟩
              case measure => simp only [World.iterPos, (hb4.block _ (by omega)).trans hitW1.out, HIT.out]; omega
            | false =>
              rw [hr1] at hS' cA
              have HF : Hid (madeL p q l = false) := Lib.hid (by unfold madeL; rw [hchk, hS']; rfl)
              have CA := Lib.hid cA
              clear hchk hS' cA hr1
              go_wp2_with fail
              refine (CR.out).mono ?_
              rintro e w4 ⟨rfl, hb4⟩
              go_wp2_with fail
              refine (CA.out _).mono ?_
              rintro e w5 ⟨rfl, rfl⟩
              go_wp2
              go_ret
              rw [HF.out]
              exact ⟨rfl, hbW1.trans (hb4.mono (by omega))⟩
      · have i1 : ((c : Int) == 65533) = false := by rw [beq_eq_false_iff_ne]; omega
        cases hf : fineB c with
        | true =>
          have hr : rune1 (l.drop pos) = some (c, n) := hR1.trans ((if_neg (fun h => h1 h.1)).trans (if_pos hf))
          have hS' := hS _ _ hr
          clear cR' hR1 hN hS hrr hrs hr hcv hcv' hB hRW1 hbW1 hitW1 hsW
          cases bl with
          | true =>
            rw [if_pos rfl] at hS'
            have cA := hc1 (c : Int)
            have hA : atV g1 g2 true = .func (.func g1) #[] #[] := rfl
            rw [hA]
            clear hA
            cases hr1 : p (c : Int) with
            | true =>
              rw [hr1] at hS' cA
              have HF : Hid (madeGo p q l.length l true = madeGo p q (fuel - 1) (l.drop (pos + n)) false) := Lib.hid (by rw [hchk, hS', Bool.true_and, List.drop_drop])
              have CA := Lib.hid cA
              clear hchk hS' cA hr1
              go_wp2_with fail
              refine (CA.out _).mono ?_
              rintro e w5 ⟨rfl, rfl⟩
              go_wp2
              go_roundw
              case rel => exact ⟨pos + n, fuel - 1, false, rfl, HIT2.out, hbw2, HF.out, by omega, by omega⟩
              case measure => simp only [World.iterPos, HIT2.out, HIT.out]; omega
            | false =>
              rw [hr1] at hS' cA
              have HF : Hid (madeL p q l = false) := Lib.hid (by unfold madeL; rw [hchk, hS']; rfl)
              have CA := Lib.hid cA
              clear hchk hS' cA hr1
              go_wp2_with fail
              refine (CA.out _).mono ?_
              rintro e w5 ⟨rfl, rfl⟩
              go_wp2
              go_ret
              rw [HF.out]
              exact ⟨rfl, hbw2⟩
          | false =>
            rw [if_neg (by decide)] at hS'
            have cA := hc2 (c : Int)
            have hA : atV g1 g2 false = .func (.func g2) #[] #[] := rfl
            rw [hA]
            clear hA
            cases hr1 : q (c : Int) with
            | true =>
              rw [hr1] at hS' cA
              have HF : Hid (madeGo p q l.length l true = madeGo p q (fuel - 1) (l.drop (pos + n)) false) := Lib.hid (by rw [hchk, hS', Bool.true_and, List.drop_drop])
              have CA := Lib.hid cA
              clear hchk hS' cA hr1
              go_wp2_with fail
              refine (CA.out _).mono ?_
              rintro e w5 ⟨rfl, rfl⟩
              go_wp2
              go_roundw
              case rel => exact ⟨pos + n, fuel - 1, false, rfl, HIT2.out, hbw2, HF.out, by omega, by omega⟩
              case measure => simp only [World.iterPos, HIT2.out, HIT.out]; omega
            | false =>
              rw [hr1] at hS' cA
              have HF : Hid (madeL p q l = false) := Lib.hid (by unfold madeL; rw [hchk, hS']; rfl)
              have CA := Lib.hid cA
              clear hchk hS' cA hr1
              go_wp2_with fail
              refine (CA.out _).mono ?_
              rintro e w5 ⟨rfl, rfl⟩
              go_wp2
              go_ret
              rw [HF.out]
              exact ⟨rfl, hbw2⟩
        | false =>
          have hr : rune1 (l.drop pos) = none := hR1.trans ((if_neg (fun h => h1 h.1)).trans (if_neg (by rw [hf]; decide)))
          have HF : Hid (madeL p q l = false) := Lib.hid (by unfold madeL; rw [hchk, hN hr]; rfl)
          have hpc : p (c : Int) = false := by
            cases h : p (c : Int) with
            | false => rfl
            | true => exact absurd (hp _ h) (by rw [hf]; decide)
          have hqc : q (c : Int) = false := by
            cases h : q (c : Int) with
            | false => rfl
            | true => exact absurd (hq _ h) (by rw [hf]; decide)
          have cA1 := hc1 (c : Int)
          have cA2 := hc2 (c : Int)
          rw [hpc] at cA1
          rw [hqc] at cA2
          have CA1 := Lib.hid cA1
          have CA2 := Lib.hid cA2
          clear cR' hR1 hN hS hrr hrs hr hcv hcv' hB hRW1 hbW1 hitW1 hsW hchk cA1 cA2 hpc hqc hf
          cases bl with
          | true =>
            have hA : atV g1 g2 true = .func (.func g1) #[] #[] := rfl
            rw [hA]
            clear hA
            go_wp2_with fail
            refine (CA1.out _).mono ?_
            rintro e w5 ⟨rfl, rfl⟩
            go_wp2
            go_ret
            rw [HF.out]
            exact ⟨rfl, hbw2⟩
          | false =>
            have hA : atV g1 g2 false = .func (.func g2) #[] #[] := rfl
            rw [hA]
            clear hA
            go_wp2_with fail
            refine (CA2.out _).mono ?_
            rintro e w5 ⟨rfl, rfl⟩
            go_wp2
            go_ret
            rw [HF.out]
            exact ⟨rfl, hbw2⟩
    · have hnx : ∀ ty, (Instr.next (.pointer (some ⟨w.heap.size, 0, none⟩)) true ty).run Tryz.prog wr = _ := fun ty => Lib.run_next_end_at wr w.heap.size ⟨l.toArray⟩ pos ty hit (by rw [ba_size]; exact hp')
      have HF : Hid (madeL p q l = !l.isEmpty) := Lib.hid (by unfold madeL; rw [hchk, List.drop_eq_nil_of_le (by omega), madeGo_nil]; rfl)
      clear hchk hit
      go_wp2
      go_ret
      rw [HF.out]
      exact ⟨rfl, hbw⟩

end Go.Proofs.YtblhpkcdemefaaaGreatDoor
