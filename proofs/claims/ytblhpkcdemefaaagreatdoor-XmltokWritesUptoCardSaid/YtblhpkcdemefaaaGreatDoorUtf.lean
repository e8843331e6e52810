/- Walks: package utf. -/
import Derived.Test.YtblhpkcdemefaaaGreatDoorProg
import Derived.Test.YtblhpkcdemefaaaGreatDoorPlain
import Derived.Test.YtblhpkcdemefaaaGreatDoorShelf
import Derived.Test.YtblhpkcdemefaaaGreatDoorLays
import Derived.WalkKit
import Derived.BigCall
import Derived.Outline
import Derived.Lib.OthersKept
import Derived.Lib.LaidU8
import Derived.OwnWalk
import Derived.Lib.SlBytesRow
import Derived.Laws.AppendOwn
set_option linter.unusedVariables false
set_option linter.unusedSimpArgs false
namespace Go.Proofs.YtblhpkcdemefaaaGreatDoor
open Go.RowKit

theorem retb {a b : Bool} (h : a = b) : Ending.returned (.bool a) = .returned (.bool b) := by rw [h]
theorem reti {k : IntKind} {a b : Int} (h : a = b) : Ending.returned (.int k a) = .returned (.int k b) := by rw [h]

set_option maxHeartbeats 1000000 in
theorem fine_any (c : Int) (w : World) :
    Calls Tryz.prog 57 #[.int .i64 c] w fun e w' => e = .returned (.bool (fineB c)) ∧ w' = w := by
  by_cases h1 : c < 32
  · go_enter Tryz.func57, Tryz.ntmps57
    go_wp2
    all_goals
      go_ret
      refine ⟨retb ?_, rfl⟩
      rw [Bool.eq_iff_iff, fineB_iff]
      simp [*]
      try omega
  · by_cases h2 : c > 1114111
    · go_enter Tryz.func57, Tryz.ntmps57
      go_wp2
      go_ret
      refine ⟨retb ?_, rfl⟩
      rw [Bool.eq_iff_iff, fineB_iff]
      simp
      omega
    · by_cases h3 : c = 65534
      · subst h3
        go_enter Tryz.func57, Tryz.ntmps57
        go_wp2
        go_ret
        exact ⟨retb (by decide), rfl⟩
      · by_cases h4 : c = 65535
        · subst h4
          go_enter Tryz.func57, Tryz.ntmps57
          go_wp2
          go_ret
          exact ⟨retb (by decide), rfl⟩
        · have hv : Lib.validRune c = fineB c := by
            rw [Bool.eq_iff_iff, fineB_iff]
            unfold Lib.validRune
            rw [decide_eq_true_iff]
            omega
          have cV := Tryz.utf8_ValidRune c w
          rw [hv] at cV
          have CV := Lib.hid cV
          clear cV hv
          have i3 : ((c : Int) == 65534) = false := by rw [beq_eq_false_iff_ne]; exact h3
          have i4 : ((c : Int) == 65535) = false := by rw [beq_eq_false_iff_ne]; exact h4
          generalize fineB c = r at *
          go_enter Tryz.func57, Tryz.ntmps57
          go_wp2_with (go_at_call 101; refine (CV.out).mono ?_; rintro e w' ⟨rfl, rfl⟩)
          go_ret
          exact ⟨rfl, rfl⟩

theorem size_eq' (s : ByteArray) : s.size = s.data.toList.length := Lib.size_eq s

/-- What lies in memory: the bytes that a slice tells. -/
def bytesAt (w : World) (b off : Nat) (l : List UInt8) : Prop := ∀ j, j < l.length → w.cell? ⟨b, off + j, none⟩ = some (.int .u8 (l.getD j 0).toNat)

theorem bytesAt.drop {w : World} {b off : Nat} {l : List UInt8} (h : bytesAt w b off l) (k : Nat) : bytesAt w b (off + k) (l.drop k) := by
  intro j hj
  rw [List.length_drop] at hj
  have := h (k + j) (by omega)
  rw [Nat.add_assoc, this]
  simp [List.getD_eq_getElem?_getD, List.getElem?_drop]

theorem bytesAt.below {w w' : World} {b off B : Nat} {l : List UInt8} (h : bytesAt w b off l) (hb : Below B w w') (hB : b < B) : bytesAt w' b off l := by
  intro j hj
  rw [hb.cell (p := ⟨b, off + j, none⟩) hB]
  exact h j hj

theorem decodeGo_list (l : List UInt8) : Lib.decodeGo ⟨l.toArray⟩ = if l = [] then (65533, 0) else Lib.decodeL l := by
  unfold Lib.decodeGo Lib.decodeL
  rw [size_eq']
  cases l with
  | nil => rfl
  | cons x l => simp

theorem decRune_any (l : List UInt8) (b off n cap : Nat) (w : World) (hn : n = l.length) (h0 : l ≠ []) (hT : Lib.Utf8Tabs 0 1 w) (hm : bytesAt w b off l) :
    Calls Tryz.prog 200 #[.slice (some ⟨b, off, none⟩) n cap] w fun e w' => e = .returned (.tuple #[.int .i32 (Lib.decodeL l).1, .int .i64 (Lib.decodeL l).2]) ∧ Below w.heap.size w w' := by
  have hs : (⟨l.toArray⟩ : ByteArray).size = n := by rw [hn, size_eq']
  have h := Tryz.uDecodeRune ⟨l.toArray⟩ b off cap w hT (by
    intro j hj
    rw [hs, hn] at hj
    rw [hm j hj, get!_toList])
  rw [hs, decodeGo_list, if_neg h0] at h
  exact h

theorem dec_bounds (l : List UInt8) (h : l ≠ []) : 1 ≤ (Lib.decodeL l).2 ∧ (Lib.decodeL l).2 ≤ 4 ∧ (Lib.decodeL l).2 ≤ l.length ∧ (Lib.decodeL l).1 ≤ 1114111 := by
  unfold Lib.decodeL
  rw [Lib.decode_at]
  have hs : (⟨l.toArray⟩ : ByteArray).size = l.length := by rw [size_eq']
  rw [hs]
  have hl : 1 ≤ l.length := by cases l with | nil => exact absurd rfl h | cons x l => simp
  have hb : ∀ k, ((⟨l.toArray⟩ : ByteArray).get! k).toNat < 256 := fun k => ((⟨l.toArray⟩ : ByteArray).get! k).toNat_lt
  have h0 := hb 0; have h1 := hb (0 + 1); have h2 := hb (0 + 2); have h3 := hb (0 + 3)
  unfold Lib.decodeN
  repeat' split
  all_goals (refine ⟨?_, ?_, ?_, ?_⟩ <;> simp only [] <;> omega)

/-- What utf.Rune hands back of what is left. -/
def runeRes (l : List UInt8) : Value := match rune1 l with | some (c, n) => .tuple #[.int .i64 c, .int .i64 n, .int .i64 0] | none => .tuple #[.int .i64 0, .int .i64 0, .int .i64 4]
theorem runeRes_some {l : List UInt8} {c n : Nat} (h : rune1 l = some (c, n)) : runeRes l = .tuple #[.int .i64 c, .int .i64 n, .int .i64 0] := by unfold runeRes; rw [h]
theorem runeRes_none {l : List UInt8} (h : rune1 l = none) : runeRes l = .tuple #[.int .i64 0, .int .i64 0, .int .i64 4] := by unfold runeRes; rw [h]

set_option maxHeartbeats 1000000 in
/-- utf.Rune, at a place in the bytes. -/
theorem rune_any (l : List UInt8) (b off cap : Nat) (at' : Nat) (w : World) (hl : l.length ≤ 2147483647) (hT : Lib.Utf8Tabs 0 1 w) (hm : bytesAt w b off l) (ha : at' < l.length) (hcap : l.length ≤ cap) :
    Calls Tryz.prog 176 #[.slice (some ⟨b, off, none⟩) l.length cap, .int .i64 at'] w fun e w' =>
      e = .returned (runeRes (l.drop at')) ∧ Below w.heap.size w w' := by
  have hne : ¬ cap = at' := by omega
  have h0 : l.drop at' ≠ [] := by
    intro h
    have := congrArg List.length h
    simp at this
    omega
  obtain ⟨hb1, hb2, hb3, hb4⟩ := dec_bounds _ h0
  have hR : rune1 (l.drop at') = if (Lib.decodeL (l.drop at')).1 = 65533 ∧ (Lib.decodeL (l.drop at')).2 < 2 then none else if fineB (Lib.decodeL (l.drop at')).1 = true then some (Lib.decodeL (l.drop at')) else none := by
    unfold rune1; rw [if_neg h0]
  have cD := decRune_any (l.drop at') b (off + at') (l.length - at') (cap - at') w (by simp) h0 hT (hm.drop at')
  generalize hc : (Lib.decodeL (l.drop at')).1 = c at *
  generalize hn : (Lib.decodeL (l.drop at')).2 = n at *
  have hcn : Lib.decodeL (l.drop at') = (c, n) := Prod.ext hc hn
  rw [hcn] at hR
  by_cases h1 : c = 65533
  · subst h1
    by_cases h2 : n < 2
    · have HR := Lib.hid (runeRes_none (hR.trans (if_pos ⟨rfl, h2⟩)))
      clear hR hc hn hcn h0 hm hT
      have CD := Lib.hid cD
      clear cD
      have i2 : (n : Int) < 2 := by omega
      go_enter Tryz.func176, Tryz.ntmps176
      go_wp2_with (go_at_call 200; refine (CD.out).mono ?_; rintro e w' ⟨rfl, hb⟩)
      go_ret3
      exact ⟨by rw [HR.out]; rfl, hb⟩
    · have i2 : ¬ (n : Int) < 2 := by omega
      have HR := Lib.hid (runeRes_some (hR.trans ((if_neg (fun h => h2 h.2)).trans (if_pos (by decide)))))
      clear hR hc hn hcn h0 hm hT
      have CD := Lib.hid cD
      clear cD
      have ft : fineB 65533 = true := by decide
      go_enter Tryz.func176, Tryz.ntmps176
      go_wp2_with (first | (go_at_call 200; refine (CD.out).mono ?_; rintro e w' ⟨rfl, hb⟩) | (go_at_call 57; refine (fine_any _ _).mono ?_; rintro e w' ⟨rfl, rfl⟩))
      go_ret3
      exact ⟨by rw [HR.out]; rfl, hb⟩
  · have i1 : ((c : Int) == 65533) = false := by rw [beq_eq_false_iff_ne]; omega
    cases hf : fineB c with
    | true =>
      have HR := Lib.hid (runeRes_some (hR.trans ((if_neg (fun h => h1 h.1)).trans (if_pos hf))))
      clear hR hc hn hcn h0 hm hT
      have CD := Lib.hid cD
      clear cD
      go_enter Tryz.func176, Tryz.ntmps176
      go_wp2_with (first | (go_at_call 200; refine (CD.out).mono ?_; rintro e w' ⟨rfl, hb⟩) | (go_at_call 57; refine (fine_any _ _).mono ?_; rintro e w' ⟨rfl, rfl⟩))
      go_ret3
      exact ⟨by rw [HR.out]; rfl, hb⟩
    | false =>
      have HR := Lib.hid (runeRes_none (hR.trans ((if_neg (fun h => h1 h.1)).trans (if_neg (by rw [hf]; decide)))))
      clear hR hc hn hcn h0 hm hT
      have CD := Lib.hid cD
      clear cD
      go_enter Tryz.func176, Tryz.ntmps176
      go_wp2_with (first | (go_at_call 200; refine (CD.out).mono ?_; rintro e w' ⟨rfl, hb⟩) | (go_at_call 57; refine (fine_any _ _).mono ?_; rintro e w' ⟨rfl, rfl⟩))
      go_ret3
      exact ⟨by rw [HR.out]; rfl, hb⟩
/-- What the walks take of the world: utf8's two tables, and a number in bytealg's variable. -/
structure Ready (w : World) : Prop where
  tabs : Lib.Utf8Tabs 0 1 w
  maxl : ∃ m, w.cell? ⟨2, 0, none⟩ = some (.int .i64 m)

theorem Ready.below {w w' : World} (h : Ready w) (hb : Below w.heap.size w w') : Ready w' := by
  obtain ⟨m, hm⟩ := h.maxl
  exact ⟨Utf8Tabs_below h.tabs hb, m, by rw [hb.cell (p := ⟨2, 0, none⟩) (Lib.lt_of_cell hm)]; exact hm⟩

theorem ba_size (l : List UInt8) : (⟨l.toArray⟩ : ByteArray).size = l.length := by rw [size_eq']

/-- 'string(b)'. -/
theorem conv_str (l : List UInt8) (b off cap n : Nat) (hn : n = l.length) (w : World) (hm : bytesAt w b off l) :
    (convert 22 9 (.slice (some ⟨b, off, none⟩) n cap)).run Tryz.prog w = .ok (.string ⟨l.toArray⟩) w := by
  have h := Lib.run_convert_whole (P := Tryz.prog) w 22 5 9 Tryz.underlying22 Tryz.underlying5 Tryz.underlying9 b off ⟨l.toArray⟩ (by
    intro i hi
    rw [ba_size] at hi
    rw [hm i hi]
    simp [List.getD, hi]
    rfl) cap
  rw [ba_size, ← hn] at h
  exact h

theorem decStr_any (l : List UInt8) (s : ByteArray) (hs : s = ⟨l.toArray⟩) (w : World) (h0 : l ≠ []) (hT : Lib.Utf8Tabs 0 1 w) :
    Calls Tryz.prog 56 #[.string s] w fun e w' => e = .returned (.tuple #[.int .i32 (Lib.decodeL l).1, .int .i64 (Lib.decodeL l).2]) ∧ Below w.heap.size w w' := by
  subst hs
  have h := Tryz.utf8_DecodeRuneInString ⟨l.toArray⟩ w hT
  rw [decodeGo_list, if_neg h0] at h
  exact h

/-- What utf.Check hands back. -/
def checkRes (r : Nat × Bool) : Value := .tuple #[.int .i64 r.1, .int .i64 (if r.2 = true then 0 else 4)]
theorem checkRes_ok (p : Nat) : checkRes (p, true) = .tuple #[.int .i64 p, .int .i64 0] := rfl
theorem checkRes_bad (p : Nat) : checkRes (p, false) = .tuple #[.int .i64 p, .int .i64 4] := rfl

theorem extract_drop (l : List UInt8) (p n : Nat) (hn : l.length ≤ n) : (⟨l.toArray⟩ : ByteArray).extract p n = ⟨(l.drop p).toArray⟩ := by
  apply ByteArray.ext
  apply Array.toList_inj.1
  rw [Lib.extract_data]
  simp only [List.toList_toArray]
  exact List.take_of_length_le (by rw [List.length_drop]; omega)

set_option maxHeartbeats 4000000 in
theorem check_any (l : List UInt8) (b off cap : Nat) (w : World) (hl : l.length ≤ 2147483647) (hR : Ready w) (hm : bytesAt w b off l) :
    Calls Tryz.prog 30 #[.slice (some ⟨b, off, none⟩) l.length cap] w fun e w' => e = .returned (checkRes (checkL l)) ∧ Below w.heap.size w w' := by
  have hcv := conv_str l b off cap l.length rfl w hm
  have hsz := ba_size l
  have hbl : b < w.heap.size ∨ l = [] := by
    cases l with
    | nil => exact Or.inr rfl
    | cons x l => exact Or.inl (Lib.lt_of_cell (hm 0 (by simp)))
  have HS := Lib.hid hsz
  clear hsz hm hbl
  go_enter Tryz.func30, Tryz.ntmps30
  go_wp2
  go_loopw [] (fun wr => ∃ pos fuel : Nat, wr.heap[w.heap.size]? = some (.stringIter ⟨l.toArray⟩ pos) ∧ Below w.heap.size w wr ∧ checkL l = checkGo fuel (l.drop pos) pos ∧ l.length ≤ pos + fuel ∧ pos ≤ l.length) (fun wr => l.length - wr.iterPos w.heap.size)
  case atStart =>
    refine ⟨0, l.length, ?_, (Below.refl _ w).alloc (Nat.le_refl _) _, rfl, by omega, by omega⟩
    have := World.iter_heap w ⟨l.toArray⟩ 0
    simpa using this
  case round =>
    obtain ⟨pos, fuel, hit, hbw, hchk, hfu, hpl⟩ := hrel
    have hsz : w.heap.size < wr.heap.size := (Array.getElem?_eq_some_iff.1 hit).1
    by_cases hp : pos < l.length
    · have h0 : l.drop pos ≠ [] := by
        intro h
        have := congrArg List.length h
        simp at this
        omega
      have hnx : ∀ ty, (Instr.next (.pointer (some ⟨w.heap.size, 0, none⟩)) true ty).run Tryz.prog wr = _ := fun ty => Lib.run_next_any_at wr w.heap.size ⟨l.toArray⟩ pos ty hit (by rw [ba_size]; exact hp)
      rw [decode_drop] at hnx
      obtain ⟨hb1, hb2, hb3, hb4⟩ := dec_bounds _ h0
      have hR1 : rune1 (l.drop pos) = if (Lib.decodeL (l.drop pos)).1 = 65533 ∧ (Lib.decodeL (l.drop pos)).2 < 2 then none else if fineB (Lib.decodeL (l.drop pos)).1 = true then some (Lib.decodeL (l.drop pos)) else none := by
        unfold rune1; rw [if_neg h0]
      rw [List.length_drop] at hb3
      have hcn0 : checkGo fuel (l.drop pos) pos = if rune1 (l.drop pos) = none then (pos, false) else checkGo (fuel - 1) (l.drop (pos + (Lib.decodeL (l.drop pos)).2)) (pos + (Lib.decodeL (l.drop pos)).2) := by
        cases hr : rune1 (l.drop pos) with
        | none => rw [if_pos rfl]; exact checkGo_none fuel pos (by simp; omega) h0 hr
        | some cn =>
          obtain ⟨c', n'⟩ := cn
          rw [if_neg (by simp), checkGo_some fuel pos (by simp; omega) h0 hr, List.drop_drop]
          have : (c', n') = Lib.decodeL (l.drop pos) := by
            rw [hR1] at hr
            split at hr
            · cases hr
            · split at hr
              · exact (Option.some.inj hr).symm
              · cases hr
          rw [← this]
      have cD := fun wx (hx : Lib.Utf8Tabs 0 1 wx) => decStr_any (l.drop pos) ((⟨l.toArray⟩ : ByteArray).extract pos l.length) (extract_drop l pos l.length (Nat.le_refl _)) wx h0 hx
      have hstr : ((⟨l.toArray⟩ : ByteArray)).data.toList.drop pos = l.drop pos := rfl
      rw [hstr] at hnx
      clear hstr
      generalize hc : (Lib.decodeL (l.drop pos)).1 = c at *
      generalize hn : (Lib.decodeL (l.drop pos)).2 = n at *
      have hl32 : ∀ ty, (Instr.next (.pointer (some ⟨w.heap.size, 0, none⟩)) true ty).run Tryz.prog wr = .ok (.tuple #[.bool true, .int .i64 pos, .int .i32 c]) (wr.iterAt w.heap.size ⟨l.toArray⟩ (pos + n)) := by
        intro ty; exact hnx ty
      clear hnx hcv
      have hit2 := Lib.iterAt_heap wr w.heap.size ⟨l.toArray⟩ pos (pos + n) hit
      have hbw2 := Lib.below_iterAt hbw (k := w.heap.size) (Nat.le_refl _) ⟨l.toArray⟩ (pos + n)
      have hcn : Lib.decodeL (l.drop pos) = (c, n) := Prod.ext hc hn
      rw [hcn] at hR1
      by_cases h1 : c = 65533
      · subst h1
        by_cases h2 : n < 2
        · have hr : rune1 (l.drop pos) = none := hR1.trans (if_pos ⟨rfl, h2⟩)
          rw [if_pos hr] at hcn0
          have HF := Lib.hid (hchk.trans hcn0)
          have CD := Lib.hid cD
          have HC := Lib.hid hc
          clear hR1 hr hcn0 hchk hcn cD hc hn hfu hpl hit h0
          have i2 : (n : Int) < 2 := by omega
          have i3 : (pos : Int) ≤ (l.length : Int) := by omega
          have hT := hR.below hbw2
          go_wp2_with (go_at_call 56; refine (CD.out _ hT.tabs).mono ?_; rintro e w' ⟨rfl, hb⟩)
          go_ret2
          exact ⟨by rw [HF.out]; rfl, hbw2.trans (hb.mono (by rw [Lib.iterAt_size]; omega))⟩
        · have hr : rune1 (l.drop pos) = some (65533, n) := hR1.trans ((if_neg (fun h => h2 h.2)).trans (if_pos (by decide)))
          rw [if_neg (by rw [hr]; simp)] at hcn0
          have HF := Lib.hid (hchk.trans hcn0)
          have CD := Lib.hid cD
          have HIT0 := Lib.hid hit
          have HIT2 := Lib.hid hit2
          clear hR1 hr hcn0 hchk hcn cD hc hn h0 hit hit2
          have i2 : ¬ (n : Int) < 2 := by omega
          have i3 : (pos : Int) ≤ (l.length : Int) := by omega
          have ft : fineB 65533 = true := by decide
          have hT := hR.below hbw2
          go_wp2_with (first | (go_at_call 56; refine (CD.out _ hT.tabs).mono ?_; rintro e w' ⟨rfl, hb⟩) | (go_at_call 57; refine (fine_any _ _).mono ?_; rintro e w' ⟨rfl, rfl⟩))
          have hsz2 : (wr.iterAt w.heap.size ⟨l.toArray⟩ (pos + n)).heap.size = wr.heap.size := Lib.iterAt_size _ _ _ _
          have hit3 := (hb.block w.heap.size (by rw [hsz2]; exact hsz)).trans HIT2.out
          go_roundw
          case rel => exact ⟨pos + n, fuel - 1, hit3, hbw2.trans (hb.mono (by rw [hsz2]; omega)), HF.out, by omega, by omega⟩
          case measure => simp only [World.iterPos, hit3, HIT0.out]; omega
      · have i1 : ((c : Int) == 65533) = false := by rw [beq_eq_false_iff_ne]; omega
        have i3 : (pos : Int) ≤ (l.length : Int) := by omega
        cases hf : fineB c with
        | true =>
          have hr : rune1 (l.drop pos) = some (c, n) := hR1.trans ((if_neg (fun h => h1 h.1)).trans (if_pos hf))
          rw [if_neg (by rw [hr]; simp)] at hcn0
          have HF := Lib.hid (hchk.trans hcn0)
          have HIT0 := Lib.hid hit
          have HIT2 := Lib.hid hit2
          clear hR1 hr hcn0 hchk hcn cD hc hn h0 hit hit2 h1
          go_wp2_with (go_at_call 57; refine (fine_any _ _).mono ?_; rintro e w' ⟨rfl, rfl⟩)
          go_roundw
          case rel => exact ⟨pos + n, fuel - 1, HIT2.out, hbw2, HF.out, by omega, by omega⟩
          case measure => simp only [World.iterPos, HIT2.out, HIT0.out]; omega
        | false =>
          have hr : rune1 (l.drop pos) = none := hR1.trans ((if_neg (fun h => h1 h.1)).trans (if_neg (by rw [hf]; decide)))
          rw [if_pos hr] at hcn0
          have HF := Lib.hid (hchk.trans hcn0)
          clear hR1 hr hcn0 hchk hcn cD hc hn h0 hit hit2 h1
          go_wp2_with (go_at_call 57; refine (fine_any _ _).mono ?_; rintro e w' ⟨rfl, rfl⟩)
          go_ret2
          exact ⟨by rw [HF.out]; rfl, hbw2⟩
    · have hnx : ∀ ty, (Instr.next (.pointer (some ⟨w.heap.size, 0, none⟩)) true ty).run Tryz.prog wr = _ := fun ty => Lib.run_next_end_at wr w.heap.size ⟨l.toArray⟩ pos ty hit (by rw [ba_size]; exact hp)
      have hpe : pos = l.length := by omega
      have hF : checkL l = (l.length, true) := by rw [hchk, hpe, List.drop_length, checkGo_nil]
      have HF := Lib.hid hF
      clear hF hchk hpe hit hcv
      go_wp2
      go_ret2
      exact ⟨by rw [HF.out]; rfl, hbw⟩
end Go.Proofs.YtblhpkcdemefaaaGreatDoor
