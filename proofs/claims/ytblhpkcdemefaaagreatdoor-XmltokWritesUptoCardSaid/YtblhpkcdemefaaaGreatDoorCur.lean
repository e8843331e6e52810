/- Walks: xmltok's cursor: the scanner's block, and the methods that go through a text. -/
import Derived.Test.YtblhpkcdemefaaaGreatDoorTell
import Derived.Test.YtblhpkcdemefaaaGreatDoorXp
import Derived.Test.YtblhpkcdemefaaaGreatDoorLays2
import Derived.Maps.AppendAt
import Derived.Deep.QuietTactic
import Derived.BigQuiet
set_option linter.unusedVariables false
set_option linter.unusedSimpArgs false
namespace Go.Proofs.YtblhpkcdemefaaaGreatDoor
open Go.RowKit

/-- The scanner's block: the text, the place, where and what is wrong, and the tokens' slice. -/
def CurAt (w : World) (b : Nat) (s : List UInt8) (i bat be : Nat) (lv : Value) : Prop :=
  w.heap[b]? = some (.cells #[.string ⟨s.toArray⟩, .int .i64 i, .int .i64 bat, .int .i64 be, lv] 72 (0, 0))

section
variable {w w' : World} {b : Nat} {s : List UInt8} {i bat be : Nat} {lv : Value}
theorem CurAt.lt (h : CurAt w b s i bat be lv) : b < w.heap.size := (Array.getElem?_eq_some_iff.1 h).1
theorem CurAt.c0 (h : CurAt w b s i bat be lv) : w.cell? ⟨b, 0, none⟩ = some (.string ⟨s.toArray⟩) := by simp [World.cell?, show w.heap[b]? = _ from h]
theorem CurAt.c1 (h : CurAt w b s i bat be lv) : w.cell? ⟨b, 1, none⟩ = some (.int .i64 i) := by simp [World.cell?, show w.heap[b]? = _ from h]
theorem CurAt.c2 (h : CurAt w b s i bat be lv) : w.cell? ⟨b, 2, none⟩ = some (.int .i64 bat) := by simp [World.cell?, show w.heap[b]? = _ from h]
theorem CurAt.c3 (h : CurAt w b s i bat be lv) : w.cell? ⟨b, 3, none⟩ = some (.int .i64 be) := by simp [World.cell?, show w.heap[b]? = _ from h]
theorem CurAt.c4 (h : CurAt w b s i bat be lv) : w.cell? ⟨b, 4, none⟩ = some lv := by simp [World.cell?, show w.heap[b]? = _ from h]
theorem CurAt.fz (h : CurAt w b s i bat be lv) (j : Nat) : w.frozen? ⟨b, j, none⟩ = false := frozen_of_row w b j _ _ h
theorem CurAt.below (h : CurAt w b s i bat be lv) (hb : Below w.heap.size w w') : CurAt w' b s i bat be lv := (hb.block b h.lt).trans h
theorem CurAt.set1 (h : CurAt w b s i bat be lv) (n : Nat) (z : Int) (hz : z = (n : Int)) : CurAt (w.setCell ⟨b, 1, none⟩ (.int .i64 z)) b s n bat be lv := by subst hz; exact heap_setCell_same w b 1 _ _ _ h
theorem CurAt.set4 (h : CurAt w b s i bat be lv) (v : Value) : CurAt (w.setCell ⟨b, 4, none⟩ v) b s i bat be v := heap_setCell_same w b 4 _ _ _ h
theorem CurAt.set23 (h : CurAt w b s i bat be lv) (n k : Nat) (z y : Int) (hz : z = (n : Int)) (hy : y = (k : Int)) : CurAt ((w.setCell ⟨b, 2, none⟩ (.int .i64 z)).setCell ⟨b, 3, none⟩ (.int .i64 y)) b s i n k lv := by
  subst hz hy; exact heap_setCell_same _ b 3 _ _ _ (heap_setCell_same w b 2 _ _ _ h)
end

theorem grown_set (w : World) (b j : Nat) (u : Value) : w.grownBy (w.setCell ⟨b, j, none⟩ u) (some b) :=
  ⟨rfl, rfl, rfl, by simp, fun k _ hk => heap_setCell_other w ⟨b, j, none⟩ k u (fun e => hk (by rw [e]))⟩
theorem below_grows {w w' : World} (h : Below w.heap.size w w') (r : Option Nat) : w.grownBy w' r :=
  ⟨h.os, h.tape, h.output, h.size, fun i hi _ => h.block i hi⟩
theorem grown_refl (w : World) (r : Option Nat) : w.grownBy w r := ⟨rfl, rfl, rfl, Nat.le_refl _, fun _ _ _ => rfl⟩
/-- What lies below the block stays. -/
theorem grown_below {B b : Nat} {w0 w w' : World} (h : Below B w0 w) (hg : w.grownBy w' (some b)) (hB : B ≤ w.heap.size) (hb : B ≤ b) : Below B w0 w' :=
  ⟨hg.os.trans h.os, hg.tape.trans h.tape, hg.output.trans h.output, Nat.le_trans h.size hg.size, fun k hk => (hg.block k (by omega) (fun e => by cases e; omega)).trans (h.block k hk)⟩
theorem Ready.grown {w w' : World} {b : Nat} (h : Ready w) (hg : w.grownBy w' (some b)) (B : Nat) (hB : B ≤ w.heap.size) (hb : B ≤ b) (hR0 : ∃ w0 : World, w0.heap.size = B ∧ Ready w0 ∧ Below B w0 w) : Ready w' := by
  obtain ⟨w0, rfl, hr, hbb⟩ := hR0
  exact hr.below (grown_below hbb hg hB hb)

theorem below_drewN (w : World) (n : Nat) : Below w.heap.size w (w.drewN n) := ⟨rfl, rfl, rfl, Nat.le_refl _, fun _ _ => rfl⟩

theorem cfine_any (b : Nat) (s : List UInt8) (i bat be : Nat) (lv : Value) (w : World) (h : CurAt w b s i bat be lv) :
    Calls Tryz.prog 31 #[.pointer (some ⟨b, 0, none⟩)] w fun e w' => e = .returned (.bool (decide (be = 0))) ∧ w' = w := by
  have h3 := h.c3
  have hd : decide (be = 0) = ((be : Int) == 0) := by
    rw [Bool.eq_iff_iff, decide_eq_true_iff, beq_iff_eq]; omega
  rw [hd]
  clear hd h
  go_enter Tryz.func31, Tryz.ntmps31
  go_wp2
  go_ret
  exact ⟨rfl, rfl⟩

theorem crest_any (b : Nat) (s : List UInt8) (i bat be : Nat) (lv : Value) (w : World) (h : CurAt w b s i bat be lv) (hi : i ≤ s.length) :
    Calls Tryz.prog 32 #[.pointer (some ⟨b, 0, none⟩)] w fun e w' => e = .returned (.string ⟨(s.drop i).toArray⟩) ∧ Below w.heap.size w w' := by
  have h0 := h.c0
  have h1 := h.c1
  have hsl : ∀ wx : World, (Instr.slice 9 (.string ⟨s.toArray⟩) (some (.int .i64 (i : Int))) none none).run Tryz.prog wx = .ok (.string ⟨(s.drop i).toArray⟩) wx := by
    intro wx
    rw [run_slice_string_from_if wx 9 ⟨s.toArray⟩ .i64 i Tryz.underlying9]
    rw [if_pos (by rw [ba_size]; omega)]
    have e : ((i : Int)).toNat = i := by omega
    rw [e, ba_size, extract_drop s i s.length (Nat.le_refl _)]
  clear h
  go_enter Tryz.func32, Tryz.ntmps32
  go_wp2
  go_quiet (fail)
  all_goals try go_wp2
  go_ret
  exact ⟨rfl, below_drewN w _⟩


/-- The scanner's block at a state. -/
def CurS (w : World) (b : Nat) (s : List UInt8) (st : St) (lv : Value) : Prop := CurAt w b s st.i st.bat st.be lv

/-- What lies ahead of the block is as it was at a begin whose tables are ready. -/
def Based (b : Nat) (w : World) : Prop := ∃ w0 : World, Ready w0 ∧ w0.heap.size ≤ b ∧ w0.heap.size ≤ w.heap.size ∧ Below w0.heap.size w0 w
theorem Based.ready {b : Nat} {w : World} (h : Based b w) : Ready w := by
  obtain ⟨w0, h1, h2, h3, h4⟩ := h
  exact h1.below h4
theorem Based.grown {b : Nat} {w w' : World} (h : Based b w) (hg : w.grownBy w' (some b)) : Based b w' := by
  obtain ⟨w0, h1, h2, h3, h4⟩ := h
  exact ⟨w0, h1, h2, Nat.le_trans h3 hg.size, grown_below h4 hg h3 h2⟩
theorem Based.belowb {b : Nat} {w w' : World} (h : Based b w) (hb : Below b w w') : Based b w' := by
  obtain ⟨w0, h1, h2, h3, h4⟩ := h
  exact ⟨w0, h1, h2, Nat.le_trans h3 hb.size, h4.trans (hb.mono h2)⟩
theorem Based.below {b : Nat} {w w' : World} (h : Based b w) (hb : Below w.heap.size w w') : Based b w' := h.grown (below_grows hb _)
theorem CurS.below {w w' : World} {b : Nat} {s : List UInt8} {st : St} {lv : Value} (h : CurS w b s st lv) (hb : Below w.heap.size w w') : CurS w' b s st lv := CurAt.below h hb

theorem cfail_any (b : Nat) (s : List UInt8) (st : St) (lv : Value) (a e : Nat) (w : World) (h : CurS w b s st lv) :
    Calls Tryz.prog 62 #[.pointer (some ⟨b, 0, none⟩), .int .i64 a, .int .i64 e] w fun e' w' => e' = .returned (.tuple #[]) ∧ CurS w' b s (xFail st a e) lv ∧ w.grownBy w' (some b) := by
  obtain ⟨i, bat, be, out⟩ := st
  have h' : CurAt w b s i bat be lv := h
  have h3 := h'.c3
  by_cases h0 : be = 0
  · subst h0
    have f2 := h'.fz 2
    have f3 := h'.fz 3
    have h2 := h'.c2
    have hx : Hid (xFail ⟨i, bat, 0, out⟩ a e = ⟨i, a, e, out⟩) := Lib.hid rfl
    have H := Lib.hid h'
    have hl := h'.lt
    clear h h'
    go_enter Tryz.func62, Tryz.ntmps62
    go_wp2
    go_end0
    refine ⟨rfl, ?_, (grown_set w b 2 _).trans (grown_set _ b 3 _)⟩
    rw [hx.out]
    exact H.out.set23 a e _ _ rfl rfl
  · have i0 : ((be : Int) == 0) = false := by rw [beq_eq_false_iff_ne]; omega
    have hx : Hid (xFail ⟨i, bat, be, out⟩ a e = ⟨i, bat, be, out⟩) := Lib.hid (if_neg h0)
    have H := Lib.hid h'
    clear h h' h0
    go_enter Tryz.func62, Tryz.ntmps62
    go_wp2
    go_end0
    refine ⟨rfl, ?_, grown_refl _ _⟩
    rw [hx.out]
    exact H.out

theorem csees_any (b : Nat) (s : List UInt8) (st : St) (lv : Value) (t : List UInt8) (tt : ByteArray) (ht : tt = ⟨t.toArray⟩) (w : World) (h : CurS w b s st lv) (hi : st.i ≤ s.length) :
    Calls Tryz.prog 65 #[.pointer (some ⟨b, 0, none⟩), .string tt] w fun e w' => e = .returned (.bool (Lib.hasPrefix (s.drop st.i) t)) ∧ Below w.heap.size w w' := by
  have C := Lib.hid (crest_any b s st.i st.bat st.be lv w h hi)
  have CP := Lib.hid (fun wx => hasPre_any (s.drop st.i) t ⟨(s.drop st.i).toArray⟩ tt rfl ht wx)
  clear h ht
  go_enter Tryz.func65, Tryz.ntmps65
  go_wp2_with fail
  refine (C.out).mono ?_
  rintro e w1 ⟨rfl, hb1⟩
  go_wp2_with fail
  refine (CP.out _).mono ?_
  rintro e w2 ⟨rfl, rfl⟩
  go_wp2
  go_ret
  exact ⟨rfl, hb1⟩

theorem hasPre_len {l p : List UInt8} (h : Lib.hasPrefix l p = true) : p.length ≤ l.length := hasPrefix_le h

theorem ctake_any (b : Nat) (s : List UInt8) (st : St) (lv : Value) (t : List UInt8) (tt : ByteArray) (ht : tt = ⟨t.toArray⟩) (w : World) (h : CurS w b s st lv) (hi : st.i ≤ s.length) (hs : s.length ≤ 2147483647) :
    Calls Tryz.prog 60 #[.pointer (some ⟨b, 0, none⟩), .string tt] w fun e w' => e = .returned (.bool (xTake s st t)) ∧ CurS w' b s (if xTake s st t = true then xMove st t.length else st) lv ∧ w.grownBy w' (some b) := by
  subst ht
  obtain ⟨i, bat, be, out⟩ := st
  have cF := cfine_any b s i bat be lv w h
  have cS := csees_any b s ⟨i, bat, be, out⟩ lv t _ rfl w h hi
  have htl := ba_size t
  by_cases h0 : be = 0
  · subst h0
    rw [decide_eq_true (rfl : (0 : Nat) = 0)] at cF
    have CF := Lib.hid cF
    clear cF
    cases hp : Lib.hasPrefix (s.drop i) t with
    | true =>
      have hx : xTake s ⟨i, bat, 0, out⟩ t = true := by unfold xTake; simp only []; rw [hp]; rfl
      rw [hx, if_pos rfl]
      clear hx
      have hle := hasPre_len hp
      rw [List.length_drop] at hle
      have e1 : (Lib.hasPrefix (s.drop (St.mk i bat 0 out).i) t) = true := hp
      rw [e1] at cS
      have CS := Lib.hid cS
      clear cS hp e1
      go_enter Tryz.func60, Tryz.ntmps60
      go_wp2_with fail
      refine (CF.out).mono ?_
      rintro e w1 ⟨rfl, rfl⟩
      go_wp2_with fail
      refine (CS.out).mono ?_
      rintro e w2 ⟨rfl, hb2⟩
      have h2 := h.below hb2
      have h21 := CurAt.c1 h2
      have f21 := CurAt.fz h2 1
      have H2 := Lib.hid h2
      clear h h2
      go_wp2
      go_ret
      refine ⟨rfl, ?_, (below_grows hb2 _).trans (grown_set _ b 1 _)⟩
      exact CurAt.set1 H2.out (i + t.length) _ (by omega)
    | false =>
      have hx : xTake s ⟨i, bat, 0, out⟩ t = false := by unfold xTake; simp only []; rw [hp]; rfl
      rw [hx, if_neg (by decide)]
      clear hx
      have e1 : (Lib.hasPrefix (s.drop (St.mk i bat 0 out).i) t) = false := hp
      rw [e1] at cS
      have CS := Lib.hid cS
      clear cS hp e1
      go_enter Tryz.func60, Tryz.ntmps60
      go_wp2_with fail
      refine (CF.out).mono ?_
      rintro e w1 ⟨rfl, rfl⟩
      go_wp2_with fail
      refine (CS.out).mono ?_
      rintro e w2 ⟨rfl, hb2⟩
      have H2 := Lib.hid (h.below hb2)
      clear h
      go_wp2
      go_ret
      exact ⟨rfl, H2.out, below_grows hb2 _⟩
  · have hx : xTake s ⟨i, bat, be, out⟩ t = false := by unfold xTake; simp only []; rw [decide_eq_false h0]; rfl
    rw [hx, if_neg (by decide)]
    clear hx
    rw [decide_eq_false h0] at cF
    have CF := Lib.hid cF
    have H := Lib.hid h
    clear cF cS h h0
    go_enter Tryz.func60, Tryz.ntmps60
    go_wp2_with fail
    refine (CF.out).mono ?_
    rintro e w1 ⟨rfl, rfl⟩
    go_wp2
    go_ret
    exact ⟨rfl, H.out, grown_refl _ _⟩

theorem cmissing_any (b : Nat) (s : List UInt8) (st : St) (lv : Value) (w : World) (h : CurS w b s st lv) (hi : st.i ≤ s.length) :
    Calls Tryz.prog 61 #[.pointer (some ⟨b, 0, none⟩)] w fun e w' => e = .returned (.tuple #[]) ∧ CurS w' b s (xMiss s st) lv ∧ w.grownBy w' (some b) := by
  have C := Lib.hid (crest_any b s st.i st.bat st.be lv w h hi)
  by_cases hr : s.drop st.i = []
  · have hx : Hid (xMiss s st = xFail st s.length 10) := Lib.hid (if_pos hr)
    rw [hr] at C
    have hsz := ba_size s
    have CF := Lib.hid (fun wx (hw : CurS wx b s st lv) => cfail_any b s st lv s.length 10 wx hw)
    clear hr
    go_enter Tryz.func61, Tryz.ntmps61
    go_wp2_with fail
    refine (C.out).mono ?_
    rintro e w1 ⟨rfl, hb1⟩
    have h1 := h.below hb1
    have c0 := CurAt.c0 h1
    have H1 := Lib.hid h1
    clear h h1
    go_wp2_with fail
    refine (CF.out _ H1.out).mono ?_
    rintro e w2 ⟨rfl, h2, hg2⟩
    have H2 := Lib.hid h2
    clear h2
    go_wp2
    go_end0
    rw [hx.out]
    exact ⟨rfl, H2.out, (below_grows hb1 _).trans hg2⟩
  · have hx : Hid (xMiss s st = xFail st st.i 5) := Lib.hid (if_neg hr)
    have hne : ((s.drop st.i).isEmpty) = false := by rw [List.isEmpty_eq_false_iff]; exact hr
    have CF := Lib.hid (fun wx (hw : CurS wx b s st lv) => cfail_any b s st lv st.i 5 wx hw)
    clear hr
    go_enter Tryz.func61, Tryz.ntmps61
    go_wp2_with fail
    refine (C.out).mono ?_
    rintro e w1 ⟨rfl, hb1⟩
    have h1 := h.below hb1
    have c1 := CurAt.c1 h1
    have H1 := Lib.hid h1
    clear h h1
    go_wp2_with fail
    refine (CF.out _ H1.out).mono ?_
    rintro e w2 ⟨rfl, h2, hg2⟩
    have H2 := Lib.hid h2
    clear h2
    go_wp2
    go_end0
    rw [hx.out]
    exact ⟨rfl, H2.out, (below_grows hb1 _).trans hg2⟩

theorem xNeed_eq (s : List UInt8) (st : St) (t : List UInt8) : xNeed s st t = if xTake s st t = true then xMove st t.length else xMiss s st := rfl

theorem cneed_any (b : Nat) (s : List UInt8) (st : St) (lv : Value) (t : List UInt8) (tt : ByteArray) (ht : tt = ⟨t.toArray⟩) (w : World) (h : CurS w b s st lv) (hi : st.i ≤ s.length) (hs : s.length ≤ 2147483647) :
    Calls Tryz.prog 68 #[.pointer (some ⟨b, 0, none⟩), .string tt] w fun e w' => e = .returned (.tuple #[]) ∧ CurS w' b s (xNeed s st t) lv ∧ w.grownBy w' (some b) := by
  have cT := ctake_any b s st lv t tt ht w h hi hs
  have CM := Lib.hid (fun wx (hw : CurS wx b s st lv) => cmissing_any b s st lv wx hw hi)
  have HX := Lib.hid (xNeed_eq s st t)
  clear h ht
  cases ht : xTake s st t with
  | true =>
    rw [ht] at cT HX
    have CT := Lib.hid cT
    clear cT ht
    go_enter Tryz.func68, Tryz.ntmps68
    go_wp2_with fail
    refine (CT.out).mono ?_
    rintro e w1 ⟨rfl, h1, hg1⟩
    have H1 := Lib.hid h1
    clear h1
    go_wp2
    go_end0
    rw [HX.out]
    exact ⟨rfl, H1.out, hg1⟩
  | false =>
    rw [ht] at cT HX
    have CT := Lib.hid cT
    clear cT ht
    go_enter Tryz.func68, Tryz.ntmps68
    go_wp2_with fail
    refine (CT.out).mono ?_
    rintro e w1 ⟨rfl, h1, hg1⟩
    have H1 := Lib.hid h1
    clear h1
    go_wp2_with fail
    refine (CM.out _ H1.out).mono ?_
    rintro e w2 ⟨rfl, h2, hg2⟩
    have H2 := Lib.hid h2
    clear h2
    go_wp2
    go_end0
    rw [HX.out]
    exact ⟨rfl, H2.out, hg1.trans hg2⟩

theorem trim_le (l cs : List UInt8) : (Lib.trimLeftS l cs).length ≤ l.length := by
  unfold Lib.trimLeftS
  exact (List.dropWhile_suffix _).length_le

theorem trimLeft_any (l : List UInt8) (s t : ByteArray) (hs : s = ⟨l.toArray⟩) (ht : t = ⟨#[32, 9, 13, 10]⟩) (w : World) :
    Calls Tryz.prog 103 #[.string s, .string t] w fun e w' => e = .returned (.string ⟨(Lib.trimLeftS l blanksL).toArray⟩) ∧ Below w.heap.size w w' := by
  subst hs ht
  exact Tryz.sTrimLeft ⟨l.toArray⟩ ⟨#[32, 9, 13, 10]⟩ w (by decide) (ascii_of_all (by decide))

theorem cblanks_any (b : Nat) (s : List UInt8) (st : St) (lv : Value) (w : World) (h : CurS w b s st lv) (hi : st.i ≤ s.length) (hs : s.length ≤ 2147483647) :
    Calls Tryz.prog 67 #[.pointer (some ⟨b, 0, none⟩)] w fun e w' => e = .returned (.bool (decide (0 < blankN (s.drop st.i)))) ∧ CurS w' b s (xBlank s st) lv ∧ w.grownBy w' (some b) := by
  have C := Lib.hid (fun wx (hw : CurS wx b s st lv) => crest_any b s st.i st.bat st.be lv wx hw hi)
  have CT := Lib.hid (fun wx => trimLeft_any (s.drop st.i) ⟨(s.drop st.i).toArray⟩ ⟨#[32, 9, 13, 10]⟩ rfl rfl wx)
  have hle := trim_le (s.drop st.i) blanksL
  have hsz := ba_size (s.drop st.i)
  have hsz2 := ba_size (Lib.trimLeftS (s.drop st.i) blanksL)
  have hld : (s.drop st.i).length ≤ s.length - st.i := by rw [List.length_drop]; exact Nat.le_refl _
  have hB : blankN (s.drop st.i) = (s.drop st.i).length - (Lib.trimLeftS (s.drop st.i) blanksL).length := rfl
  have hX : Hid (xBlank s st = xMove st (blankN (s.drop st.i))) := Lib.hid rfl
  generalize Lib.trimLeftS (s.drop st.i) blanksL = r at *
  generalize s.drop st.i = d at *
  generalize blankN d = n at *
  have hd : decide (0 < n) = decide (r.length < d.length) := by
    rw [Bool.eq_iff_iff, decide_eq_true_iff, decide_eq_true_iff]; omega
  rw [hd]
  have HD := Lib.hid hB
  clear hd hB
  go_enter Tryz.func67, Tryz.ntmps67
  go_wp2_with fail
  refine (C.out _ h).mono ?_
  rintro e w1 ⟨rfl, hb1⟩
  have h1 := h.below hb1
  have hs1 := hb1.size
  go_wp2_with fail
  refine (C.out _ h1).mono ?_
  rintro e w2 ⟨rfl, hb2⟩
  have h2 := h1.below hb2
  go_wp2_with fail
  refine (CT.out _).mono ?_
  rintro e w3 ⟨rfl, hb3⟩
  have h3 := h2.below hb3
  have c1 := CurAt.c1 h3
  have f1 := CurAt.fz h3 1
  have H3 := Lib.hid h3
  clear h h1 h2 h3
  go_wp2
  go_ret
  refine ⟨rfl, ?_, (below_grows hb1 _).trans ((below_grows hb2 _).trans ((below_grows hb3 _).trans (grown_set _ b 1 _)))⟩
  rw [hX.out]
  exact CurAt.set1 H3.out (st.i + n) _ (by rw [HD.out]; omega)

/-- strings.Cut at a text. -/
theorem cutT_any (l p : List UInt8) (s t : ByteArray) (hs : s = ⟨l.toArray⟩) (ht : t = ⟨p.toArray⟩) (hl : l.length < 4294967281) (w : World) (hR : Ready w) :
    Calls Tryz.prog 104 #[.string s, .string t] w fun e w' => e = .returned (.tuple #[.string ⟨(Lib.cut l p).1.toArray⟩, .string ⟨(Lib.cut l p).2.1.toArray⟩, .bool (Lib.cut l p).2.2]) ∧ Below w.heap.size w w' := by
  subst hs ht
  obtain ⟨m, hm⟩ := hR.maxl
  refine (Tryz.strings_Cut ⟨l.toArray⟩ ⟨p.toArray⟩ m w (by rw [ba_size]; exact hl) hm).mono ?_
  rintro e w' ⟨rfl, n, rfl⟩
  exact ⟨rfl, below_drewN _ _⟩

theorem index_bound : ∀ (l p : List UInt8), 0 ≤ Lib.index l p → (Lib.index l p).toNat + p.length ≤ l.length
  | [], p, h => by
    unfold Lib.index at h ⊢
    split at h
    · rename_i hp
      have : p = [] := by simpa using hp
      subst this; simp
    · omega
  | x :: r, p, h => by
    have ih := index_bound r p
    have hge := Lib.index_ge r p
    unfold Lib.index at h ⊢
    split
    · rename_i hp
      have := (List.isPrefixOf_iff_prefix.1 hp).length_le
      simpa using this
    · rename_i hp
      rw [if_neg hp] at h
      by_cases h1 : Lib.index r p = -1
      · rw [h1] at h
        exact absurd h (by decide)
      · have h2 : (Lib.index r p == -1) = false := by rw [beq_eq_false_iff_ne]; exact h1
        rw [h2]
        have := ih (by omega)
        simp only [Bool.false_eq_true, if_false, List.length_cons]
        omega

theorem cut_bound {l p : List UInt8} (h : (Lib.cut l p).2.2 = true) : (Lib.cut l p).1.length + p.length ≤ l.length := by
  unfold Lib.cut at h ⊢
  split
  · rename_i h0
    have := index_bound l p h0
    simp only [List.length_take]
    omega
  · rename_i h0
    rw [if_neg h0] at h
    cases h

theorem cuntil_any (b : Nat) (s : List UInt8) (st : St) (lv : Value) (t : List UInt8) (tt : ByteArray) (ht : tt = ⟨t.toArray⟩) (w : World) (h : CurS w b s st lv) (hi : st.i ≤ s.length) (hs : s.length ≤ 2147483647) (hR : Based b w) :
    Calls Tryz.prog 59 #[.pointer (some ⟨b, 0, none⟩), .string tt] w fun e w' => e = .returned (.string ⟨(xUntil s st t).2.toArray⟩) ∧ CurS w' b s (xUntil s st t).1 lv ∧ w.grownBy w' (some b) := by
  have C := Lib.hid (crest_any b s st.i st.bat st.be lv w h hi)
  have cC := fun wx (hx : Ready wx) => cutT_any (s.drop st.i) t ⟨(s.drop st.i).toArray⟩ tt rfl ht (by rw [List.length_drop]; omega) wx hx
  have hsz := ba_size s
  have hsz1 := ba_size (Lib.cut (s.drop st.i) t).1
  have htl : tt.size = t.length := by rw [ht, ba_size]
  have hcb : (Lib.cut (s.drop st.i) t).2.2 = true → (Lib.cut (s.drop st.i) t).1.length + t.length ≤ s.length - st.i := fun hh => by
    have := cut_bound hh
    rw [List.length_drop] at this
    exact this
  have hX : xUntil s st t = if (Lib.cut (s.drop st.i) t).2.2 = true then (xMove st ((Lib.cut (s.drop st.i) t).1.length + t.length), (Lib.cut (s.drop st.i) t).1) else (xFail st s.length 10, []) := rfl
  generalize (Lib.cut (s.drop st.i) t).2.2 = ok at *
  generalize (Lib.cut (s.drop st.i) t).1 = c1 at *
  generalize (Lib.cut (s.drop st.i) t).2.1 = c2 at *
  cases ok with
  | true =>
    rw [if_pos rfl] at hX
    have HX := Lib.hid hX
    have hb := hcb rfl
    have CC := Lib.hid cC
    clear hX hcb cC ht
    go_enter Tryz.func59, Tryz.ntmps59
    go_wp2_with fail
    refine (C.out).mono ?_
    rintro e w1 ⟨rfl, hb1⟩
    have h1 := h.below hb1
    have hR1 := (hR.below hb1).ready
    go_wp2_with fail
    refine (CC.out _ hR1).mono ?_
    rintro e w2 ⟨rfl, hb2⟩
    have h2 := h1.below hb2
    have k1 := CurAt.c1 h2
    have f1 := CurAt.fz h2 1
    have H2 := Lib.hid h2
    clear h h1 h2
    go_wp2
    go_ret
    rw [HX.out]
    refine ⟨rfl, ?_, (below_grows hb1 _).trans ((below_grows hb2 _).trans (grown_set _ b 1 _))⟩
    exact CurAt.set1 H2.out (st.i + (c1.length + t.length)) _ (by omega)
  | false =>
    rw [if_neg (by decide)] at hX
    have HX := Lib.hid hX
    have CC := Lib.hid cC
    have CF := Lib.hid (fun wx (hw : CurS wx b s st lv) => cfail_any b s st lv s.length 10 wx hw)
    clear hX hcb cC ht
    go_enter Tryz.func59, Tryz.ntmps59
    go_wp2_with fail
    refine (C.out).mono ?_
    rintro e w1 ⟨rfl, hb1⟩
    have h1 := h.below hb1
    have hR1 := (hR.below hb1).ready
    go_wp2_with fail
    refine (CC.out _ hR1).mono ?_
    rintro e w2 ⟨rfl, hb2⟩
    have h2 := h1.below hb2
    have k0 := CurAt.c0 h2
    have H2 := Lib.hid h2
    clear h h1 h2
    go_wp2_with fail
    refine (CF.out _ H2.out).mono ?_
    rintro e w3 ⟨rfl, h3, hg3⟩
    have H3 := Lib.hid h3
    clear h3
    go_wp2
    go_ret
    rw [HX.out]
    exact ⟨rfl, H3.out, (below_grows hb1 _).trans ((below_grows hb2 _).trans hg3)⟩

end Go.Proofs.YtblhpkcdemefaaaGreatDoor
