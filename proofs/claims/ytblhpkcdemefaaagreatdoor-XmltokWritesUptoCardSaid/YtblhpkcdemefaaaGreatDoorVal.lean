/- Walks: xmltok's scanner.value: an attribute's value. -/
import Derived.Test.YtblhpkcdemefaaaGreatDoorNme
import Derived.Test.YtblhpkcdemefaaaGreatDoorPure
set_option linter.unusedVariables false
set_option linter.unusedSimpArgs false
namespace Go.Proofs.YtblhpkcdemefaaaGreatDoor
open Go.RowKit

theorem take_one {l : List UInt8} {q : UInt8} (h : Lib.hasPrefix l [q] = true) : l.take 1 = [q] := by
  cases l with
  | nil => simp [Lib.hasPrefix] at h
  | cons x r => simp [Lib.hasPrefix] at h; simp [h]

set_option maxHeartbeats 4000000 in
set_option maxRecDepth 100000 in
theorem xvalue_any (b : Nat) (s : List UInt8) (st : St) (lv : Value) (w : World) (h : CurS w b s st lv) (hi : st.i ≤ s.length) (hsz : s.length ≤ 1000000000) (hR : Based b w) :
    Calls Tryz.prog 148 #[.pointer (some ⟨b, 0, none⟩)] w fun e w' => e = .returned (.string ⟨(xValue s st).2.toArray⟩) ∧ CurS w' b s (xValue s st).1 lv ∧ w.grownBy w' (some b) := by
  have hsz : s.length ≤ 2147483647 := by omega
  have cF := cfine_any b s st.i st.bat st.be lv w h
  by_cases hbe : st.be = 0
  · rw [decide_eq_true hbe] at cF
    have CF := Lib.hid cF
    have CS1 := Lib.hid (csees_any b s st lv [34] ⟨#[34]⟩ rfl w h hi)
    have CS2 := Lib.hid (fun wx (hw : CurS wx b s st lv) => csees_any b s st lv [39] ⟨#[39]⟩ rfl wx hw hi)
    clear cF
    cases hp : Lib.hasPrefix (s.drop st.i) [34] with
    | true =>
      rw [hp] at CS1
      go_enter Tryz.func148, Tryz.ntmps148
      go_wp2_with fail
      refine (CF.out).mono ?_
      rintro e w1 ⟨rfl, rfl⟩
      go_wp2_with fail
      refine (CS1.out).mono ?_
      rintro e w2 ⟨rfl, hb2⟩
      have h2 := h.below hb2
      have hR2 := hR.below hb2
      have hg2 := below_grows hb2 (some b)
      clear CS1 CS2 CF
      have hq1 : (s.drop st.i).take 1 = [34] := take_one hp
      have hlt : st.i < s.length := by
        have := hasPre_len hp
        rw [List.length_drop] at this
        simp at this
        omega
      have hsl : ∀ wx : World, (Instr.slice 9 (.string ⟨(s.drop st.i).toArray⟩) none (some (.int .i64 1)) none).run Tryz.prog wx = .ok (.string ⟨#[34]⟩) wx := by
        intro wx
        rw [to_slice (s.drop st.i) 1 1 rfl (by rw [List.length_drop]; omega) wx, hq1]
      have hX : xValue s st = xValueIn s (xMove st 1) 34 := by unfold xValue; rw [if_neg (by omega), if_pos hp]
      have CR := Lib.hid (crest_any b s st.i st.bat st.be lv w2 h2 hi)
      have CR1 := Lib.hid (fun wx (hw : CurS wx b s (xMove st 1) lv) => crest_any b s (st.i + 1) st.bat st.be lv wx hw (by omega))
      have cC := fun wx (hx : Ready wx) => cut_any 34 (s.drop (st.i + 1)) ⟨(s.drop (st.i + 1)).toArray⟩ ⟨#[34]⟩ rfl rfl (by rw [List.length_drop]; omega) wx hx
      have hcl := (cutB_le 34 (s.drop (st.i + 1))).1
      rw [List.length_drop] at hcl
      have hVI : xValue s st = ((xUntil s (if (tellL true (cutB 34 (s.drop (st.i + 1))).1).2.2 = 0 then xMove st 1 else xFail (xMove st 1) (st.i + 1 + (tellL true (cutB 34 (s.drop (st.i + 1))).1).2.1) (tellL true (cutB 34 (s.drop (st.i + 1))).1).2.2) [34]).1, (tellL true (cutB 34 (s.drop (st.i + 1))).1).1) := hX
      have CU := Lib.hid (fun wx st' (hw : CurS wx b s st' lv) (hi' : st'.i ≤ s.length) (hx : Based b wx) => cuntil_any b s st' lv [34] ⟨#[34]⟩ rfl wx hw hi' hsz hx)
      have CFL := Lib.hid (fun wx a e (hw : CurS wx b s (xMove st 1) lv) => cfail_any b s (xMove st 1) lv a e wx hw)
      generalize (cutB 34 (s.drop (st.i + 1))).2.2 = ok at *
      generalize (cutB 34 (s.drop (st.i + 1))).2.1 = behind at *
      generalize (cutB 34 (s.drop (st.i + 1))).1 = raw at *
      have cV := fun wx (hx : Ready wx) => value_any raw ⟨raw.toArray⟩ rfl wx (by omega) hx
      have hto := tellL_out true raw
      generalize tellL true raw = r at *
      obtain ⟨v, k, e⟩ := r
      rw [tellRes_mk] at cV
      have hke : k ≤ raw.length ∧ (e = 0 ∨ e = 4 ∨ e = 5) := by
        rcases hto with ⟨ds, _, ho⟩ | ⟨q', e', h1, h2, ho⟩
        · cases ho; exact ⟨Nat.le_refl _, Or.inl rfl⟩
        · cases ho; exact ⟨by omega, Or.inr h2⟩
      obtain ⟨hk, he⟩ := hke
      have CC := Lib.hid cC
      have CV := Lib.hid cV
      clear cC cV hto hX hq1 hp
      go_wp2_with fail
      refine (CR.out).mono ?_
      rintro e w4 ⟨rfl, hb4⟩
      have h4 := (h2).below hb4
      have hR4 := (hR2).below hb4
      have hg4 := (hg2).trans (below_grows hb4 (some b))
      have k1 := CurAt.c1 h4
      have f1 := CurAt.fz h4 1
      have hl4 := CurAt.lt h4
      have h5 : CurS (w4.setCell ⟨b, 1, none⟩ (.int .i64 ((st.i : Int) + 1))) b s (xMove st 1) lv := CurAt.set1 h4 (st.i + 1) _ (by omega)
      have hgs := grown_set w4 b 1 (.int .i64 ((st.i : Int) + 1))
      have hR5 := hR4.grown hgs
      have hg5 := hg4.trans hgs
      clear hgs hb4 hg4 hR4
      go_wp2_with fail
      generalize w4.setCell ⟨b, 1, none⟩ (.int .i64 ((st.i : Int) + 1)) = w5 at *
      refine (CR1.out _ h5).mono ?_
      rintro e w6 ⟨rfl, hb6⟩
      have h6 := h5.below hb6
      have hR6 := hR5.below hb6
      have hg6 := hg5.trans (below_grows hb6 (some b))
      clear h4 k1 f1 hl4
      go_wp2_with fail
      refine (CC.out _ hR6.ready).mono ?_
      rintro e w7 ⟨rfl, hb7⟩
      have h7 := h6.below hb7
      have hR7 := hR6.below hb7
      have hg7 := hg6.trans (below_grows hb7 (some b))
      go_wp2_with fail
      refine (CV.out _ hR7.ready).mono ?_
      rintro e' w8 ⟨rfl, hb8⟩
      have h8 := h7.below hb8
      have hR8 := hR7.below hb8
      have hg8 := hg7.trans (below_grows hb8 (some b))
      clear h5 hR5 hg5 h6 hR6 hg6 h7 hR7 hg7 hb6 hb7 hb8
      by_cases he0 : e = 0
      · subst he0
        have hVI' : xValue s st = ((xUntil s (xMove st 1) [34]).1, v) := hVI
        have HVI := Lib.hid hVI'
        clear hVI hVI' he
        go_wp2_with fail
        refine (CU.out _ (xMove st 1) h8 (by show st.i + 1 ≤ _; omega) hR8).mono ?_
        rintro e' w9 ⟨rfl, h9, hg9⟩
        have H9 := Lib.hid h9
        clear h9
        go_wp2
        go_ret
        rw [HVI.out]
        exact ⟨rfl, H9.out, hg8.trans hg9⟩
      · have hVI' : xValue s st = ((xUntil s (xFail (xMove st 1) (st.i + 1 + k) e) [34]).1, v) := hVI.trans (by rw [if_neg he0])
        have HVI := Lib.hid hVI'
        have i0 : ((e : Int) == 0) = false := by rw [beq_eq_false_iff_ne]; omega
        have i0' : ((e : Int) != 0) = true := by rw [bne_iff_ne]; omega
        have hxi : (xFail (xMove st 1) (st.i + 1 + k) e).i = st.i + 1 := by unfold xFail; split <;> rfl
        have cX := CFL.out w8 (st.i + 1 + k) e h8
        have ec : ((st.i + 1 + k : Nat) : Int) = (st.i : Int) + 1 + (k : Int) := by omega
        rw [ec] at cX
        have CX := Lib.hid cX
        clear hVI hVI' he he0 ec cX
        go_wp2_with fail
        refine (CX.out).mono ?_
        rintro e' w9 ⟨rfl, h9, hg9⟩
        have hR9 := hR8.grown hg9
        have hg89 := hg8.trans hg9
        go_wp2_with fail
        refine (CU.out _ _ h9 (by rw [hxi]; omega) hR9).mono ?_
        rintro e' w10 ⟨rfl, h10, hg10⟩
        have H10 := Lib.hid h10
        clear h10
        go_wp2
        go_ret
        rw [HVI.out]
        exact ⟨rfl, H10.out, hg89.trans hg10⟩
    | false =>
      rw [hp] at CS1
      cases hp' : Lib.hasPrefix (s.drop st.i) [39] with
      | true =>
        rw [hp'] at CS2
        have hp0 := hp
        clear hp
        have hp := hp'
        clear hp'
        go_enter Tryz.func148, Tryz.ntmps148
        go_wp2_with fail
        refine (CF.out).mono ?_
        rintro e w1 ⟨rfl, rfl⟩
        go_wp2_with fail
        refine (CS1.out).mono ?_
        rintro e w2 ⟨rfl, hb2⟩
        have h2 := h.below hb2
        go_wp2_with fail
        refine (CS2.out _ h2).mono ?_
        rintro e w3 ⟨rfl, hb3⟩
        have h3 := h2.below hb3
        have hR3 := (hR.below hb2).below hb3
        have hg3 := (below_grows hb2 (some b)).trans (below_grows hb3 (some b))
        clear CS1 CS2 CF
        have hq1 : (s.drop st.i).take 1 = [39] := take_one hp
        have hlt : st.i < s.length := by
          have := hasPre_len hp
          rw [List.length_drop] at this
          simp at this
          omega
        have hsl : ∀ wx : World, (Instr.slice 9 (.string ⟨(s.drop st.i).toArray⟩) none (some (.int .i64 1)) none).run Tryz.prog wx = .ok (.string ⟨#[39]⟩) wx := by
          intro wx
          rw [to_slice (s.drop st.i) 1 1 rfl (by rw [List.length_drop]; omega) wx, hq1]
        have hX : xValue s st = xValueIn s (xMove st 1) 39 := by unfold xValue; rw [if_neg (by omega), if_neg (by rw [hp0]; decide), if_pos hp]
        have CR := Lib.hid (crest_any b s st.i st.bat st.be lv w3 h3 hi)
        have CR1 := Lib.hid (fun wx (hw : CurS wx b s (xMove st 1) lv) => crest_any b s (st.i + 1) st.bat st.be lv wx hw (by omega))
        have cC := fun wx (hx : Ready wx) => cut_any 39 (s.drop (st.i + 1)) ⟨(s.drop (st.i + 1)).toArray⟩ ⟨#[39]⟩ rfl rfl (by rw [List.length_drop]; omega) wx hx
        have hcl := (cutB_le 39 (s.drop (st.i + 1))).1
        rw [List.length_drop] at hcl
        have hVI : xValue s st = ((xUntil s (if (tellL true (cutB 39 (s.drop (st.i + 1))).1).2.2 = 0 then xMove st 1 else xFail (xMove st 1) (st.i + 1 + (tellL true (cutB 39 (s.drop (st.i + 1))).1).2.1) (tellL true (cutB 39 (s.drop (st.i + 1))).1).2.2) [39]).1, (tellL true (cutB 39 (s.drop (st.i + 1))).1).1) := hX
        have CU := Lib.hid (fun wx st' (hw : CurS wx b s st' lv) (hi' : st'.i ≤ s.length) (hx : Based b wx) => cuntil_any b s st' lv [39] ⟨#[39]⟩ rfl wx hw hi' hsz hx)
        have CFL := Lib.hid (fun wx a e (hw : CurS wx b s (xMove st 1) lv) => cfail_any b s (xMove st 1) lv a e wx hw)
        generalize (cutB 39 (s.drop (st.i + 1))).2.2 = ok at *
        generalize (cutB 39 (s.drop (st.i + 1))).2.1 = behind at *
        generalize (cutB 39 (s.drop (st.i + 1))).1 = raw at *
        have cV := fun wx (hx : Ready wx) => value_any raw ⟨raw.toArray⟩ rfl wx (by omega) hx
        have hto := tellL_out true raw
        generalize tellL true raw = r at *
        obtain ⟨v, k, e⟩ := r
        rw [tellRes_mk] at cV
        have hke : k ≤ raw.length ∧ (e = 0 ∨ e = 4 ∨ e = 5) := by
          rcases hto with ⟨ds, _, ho⟩ | ⟨q', e', h1, h2, ho⟩
          · cases ho; exact ⟨Nat.le_refl _, Or.inl rfl⟩
          · cases ho; exact ⟨by omega, Or.inr h2⟩
        obtain ⟨hk, he⟩ := hke
        have CC := Lib.hid cC
        have CV := Lib.hid cV
        clear cC cV hto hX hq1 hp hp0
        go_wp2_with fail
        refine (CR.out).mono ?_
        rintro e w4 ⟨rfl, hb4⟩
        have h4 := (h3).below hb4
        have hR4 := (hR3).below hb4
        have hg4 := (hg3).trans (below_grows hb4 (some b))
        have k1 := CurAt.c1 h4
        have f1 := CurAt.fz h4 1
        have hl4 := CurAt.lt h4
        have h5 : CurS (w4.setCell ⟨b, 1, none⟩ (.int .i64 ((st.i : Int) + 1))) b s (xMove st 1) lv := CurAt.set1 h4 (st.i + 1) _ (by omega)
        have hgs := grown_set w4 b 1 (.int .i64 ((st.i : Int) + 1))
        have hR5 := hR4.grown hgs
        have hg5 := hg4.trans hgs
        clear hgs hb4 hg4 hR4
        go_wp2_with fail
        generalize w4.setCell ⟨b, 1, none⟩ (.int .i64 ((st.i : Int) + 1)) = w5 at *
        refine (CR1.out _ h5).mono ?_
        rintro e w6 ⟨rfl, hb6⟩
        have h6 := h5.below hb6
        have hR6 := hR5.below hb6
        have hg6 := hg5.trans (below_grows hb6 (some b))
        clear h4 k1 f1 hl4
        go_wp2_with fail
        refine (CC.out _ hR6.ready).mono ?_
        rintro e w7 ⟨rfl, hb7⟩
        have h7 := h6.below hb7
        have hR7 := hR6.below hb7
        have hg7 := hg6.trans (below_grows hb7 (some b))
        go_wp2_with fail
        refine (CV.out _ hR7.ready).mono ?_
        rintro e' w8 ⟨rfl, hb8⟩
        have h8 := h7.below hb8
        have hR8 := hR7.below hb8
        have hg8 := hg7.trans (below_grows hb8 (some b))
        clear h5 hR5 hg5 h6 hR6 hg6 h7 hR7 hg7 hb6 hb7 hb8
        by_cases he0 : e = 0
        · subst he0
          have hVI' : xValue s st = ((xUntil s (xMove st 1) [39]).1, v) := hVI
          have HVI := Lib.hid hVI'
          clear hVI hVI' he
          go_wp2_with fail
          refine (CU.out _ (xMove st 1) h8 (by show st.i + 1 ≤ _; omega) hR8).mono ?_
          rintro e' w9 ⟨rfl, h9, hg9⟩
          have H9 := Lib.hid h9
          clear h9
          go_wp2
          go_ret
          rw [HVI.out]
          exact ⟨rfl, H9.out, hg8.trans hg9⟩
        · have hVI' : xValue s st = ((xUntil s (xFail (xMove st 1) (st.i + 1 + k) e) [39]).1, v) := hVI.trans (by rw [if_neg he0])
          have HVI := Lib.hid hVI'
          have i0 : ((e : Int) == 0) = false := by rw [beq_eq_false_iff_ne]; omega
          have i0' : ((e : Int) != 0) = true := by rw [bne_iff_ne]; omega
          have hxi : (xFail (xMove st 1) (st.i + 1 + k) e).i = st.i + 1 := by unfold xFail; split <;> rfl
          have cX := CFL.out w8 (st.i + 1 + k) e h8
          have ec : ((st.i + 1 + k : Nat) : Int) = (st.i : Int) + 1 + (k : Int) := by omega
          rw [ec] at cX
          have CX := Lib.hid cX
          clear hVI hVI' he he0 ec cX
          go_wp2_with fail
          refine (CX.out).mono ?_
          rintro e' w9 ⟨rfl, h9, hg9⟩
          have hR9 := hR8.grown hg9
          have hg89 := hg8.trans hg9
          go_wp2_with fail
          refine (CU.out _ _ h9 (by rw [hxi]; omega) hR9).mono ?_
          rintro e' w10 ⟨rfl, h10, hg10⟩
          have H10 := Lib.hid h10
          clear h10
          go_wp2
          go_ret
          rw [HVI.out]
          exact ⟨rfl, H10.out, hg89.trans hg10⟩
      | false =>
        rw [hp'] at CS2
        have HX : Hid (xValue s st = (xMiss s st, [])) := Lib.hid (by unfold xValue; rw [if_neg (by omega), if_neg (by rw [hp]; decide), if_neg (by rw [hp']; decide)])
        have CM := Lib.hid (fun wx (hw : CurS wx b s st lv) => cmissing_any b s st lv wx hw hi)
        clear hp hp'
        go_enter Tryz.func148, Tryz.ntmps148
        go_wp2_with fail
        refine (CF.out).mono ?_
        rintro e w1 ⟨rfl, rfl⟩
        go_wp2_with fail
        refine (CS1.out).mono ?_
        rintro e w2 ⟨rfl, hb2⟩
        have h2 := h.below hb2
        go_wp2_with fail
        refine (CS2.out _ h2).mono ?_
        rintro e w3 ⟨rfl, hb3⟩
        have h3 := h2.below hb3
        have hg3 := (below_grows hb2 (some b)).trans (below_grows hb3 (some b))
        go_wp2_with fail
        refine (CM.out _ h3).mono ?_
        rintro e w4 ⟨rfl, h4, hg4⟩
        have H4 := Lib.hid h4
        clear h4
        go_wp2
        go_ret
        rw [HX.out]
        exact ⟨rfl, H4.out, hg3.trans hg4⟩
  · rw [decide_eq_false hbe] at cF
    have CF := Lib.hid cF
    have HX : Hid (xValue s st = (st, [])) := Lib.hid (by unfold xValue; rw [if_pos hbe])
    have H := Lib.hid h
    clear cF h hbe
    go_enter Tryz.func148, Tryz.ntmps148
    go_wp2_with fail
    refine (CF.out).mono ?_
    rintro e w1 ⟨rfl, rfl⟩
    go_wp2
    go_ret
    rw [HX.out]
    exact ⟨rfl, H.out, grown_refl _ _⟩

end Go.Proofs.YtblhpkcdemefaaaGreatDoor
