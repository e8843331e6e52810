/- Walks: xmltok's scanner.declared and scanner.one, where no <![CDATA[ stands. -/
import Derived.Test.YtblhpkcdemefaaaGreatDoorOpn
set_option linter.unusedVariables false
set_option linter.unusedSimpArgs false
namespace Go.Proofs.YtblhpkcdemefaaaGreatDoor
open Go.RowKit

theorem pre_split {l p : List UInt8} (h : Lib.hasPrefix l p = true) : l = p ++ l.drop p.length := by
  unfold Lib.hasPrefix at h
  rw [List.isPrefixOf_iff_prefix] at h
  obtain ⟨r, rfl⟩ := h
  simp

set_option maxHeartbeats 2000000 in
theorem declared_any (b : Nat) (s : List UInt8) (st : St) (lv : Value) (w : World) (h : CurS w b s st lv) (hi : st.i ≤ s.length) :
    Calls Tryz.prog 58 #[.pointer (some ⟨b, 0, none⟩)] w fun e w' => e = .returned (.bool (isDecl s st)) ∧ Below w.heap.size w w' := by
  have CR := Lib.hid (crest_any b s st.i st.bat st.be lv w h hi)
  cases hp : Lib.hasPrefix (s.drop st.i) [60, 63, 120, 109, 108] with
  | false =>
    have HX : Hid (isDecl s st = false) := Lib.hid (by unfold isDecl; rw [hp]; rfl)
    have CC := Lib.hid (fun wx => cutPre_no [60, 63, 120, 109, 108] (s.drop st.i) ⟨(s.drop st.i).toArray⟩ ⟨#[60, 63, 120, 109, 108]⟩ rfl rfl hp wx)
    clear hp
    go_enter Tryz.func58, Tryz.ntmps58
    go_wp2_with fail
    refine (CR.out).mono ?_
    rintro e w1 ⟨rfl, hb1⟩
    go_wp2_with fail
    refine (CC.out _).mono ?_
    rintro e w2 ⟨rfl, rfl⟩
    go_wp2
    go_ret
    rw [HX.out]
    exact ⟨rfl, hb1⟩
  | true =>
    have hs : s.drop st.i = [60, 63, 120, 109, 108] ++ s.drop (st.i + 5) := by
      have h := pre_split hp
      rw [List.drop_drop] at h
      exact h
    have CC := Lib.hid (fun wx => cutPre_yes [60, 63, 120, 109, 108] (s.drop (st.i + 5)) ⟨(s.drop st.i).toArray⟩ ⟨#[60, 63, 120, 109, 108]⟩ (by rw [← hs]) rfl wx)
    have hX : isDecl s st = (decide (st.i = 0) && !(Lib.trimLeftS (s.drop (st.i + 5)) blanksL == s.drop (st.i + 5))) := by unfold isDecl; rw [hp]; rfl
    have CT := Lib.hid (fun wx => trimLeft_any (s.drop (st.i + 5)) ⟨(s.drop (st.i + 5)).toArray⟩ ⟨#[32, 9, 13, 10]⟩ rfl rfl wx)
    clear hp hs
    by_cases h0 : st.i = 0
    · rw [decide_eq_true h0, Bool.true_and] at hX
      have HX := Lib.hid hX
      have z0 : ((st.i : Int) == 0) = true := by rw [beq_iff_eq]; omega
      clear hX h0
      go_enter Tryz.func58, Tryz.ntmps58
      go_wp2_with fail
      refine (CR.out).mono ?_
      rintro e w1 ⟨rfl, hb1⟩
      have c1 := CurAt.c1 (h.below hb1)
      have hs1 := hb1.size
      go_wp2_with fail
      refine (CC.out _).mono ?_
      rintro e w2 ⟨rfl, rfl⟩
      go_wp2_with fail
      refine (CT.out _).mono ?_
      rintro e w3 ⟨rfl, hb3⟩
      go_wp2
      go_ret
      rw [HX.out]
      exact ⟨rfl, hb1.trans (hb3.mono hs1)⟩
    · rw [decide_eq_false h0, Bool.false_and] at hX
      have HX := Lib.hid hX
      have z0 : ((st.i : Int) == 0) = false := by rw [beq_eq_false_iff_ne]; omega
      clear hX h0
      go_enter Tryz.func58, Tryz.ntmps58
      go_wp2_with fail
      refine (CR.out).mono ?_
      rintro e w1 ⟨rfl, hb1⟩
      have c1 := CurAt.c1 (h.below hb1)
      go_wp2_with fail
      refine (CC.out _).mono ?_
      rintro e w2 ⟨rfl, rfl⟩
      go_wp2
      go_ret
      rw [HX.out]
      exact ⟨rfl, hb1⟩

theorem miss_i {s : List UInt8} {st : St} : (xMiss s st).i = st.i := by unfold xMiss; split <;> exact fail_i _ _

set_option maxHeartbeats 8000000 in
set_option maxRecDepth 100000 in
theorem xone_any (b : Nat) (s : List UInt8) (st : St) (w : World) (h : ScanS w b s st) (hi : st.i ≤ s.length) (hsz : s.length ≤ 1000000000) (hR : Based b w) (hn : st.out.length ≤ 1000000000) (hD : Lib.hasPrefix (s.drop st.i) [60, 33, 91, 67, 68, 65, 84, 65, 91] = false) :
    Calls Tryz.prog 33 #[.pointer (some ⟨b, 0, none⟩)] w fun e w' => e = .returned (.tuple #[]) ∧ ScanS w' b s (xOne s st) ∧ Below b w w' := by
  obtain ⟨lv, ts, hC, hT, hts⟩ := h
  have hs2 : s.length ≤ 2147483647 := by omega
  have hln : ts.length ≤ 1000000000 := by rw [← hts, List.length_map] at hn; exact hn
  obtain ⟨i0, hi0, hz0, hz1, hz2⟩ := info_parts info_tok
  have hbw : b ≤ w.heap.size := Nat.le_of_lt (CurAt.lt hC)
  have hbw' : b < w.heap.size := CurAt.lt hC
  have HC0 := Lib.hid hC
  have HT := Lib.hid hT
  have k1 := CurAt.c1 hC
  have cD := declared_any b s st lv w hC hi
  have hX0 : xOne s st = if isDecl s st = true then (xUntil s st [63, 62]).1 else if xTake s st [60, 33, 45, 45] = true then xComm s (xUntil s (xMove st 4) [45, 45]).1 else if xTake s st [60, 33, 91, 67, 68, 65, 84, 65, 91] = true then xData (xUntil s (xMove st 9) [93, 93, 62]).1 st.i (linesL (xUntil s (xMove st 9) [93, 93, 62]).2) else if Lib.hasPrefix (s.drop st.i) [60, 33] = true ∨ Lib.hasPrefix (s.drop st.i) [60, 63] = true then xFail st st.i 5 else if xTake s st [60, 47] = true then xClose s (xMove st 2) st.i else if xTake s st [60] = true then xOpen s (xMove st 1) st.i else xText s st st.i := rfl
  have hdt : xTake s st [60, 33, 91, 67, 68, 65, 84, 65, 91] = false := by unfold xTake; rw [hD, Bool.and_false]
  clear hT
  cases hd : isDecl s st with
  | true =>
    rw [hd, if_pos rfl] at hX0
    rw [hd] at cD
    have HX := Lib.hid hX0
    have CD := Lib.hid cD
    have CU := Lib.hid (fun wx (hw : CurS wx b s st lv) (hx : Based b wx) => cuntil_any b s st lv [63, 62] ⟨#[63, 62]⟩ rfl wx hw hi hs2 hx)
    clear hX0 cD hd hdt hD
    go_enter Tryz.func33, Tryz.ntmps33
    go_wp2_with fail
    refine (CD.out).mono ?_
    rintro e w1 ⟨rfl, hb1⟩
    have hC1 := hC.below hb1
    have hR1 := hR.below hb1
    have hg1 := below_grows hb1 (some b)
    clear hC hb1 k1
    go_wp2_with fail
    refine (CU.out _ hC1 hR1).mono ?_
    rintro e w2 ⟨rfl, hC2, hg2⟩
    have hgz := hg1.trans hg2
    clear hg1 hg2 hC1
    have HF := Lib.hid (show ScanS w2 b s ((xUntil s st [63, 62]).1) from ⟨lv, ts, hC2, HT.out.other HC0.out hgz, hts.trans ((le_until (s := s) (st := st) [63, 62]).out).symm⟩)
    have HG := Lib.hid (low_grown hgz hbw)
    clear hC2 hgz
    go_wp2
    go_end0
    rw [HX.out]
    exact ⟨rfl, HF.out, HG.out⟩
  | false =>
    rw [hd, if_neg (by decide)] at hX0
    rw [hd] at cD
    have CD := Lib.hid cD
    have cT1 := fun wx (hw : CurS wx b s st lv) => ctake_any b s st lv [60, 33, 45, 45] ⟨#[60, 33, 45, 45]⟩ rfl wx hw hi hs2
    clear cD hd
    go_enter Tryz.func33, Tryz.ntmps33
    go_wp2_with fail
    refine (CD.out).mono ?_
    rintro e w1 ⟨rfl, hb1⟩
    have hC1 := hC.below hb1
    have hR1 := hR.below hb1
    have hg1 := below_grows hb1 (some b)
    clear hC hb1 k1 CD
    cases h1 : xTake s st [60, 33, 45, 45] with
    | true =>
      rw [h1, if_pos rfl] at hX0
      simp only [h1, if_true] at cT1
      have CT1 := Lib.hid cT1
      have hm := (le_pre (take_len h1).1).ii hi
      have CU := Lib.hid (fun wx (hw : CurS wx b s (xMove st 4) lv) (hx : Based b wx) => cuntil_any b s (xMove st 4) lv [45, 45] ⟨#[45, 45]⟩ rfl wx hw hm hs2 hx)
      have hLu : Le s (xMove st 4) (xUntil s (xMove st 4) [45, 45]).1 := le_until _
      have hui : st.i + 4 ≤ (xUntil s (xMove st 4) [45, 45]).1.i := hLu.i
      have huo : (xUntil s (xMove st 4) [45, 45]).1.out = st.out := hLu.out
      have hul := hLu.ii hm
      clear cT1 h1 hdt hD hLu
      go_wp2_with fail
      refine (CT1.out _ hC1).mono ?_
      rintro e w2 ⟨rfl, hC2, hg2⟩
      have hR2 := hR1.grown hg2
      have hgw2 := hg1.trans hg2
      clear hC1 hR1 hg1 hg2 CT1
      go_wp2_with fail
      refine (CU.out _ hC2 hR2).mono ?_
      rintro e w3 ⟨rfl, hC3, hg3⟩
      have hgw3 := hgw2.trans hg3
      clear hC2 hgw2 hg3 CU hR2
      generalize (xUntil s (xMove st 4) [45, 45]).1 = su at *
      have cF := cfine_any b s su.i su.bat su.be lv w3 hC3
      by_cases hbe : su.be = 0
      · rw [decide_eq_true hbe] at cF
        have CF := Lib.hid cF
        have cT2 := ctake_any b s su lv [62] ⟨#[62]⟩ rfl w3 hC3 hul hs2
        have hXc : xComm s su = if xTake s su [62] = true then xMove su 1 else if s.drop su.i = [] then xFail (xMiss s su) (su.i - 2) 5 else xFail su (su.i - 2) 5 := by unfold xComm; rw [if_neg (by omega)]
        rw [hXc] at hX0
        clear cF hXc
        go_wp2_with fail
        refine (CF.out).mono ?_
        rintro e w4 ⟨rfl, rfl⟩
        cases h2 : xTake s su [62] with
        | true =>
          rw [h2, if_pos rfl] at hX0
          rw [h2, if_pos rfl] at cT2
          have HX := Lib.hid hX0
          have CT2 := Lib.hid cT2
          clear cT2 hX0 h2
          go_wp2_with fail
          refine (CT2.out).mono ?_
          rintro e w5 ⟨rfl, hC5, hg5⟩
          have hgz := hgw3.trans hg5
          clear hC3 hgw3 hg5
          have HF := Lib.hid (show ScanS w5 b s (xMove su 1) from ⟨lv, ts, hC5, HT.out.other HC0.out hgz, hts.trans (huo).symm⟩)
          have HG := Lib.hid (low_grown hgz hbw)
          clear hC5 hgz
          go_wp2
          go_end0
          rw [HX.out]
          exact ⟨rfl, HF.out, HG.out⟩
        | false =>
          rw [h2, if_neg (by decide)] at hX0
          rw [h2, if_neg (by decide)] at cT2
          have CT2 := Lib.hid cT2
          clear cT2 h2
          go_wp2_with fail
          refine (CT2.out).mono ?_
          rintro e w5 ⟨rfl, hC5, hg5⟩
          have hgw5 := hgw3.trans hg5
          clear hC3 hgw3 hg5
          have cR := crest_any b s su.i su.bat su.be lv w5 hC5 hul
          by_cases hre : s.drop su.i = []
          · rw [if_pos hre] at hX0
            rw [hre] at cR
            have HX := Lib.hid hX0
            have CR := Lib.hid cR
            have CM := Lib.hid (fun wx (hw : CurS wx b s su lv) => cmissing_any b s su lv wx hw hul)
            clear cR hX0 hre
            go_wp2_with fail
            refine (CR.out).mono ?_
            rintro e w6 ⟨rfl, hb6⟩
            have hC6 := hC5.below hb6
            have hgw6 := hgw5.trans (below_grows hb6 (some b))
            clear hC5 hgw5 hb6
            go_wp2_with fail
            refine (CM.out _ hC6).mono ?_
            rintro e w7 ⟨rfl, hC7, hg7⟩
            have hgw7 := hgw6.trans hg7
            have hmi : (xMiss s su).i = su.i := miss_i
            have hC7' : CurAt w7 b s su.i (xMiss s su).bat (xMiss s su).be lv := by rw [← hmi]; exact hC7
            clear hC6 hgw6 hg7
            have kk := CurAt.c1 hC7'
            clear hC7'
            go_wp2
            go_still_tail 9, (by kernel_rfl)
            change wpList _ _ _ _ _ w7.drew
            have hbd := below_drewN w7 1
            have ed : w7.drewN 1 = w7.drew := rfl
            rw [ed] at hbd
            clear ed
            generalize w7.drew = wd at *
            have hCd := hC7.below hbd
            have hgd := hgw7.trans (below_grows hbd (some b))
            clear hC7 hgw7 hbd kk
            have cX := cfail_any b s _ lv (su.i - 2) 5 wd hCd
            have ec : (((su.i - 2) : Nat) : Int) = (((su.i) : Nat) : Int) - 2 := by omega
            rw [ec] at cX
            have e5 : ((5 : Nat) : Int) = 5 := rfl
            rw [e5] at cX
            clear e5 ec
            have CX := Lib.hid cX
            clear cX
            go_wp2_with fail
            refine (CX.out).mono ?_
            rintro e w31 ⟨rfl, hC31, hg31⟩
            have hgz := hgd.trans hg31
            clear hCd hgd hg31
            have HF := Lib.hid (show ScanS w31 b s (xFail (xMiss s su) (su.i - 2) 5) from ⟨lv, ts, hC31, HT.out.other HC0.out hgz, hts.trans ((fail_o _ _).trans ((le_miss (s := s) (st := su)).out.trans huo)).symm⟩)
            have HG := Lib.hid (low_grown hgz hbw)
            clear hC31 hgz
            go_wp2
            go_end0
            rw [HX.out]
            exact ⟨rfl, HF.out, HG.out⟩
          · rw [if_neg hre] at hX0
            have hne : ((s.drop su.i).isEmpty) = false := by rw [List.isEmpty_eq_false_iff]; exact hre
            have HX := Lib.hid hX0
            have CR := Lib.hid cR
            clear cR hX0 hre
            go_wp2_with fail
            refine (CR.out).mono ?_
            rintro e w6 ⟨rfl, hb6⟩
            have hC6 := hC5.below hb6
            have hgw6 := hgw5.trans (below_grows hb6 (some b))
            clear hC5 hgw5 hb6
            have kk := CurAt.c1 hC6
            go_wp2
            go_still_tail 9, (by kernel_rfl)
            change wpList _ _ _ _ _ w6.drew
            have hbd := below_drewN w6 1
            have ed : w6.drewN 1 = w6.drew := rfl
            rw [ed] at hbd
            clear ed
            generalize w6.drew = wd at *
            have hCd := hC6.below hbd
            have hgd := hgw6.trans (below_grows hbd (some b))
            clear hC6 hgw6 hbd kk
            have cX := cfail_any b s _ lv (su.i - 2) 5 wd hCd
            have ec : (((su.i - 2) : Nat) : Int) = (((su.i) : Nat) : Int) - 2 := by omega
            rw [ec] at cX
            have e5 : ((5 : Nat) : Int) = 5 := rfl
            rw [e5] at cX
            clear e5 ec
            have CX := Lib.hid cX
            clear cX
            go_wp2_with fail
            refine (CX.out).mono ?_
            rintro e w31 ⟨rfl, hC31, hg31⟩
            have hgz := hgd.trans hg31
            clear hCd hgd hg31
            have HF := Lib.hid (show ScanS w31 b s (xFail su (su.i - 2) 5) from ⟨lv, ts, hC31, HT.out.other HC0.out hgz, hts.trans ((fail_o _ _).trans huo).symm⟩)
            have HG := Lib.hid (low_grown hgz hbw)
            clear hC31 hgz
            go_wp2
            go_end0
            rw [HX.out]
            exact ⟨rfl, HF.out, HG.out⟩
      · rw [decide_eq_false hbe] at cF
        have hXc : xComm s su = su := by unfold xComm; rw [if_pos hbe]
        rw [hXc] at hX0
        have HX := Lib.hid hX0
        have CF := Lib.hid cF
        clear cF hXc hX0
        go_wp2_with fail
        refine (CF.out).mono ?_
        rintro e w4 ⟨rfl, rfl⟩
        have HF := Lib.hid (show ScanS w4 b s (su) from ⟨lv, ts, hC3, HT.out.other HC0.out hgw3, hts.trans (huo).symm⟩)
        have HG := Lib.hid (low_grown hgw3 hbw)
        clear hC3 hgw3
        go_wp2
        go_end0
        rw [HX.out]
        exact ⟨rfl, HF.out, HG.out⟩
    | false =>
      rw [h1, if_neg (by decide), hdt, if_neg (by decide)] at hX0
      simp only [h1, Bool.false_eq_true, if_false] at cT1
      have CT1 := Lib.hid cT1
      have cT2 := fun wx (hw : CurS wx b s st lv) => ctake_any b s st lv [60, 33, 91, 67, 68, 65, 84, 65, 91] ⟨#[60, 33, 91, 67, 68, 65, 84, 65, 91]⟩ rfl wx hw hi hs2
      simp only [hdt, Bool.false_eq_true, if_false] at cT2
      have CT2 := Lib.hid cT2
      have cP1 := fun wx (hw : CurS wx b s st lv) => csees_any b s st lv [60, 33] ⟨#[60, 33]⟩ rfl wx hw hi
      have cP2 := fun wx (hw : CurS wx b s st lv) => csees_any b s st lv [60, 63] ⟨#[60, 63]⟩ rfl wx hw hi
      have CFL := Lib.hid (fun wx (hw : CurS wx b s st lv) => cfail_any b s st lv st.i 5 wx hw)
      clear cT1 cT2 h1 hdt hD
      go_wp2_with fail
      refine (CT1.out _ hC1).mono ?_
      rintro e w2 ⟨rfl, hC2, hg2⟩
      have hR2 := hR1.grown hg2
      have hgw2 := hg1.trans hg2
      clear hC1 hR1 hg1 hg2 CT1
      go_wp2_with fail
      refine (CT2.out _ hC2).mono ?_
      rintro e w3 ⟨rfl, hC3, hg3⟩
      have hR3 := hR2.grown hg3
      have hgw3 := hgw2.trans hg3
      clear hC2 hR2 hgw2 hg3 CT2
      cases h3 : Lib.hasPrefix (s.drop st.i) [60, 33] with
      | true =>
        rw [h3] at hX0 cP1
        rw [if_pos (Or.inl rfl)] at hX0
        have HX := Lib.hid hX0
        have CP1 := Lib.hid cP1
        clear cP1 cP2 hX0 h3
        go_wp2_with fail
        refine (CP1.out _ hC3).mono ?_
        rintro e w4 ⟨rfl, hb4⟩
        have hC4 := hC3.below hb4
        have hgw4 := hgw3.trans (below_grows hb4 (some b))
        clear hC3 hgw3 hb4
        go_wp2_with fail
        refine (CFL.out _ hC4).mono ?_
        rintro e w5 ⟨rfl, hC5, hg5⟩
        have hgz := hgw4.trans hg5
        clear hC4 hgw4 hg5
        have HF := Lib.hid (show ScanS w5 b s (xFail st st.i 5) from ⟨lv, ts, hC5, HT.out.other HC0.out hgz, hts.trans (fail_o _ _).symm⟩)
        have HG := Lib.hid (low_grown hgz hbw)
        clear hC5 hgz
        go_wp2
        go_end0
        rw [HX.out]
        exact ⟨rfl, HF.out, HG.out⟩
      | false =>
        rw [h3] at hX0 cP1
        have CP1 := Lib.hid cP1
        clear cP1 h3
        go_wp2_with fail
        refine (CP1.out _ hC3).mono ?_
        rintro e w4 ⟨rfl, hb4⟩
        have hC4 := hC3.below hb4
        have hR4 := hR3.below hb4
        have hgw4 := hgw3.trans (below_grows hb4 (some b))
        clear hC3 hgw3 hb4 CP1 hR3
        cases h4 : Lib.hasPrefix (s.drop st.i) [60, 63] with
        | true =>
          rw [h4] at hX0 cP2
          rw [if_pos (Or.inr rfl)] at hX0
          have HX := Lib.hid hX0
          have CP2 := Lib.hid cP2
          clear cP2 hX0 h4
          go_wp2_with fail
          refine (CP2.out _ hC4).mono ?_
          rintro e w5 ⟨rfl, hb5⟩
          have hC5 := hC4.below hb5
          have hgw5 := hgw4.trans (below_grows hb5 (some b))
          clear hC4 hgw4 hb5
          go_wp2_with fail
          refine (CFL.out _ hC5).mono ?_
          rintro e w6 ⟨rfl, hC6, hg6⟩
          have hgz := hgw5.trans hg6
          clear hC5 hgw5 hg6
          have HF := Lib.hid (show ScanS w6 b s (xFail st st.i 5) from ⟨lv, ts, hC6, HT.out.other HC0.out hgz, hts.trans (fail_o _ _).symm⟩)
          have HG := Lib.hid (low_grown hgz hbw)
          clear hC6 hgz
          go_wp2
          go_end0
          rw [HX.out]
          exact ⟨rfl, HF.out, HG.out⟩
        | false =>
          rw [h4] at hX0 cP2
          rw [if_neg (by decide)] at hX0
          have CP2 := Lib.hid cP2
          have cT3 := fun wx (hw : CurS wx b s st lv) => ctake_any b s st lv [60, 47] ⟨#[60, 47]⟩ rfl wx hw hi hs2
          clear cP2 h4
          go_wp2_with fail
          refine (CP2.out _ hC4).mono ?_
          rintro e w5 ⟨rfl, hb5⟩
          have hC5 := hC4.below hb5
          have hR5 := hR4.below hb5
          have hgw5 := hgw4.trans (below_grows hb5 (some b))
          clear hC4 hgw4 hb5 CP2 hR4
          cases h5 : xTake s st [60, 47] with
          | true =>
            rw [h5, if_pos rfl] at hX0
            simp only [h5, if_true] at cT3
            have CT3 := Lib.hid cT3
            have hm := (le_pre (take_len h5).1).ii hi
            have CNM := Lib.hid (fun wx (hw : CurS wx b s (xMove st 2) lv) (hx : Based b wx) => name_any b s (xMove st 2) lv wx hw hm hs2 hx)
            have hXc : xClose s (xMove st 2) st.i = xPush (xNeed s (xBlank s (xName s (xMove st 2)).1) [62]) ⟨1, st.i, (xName s (xMove st 2)).2, []⟩ := rfl
            have hLn : Le s (xMove st 2) (xName s (xMove st 2)).1 := le_name
            have hni := hLn.ii hm
            have hno : (xName s (xMove st 2)).1.out = st.out := hLn.out
            have HX := Lib.hid (hX0.trans hXc)
            clear cT3 h5 hX0 hXc hLn
            go_wp2_with fail
            refine (CT3.out _ hC5).mono ?_
            rintro e w6 ⟨rfl, hC6, hg6⟩
            have hR6 := hR5.grown hg6
            have hgw6 := hgw5.trans hg6
            clear hC5 hR5 hgw5 hg6 CT3
            go_wp2_with fail
            refine (CNM.out _ hC6 hR6).mono ?_
            rintro e w7 ⟨rfl, hC7, hg7⟩
            have hR7 := hR6.grown hg7
            have hgw7 := hgw6.trans hg7
            clear hC6 hR6 hgw6 hg7 CNM
            generalize (xName s (xMove st 2)).1 = sn at *
            generalize (xName s (xMove st 2)).2 = nm at *
            have hba := (Below.refl w7.heap.size w7).alloc (Nat.le_refl _) (Obj.cells #[.int .i64 1, .int .i64 st.i, .string ⟨nm.toArray⟩, .slice none 0 0] 30)
            have hK7 := heap_alloc_new w7 (Obj.cells #[.int .i64 1, .int .i64 st.i, .string ⟨nm.toArray⟩, .slice none 0 0] 30)
            have hC8 := hC7.below hba
            have hgw8 := hgw7.trans (below_grows hba (some b))
            have hs7 := hgw7.size
            have hlk := hba.size
            have CB := Lib.hid (fun wx (hw : CurS wx b s sn lv) => cblanks_any b s sn lv wx hw hni hs2)
            have hLb : Le s sn (xBlank s sn) := le_blank
            have hbi := hLb.ii hni
            have hbo := hLb.out.trans hno
            have CN2 := Lib.hid (fun wx (hw : CurS wx b s (xBlank s sn) lv) => cneed_any b s (xBlank s sn) lv [62] ⟨#[62]⟩ rfl wx hw hbi hs2)
            have HSO : Hid ((xNeed s (xBlank s sn) [62]).out = st.out) := Lib.hid ((le_need (s := s) (st := xBlank s sn) [62]).out.trans hbo)
            have hnb : some w7.heap.size ≠ some b := by simp; omega
            have hlt := (Array.getElem?_eq_some_iff.1 hK7).1
            clear hC7 hgw7 hba hLb hbo hR7
            go_wp2_with fail
            refine (CB.out _ hC8).mono ?_
            rintro e w9 ⟨rfl, hC9, hg9⟩
            have hK9 := (hg9.block _ hlt hnb).trans hK7
            have hgw9 := hgw8.trans hg9
            have hlt9 := Nat.lt_of_lt_of_le hlt hg9.size
            clear hC8 hgw8 hg9 hK7 hlt
            go_wp2_with fail
            refine (CN2.out _ hC9).mono ?_
            rintro e w10 ⟨rfl, hC10, hg10⟩
            have hK10 := (hg10.block _ hlt9 hnb).trans hK9
            have hgw10 := hgw9.trans hg10
            clear hC9 hgw9 hg10 hK9 hlt9
            have c4z := CurAt.c4 hC10
            have b0 := blk4_c0 hK10
            have b1 := blk4_c1 hK10
            have b2 := blk4_c2 hK10
            have b3 := blk4_c3 hK10
            have hTd := HT.out.other HC0.out hgw10
            have hPb := prRow_nil b w10
            have hbd : Below w10.heap.size w10 (w10.drew) := below_drewN w10 1
            have hCd := (hC10).below hbd
            have hPd := prRow.below hPb hbd
            have hTd := (hTd).below hbd
            have hgd := (hgw10).trans (below_grows hbd (some b))
            have hWl : b < w10.heap.size := CurAt.lt hC10
            have hba := (Below.refl (w10.drew).heap.size (w10.drew)).alloc (Nat.le_refl _) (Obj.cells #[.int .i64 1, .int .i64 st.i, .string ⟨(nm).toArray⟩, .slice none 0 0] 30)
            have HCA := Lib.hid (hCd.below hba)
            have HTA := Lib.hid (hTd.below hba)
            have HPA := Lib.hid (hPd.below hba)
            have HGA := Lib.hid (hgd.trans (below_grows hba (some b)))
            have hpo := own_one hPd
            have HNC : Hid (∀ j u, (tkCells (⟨1, st.i, nm, []⟩ : Tk) (.slice none 0 0))[j]? = some u → ((w10.drew).alloc (Obj.cells #[.int .i64 1, .int .i64 st.i, .string ⟨(nm).toArray⟩, .slice none 0 0] 30)).cell? ((⟨w10.heap.size, 0, none⟩ : Addr).add j) = some u) := Lib.hid (cells_new (w10.drew) (tkCells (⟨1, st.i, nm, []⟩ : Tk) (.slice none 0 0)) 30)
            have HONE : Hid (∀ u ∈ tkCells (⟨1, st.i, nm, []⟩ : Tk) (.slice none 0 0), u.oneCell' = true) := Lib.hid (by intro u hu; simp only [tkCells, List.mem_cons, List.not_mem_nil, or_false] at hu; rcases hu with rfl | rfl | rfl | rfl <;> first | rfl | exact hpo)
            have HM1 : Hid (ts.length + 1 ≤ maxLen) := Lib.hid (by unfold maxLen; omega)
            have HM2 : Hid ((ts.length + 1) * 56 ≤ 140737488355328) := Lib.hid (by omega)
            have HBS : Hid (b ≤ ((w10.drew).alloc (Obj.cells #[.int .i64 1, .int .i64 st.i, .string ⟨(nm).toArray⟩, .slice none 0 0] 30)).heap.size) := Lib.hid (by have := hba.size; have := hbd.size; omega)
            clear hbd hCd hPd hTd hgd hba hpo
            go_wp2
            go_region_law (refine step_append_lies _ rfl _ _ 24 rfl b 30 i0 _ 4 56 Tryz.underlying24 hi0 hz0 hz1 hz2 rfl (by decide) lv _ _ (by first | rfl | simp [Act.eval, Act.put]) HTA.out.1 ⟨w10.heap.size, 0, none⟩ 1 1 (tkCells (⟨1, st.i, nm, []⟩ : Tk) (.slice none 0 0)) (by first | rfl | simp [Act.eval, Act.put]) rfl HNC.out HONE.out (by decide) HM1.out HM2.out HBS.out _ rfl ?_; intro g6 cap6 w6 hown6 hgr6 _ _; have hC6 := tokRow_cur HTA.out hgr6 HCA.out; have f4 := CurAt.fz hC6 4; have c4' := CurAt.c4 hC6; have HOWN6 := Lib.hid hown6; have HGR6 := Lib.hid hgr6; have HC6 := Lib.hid hC6; clear hown6 hgr6 hC6)
            all_goals
              have hC7 := CurAt.set4 HC6.out (.slice (some ⟨g6, 0, none⟩) (ts.length + 1) cap6)
              have hT7 := (tokRow_push (t := (⟨1, st.i, nm, []⟩ : Tk)) HTA.out HPA.out HGR6.out HOWN6.out).other HC6.out (grown_set w6 b 4 (.slice (some ⟨g6, 0, none⟩) (ts.length + 1) cap6))
              have hL7 := (low_grown HGA.out hbw).trans ((tokRow_low HTA.out HGR6.out HBS.out).trans (low_grown (grown_set w6 b 4 (.slice (some ⟨g6, 0, none⟩) (ts.length + 1) cap6)) (by have := CurAt.lt HC6.out; omega)))
              have HC7 := Lib.hid hC7
              have HT7 := Lib.hid hT7
              have HL7 := Lib.hid hL7
              clear hC7 hT7 hL7
              go_wp2
              go_end0
              rw [HX.out]
              refine ⟨rfl, ⟨_, _, HC7.out, HT7.out, ?_⟩, HL7.out⟩
              rw [List.map_append, hts]
              show _ = (xNeed s (xBlank s sn) [62]).out ++ _
              rw [HSO.out]
              rfl
          | false =>
            rw [h5, if_neg (by decide)] at hX0
            simp only [h5, Bool.false_eq_true, if_false] at cT3
            have CT3 := Lib.hid cT3
            have cT4 := fun wx (hw : CurS wx b s st lv) => ctake_any b s st lv [60] ⟨#[60]⟩ rfl wx hw hi hs2
            clear cT3 h5
            go_wp2_with fail
            refine (CT3.out _ hC5).mono ?_
            rintro e w6 ⟨rfl, hC6, hg6⟩
            have hR6 := hR5.grown hg6
            have hgw6 := hgw5.trans hg6
            clear hC5 hR5 hgw5 hg6 CT3
            cases h6 : xTake s st [60] with
            | true =>
              rw [h6, if_pos rfl] at hX0
              simp only [h6, if_true] at cT4
              have CT4 := Lib.hid cT4
              have hm := (le_pre (take_len h6).1).ii hi
              have CO := Lib.hid (fun wx (hw : ScanS wx b s (xMove st 1)) (hx : Based b wx) => xopen_any b s (xMove st 1) st.i wx hw hm hsz hx hn)
              have HX := Lib.hid hX0
              clear cT4 h6 hX0
              go_wp2_with fail
              refine (CT4.out _ hC6).mono ?_
              rintro e w7 ⟨rfl, hC7, hg7⟩
              have hR7 := hR6.grown hg7
              have hgw7 := hgw6.trans hg7
              have hS7 : ScanS w7 b s (xMove st 1) := ⟨lv, ts, hC7, HT.out.other HC0.out hgw7, hts⟩
              have hlow := low_grown hgw7 hbw
              clear hC6 hR6 hgw6 hg7 hC7 CT4 hgw7
              go_wp2_with fail
              refine (CO.out _ hS7 hR7).mono ?_
              rintro e w8 ⟨rfl, hS8, hb8⟩
              have HS8 := Lib.hid hS8
              have HB8 := Lib.hid (hlow.trans hb8)
              clear hS8 hb8 hS7 hR7 hlow
              go_wp2
              go_end0
              rw [HX.out]
              exact ⟨rfl, HS8.out, HB8.out⟩
            | false =>
              rw [h6, if_neg (by decide)] at hX0
              simp only [h6, Bool.false_eq_true, if_false] at cT4
              have CT4 := Lib.hid cT4
              have CO := Lib.hid (fun wx (hw : ScanS wx b s st) (hx : Based b wx) => xtext_any b s st st.i wx hw hi hsz hx hi hn)
              have HX := Lib.hid hX0
              clear cT4 h6 hX0
              go_wp2_with fail
              refine (CT4.out _ hC6).mono ?_
              rintro e w7 ⟨rfl, hC7, hg7⟩
              have hR7 := hR6.grown hg7
              have hgw7 := hgw6.trans hg7
              have hS7 : ScanS w7 b s st := ⟨lv, ts, hC7, HT.out.other HC0.out hgw7, hts⟩
              have hlow := low_grown hgw7 hbw
              clear hC6 hR6 hgw6 hg7 hC7 CT4 hgw7
              go_wp2_with fail
              refine (CO.out _ hS7 hR7).mono ?_
              rintro e w8 ⟨rfl, hS8, hb8⟩
              have HS8 := Lib.hid hS8
              have HB8 := Lib.hid (hlow.trans hb8)
              clear hS8 hb8 hS7 hR7 hlow
              go_wp2
              go_end0
              rw [HX.out]
              exact ⟨rfl, HS8.out, HB8.out⟩

end Go.Proofs.YtblhpkcdemefaaaGreatDoor
