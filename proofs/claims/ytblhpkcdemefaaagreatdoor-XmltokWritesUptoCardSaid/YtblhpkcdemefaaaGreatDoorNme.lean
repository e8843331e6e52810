/- Walks: xmltok's scanner.name: the name that is ahead. -/
import Derived.Test.YtblhpkcdemefaaaGreatDoorSpl
import Derived.Test.YtblhpkcdemefaaaGreatDoorCur
import Derived.Deep.RegionWith
import Derived.StillTailTactics
set_option linter.unusedVariables false
set_option linter.unusedSimpArgs false
namespace Go.Proofs.YtblhpkcdemefaaaGreatDoor
open Go.RowKit

theorem nmGo_le : ∀ (f : Nat) (l : List UInt8), l.length ≤ f → nmGo f l ≤ l.length
  | 0, l, h => by unfold nmGo; exact Nat.zero_le _
  | f + 1, l, h => by
    unfold nmGo
    split
    · exact Nat.zero_le _
    · rename_i h0
      obtain ⟨b1, b2, b3, b4⟩ := dec_bounds l h0
      split
      · have := nmGo_le f (l.drop (Lib.decodeL l).2) (by rw [List.length_drop]; omega)
        rw [List.length_drop] at this
        omega
      · exact Nat.zero_le _

theorem idx_name (l : List UInt8) : ∀ (f pos : Nat), l.length ≤ f + pos → pos ≤ l.length →
    Lib.idxFuncFrom (fun c => !nameB (c : Int)) true ⟨l.toArray⟩ f pos = if pos + nmGo f (l.drop pos) = l.length then -1 else ((pos + nmGo f (l.drop pos) : Nat) : Int)
  | 0, pos, h, hp => by
    unfold Lib.idxFuncFrom nmGo
    rw [if_pos (by omega)]
  | f + 1, pos, h, hp => by
    unfold Lib.idxFuncFrom
    by_cases hlt : pos < l.length
    · have h0 : l.drop pos ≠ [] := by
        intro e
        have := congrArg List.length e
        simp at this
        omega
      obtain ⟨b1, b2, b3, b4⟩ := dec_bounds _ h0
      rw [List.length_drop] at b3
      rw [if_pos (by rw [ba_size]; exact hlt), decode_drop]
      have e : ((⟨l.toArray⟩ : ByteArray)).data.toList.drop pos = l.drop pos := rfl
      rw [e]
      have e2 : nmGo (f + 1) (l.drop pos) = if nameB (Lib.decodeL (l.drop pos)).1 = true then (Lib.decodeL (l.drop pos)).2 + nmGo f ((l.drop pos).drop (Lib.decodeL (l.drop pos)).2) else 0 := by
        conv => lhs; unfold nmGo
        rw [if_neg h0]
      rw [e2]
      cases hn : nameB (Lib.decodeL (l.drop pos)).1 with
      | true =>
        rw [if_neg (by simp), if_pos rfl, idx_name l f (pos + (Lib.decodeL (l.drop pos)).2) (by omega) (by omega), List.drop_drop]
        have e3 : pos + ((Lib.decodeL (l.drop pos)).2 + nmGo f (l.drop (pos + (Lib.decodeL (l.drop pos)).2))) = pos + (Lib.decodeL (l.drop pos)).2 + nmGo f (l.drop (pos + (Lib.decodeL (l.drop pos)).2)) := by omega
        rw [e3]
      | false =>
        simp only [Bool.not_false, if_true, Bool.false_eq_true, if_false, Nat.add_zero]
        rw [if_neg (by omega)]
    · rw [if_neg (by rw [ba_size]; omega), List.drop_eq_nil_of_le (by omega)]
      have : nmGo (f + 1) [] = 0 := by unfold nmGo; rw [if_pos rfl]
      rw [this, if_pos (by omega)]

theorem idx_nameL (l : List UInt8) : Lib.idxFunc (fun c => !nameB (c : Int)) true ⟨l.toArray⟩ = if nmLen l = l.length then -1 else ((nmLen l : Nat) : Int) := by
  unfold Lib.idxFunc nmLen
  rw [ba_size, idx_name l l.length 0 (by omega) (by omega), List.drop_zero, Nat.zero_add]

theorem nmLen_le (l : List UInt8) : nmLen l ≤ l.length := nmGo_le _ _ (Nat.le_refl _)

theorem closure_name (w : World) : PredAtRunes Tryz.prog 109 #[] (fun c => !nameB (c : Int)) w := fun W r hr0 _ => by
  unfold FnGives
  have C := Lib.hid (part_any (r : Int))
  by_cases h : (r : Int) = 58
  · have HF : Hid ((!nameB (r : Int)) = false) := Lib.hid (by rw [h]; rfl)
    have hr : r = 58 := by omega
    subst hr
    go_enter Tryz.func109, Tryz.ntmps109
    go_wp2
    go_ret
    exact ⟨retb HF.out.symm, 0, rfl⟩
  · have HF : Hid ((!nameB (r : Int)) = !partB r) := Lib.hid (by unfold nameB; rw [decide_eq_false h, Bool.false_or])
    have i1 : ((r : Int) != 58) = true := by rw [bne_iff_ne]; exact h
    have i2 : ((r : Int) == 58) = false := by rw [beq_eq_false_iff_ne]; exact h
    clear h
    go_enter Tryz.func109, Tryz.ntmps109
    go_wp2_with fail
    refine (C.out _).mono ?_
    rintro e w1 ⟨rfl, rfl⟩
    go_wp2
    go_ret
    exact ⟨retb HF.out.symm, 0, rfl⟩

theorem eg_name : ∀ args w, (callFunc 109 args).run Tryz.prog w = .ok (.enter 109 args) w := enters_of Tryz.func109 (by kernel_rfl) rfl

theorem idxN_any (l : List UInt8) (w : World) :
    Calls Tryz.prog 108 #[.string ⟨l.toArray⟩, .func (.func 109) #[] #[]] w fun e w' => e = .returned (.int .i64 (if nmLen l = l.length then -1 else ((nmLen l : Nat) : Int))) ∧ Below w.heap.size w w' := by
  have h := Tryz.sIndexFunc 109 #[] eg_name (fun c => !nameB (c : Int)) ⟨l.toArray⟩ w (closure_name w)
  rw [idx_nameL] at h
  exact h

theorem to_slice (l : List UInt8) (n : Nat) (z : Int) (hz : z = (n : Int)) (h : n ≤ l.length) (wx : World) :
    (Instr.slice 9 (.string ⟨l.toArray⟩) none (some (.int .i64 z)) none).run Tryz.prog wx = .ok (.string ⟨(l.take n).toArray⟩) wx := by
  subst hz
  rw [run_slice_string_to_if wx 9 ⟨l.toArray⟩ .i64 _ Tryz.underlying9, if_pos (by rw [ba_size]; omega)]
  have e : ((n : Int)).toNat = n := by omega
  rw [e, extract_take l n h]

theorem dec_firstC {l : List UInt8} {c : Nat} (h : (Lib.decodeL l).1 = c) : firstB (Lib.decodeL l).1 = firstB c := by rw [h]

set_option maxHeartbeats 4000000 in
set_option maxRecDepth 100000 in
theorem name_any (b : Nat) (s : List UInt8) (st : St) (lv : Value) (w : World) (h : CurS w b s st lv) (hi : st.i ≤ s.length) (hs : s.length ≤ 2147483647) (hR : Based b w) :
    Calls Tryz.prog 66 #[.pointer (some ⟨b, 0, none⟩)] w fun e w' => e = .returned (.string ⟨(xName s st).2.toArray⟩) ∧ CurS w' b s (xName s st).1 lv ∧ w.grownBy w' (some b) := by
  have cF := cfine_any b s st.i st.bat st.be lv w h
  by_cases hbe : st.be = 0
  · rw [decide_eq_true hbe] at cF
    have CF := Lib.hid cF
    have CR := Lib.hid (fun wx (hw : CurS wx b s st lv) => crest_any b s st.i st.bat st.be lv wx hw hi)
    have CI := Lib.hid (fun wx => idxN_any (s.drop st.i) wx)
    have hle := nmLen_le (s.drop st.i)
    have hld : (s.drop st.i).length ≤ s.length - st.i := by rw [List.length_drop]; exact Nat.le_refl _
    have hrl := ba_size (s.drop st.i)
    have hX : xName s st = if nameL (s.drop st.i) = [] then (xMiss s st, []) else (xMove (if splitB (nameL (s.drop st.i)) = true then st else xFail st st.i 6) (nameL (s.drop st.i)).length, nameL (s.drop st.i)) := by
      unfold xName; rw [if_neg (by omega)]
    have hnl : nameL (s.drop st.i) = if (s.drop st.i).take (nmLen (s.drop st.i)) = [] then [] else if (((Lib.decodeL ((s.drop st.i).take (nmLen (s.drop st.i)))).1 : Nat) : Int) = 58 ∨ firstB (Lib.decodeL ((s.drop st.i).take (nmLen (s.drop st.i)))).1 = true then (s.drop st.i).take (nmLen (s.drop st.i)) else [] := rfl
    have SL := Lib.hid (fun z hz wx => to_slice (s.drop st.i) (nmLen (s.drop st.i)) z hz hle wx)
    have htk : ((s.drop st.i).take (nmLen (s.drop st.i))).length = nmLen (s.drop st.i) := by rw [List.length_take]; omega
    have CM := Lib.hid (fun wx (hw : CurS wx b s st lv) => cmissing_any b s st lv wx hw hi)
    clear cF
    generalize nameL (s.drop st.i) = nm at *
    generalize hd : s.drop st.i = d at *
    clear hd
    generalize hk : nmLen d = k at *
    generalize hq : d.take k = q at *
    clear hq hk
    -- the place: -1, or where the first other character is
    obtain ⟨z, hz⟩ : ∃ z : Int, (if k = d.length then -1 else (k : Int)) = z := ⟨_, rfl⟩
    have CI' := CI
    rw [hz] at CI'
    clear CI
    go_enter Tryz.func66, Tryz.ntmps66
    go_wp2_with fail
    refine (CF.out).mono ?_
    rintro e w1 ⟨rfl, rfl⟩
    go_wp2_with fail
    refine (CR.out _ h).mono ?_
    rintro e w2 ⟨rfl, hb2⟩
    have h2 := h.below hb2
    have hs2 := hb2.size
    go_wp2_with fail
    refine (CI'.out _).mono ?_
    rintro e w3 ⟨rfl, hb3⟩
    have h3 := h2.below hb3
    have hb23 := hb2.trans (hb3.mono hs2)
    have hs3 := hb23.size
    have hR3 := hR.below hb23
    clear h h2 hb2 hb3 hR hs2
    have hz2 : (k = d.length ∧ z = -1) ∨ (k < d.length ∧ z = (k : Int)) := by
      by_cases e : k = d.length
      · left; rw [if_pos e] at hz; exact ⟨e, hz.symm⟩
      · right; rw [if_neg e] at hz; exact ⟨by omega, hz.symm⟩
    clear hz
    rcases hz2 with ⟨hkd, rfl⟩ | ⟨hkd, rfl⟩
    · go_wp2_with fail
      refine (CR.out _ h3).mono ?_
      rintro e w4 ⟨rfl, hb4⟩
      have h4 := h3.below hb4
      have hb24 := hb23.trans (hb4.mono hs3)
      have hs4 := hb24.size
      have hR4 := hR3.below hb4
      clear hb4 h3 hR3 hb23 hs3
      have hsl := fun wx => SL.out (d.length : Int) (by omega) wx
      go_wp2_with fail
      refine (CR.out _ h4).mono ?_
      rintro e w5 ⟨rfl, hb5⟩
      have h5 := h4.below hb5
      have hb25 := hb24.trans (hb5.mono hs4)
      have hs5 := hb25.size
      have hR5 := hR4.below hb5
      have hg5 := below_grows hb25 (some b)
      clear hb5 h4 hR4 hb24 hs4
      go_wp2
      go_loopw [4] (fun v4 wr => v4 = .string ⟨q.toArray⟩ ∧ wr.heap[w5.heap.size]? = some (.stringIter ⟨q.toArray⟩ 0) ∧ Below w5.heap.size w5 wr) (fun _ _ => 0)
      case atStart =>
        refine ⟨rfl, ?_, (Below.refl _ w5).alloc (Nat.le_refl _) _⟩
        have := World.iter_heap w5 ⟨q.toArray⟩ 0
        simpa using this
      case round =>
        obtain ⟨rfl, hit, hbw⟩ := hrel
        have h6 := h5.below hbw
        have hR6 := hR5.below hbw
        have hg6 := hg5.trans (below_grows hbw (some b))
        by_cases h0 : q = []
        · have hnx : ∀ ty, (Instr.next (.pointer (some ⟨w5.heap.size, 0, none⟩)) true ty).run Tryz.prog wr = _ := fun ty => Lib.run_next_end_at wr w5.heap.size ⟨q.toArray⟩ 0 ty hit (by rw [ba_size, h0]; decide)
          have hnm : nm = [] := by rw [hnl, if_pos h0]
          subst h0
          have HX : Hid (xName s st = (xMiss s st, [])) := Lib.hid (by rw [hX, if_pos (hnm)])
          clear hX hnl
          go_wp2_with fail
          refine (CM.out _ h6).mono ?_
          rintro e w8 ⟨rfl, h8, hg8⟩
          have H8 := Lib.hid h8
          clear h8
          go_wp2
          go_ret
          rw [HX.out]
          exact ⟨rfl, H8.out, (hg6).trans hg8⟩
        · have hnx : ∀ ty, (Instr.next (.pointer (some ⟨w5.heap.size, 0, none⟩)) true ty).run Tryz.prog wr = _ := fun ty => Lib.run_next_any_at wr w5.heap.size ⟨q.toArray⟩ 0 ty hit (by rw [ba_size]; have : 0 < q.length := List.length_pos_iff.2 h0; omega)
          rw [decode_drop] at hnx
          have hstr : ((⟨q.toArray⟩ : ByteArray)).data.toList.drop 0 = q := rfl
          rw [hstr] at hnx
          clear hstr
          have hbx := Lib.below_iterAt hbw (k := w5.heap.size) (Nat.le_refl _) ⟨q.toArray⟩ (0 + (Lib.decodeL q).2)
          obtain ⟨_, _, _, hd4⟩ := dec_bounds q h0
          generalize (Lib.decodeL q).1 = c at *
          generalize (Lib.decodeL q).2 = n at *
          have h7 := h5.below hbx
          have hR7 := hR5.below hbx
          have hg7 := hg5.trans (below_grows hbx (some b))
          obtain ⟨w7, hw7⟩ : ∃ w7, w7 = wr.iterAt w5.heap.size ⟨q.toArray⟩ (0 + n) := ⟨_, rfl⟩
          rw [← hw7] at hnx h7 hR7 hg7
          clear hw7 hbx h6 hR6 hg6 hbw h5 hR5 hg5 hit
          have hemp : q.isEmpty = false := by rw [List.isEmpty_eq_false_iff]; exact h0
          by_cases h58 : (c : Int) = 58
          · have hc : c = 58 := by omega
            subst hc
            have hnm : nm = q := by rw [hnl, if_neg h0, if_pos (Or.inl (by decide))]
            subst hnm
            rw [if_neg h0] at hX
            have hRW := hR7
            have cS := split_any nm ⟨nm.toArray⟩ rfl _ (by omega) hRW.ready
            cases hsp : splitB nm with
            | true =>
              rw [splitRes_ok (a := (splitR nm).1) (b := (splitR nm).2) hsp rfl] at cS
              rw [hsp, if_pos rfl] at hX
              have CS := Lib.hid cS
              have HX := Lib.hid hX
              clear hX hnl cS hsp
              go_wp2_with fail
              refine (CS.out).mono ?_
              rintro e w8 ⟨rfl, hb8⟩
              have h8 := (h7).below hb8
              have k1 := CurAt.c1 h8
              have f1 := CurAt.fz h8 1
              have H8 := Lib.hid h8
              clear h8
              go_wp2
              go_ret
              rw [HX.out]
              refine ⟨rfl, ?_, (hg7).trans ((below_grows hb8 _).trans (grown_set _ b 1 _))⟩
              exact CurAt.set1 H8.out (st.i + nm.length) _ (by omega)
            | false =>
              rw [splitRes_bad hsp] at cS
              rw [hsp, if_neg (by decide)] at hX
              have CS := Lib.hid cS
              have HX := Lib.hid hX
              have CFL := Lib.hid (fun wx (hw : CurS wx b s st lv) => cfail_any b s st lv st.i 6 wx hw)
              clear hX hnl cS hsp
              go_wp2_with fail
              refine (CS.out).mono ?_
              rintro e w8 ⟨rfl, hb8⟩
              have h8 := (h7).below hb8
              have k1 := CurAt.c1 h8
              have H8 := Lib.hid h8
              clear h8
              go_wp2
              go_still_tail 9, (by kernel_rfl)
              change wpList _ _ _ _ _ w8.drew
              have h9 := H8.out.below (below_drewN w8 1)
              have HB9 := Lib.hid (below_drewN w8 1)
              have e9 : w8.drewN 1 = w8.drew := rfl
              rw [e9] at h9 HB9
              clear e9
              generalize w8.drew = w9 at *
              go_wp2_with fail
              refine (CFL.out _ h9).mono ?_
              rintro e w10 ⟨rfl, h10, hg10⟩
              have hfx : xFail st st.i 6 = ⟨st.i, st.i, 6, st.out⟩ := if_pos hbe
              rw [hfx] at h10
              have k1 := CurAt.c1 h10
              have f1 := CurAt.fz h10 1
              have H10 := Lib.hid h10
              clear h10 h9
              go_wp2
              go_ret
              rw [HX.out, hfx]
              refine ⟨rfl, ?_, (hg7).trans ((below_grows hb8 _).trans ((below_grows HB9.out _).trans (hg10.trans (grown_set _ b 1 _))))⟩
              exact CurAt.set1 H10.out (st.i + nm.length) _ (by show _ = _; omega)
          · have i58 : ((c : Int) != 58) = true := by rw [bne_iff_ne]; exact h58
            have i58' : ((c : Int) == 58) = false := by rw [beq_eq_false_iff_ne]; exact h58
            have cA := start_any (c : Int)
            cases hf : firstB (c : Int) with
            | true =>
              rw [hf] at cA
              have CA := Lib.hid cA
              clear cA
              go_wp2_with fail
              refine (CA.out _).mono ?_
              rintro e w7' ⟨rfl, rfl⟩
              have hnm : nm = q := by rw [hnl, if_neg h0, if_pos (Or.inr hf)]
              subst hnm
              rw [if_neg h0] at hX
              have hRW := hR7
              have cS := split_any nm ⟨nm.toArray⟩ rfl _ (by omega) hRW.ready
              cases hsp : splitB nm with
              | true =>
                rw [splitRes_ok (a := (splitR nm).1) (b := (splitR nm).2) hsp rfl] at cS
                rw [hsp, if_pos rfl] at hX
                have CS := Lib.hid cS
                have HX := Lib.hid hX
                clear hX hnl cS hsp
                go_wp2_with fail
                refine (CS.out).mono ?_
                rintro e w8 ⟨rfl, hb8⟩
                have h8 := (h7).below hb8
                have k1 := CurAt.c1 h8
                have f1 := CurAt.fz h8 1
                have H8 := Lib.hid h8
                clear h8
                go_wp2
                go_ret
                rw [HX.out]
                refine ⟨rfl, ?_, (hg7).trans ((below_grows hb8 _).trans (grown_set _ b 1 _))⟩
                exact CurAt.set1 H8.out (st.i + nm.length) _ (by omega)
              | false =>
                rw [splitRes_bad hsp] at cS
                rw [hsp, if_neg (by decide)] at hX
                have CS := Lib.hid cS
                have HX := Lib.hid hX
                have CFL := Lib.hid (fun wx (hw : CurS wx b s st lv) => cfail_any b s st lv st.i 6 wx hw)
                clear hX hnl cS hsp
                go_wp2_with fail
                refine (CS.out).mono ?_
                rintro e w8 ⟨rfl, hb8⟩
                have h8 := (h7).below hb8
                have k1 := CurAt.c1 h8
                have H8 := Lib.hid h8
                clear h8
                go_wp2
                go_still_tail 9, (by kernel_rfl)
                change wpList _ _ _ _ _ w8.drew
                have h9 := H8.out.below (below_drewN w8 1)
                have HB9 := Lib.hid (below_drewN w8 1)
                have e9 : w8.drewN 1 = w8.drew := rfl
                rw [e9] at h9 HB9
                clear e9
                generalize w8.drew = w9 at *
                go_wp2_with fail
                refine (CFL.out _ h9).mono ?_
                rintro e w10 ⟨rfl, h10, hg10⟩
                have hfx : xFail st st.i 6 = ⟨st.i, st.i, 6, st.out⟩ := if_pos hbe
                rw [hfx] at h10
                have k1 := CurAt.c1 h10
                have f1 := CurAt.fz h10 1
                have H10 := Lib.hid h10
                clear h10 h9
                go_wp2
                go_ret
                rw [HX.out, hfx]
                refine ⟨rfl, ?_, (hg7).trans ((below_grows hb8 _).trans ((below_grows HB9.out _).trans (hg10.trans (grown_set _ b 1 _))))⟩
                exact CurAt.set1 H10.out (st.i + nm.length) _ (by show _ = _; omega)
            | false =>
              rw [hf] at cA
              have CA := Lib.hid cA
              clear cA
              go_wp2_with fail
              refine (CA.out _).mono ?_
              rintro e w7' ⟨rfl, rfl⟩
              have hnm : nm = [] := by rw [hnl, if_neg h0, if_neg (by rw [hf]; simp; exact h58)]
              have HX : Hid (xName s st = (xMiss s st, [])) := Lib.hid (by rw [hX, if_pos (hnm)])
              clear hX hnl
              go_wp2_with fail
              refine (CM.out _ h7).mono ?_
              rintro e w8 ⟨rfl, h8, hg8⟩
              have H8 := Lib.hid h8
              clear h8
              go_wp2
              go_ret
              rw [HX.out]
              exact ⟨rfl, H8.out, (hg7).trans hg8⟩
    · have hsl := fun wx => SL.out (k : Int) rfl wx
      go_wp2_with fail
      refine (CR.out _ h3).mono ?_
      rintro e w5 ⟨rfl, hb5⟩
      have h5 := h3.below hb5
      have hb25 := hb23.trans (hb5.mono hs3)
      have hs5 := hb25.size
      have hR5 := hR3.below hb5
      have hg5 := below_grows hb25 (some b)
      clear hb5 h3 hR3 hb23 hs3
      go_wp2
      go_loopw [4] (fun v4 wr => v4 = .string ⟨q.toArray⟩ ∧ wr.heap[w5.heap.size]? = some (.stringIter ⟨q.toArray⟩ 0) ∧ Below w5.heap.size w5 wr) (fun _ _ => 0)
      case atStart =>
        refine ⟨rfl, ?_, (Below.refl _ w5).alloc (Nat.le_refl _) _⟩
        have := World.iter_heap w5 ⟨q.toArray⟩ 0
        simpa using this
      case round =>
        obtain ⟨rfl, hit, hbw⟩ := hrel
        have h6 := h5.below hbw
        have hR6 := hR5.below hbw
        have hg6 := hg5.trans (below_grows hbw (some b))
        by_cases h0 : q = []
        · have hnx : ∀ ty, (Instr.next (.pointer (some ⟨w5.heap.size, 0, none⟩)) true ty).run Tryz.prog wr = _ := fun ty => Lib.run_next_end_at wr w5.heap.size ⟨q.toArray⟩ 0 ty hit (by rw [ba_size, h0]; decide)
          have hnm : nm = [] := by rw [hnl, if_pos h0]
          subst h0
          have HX : Hid (xName s st = (xMiss s st, [])) := Lib.hid (by rw [hX, if_pos (hnm)])
          clear hX hnl
          go_wp2_with fail
          refine (CM.out _ h6).mono ?_
          rintro e w8 ⟨rfl, h8, hg8⟩
          have H8 := Lib.hid h8
          clear h8
          go_wp2
          go_ret
          rw [HX.out]
          exact ⟨rfl, H8.out, (hg6).trans hg8⟩
        · have hnx : ∀ ty, (Instr.next (.pointer (some ⟨w5.heap.size, 0, none⟩)) true ty).run Tryz.prog wr = _ := fun ty => Lib.run_next_any_at wr w5.heap.size ⟨q.toArray⟩ 0 ty hit (by rw [ba_size]; have : 0 < q.length := List.length_pos_iff.2 h0; omega)
          rw [decode_drop] at hnx
          have hstr : ((⟨q.toArray⟩ : ByteArray)).data.toList.drop 0 = q := rfl
          rw [hstr] at hnx
          clear hstr
          have hbx := Lib.below_iterAt hbw (k := w5.heap.size) (Nat.le_refl _) ⟨q.toArray⟩ (0 + (Lib.decodeL q).2)
          obtain ⟨_, _, _, hd4⟩ := dec_bounds q h0
          generalize (Lib.decodeL q).1 = c at *
          generalize (Lib.decodeL q).2 = n at *
          have h7 := h5.below hbx
          have hR7 := hR5.below hbx
          have hg7 := hg5.trans (below_grows hbx (some b))
          obtain ⟨w7, hw7⟩ : ∃ w7, w7 = wr.iterAt w5.heap.size ⟨q.toArray⟩ (0 + n) := ⟨_, rfl⟩
          rw [← hw7] at hnx h7 hR7 hg7
          clear hw7 hbx h6 hR6 hg6 hbw h5 hR5 hg5 hit
          have hemp : q.isEmpty = false := by rw [List.isEmpty_eq_false_iff]; exact h0
          by_cases h58 : (c : Int) = 58
          · have hc : c = 58 := by omega
            subst hc
            have hnm : nm = q := by rw [hnl, if_neg h0, if_pos (Or.inl (by decide))]
            subst hnm
            rw [if_neg h0] at hX
            have hRW := hR7
            have cS := split_any nm ⟨nm.toArray⟩ rfl _ (by omega) hRW.ready
            cases hsp : splitB nm with
            | true =>
              rw [splitRes_ok (a := (splitR nm).1) (b := (splitR nm).2) hsp rfl] at cS
              rw [hsp, if_pos rfl] at hX
              have CS := Lib.hid cS
              have HX := Lib.hid hX
              clear hX hnl cS hsp
              go_wp2_with fail
              refine (CS.out).mono ?_
              rintro e w8 ⟨rfl, hb8⟩
              have h8 := (h7).below hb8
              have k1 := CurAt.c1 h8
              have f1 := CurAt.fz h8 1
              have H8 := Lib.hid h8
              clear h8
              go_wp2
              go_ret
              rw [HX.out]
              refine ⟨rfl, ?_, (hg7).trans ((below_grows hb8 _).trans (grown_set _ b 1 _))⟩
              exact CurAt.set1 H8.out (st.i + nm.length) _ (by omega)
            | false =>
              rw [splitRes_bad hsp] at cS
              rw [hsp, if_neg (by decide)] at hX
              have CS := Lib.hid cS
              have HX := Lib.hid hX
              have CFL := Lib.hid (fun wx (hw : CurS wx b s st lv) => cfail_any b s st lv st.i 6 wx hw)
              clear hX hnl cS hsp
              go_wp2_with fail
              refine (CS.out).mono ?_
              rintro e w8 ⟨rfl, hb8⟩
              have h8 := (h7).below hb8
              have k1 := CurAt.c1 h8
              have H8 := Lib.hid h8
              clear h8
              go_wp2
              go_still_tail 9, (by kernel_rfl)
              change wpList _ _ _ _ _ w8.drew
              have h9 := H8.out.below (below_drewN w8 1)
              have HB9 := Lib.hid (below_drewN w8 1)
              have e9 : w8.drewN 1 = w8.drew := rfl
              rw [e9] at h9 HB9
              clear e9
              generalize w8.drew = w9 at *
              go_wp2_with fail
              refine (CFL.out _ h9).mono ?_
              rintro e w10 ⟨rfl, h10, hg10⟩
              have hfx : xFail st st.i 6 = ⟨st.i, st.i, 6, st.out⟩ := if_pos hbe
              rw [hfx] at h10
              have k1 := CurAt.c1 h10
              have f1 := CurAt.fz h10 1
              have H10 := Lib.hid h10
              clear h10 h9
              go_wp2
              go_ret
              rw [HX.out, hfx]
              refine ⟨rfl, ?_, (hg7).trans ((below_grows hb8 _).trans ((below_grows HB9.out _).trans (hg10.trans (grown_set _ b 1 _))))⟩
              exact CurAt.set1 H10.out (st.i + nm.length) _ (by show _ = _; omega)
          · have i58 : ((c : Int) != 58) = true := by rw [bne_iff_ne]; exact h58
            have i58' : ((c : Int) == 58) = false := by rw [beq_eq_false_iff_ne]; exact h58
            have cA := start_any (c : Int)
            cases hf : firstB (c : Int) with
            | true =>
              rw [hf] at cA
              have CA := Lib.hid cA
              clear cA
              go_wp2_with fail
              refine (CA.out _).mono ?_
              rintro e w7' ⟨rfl, rfl⟩
              have hnm : nm = q := by rw [hnl, if_neg h0, if_pos (Or.inr hf)]
              subst hnm
              rw [if_neg h0] at hX
              have hRW := hR7
              have cS := split_any nm ⟨nm.toArray⟩ rfl _ (by omega) hRW.ready
              cases hsp : splitB nm with
              | true =>
                rw [splitRes_ok (a := (splitR nm).1) (b := (splitR nm).2) hsp rfl] at cS
                rw [hsp, if_pos rfl] at hX
                have CS := Lib.hid cS
                have HX := Lib.hid hX
                clear hX hnl cS hsp
                go_wp2_with fail
                refine (CS.out).mono ?_
                rintro e w8 ⟨rfl, hb8⟩
                have h8 := (h7).below hb8
                have k1 := CurAt.c1 h8
                have f1 := CurAt.fz h8 1
                have H8 := Lib.hid h8
                clear h8
                go_wp2
                go_ret
                rw [HX.out]
                refine ⟨rfl, ?_, (hg7).trans ((below_grows hb8 _).trans (grown_set _ b 1 _))⟩
                exact CurAt.set1 H8.out (st.i + nm.length) _ (by omega)
              | false =>
                rw [splitRes_bad hsp] at cS
                rw [hsp, if_neg (by decide)] at hX
                have CS := Lib.hid cS
                have HX := Lib.hid hX
                have CFL := Lib.hid (fun wx (hw : CurS wx b s st lv) => cfail_any b s st lv st.i 6 wx hw)
                clear hX hnl cS hsp
                go_wp2_with fail
                refine (CS.out).mono ?_
                rintro e w8 ⟨rfl, hb8⟩
                have h8 := (h7).below hb8
                have k1 := CurAt.c1 h8
                have H8 := Lib.hid h8
                clear h8
                go_wp2
                go_still_tail 9, (by kernel_rfl)
                change wpList _ _ _ _ _ w8.drew
                have h9 := H8.out.below (below_drewN w8 1)
                have HB9 := Lib.hid (below_drewN w8 1)
                have e9 : w8.drewN 1 = w8.drew := rfl
                rw [e9] at h9 HB9
                clear e9
                generalize w8.drew = w9 at *
                go_wp2_with fail
                refine (CFL.out _ h9).mono ?_
                rintro e w10 ⟨rfl, h10, hg10⟩
                have hfx : xFail st st.i 6 = ⟨st.i, st.i, 6, st.out⟩ := if_pos hbe
                rw [hfx] at h10
                have k1 := CurAt.c1 h10
                have f1 := CurAt.fz h10 1
                have H10 := Lib.hid h10
                clear h10 h9
                go_wp2
                go_ret
                rw [HX.out, hfx]
                refine ⟨rfl, ?_, (hg7).trans ((below_grows hb8 _).trans ((below_grows HB9.out _).trans (hg10.trans (grown_set _ b 1 _))))⟩
                exact CurAt.set1 H10.out (st.i + nm.length) _ (by show _ = _; omega)
            | false =>
              rw [hf] at cA
              have CA := Lib.hid cA
              clear cA
              go_wp2_with fail
              refine (CA.out _).mono ?_
              rintro e w7' ⟨rfl, rfl⟩
              have hnm : nm = [] := by rw [hnl, if_neg h0, if_neg (by rw [hf]; simp; exact h58)]
              have HX : Hid (xName s st = (xMiss s st, [])) := Lib.hid (by rw [hX, if_pos (hnm)])
              clear hX hnl
              go_wp2_with fail
              refine (CM.out _ h7).mono ?_
              rintro e w8 ⟨rfl, h8, hg8⟩
              have H8 := Lib.hid h8
              clear h8
              go_wp2
              go_ret
              rw [HX.out]
              exact ⟨rfl, H8.out, (hg7).trans hg8⟩
  · rw [decide_eq_false hbe] at cF
    have CF := Lib.hid cF
    have HX : Hid (xName s st = (st, [])) := Lib.hid (by unfold xName; rw [if_pos hbe])
    have H := Lib.hid h
    clear cF h hbe
    go_enter Tryz.func66, Tryz.ntmps66
    go_wp2_with fail
    refine (CF.out).mono ?_
    rintro e w1 ⟨rfl, rfl⟩
    go_wp2
    go_ret
    rw [HX.out]
    exact ⟨rfl, H.out, grown_refl _ _⟩

end Go.Proofs.YtblhpkcdemefaaaGreatDoor
