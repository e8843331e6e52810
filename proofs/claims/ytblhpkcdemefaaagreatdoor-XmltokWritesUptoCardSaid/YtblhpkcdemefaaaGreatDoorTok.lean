/- Walks: xmltok.Tokens. -/
import Derived.Test.YtblhpkcdemefaaaGreatDoorXr
set_option linter.unusedVariables false
set_option linter.unusedSimpArgs false
namespace Go.Proofs.YtblhpkcdemefaaaGreatDoor
open Go.RowKit

theorem bytesAt_kept {w w' : World} {b off : Nat} {l : List UInt8} (h : bytesAt w b off l) (hb : Below w.heap.size w w') : bytesAt w' b off l := fun j hj =>
  (hb.cell (p := ⟨b, off + j, none⟩) (Lib.lt_of_cell (h j hj))).trans (h j hj)

/-- The scanner's step, wherever it stands in the text. -/
def OneC (s : List UInt8) : Prop := ∀ (b : Nat) (st : St) (w : World), ScanS w b s st → st.i ≤ s.length → s.length ≤ 1000000000 → Based b w → st.out.length ≤ 1000000000 →
  Calls Tryz.prog 33 #[.pointer (some ⟨b, 0, none⟩)] w fun e w' => e = .returned (.tuple #[]) ∧ ScanS w' b s (xOne s st) ∧ Below b w w'

theorem oneC_free {s : List UInt8} (h : ∀ i, Lib.hasPrefix (s.drop i) [60, 33, 91, 67, 68, 65, 84, 65, 91] = false) : OneC s :=
  fun b st w h1 h2 h3 h4 h5 => xone_any b s st w h1 h2 h3 h4 h5 (h st.i)

def curE (w : World) (b : Nat) : Nat := match w.cell? ⟨b, 3, none⟩ with | some (.int _ z) => z.toNat | _ => 0
theorem curE_eq {w : World} {b : Nat} {s : List UInt8} {st : St} {lv : Value} (h : CurS w b s st lv) : curE w b = st.be := by
  unfold curE; rw [CurAt.c3 h]; simp

set_option maxHeartbeats 8000000 in
set_option maxRecDepth 100000 in
theorem tokens_any (l : List UInt8) (bb off cap : Nat) (w : World) (hl : l.length ≤ 2147483647) (hR : Ready w) (hm : bytesAt w bb off l) (hO : OneC l) :
    Calls Tryz.prog 12 #[.slice (some ⟨bb, off, none⟩) l.length cap] w fun e w' => ∃ v ts, e = .returned (.tuple #[v, .int .i64 (tokL l).2.1, .int .i64 (tokL l).2.2]) ∧ TokRow w.heap.size w' v ts ∧ ts.map (·.1) = (tokL l).1 ∧ Below w.heap.size w w' := by
  by_cases h1 : 16777216 < l.length
  · have hT : tokL l = ([], 0, 19) := by unfold tokL; rw [if_pos h1]
    have HT := Lib.hid hT
    have i1 : (16777216 : Int) < (l.length : Int) := by omega
    go_enter Tryz.func12, Tryz.ntmps12
    go_wp2
    go_ret3
    rw [HT.out]
    exact ⟨.slice none 0 0, [], rfl, ⟨World.ownsRow_nil _ _ _ _, fun x hx => (List.not_mem_nil hx).elim⟩, rfl, Below.refl _ _⟩
  · have i1 : ¬ ((16777216 : Int) < (l.length : Int)) := by omega
    have cC := check_any l bb off cap w hl hR hm
    have hT : tokL l = if (checkL l).2 = false then ([], (checkL l).1, 4) else if (xAll l).be ≠ 0 then ([], (xAll l).bat, (xAll l).be) else ((xAll l).out, l.length, 0) := by unfold tokL; rw [if_neg h1]
    have HM := Lib.hid hm
    clear hm
    generalize checkL l = ck at *
    obtain ⟨p, ok⟩ := ck
    cases ok with
    | false =>
      rw [checkRes_bad] at cC
      rw [if_pos rfl] at hT
      have HT := Lib.hid hT
      have CC := Lib.hid cC
      clear hT cC
      go_enter Tryz.func12, Tryz.ntmps12
      go_wp2_with fail
      refine (CC.out).mono ?_
      rintro e w1 ⟨rfl, hb1⟩
      go_wp2
      go_ret3
      rw [HT.out]
      exact ⟨.slice none 0 0, [], rfl, ⟨World.ownsRow_nil _ _ _ _, fun x hx => (List.not_mem_nil hx).elim⟩, rfl, hb1⟩
    | true =>
      rw [checkRes_ok] at cC
      rw [if_neg (by simp)] at hT
      have HT := Lib.hid hT
      have CC := Lib.hid cC
      clear hT cC
      go_enter Tryz.func12, Tryz.ntmps12
      go_wp2_with fail
      refine (CC.out).mono ?_
      rintro e w1 ⟨rfl, hb1⟩
      have hcv := conv_str l bb off cap l.length rfl w1 (bytesAt_kept HM.out hb1)
      have hs1 := hb1.size
      have hR1 := hR.below hb1
      have hba := (Below.refl w1.heap.size w1).alloc (Nat.le_refl _) (Obj.cells #[.string ⟨l.toArray⟩, .int .i64 0, .int .i64 0, .int .i64 0, .slice none 0 0] 72)
      have hC : CurS ((w1.alloc (Obj.cells #[.string ⟨l.toArray⟩, .int .i64 0, .int .i64 0, .int .i64 0, .slice none 0 0] 72))) w1.heap.size l ⟨0, 0, 0, []⟩ (.slice none 0 0) := heap_alloc_new w1 _
      have hS : ScanS ((w1.alloc (Obj.cells #[.string ⟨l.toArray⟩, .int .i64 0, .int .i64 0, .int .i64 0, .slice none 0 0] 72))) w1.heap.size l ⟨0, 0, 0, []⟩ := ⟨_, [], hC, ⟨World.ownsRow_nil _ _ _ _, fun x hx => (List.not_mem_nil hx).elim⟩, rfl⟩
      have hBa : Based w1.heap.size (w1.alloc (Obj.cells #[.string ⟨l.toArray⟩, .int .i64 0, .int .i64 0, .int .i64 0, .slice none 0 0] 72)) := ⟨w1, hR1, Nat.le_refl _, hba.size, hba⟩
      have hbw : Below w.heap.size w (w1.alloc (Obj.cells #[.string ⟨l.toArray⟩, .int .i64 0, .int .i64 0, .int .i64 0, .slice none 0 0] 72)) := hb1.trans (hba.mono hs1)
      clear hC hba hb1 CC
      go_wp2
      go_loopw [] (fun wr => ∃ st f, ScanS wr w1.heap.size l st ∧ Based w1.heap.size wr ∧ Below w.heap.size w wr ∧ xAll l = xLoop l f st ∧ (st.be = 0 → l.length + 1 ≤ f + st.i) ∧ st.i ≤ l.length ∧ (st.be = 0 → st.out.length ≤ st.i)) (fun wr => 2 * (l.length - curI wr w1.heap.size) + (if curE wr w1.heap.size = 0 then 1 else 0))
      case atStart => exact ⟨⟨0, 0, 0, []⟩, l.length + 1, hS, hBa, hbw, rfl, fun _ => by simp, Nat.zero_le _, fun _ => Nat.zero_le _⟩
      case round =>
        obtain ⟨st, f, hS, hB, hbr, hchk, hfu, hi, hout⟩ := hrel
        obtain ⟨lv, ts, hC, hTR, hts⟩ := hS
        have cF := cfine_any w1.heap.size l st.i st.bat st.be lv wr hC
        by_cases hbe : st.be = 0
        · rw [decide_eq_true hbe] at cF
          have CF := Lib.hid cF
          have cR := crest_any w1.heap.size l st.i st.bat st.be lv wr hC hi
          have hszr := CurAt.lt hC
          by_cases hre : l.drop st.i = []
          · rw [hre] at cR
            have CR := Lib.hid cR
            have hA : xAll l = st := hchk.trans (loop_stop (Or.inr hre))
            have HF : Hid (tokL l = (st.out, l.length, 0)) := Lib.hid (by rw [HT.out, hA, if_neg (fun h => h hbe)])
            clear cF cR hchk hfu hout hre hA
            go_wp2_with fail
            refine (CF.out).mono ?_
            rintro e w2 ⟨rfl, rfl⟩
            go_wp2_with fail
            refine (CR.out).mono ?_
            rintro e w3 ⟨rfl, hb3⟩
            have hC3 := hC.below hb3
            have hT3 := hTR.below hb3
            have cF3 := Lib.hid (cfine_any w1.heap.size l st.i st.bat st.be lv w3 hC3)
            have c4 := CurAt.c4 hC3
            have hd1 : decide (st.be = 0) = true := decide_eq_true hbe
            rw [hd1] at cF3
            clear hC
            go_wp2_with fail
            refine (cF3.out).mono ?_
            rintro e w4 ⟨rfl, rfl⟩
            go_wp2
            go_ret3
            rw [HF.out]
            exact ⟨lv, ts, rfl, ⟨own_base hT3.1 hs1, fun x hx => own_base (hT3.2 x hx) hs1⟩, hts, hbr.trans (hb3.mono hbr.size)⟩
          · have hne : ((l.drop st.i).isEmpty) = false := by rw [List.isEmpty_eq_false_iff]; exact hre
            have CR := Lib.hid cR
            have CO := Lib.hid (fun wx (hw : ScanS wx w1.heap.size l st) (hx : Based w1.heap.size wx) => hO w1.heap.size st wx hw hi (by omega) hx (by have := hout hbe; omega))
            have hL : Lt l 1 st (xOne l st) := lt_one
            have hor := one_or (s := l) hbe hre
            have hA := hchk.trans (loop_next (by have := hfu hbe; omega) hbe hre)
            have HI0 := Lib.hid (curI_eq hC)
            have HE0 := Lib.hid (curE_eq hC)
            clear cF cR hchk hre
            go_wp2_with fail
            refine (CF.out).mono ?_
            rintro e w2 ⟨rfl, rfl⟩
            go_wp2_with fail
            refine (CR.out).mono ?_
            rintro e w3 ⟨rfl, hb3⟩
            have hS3 : ScanS w3 w1.heap.size l st := ⟨lv, ts, hC.below hb3, hTR.below hb3, hts⟩
            have hB3 := hB.below hb3
            have hs3 := hb3.size
            have hbr3 := hbr.trans (hb3.mono hbr.size)
            clear hC hB hTR hb3
            go_wp2_with fail
            refine (CO.out _ hS3 hB3).mono ?_
            rintro e w4 ⟨rfl, hS4, hb4⟩
            have HS4 := Lib.hid hS4
            have HB4 := Lib.hid (hB3.belowb hb4)
            have HBR4 := Lib.hid (hbr3.trans (hb4.mono hs1))
            clear hS4 hB3 hb4 hbr3 hS3
            go_wp2
            go_roundw
            case rel =>
              refine ⟨xOne l st, f - 1, HS4.out, HB4.out, HBR4.out, hA, fun h0 => ?_, hL.ii hi, fun h0 => ?_⟩
              · have := hfu hbe
                rcases hor with h | h
                · exact absurd h0 h
                · omega
              · have := hout hbe
                have := hL.out
                rcases hor with h | h
                · exact absurd h0 h
                · omega
            case measure =>
              obtain ⟨lv', ts', hC', _⟩ := HS4.out
              rw [curI_eq hC', curE_eq hC', HI0.out, HE0.out, if_pos hbe]
              have := hL.ii hi
              have := hL.i
              rcases hor with h | h
              · rw [if_neg h]; omega
              · split <;> omega
        · rw [decide_eq_false hbe] at cF
          have CF := Lib.hid cF
          have hA : xAll l = st := hchk.trans (loop_stop (Or.inl hbe))
          have HF : Hid (tokL l = ([], st.bat, st.be)) := Lib.hid (by rw [HT.out, hA, if_pos hbe])
          have cF2 := cfine_any w1.heap.size l st.i st.bat st.be lv wr hC
          rw [decide_eq_false hbe] at cF2
          have CF2 := Lib.hid cF2
          have c2 := CurAt.c2 hC
          have c3 := CurAt.c3 hC
          clear cF cF2 hchk hfu hout hA hbe
          go_wp2_with fail
          refine (CF.out).mono ?_
          rintro e w2 ⟨rfl, rfl⟩
          go_wp2_with fail
          refine (CF2.out).mono ?_
          rintro e w3 ⟨rfl, rfl⟩
          go_wp2
          go_quiet (fail)
          all_goals try go_wp2
          go_ret3
          rw [HF.out]
          exact ⟨.slice none 0 0, [], rfl, ⟨World.ownsRow_nil _ _ _ _, fun x hx => (List.not_mem_nil hx).elim⟩, rfl, hbr.trans ((below_drewN _ _).mono hbr.size)⟩

end Go.Proofs.YtblhpkcdemefaaaGreatDoor
