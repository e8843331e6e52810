/- Walks: xmltok's scanner.open: a tag that opens. -/
import Derived.Test.YtblhpkcdemefaaaGreatDoorScn
import Derived.Deep.LoopGhost
import Derived.Deep.RegionLaw
import Derived.Deep.AppendLies
set_option linter.unusedVariables false
set_option linter.unusedSimpArgs false
namespace Go.Proofs.YtblhpkcdemefaaaGreatDoor
open Go.RowKit

section
variable {w : World} {a : Nat} {x y z u : Value} {T : TypeId} {fr : Nat × Nat}
theorem blk4_c0 (h : w.heap[a]? = some (.cells #[x, y, z, u] T fr)) : w.cell? ⟨a, 0, none⟩ = some x := by simp [World.cell?, h]
theorem blk4_c1 (h : w.heap[a]? = some (.cells #[x, y, z, u] T fr)) : w.cell? ⟨a, 1, none⟩ = some y := by simp [World.cell?, h]
theorem blk4_c2 (h : w.heap[a]? = some (.cells #[x, y, z, u] T fr)) : w.cell? ⟨a, 2, none⟩ = some z := by simp [World.cell?, h]
theorem blk4_c3 (h : w.heap[a]? = some (.cells #[x, y, z, u] T fr)) : w.cell? ⟨a, 3, none⟩ = some u := by simp [World.cell?, h]
end

theorem blk4_c3a {w : World} {a : Nat} {x y z u : Value} {T : TypeId} {fr : Nat × Nat} (h : w.heap[a]? = some (.cells #[x, y, z, u] T fr)) (o : Obj) : (w.alloc o).cell? ⟨a, 3, none⟩ = some u :=
  blk4_c3 ((heap_alloc_old w o (Array.getElem?_eq_some_iff.1 h).1).trans h)

theorem own_base {w : World} {base base' size n : Nat} {e : TypeId} {v : Value} {xs : List Value} (h : w.ownsRow base e size v n xs) (hb : base' ≤ base) : w.ownsRow base' e size v n xs := by
  refine ⟨h.1, ?_⟩
  rcases h.2 with h | ⟨g, cap, cur, hv, h1, r⟩
  · exact Or.inl h
  · exact Or.inr ⟨g, cap, cur, hv, Nat.le_trans hb h1, r⟩

theorem blk_row {w w' : World} {k B n : Nat} {v : Value} {xs : List Value} {c : Array Value} {fr : Nat × Nat} (hk : w.heap[k]? = some (.cells c 30 fr)) (hr : w.ownsRow B 32 3 v n xs) (hg : w.grownBy w' v.ownBlock) : w'.heap[k]? = some (.cells c 30 fr) := by
  refine (hg.block _ (Array.getElem?_eq_some_iff.1 hk).1 (fun e => ?_)).trans hk
  rcases hr.2 with ⟨rfl, _⟩ | ⟨g, cap, cur, rfl, _, hgg, _⟩
  · simp [Value.ownBlock] at e
  · have eg : k = g := by simpa [Value.ownBlock] using e
    rw [← eg, hk] at hgg
    cases hgg

def curI (w : World) (b : Nat) : Nat := match w.cell? ⟨b, 1, none⟩ with | some (.int _ z) => z.toNat | _ => 0
theorem curI_eq {w : World} {b : Nat} {s : List UInt8} {st : St} {lv : Value} (h : CurS w b s st lv) : curI w b = st.i := by
  unfold curI; rw [CurAt.c1 h]; simp

theorem attrs_be {s : List UInt8} {f : Nat} {st : St} {l : List PrA} (h : ¬ st.be = 0) : xAttrs s f st l = (st, l) := by
  cases f with
  | zero => rfl
  | succ f => unfold xAttrs; rw [if_pos h]
theorem attrs_gt {s : List UInt8} {f : Nat} {st : St} {l : List PrA} (h : st.be = 0) (hf : 0 < f) (hp : Lib.hasPrefix (s.drop (xBlank s st).i) [62] = true ∨ Lib.hasPrefix (s.drop (xBlank s st).i) [47] = true) : xAttrs s f st l = (xBlank s st, l) := by
  cases f with
  | zero => omega
  | succ f => unfold xAttrs; rw [if_neg (by omega), if_pos hp]
theorem attrs_miss {s : List UInt8} {f : Nat} {st : St} {l : List PrA} (h : st.be = 0) (hf : 0 < f) (hp : Lib.hasPrefix (s.drop (xBlank s st).i) [62] = false) (hq : Lib.hasPrefix (s.drop (xBlank s st).i) [47] = false) (hn : blankN (s.drop st.i) = 0) : xAttrs s f st l = (xMiss s (xBlank s st), l) := by
  cases f with
  | zero => omega
  | succ f => unfold xAttrs; rw [if_neg (by omega), if_neg (by rw [hp, hq]; decide), if_pos hn]
theorem attrs_next {s : List UInt8} {f : Nat} {st : St} {l : List PrA} (h : st.be = 0) (hf : 0 < f) (hp : Lib.hasPrefix (s.drop (xBlank s st).i) [62] = false) (hq : Lib.hasPrefix (s.drop (xBlank s st).i) [47] = false) (hn : ¬ blankN (s.drop st.i) = 0) : xAttrs s f st l = xAttrs s (f - 1) (xAttr s (xBlank s st) l).1 (l ++ [(xAttr s (xBlank s st) l).2]) := by
  cases f with
  | zero => omega
  | succ f =>
    conv => lhs; unfold xAttrs
    rw [if_neg (by omega), if_neg (by rw [hp, hq]; decide), if_neg hn]
    rfl

set_option maxHeartbeats 8000000 in
set_option maxRecDepth 100000 in
theorem xopen_any (b : Nat) (s : List UInt8) (st : St) (a : Nat) (w : World) (h : ScanS w b s st) (hi : st.i ≤ s.length) (hsz : s.length ≤ 1000000000) (hR : Based b w) (hn : st.out.length ≤ 1000000000) :
    Calls Tryz.prog 69 #[.pointer (some ⟨b, 0, none⟩), .int .i64 a] w fun e w' => e = .returned (.tuple #[]) ∧ ScanS w' b s (xOpen s st a) ∧ Below b w w' := by
  obtain ⟨lv, ts, hC, hT, hts⟩ := h
  have hs2 : s.length ≤ 2147483647 := by omega
  have hln : ts.length ≤ 1000000000 := by rw [← hts, List.length_map] at hn; exact hn
  obtain ⟨i0, hi0, hz0, hz1, hz2⟩ := info_parts info_tok
  obtain ⟨p0, hp0, hy0, hy1, hy2⟩ := info_parts info_pair
  have CN := Lib.hid (name_any b s st lv w hC hi hs2 hR)
  have hbw : b ≤ w.heap.size := Nat.le_of_lt (CurAt.lt hC)
  have hbw' : b < w.heap.size := CurAt.lt hC
  have hLn : Le s st (xName s st).1 := le_name
  have hLi := hLn.ii hi
  have hLo := hLn.out
  have HC0 := Lib.hid hC
  have HT := Lib.hid hT
  go_enter Tryz.func69, Tryz.ntmps69
  go_wp2_with fail
  refine (CN.out).mono ?_
  rintro e w1 ⟨rfl, hC1, hg1⟩
  have hR1 := hR.grown hg1
  have hs1 := hg1.size
  obtain ⟨nm, hnm⟩ : ∃ nm, (xName s st).2 = nm := ⟨_, rfl⟩
  rw [hnm]
  obtain ⟨st1, hst1⟩ : ∃ st1, (xName s st).1 = st1 := ⟨_, rfl⟩
  rw [hst1] at hC1 hLi hLo
  have hba := (Below.refl w1.heap.size w1).alloc (Nat.le_refl _) (Obj.cells #[.int .i64 0, .int .i64 a, .string ⟨nm.toArray⟩, .slice none 0 0] 30)
  have hC2 := hC1.below hba
  have hR2 := hR1.below hba
  have hg2 := hg1.trans (below_grows hba (some b))
  have hblk2 := heap_alloc_new w1 (Obj.cells #[.int .i64 0, .int .i64 a, .string ⟨nm.toArray⟩, .slice none 0 0] 30)
  clear hC hT hba hR hC1 hR1 hg1 CN hLn
  go_wp2
  go_loopw [5] (fun v5 wr => ∃ st' ps pv f, CurS wr b s st' lv ∧ Based b wr ∧ wr.heap[w1.heap.size]? = some (.cells #[.int .i64 0, .int .i64 a, .string ⟨nm.toArray⟩, pv] 30 (0, 0)) ∧ prRow w.heap.size wr pv ps ∧ w.grownBy wr (some b) ∧ xAttrs s (s.length + 1) (xName s st).1 [] = xAttrs s f st' ps ∧ s.length + 1 ≤ f + st'.i ∧ st'.i ≤ s.length ∧ ps.length ≤ st'.i ∧ st'.out = st.out) (fun _ wr => s.length - curI wr b)
  case atStart => exact ⟨st1, [], .slice none 0 0, s.length + 1, hC2, hR2, hblk2, prRow_nil _ _, hg2, by rw [hst1], by omega, hLi, Nat.zero_le _, hLo⟩
  case round =>
    obtain ⟨st', ps, pv, f, hC, hB, hblk, hP, hg, hchk, hfu, hLi', hpl, hSo⟩ := hrel
    clear hC2 hR2 hblk2 hg2 hLi hLo
    have hLi := hLi'
    clear hLi'
    have cF := cfine_any b s st'.i st'.bat st'.be lv wr hC
    by_cases hbe : st'.be = 0
    · rw [decide_eq_true hbe] at cF
      have CF := Lib.hid cF
      have CB := Lib.hid (cblanks_any b s st' lv wr hC hLi hs2)
      have hLb : Le s st' (xBlank s st') := le_blank
      have hLi2 := hLb.ii hLi
      have hSo2 := hLb.out.trans hSo
      have CS1 := Lib.hid (fun wx (hw : CurS wx b s (xBlank s st') lv) => csees_any b s (xBlank s st') lv [62] ⟨#[62]⟩ rfl wx hw hLi2)
      have CS2 := Lib.hid (fun wx (hw : CurS wx b s (xBlank s st') lv) => csees_any b s (xBlank s st') lv [47] ⟨#[47]⟩ rfl wx hw hLi2)
      have hlb := (Array.getElem?_eq_some_iff.1 hblk).1
      have hnb : some w1.heap.size ≠ some b := by simp; omega
      have HB0 := Lib.hid (curI_eq hC)
      clear cF
      go_wp2_with fail
      refine (CF.out).mono ?_
      rintro e w11 ⟨rfl, rfl⟩
      go_wp2_with fail
      refine (CB.out).mono ?_
      rintro e w12 ⟨rfl, hC3, hg3⟩
      have hB3 := hB.grown hg3
      have hblk3 := (hg3.block _ hlb hnb).trans hblk
      have hP3 := hP.other hC hg3
      have hgw3 := hg.trans hg3
      have hlb := Nat.lt_of_lt_of_le hlb hg3.size
      clear hC hB hblk hP hg hg3 CF CB
      cases hp : Lib.hasPrefix (s.drop (xBlank s st').i) [62] with
      | true =>
        rw [hp] at CS1
        go_wp2_with fail
        refine (CS1.out _ hC3).mono ?_
        rintro e w13 ⟨rfl, hb4⟩
        have hC := hC3.below hb4
        have hB := hB3.below hb4
        have hblk := (hb4.block _ hlb).trans hblk3
        have hP := hP3.below hb4
        have hg := hgw3.trans (below_grows hb4 (some b))
        have hXA := hchk.trans (attrs_gt hbe (by omega) (Or.inl hp))
        have hLi := hLi2
        have hSo := hSo2
        clear hC3 hB3 hblk3 hP3 hgw3 hb4 hchk hp CS1 CS2 hlb hnb
        have hX : xOpen s st a = xOpenB s (xBlank s st') a nm ps := by unfold xOpen; rw [hnm, hXA]
        have hXB : xOpenB s (xBlank s st') a nm ps = if xTake s (xBlank s st') [47] = true then xPush (xNeed s (xMove (xBlank s st') 1) [62]) ⟨2, a, nm, ps⟩ else xPush (xNeed s (xBlank s st') [62]) ⟨0, a, nm, ps⟩ := rfl
        have cT := ctake_any b s (xBlank s st') lv [47] ⟨#[47]⟩ rfl w13 hC hLi hs2
        have hlb := (Array.getElem?_eq_some_iff.1 hblk).1
        have hnb : some w1.heap.size ≠ some b := by simp; omega
        clear hXA
        cases htk : xTake s (xBlank s st') [47] with
        | true =>
          rw [htk, if_pos rfl] at hXB cT
          have HX := Lib.hid (hX.trans hXB)
          have CT := Lib.hid cT
          have hml : (xMove (xBlank s st') 1).i ≤ s.length := by
            have := hasPre_len (take_len htk).1
            rw [List.length_drop] at this
            simp at this
            show (xBlank s st').i + 1 ≤ _
            omega
          have CN2 := Lib.hid (fun wx (hw : CurS wx b s (xMove (xBlank s st') 1) lv) => cneed_any b s (xMove (xBlank s st') 1) lv [62] ⟨#[62]⟩ rfl wx hw hml hs2)
          have HSO : Hid ((xNeed s (xMove (xBlank s st') 1) [62]).out = st.out) := Lib.hid ((le_need (s := s) (st := xMove (xBlank s st') 1) [62]).out.trans hSo)
          clear hX hXB cT htk hml hSo
          go_wp2_with fail
          refine (CT.out).mono ?_
          rintro e w21 ⟨rfl, hC1, hg1⟩
          have hblk1 := (hg1.block _ hlb hnb).trans hblk
          have hP1 := hP.other hC hg1
          have hgw1 := hg.trans hg1
          have b0 := blk4_c0 hblk1
          have f0 := frozen_of_row w21 w1.heap.size 0 _ _ hblk1
          have hlb1 := Nat.lt_of_lt_of_le hlb hg1.size
          obtain ⟨w22, hw22⟩ : ∃ w22, w22 = w21.setCell ⟨w1.heap.size, 0, none⟩ (.int .i64 2) := ⟨_, rfl⟩
          have hC2 : CurS w22 b s (xMove (xBlank s st') 1) lv := by rw [hw22]; exact CurS.set hC1 (by omega) _ _
          have hblk2 : w22.heap[w1.heap.size]? = some (.cells #[.int .i64 2, .int .i64 a, .string ⟨nm.toArray⟩, pv] 30 (0, 0)) := by rw [hw22]; exact heap_setCell_same w21 w1.heap.size 0 _ _ _ hblk1
          have hgw2 : w.grownBy w22 (some b) := by rw [hw22]; exact grown_setNew hgw1 (by omega) _ _
          have hP2 : prRow w.heap.size w22 pv ps := by rw [hw22]; exact own_other hP1 (grown_set w21 w1.heap.size 0 _) hblk1 (by decide)
          have hlb2 := (Array.getElem?_eq_some_iff.1 hblk2).1
          clear hC hg hP hblk hC1 hg1 hblk1 hP1 hgw1 hB
          go_wp2_with fail
          rw [← hw22]
          clear hw22 b0 f0
          refine (CN2.out _ hC2).mono ?_
          rintro e w23 ⟨rfl, hC, hg3⟩
          have hblk := (hg3.block _ hlb2 hnb).trans hblk2
          have hP := hP2.other hC2 hg3
          have hg := hgw2.trans hg3
          clear hC2 hblk2 hgw2 hP2 hg3 hlb hlb1 hlb2
          have c4z := CurAt.c4 hC
          have b0 := blk4_c0 hblk
          have b1 := blk4_c1 hblk
          have b2 := blk4_c2 hblk
          have b3 := blk4_c3 hblk
          have hPb := own_base hP hbw
          have hTd := HT.out.other HC0.out hg
          have hbd : Below w23.heap.size w23 (w23.drew) := below_drewN w23 1
          have hCd := (hC).below hbd
          have hPd := prRow.below hPb hbd
          have hTd := (hTd).below hbd
          have hgd := (hg).trans (below_grows hbd (some b))
          have hWl : b < w23.heap.size := CurAt.lt hC
          have hba := (Below.refl (w23.drew).heap.size (w23.drew)).alloc (Nat.le_refl _) (Obj.cells #[.int .i64 2, .int .i64 a, .string ⟨(nm).toArray⟩, pv] 30)
          have HCA := Lib.hid (hCd.below hba)
          have HTA := Lib.hid (hTd.below hba)
          have HPA := Lib.hid (hPd.below hba)
          have HGA := Lib.hid (hgd.trans (below_grows hba (some b)))
          have hpo := own_one hPd
          have HNC : Hid (∀ j u, (tkCells (⟨2, a, nm, ps⟩ : Tk) (pv))[j]? = some u → ((w23.drew).alloc (Obj.cells #[.int .i64 2, .int .i64 a, .string ⟨(nm).toArray⟩, pv] 30)).cell? ((⟨w23.heap.size, 0, none⟩ : Addr).add j) = some u) := Lib.hid (cells_new (w23.drew) (tkCells (⟨2, a, nm, ps⟩ : Tk) (pv)) 30)
          have HONE : Hid (∀ u ∈ tkCells (⟨2, a, nm, ps⟩ : Tk) (pv), u.oneCell' = true) := Lib.hid (by intro u hu; simp only [tkCells, List.mem_cons, List.not_mem_nil, or_false] at hu; rcases hu with rfl | rfl | rfl | rfl <;> first | rfl | exact hpo)
          have HM1 : Hid (ts.length + 1 ≤ maxLen) := Lib.hid (by unfold maxLen; omega)
          have HM2 : Hid ((ts.length + 1) * 56 ≤ 140737488355328) := Lib.hid (by omega)
          have HBS : Hid (b ≤ ((w23.drew).alloc (Obj.cells #[.int .i64 2, .int .i64 a, .string ⟨(nm).toArray⟩, pv] 30)).heap.size) := Lib.hid (by have := hba.size; have := hbd.size; omega)
          clear hbd hCd hPd hTd hgd hba hpo
          go_wp2
          go_region_law (refine step_append_lies _ rfl _ _ 24 rfl b 30 i0 _ 4 56 Tryz.underlying24 hi0 hz0 hz1 hz2 rfl (by decide) lv _ _ (by first | rfl | simp [Act.eval, Act.put]) HTA.out.1 ⟨w23.heap.size, 0, none⟩ 1 1 (tkCells (⟨2, a, nm, ps⟩ : Tk) (pv)) (by first | rfl | simp [Act.eval, Act.put]) rfl HNC.out HONE.out (by decide) HM1.out HM2.out HBS.out _ rfl ?_; intro g6 cap6 w6 hown6 hgr6 _ _; have hC6 := tokRow_cur HTA.out hgr6 HCA.out; have f4 := CurAt.fz hC6 4; have c4' := CurAt.c4 hC6; have HOWN6 := Lib.hid hown6; have HGR6 := Lib.hid hgr6; have HC6 := Lib.hid hC6; clear hown6 hgr6 hC6)
          all_goals
            have hC7 := CurAt.set4 HC6.out (.slice (some ⟨g6, 0, none⟩) (ts.length + 1) cap6)
            have hT7 := (tokRow_push (t := (⟨2, a, nm, ps⟩ : Tk)) HTA.out HPA.out HGR6.out HOWN6.out).other HC6.out (grown_set w6 b 4 (.slice (some ⟨g6, 0, none⟩) (ts.length + 1) cap6))
            have hL7 := (low_grown HGA.out hbw).trans ((tokRow_low HTA.out HGR6.out HBS.out).trans (low_grown (grown_set w6 b 4 (.slice (some ⟨g6, 0, none⟩) (ts.length + 1) cap6)) (by have := CurAt.lt HC6.out; omega)))
            have HC7 := Lib.hid hC7
            have HT7 := Lib.hid hT7
            have HL7 := Lib.hid hL7
            clear hC7 hT7 hL7
            go_wp2
            go_end0
            rw [HX.out]
            refine ⟨rfl, ⟨_, _, HC7.out, HT7.out, ?_⟩, HL7.out⟩
            rw [List.map_append, hts]
            show _ = (xNeed s (xMove (xBlank s st') 1) [62]).out ++ _
            rw [HSO.out]
            rfl
        | false =>
          rw [htk, if_neg (by decide)] at hXB cT
          have HX := Lib.hid (hX.trans hXB)
          have CT := Lib.hid cT
          have CN2 := Lib.hid (fun wx (hw : CurS wx b s (xBlank s st') lv) => cneed_any b s (xBlank s st') lv [62] ⟨#[62]⟩ rfl wx hw hLi hs2)
          have HSO : Hid ((xNeed s (xBlank s st') [62]).out = st.out) := Lib.hid ((le_need (s := s) (st := xBlank s st') [62]).out.trans hSo)
          clear hX hXB cT htk hSo
          go_wp2_with fail
          refine (CT.out).mono ?_
          rintro e w21 ⟨rfl, hC1, hg1⟩
          have hblk1 := (hg1.block _ hlb hnb).trans hblk
          have hP1 := hP.other hC hg1
          have hgw1 := hg.trans hg1
          have hlb1 := Nat.lt_of_lt_of_le hlb hg1.size
          clear hC hg hP hblk hg1 hB
          go_wp2_with fail
          refine (CN2.out _ hC1).mono ?_
          rintro e w23 ⟨rfl, hC, hg3⟩
          have hblk := (hg3.block _ hlb1 hnb).trans hblk1
          have hP := hP1.other hC1 hg3
          have hg := hgw1.trans hg3
          clear hC1 hblk1 hgw1 hP1 hg3 hlb hlb1
          have c4z := CurAt.c4 hC
          have b0 := blk4_c0 hblk
          have b1 := blk4_c1 hblk
          have b2 := blk4_c2 hblk
          have b3 := blk4_c3 hblk
          have hPb := own_base hP hbw
          have hTd := HT.out.other HC0.out hg
          have hbd : Below w23.heap.size w23 (w23.drew) := below_drewN w23 1
          have hCd := (hC).below hbd
          have hPd := prRow.below hPb hbd
          have hTd := (hTd).below hbd
          have hgd := (hg).trans (below_grows hbd (some b))
          have hWl : b < w23.heap.size := CurAt.lt hC
          have hba := (Below.refl (w23.drew).heap.size (w23.drew)).alloc (Nat.le_refl _) (Obj.cells #[.int .i64 0, .int .i64 a, .string ⟨(nm).toArray⟩, pv] 30)
          have HCA := Lib.hid (hCd.below hba)
          have HTA := Lib.hid (hTd.below hba)
          have HPA := Lib.hid (hPd.below hba)
          have HGA := Lib.hid (hgd.trans (below_grows hba (some b)))
          have hpo := own_one hPd
          have HNC : Hid (∀ j u, (tkCells (⟨0, a, nm, ps⟩ : Tk) (pv))[j]? = some u → ((w23.drew).alloc (Obj.cells #[.int .i64 0, .int .i64 a, .string ⟨(nm).toArray⟩, pv] 30)).cell? ((⟨w23.heap.size, 0, none⟩ : Addr).add j) = some u) := Lib.hid (cells_new (w23.drew) (tkCells (⟨0, a, nm, ps⟩ : Tk) (pv)) 30)
          have HONE : Hid (∀ u ∈ tkCells (⟨0, a, nm, ps⟩ : Tk) (pv), u.oneCell' = true) := Lib.hid (by intro u hu; simp only [tkCells, List.mem_cons, List.not_mem_nil, or_false] at hu; rcases hu with rfl | rfl | rfl | rfl <;> first | rfl | exact hpo)
          have HM1 : Hid (ts.length + 1 ≤ maxLen) := Lib.hid (by unfold maxLen; omega)
          have HM2 : Hid ((ts.length + 1) * 56 ≤ 140737488355328) := Lib.hid (by omega)
          have HBS : Hid (b ≤ ((w23.drew).alloc (Obj.cells #[.int .i64 0, .int .i64 a, .string ⟨(nm).toArray⟩, pv] 30)).heap.size) := Lib.hid (by have := hba.size; have := hbd.size; omega)
          clear hbd hCd hPd hTd hgd hba hpo
          go_wp2
          go_region_law (refine step_append_lies _ rfl _ _ 24 rfl b 30 i0 _ 4 56 Tryz.underlying24 hi0 hz0 hz1 hz2 rfl (by decide) lv _ _ (by first | rfl | simp [Act.eval, Act.put]) HTA.out.1 ⟨w23.heap.size, 0, none⟩ 1 1 (tkCells (⟨0, a, nm, ps⟩ : Tk) (pv)) (by first | rfl | simp [Act.eval, Act.put]) rfl HNC.out HONE.out (by decide) HM1.out HM2.out HBS.out _ rfl ?_; intro g6 cap6 w6 hown6 hgr6 _ _; have hC6 := tokRow_cur HTA.out hgr6 HCA.out; have f4 := CurAt.fz hC6 4; have c4' := CurAt.c4 hC6; have HOWN6 := Lib.hid hown6; have HGR6 := Lib.hid hgr6; have HC6 := Lib.hid hC6; clear hown6 hgr6 hC6)
          all_goals
            have hC7 := CurAt.set4 HC6.out (.slice (some ⟨g6, 0, none⟩) (ts.length + 1) cap6)
            have hT7 := (tokRow_push (t := (⟨0, a, nm, ps⟩ : Tk)) HTA.out HPA.out HGR6.out HOWN6.out).other HC6.out (grown_set w6 b 4 (.slice (some ⟨g6, 0, none⟩) (ts.length + 1) cap6))
            have hL7 := (low_grown HGA.out hbw).trans ((tokRow_low HTA.out HGR6.out HBS.out).trans (low_grown (grown_set w6 b 4 (.slice (some ⟨g6, 0, none⟩) (ts.length + 1) cap6)) (by have := CurAt.lt HC6.out; omega)))
            have HC7 := Lib.hid hC7
            have HT7 := Lib.hid hT7
            have HL7 := Lib.hid hL7
            clear hC7 hT7 hL7
            go_wp2
            go_end0
            rw [HX.out]
            refine ⟨rfl, ⟨_, _, HC7.out, HT7.out, ?_⟩, HL7.out⟩
            rw [List.map_append, hts]
            show _ = (xNeed s (xBlank s st') [62]).out ++ _
            rw [HSO.out]
            rfl
      | false =>
        rw [hp] at CS1
        go_wp2_with fail
        refine (CS1.out _ hC3).mono ?_
        rintro e w13 ⟨rfl, hb4⟩
        have hC4 := hC3.below hb4
        have hB4 := hB3.below hb4
        have hblk4 := (hb4.block _ hlb).trans hblk3
        have hP4 := hP3.below hb4
        have hgw4 := hgw3.trans (below_grows hb4 (some b))
        have hlb := Nat.lt_of_lt_of_le hlb hb4.size
        clear hC3 hB3 hblk3 hP3 hgw3 hb4 CS1
        cases hq : Lib.hasPrefix (s.drop (xBlank s st').i) [47] with
        | true =>
          rw [hq] at CS2
          go_wp2_with fail
          refine (CS2.out _ hC4).mono ?_
          rintro e w14 ⟨rfl, hb5⟩
          have hC := hC4.below hb5
          have hB := hB4.below hb5
          have hblk := (hb5.block _ hlb).trans hblk4
          have hP := hP4.below hb5
          have hg := hgw4.trans (below_grows hb5 (some b))
          have hXA := hchk.trans (attrs_gt hbe (by omega) (Or.inr hq))
          have hLi := hLi2
          have hSo := hSo2
          clear hC4 hB4 hblk4 hP4 hgw4 hb5 hchk hp hq CS2 hlb hnb
          have hX : xOpen s st a = xOpenB s (xBlank s st') a nm ps := by unfold xOpen; rw [hnm, hXA]
          have hXB : xOpenB s (xBlank s st') a nm ps = if xTake s (xBlank s st') [47] = true then xPush (xNeed s (xMove (xBlank s st') 1) [62]) ⟨2, a, nm, ps⟩ else xPush (xNeed s (xBlank s st') [62]) ⟨0, a, nm, ps⟩ := rfl
          have cT := ctake_any b s (xBlank s st') lv [47] ⟨#[47]⟩ rfl w14 hC hLi hs2
          have hlb := (Array.getElem?_eq_some_iff.1 hblk).1
          have hnb : some w1.heap.size ≠ some b := by simp; omega
          clear hXA
          cases htk : xTake s (xBlank s st') [47] with
          | true =>
            rw [htk, if_pos rfl] at hXB cT
            have HX := Lib.hid (hX.trans hXB)
            have CT := Lib.hid cT
            have hml : (xMove (xBlank s st') 1).i ≤ s.length := by
              have := hasPre_len (take_len htk).1
              rw [List.length_drop] at this
              simp at this
              show (xBlank s st').i + 1 ≤ _
              omega
            have CN2 := Lib.hid (fun wx (hw : CurS wx b s (xMove (xBlank s st') 1) lv) => cneed_any b s (xMove (xBlank s st') 1) lv [62] ⟨#[62]⟩ rfl wx hw hml hs2)
            have HSO : Hid ((xNeed s (xMove (xBlank s st') 1) [62]).out = st.out) := Lib.hid ((le_need (s := s) (st := xMove (xBlank s st') 1) [62]).out.trans hSo)
            clear hX hXB cT htk hml hSo
            go_wp2_with fail
            refine (CT.out).mono ?_
            rintro e w21 ⟨rfl, hC1, hg1⟩
            have hblk1 := (hg1.block _ hlb hnb).trans hblk
            have hP1 := hP.other hC hg1
            have hgw1 := hg.trans hg1
            have b0 := blk4_c0 hblk1
            have f0 := frozen_of_row w21 w1.heap.size 0 _ _ hblk1
            have hlb1 := Nat.lt_of_lt_of_le hlb hg1.size
            obtain ⟨w22, hw22⟩ : ∃ w22, w22 = w21.setCell ⟨w1.heap.size, 0, none⟩ (.int .i64 2) := ⟨_, rfl⟩
            have hC2 : CurS w22 b s (xMove (xBlank s st') 1) lv := by rw [hw22]; exact CurS.set hC1 (by omega) _ _
            have hblk2 : w22.heap[w1.heap.size]? = some (.cells #[.int .i64 2, .int .i64 a, .string ⟨nm.toArray⟩, pv] 30 (0, 0)) := by rw [hw22]; exact heap_setCell_same w21 w1.heap.size 0 _ _ _ hblk1
            have hgw2 : w.grownBy w22 (some b) := by rw [hw22]; exact grown_setNew hgw1 (by omega) _ _
            have hP2 : prRow w.heap.size w22 pv ps := by rw [hw22]; exact own_other hP1 (grown_set w21 w1.heap.size 0 _) hblk1 (by decide)
            have hlb2 := (Array.getElem?_eq_some_iff.1 hblk2).1
            clear hC hg hP hblk hC1 hg1 hblk1 hP1 hgw1 hB
            go_wp2_with fail
            rw [← hw22]
            clear hw22 b0 f0
            refine (CN2.out _ hC2).mono ?_
            rintro e w23 ⟨rfl, hC, hg3⟩
            have hblk := (hg3.block _ hlb2 hnb).trans hblk2
            have hP := hP2.other hC2 hg3
            have hg := hgw2.trans hg3
            clear hC2 hblk2 hgw2 hP2 hg3 hlb hlb1 hlb2
            have c4z := CurAt.c4 hC
            have b0 := blk4_c0 hblk
            have b1 := blk4_c1 hblk
            have b2 := blk4_c2 hblk
            have b3 := blk4_c3 hblk
            have hPb := own_base hP hbw
            have hTd := HT.out.other HC0.out hg
            have hbd : Below w23.heap.size w23 (w23.drew) := below_drewN w23 1
            have hCd := (hC).below hbd
            have hPd := prRow.below hPb hbd
            have hTd := (hTd).below hbd
            have hgd := (hg).trans (below_grows hbd (some b))
            have hWl : b < w23.heap.size := CurAt.lt hC
            have hba := (Below.refl (w23.drew).heap.size (w23.drew)).alloc (Nat.le_refl _) (Obj.cells #[.int .i64 2, .int .i64 a, .string ⟨(nm).toArray⟩, pv] 30)
            have HCA := Lib.hid (hCd.below hba)
            have HTA := Lib.hid (hTd.below hba)
            have HPA := Lib.hid (hPd.below hba)
            have HGA := Lib.hid (hgd.trans (below_grows hba (some b)))
            have hpo := own_one hPd
            have HNC : Hid (∀ j u, (tkCells (⟨2, a, nm, ps⟩ : Tk) (pv))[j]? = some u → ((w23.drew).alloc (Obj.cells #[.int .i64 2, .int .i64 a, .string ⟨(nm).toArray⟩, pv] 30)).cell? ((⟨w23.heap.size, 0, none⟩ : Addr).add j) = some u) := Lib.hid (cells_new (w23.drew) (tkCells (⟨2, a, nm, ps⟩ : Tk) (pv)) 30)
            have HONE : Hid (∀ u ∈ tkCells (⟨2, a, nm, ps⟩ : Tk) (pv), u.oneCell' = true) := Lib.hid (by intro u hu; simp only [tkCells, List.mem_cons, List.not_mem_nil, or_false] at hu; rcases hu with rfl | rfl | rfl | rfl <;> first | rfl | exact hpo)
            have HM1 : Hid (ts.length + 1 ≤ maxLen) := Lib.hid (by unfold maxLen; omega)
            have HM2 : Hid ((ts.length + 1) * 56 ≤ 140737488355328) := Lib.hid (by omega)
            have HBS : Hid (b ≤ ((w23.drew).alloc (Obj.cells #[.int .i64 2, .int .i64 a, .string ⟨(nm).toArray⟩, pv] 30)).heap.size) := Lib.hid (by have := hba.size; have := hbd.size; omega)
            clear hbd hCd hPd hTd hgd hba hpo
            go_wp2
            go_region_law (refine step_append_lies _ rfl _ _ 24 rfl b 30 i0 _ 4 56 Tryz.underlying24 hi0 hz0 hz1 hz2 rfl (by decide) lv _ _ (by first | rfl | simp [Act.eval, Act.put]) HTA.out.1 ⟨w23.heap.size, 0, none⟩ 1 1 (tkCells (⟨2, a, nm, ps⟩ : Tk) (pv)) (by first | rfl | simp [Act.eval, Act.put]) rfl HNC.out HONE.out (by decide) HM1.out HM2.out HBS.out _ rfl ?_; intro g6 cap6 w6 hown6 hgr6 _ _; have hC6 := tokRow_cur HTA.out hgr6 HCA.out; have f4 := CurAt.fz hC6 4; have c4' := CurAt.c4 hC6; have HOWN6 := Lib.hid hown6; have HGR6 := Lib.hid hgr6; have HC6 := Lib.hid hC6; clear hown6 hgr6 hC6)
            all_goals
              have hC7 := CurAt.set4 HC6.out (.slice (some ⟨g6, 0, none⟩) (ts.length + 1) cap6)
              have hT7 := (tokRow_push (t := (⟨2, a, nm, ps⟩ : Tk)) HTA.out HPA.out HGR6.out HOWN6.out).other HC6.out (grown_set w6 b 4 (.slice (some ⟨g6, 0, none⟩) (ts.length + 1) cap6))
              have hL7 := (low_grown HGA.out hbw).trans ((tokRow_low HTA.out HGR6.out HBS.out).trans (low_grown (grown_set w6 b 4 (.slice (some ⟨g6, 0, none⟩) (ts.length + 1) cap6)) (by have := CurAt.lt HC6.out; omega)))
              have HC7 := Lib.hid hC7
              have HT7 := Lib.hid hT7
              have HL7 := Lib.hid hL7
              clear hC7 hT7 hL7
              go_wp2
              go_end0
              rw [HX.out]
              refine ⟨rfl, ⟨_, _, HC7.out, HT7.out, ?_⟩, HL7.out⟩
              rw [List.map_append, hts]
              show _ = (xNeed s (xMove (xBlank s st') 1) [62]).out ++ _
              rw [HSO.out]
              rfl
          | false =>
            rw [htk, if_neg (by decide)] at hXB cT
            have HX := Lib.hid (hX.trans hXB)
            have CT := Lib.hid cT
            have CN2 := Lib.hid (fun wx (hw : CurS wx b s (xBlank s st') lv) => cneed_any b s (xBlank s st') lv [62] ⟨#[62]⟩ rfl wx hw hLi hs2)
            have HSO : Hid ((xNeed s (xBlank s st') [62]).out = st.out) := Lib.hid ((le_need (s := s) (st := xBlank s st') [62]).out.trans hSo)
            clear hX hXB cT htk hSo
            go_wp2_with fail
            refine (CT.out).mono ?_
            rintro e w21 ⟨rfl, hC1, hg1⟩
            have hblk1 := (hg1.block _ hlb hnb).trans hblk
            have hP1 := hP.other hC hg1
            have hgw1 := hg.trans hg1
            have hlb1 := Nat.lt_of_lt_of_le hlb hg1.size
            clear hC hg hP hblk hg1 hB
            go_wp2_with fail
            refine (CN2.out _ hC1).mono ?_
            rintro e w23 ⟨rfl, hC, hg3⟩
            have hblk := (hg3.block _ hlb1 hnb).trans hblk1
            have hP := hP1.other hC1 hg3
            have hg := hgw1.trans hg3
            clear hC1 hblk1 hgw1 hP1 hg3 hlb hlb1
            have c4z := CurAt.c4 hC
            have b0 := blk4_c0 hblk
            have b1 := blk4_c1 hblk
            have b2 := blk4_c2 hblk
            have b3 := blk4_c3 hblk
            have hPb := own_base hP hbw
            have hTd := HT.out.other HC0.out hg
            have hbd : Below w23.heap.size w23 (w23.drew) := below_drewN w23 1
            have hCd := (hC).below hbd
            have hPd := prRow.below hPb hbd
            have hTd := (hTd).below hbd
            have hgd := (hg).trans (below_grows hbd (some b))
            have hWl : b < w23.heap.size := CurAt.lt hC
            have hba := (Below.refl (w23.drew).heap.size (w23.drew)).alloc (Nat.le_refl _) (Obj.cells #[.int .i64 0, .int .i64 a, .string ⟨(nm).toArray⟩, pv] 30)
            have HCA := Lib.hid (hCd.below hba)
            have HTA := Lib.hid (hTd.below hba)
            have HPA := Lib.hid (hPd.below hba)
            have HGA := Lib.hid (hgd.trans (below_grows hba (some b)))
            have hpo := own_one hPd
            have HNC : Hid (∀ j u, (tkCells (⟨0, a, nm, ps⟩ : Tk) (pv))[j]? = some u → ((w23.drew).alloc (Obj.cells #[.int .i64 0, .int .i64 a, .string ⟨(nm).toArray⟩, pv] 30)).cell? ((⟨w23.heap.size, 0, none⟩ : Addr).add j) = some u) := Lib.hid (cells_new (w23.drew) (tkCells (⟨0, a, nm, ps⟩ : Tk) (pv)) 30)
            have HONE : Hid (∀ u ∈ tkCells (⟨0, a, nm, ps⟩ : Tk) (pv), u.oneCell' = true) := Lib.hid (by intro u hu; simp only [tkCells, List.mem_cons, List.not_mem_nil, or_false] at hu; rcases hu with rfl | rfl | rfl | rfl <;> first | rfl | exact hpo)
            have HM1 : Hid (ts.length + 1 ≤ maxLen) := Lib.hid (by unfold maxLen; omega)
            have HM2 : Hid ((ts.length + 1) * 56 ≤ 140737488355328) := Lib.hid (by omega)
            have HBS : Hid (b ≤ ((w23.drew).alloc (Obj.cells #[.int .i64 0, .int .i64 a, .string ⟨(nm).toArray⟩, pv] 30)).heap.size) := Lib.hid (by have := hba.size; have := hbd.size; omega)
            clear hbd hCd hPd hTd hgd hba hpo
            go_wp2
            go_region_law (refine step_append_lies _ rfl _ _ 24 rfl b 30 i0 _ 4 56 Tryz.underlying24 hi0 hz0 hz1 hz2 rfl (by decide) lv _ _ (by first | rfl | simp [Act.eval, Act.put]) HTA.out.1 ⟨w23.heap.size, 0, none⟩ 1 1 (tkCells (⟨0, a, nm, ps⟩ : Tk) (pv)) (by first | rfl | simp [Act.eval, Act.put]) rfl HNC.out HONE.out (by decide) HM1.out HM2.out HBS.out _ rfl ?_; intro g6 cap6 w6 hown6 hgr6 _ _; have hC6 := tokRow_cur HTA.out hgr6 HCA.out; have f4 := CurAt.fz hC6 4; have c4' := CurAt.c4 hC6; have HOWN6 := Lib.hid hown6; have HGR6 := Lib.hid hgr6; have HC6 := Lib.hid hC6; clear hown6 hgr6 hC6)
            all_goals
              have hC7 := CurAt.set4 HC6.out (.slice (some ⟨g6, 0, none⟩) (ts.length + 1) cap6)
              have hT7 := (tokRow_push (t := (⟨0, a, nm, ps⟩ : Tk)) HTA.out HPA.out HGR6.out HOWN6.out).other HC6.out (grown_set w6 b 4 (.slice (some ⟨g6, 0, none⟩) (ts.length + 1) cap6))
              have hL7 := (low_grown HGA.out hbw).trans ((tokRow_low HTA.out HGR6.out HBS.out).trans (low_grown (grown_set w6 b 4 (.slice (some ⟨g6, 0, none⟩) (ts.length + 1) cap6)) (by have := CurAt.lt HC6.out; omega)))
              have HC7 := Lib.hid hC7
              have HT7 := Lib.hid hT7
              have HL7 := Lib.hid hL7
              clear hC7 hT7 hL7
              go_wp2
              go_end0
              rw [HX.out]
              refine ⟨rfl, ⟨_, _, HC7.out, HT7.out, ?_⟩, HL7.out⟩
              rw [List.map_append, hts]
              show _ = (xNeed s (xBlank s st') [62]).out ++ _
              rw [HSO.out]
              rfl
        | false =>
          rw [hq] at CS2
          by_cases hbn : blankN (s.drop st'.i) = 0
          · have hd : decide (0 < blankN (s.drop st'.i)) = false := decide_eq_false (by omega)
            have CM := Lib.hid (fun wx (hw : CurS wx b s (xBlank s st') lv) => cmissing_any b s (xBlank s st') lv wx hw hLi2)
            have hLm : Le s (xBlank s st') (xMiss s (xBlank s st')) := le_miss
            have hXA := hchk.trans (attrs_miss hbe (by omega) hp hq hbn)
            rw [hd]
            clear hchk hp hq hbn
            go_wp2_with fail
            refine (CS2.out _ hC4).mono ?_
            rintro e w14 ⟨rfl, hb5⟩
            have hC5 := hC4.below hb5
            have hB5 := hB4.below hb5
            have hblk5 := (hb5.block _ hlb).trans hblk4
            have hP5 := hP4.below hb5
            have hgw5 := hgw4.trans (below_grows hb5 (some b))
            have hlb := Nat.lt_of_lt_of_le hlb hb5.size
            clear hC4 hB4 hblk4 hP4 hgw4 hb5 CS2
            go_wp2_with fail
            refine (CM.out _ hC5).mono ?_
            rintro e w15 ⟨rfl, hC, hg6⟩
            have hB := hB5.grown hg6
            have hblk := (hg6.block _ hlb hnb).trans hblk5
            have hP := hP5.other hC5 hg6
            have hg := hgw5.trans hg6
            have hLi := hLm.ii hLi2
            have hSo := hLm.out.trans hSo2
            clear hC5 hB5 hblk5 hP5 hgw5 hg6 hlb hnb hLm hd
            have hX : xOpen s st a = xOpenB s (xMiss s (xBlank s st')) a nm ps := by unfold xOpen; rw [hnm, hXA]
            have hXB : xOpenB s (xMiss s (xBlank s st')) a nm ps = if xTake s (xMiss s (xBlank s st')) [47] = true then xPush (xNeed s (xMove (xMiss s (xBlank s st')) 1) [62]) ⟨2, a, nm, ps⟩ else xPush (xNeed s (xMiss s (xBlank s st')) [62]) ⟨0, a, nm, ps⟩ := rfl
            have cT := ctake_any b s (xMiss s (xBlank s st')) lv [47] ⟨#[47]⟩ rfl w15 hC hLi hs2
            have hlb := (Array.getElem?_eq_some_iff.1 hblk).1
            have hnb : some w1.heap.size ≠ some b := by simp; omega
            clear hXA
            cases htk : xTake s (xMiss s (xBlank s st')) [47] with
            | true =>
              rw [htk, if_pos rfl] at hXB cT
              have HX := Lib.hid (hX.trans hXB)
              have CT := Lib.hid cT
              have hml : (xMove (xMiss s (xBlank s st')) 1).i ≤ s.length := by
                have := hasPre_len (take_len htk).1
                rw [List.length_drop] at this
                simp at this
                show (xMiss s (xBlank s st')).i + 1 ≤ _
                omega
              have CN2 := Lib.hid (fun wx (hw : CurS wx b s (xMove (xMiss s (xBlank s st')) 1) lv) => cneed_any b s (xMove (xMiss s (xBlank s st')) 1) lv [62] ⟨#[62]⟩ rfl wx hw hml hs2)
              have HSO : Hid ((xNeed s (xMove (xMiss s (xBlank s st')) 1) [62]).out = st.out) := Lib.hid ((le_need (s := s) (st := xMove (xMiss s (xBlank s st')) 1) [62]).out.trans hSo)
              clear hX hXB cT htk hml hSo
              go_wp2_with fail
              refine (CT.out).mono ?_
              rintro e w21 ⟨rfl, hC1, hg1⟩
              have hblk1 := (hg1.block _ hlb hnb).trans hblk
              have hP1 := hP.other hC hg1
              have hgw1 := hg.trans hg1
              have b0 := blk4_c0 hblk1
              have f0 := frozen_of_row w21 w1.heap.size 0 _ _ hblk1
              have hlb1 := Nat.lt_of_lt_of_le hlb hg1.size
              obtain ⟨w22, hw22⟩ : ∃ w22, w22 = w21.setCell ⟨w1.heap.size, 0, none⟩ (.int .i64 2) := ⟨_, rfl⟩
              have hC2 : CurS w22 b s (xMove (xMiss s (xBlank s st')) 1) lv := by rw [hw22]; exact CurS.set hC1 (by omega) _ _
              have hblk2 : w22.heap[w1.heap.size]? = some (.cells #[.int .i64 2, .int .i64 a, .string ⟨nm.toArray⟩, pv] 30 (0, 0)) := by rw [hw22]; exact heap_setCell_same w21 w1.heap.size 0 _ _ _ hblk1
              have hgw2 : w.grownBy w22 (some b) := by rw [hw22]; exact grown_setNew hgw1 (by omega) _ _
              have hP2 : prRow w.heap.size w22 pv ps := by rw [hw22]; exact own_other hP1 (grown_set w21 w1.heap.size 0 _) hblk1 (by decide)
              have hlb2 := (Array.getElem?_eq_some_iff.1 hblk2).1
              clear hC hg hP hblk hC1 hg1 hblk1 hP1 hgw1 hB
              go_wp2_with fail
              rw [← hw22]
              clear hw22 b0 f0
              refine (CN2.out _ hC2).mono ?_
              rintro e w23 ⟨rfl, hC, hg3⟩
              have hblk := (hg3.block _ hlb2 hnb).trans hblk2
              have hP := hP2.other hC2 hg3
              have hg := hgw2.trans hg3
              clear hC2 hblk2 hgw2 hP2 hg3 hlb hlb1 hlb2
              have c4z := CurAt.c4 hC
              have b0 := blk4_c0 hblk
              have b1 := blk4_c1 hblk
              have b2 := blk4_c2 hblk
              have b3 := blk4_c3 hblk
              have hPb := own_base hP hbw
              have hTd := HT.out.other HC0.out hg
              have hbd : Below w23.heap.size w23 (w23.drew) := below_drewN w23 1
              have hCd := (hC).below hbd
              have hPd := prRow.below hPb hbd
              have hTd := (hTd).below hbd
              have hgd := (hg).trans (below_grows hbd (some b))
              have hWl : b < w23.heap.size := CurAt.lt hC
              have hba := (Below.refl (w23.drew).heap.size (w23.drew)).alloc (Nat.le_refl _) (Obj.cells #[.int .i64 2, .int .i64 a, .string ⟨(nm).toArray⟩, pv] 30)
              have HCA := Lib.hid (hCd.below hba)
              have HTA := Lib.hid (hTd.below hba)
              have HPA := Lib.hid (hPd.below hba)
              have HGA := Lib.hid (hgd.trans (below_grows hba (some b)))
              have hpo := own_one hPd
              have HNC : Hid (∀ j u, (tkCells (⟨2, a, nm, ps⟩ : Tk) (pv))[j]? = some u → ((w23.drew).alloc (Obj.cells #[.int .i64 2, .int .i64 a, .string ⟨(nm).toArray⟩, pv] 30)).cell? ((⟨w23.heap.size, 0, none⟩ : Addr).add j) = some u) := Lib.hid (cells_new (w23.drew) (tkCells (⟨2, a, nm, ps⟩ : Tk) (pv)) 30)
              have HONE : Hid (∀ u ∈ tkCells (⟨2, a, nm, ps⟩ : Tk) (pv), u.oneCell' = true) := Lib.hid (by intro u hu; simp only [tkCells, List.mem_cons, List.not_mem_nil, or_false] at hu; rcases hu with rfl | rfl | rfl | rfl <;> first | rfl | exact hpo)
              have HM1 : Hid (ts.length + 1 ≤ maxLen) := Lib.hid (by unfold maxLen; omega)
              have HM2 : Hid ((ts.length + 1) * 56 ≤ 140737488355328) := Lib.hid (by omega)
              have HBS : Hid (b ≤ ((w23.drew).alloc (Obj.cells #[.int .i64 2, .int .i64 a, .string ⟨(nm).toArray⟩, pv] 30)).heap.size) := Lib.hid (by have := hba.size; have := hbd.size; omega)
              clear hbd hCd hPd hTd hgd hba hpo
              go_wp2
              go_region_law (refine step_append_lies _ rfl _ _ 24 rfl b 30 i0 _ 4 56 Tryz.underlying24 hi0 hz0 hz1 hz2 rfl (by decide) lv _ _ (by first | rfl | simp [Act.eval, Act.put]) HTA.out.1 ⟨w23.heap.size, 0, none⟩ 1 1 (tkCells (⟨2, a, nm, ps⟩ : Tk) (pv)) (by first | rfl | simp [Act.eval, Act.put]) rfl HNC.out HONE.out (by decide) HM1.out HM2.out HBS.out _ rfl ?_; intro g6 cap6 w6 hown6 hgr6 _ _; have hC6 := tokRow_cur HTA.out hgr6 HCA.out; have f4 := CurAt.fz hC6 4; have c4' := CurAt.c4 hC6; have HOWN6 := Lib.hid hown6; have HGR6 := Lib.hid hgr6; have HC6 := Lib.hid hC6; clear hown6 hgr6 hC6)
              all_goals
                have hC7 := CurAt.set4 HC6.out (.slice (some ⟨g6, 0, none⟩) (ts.length + 1) cap6)
                have hT7 := (tokRow_push (t := (⟨2, a, nm, ps⟩ : Tk)) HTA.out HPA.out HGR6.out HOWN6.out).other HC6.out (grown_set w6 b 4 (.slice (some ⟨g6, 0, none⟩) (ts.length + 1) cap6))
                have hL7 := (low_grown HGA.out hbw).trans ((tokRow_low HTA.out HGR6.out HBS.out).trans (low_grown (grown_set w6 b 4 (.slice (some ⟨g6, 0, none⟩) (ts.length + 1) cap6)) (by have := CurAt.lt HC6.out; omega)))
                have HC7 := Lib.hid hC7
                have HT7 := Lib.hid hT7
                have HL7 := Lib.hid hL7
                clear hC7 hT7 hL7
                go_wp2
                go_end0
                rw [HX.out]
                refine ⟨rfl, ⟨_, _, HC7.out, HT7.out, ?_⟩, HL7.out⟩
                rw [List.map_append, hts]
                show _ = (xNeed s (xMove (xMiss s (xBlank s st')) 1) [62]).out ++ _
                rw [HSO.out]
                rfl
            | false =>
              rw [htk, if_neg (by decide)] at hXB cT
              have HX := Lib.hid (hX.trans hXB)
              have CT := Lib.hid cT
              have CN2 := Lib.hid (fun wx (hw : CurS wx b s (xMiss s (xBlank s st')) lv) => cneed_any b s (xMiss s (xBlank s st')) lv [62] ⟨#[62]⟩ rfl wx hw hLi hs2)
              have HSO : Hid ((xNeed s (xMiss s (xBlank s st')) [62]).out = st.out) := Lib.hid ((le_need (s := s) (st := xMiss s (xBlank s st')) [62]).out.trans hSo)
              clear hX hXB cT htk hSo
              go_wp2_with fail
              refine (CT.out).mono ?_
              rintro e w21 ⟨rfl, hC1, hg1⟩
              have hblk1 := (hg1.block _ hlb hnb).trans hblk
              have hP1 := hP.other hC hg1
              have hgw1 := hg.trans hg1
              have hlb1 := Nat.lt_of_lt_of_le hlb hg1.size
              clear hC hg hP hblk hg1 hB
              go_wp2_with fail
              refine (CN2.out _ hC1).mono ?_
              rintro e w23 ⟨rfl, hC, hg3⟩
              have hblk := (hg3.block _ hlb1 hnb).trans hblk1
              have hP := hP1.other hC1 hg3
              have hg := hgw1.trans hg3
              clear hC1 hblk1 hgw1 hP1 hg3 hlb hlb1
              have c4z := CurAt.c4 hC
              have b0 := blk4_c0 hblk
              have b1 := blk4_c1 hblk
              have b2 := blk4_c2 hblk
              have b3 := blk4_c3 hblk
              have hPb := own_base hP hbw
              have hTd := HT.out.other HC0.out hg
              have hbd : Below w23.heap.size w23 (w23.drew) := below_drewN w23 1
              have hCd := (hC).below hbd
              have hPd := prRow.below hPb hbd
              have hTd := (hTd).below hbd
              have hgd := (hg).trans (below_grows hbd (some b))
              have hWl : b < w23.heap.size := CurAt.lt hC
              have hba := (Below.refl (w23.drew).heap.size (w23.drew)).alloc (Nat.le_refl _) (Obj.cells #[.int .i64 0, .int .i64 a, .string ⟨(nm).toArray⟩, pv] 30)
              have HCA := Lib.hid (hCd.below hba)
              have HTA := Lib.hid (hTd.below hba)
              have HPA := Lib.hid (hPd.below hba)
              have HGA := Lib.hid (hgd.trans (below_grows hba (some b)))
              have hpo := own_one hPd
              have HNC : Hid (∀ j u, (tkCells (⟨0, a, nm, ps⟩ : Tk) (pv))[j]? = some u → ((w23.drew).alloc (Obj.cells #[.int .i64 0, .int .i64 a, .string ⟨(nm).toArray⟩, pv] 30)).cell? ((⟨w23.heap.size, 0, none⟩ : Addr).add j) = some u) := Lib.hid (cells_new (w23.drew) (tkCells (⟨0, a, nm, ps⟩ : Tk) (pv)) 30)
              have HONE : Hid (∀ u ∈ tkCells (⟨0, a, nm, ps⟩ : Tk) (pv), u.oneCell' = true) := Lib.hid (by intro u hu; simp only [tkCells, List.mem_cons, List.not_mem_nil, or_false] at hu; rcases hu with rfl | rfl | rfl | rfl <;> first | rfl | exact hpo)
              have HM1 : Hid (ts.length + 1 ≤ maxLen) := Lib.hid (by unfold maxLen; omega)
              have HM2 : Hid ((ts.length + 1) * 56 ≤ 140737488355328) := Lib.hid (by omega)
              have HBS : Hid (b ≤ ((w23.drew).alloc (Obj.cells #[.int .i64 0, .int .i64 a, .string ⟨(nm).toArray⟩, pv] 30)).heap.size) := Lib.hid (by have := hba.size; have := hbd.size; omega)
              clear hbd hCd hPd hTd hgd hba hpo
              go_wp2
              go_region_law (refine step_append_lies _ rfl _ _ 24 rfl b 30 i0 _ 4 56 Tryz.underlying24 hi0 hz0 hz1 hz2 rfl (by decide) lv _ _ (by first | rfl | simp [Act.eval, Act.put]) HTA.out.1 ⟨w23.heap.size, 0, none⟩ 1 1 (tkCells (⟨0, a, nm, ps⟩ : Tk) (pv)) (by first | rfl | simp [Act.eval, Act.put]) rfl HNC.out HONE.out (by decide) HM1.out HM2.out HBS.out _ rfl ?_; intro g6 cap6 w6 hown6 hgr6 _ _; have hC6 := tokRow_cur HTA.out hgr6 HCA.out; have f4 := CurAt.fz hC6 4; have c4' := CurAt.c4 hC6; have HOWN6 := Lib.hid hown6; have HGR6 := Lib.hid hgr6; have HC6 := Lib.hid hC6; clear hown6 hgr6 hC6)
              all_goals
                have hC7 := CurAt.set4 HC6.out (.slice (some ⟨g6, 0, none⟩) (ts.length + 1) cap6)
                have hT7 := (tokRow_push (t := (⟨0, a, nm, ps⟩ : Tk)) HTA.out HPA.out HGR6.out HOWN6.out).other HC6.out (grown_set w6 b 4 (.slice (some ⟨g6, 0, none⟩) (ts.length + 1) cap6))
                have hL7 := (low_grown HGA.out hbw).trans ((tokRow_low HTA.out HGR6.out HBS.out).trans (low_grown (grown_set w6 b 4 (.slice (some ⟨g6, 0, none⟩) (ts.length + 1) cap6)) (by have := CurAt.lt HC6.out; omega)))
                have HC7 := Lib.hid hC7
                have HT7 := Lib.hid hT7
                have HL7 := Lib.hid hL7
                clear hC7 hT7 hL7
                go_wp2
                go_end0
                rw [HX.out]
                refine ⟨rfl, ⟨_, _, HC7.out, HT7.out, ?_⟩, HL7.out⟩
                rw [List.map_append, hts]
                show _ = (xNeed s (xMiss s (xBlank s st')) [62]).out ++ _
                rw [HSO.out]
                rfl
          · have hd : decide (0 < blankN (s.drop st'.i)) = true := decide_eq_true (by omega)
            have hXA := hchk.trans (attrs_next hbe (by omega) hp hq hbn)
            have hib : (xBlank s st').i = st'.i + blankN (s.drop st'.i) := rfl
            have hLa : Le s (xBlank s st') (xAttr s (xBlank s st') ps).1 := le_attr ps
            have CA := Lib.hid (fun wx (hw : CurS wx b s (xBlank s st') lv) (hx : Based b wx) (hr : prRow w.heap.size wx pv ps) => xattr_any b s (xBlank s st') lv w.heap.size ps pv wx hw hLi2 hsz hx hr)
            rw [hd]
            clear hchk hp hq
            go_wp2_with fail
            refine (CS2.out _ hC4).mono ?_
            rintro e w14 ⟨rfl, hb5⟩
            have hC5 := hC4.below hb5
            have hB5 := hB4.below hb5
            have hblk5 := (hb5.block _ hlb).trans hblk4
            have hP5 := hP4.below hb5
            have hgw5 := hgw4.trans (below_grows hb5 (some b))
            have hlb := Nat.lt_of_lt_of_le hlb hb5.size
            have b3 := blk4_c3 hblk5
            clear hC4 hB4 hblk4 hP4 hgw4 hb5 CS2
            have hbd : Below w14.heap.size w14 w14.drew := below_drewN w14 1
            have HCd := Lib.hid (hC5.below hbd)
            have HBd := Lib.hid (hB5.below hbd)
            have HKd := Lib.hid ((hbd.block _ hlb).trans hblk5)
            have HPd := Lib.hid (hP5.below hbd)
            have HGd := Lib.hid (hgw5.trans (below_grows hbd (some b)))
            have hlbd := Nat.lt_of_lt_of_le hlb hbd.size
            clear hC5 hB5 hblk5 hP5 hgw5 hbd
            generalize xAttr s (xBlank s st') ps = r at *
            obtain ⟨st2, pn, pvl, pi⟩ := r
            simp only [] at hXA hLa
            have hpc : (prCells ((st2, (⟨pn, pvl, pi⟩ : PrA)) : St × PrA).2).toArray = #[.int .i64 pi, .string ⟨pn.toArray⟩, .string ⟨pvl.toArray⟩] := rfl
            rw [hpc] at CA
            have HONE : Hid (∀ u ∈ prCells (⟨pn, pvl, pi⟩ : PrA), u.oneCell' = true) := Lib.hid (by intro u hu; simp only [prCells, List.mem_cons, List.not_mem_nil, or_false] at hu; rcases hu with rfl | rfl | rfl <;> rfl)
            have HM1 : Hid (ps.length + 1 ≤ maxLen) := Lib.hid (by unfold maxLen; omega)
            have HM2 : Hid ((ps.length + 1) * 40 ≤ 140737488355328) := Lib.hid (by omega)
            clear hpc
            go_wp2
            go_region_law (first | (have hba := (Below.refl w16.heap.size w16).alloc (Nat.le_refl _) (Obj.cells #[.int .i64 pi, .string ⟨pn.toArray⟩, .string ⟨pvl.toArray⟩] 32); have HP7 := Lib.hid (HP6.out.below hba); have HNC := Lib.hid (cells_new w16 (prCells (⟨pn, pvl, pi⟩ : PrA)) 32); have HBS : Hid (w.heap.size ≤ (w16.alloc (Obj.cells #[.int .i64 pi, .string ⟨pn.toArray⟩, .string ⟨pvl.toArray⟩] 32)).heap.size) := Lib.hid (by have := hba.size; have := HG6.out.size; omega); refine step_append_lies _ rfl _ _ 28 rfl w.heap.size 32 p0 _ 3 40 Tryz.underlying28 hp0 hy0 hy1 hy2 rfl (by decide) pv _ _ (by first | rfl | simp [Act.eval, Act.put]) HP7.out ⟨w16.heap.size, 0, none⟩ 1 1 (prCells (⟨pn, pvl, pi⟩ : PrA)) (by first | rfl | simp [Act.eval, Act.put]) rfl HNC.out HONE.out (by decide) HM1.out HM2.out HBS.out _ rfl ?_; intro g6 cap6 w17 hown7 hgr7 _ _; have HOWN7 := Lib.hid hown7; have HGR7 := Lib.hid hgr7; have HC7 := Lib.hid (HC6.out.below hba); have HB7 := Lib.hid (HB6.out.below hba); have HK7 := Lib.hid ((hba.block _ (Array.getElem?_eq_some_iff.1 HK6.out).1).trans HK6.out); have HG7 := Lib.hid (HG6.out.trans (below_grows hba (some b))); have HK8 := Lib.hid (blk_row HK7.out HP7.out HGR7.out); have b3 := blk4_c3 HK8.out; have f3 := frozen_of_row w17 w1.heap.size 3 _ _ HK8.out; clear hown7 hgr7 hba HNC HBS) | (go_simp; go_at_call 112; refine (CA.out _ HCd.out HBd.out HPd.out).mono ?_; rintro e w16 ⟨rfl, hC6, hg6⟩; have HC6 := Lib.hid hC6; have HB6 := Lib.hid (HBd.out.grown hg6); have HK6 := Lib.hid ((hg6.block _ hlbd hnb).trans HKd.out); have HP6 := Lib.hid (HPd.out.other HCd.out hg6); have HG6 := Lib.hid (HGd.out.trans hg6); have b3' := blk4_c3 HK6.out; have b3'' := blk4_c3a HK6.out (Obj.cells #[.int .i64 pi, .string ⟨pn.toArray⟩, .string ⟨pvl.toArray⟩] 32); clear hC6 hg6))
            all_goals
              have hpv := HP7.out.lt
              have hbs7 : b < _ := CurAt.lt HC7.out
              have hC8 : CurS w17 b s st2 lv := (HGR7.out.block b hbs7 (fun e => by have := hpv b e.symm; omega)).trans HC7.out
              have hgw8 : w.grownBy w17 (some b) := ⟨HGR7.out.os.trans HG7.out.os, HGR7.out.tape.trans HG7.out.tape, HGR7.out.output.trans HG7.out.output, Nat.le_trans HG7.out.size HGR7.out.size, fun k hk hkb => (HGR7.out.block k (Nat.lt_of_lt_of_le hk HG7.out.size) (fun e => by have := hpv k e.symm; omega)).trans (HG7.out.block k hk hkb)⟩
              have hB8 : Based b w17 := HB7.out.belowb ⟨HGR7.out.os, HGR7.out.tape, HGR7.out.output, HGR7.out.size, fun k hk => HGR7.out.block k (Nat.lt_trans hk hbs7) (fun e => by have := hpv k e.symm; omega)⟩
              have hown8 : prRow w.heap.size w17 (.slice (some ⟨g6, 0, none⟩) (ps.length + 1) cap6) (ps ++ [(⟨pn, pvl, pi⟩ : PrA)]) := by
                unfold prRow
                rw [List.length_append, List.flatMap_append]
                simpa using HOWN7.out
              have hne9 : b ≠ w1.heap.size := by omega
              have HC9 := Lib.hid (hC8.set hne9 3 (.slice (some ⟨g6, 0, none⟩) (ps.length + 1) cap6))
              have HB9 := Lib.hid (hB8.set (by omega : b ≤ w1.heap.size) 3 (.slice (some ⟨g6, 0, none⟩) (ps.length + 1) cap6))
              have HK9 := Lib.hid (heap_setCell_same w17 w1.heap.size 3 _ _ (.slice (some ⟨g6, 0, none⟩) (ps.length + 1) cap6) HK8.out)
              have HP9 : Hid (prRow w.heap.size (w17.setCell ⟨w1.heap.size, 3, none⟩ (.slice (some ⟨g6, 0, none⟩) (ps.length + 1) cap6)) (.slice (some ⟨g6, 0, none⟩) (ps.length + 1) cap6) (ps ++ [(⟨pn, pvl, pi⟩ : PrA)])) := Lib.hid (own_other hown8 (grown_set w17 w1.heap.size 3 (.slice (some ⟨g6, 0, none⟩) (ps.length + 1) cap6)) HK8.out (by decide))
              have HG9 := Lib.hid (grown_setNew hgw8 (by omega : w.heap.size ≤ w1.heap.size) 3 (.slice (some ⟨g6, 0, none⟩) (ps.length + 1) cap6))
              have hLa1 := hLa.i
              have hLa2 := hLa.ii hLi2
              have hLa3 := hLa.out.trans hSo2
              clear hC8 hgw8 hB8 hown8 hpv hbs7
              go_wp2
              go_roundw
              case rel => exact ⟨st2, ps ++ [(⟨pn, pvl, pi⟩ : PrA)], _, f - 1, HC9.out, HB9.out, HK9.out, HP9.out, HG9.out, hXA, by omega, hLa2, by rw [List.length_append]; simp; omega, hLa3⟩
              case measure =>
                rw [curI_eq HC9.out, HB0.out]
                omega
    · rw [decide_eq_false hbe] at cF
      have CF := Lib.hid cF
      have hXA := hchk.trans (attrs_be hbe)
      clear cF hchk
      go_wp2_with fail
      refine (CF.out).mono ?_
      rintro e w11 ⟨rfl, rfl⟩
      have hX : xOpen s st a = xOpenB s (st') a nm ps := by unfold xOpen; rw [hnm, hXA]
      have hXB : xOpenB s (st') a nm ps = if xTake s (st') [47] = true then xPush (xNeed s (xMove (st') 1) [62]) ⟨2, a, nm, ps⟩ else xPush (xNeed s (st') [62]) ⟨0, a, nm, ps⟩ := rfl
      have cT := ctake_any b s (st') lv [47] ⟨#[47]⟩ rfl w11 hC hLi hs2
      have hlb := (Array.getElem?_eq_some_iff.1 hblk).1
      have hnb : some w1.heap.size ≠ some b := by simp; omega
      clear hXA
      cases htk : xTake s (st') [47] with
      | true =>
        rw [htk, if_pos rfl] at hXB cT
        have HX := Lib.hid (hX.trans hXB)
        have CT := Lib.hid cT
        have hml : (xMove (st') 1).i ≤ s.length := by
          have := hasPre_len (take_len htk).1
          rw [List.length_drop] at this
          simp at this
          show (st').i + 1 ≤ _
          omega
        have CN2 := Lib.hid (fun wx (hw : CurS wx b s (xMove (st') 1) lv) => cneed_any b s (xMove (st') 1) lv [62] ⟨#[62]⟩ rfl wx hw hml hs2)
        have HSO : Hid ((xNeed s (xMove (st') 1) [62]).out = st.out) := Lib.hid ((le_need (s := s) (st := xMove (st') 1) [62]).out.trans hSo)
        clear hX hXB cT htk hml hSo
        go_wp2_with fail
        refine (CT.out).mono ?_
        rintro e w21 ⟨rfl, hC1, hg1⟩
        have hblk1 := (hg1.block _ hlb hnb).trans hblk
        have hP1 := hP.other hC hg1
        have hgw1 := hg.trans hg1
        have b0 := blk4_c0 hblk1
        have f0 := frozen_of_row w21 w1.heap.size 0 _ _ hblk1
        have hlb1 := Nat.lt_of_lt_of_le hlb hg1.size
        obtain ⟨w22, hw22⟩ : ∃ w22, w22 = w21.setCell ⟨w1.heap.size, 0, none⟩ (.int .i64 2) := ⟨_, rfl⟩
        have hC2 : CurS w22 b s (xMove (st') 1) lv := by rw [hw22]; exact CurS.set hC1 (by omega) _ _
        have hblk2 : w22.heap[w1.heap.size]? = some (.cells #[.int .i64 2, .int .i64 a, .string ⟨nm.toArray⟩, pv] 30 (0, 0)) := by rw [hw22]; exact heap_setCell_same w21 w1.heap.size 0 _ _ _ hblk1
        have hgw2 : w.grownBy w22 (some b) := by rw [hw22]; exact grown_setNew hgw1 (by omega) _ _
        have hP2 : prRow w.heap.size w22 pv ps := by rw [hw22]; exact own_other hP1 (grown_set w21 w1.heap.size 0 _) hblk1 (by decide)
        have hlb2 := (Array.getElem?_eq_some_iff.1 hblk2).1
        clear hC hg hP hblk hC1 hg1 hblk1 hP1 hgw1 hB
        go_wp2_with fail
        rw [← hw22]
        clear hw22 b0 f0
        refine (CN2.out _ hC2).mono ?_
        rintro e w23 ⟨rfl, hC, hg3⟩
        have hblk := (hg3.block _ hlb2 hnb).trans hblk2
        have hP := hP2.other hC2 hg3
        have hg := hgw2.trans hg3
        clear hC2 hblk2 hgw2 hP2 hg3 hlb hlb1 hlb2
        have c4z := CurAt.c4 hC
        have b0 := blk4_c0 hblk
        have b1 := blk4_c1 hblk
        have b2 := blk4_c2 hblk
        have b3 := blk4_c3 hblk
        have hPb := own_base hP hbw
        have hTd := HT.out.other HC0.out hg
        have hbd : Below w23.heap.size w23 (w23.drew) := below_drewN w23 1
        have hCd := (hC).below hbd
        have hPd := prRow.below hPb hbd
        have hTd := (hTd).below hbd
        have hgd := (hg).trans (below_grows hbd (some b))
        have hWl : b < w23.heap.size := CurAt.lt hC
        have hba := (Below.refl (w23.drew).heap.size (w23.drew)).alloc (Nat.le_refl _) (Obj.cells #[.int .i64 2, .int .i64 a, .string ⟨(nm).toArray⟩, pv] 30)
        have HCA := Lib.hid (hCd.below hba)
        have HTA := Lib.hid (hTd.below hba)
        have HPA := Lib.hid (hPd.below hba)
        have HGA := Lib.hid (hgd.trans (below_grows hba (some b)))
        have hpo := own_one hPd
        have HNC : Hid (∀ j u, (tkCells (⟨2, a, nm, ps⟩ : Tk) (pv))[j]? = some u → ((w23.drew).alloc (Obj.cells #[.int .i64 2, .int .i64 a, .string ⟨(nm).toArray⟩, pv] 30)).cell? ((⟨w23.heap.size, 0, none⟩ : Addr).add j) = some u) := Lib.hid (cells_new (w23.drew) (tkCells (⟨2, a, nm, ps⟩ : Tk) (pv)) 30)
        have HONE : Hid (∀ u ∈ tkCells (⟨2, a, nm, ps⟩ : Tk) (pv), u.oneCell' = true) := Lib.hid (by intro u hu; simp only [tkCells, List.mem_cons, List.not_mem_nil, or_false] at hu; rcases hu with rfl | rfl | rfl | rfl <;> first | rfl | exact hpo)
        have HM1 : Hid (ts.length + 1 ≤ maxLen) := Lib.hid (by unfold maxLen; omega)
        have HM2 : Hid ((ts.length + 1) * 56 ≤ 140737488355328) := Lib.hid (by omega)
        have HBS : Hid (b ≤ ((w23.drew).alloc (Obj.cells #[.int .i64 2, .int .i64 a, .string ⟨(nm).toArray⟩, pv] 30)).heap.size) := Lib.hid (by have := hba.size; have := hbd.size; omega)
        clear hbd hCd hPd hTd hgd hba hpo
        go_wp2
        go_region_law (refine step_append_lies _ rfl _ _ 24 rfl b 30 i0 _ 4 56 Tryz.underlying24 hi0 hz0 hz1 hz2 rfl (by decide) lv _ _ (by first | rfl | simp [Act.eval, Act.put]) HTA.out.1 ⟨w23.heap.size, 0, none⟩ 1 1 (tkCells (⟨2, a, nm, ps⟩ : Tk) (pv)) (by first | rfl | simp [Act.eval, Act.put]) rfl HNC.out HONE.out (by decide) HM1.out HM2.out HBS.out _ rfl ?_; intro g6 cap6 w6 hown6 hgr6 _ _; have hC6 := tokRow_cur HTA.out hgr6 HCA.out; have f4 := CurAt.fz hC6 4; have c4' := CurAt.c4 hC6; have HOWN6 := Lib.hid hown6; have HGR6 := Lib.hid hgr6; have HC6 := Lib.hid hC6; clear hown6 hgr6 hC6)
        all_goals
          have hC7 := CurAt.set4 HC6.out (.slice (some ⟨g6, 0, none⟩) (ts.length + 1) cap6)
          have hT7 := (tokRow_push (t := (⟨2, a, nm, ps⟩ : Tk)) HTA.out HPA.out HGR6.out HOWN6.out).other HC6.out (grown_set w6 b 4 (.slice (some ⟨g6, 0, none⟩) (ts.length + 1) cap6))
          have hL7 := (low_grown HGA.out hbw).trans ((tokRow_low HTA.out HGR6.out HBS.out).trans (low_grown (grown_set w6 b 4 (.slice (some ⟨g6, 0, none⟩) (ts.length + 1) cap6)) (by have := CurAt.lt HC6.out; omega)))
          have HC7 := Lib.hid hC7
          have HT7 := Lib.hid hT7
          have HL7 := Lib.hid hL7
          clear hC7 hT7 hL7
          go_wp2
          go_end0
          rw [HX.out]
          refine ⟨rfl, ⟨_, _, HC7.out, HT7.out, ?_⟩, HL7.out⟩
          rw [List.map_append, hts]
          show _ = (xNeed s (xMove (st') 1) [62]).out ++ _
          rw [HSO.out]
          rfl
      | false =>
        rw [htk, if_neg (by decide)] at hXB cT
        have HX := Lib.hid (hX.trans hXB)
        have CT := Lib.hid cT
        have CN2 := Lib.hid (fun wx (hw : CurS wx b s (st') lv) => cneed_any b s (st') lv [62] ⟨#[62]⟩ rfl wx hw hLi hs2)
        have HSO : Hid ((xNeed s (st') [62]).out = st.out) := Lib.hid ((le_need (s := s) (st := st') [62]).out.trans hSo)
        clear hX hXB cT htk hSo
        go_wp2_with fail
        refine (CT.out).mono ?_
        rintro e w21 ⟨rfl, hC1, hg1⟩
        have hblk1 := (hg1.block _ hlb hnb).trans hblk
        have hP1 := hP.other hC hg1
        have hgw1 := hg.trans hg1
        have hlb1 := Nat.lt_of_lt_of_le hlb hg1.size
        clear hC hg hP hblk hg1 hB
        go_wp2_with fail
        refine (CN2.out _ hC1).mono ?_
        rintro e w23 ⟨rfl, hC, hg3⟩
        have hblk := (hg3.block _ hlb1 hnb).trans hblk1
        have hP := hP1.other hC1 hg3
        have hg := hgw1.trans hg3
        clear hC1 hblk1 hgw1 hP1 hg3 hlb hlb1
        have c4z := CurAt.c4 hC
        have b0 := blk4_c0 hblk
        have b1 := blk4_c1 hblk
        have b2 := blk4_c2 hblk
        have b3 := blk4_c3 hblk
        have hPb := own_base hP hbw
        have hTd := HT.out.other HC0.out hg
        have hbd : Below w23.heap.size w23 (w23.drew) := below_drewN w23 1
        have hCd := (hC).below hbd
        have hPd := prRow.below hPb hbd
        have hTd := (hTd).below hbd
        have hgd := (hg).trans (below_grows hbd (some b))
        have hWl : b < w23.heap.size := CurAt.lt hC
        have hba := (Below.refl (w23.drew).heap.size (w23.drew)).alloc (Nat.le_refl _) (Obj.cells #[.int .i64 0, .int .i64 a, .string ⟨(nm).toArray⟩, pv] 30)
        have HCA := Lib.hid (hCd.below hba)
        have HTA := Lib.hid (hTd.below hba)
        have HPA := Lib.hid (hPd.below hba)
        have HGA := Lib.hid (hgd.trans (below_grows hba (some b)))
        have hpo := own_one hPd
        have HNC : Hid (∀ j u, (tkCells (⟨0, a, nm, ps⟩ : Tk) (pv))[j]? = some u → ((w23.drew).alloc (Obj.cells #[.int .i64 0, .int .i64 a, .string ⟨(nm).toArray⟩, pv] 30)).cell? ((⟨w23.heap.size, 0, none⟩ : Addr).add j) = some u) := Lib.hid (cells_new (w23.drew) (tkCells (⟨0, a, nm, ps⟩ : Tk) (pv)) 30)
        have HONE : Hid (∀ u ∈ tkCells (⟨0, a, nm, ps⟩ : Tk) (pv), u.oneCell' = true) := Lib.hid (by intro u hu; simp only [tkCells, List.mem_cons, List.not_mem_nil, or_false] at hu; rcases hu with rfl | rfl | rfl | rfl <;> first | rfl | exact hpo)
        have HM1 : Hid (ts.length + 1 ≤ maxLen) := Lib.hid (by unfold maxLen; omega)
        have HM2 : Hid ((ts.length + 1) * 56 ≤ 140737488355328) := Lib.hid (by omega)
        have HBS : Hid (b ≤ ((w23.drew).alloc (Obj.cells #[.int .i64 0, .int .i64 a, .string ⟨(nm).toArray⟩, pv] 30)).heap.size) := Lib.hid (by have := hba.size; have := hbd.size; omega)
        clear hbd hCd hPd hTd hgd hba hpo
        go_wp2
        go_region_law (refine step_append_lies _ rfl _ _ 24 rfl b 30 i0 _ 4 56 Tryz.underlying24 hi0 hz0 hz1 hz2 rfl (by decide) lv _ _ (by first | rfl | simp [Act.eval, Act.put]) HTA.out.1 ⟨w23.heap.size, 0, none⟩ 1 1 (tkCells (⟨0, a, nm, ps⟩ : Tk) (pv)) (by first | rfl | simp [Act.eval, Act.put]) rfl HNC.out HONE.out (by decide) HM1.out HM2.out HBS.out _ rfl ?_; intro g6 cap6 w6 hown6 hgr6 _ _; have hC6 := tokRow_cur HTA.out hgr6 HCA.out; have f4 := CurAt.fz hC6 4; have c4' := CurAt.c4 hC6; have HOWN6 := Lib.hid hown6; have HGR6 := Lib.hid hgr6; have HC6 := Lib.hid hC6; clear hown6 hgr6 hC6)
        all_goals
          have hC7 := CurAt.set4 HC6.out (.slice (some ⟨g6, 0, none⟩) (ts.length + 1) cap6)
          have hT7 := (tokRow_push (t := (⟨0, a, nm, ps⟩ : Tk)) HTA.out HPA.out HGR6.out HOWN6.out).other HC6.out (grown_set w6 b 4 (.slice (some ⟨g6, 0, none⟩) (ts.length + 1) cap6))
          have hL7 := (low_grown HGA.out hbw).trans ((tokRow_low HTA.out HGR6.out HBS.out).trans (low_grown (grown_set w6 b 4 (.slice (some ⟨g6, 0, none⟩) (ts.length + 1) cap6)) (by have := CurAt.lt HC6.out; omega)))
          have HC7 := Lib.hid hC7
          have HT7 := Lib.hid hT7
          have HL7 := Lib.hid hL7
          clear hC7 hT7 hL7
          go_wp2
          go_end0
          rw [HX.out]
          refine ⟨rfl, ⟨_, _, HC7.out, HT7.out, ?_⟩, HL7.out⟩
          rw [List.map_append, hts]
          show _ = (xNeed s (st') [62]).out ++ _
          rw [HSO.out]
          rfl

end Go.Proofs.YtblhpkcdemefaaaGreatDoor
