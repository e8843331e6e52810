/- Walks: xmltok.Same: slices.EqualFunc over tokens and over attributes. Walks: xmltok.Same: slices.EqualFunc over tokens. -/
import Derived.Test.YtblhpkcdemefaaaGreatDoorSame
import Derived.Test.YtblhpkcdemefaaaGreatDoorWa
import Derived.Test.YtblhpkcdemefaaaGreatDoorGr
set_option linter.unusedVariables false
set_option linter.unusedSimpArgs false
namespace Go.Proofs.YtblhpkcdemefaaaGreatDoor
open Go.RowKit

theorem eg_pairEq : ∀ args w, (callFunc 39 args).run Tryz.prog w = .ok (.enter 39 args) w := enters_of Tryz.func39 (by kernel_rfl) rfl
theorem eg_tokEq : ∀ args w, (callFunc 37 args).run Tryz.prog w = .ok (.enter 37 args) w := enters_of Tryz.func37 (by kernel_rfl) rfl

theorem sameP_f (x y : RP) : sameP false x y = (x.name == y.name && x.value == y.value) := by unfold sameP; simp

set_option maxHeartbeats 2000000 in
theorem pairEq_any (xa ya : Int) (xn xv yn yv : List UInt8) (w : World) :
    Calls Tryz.prog 39 #[.agg #[.int .i64 xa, .string ⟨xn.toArray⟩, .string ⟨xv.toArray⟩], .agg #[.int .i64 ya, .string ⟨yn.toArray⟩, .string ⟨yv.toArray⟩]] w fun e w' => e = .returned (.bool (xn == yn && xv == yv)) ∧ Below w.heap.size w w' := by
  have hb := below_two (Below.refl w.heap.size w) (Nat.le_refl _) (Obj.cells #[.int .i64 xa, .string ⟨xn.toArray⟩, .string ⟨xv.toArray⟩] 32) (Obj.cells #[.int .i64 ya, .string ⟨yn.toArray⟩, .string ⟨yv.toArray⟩] 32)
  by_cases h1 : xn = yn
  · subst h1
    by_cases h2 : xv = yv
    · subst h2
      go_enter Tryz.func39, Tryz.ntmps39
      go_wp2
      go_ret
      exact ⟨by simp, hb⟩
    · have e2 : (xv == yv) = false := beq_eq_false_iff_ne.2 h2
      have HF : Hid ((xn == xn && xv == yv) = false) := Lib.hid (by rw [e2, Bool.and_false])
      go_enter Tryz.func39, Tryz.ntmps39
      go_wp2
      go_ret
      rw [HF.out]
      exact ⟨rfl, hb⟩
  · have e1 : (xn == yn) = false := beq_eq_false_iff_ne.2 h1
    have HF : Hid ((xn == yn && xv == yv) = false) := Lib.hid (by rw [e1, Bool.false_and])
    go_enter Tryz.func39, Tryz.ntmps39
    go_wp2
    go_ret
    rw [HF.out]
    exact ⟨rfl, hb⟩

def eqPs (a b : List RP) : Bool := a.length == b.length && samePs false a b

set_option maxHeartbeats 4000000 in
set_option maxRecDepth 100000 in
theorem eqPairs_any (a b : List RP) (va vb : Value) (w : World) (ha : PairsAt w va a) (hb : PairsAt w vb b) (hla : a.length ≤ 1000000000) (hlb : b.length ≤ 1000000000) :
    Calls Tryz.prog 38 #[va, vb, .func (.func 39) #[] #[]] w fun e w' => e = .returned (.bool (eqPs a b)) ∧ Below w.heap.size w w' := by
  have eg := eg_pairEq
  obtain ⟨p, capa, rfl, hca, hA⟩ := ha
  obtain ⟨q, capb, rfl, hcb, hB⟩ := hb
  by_cases hlen : a.length = b.length
  · have hL : eqPs a b = samePs false a b := by unfold eqPs; rw [beq_iff_eq.2 hlen, Bool.true_and]
    have HL := Lib.hid hL
    obtain ⟨n, hn⟩ : ∃ n, a.length = n := ⟨_, rfl⟩
    have hn2 : b.length = n := by omega
    have HA := Lib.hid hA
    have HB := Lib.hid hB
    have HN := Lib.hid hn
    have HN2 := Lib.hid hn2
    rw [hn] at hla hca ⊢
    rw [hn2] at hlb hcb ⊢
    clear hL hlen hA hB hn hn2
    go_enter Tryz.func38, Tryz.ntmps38
    go_wp2
    go_loopw [17] (fun v17 wr => ∃ i : Nat, v17 = .int .i64 i ∧ i ≤ n ∧ Below w.heap.size w wr ∧ Hid (samePs false a b = samePs false (a.drop i) (b.drop i))) (fun v17 _ => n - (intOf v17).toNat)
    case atStart => exact ⟨0, rfl, Nat.zero_le _, Below.refl _ _, Lib.hid rfl⟩
    case round =>
      obtain ⟨i, rfl, hin, hbw, hchk⟩ := hrel
      have hs := hbw.size
      by_cases hi : i < n
      · have hia : i < a.length := by rw [HN.out]; exact hi
        have hib : i < b.length := by rw [HN2.out]; exact hi
        obtain ⟨g, off, hp, a0, a1, a2⟩ := HA.out i hia
        obtain ⟨g', off', hq, b0, b1, b2⟩ := HB.out i hib
        have hst := samePs_drop false hia hib
        generalize a[i] = x at *
        generalize b[i] = y at *
        subst hp hq
        obtain ⟨xa, xn, xv⟩ := x
        obtain ⟨ya, yn, yv⟩ := y
        rw [sameP_f] at hst
        simp only [] at a0 a1 a2 b0 b1 b2 hst
        have a0' := cellB hbw a0
        have a1' := cellB hbw a1
        have a2' := cellB hbw a2
        have b0' := cellB hbw b0
        have b1' := cellB hbw b1
        have b2' := cellB hbw b2
        have hlb0 := Lib.lt_of_cell b0'
        have hbx := below_two hbw hs (Obj.cells #[.int .i64 xa, .string ⟨xn.toArray⟩, .string ⟨xv.toArray⟩] 32) (Obj.cells #[.int .i64 ya, .string ⟨yn.toArray⟩, .string ⟨yv.toArray⟩] 32)
        have cE := fun wx => pairEq_any xa ya xn xv yn yv wx
        cases he : (xn == yn && xv == yv) with
        | true =>
          rw [he, Bool.true_and] at hst
          rw [he] at cE
          have CE := Lib.hid cE
          have HST := Lib.hid (hchk.out.trans hst)
          clear cE hst hchk he a0 a1 a2 b0 b1 b2
          go_wp2_with (go_at_fn 39; refine (CE.out _).mono ?_; rintro e w2 ⟨rfl, hb2⟩)
          go_roundw
          case rel => exact ⟨i + 1, by go_num, by omega, hbx.trans (hb2.mono hbx.size), HST⟩
          case measure => simp [intOf]; omega
        | false =>
          rw [he, Bool.false_and] at hst
          rw [he] at cE
          have CE := Lib.hid cE
          have HF : Hid (eqPs a b = false) := Lib.hid (HL.out.trans (hchk.out.trans hst))
          clear cE hst hchk he a0 a1 a2 b0 b1 b2
          go_wp2_with (go_at_fn 39; refine (CE.out _).mono ?_; rintro e w2 ⟨rfl, hb2⟩)
          go_ret
          rw [HF.out]
          exact ⟨rfl, hbx.trans (hb2.mono hbx.size)⟩
      · have HF : Hid (eqPs a b = true) := Lib.hid (by rw [HL.out, hchk.out, List.drop_eq_nil_of_le (by rw [HN.out]; omega), samePs_nil])
        clear hchk
        go_wp2
        go_ret
        rw [HF.out]
        exact ⟨rfl, hbw⟩
  · have HF : Hid (eqPs a b = false) := Lib.hid (by unfold eqPs; rw [beq_eq_false_iff_ne.2 hlen, Bool.false_and])
    have il : ((a.length : Int) != (b.length : Int)) = true := by rw [bne_iff_ne]; omega
    have il' : ((a.length : Int) == (b.length : Int)) = false := by rw [beq_eq_false_iff_ne]; omega
    clear hA hB hlen
    go_enter Tryz.func38, Tryz.ntmps38
    go_wp2
    go_ret
    rw [HF.out]
    exact ⟨rfl, Below.refl _ _⟩

end Go.Proofs.YtblhpkcdemefaaaGreatDoor

namespace Go.Proofs.YtblhpkcdemefaaaGreatDoor
open Go.RowKit

def eqT (t u : RT) : Bool := t.kind == u.kind && (t.s == u.s && eqPs t.attrs u.attrs)
theorem eqT_same (t u : RT) : eqT t u = (sameH false t u && samePs false t.attrs u.attrs) := by
  unfold eqT sameH eqPs
  cases t.kind == u.kind <;> cases t.s == u.s <;> cases t.attrs.length == u.attrs.length <;> simp

set_option maxHeartbeats 4000000 in
set_option maxRecDepth 100000 in
theorem tokEq_any (t u : RT) (va vb : Value) (w : World) (ha : PairsAt w va t.attrs) (hb : PairsAt w vb u.attrs) (hla : t.attrs.length ≤ 1000000000) (hlb : u.attrs.length ≤ 1000000000) :
    Calls Tryz.prog 37 #[.agg #[.int .i64 t.kind, .int .i64 t.at_, .string ⟨t.s.toArray⟩, va], .agg #[.int .i64 u.kind, .int .i64 u.at_, .string ⟨u.s.toArray⟩, vb]] w fun e w' => e = .returned (.bool (eqT t u)) ∧ Below w.heap.size w w' := by
  obtain ⟨tk, ta, ts, tp⟩ := t
  obtain ⟨uk, ua, us, up⟩ := u
  have ha' := ha
  have hb' := hb
  obtain ⟨p, pc, rfl, _⟩ := ha'
  obtain ⟨q, qc, rfl, _⟩ := hb'
  have hE : eqT ⟨tk, ta, ts, tp⟩ ⟨uk, ua, us, up⟩ = (tk == uk && (ts == us && eqPs tp up)) := rfl
  simp only [] at ha hb hla hlb ⊢
  have hbb := below_two (Below.refl w.heap.size w) (Nat.le_refl _) (Obj.cells #[.int .i64 tk, .int .i64 ta, .string ⟨ts.toArray⟩, .slice p tp.length pc] 30) (Obj.cells #[.int .i64 uk, .int .i64 ua, .string ⟨us.toArray⟩, .slice q up.length qc] 30)
  by_cases hk : tk = uk
  · subst hk
    by_cases hs : ts = us
    · subst hs
      have cP := eqPairs_any tp up _ _ _ (ha.below hbb) (hb.below hbb) hla hlb
      have hE' : eqT ⟨tk, ta, ts, tp⟩ ⟨tk, ua, ts, up⟩ = eqPs tp up := by rw [hE]; simp
      have HE := Lib.hid hE'
      clear hE hE' ha hb
      generalize eqPs tp up = r at *
      have CP := Lib.hid cP
      clear cP
      go_enter Tryz.func37, Tryz.ntmps37
      go_wp2_with fail
      refine (CP.out).mono ?_
      rintro e w2 ⟨rfl, hb2⟩
      go_wp2
      go_ret
      rw [HE.out]
      exact ⟨rfl, hbb.trans (hb2.mono hbb.size)⟩
    · have es : (ts == us) = false := beq_eq_false_iff_ne.2 hs
      have HF : Hid (eqT ⟨tk, ta, ts, tp⟩ ⟨tk, ua, us, up⟩ = false) := Lib.hid (by rw [hE, es, Bool.false_and, Bool.and_false])
      clear hE
      go_enter Tryz.func37, Tryz.ntmps37
      go_wp2
      go_ret
      rw [HF.out]
      exact ⟨rfl, hbb⟩
  · have ek : (tk == uk) = false := beq_eq_false_iff_ne.2 hk
    have HF : Hid (eqT ⟨tk, ta, ts, tp⟩ ⟨uk, ua, us, up⟩ = false) := Lib.hid (by rw [hE, ek, Bool.false_and])
    clear hE
    go_enter Tryz.func37, Tryz.ntmps37
    go_wp2
    go_ret
    rw [HF.out]
    exact ⟨rfl, hbb⟩

set_option maxHeartbeats 4000000 in
set_option maxRecDepth 100000 in
theorem eqToks_any (a b : List RT) (va vb : Value) (w : World) (ha : ToksAt w va a) (hb : ToksAt w vb b) (hla : a.length ≤ 1000000000) (hlb : b.length ≤ 1000000000) (hpa : ∀ t ∈ a, t.attrs.length ≤ 1000000000) (hpb : ∀ t ∈ b, t.attrs.length ≤ 1000000000) :
    Calls Tryz.prog 36 #[va, vb, .func (.func 37) #[] #[]] w fun e w' => e = .returned (.bool (sameL false a b)) ∧ Below w.heap.size w w' := by
  have eg := eg_tokEq
  obtain ⟨p, capa, rfl, hca, hA⟩ := ha
  obtain ⟨q, capb, rfl, hcb, hB⟩ := hb
  by_cases hlen : a.length = b.length
  · have hL : sameL false a b = sameTs false a b := by unfold sameL; rw [beq_iff_eq.2 hlen, Bool.true_and]
    have HL := Lib.hid hL
    obtain ⟨n, hn⟩ : ∃ n, a.length = n := ⟨_, rfl⟩
    have hn2 : b.length = n := by omega
    have HA := Lib.hid hA
    have HB := Lib.hid hB
    have HN := Lib.hid hn
    have HN2 := Lib.hid hn2
    have HPA := Lib.hid hpa
    have HPB := Lib.hid hpb
    rw [hn] at hla hca ⊢
    rw [hn2] at hlb hcb ⊢
    clear hL hlen hA hB hn hn2 hpa hpb
    go_enter Tryz.func36, Tryz.ntmps36
    go_wp2
    go_loopw [17] (fun v17 wr => ∃ i : Nat, v17 = .int .i64 i ∧ i ≤ n ∧ Below w.heap.size w wr ∧ Hid (sameTs false a b = sameTs false (a.drop i) (b.drop i))) (fun v17 _ => n - (intOf v17).toNat)
    case atStart => exact ⟨0, rfl, Nat.zero_le _, Below.refl _ _, Lib.hid rfl⟩
    case round =>
      obtain ⟨i, rfl, hin, hbw, hchk⟩ := hrel
      have hs := hbw.size
      by_cases hi : i < n
      · have hia : i < a.length := by rw [HN.out]; exact hi
        have hib : i < b.length := by rw [HN2.out]; exact hi
        obtain ⟨g, off, av, hp, a0, a1, a2, a3, a4⟩ := HA.out i hia
        obtain ⟨g', off', bv, hq, b0, b1, b2, b3, b4⟩ := HB.out i hib
        have hat := HPA.out _ (List.getElem_mem hia)
        have hbt := HPB.out _ (List.getElem_mem hib)
        have hst := sameTs_drop false hia hib
        rw [← eqT_same] at hst
        generalize a[i] = t at *
        generalize b[i] = u at *
        subst hp hq
        have a4' := a4
        have b4' := b4
        obtain ⟨pp, cpa, rfl, _⟩ := a4'
        obtain ⟨qq, cqa, rfl, _⟩ := b4'
        have a0' := cellB hbw a0
        have a1' := cellB hbw a1
        have a2' := cellB hbw a2
        have a3' := cellB hbw a3
        have b0' := cellB hbw b0
        have b1' := cellB hbw b1
        have b2' := cellB hbw b2
        have b3' := cellB hbw b3
        have hlb0 := Lib.lt_of_cell b0'
        have hbx := below_two hbw hs (Obj.cells #[.int .i64 t.kind, .int .i64 t.at_, .string ⟨t.s.toArray⟩, .slice pp t.attrs.length cpa] 30) (Obj.cells #[.int .i64 u.kind, .int .i64 u.at_, .string ⟨u.s.toArray⟩, .slice qq u.attrs.length cqa] 30)
        have cE := tokEq_any t u _ _ _ (a4.below hbx) (b4.below hbx) hat hbt
        cases he : eqT t u with
        | true =>
          rw [he, Bool.true_and] at hst
          rw [he] at cE
          have CE := Lib.hid cE
          have HST := Lib.hid (hchk.out.trans hst)
          clear cE hst hchk he a0 a1 a2 a3 b0 b1 b2 b3 a4 b4
          go_wp2_with (go_at_fn 37; refine (CE.out).mono ?_; rintro e w2 ⟨rfl, hb2⟩)
          go_roundw
          case rel => exact ⟨i + 1, by go_num, by omega, hbx.trans (hb2.mono hbx.size), HST⟩
          case measure => simp [intOf]; omega
        | false =>
          rw [he, Bool.false_and] at hst
          rw [he] at cE
          have CE := Lib.hid cE
          have HF : Hid (sameL false a b = false) := Lib.hid (HL.out.trans (hchk.out.trans hst))
          clear cE hst hchk he a0 a1 a2 a3 b0 b1 b2 b3 a4 b4
          go_wp2_with (go_at_fn 37; refine (CE.out).mono ?_; rintro e w2 ⟨rfl, hb2⟩)
          go_ret
          rw [HF.out]
          exact ⟨rfl, hbx.trans (hb2.mono hbx.size)⟩
      · have HF : Hid (sameL false a b = true) := Lib.hid (by rw [HL.out, hchk.out, List.drop_eq_nil_of_le (by rw [HN.out]; omega), sameTs_nil])
        clear hchk
        go_wp2
        go_ret
        rw [HF.out]
        exact ⟨rfl, hbw⟩
  · have HF : Hid (sameL false a b = false) := Lib.hid (by unfold sameL; rw [beq_eq_false_iff_ne.2 hlen, Bool.false_and])
    have il : ((a.length : Int) != (b.length : Int)) = true := by rw [bne_iff_ne]; omega
    have il' : ((a.length : Int) == (b.length : Int)) = false := by rw [beq_eq_false_iff_ne]; omega
    clear hA hB hlen
    go_enter Tryz.func36, Tryz.ntmps36
    go_wp2
    go_ret
    rw [HF.out]
    exact ⟨rfl, Below.refl _ _⟩

theorem xsame_any (a b : List RT) (va vb : Value) (w : World) (ha : ToksAt w va a) (hb : ToksAt w vb b) (hla : a.length ≤ 1000000000) (hlb : b.length ≤ 1000000000) (hpa : ∀ t ∈ a, t.attrs.length ≤ 1000000000) (hpb : ∀ t ∈ b, t.attrs.length ≤ 1000000000) :
    Calls Tryz.prog 17 #[va, vb] w fun e w' => e = .returned (.bool (sameL false a b)) ∧ Below w.heap.size w w' := by
  have C := Lib.hid (eqToks_any a b va vb w ha hb hla hlb hpa hpb)
  clear ha hb hla hlb hpa hpb
  go_enter Tryz.func17, Tryz.ntmps17
  go_wp2_with fail
  refine (C.out).mono ?_
  rintro e w2 ⟨rfl, hb2⟩
  go_wp2
  go_ret
  exact ⟨rfl, hb2⟩

end Go.Proofs.YtblhpkcdemefaaaGreatDoor
