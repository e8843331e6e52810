/- Walks: tipstaveref04.Same, at slices of tokens wherever they lie. -/
import Derived.Test.YtblhpkcdemefaaaGreatDoorTok
import Derived.Deep.QuietTactic
import Derived.BigQuiet
set_option linter.unusedVariables false
set_option linter.unusedSimpArgs false
namespace Go.Proofs.YtblhpkcdemefaaaGreatDoor
open Go.RowKit

/-- Attributes and tokens with whatever numbers. -/
structure RP where
  at_ : Int
  name : List UInt8
  value : List UInt8
structure RT where
  kind : Int
  at_ : Int
  s : List UInt8
  attrs : List RP
def PrA.raw (p : PrA) : RP := ⟨p.at_, p.name, p.value⟩
def Tk.raw (t : Tk) : RT := ⟨t.kind, t.at_, t.s, t.attrs.map PrA.raw⟩

def sameP (pl : Bool) (p q : RP) : Bool := p.name == q.name && (p.value == q.value && (!pl || p.at_ == q.at_))
def samePs (pl : Bool) : List RP → List RP → Bool
  | p :: ps, q :: qs => sameP pl p q && samePs pl ps qs
  | _, _ => true
def sameH (pl : Bool) (t u : RT) : Bool := t.kind == u.kind && (t.s == u.s && (t.attrs.length == u.attrs.length && (!pl || t.at_ == u.at_)))
def sameTs (pl : Bool) : List RT → List RT → Bool
  | t :: ts, u :: us => (sameH pl t u && samePs pl t.attrs u.attrs) && sameTs pl ts us
  | _, _ => true
def sameL (pl : Bool) (a b : List RT) : Bool := a.length == b.length && sameTs pl a b

/-- A slice of attributes lies there. -/
def PairsAt (w : World) (v : Value) (ps : List RP) : Prop := ∃ p cap, v = .slice p ps.length cap ∧ ps.length ≤ cap ∧ ∀ i (h : i < ps.length), ∃ g off, p = some ⟨g, off, none⟩ ∧
  w.cell? ⟨g, off + i * 3, none⟩ = some (.int .i64 ps[i].at_) ∧ w.cell? ⟨g, off + i * 3 + 1, none⟩ = some (.string ⟨ps[i].name.toArray⟩) ∧ w.cell? ⟨g, off + i * 3 + 2, none⟩ = some (.string ⟨ps[i].value.toArray⟩)
/-- A slice of tokens lies there. -/
def ToksAt (w : World) (v : Value) (ts : List RT) : Prop := ∃ p cap, v = .slice p ts.length cap ∧ ts.length ≤ cap ∧ ∀ i (h : i < ts.length), ∃ g off av, p = some ⟨g, off, none⟩ ∧
  w.cell? ⟨g, off + i * 4, none⟩ = some (.int .i64 ts[i].kind) ∧ w.cell? ⟨g, off + i * 4 + 1, none⟩ = some (.int .i64 ts[i].at_) ∧ w.cell? ⟨g, off + i * 4 + 2, none⟩ = some (.string ⟨ts[i].s.toArray⟩) ∧ w.cell? ⟨g, off + i * 4 + 3, none⟩ = some av ∧ PairsAt w av ts[i].attrs

theorem cellB {w w' : World} (hb : Below w.heap.size w w') {a : Addr} {v : Value} (h : w.cell? a = some v) : w'.cell? a = some v :=
  (hb.cell (p := a) (World.block_lt_of_cell? w a h)).trans h
theorem PairsAt.below {w w' : World} {v : Value} {ps : List RP} (h : PairsAt w v ps) (hb : Below w.heap.size w w') : PairsAt w' v ps := by
  obtain ⟨p, cap, hv, hc, hcell⟩ := h
  refine ⟨p, cap, hv, hc, fun i hi => ?_⟩
  obtain ⟨g, off, hp, h0, h1, h2⟩ := hcell i hi
  exact ⟨g, off, hp, cellB hb h0, cellB hb h1, cellB hb h2⟩
theorem ToksAt.below {w w' : World} {v : Value} {ts : List RT} (h : ToksAt w v ts) (hb : Below w.heap.size w w') : ToksAt w' v ts := by
  obtain ⟨p, cap, hv, hc, hcell⟩ := h
  refine ⟨p, cap, hv, hc, fun i hi => ?_⟩
  obtain ⟨g, off, av, hp, h0, h1, h2, h3, h4⟩ := hcell i hi
  exact ⟨g, off, av, hp, cellB hb h0, cellB hb h1, cellB hb h2, cellB hb h3, h4.below hb⟩

theorem below_two {B : Nat} {w w1 : World} (h : Below B w w1) (hs : B ≤ w1.heap.size) (x y : Obj) : Below B w ((w1.alloc x).alloc y) :=
  (h.alloc hs x).alloc (by rw [World.size_alloc]; omega) y

theorem sameTs_drop (pl : Bool) {a b : List RT} {i : Nat} (ha : i < a.length) (hb : i < b.length) : sameTs pl (a.drop i) (b.drop i) = ((sameH pl a[i] b[i] && samePs pl a[i].attrs b[i].attrs) && sameTs pl (a.drop (i + 1)) (b.drop (i + 1))) := by
  rw [List.drop_eq_getElem_cons ha, List.drop_eq_getElem_cons hb]; rfl
theorem samePs_drop (pl : Bool) {a b : List RP} {i : Nat} (ha : i < a.length) (hb : i < b.length) : samePs pl (a.drop i) (b.drop i) = (sameP pl a[i] b[i] && samePs pl (a.drop (i + 1)) (b.drop (i + 1))) := by
  rw [List.drop_eq_getElem_cons ha, List.drop_eq_getElem_cons hb]; rfl
theorem sameTs_nil (pl : Bool) (b : List RT) : sameTs pl [] b = true := by cases b <;> rfl
theorem samePs_nil (pl : Bool) (b : List RP) : samePs pl [] b = true := by cases b <;> rfl

set_option maxHeartbeats 8000000 in
set_option maxRecDepth 100000 in
theorem same_any (pl : Bool) (a b : List RT) (va vb : Value) (w : World) (ha : ToksAt w va a) (hb : ToksAt w vb b) (hla : a.length ≤ 1000000000) (hlb : b.length ≤ 1000000000) (hpa : ∀ t ∈ a, t.attrs.length ≤ 1000000000) (hpb : ∀ t ∈ b, t.attrs.length ≤ 1000000000) :
    Calls Tryz.prog 13 #[va, vb, .bool pl] w fun e w' => e = .returned (.bool (sameL pl a b)) ∧ Below w.heap.size w w' := by
  obtain ⟨p, capa, rfl, hca, hA⟩ := ha
  obtain ⟨q, capb, rfl, hcb, hB⟩ := hb
  by_cases hlen : a.length = b.length
  · have hL : sameL pl a b = sameTs pl a b := by unfold sameL; rw [beq_iff_eq.2 hlen, Bool.true_and]
    have HL := Lib.hid hL
    have HLEN := Lib.hid hlen
    obtain ⟨n, hn⟩ : ∃ n, a.length = n := ⟨_, rfl⟩
    have hn2 : b.length = n := by omega
    have HA := Lib.hid hA
    have HB := Lib.hid hB
    have HPA := Lib.hid hpa
    have HPB := Lib.hid hpb
    rw [hn] at hla hca ⊢
    rw [hn2] at hlb hcb ⊢
    clear hL hlen hA hB hpa hpb
    go_enter Tryz.func13, Tryz.ntmps13
    go_wp2
    go_loopw [7, 8, 9, 10] (fun v7 v8 v9 v10 wr => ∃ i : Nat, v7 = .int .i64 i ∧ i ≤ n ∧ Below w.heap.size w wr ∧ sameTs pl a b = sameTs pl (a.drop i) (b.drop i)) (fun v7 _ _ _ _ => n - (intOf v7).toNat)
    case atStart => exact ⟨0, rfl, Nat.zero_le _, Below.refl _ _, rfl⟩
    case round =>
      obtain ⟨i, rfl, hin, hbw, hchk⟩ := hrel
      by_cases hi : i < n
      · have hia : i < a.length := by omega
        have hib : i < b.length := by omega
        obtain ⟨g, off, av, hp, a0, a1, a2, a3, a4⟩ := HA.out i hia
        obtain ⟨g', off', bv, hq, b0, b1, b2, b3, b4⟩ := HB.out i hib
        have hat := HPA.out _ (List.getElem_mem hia)
        have hbt := HPB.out _ (List.getElem_mem hib)
        have hst := sameTs_drop pl hia hib
        generalize a[i] = t at *
        generalize b[i] = u at *
        subst hp hq
        have hs := hbw.size
        have a0' := cellB hbw a0
        have a1' := cellB hbw a1
        have a2' := cellB hbw a2
        have a3' := cellB hbw a3
        have b0' := cellB hbw b0
        have b1' := cellB hbw b1
        have b2' := cellB hbw b2
        have b3' := cellB hbw b3
        obtain ⟨pp, cpa, rfl, hcpa, hP⟩ := a4
        obtain ⟨qq, cqa, rfl, hcqa, hQ⟩ := b4
        have hHd : sameH pl t u = (t.kind == u.kind && (t.s == u.s && (t.attrs.length == u.attrs.length && (!pl || t.at_ == u.at_)))) := rfl
        by_cases hk : t.kind = u.kind
        · have ek : (t.kind != u.kind) = false := by rw [hk]; simp
          by_cases hse : t.s = u.s
          · have es : (t.s != u.s) = false := by rw [hse]; simp
            by_cases hln : t.attrs.length = u.attrs.length
            · obtain ⟨m, hm⟩ : ∃ m, t.attrs.length = m := ⟨_, rfl⟩
              have hm2 : u.attrs.length = m := by omega
              rw [hm] at hcpa hat a3 a3'
              rw [hm2] at hcqa hbt b3 b3'
              cases hpl : pl with
              | false =>
                subst hpl
                have hH : sameH false t u = true := by unfold sameH; rw [beq_iff_eq.2 hk, beq_iff_eq.2 hse, beq_iff_eq.2 hln, show (!false || t.at_ == u.at_) = true from rfl]; rfl
                rw [hH, Bool.true_and] at hst
                clear hH
                have HST := Lib.hid hst
                have HCHK := Lib.hid hchk
                have HP := Lib.hid hP
                have HQ := Lib.hid hQ
                clear hst hchk hP hQ HA HB HPA HPB
                go_wp2
                go_quiet (fail)
                all_goals try go_wp2
                generalize hwd : wr.drewN _ = wd
                have hbd : Below w.heap.size w wd := by rw [← hwd]; exact hbw.trans ((below_drewN wr _).mono hbw.size)
                clear hwd
                go_loopw [8, 9, 10] (fun v8 v9 v10 wr2 => ∃ k : Nat, v8 = .int .i64 k ∧ k ≤ m ∧ Below w.heap.size w wr2 ∧ samePs false t.attrs u.attrs = samePs false (t.attrs.drop k) (u.attrs.drop k)) (fun v8 _ _ _ => m - (intOf v8).toNat)
                case atStart => exact ⟨0, rfl, Nat.zero_le _, hbd, rfl⟩
                case round =>
                  obtain ⟨k, rfl, hkm, hbw2, hpk⟩ := hrel
                  have hs2 := hbw2.size
                  have a3' := cellB hbw2 a3
                  have b3' := cellB hbw2 b3
                  by_cases hkl : k < m
                  · have hka : k < t.attrs.length := by omega
                    have hkb : k < u.attrs.length := by omega
                    obtain ⟨h, o, hh, d0, d1, d2⟩ := HP.out k hka
                    obtain ⟨h', o', hh', e0, e1, e2⟩ := HQ.out k hkb
                    have hstp := samePs_drop false hka hkb
                    generalize t.attrs[k] = x at *
                    generalize u.attrs[k] = y at *
                    subst hh hh'
                    have d0' := cellB hbw2 d0
                    have d1' := cellB hbw2 d1
                    have d2' := cellB hbw2 d2
                    have e0' := cellB hbw2 e0
                    have e1' := cellB hbw2 e1
                    have e2' := cellB hbw2 e2
                    have le0 := Lib.lt_of_cell e0'
                    have lb3 := Lib.lt_of_cell b3'
                    have hsp : sameP false x y = (x.name == y.name && (x.value == y.value && (!false || x.at_ == y.at_))) := rfl
                    by_cases hxn : x.name = y.name
                    · have en : (x.name != y.name) = false := by rw [hxn]; simp
                      by_cases hxv : x.value = y.value
                      · have ev : (x.value != y.value) = false := by rw [hxv]; simp
                        have hT : sameP false x y = true := by rw [hsp, beq_iff_eq.2 hxn, beq_iff_eq.2 hxv]; rfl
                        rw [hT, Bool.true_and] at hstp
                        go_wp2
                        go_roundw
                        case rel => exact ⟨k + 1, by go_num, by omega, below_two hbw2 hs2 _ _, hpk.trans hstp⟩
                        case measure => simp [intOf]; omega
                      · have iv : (x.value == y.value) = false := beq_eq_false_iff_ne.2 hxv
                        have iv' : (x.value != y.value) = true := bne_iff_ne.2 hxv
                        have hT : sameP false x y = false := by rw [hsp, beq_iff_eq.2 hxn, iv]; rfl
                        have HF : Hid (sameL false a b = false) := Lib.hid (by rw [HL.out, HCHK.out, HST.out, hpk, hstp, hT]; rfl)
                        clear hpk hstp
                        go_wp2
                        go_ret
                        rw [HF.out]
                        exact ⟨rfl, below_two hbw2 hs2 _ _⟩
                    · have iv : (x.name == y.name) = false := beq_eq_false_iff_ne.2 hxn
                      have iv' : (x.name != y.name) = true := bne_iff_ne.2 hxn
                      have hT : sameP false x y = false := by rw [hsp, iv]; rfl
                      have HF : Hid (sameL false a b = false) := Lib.hid (by rw [HL.out, HCHK.out, HST.out, hpk, hstp, hT]; rfl)
                      clear hpk hstp
                      go_wp2
                      go_ret
                      rw [HF.out]
                      exact ⟨rfl, below_two hbw2 hs2 _ _⟩
                  · have hT : samePs false t.attrs u.attrs = true := by rw [hpk, List.drop_eq_nil_of_le (by omega), samePs_nil]
                    have hst := HST.out
                    rw [hT, Bool.true_and] at hst
                    go_wp2
                    go_roundw
                    case rel => exact ⟨i + 1, by go_num, by omega, hbw2, HCHK.out.trans hst⟩
                    case measure => simp [intOf]; omega
              | true =>
                subst hpl
                by_cases hxa : t.at_ = u.at_
                · have ea : (t.at_ != u.at_) = false := by rw [hxa]; simp
                  have hH : sameH true t u = true := by unfold sameH; rw [beq_iff_eq.2 hk, beq_iff_eq.2 hse, beq_iff_eq.2 hln, beq_iff_eq.2 hxa]; rfl
                  rw [hH, Bool.true_and] at hst
                  clear hH
                  have HST := Lib.hid hst
                  have HCHK := Lib.hid hchk
                  have HP := Lib.hid hP
                  have HQ := Lib.hid hQ
                  clear hst hchk hP hQ HA HB HPA HPB
                  go_wp2
                  go_quiet (fail)
                  all_goals try go_wp2
                  generalize hwd : wr.drewN _ = wd
                  have hbd : Below w.heap.size w wd := by rw [← hwd]; exact hbw.trans ((below_drewN wr _).mono hbw.size)
                  clear hwd
                  go_loopw [8, 9, 10] (fun v8 v9 v10 wr2 => ∃ k : Nat, v8 = .int .i64 k ∧ k ≤ m ∧ Below w.heap.size w wr2 ∧ samePs true t.attrs u.attrs = samePs true (t.attrs.drop k) (u.attrs.drop k)) (fun v8 _ _ _ => m - (intOf v8).toNat)
                  case atStart => exact ⟨0, rfl, Nat.zero_le _, hbd, rfl⟩
                  case round =>
                    obtain ⟨k, rfl, hkm, hbw2, hpk⟩ := hrel
                    have hs2 := hbw2.size
                    have a3' := cellB hbw2 a3
                    have b3' := cellB hbw2 b3
                    by_cases hkl : k < m
                    · have hka : k < t.attrs.length := by omega
                      have hkb : k < u.attrs.length := by omega
                      obtain ⟨h, o, hh, d0, d1, d2⟩ := HP.out k hka
                      obtain ⟨h', o', hh', e0, e1, e2⟩ := HQ.out k hkb
                      have hstp := samePs_drop true hka hkb
                      generalize t.attrs[k] = x at *
                      generalize u.attrs[k] = y at *
                      subst hh hh'
                      have d0' := cellB hbw2 d0
                      have d1' := cellB hbw2 d1
                      have d2' := cellB hbw2 d2
                      have e0' := cellB hbw2 e0
                      have e1' := cellB hbw2 e1
                      have e2' := cellB hbw2 e2
                      have le0 := Lib.lt_of_cell e0'
                      have lb3 := Lib.lt_of_cell b3'
                      have hsp : sameP true x y = (x.name == y.name && (x.value == y.value && (!true || x.at_ == y.at_))) := rfl
                      by_cases hxn : x.name = y.name
                      · have en : (x.name != y.name) = false := by rw [hxn]; simp
                        by_cases hxv : x.value = y.value
                        · have ev : (x.value != y.value) = false := by rw [hxv]; simp
                          by_cases hxa : x.at_ = y.at_
                          · have ea2 : (x.at_ != y.at_) = false := by rw [hxa]; simp
                            have hT : sameP true x y = true := by rw [hsp, beq_iff_eq.2 hxn, beq_iff_eq.2 hxv, beq_iff_eq.2 hxa]; rfl
                            rw [hT, Bool.true_and] at hstp
                            go_wp2
                            go_roundw
                            case rel => exact ⟨k + 1, by go_num, by omega, below_two hbw2 hs2 _ _, hpk.trans hstp⟩
                            case measure => simp [intOf]; omega
                          · have ia : (x.at_ == y.at_) = false := beq_eq_false_iff_ne.2 hxa
                            have ia' : (x.at_ != y.at_) = true := bne_iff_ne.2 hxa
                            have hT : sameP true x y = false := by rw [hsp, beq_iff_eq.2 hxn, beq_iff_eq.2 hxv, ia]; rfl
                            have HF : Hid (sameL true a b = false) := Lib.hid (by rw [HL.out, HCHK.out, HST.out, hpk, hstp, hT]; rfl)
                            clear hpk hstp
                            go_wp2
                            go_ret
                            rw [HF.out]
                            exact ⟨rfl, below_two hbw2 hs2 _ _⟩
                        · have iv : (x.value == y.value) = false := beq_eq_false_iff_ne.2 hxv
                          have iv' : (x.value != y.value) = true := bne_iff_ne.2 hxv
                          have hT : sameP true x y = false := by rw [hsp, beq_iff_eq.2 hxn, iv]; rfl
                          have HF : Hid (sameL true a b = false) := Lib.hid (by rw [HL.out, HCHK.out, HST.out, hpk, hstp, hT]; rfl)
                          clear hpk hstp
                          go_wp2
                          go_ret
                          rw [HF.out]
                          exact ⟨rfl, below_two hbw2 hs2 _ _⟩
                      · have iv : (x.name == y.name) = false := beq_eq_false_iff_ne.2 hxn
                        have iv' : (x.name != y.name) = true := bne_iff_ne.2 hxn
                        have hT : sameP true x y = false := by rw [hsp, iv]; rfl
                        have HF : Hid (sameL true a b = false) := Lib.hid (by rw [HL.out, HCHK.out, HST.out, hpk, hstp, hT]; rfl)
                        clear hpk hstp
                        go_wp2
                        go_ret
                        rw [HF.out]
                        exact ⟨rfl, below_two hbw2 hs2 _ _⟩
                    · have hT : samePs true t.attrs u.attrs = true := by rw [hpk, List.drop_eq_nil_of_le (by omega), samePs_nil]
                      have hst := HST.out
                      rw [hT, Bool.true_and] at hst
                      go_wp2
                      go_roundw
                      case rel => exact ⟨i + 1, by go_num, by omega, hbw2, HCHK.out.trans hst⟩
                      case measure => simp [intOf]; omega
                · have ia : (t.at_ == u.at_) = false := beq_eq_false_iff_ne.2 hxa
                  have ia' : (t.at_ != u.at_) = true := bne_iff_ne.2 hxa
                  have hH : sameH true t u = false := by rw [hHd, beq_iff_eq.2 hk, beq_iff_eq.2 hse, beq_iff_eq.2 hln, ia]; rfl
                  have HF : Hid (sameL true a b = false) := Lib.hid (by rw [HL.out, hchk, hst, hH]; rfl)
                  clear hchk hst hH HA HB HPA HPB
                  go_wp2
                  go_quiet (fail)
                  all_goals try go_wp2
                  go_ret
                  rw [HF.out]
                  exact ⟨rfl, hbw.trans ((below_drewN wr _).mono hbw.size)⟩
            · have il : ((t.attrs.length : Int) == (u.attrs.length : Int)) = false := by rw [beq_eq_false_iff_ne]; omega
              have il' : ((t.attrs.length : Int) != (u.attrs.length : Int)) = true := by rw [bne_iff_ne]; omega
              have hH : sameH pl t u = false := by rw [hHd, beq_iff_eq.2 hk, beq_iff_eq.2 hse, beq_eq_false_iff_ne.2 hln]; rfl
              clear hP hQ
              generalize t.attrs.length = m at *
              generalize u.attrs.length = m' at *
              have HF : Hid (sameL pl a b = false) := Lib.hid (by rw [HL.out, hchk, hst, hH]; rfl)
              clear hchk hst hH HA HB HPA HPB
              go_wp2
              go_quiet (fail)
              all_goals try go_wp2
              go_ret
              rw [HF.out]
              exact ⟨rfl, hbw.trans ((below_drewN wr _).mono hbw.size)⟩
          · have is : (t.s == u.s) = false := beq_eq_false_iff_ne.2 hse
            have is' : (t.s != u.s) = true := bne_iff_ne.2 hse
            have hH : sameH pl t u = false := by rw [hHd, beq_iff_eq.2 hk, is]; rfl
            have HF : Hid (sameL pl a b = false) := Lib.hid (by rw [HL.out, hchk, hst, hH]; rfl)
            clear hchk hst hH HA HB HPA HPB
            go_wp2
            go_quiet (fail)
            all_goals try go_wp2
            go_ret
            rw [HF.out]
            exact ⟨rfl, hbw.trans ((below_drewN wr _).mono hbw.size)⟩
        · have ik : (t.kind == u.kind) = false := beq_eq_false_iff_ne.2 hk
          have ik' : (t.kind != u.kind) = true := bne_iff_ne.2 hk
          have hH : sameH pl t u = false := by rw [hHd, ik]; rfl
          have HF : Hid (sameL pl a b = false) := Lib.hid (by rw [HL.out, hchk, hst, hH]; rfl)
          clear hchk hst hH HA HB HPA HPB
          go_wp2
          go_quiet (fail)
          all_goals try go_wp2
          go_ret
          rw [HF.out]
          exact ⟨rfl, hbw.trans ((below_drewN wr _).mono hbw.size)⟩
      · have HF : Hid (sameL pl a b = true) := Lib.hid (by rw [HL.out, hchk, List.drop_eq_nil_of_le (by omega), sameTs_nil])
        clear hchk
        go_wp2
        go_ret
        rw [HF.out]
        exact ⟨rfl, hbw⟩
  · have HX : Hid (sameL pl a b = false) := Lib.hid (by unfold sameL; rw [beq_eq_false_iff_ne.2 hlen]; rfl)
    have ine : ((a.length : Int) != (b.length : Int)) = true := by rw [bne_iff_ne]; omega
    have ine' : ((a.length : Int) == (b.length : Int)) = false := by rw [beq_eq_false_iff_ne]; omega
    clear hA hB
    generalize a.length = n at *
    generalize b.length = m at *
    go_enter Tryz.func13, Tryz.ntmps13
    go_wp2
    go_ret
    rw [HX.out]
    exact ⟨rfl, Below.refl _ _⟩
end Go.Proofs.YtblhpkcdemefaaaGreatDoor
