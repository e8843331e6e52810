/- Walks: xmltok's scanner: the row of tokens; scanner.text. -/
import Derived.Test.YtblhpkcdemefaaaGreatDoorAtt
set_option linter.unusedVariables false
set_option linter.unusedSimpArgs false
namespace Go.Proofs.YtblhpkcdemefaaaGreatDoor
open Go.RowKit

/-- A token's cells; its attributes' row is a value of its own. -/
def tkCells (t : Tk) (a : Value) : List Value := [.int .i64 t.kind, .int .i64 t.at_, .string ⟨t.s.toArray⟩, a]
/-- A row of tokens, of the call's own. -/
def TokRow (B : Nat) (w : World) (v : Value) (ts : List (Tk × Value)) : Prop :=
  w.ownsRow B 30 4 v ts.length (ts.flatMap fun x => tkCells x.1 x.2) ∧ ∀ x ∈ ts, prRow B w x.2 x.1.attrs
/-- The scanner at a state. -/
def ScanS (w : World) (b : Nat) (s : List UInt8) (st : St) : Prop := ∃ v ts, CurS w b s st v ∧ TokRow b w v ts ∧ ts.map (·.1) = st.out

theorem own_row {w w' : World} {base size n : Nat} {e : TypeId} {v lv : Value} {xs : List Value} {base' size' n' : Nat} {e' : TypeId} {xs' : List Value} (h : w.ownsRow base e size v n xs) (hl : w.ownsRow base' e' size' lv n' xs') (hg : w.grownBy w' lv.ownBlock) (hne : e' ≠ e) : w'.ownsRow base e size v n xs := by
  rcases hl.2 with ⟨rfl, _⟩ | ⟨g, cap, cur, rfl, _, hgg, _⟩
  · exact h.kept hg (by cases v.ownBlock <;> simp [Value.ownBlock])
  · exact own_other h hg hgg hne

theorem TokRow.other {w w' : World} {B b : Nat} {v : Value} {ts : List (Tk × Value)} {s : List UInt8} {st : St} {lv : Value} (h : TokRow B w v ts) (hc : CurS w b s st lv) (hg : w.grownBy w' (some b)) : TokRow B w' v ts :=
  ⟨own_other h.1 hg hc (by decide), fun x hx => (h.2 x hx).other hc hg⟩
theorem TokRow.below {w w' : World} {B : Nat} {v : Value} {ts : List (Tk × Value)} (h : TokRow B w v ts) (hb : Below w.heap.size w w') : TokRow B w' v ts :=
  ⟨h.1.kept (below_grows hb none) (by cases v.ownBlock <;> simp), fun x hx => (h.2 x hx).below hb⟩
theorem tokRow_push {w w' : World} {B : Nat} {v v' pv : Value} {ts : List (Tk × Value)} {t : Tk} (h : TokRow B w v ts) (hp : prRow B w pv t.attrs) (hg : w.grownBy w' v.ownBlock) (hv : w'.ownsRow B 30 4 v' (ts.length + 1) ((ts.flatMap fun x => tkCells x.1 x.2) ++ tkCells t pv)) : TokRow B w' v' (ts ++ [(t, pv)]) := by
  refine ⟨?_, fun x hx => ?_⟩
  · rw [List.length_append, List.flatMap_append]
    simpa using hv
  · rcases List.mem_append.1 hx with hx | hx
    · exact own_row (h.2 x hx) h.1 hg (by decide)
    · rw [List.mem_singleton] at hx
      subst hx
      exact own_row hp h.1 hg (by decide)
theorem tokRow_low {w w' : World} {B : Nat} {v : Value} {ts : List (Tk × Value)} (h : TokRow B w v ts) (hg : w.grownBy w' v.ownBlock) (hB : B ≤ w.heap.size) : Below B w w' :=
  ⟨hg.os, hg.tape, hg.output, hg.size, fun k hk => hg.block k (by omega) (fun e => by have := h.1.lt k e.symm; omega)⟩
theorem tokRow_cur {w w' : World} {B b : Nat} {v lv : Value} {ts : List (Tk × Value)} {s : List UInt8} {st : St} (h : TokRow B w v ts) (hg : w.grownBy w' v.ownBlock) (hc : CurS w b s st lv) : CurS w' b s st lv := by
  refine (hg.block b (CurAt.lt hc) (fun e => ?_)).trans hc
  rcases h.1.2 with ⟨rfl, _⟩ | ⟨g, cap, cur, rfl, _, hgg, _⟩
  · simp [Value.ownBlock] at e
  · have : b = g := by simpa [Value.ownBlock] using e
    subst this
    have hc' : w.heap[b]? = _ := hc
    rw [hc'] at hgg
    cases hgg
theorem prRow_nil (B : Nat) (w : World) : prRow B w (.slice none 0 0) [] := World.ownsRow_nil w B 32 3

theorem info_tok : (Tryz.prog.info? 30).map (fun i => (i.zero, i.size, i.bytes)) = some (some (.agg #[.int .i64 0, .int .i64 0, .string ⟨#[]⟩, .slice none 0 0]), 4, 56) := by kernel_rfl
theorem info_pair : (Tryz.prog.info? 32).map (fun i => (i.zero, i.size, i.bytes)) = some (some (.agg #[.int .i64 0, .string ⟨#[]⟩, .string ⟨#[]⟩]), 3, 40) := by kernel_rfl

theorem own_one {w : World} {base size n : Nat} {e : TypeId} {v : Value} {xs : List Value} (h : w.ownsRow base e size v n xs) : v.oneCell' = true := by
  rcases h.2 with ⟨rfl, _⟩ | ⟨g, cap, cur, rfl, _⟩ <;> rfl

theorem cells_new (w : World) (l : List Value) (T : TypeId) : ∀ j u, l[j]? = some u → (w.alloc (.cells l.toArray T)).cell? ((⟨w.heap.size, 0, none⟩ : Addr).add j) = some u := by
  intro j u hu
  have hadd : (⟨w.heap.size, 0, none⟩ : Addr).add j = ⟨w.heap.size, j, none⟩ := by rw [Addr.add_lit, Nat.zero_add]
  rw [hadd, cell_of_row _ w.heap.size j _ _ (0, 0) (heap_alloc_new w _)]
  simpa using hu
theorem low_grown {w w' : World} {b : Nat} (h : w.grownBy w' (some b)) (hb : b ≤ w.heap.size) : Below b w w' :=
  ⟨h.os, h.tape, h.output, h.size, fun k hk => h.block k (by omega) (fun e => by cases e; omega)⟩
theorem fail_o {st : St} (a e : Nat) : (xFail st a e).out = st.out := by unfold xFail; split <;> rfl

theorem own_val {w : World} {base size n : Nat} {e : TypeId} {v : Value} {xs : List Value} (h : w.ownsRow base e size v n xs) (hn : 0 < n) : ∃ g cap, v = .slice (some ⟨g, 0, none⟩) n cap := by
  rcases h.2 with ⟨_, h0⟩ | ⟨g, cap, cur, hv, _⟩
  · omega
  · exact ⟨g, cap, hv⟩

theorem index_any (l p : List UInt8) (s t : ByteArray) (hs : s = ⟨l.toArray⟩) (ht : t = ⟨p.toArray⟩) (hl : l.length < 4294967281) (w : World) (hR : Ready w) :
    Calls Tryz.prog 114 #[.string s, .string t] w fun e w' => e = .returned (.int .i64 (Lib.index l p)) ∧ w' = w := by
  subst hs ht
  obtain ⟨m, hm⟩ := hR.maxl
  exact Tryz.strings_Index ⟨l.toArray⟩ ⟨p.toArray⟩ m w (by rw [ba_size]; exact hl) hm

set_option maxHeartbeats 4000000 in
set_option maxRecDepth 100000 in
theorem xtext_any (b : Nat) (s : List UInt8) (st : St) (a : Nat) (w : World) (h : ScanS w b s st) (hi : st.i ≤ s.length) (hsz : s.length ≤ 1000000000) (hR : Based b w) (ha : a ≤ s.length) (hn : st.out.length ≤ 1000000000) :
    Calls Tryz.prog 70 #[.pointer (some ⟨b, 0, none⟩), .int .i64 a] w fun e w' => e = .returned (.tuple #[]) ∧ ScanS w' b s (xText s st a) ∧ Below b w w' := by
  obtain ⟨lv, ts, hC, hT, hts⟩ := h
  have hs2 : s.length ≤ 2147483647 := by omega
  have hln : ts.length ≤ 1000000000 := by rw [← hts, List.length_map] at hn; exact hn
  obtain ⟨i0, hi0, hz0, hz1, hz2⟩ := info_parts info_tok
  have CR := Lib.hid (crest_any b s st.i st.bat st.be lv w hC hi)
  have cC := fun wx (hx : Ready wx) => cut_any 60 (s.drop st.i) ⟨(s.drop st.i).toArray⟩ ⟨#[60]⟩ rfl rfl (by rw [List.length_drop]; omega) wx hx
  have hcl := (cutB_le 60 (s.drop st.i)).1
  rw [List.length_drop] at hcl
  have hX : xText s st a = xPush (xMove (if (textE (cutB 60 (s.drop st.i)).1).2 = 0 then st else xFail st (a + (textE (cutB 60 (s.drop st.i)).1).1) (textE (cutB 60 (s.drop st.i)).1).2) (cutB 60 (s.drop st.i)).1.length) ⟨3, a, (tellL false (cutB 60 (s.drop st.i)).1).1, []⟩ := rfl
  generalize (cutB 60 (s.drop st.i)).2.2 = ok at *
  generalize (cutB 60 (s.drop st.i)).2.1 = behind at *
  generalize (cutB 60 (s.drop st.i)).1 = raw at *
  have hrl := ba_size raw
  have cT := fun wx (hx : Ready wx) => text_any raw ⟨raw.toArray⟩ rfl wx (by omega) hx
  have cI := fun wx (hx : Ready wx) => index_any raw [93, 93, 62] ⟨raw.toArray⟩ ⟨#[93, 93, 62]⟩ rfl rfl (by omega) wx hx
  have hge := Lib.index_ge raw [93, 93, 62]
  have hib := index_bound raw [93, 93, 62]
  have hto := tellL_out false raw
  have hTE : textE raw = if 0 ≤ Lib.index raw [93, 93, 62] ∧ ((tellL false raw).2.2 = 0 ∨ Lib.index raw [93, 93, 62] < ((tellL false raw).2.1 : Int)) then ((Lib.index raw [93, 93, 62]).toNat, 5) else (tellL false raw).2 := rfl
  generalize textE raw = te at *
  generalize Lib.index raw [93, 93, 62] = ix at *
  generalize tellL false raw = r at *
  obtain ⟨v, k, e⟩ := r
  rw [tellRes_mk] at cT
  have hke : k ≤ raw.length ∧ (e = 0 ∨ e = 4 ∨ e = 5) := by
    rcases hto with ⟨ds, _, ho⟩ | ⟨q', e', h1, h2, ho⟩
    · cases ho; exact ⟨Nat.le_refl _, Or.inl rfl⟩
    · cases ho; exact ⟨by omega, Or.inr h2⟩
  obtain ⟨hk, he⟩ := hke
  have CC := Lib.hid cC
  have CT := Lib.hid cT
  have CI := Lib.hid cI
  have CFL := Lib.hid (fun wx a e (hw : CurS wx b s st lv) => cfail_any b s st lv a e wx hw)
  clear cC cT cI hto
  simp only [] at hTE hX
  go_enter Tryz.func70, Tryz.ntmps70
  go_wp2_with fail
  refine (CR.out).mono ?_
  rintro e' w1 ⟨rfl, hb1⟩
  have hC1 := hC.below hb1
  have hR1 := hR.below hb1
  have hT1 := hT.below hb1
  have hg1 := below_grows hb1 (some b)
  go_wp2_with fail
  refine (CC.out _ hR1.ready).mono ?_
  rintro e' w2 ⟨rfl, hb2⟩
  have hC2 := hC1.below hb2
  have hR2 := hR1.below hb2
  have hT2 := hT1.below hb2
  have hg2 := hg1.trans (below_grows hb2 (some b))
  go_wp2_with fail
  refine (CT.out _ hR2.ready).mono ?_
  rintro e' w3 ⟨rfl, hb3⟩
  have hC3 := hC2.below hb3
  have hR3 := hR2.below hb3
  have hT3 := hT2.below hb3
  have hg3 := hg2.trans (below_grows hb3 (some b))
  go_wp2_with fail
  refine (CI.out _ hR3.ready).mono ?_
  rintro e' w4 ⟨rfl, rfl⟩
  clear hC1 hR1 hT1 hg1 hC2 hR2 hT2 hg2 hb1 hb2 hb3
  have hbw : b ≤ w.heap.size := Nat.le_of_lt (CurAt.lt hC)
  clear hC hR3 hR
  by_cases hix : ix < 0
  · by_cases hez : e = 0
    · subst hez
      have hte : te = (k, 0) := by rw [hTE, if_neg (by omega)]
      subst hte
      clear hTE
      have HX : Hid (xText s st a = xPush (xMove st raw.length) ⟨3, a, v, []⟩) := Lib.hid hX
      clear hX
      have hC := hC3
      have hT := hT3
      have hg := hg3
      clear hC3 hT3 hg3
      have hSi : (st).i = st.i := rfl
      have hSo : (st).out = st.out := rfl
      have k1 : w4.cell? ⟨b, 1, none⟩ = some (.int .i64 st.i) := by have := CurAt.c1 hC; rw [hSi] at this; exact this
      have f1 := CurAt.fz hC 1
      have hlC := CurAt.lt hC
      have hC5 : CurS (w4.setCell ⟨b, 1, none⟩ (.int .i64 ((st.i : Int) + (raw.length : Int)))) b s (xMove (st) raw.length) lv := CurAt.set1 hC ((st).i + raw.length) _ (by rw [hSi]; omega)
      have hT5 := hT.other hC (grown_set w4 b 1 (.int .i64 ((st.i : Int) + (raw.length : Int))))
      have hg5 := hg.trans (grown_set w4 b 1 (.int .i64 ((st.i : Int) + (raw.length : Int))))
      have HMO : Hid ((xMove (st) raw.length).out = st.out) := Lib.hid hSo
      clear hSo hSi hT hg
      have c4 := CurAt.c4 hC5
      have hWl := CurAt.lt hC5
      have hWl' : b < w4.heap.size := by first | exact hWl | (rw [World.size_setCell] at hWl; exact hWl)
      have hba := (Below.refl (w4.setCell ⟨b, 1, none⟩ (.int .i64 ((st.i : Int) + (raw.length : Int)))).heap.size (w4.setCell ⟨b, 1, none⟩ (.int .i64 ((st.i : Int) + (raw.length : Int))))).alloc (Nat.le_refl _) (Obj.cells #[.int .i64 3, .int .i64 a, .string ⟨(v).toArray⟩, .slice none 0 0] 30)
      have HCA := Lib.hid ((hC5).below hba)
      have HTA := Lib.hid ((hT5).below hba)
      have HPA := Lib.hid (prRow.below (prRow_nil b (w4.setCell ⟨b, 1, none⟩ (.int .i64 ((st.i : Int) + (raw.length : Int))))) hba)
      have HGA := Lib.hid (hg5.trans (below_grows hba (some b)))
      have hnc := cells_new (w4.setCell ⟨b, 1, none⟩ (.int .i64 ((st.i : Int) + (raw.length : Int)))) (tkCells (⟨3, a, v, []⟩ : Tk) (.slice none 0 0)) 30
      rw [World.size_setCell] at hnc
      have hpo := own_one (prRow_nil b (w4.setCell ⟨b, 1, none⟩ (.int .i64 ((st.i : Int) + (raw.length : Int)))))
      clear hba
      go_wp2_with (at_builtin; refine wpList_append_own _ rfl _ _ 24 rfl b 30 i0 _ 4 56 Tryz.underlying24 hi0 hz0 hz1 hz2 rfl (by decide) lv _ _ rfl HTA.out.1 ⟨w4.heap.size, 0, none⟩ 1 1 (tkCells (⟨3, a, v, []⟩ : Tk) (.slice none 0 0)) rfl ?c0 ?c1 ?c2 ?c3 ?c4 ?c5 ?_)
      case c0 => rfl
      case c1 => first | exact hnc | exact fun j u hu => hu
      case c2 => intro u hu; simp only [tkCells, List.mem_cons, List.not_mem_nil, or_false] at hu; rcases hu with rfl | rfl | rfl | rfl <;> first | rfl | exact hpo
      case c3 => unfold maxLen; omega
      case c4 => omega
      case c5 => first | omega | (rw [World.size_alloc, World.size_setCell]; omega)
      intro v' w6 hown6 hgr6 _
      obtain ⟨g6, cap6, rfl⟩ := own_val hown6 (Nat.succ_pos _)
      have hC6 := tokRow_cur HTA.out hgr6 HCA.out
      have f4 := CurAt.fz hC6 4
      have c4' := CurAt.c4 hC6
      have hC7 := CurAt.set4 hC6 (.slice (some ⟨g6, 0, none⟩) (ts.length + 1) cap6)
      have hT7 := (tokRow_push (t := (⟨3, a, v, []⟩ : Tk)) HTA.out HPA.out hgr6 hown6).other hC6 (grown_set w6 b 4 (.slice (some ⟨g6, 0, none⟩) (ts.length + 1) cap6))
      have hL7 := (low_grown HGA.out hbw).trans ((tokRow_low HTA.out hgr6 (by rw [World.size_alloc, World.size_setCell]; omega)).trans (low_grown (grown_set w6 b 4 (.slice (some ⟨g6, 0, none⟩) (ts.length + 1) cap6)) (by have := CurAt.lt hC6; omega)))
      have HC7 := Lib.hid hC7
      have HT7 := Lib.hid hT7
      have HL7 := Lib.hid hL7
      clear hC7 hT7 hL7 hown6 hgr6 hC6
      go_wp2
      go_end0
      rw [HX.out]
      refine ⟨rfl, ⟨_, _, HC7.out, HT7.out, ?_⟩, HL7.out⟩
      rw [List.map_append, hts]
      show _ = (xMove (st) raw.length).out ++ _
      rw [HMO.out]
      rfl
    · have ez : ((e : Int) == 0) = false := by rw [beq_eq_false_iff_ne]; omega
      have ez' : ((e : Int) != 0) = true := by rw [bne_iff_ne]; omega
      have hte : te = (k, e) := by rw [hTE, if_neg (by omega)]
      subst hte
      clear hTE
      have HX : Hid (xText s st a = xPush (xMove (xFail st (a + k) e) raw.length) ⟨3, a, v, []⟩) := Lib.hid (hX.trans (by rw [if_neg (by exact hez)]))
      clear hX
      have cX := CFL.out w4 (a + k) e hC3
      have ec : ((a + k : Nat) : Int) = (a : Int) + (k : Int) := by omega
      rw [ec] at cX
      have CX := Lib.hid cX
      clear cX ec
      go_wp2_with fail
      refine (CX.out).mono ?_
      rintro e' w5 ⟨rfl, hC, hg5⟩
      have hT := hT3.other hC3 hg5
      have hg := hg3.trans hg5
      clear hC3 hT3 hg3 hg5
      have hSi : (xFail st (a + k) e).i = st.i := fail_i _ _
      have hSo : (xFail st (a + k) e).out = st.out := fail_o _ _
      have k1 : w5.cell? ⟨b, 1, none⟩ = some (.int .i64 st.i) := by have := CurAt.c1 hC; rw [hSi] at this; exact this
      have f1 := CurAt.fz hC 1
      have hlC := CurAt.lt hC
      have hC5 : CurS (w5.setCell ⟨b, 1, none⟩ (.int .i64 ((st.i : Int) + (raw.length : Int)))) b s (xMove (xFail st (a + k) e) raw.length) lv := CurAt.set1 hC ((xFail st (a + k) e).i + raw.length) _ (by rw [hSi]; omega)
      have hT5 := hT.other hC (grown_set w5 b 1 (.int .i64 ((st.i : Int) + (raw.length : Int))))
      have hg5 := hg.trans (grown_set w5 b 1 (.int .i64 ((st.i : Int) + (raw.length : Int))))
      have HMO : Hid ((xMove (xFail st (a + k) e) raw.length).out = st.out) := Lib.hid hSo
      clear hSo hSi hT hg
      have c4 := CurAt.c4 hC5
      have hWl := CurAt.lt hC5
      have hWl' : b < w5.heap.size := by first | exact hWl | (rw [World.size_setCell] at hWl; exact hWl)
      have hba := (Below.refl (w5.setCell ⟨b, 1, none⟩ (.int .i64 ((st.i : Int) + (raw.length : Int)))).heap.size (w5.setCell ⟨b, 1, none⟩ (.int .i64 ((st.i : Int) + (raw.length : Int))))).alloc (Nat.le_refl _) (Obj.cells #[.int .i64 3, .int .i64 a, .string ⟨(v).toArray⟩, .slice none 0 0] 30)
      have HCA := Lib.hid ((hC5).below hba)
      have HTA := Lib.hid ((hT5).below hba)
      have HPA := Lib.hid (prRow.below (prRow_nil b (w5.setCell ⟨b, 1, none⟩ (.int .i64 ((st.i : Int) + (raw.length : Int))))) hba)
      have HGA := Lib.hid (hg5.trans (below_grows hba (some b)))
      have hnc := cells_new (w5.setCell ⟨b, 1, none⟩ (.int .i64 ((st.i : Int) + (raw.length : Int)))) (tkCells (⟨3, a, v, []⟩ : Tk) (.slice none 0 0)) 30
      rw [World.size_setCell] at hnc
      have hpo := own_one (prRow_nil b (w5.setCell ⟨b, 1, none⟩ (.int .i64 ((st.i : Int) + (raw.length : Int)))))
      clear hba
      go_wp2_with (at_builtin; refine wpList_append_own _ rfl _ _ 24 rfl b 30 i0 _ 4 56 Tryz.underlying24 hi0 hz0 hz1 hz2 rfl (by decide) lv _ _ rfl HTA.out.1 ⟨w5.heap.size, 0, none⟩ 1 1 (tkCells (⟨3, a, v, []⟩ : Tk) (.slice none 0 0)) rfl ?c0 ?c1 ?c2 ?c3 ?c4 ?c5 ?_)
      case c0 => rfl
      case c1 => first | exact hnc | exact fun j u hu => hu
      case c2 => intro u hu; simp only [tkCells, List.mem_cons, List.not_mem_nil, or_false] at hu; rcases hu with rfl | rfl | rfl | rfl <;> first | rfl | exact hpo
      case c3 => unfold maxLen; omega
      case c4 => omega
      case c5 => first | omega | (rw [World.size_alloc, World.size_setCell]; omega)
      intro v' w6 hown6 hgr6 _
      obtain ⟨g6, cap6, rfl⟩ := own_val hown6 (Nat.succ_pos _)
      have hC6 := tokRow_cur HTA.out hgr6 HCA.out
      have f4 := CurAt.fz hC6 4
      have c4' := CurAt.c4 hC6
      have hC7 := CurAt.set4 hC6 (.slice (some ⟨g6, 0, none⟩) (ts.length + 1) cap6)
      have hT7 := (tokRow_push (t := (⟨3, a, v, []⟩ : Tk)) HTA.out HPA.out hgr6 hown6).other hC6 (grown_set w6 b 4 (.slice (some ⟨g6, 0, none⟩) (ts.length + 1) cap6))
      have hL7 := (low_grown HGA.out hbw).trans ((tokRow_low HTA.out hgr6 (by rw [World.size_alloc, World.size_setCell]; omega)).trans (low_grown (grown_set w6 b 4 (.slice (some ⟨g6, 0, none⟩) (ts.length + 1) cap6)) (by have := CurAt.lt hC6; omega)))
      have HC7 := Lib.hid hC7
      have HT7 := Lib.hid hT7
      have HL7 := Lib.hid hL7
      clear hC7 hT7 hL7 hown6 hgr6 hC6
      go_wp2
      go_end0
      rw [HX.out]
      refine ⟨rfl, ⟨_, _, HC7.out, HT7.out, ?_⟩, HL7.out⟩
      rw [List.map_append, hts]
      show _ = (xMove (xFail st (a + k) e) raw.length).out ++ _
      rw [HMO.out]
      rfl
  · obtain ⟨m, hm⟩ : ∃ m : Nat, (m : Int) = ix := ⟨ix.toNat, by omega⟩
    subst hm
    have hib' := hib (by omega)
    simp only [List.length_cons, List.length_nil] at hib'
    clear hib
    by_cases hez : e = 0
    · subst hez
      have hte : te = (m, 5) := by rw [hTE, if_pos ⟨by omega, Or.inl rfl⟩]; rfl
      subst hte
      clear hTE
      have HX : Hid (xText s st a = xPush (xMove (xFail st (a + m) 5) raw.length) ⟨3, a, v, []⟩) := Lib.hid (hX.trans (by rw [if_neg (by show ¬ (5 : Nat) = 0; decide)]))
      clear hX
      have cX := CFL.out w4 (a + m) 5 hC3
      have ec : ((a + m : Nat) : Int) = (a : Int) + (m : Int) := by omega
      rw [ec] at cX
      have e5 : ((5 : Nat) : Int) = 5 := rfl
      rw [e5] at cX
      clear e5
      have CX := Lib.hid cX
      clear cX ec
      go_wp2_with fail
      refine (CX.out).mono ?_
      rintro e' w5 ⟨rfl, hC, hg5⟩
      have hT := hT3.other hC3 hg5
      have hg := hg3.trans hg5
      clear hC3 hT3 hg3 hg5
      have hSi : (xFail st (a + m) 5).i = st.i := fail_i _ _
      have hSo : (xFail st (a + m) 5).out = st.out := fail_o _ _
      have k1 : w5.cell? ⟨b, 1, none⟩ = some (.int .i64 st.i) := by have := CurAt.c1 hC; rw [hSi] at this; exact this
      have f1 := CurAt.fz hC 1
      have hlC := CurAt.lt hC
      have hC5 : CurS (w5.setCell ⟨b, 1, none⟩ (.int .i64 ((st.i : Int) + (raw.length : Int)))) b s (xMove (xFail st (a + m) 5) raw.length) lv := CurAt.set1 hC ((xFail st (a + m) 5).i + raw.length) _ (by rw [hSi]; omega)
      have hT5 := hT.other hC (grown_set w5 b 1 (.int .i64 ((st.i : Int) + (raw.length : Int))))
      have hg5 := hg.trans (grown_set w5 b 1 (.int .i64 ((st.i : Int) + (raw.length : Int))))
      have HMO : Hid ((xMove (xFail st (a + m) 5) raw.length).out = st.out) := Lib.hid hSo
      clear hSo hSi hT hg
      have c4 := CurAt.c4 hC5
      have hWl := CurAt.lt hC5
      have hWl' : b < w5.heap.size := by first | exact hWl | (rw [World.size_setCell] at hWl; exact hWl)
      have hba := (Below.refl (w5.setCell ⟨b, 1, none⟩ (.int .i64 ((st.i : Int) + (raw.length : Int)))).heap.size (w5.setCell ⟨b, 1, none⟩ (.int .i64 ((st.i : Int) + (raw.length : Int))))).alloc (Nat.le_refl _) (Obj.cells #[.int .i64 3, .int .i64 a, .string ⟨(v).toArray⟩, .slice none 0 0] 30)
      have HCA := Lib.hid ((hC5).below hba)
      have HTA := Lib.hid ((hT5).below hba)
      have HPA := Lib.hid (prRow.below (prRow_nil b (w5.setCell ⟨b, 1, none⟩ (.int .i64 ((st.i : Int) + (raw.length : Int))))) hba)
      have HGA := Lib.hid (hg5.trans (below_grows hba (some b)))
      have hnc := cells_new (w5.setCell ⟨b, 1, none⟩ (.int .i64 ((st.i : Int) + (raw.length : Int)))) (tkCells (⟨3, a, v, []⟩ : Tk) (.slice none 0 0)) 30
      rw [World.size_setCell] at hnc
      have hpo := own_one (prRow_nil b (w5.setCell ⟨b, 1, none⟩ (.int .i64 ((st.i : Int) + (raw.length : Int)))))
      clear hba
      go_wp2_with (at_builtin; refine wpList_append_own _ rfl _ _ 24 rfl b 30 i0 _ 4 56 Tryz.underlying24 hi0 hz0 hz1 hz2 rfl (by decide) lv _ _ rfl HTA.out.1 ⟨w5.heap.size, 0, none⟩ 1 1 (tkCells (⟨3, a, v, []⟩ : Tk) (.slice none 0 0)) rfl ?c0 ?c1 ?c2 ?c3 ?c4 ?c5 ?_)
      case c0 => rfl
      case c1 => first | exact hnc | exact fun j u hu => hu
      case c2 => intro u hu; simp only [tkCells, List.mem_cons, List.not_mem_nil, or_false] at hu; rcases hu with rfl | rfl | rfl | rfl <;> first | rfl | exact hpo
      case c3 => unfold maxLen; omega
      case c4 => omega
      case c5 => first | omega | (rw [World.size_alloc, World.size_setCell]; omega)
      intro v' w6 hown6 hgr6 _
      obtain ⟨g6, cap6, rfl⟩ := own_val hown6 (Nat.succ_pos _)
      have hC6 := tokRow_cur HTA.out hgr6 HCA.out
      have f4 := CurAt.fz hC6 4
      have c4' := CurAt.c4 hC6
      have hC7 := CurAt.set4 hC6 (.slice (some ⟨g6, 0, none⟩) (ts.length + 1) cap6)
      have hT7 := (tokRow_push (t := (⟨3, a, v, []⟩ : Tk)) HTA.out HPA.out hgr6 hown6).other hC6 (grown_set w6 b 4 (.slice (some ⟨g6, 0, none⟩) (ts.length + 1) cap6))
      have hL7 := (low_grown HGA.out hbw).trans ((tokRow_low HTA.out hgr6 (by rw [World.size_alloc, World.size_setCell]; omega)).trans (low_grown (grown_set w6 b 4 (.slice (some ⟨g6, 0, none⟩) (ts.length + 1) cap6)) (by have := CurAt.lt hC6; omega)))
      have HC7 := Lib.hid hC7
      have HT7 := Lib.hid hT7
      have HL7 := Lib.hid hL7
      clear hC7 hT7 hL7 hown6 hgr6 hC6
      go_wp2
      go_end0
      rw [HX.out]
      refine ⟨rfl, ⟨_, _, HC7.out, HT7.out, ?_⟩, HL7.out⟩
      rw [List.map_append, hts]
      show _ = (xMove (xFail st (a + m) 5) raw.length).out ++ _
      rw [HMO.out]
      rfl
    · have ez : ((e : Int) == 0) = false := by rw [beq_eq_false_iff_ne]; omega
      have ez' : ((e : Int) != 0) = true := by rw [bne_iff_ne]; omega
      by_cases hmk : (m : Int) < (k : Int)
      · have hte : te = (m, 5) := by rw [hTE, if_pos ⟨by omega, Or.inr hmk⟩]; rfl
        subst hte
        clear hTE
        have HX : Hid (xText s st a = xPush (xMove (xFail st (a + m) 5) raw.length) ⟨3, a, v, []⟩) := Lib.hid (hX.trans (by rw [if_neg (by show ¬ (5 : Nat) = 0; decide)]))
        clear hX
        have cX := CFL.out w4 (a + m) 5 hC3
        have ec : ((a + m : Nat) : Int) = (a : Int) + (m : Int) := by omega
        rw [ec] at cX
        have e5 : ((5 : Nat) : Int) = 5 := rfl
        rw [e5] at cX
        clear e5
        have CX := Lib.hid cX
        clear cX ec
        go_wp2_with fail
        refine (CX.out).mono ?_
        rintro e' w5 ⟨rfl, hC, hg5⟩
        have hT := hT3.other hC3 hg5
        have hg := hg3.trans hg5
        clear hC3 hT3 hg3 hg5
        have hSi : (xFail st (a + m) 5).i = st.i := fail_i _ _
        have hSo : (xFail st (a + m) 5).out = st.out := fail_o _ _
        have k1 : w5.cell? ⟨b, 1, none⟩ = some (.int .i64 st.i) := by have := CurAt.c1 hC; rw [hSi] at this; exact this
        have f1 := CurAt.fz hC 1
        have hlC := CurAt.lt hC
        have hC5 : CurS (w5.setCell ⟨b, 1, none⟩ (.int .i64 ((st.i : Int) + (raw.length : Int)))) b s (xMove (xFail st (a + m) 5) raw.length) lv := CurAt.set1 hC ((xFail st (a + m) 5).i + raw.length) _ (by rw [hSi]; omega)
        have hT5 := hT.other hC (grown_set w5 b 1 (.int .i64 ((st.i : Int) + (raw.length : Int))))
        have hg5 := hg.trans (grown_set w5 b 1 (.int .i64 ((st.i : Int) + (raw.length : Int))))
        have HMO : Hid ((xMove (xFail st (a + m) 5) raw.length).out = st.out) := Lib.hid hSo
        clear hSo hSi hT hg
        have c4 := CurAt.c4 hC5
        have hWl := CurAt.lt hC5
        have hWl' : b < w5.heap.size := by first | exact hWl | (rw [World.size_setCell] at hWl; exact hWl)
        have hba := (Below.refl (w5.setCell ⟨b, 1, none⟩ (.int .i64 ((st.i : Int) + (raw.length : Int)))).heap.size (w5.setCell ⟨b, 1, none⟩ (.int .i64 ((st.i : Int) + (raw.length : Int))))).alloc (Nat.le_refl _) (Obj.cells #[.int .i64 3, .int .i64 a, .string ⟨(v).toArray⟩, .slice none 0 0] 30)
        have HCA := Lib.hid ((hC5).below hba)
        have HTA := Lib.hid ((hT5).below hba)
        have HPA := Lib.hid (prRow.below (prRow_nil b (w5.setCell ⟨b, 1, none⟩ (.int .i64 ((st.i : Int) + (raw.length : Int))))) hba)
        have HGA := Lib.hid (hg5.trans (below_grows hba (some b)))
        have hnc := cells_new (w5.setCell ⟨b, 1, none⟩ (.int .i64 ((st.i : Int) + (raw.length : Int)))) (tkCells (⟨3, a, v, []⟩ : Tk) (.slice none 0 0)) 30
        rw [World.size_setCell] at hnc
        have hpo := own_one (prRow_nil b (w5.setCell ⟨b, 1, none⟩ (.int .i64 ((st.i : Int) + (raw.length : Int)))))
        clear hba
        go_wp2_with (at_builtin; refine wpList_append_own _ rfl _ _ 24 rfl b 30 i0 _ 4 56 Tryz.underlying24 hi0 hz0 hz1 hz2 rfl (by decide) lv _ _ rfl HTA.out.1 ⟨w5.heap.size, 0, none⟩ 1 1 (tkCells (⟨3, a, v, []⟩ : Tk) (.slice none 0 0)) rfl ?c0 ?c1 ?c2 ?c3 ?c4 ?c5 ?_)
        case c0 => rfl
        case c1 => first | exact hnc | exact fun j u hu => hu
        case c2 => intro u hu; simp only [tkCells, List.mem_cons, List.not_mem_nil, or_false] at hu; rcases hu with rfl | rfl | rfl | rfl <;> first | rfl | exact hpo
        case c3 => unfold maxLen; omega
        case c4 => omega
        case c5 => first | omega | (rw [World.size_alloc, World.size_setCell]; omega)
        intro v' w6 hown6 hgr6 _
        obtain ⟨g6, cap6, rfl⟩ := own_val hown6 (Nat.succ_pos _)
        have hC6 := tokRow_cur HTA.out hgr6 HCA.out
        have f4 := CurAt.fz hC6 4
        have c4' := CurAt.c4 hC6
        have hC7 := CurAt.set4 hC6 (.slice (some ⟨g6, 0, none⟩) (ts.length + 1) cap6)
        have hT7 := (tokRow_push (t := (⟨3, a, v, []⟩ : Tk)) HTA.out HPA.out hgr6 hown6).other hC6 (grown_set w6 b 4 (.slice (some ⟨g6, 0, none⟩) (ts.length + 1) cap6))
        have hL7 := (low_grown HGA.out hbw).trans ((tokRow_low HTA.out hgr6 (by rw [World.size_alloc, World.size_setCell]; omega)).trans (low_grown (grown_set w6 b 4 (.slice (some ⟨g6, 0, none⟩) (ts.length + 1) cap6)) (by have := CurAt.lt hC6; omega)))
        have HC7 := Lib.hid hC7
        have HT7 := Lib.hid hT7
        have HL7 := Lib.hid hL7
        clear hC7 hT7 hL7 hown6 hgr6 hC6
        go_wp2
        go_end0
        rw [HX.out]
        refine ⟨rfl, ⟨_, _, HC7.out, HT7.out, ?_⟩, HL7.out⟩
        rw [List.map_append, hts]
        show _ = (xMove (xFail st (a + m) 5) raw.length).out ++ _
        rw [HMO.out]
        rfl
      · have hte : te = (k, e) := by rw [hTE, if_neg (by omega)]
        subst hte
        clear hTE
        have HX : Hid (xText s st a = xPush (xMove (xFail st (a + k) e) raw.length) ⟨3, a, v, []⟩) := Lib.hid (hX.trans (by rw [if_neg (by exact hez)]))
        clear hX
        have cX := CFL.out w4 (a + k) e hC3
        have ec : ((a + k : Nat) : Int) = (a : Int) + (k : Int) := by omega
        rw [ec] at cX
        have CX := Lib.hid cX
        clear cX ec
        go_wp2_with fail
        refine (CX.out).mono ?_
        rintro e' w5 ⟨rfl, hC, hg5⟩
        have hT := hT3.other hC3 hg5
        have hg := hg3.trans hg5
        clear hC3 hT3 hg3 hg5
        have hSi : (xFail st (a + k) e).i = st.i := fail_i _ _
        have hSo : (xFail st (a + k) e).out = st.out := fail_o _ _
        have k1 : w5.cell? ⟨b, 1, none⟩ = some (.int .i64 st.i) := by have := CurAt.c1 hC; rw [hSi] at this; exact this
        have f1 := CurAt.fz hC 1
        have hlC := CurAt.lt hC
        have hC5 : CurS (w5.setCell ⟨b, 1, none⟩ (.int .i64 ((st.i : Int) + (raw.length : Int)))) b s (xMove (xFail st (a + k) e) raw.length) lv := CurAt.set1 hC ((xFail st (a + k) e).i + raw.length) _ (by rw [hSi]; omega)
        have hT5 := hT.other hC (grown_set w5 b 1 (.int .i64 ((st.i : Int) + (raw.length : Int))))
        have hg5 := hg.trans (grown_set w5 b 1 (.int .i64 ((st.i : Int) + (raw.length : Int))))
        have HMO : Hid ((xMove (xFail st (a + k) e) raw.length).out = st.out) := Lib.hid hSo
        clear hSo hSi hT hg
        have c4 := CurAt.c4 hC5
        have hWl := CurAt.lt hC5
        have hWl' : b < w5.heap.size := by first | exact hWl | (rw [World.size_setCell] at hWl; exact hWl)
        have hba := (Below.refl (w5.setCell ⟨b, 1, none⟩ (.int .i64 ((st.i : Int) + (raw.length : Int)))).heap.size (w5.setCell ⟨b, 1, none⟩ (.int .i64 ((st.i : Int) + (raw.length : Int))))).alloc (Nat.le_refl _) (Obj.cells #[.int .i64 3, .int .i64 a, .string ⟨(v).toArray⟩, .slice none 0 0] 30)
        have HCA := Lib.hid ((hC5).below hba)
        have HTA := Lib.hid ((hT5).below hba)
        have HPA := Lib.hid (prRow.below (prRow_nil b (w5.setCell ⟨b, 1, none⟩ (.int .i64 ((st.i : Int) + (raw.length : Int))))) hba)
        have HGA := Lib.hid (hg5.trans (below_grows hba (some b)))
        have hnc := cells_new (w5.setCell ⟨b, 1, none⟩ (.int .i64 ((st.i : Int) + (raw.length : Int)))) (tkCells (⟨3, a, v, []⟩ : Tk) (.slice none 0 0)) 30
        rw [World.size_setCell] at hnc
        have hpo := own_one (prRow_nil b (w5.setCell ⟨b, 1, none⟩ (.int .i64 ((st.i : Int) + (raw.length : Int)))))
        clear hba
        go_wp2_with (at_builtin; refine wpList_append_own _ rfl _ _ 24 rfl b 30 i0 _ 4 56 Tryz.underlying24 hi0 hz0 hz1 hz2 rfl (by decide) lv _ _ rfl HTA.out.1 ⟨w5.heap.size, 0, none⟩ 1 1 (tkCells (⟨3, a, v, []⟩ : Tk) (.slice none 0 0)) rfl ?c0 ?c1 ?c2 ?c3 ?c4 ?c5 ?_)
        case c0 => rfl
        case c1 => first | exact hnc | exact fun j u hu => hu
        case c2 => intro u hu; simp only [tkCells, List.mem_cons, List.not_mem_nil, or_false] at hu; rcases hu with rfl | rfl | rfl | rfl <;> first | rfl | exact hpo
        case c3 => unfold maxLen; omega
        case c4 => omega
        case c5 => first | omega | (rw [World.size_alloc, World.size_setCell]; omega)
        intro v' w6 hown6 hgr6 _
        obtain ⟨g6, cap6, rfl⟩ := own_val hown6 (Nat.succ_pos _)
        have hC6 := tokRow_cur HTA.out hgr6 HCA.out
        have f4 := CurAt.fz hC6 4
        have c4' := CurAt.c4 hC6
        have hC7 := CurAt.set4 hC6 (.slice (some ⟨g6, 0, none⟩) (ts.length + 1) cap6)
        have hT7 := (tokRow_push (t := (⟨3, a, v, []⟩ : Tk)) HTA.out HPA.out hgr6 hown6).other hC6 (grown_set w6 b 4 (.slice (some ⟨g6, 0, none⟩) (ts.length + 1) cap6))
        have hL7 := (low_grown HGA.out hbw).trans ((tokRow_low HTA.out hgr6 (by rw [World.size_alloc, World.size_setCell]; omega)).trans (low_grown (grown_set w6 b 4 (.slice (some ⟨g6, 0, none⟩) (ts.length + 1) cap6)) (by have := CurAt.lt hC6; omega)))
        have HC7 := Lib.hid hC7
        have HT7 := Lib.hid hT7
        have HL7 := Lib.hid hL7
        clear hC7 hT7 hL7 hown6 hgr6 hC6
        go_wp2
        go_end0
        rw [HX.out]
        refine ⟨rfl, ⟨_, _, HC7.out, HT7.out, ?_⟩, HL7.out⟩
        rw [List.map_append, hts]
        show _ = (xMove (xFail st (a + k) e) raw.length).out ++ _
        rw [HMO.out]
        rfl

end Go.Proofs.YtblhpkcdemefaaaGreatDoor
