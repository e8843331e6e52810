/- Walks: xmltok's scanner.attr: an attribute. -/
import Derived.Test.YtblhpkcdemefaaaGreatDoorXq
set_option linter.unusedVariables false
set_option linter.unusedSimpArgs false
namespace Go.Proofs.YtblhpkcdemefaaaGreatDoor
open Go.RowKit

instance : Inhabited PrA := ⟨⟨[], [], 0⟩⟩

/-- An attribute's cells. -/
def prCells (p : PrA) : List Value := [.int .i64 p.at_, .string ⟨p.name.toArray⟩, .string ⟨p.value.toArray⟩]

/-- A row of attributes, of the call's own. -/
def prRow (B : Nat) (w : World) (v : Value) (ps : List PrA) : Prop := w.ownsRow B 32 3 v ps.length (ps.flatMap prCells)

theorem closure_attr (w : World) (a : Nat) (nm : List UInt8) (ha : a < w.heap.size) (hc : w.cell? ⟨a, 1, none⟩ = some (.string ⟨nm.toArray⟩)) :
    PredBelow Tryz.prog 147 #[.pointer (some ⟨a, 0, none⟩)] (fun x : PrA => .agg (prCells x).toArray) (fun q => q.name == nm) w := fun W x hb => by
  have hc' : W.cell? ⟨a, 1, none⟩ = some (.string ⟨nm.toArray⟩) := (hb.cell (p := ⟨a, 1, none⟩) ha).trans hc
  have hsz := hb.size
  obtain ⟨n, v, i⟩ := x
  have hBW : a < W.heap.size := Nat.lt_of_lt_of_le ha hsz
  have hne : a ≠ W.heap.size := by omega
  show Calls Tryz.prog 147 #[.agg #[.int .i64 i, .string ⟨n.toArray⟩, .string ⟨v.toArray⟩], .pointer (some ⟨a, 0, none⟩)] W _
  clear hc
  go_enter Tryz.func147, Tryz.ntmps147
  go_wp2
  go_ret
  exact ⟨rfl, hb.alloc hb.size _⟩

theorem flat_get {α : Type} (f : α → List Value) (k : Nat) (hk : ∀ x, (f x).length = k) : ∀ (l : List α) (j i : Nat) (h : j < l.length), i < k → (l.flatMap f)[j * k + i]? = (f l[j])[i]?
  | [], j, i, h, _ => by simp at h
  | x :: r, 0, i, h, hi => by
    rw [List.flatMap_cons, Nat.zero_mul, Nat.zero_add, List.getElem?_append_left (by rw [hk]; exact hi)]
    rfl
  | x :: r, j + 1, i, h, hi => by
    rw [List.flatMap_cons, List.getElem?_append_right (by rw [hk, Nat.add_mul]; omega)]
    have e : (j + 1) * k + i - (f x).length = j * k + i := by rw [hk, Nat.add_mul]; omega
    rw [e, flat_get f k hk r j i (by simpa using h) hi]
    rfl

theorem contains_nil (g : Nat) (lb : Array Value) (w : World) :
    Calls Tryz.prog 117 #[.slice none 0 0, .func (.func g) #[] lb] w fun e w' => e = .returned (.bool false) ∧ Below w.heap.size w w' := by
  have C : ∀ wx : World, Calls Tryz.prog 153 #[.slice none 0 0, .func (.func g) #[] lb] wx fun e w' => e = .returned (.int .i64 (-1)) ∧ Below wx.heap.size wx w' := by
    intro wx
    go_enter Tryz.func153, Tryz.ntmps153
    go_wp2
    go_loopw [8] (fun v8 wr => v8 = .int .i64 0 ∧ wr = wx) (fun _ _ => 0)
    case atStart => exact ⟨rfl, rfl⟩
    case round =>
      obtain ⟨rfl, rfl⟩ := hrel
      go_wp2
      go_ret
      exact ⟨rfl, Below.refl _ _⟩
  have CC := Lib.hid C
  clear C
  go_enter Tryz.func117, Tryz.ntmps117
  go_wp2_with fail
  refine (CC.out _).mono ?_
  rintro e w1 ⟨rfl, hb1⟩
  go_wp2
  go_ret
  exact ⟨rfl, hb1⟩

theorem prCells_len (p : PrA) : (prCells p).length = 3 := rfl

theorem contains_any (g : Nat) (eg : ∀ args w, (callFunc g args).run Tryz.prog w = .ok (.enter g args) w) (B : Nat) (ps : List PrA) (v : Value) (w : World) (h : prRow B w v ps) (lb : Array Value) (p : PrA → Bool)
    (hp : PredBelow Tryz.prog g lb (fun x : PrA => .agg (prCells x).toArray) p w) :
    Calls Tryz.prog 117 #[v, .func (.func g) #[] lb] w fun e w' => e = .returned (.bool (ps.any p)) ∧ Below w.heap.size w w' := by
  have hcells := @World.ownsRow.cells _ _ _ _ _ _ _ h
  rcases h.2 with ⟨rfl, h0⟩ | ⟨g', cap, cur, rfl, hb, hg, hn, hcap, hs, ht⟩
  · have : ps = [] := List.eq_nil_of_length_eq_zero h0
    subst this
    exact contains_nil g lb w
  · have hC := Tryz.sContainsPair 3 Tryz.sizeOf32 prCells prCells_len p g lb eg g' 0 ps.length cap ps w hp (Nat.le_refl _) (by unfold maxLen at hcap; omega) (Array.getElem?_eq_some_iff.1 hg).1 (fun j hj i u hu => by
      have hi : i < 3 := by
        have := (List.getElem?_eq_some_iff.1 hu).1
        rw [prCells_len] at this
        exact this
      have e := hcells (g := g') rfl (j * 3 + i) u (by rw [flat_get prCells 3 prCells_len ps j i hj hi]; rw [getElem!_pos ps j hj] at hu; exact hu)
      rw [Addr.add_lit, ← Nat.add_assoc] at e
      exact e)
    rw [List.take_length] at hC
    exact hC

theorem own_other {w w' : World} {base size n b : Nat} {e T : TypeId} {v : Value} {xs : List Value} {c : Array Value} {fr : Nat × Nat} (h : w.ownsRow base e size v n xs) (hg : w.grownBy w' (some b)) (hb : w.heap[b]? = some (.cells c T fr)) (hne : T ≠ e) : w'.ownsRow base e size v n xs := by
  refine h.kept hg ?_
  rcases h.2 with ⟨rfl, _⟩ | ⟨g, cap, cur, rfl, _, hgg, _⟩
  · exact Or.inl rfl
  · refine Or.inr fun he => ?_
    have : g = b := by simpa [Value.ownBlock] using he
    subst this
    rw [hgg] at hb
    cases hb
    exact hne rfl

theorem prRow.other {w w' : World} {B b : Nat} {v : Value} {ps : List PrA} {s : List UInt8} {st : St} {lv : Value} (h : prRow B w v ps) (hc : CurS w b s st lv) (hg : w.grownBy w' (some b)) : prRow B w' v ps :=
  own_other h hg hc (by decide)
theorem prRow.below {w w' : World} {B : Nat} {v : Value} {ps : List PrA} (h : prRow B w v ps) (hb : Below w.heap.size w w') : prRow B w' v ps :=
  h.kept (below_grows hb none) (by cases v.ownBlock <;> simp)

theorem CurS.set {w : World} {b a : Nat} {s : List UInt8} {st : St} {lv : Value} (h : CurS w b s st lv) (ha : b ≠ a) (j : Nat) (v : Value) : CurS (w.setCell ⟨a, j, none⟩ v) b s st lv :=
  (heap_setCell_other w _ _ _ ha).trans h
theorem Based.set {b a : Nat} {w : World} (h : Based b w) (ha : b ≤ a) (j : Nat) (v : Value) : Based b (w.setCell ⟨a, j, none⟩ v) := by
  refine h.belowb ⟨rfl, rfl, rfl, by simp, fun k hk => heap_setCell_other w _ _ _ ?_⟩
  show k ≠ a
  omega
theorem grown_setNew {w w1 : World} {a : Nat} {r : Option Nat} (h : w.grownBy w1 r) (ha : w.heap.size ≤ a) (j : Nat) (v : Value) : w.grownBy (w1.setCell ⟨a, j, none⟩ v) r :=
  ⟨h.os, h.tape, h.output, Nat.le_trans h.size (by simp), fun k hk hr => (heap_setCell_other w1 _ _ _ (by show k ≠ a; omega)).trans (h.block k hk hr)⟩
theorem prow_below {w : World} {B b : Nat} {v : Value} {ps : List PrA} {s : List UInt8} {st : St} {lv : Value} (h : prRow B w v ps) (hc : CurS w b s st lv) : True := trivial
theorem blk_c0 {w : World} {a : Nat} {x y z : Value} {T : TypeId} {fr : Nat × Nat} (h : w.heap[a]? = some (.cells #[x, y, z] T fr)) : w.cell? ⟨a, 0, none⟩ = some x := by simp [World.cell?, h]
theorem blk_c1 {w : World} {a : Nat} {x y z : Value} {T : TypeId} {fr : Nat × Nat} (h : w.heap[a]? = some (.cells #[x, y, z] T fr)) : w.cell? ⟨a, 1, none⟩ = some y := by simp [World.cell?, h]
theorem blk_c2 {w : World} {a : Nat} {x y z : Value} {T : TypeId} {fr : Nat × Nat} (h : w.heap[a]? = some (.cells #[x, y, z] T fr)) : w.cell? ⟨a, 2, none⟩ = some z := by simp [World.cell?, h]
theorem eg_attr : ∀ args w, (callFunc 147 args).run Tryz.prog w = .ok (.enter 147 args) w := enters_of Tryz.func147 (by kernel_rfl) rfl

set_option maxHeartbeats 4000000 in
set_option maxRecDepth 100000 in
theorem xattr_any (b : Nat) (s : List UInt8) (st : St) (lv : Value) (B : Nat) (ps : List PrA) (pv : Value) (w : World) (h : CurS w b s st lv) (hi : st.i ≤ s.length) (hsz : s.length ≤ 1000000000) (hR : Based b w) (hp : prRow B w pv ps) :
    Calls Tryz.prog 112 #[.pointer (some ⟨b, 0, none⟩), pv] w fun e w' => e = .returned (.agg (prCells (xAttr s st ps).2).toArray) ∧ CurS w' b s (xAttr s st ps).1 lv ∧ w.grownBy w' (some b) := by
  have hs2 : s.length ≤ 2147483647 := by omega
  have k1 := CurAt.c1 h
  have hl := CurAt.lt h
  have CN := Lib.hid (fun wx (hw : CurS wx b s st lv) (hx : Based b wx) => name_any b s st lv wx hw hi hs2 hx)
  have hLn : Le s st (xName s st).1 := le_name
  have hX : xAttr s st ps = ((xAttrB s (xTwice (xName s st).1 st.i (xName s st).2 ps)).1, ⟨(xName s st).2, (xAttrB s (xTwice (xName s st).1 st.i (xName s st).2 ps)).2, st.i⟩) := rfl
  have hT : xTwice (xName s st).1 st.i (xName s st).2 ps = if decide ((xName s st).1.be = 0) && ps.any (fun q => q.name == (xName s st).2) then xFail (xName s st).1 st.i 8 else (xName s st).1 := rfl
  have hplt := hp.lt
  have hbp := prow_below (b := b) hp h
  obtain ⟨w0, hw0⟩ : ∃ w0, w0 = (w.alloc (Obj.cells #[Value.int IntKind.i64 0, Value.string { data := #[] }, Value.string { data := #[] }] 32)).alloc (Obj.cells #[Value.int IntKind.i64 ↑st.i, Value.string { data := #[] }, Value.string { data := #[] }] 32) := ⟨_, rfl⟩
  have hb0 : Below w.heap.size w w0 := by
    rw [hw0]
    exact ((Below.refl _ w).alloc (Nat.le_refl _) _).alloc (by simp) _
  have hA0 : w0.heap[w.heap.size]? = some (.cells #[.int .i64 0, .string ⟨#[]⟩, .string ⟨#[]⟩] 32 (0, 0)) := by rw [hw0]; exact heap_alloc2_old w _ _
  have hA1 : w0.heap[w.heap.size + 1]? = some (.cells #[.int .i64 st.i, .string ⟨#[]⟩, .string ⟨#[]⟩] 32 (0, 0)) := by rw [hw0]; exact heap_alloc2_new w _ _
  have hlt1 : w.heap.size + 1 < w0.heap.size := (Array.getElem?_eq_some_iff.1 hA1).1
  have hlt0 : w.heap.size < w0.heap.size := by omega
  have hne1 : some (w.heap.size + 1) ≠ some b := by simp; omega
  have hne0 : some w.heap.size ≠ some b := by simp; omega
  have hC := h.below hb0
  have hB := hR.below hb0
  have hG : w.grownBy w0 (some b) := below_grows hb0 _
  have hP := hp.below hb0
  go_enter Tryz.func112, Tryz.ntmps112
  go_wp2_with fail
  rw [← hw0]
  clear hw0 hp hb0
  refine (CN.out _ hC hB).mono ?_
  rintro e w1 ⟨rfl, hC1, hg1⟩
  have hP1 := hP.other hC hg1
  have hG1 := hG.trans hg1
  have hB1 := hB.grown hg1
  have hA11 := (hg1.block _ hlt1 hne1).trans hA1
  have hZ11 := (hg1.block _ hlt0 hne0).trans hA0
  have hlt1 := Nat.lt_of_lt_of_le hlt1 hg1.size
  have hlt0 := Nat.lt_of_lt_of_le hlt0 hg1.size
  have fa1 := frozen_of_row w1 (w.heap.size + 1) 1 _ _ hA11
  have ca1 := blk_c1 hA11
  obtain ⟨w2, hw2⟩ : ∃ w2, w2 = w1.setCell ⟨w.heap.size + 1, 1, none⟩ (.string ⟨(xName s st).2.toArray⟩) := ⟨_, rfl⟩
  have hC2 : CurS w2 b s (xName s st).1 lv := by rw [hw2]; exact CurS.set hC1 (by omega) _ _
  have hB2 : Based b w2 := by rw [hw2]; exact hB1.set (by omega) _ _
  have hG2 : w.grownBy w2 (some b) := by rw [hw2]; exact grown_setNew hG1 (by omega) _ _
  have hA2 : w2.heap[w.heap.size + 1]? = some (.cells #[.int .i64 st.i, .string ⟨(xName s st).2.toArray⟩, .string ⟨#[]⟩] 32 (0, 0)) := by rw [hw2]; exact heap_setCell_same w1 (w.heap.size + 1) 1 _ _ _ hA11
  have hZ2 : w2.heap[w.heap.size]? = some (.cells #[.int .i64 0, .string ⟨#[]⟩, .string ⟨#[]⟩] 32 (0, 0)) := by rw [hw2]; exact (heap_setCell_other w1 _ _ _ (by simp)).trans hZ11
  have hP2 : prRow B w2 pv ps := by
    rw [hw2]
    refine hP1.kept (grown_set w1 (w.heap.size + 1) 1 _) ?_
    cases ho : pv.ownBlock with
    | none => exact Or.inl rfl
    | some k => exact Or.inr (by have := hplt k ho; intro e; cases e; omega)
  have hlt1 : w.heap.size + 1 < w2.heap.size := (Array.getElem?_eq_some_iff.1 hA2).1
  have hlt0 : w.heap.size < w2.heap.size := by omega
  have cF := cfine_any b s _ _ _ lv w2 hC2
  clear hC1 hB1 hG1 hP1 hZ11 hg1 hA11 hC hB hG hP hA0 hA1 h hR
  by_cases hbe : (xName s st).1.be = 0
  · rw [decide_eq_true hbe] at cF
    rw [decide_eq_true hbe, Bool.true_and] at hT
    have cK := fun wx (hw : Below w2.heap.size w2 wx) => contains_any 147 eg_attr B ps pv wx (hP2.below hw) #[.pointer (some ⟨w.heap.size + 1, 0, none⟩)] (fun q => q.name == (xName s st).2) (closure_attr wx (w.heap.size + 1) _ (Nat.lt_of_lt_of_le hlt1 hw.size) ((hw.cell (p := ⟨w.heap.size + 1, 1, none⟩) hlt1).trans (blk_c1 hA2)))
    cases hany : ps.any (fun q => q.name == (xName s st).2) with
    | true =>
      rw [hany] at hT
      rw [if_pos rfl] at hT
      rw [hT] at hX
      have cK' := cK w2 (Below.refl _ _)
      rw [hany] at cK'
      have CK := Lib.hid cK'
      have CF := Lib.hid cF
      have CFL := Lib.hid (fun wx (hw : CurS wx b s (xName s st).1 lv) => cfail_any b s (xName s st).1 lv st.i 8 wx hw)
      clear cK cF hT hany cK'
      go_wp2_with fail
      rw [← hw2]
      clear hw2
      refine (CF.out).mono ?_
      rintro e w3 ⟨rfl, rfl⟩
      go_wp2_with fail
      refine (CK.out).mono ?_
      rintro e w4 ⟨rfl, hb4⟩
      have hC4 := hC2.below hb4
      have hB4 := hB2.below hb4
      have hG4 := hG2.trans (below_grows hb4 (some b))
      have hA4 := (hb4.block _ hlt1).trans hA2
      have hZ4 := (hb4.block _ hlt0).trans hZ2
      have hlt1 := Nat.lt_of_lt_of_le hlt1 hb4.size
      have hlt0 := Nat.lt_of_lt_of_le hlt0 hb4.size
      have ca0 := blk_c0 hA4
      clear hC2 hB2 hG2 hA2 hZ2 hP2 hb4
      go_wp2
      go_still_tail 5, (by kernel_rfl)
      change wpList _ _ _ _ _ w4.drew
      have hb5 := below_drewN w4 1
      have e5 : w4.drewN 1 = w4.drew := rfl
      rw [e5] at hb5
      clear e5
      generalize w4.drew = w5 at *
      have hC5 := hC4.below hb5
      have hB5 := hB4.below hb5
      have hG5 := hG4.trans (below_grows hb5 (some b))
      have hA5 := (hb5.block _ hlt1).trans hA4
      have hZ5 := (hb5.block _ hlt0).trans hZ4
      have hlt1 := Nat.lt_of_lt_of_le hlt1 hb5.size
      have hlt0 := Nat.lt_of_lt_of_le hlt0 hb5.size
      clear hC4 hB4 hG4 hA4 hZ4 hb5 ca0
      go_wp2_with fail
      refine (CFL.out _ hC5).mono ?_
      rintro e w6 ⟨rfl, hC, hg6⟩
      have hG := hG5.trans hg6
      have hB := hB5.grown hg6
      have hA1 := (hg6.block _ hlt1 hne1).trans hA5
      have hA0 := (hg6.block _ hlt0 hne0).trans hZ5
      have hlt1 := Nat.lt_of_lt_of_le hlt1 hg6.size
      have hlt0 := Nat.lt_of_lt_of_le hlt0 hg6.size
      have hL : Le s st (xFail (xName s st).1 st.i 8) := hLn.trans (le_fail _ _ (fun h => Nat.le_trans hLn.i h))
      clear hC5 hB5 hG5 hA5 hZ5 hg6
      have li := hL.ii hi
      have CB1 := Lib.hid (fun wx (hw : CurS wx b s (xFail (xName s st).1 st.i 8) lv) => cblanks_any b s _ lv wx hw li hs2)
      have hL2 : Le s st (xBlank s (xFail (xName s st).1 st.i 8)) := hL.trans le_blank
      have li2 := hL2.ii hi
      have CN2 := Lib.hid (fun wx (hw : CurS wx b s (xBlank s (xFail (xName s st).1 st.i 8)) lv) => cneed_any b s _ lv [61] ⟨#[61]⟩ rfl wx hw li2 hs2)
      have hL3 : Le s st (xNeed s (xBlank s (xFail (xName s st).1 st.i 8)) [61]) := hL2.trans (le_need _)
      have li3 := hL3.ii hi
      have CB3 := Lib.hid (fun wx (hw : CurS wx b s (xNeed s (xBlank s (xFail (xName s st).1 st.i 8)) [61]) lv) => cblanks_any b s _ lv wx hw li3 hs2)
      have hL4 : Le s st (xBlank s (xNeed s (xBlank s (xFail (xName s st).1 st.i 8)) [61])) := hL3.trans le_blank
      have li4 := hL4.ii hi
      have CV := Lib.hid (fun wx (hw : CurS wx b s (xBlank s (xNeed s (xBlank s (xFail (xName s st).1 st.i 8)) [61])) lv) (hx : Based b wx) => xvalue_any b s _ lv wx hw li4 hsz hx)
      have hvA : xAttrB s (xFail (xName s st).1 st.i 8) = xValue s (xBlank s (xNeed s (xBlank s (xFail (xName s st).1 st.i 8)) [61])) := rfl
      rw [hvA] at hX
      have HX := Lib.hid hX
      clear hX hvA hL hL2 hL3 hL4 li li2 li3 li4
      go_wp2_with fail
      refine (CB1.out _ hC).mono ?_
      rintro e w11 ⟨rfl, hC11, hg11⟩
      have hG11 := hG.trans hg11
      have hB11 := hB.grown hg11
      have hA11 := (hg11.block _ hlt1 hne1).trans hA1
      have hZ11 := (hg11.block _ hlt0 hne0).trans hA0
      have hlt1 := Nat.lt_of_lt_of_le hlt1 hg11.size
      have hlt0 := Nat.lt_of_lt_of_le hlt0 hg11.size
      clear hC hG hB hA1 hA0 hg11
      go_wp2_with fail
      refine (CN2.out _ hC11).mono ?_
      rintro e w12 ⟨rfl, hC12, hg12⟩
      have hG12 := hG11.trans hg12
      have hB12 := hB11.grown hg12
      have hA12 := (hg12.block _ hlt1 hne1).trans hA11
      have hZ12 := (hg12.block _ hlt0 hne0).trans hZ11
      have hlt1 := Nat.lt_of_lt_of_le hlt1 hg12.size
      have hlt0 := Nat.lt_of_lt_of_le hlt0 hg12.size
      clear hC11 hG11 hB11 hA11 hZ11 hg12
      go_wp2_with fail
      refine (CB3.out _ hC12).mono ?_
      rintro e w13 ⟨rfl, hC13, hg13⟩
      have hG13 := hG12.trans hg13
      have hB13 := hB12.grown hg13
      have hA13 := (hg13.block _ hlt1 hne1).trans hA12
      have hZ13 := (hg13.block _ hlt0 hne0).trans hZ12
      have hlt1 := Nat.lt_of_lt_of_le hlt1 hg13.size
      have hlt0 := Nat.lt_of_lt_of_le hlt0 hg13.size
      clear hC12 hG12 hB12 hA12 hZ12 hg13
      go_wp2_with fail
      refine (CV.out _ hC13 hB13).mono ?_
      rintro e w14 ⟨rfl, hC14, hg14⟩
      have hG14 := hG13.trans hg14
      have hA14 := (hg14.block _ hlt1 hne1).trans hA13
      have hZ14 := (hg14.block _ hlt0 hne0).trans hZ13
      have hlt1 := Nat.lt_of_lt_of_le hlt1 hg14.size
      have hlt0 := Nat.lt_of_lt_of_le hlt0 hg14.size
      have ca0 := blk_c0 hA14
      have ca1 := blk_c1 hA14
      have ca2 := blk_c2 hA14
      have cz0 := blk_c0 hZ14
      have cz1 := blk_c1 hZ14
      have cz2 := blk_c2 hZ14
      have fa2 := frozen_of_row w14 (w.heap.size + 1) 2 _ _ hA14
      have fz0 := frozen_of_row w14 w.heap.size 0 _ _ hZ14
      have fz1 := frozen_of_row w14 w.heap.size 1 _ _ hZ14
      have fz2 := frozen_of_row w14 w.heap.size 2 _ _ hZ14
      have nab : w.heap.size + 1 ≠ w.heap.size := by omega
      have hCe : CurS ((((w14.setCell ⟨w.heap.size + 1, 2, none⟩ (.string ⟨(xValue s (xBlank s (xNeed s (xBlank s (xFail (xName s st).1 st.i 8)) [61]))).2.toArray⟩)).setCell ⟨w.heap.size, 0, none⟩ (.int .i64 st.i)).setCell ⟨w.heap.size, 1, none⟩ (.string ⟨(xName s st).2.toArray⟩)).setCell ⟨w.heap.size, 2, none⟩ (.string ⟨(xValue s (xBlank s (xNeed s (xBlank s (xFail (xName s st).1 st.i 8)) [61]))).2.toArray⟩)) b s _ lv := CurS.set (CurS.set (CurS.set (CurS.set hC14 (by omega) _ _) (by omega) _ _) (by omega) _ _) (by omega) _ _
      have hGe : w.grownBy ((((w14.setCell ⟨w.heap.size + 1, 2, none⟩ (.string ⟨(xValue s (xBlank s (xNeed s (xBlank s (xFail (xName s st).1 st.i 8)) [61]))).2.toArray⟩)).setCell ⟨w.heap.size, 0, none⟩ (.int .i64 st.i)).setCell ⟨w.heap.size, 1, none⟩ (.string ⟨(xName s st).2.toArray⟩)).setCell ⟨w.heap.size, 2, none⟩ (.string ⟨(xValue s (xBlank s (xNeed s (xBlank s (xFail (xName s st).1 st.i 8)) [61]))).2.toArray⟩)) (some b) := grown_setNew (grown_setNew (grown_setNew (grown_setNew hG14 (by omega) _ _) (by omega) _ _) (by omega) _ _) (by omega) _ _
      have hZe : ((((w14.setCell ⟨w.heap.size + 1, 2, none⟩ (.string ⟨(xValue s (xBlank s (xNeed s (xBlank s (xFail (xName s st).1 st.i 8)) [61]))).2.toArray⟩)).setCell ⟨w.heap.size, 0, none⟩ (.int .i64 st.i)).setCell ⟨w.heap.size, 1, none⟩ (.string ⟨(xName s st).2.toArray⟩)).setCell ⟨w.heap.size, 2, none⟩ (.string ⟨(xValue s (xBlank s (xNeed s (xBlank s (xFail (xName s st).1 st.i 8)) [61]))).2.toArray⟩)).heap[w.heap.size]? = some (.cells #[.int .i64 st.i, .string ⟨(xName s st).2.toArray⟩, .string ⟨(xValue s (xBlank s (xNeed s (xBlank s (xFail (xName s st).1 st.i 8)) [61]))).2.toArray⟩] 32 (0, 0)) :=
        heap_setCell_same _ _ 2 _ _ _ (heap_setCell_same _ _ 1 _ _ _ (heap_setCell_same _ _ 0 _ _ _ ((heap_setCell_other w14 _ _ _ (by show w.heap.size ≠ w.heap.size + 1; omega)).trans hZ14)))
      have HC := Lib.hid hCe
      have HZ := Lib.hid hZe
      have HG := Lib.hid hGe
      clear hCe hGe hZe hC14 hG14 hA14 hZ14 hC13 hG13 hB13 hA13 hZ13 hg14
      go_wp2
      (try simp only [Exit.inBlock, Exit.then])
      refine bodyPost_ret (results_cell_row (p := 4) (ty := 32) rfl _ _ w.heap.size _ _ _ _ rfl HZ.out Tryz.underlying32 rfl (by kernel_rfl)) rfl ?_
      rw [HX.out]
      exact ⟨rfl, HC.out, HG.out⟩
    | false =>
      rw [hany, if_neg (by decide)] at hT
      rw [hT] at hX
      have cK' := cK w2 (Below.refl _ _)
      rw [hany] at cK'
      have CK := Lib.hid cK'
      have CF := Lib.hid cF
      clear cK cF hT hany cK'
      go_wp2_with fail
      rw [← hw2]
      clear hw2
      refine (CF.out).mono ?_
      rintro e w3 ⟨rfl, rfl⟩
      go_wp2_with fail
      refine (CK.out).mono ?_
      rintro e w4 ⟨rfl, hb4⟩
      have hC := hC2.below hb4
      have hB := hB2.below hb4
      have hG := hG2.trans (below_grows hb4 (some b))
      have hA1 := (hb4.block _ hlt1).trans hA2
      have hA0 := (hb4.block _ hlt0).trans hZ2
      have hlt1 := Nat.lt_of_lt_of_le hlt1 hb4.size
      have hlt0 := Nat.lt_of_lt_of_le hlt0 hb4.size
      have hL := hLn
      clear hC2 hB2 hG2 hA2 hZ2 hP2 hb4
      have li := hL.ii hi
      have CB1 := Lib.hid (fun wx (hw : CurS wx b s ((xName s st).1) lv) => cblanks_any b s _ lv wx hw li hs2)
      have hL2 : Le s st (xBlank s ((xName s st).1)) := hL.trans le_blank
      have li2 := hL2.ii hi
      have CN2 := Lib.hid (fun wx (hw : CurS wx b s (xBlank s ((xName s st).1)) lv) => cneed_any b s _ lv [61] ⟨#[61]⟩ rfl wx hw li2 hs2)
      have hL3 : Le s st (xNeed s (xBlank s ((xName s st).1)) [61]) := hL2.trans (le_need _)
      have li3 := hL3.ii hi
      have CB3 := Lib.hid (fun wx (hw : CurS wx b s (xNeed s (xBlank s ((xName s st).1)) [61]) lv) => cblanks_any b s _ lv wx hw li3 hs2)
      have hL4 : Le s st (xBlank s (xNeed s (xBlank s ((xName s st).1)) [61])) := hL3.trans le_blank
      have li4 := hL4.ii hi
      have CV := Lib.hid (fun wx (hw : CurS wx b s (xBlank s (xNeed s (xBlank s ((xName s st).1)) [61])) lv) (hx : Based b wx) => xvalue_any b s _ lv wx hw li4 hsz hx)
      have hvA : xAttrB s ((xName s st).1) = xValue s (xBlank s (xNeed s (xBlank s ((xName s st).1)) [61])) := rfl
      rw [hvA] at hX
      have HX := Lib.hid hX
      clear hX hvA hL hL2 hL3 hL4 li li2 li3 li4
      go_wp2_with fail
      refine (CB1.out _ hC).mono ?_
      rintro e w11 ⟨rfl, hC11, hg11⟩
      have hG11 := hG.trans hg11
      have hB11 := hB.grown hg11
      have hA11 := (hg11.block _ hlt1 hne1).trans hA1
      have hZ11 := (hg11.block _ hlt0 hne0).trans hA0
      have hlt1 := Nat.lt_of_lt_of_le hlt1 hg11.size
      have hlt0 := Nat.lt_of_lt_of_le hlt0 hg11.size
      clear hC hG hB hA1 hA0 hg11
      go_wp2_with fail
      refine (CN2.out _ hC11).mono ?_
      rintro e w12 ⟨rfl, hC12, hg12⟩
      have hG12 := hG11.trans hg12
      have hB12 := hB11.grown hg12
      have hA12 := (hg12.block _ hlt1 hne1).trans hA11
      have hZ12 := (hg12.block _ hlt0 hne0).trans hZ11
      have hlt1 := Nat.lt_of_lt_of_le hlt1 hg12.size
      have hlt0 := Nat.lt_of_lt_of_le hlt0 hg12.size
      clear hC11 hG11 hB11 hA11 hZ11 hg12
      go_wp2_with fail
      refine (CB3.out _ hC12).mono ?_
      rintro e w13 ⟨rfl, hC13, hg13⟩
      have hG13 := hG12.trans hg13
      have hB13 := hB12.grown hg13
      have hA13 := (hg13.block _ hlt1 hne1).trans hA12
      have hZ13 := (hg13.block _ hlt0 hne0).trans hZ12
      have hlt1 := Nat.lt_of_lt_of_le hlt1 hg13.size
      have hlt0 := Nat.lt_of_lt_of_le hlt0 hg13.size
      clear hC12 hG12 hB12 hA12 hZ12 hg13
      go_wp2_with fail
      refine (CV.out _ hC13 hB13).mono ?_
      rintro e w14 ⟨rfl, hC14, hg14⟩
      have hG14 := hG13.trans hg14
      have hA14 := (hg14.block _ hlt1 hne1).trans hA13
      have hZ14 := (hg14.block _ hlt0 hne0).trans hZ13
      have hlt1 := Nat.lt_of_lt_of_le hlt1 hg14.size
      have hlt0 := Nat.lt_of_lt_of_le hlt0 hg14.size
      have ca0 := blk_c0 hA14
      have ca1 := blk_c1 hA14
      have ca2 := blk_c2 hA14
      have cz0 := blk_c0 hZ14
      have cz1 := blk_c1 hZ14
      have cz2 := blk_c2 hZ14
      have fa2 := frozen_of_row w14 (w.heap.size + 1) 2 _ _ hA14
      have fz0 := frozen_of_row w14 w.heap.size 0 _ _ hZ14
      have fz1 := frozen_of_row w14 w.heap.size 1 _ _ hZ14
      have fz2 := frozen_of_row w14 w.heap.size 2 _ _ hZ14
      have nab : w.heap.size + 1 ≠ w.heap.size := by omega
      have hCe : CurS ((((w14.setCell ⟨w.heap.size + 1, 2, none⟩ (.string ⟨(xValue s (xBlank s (xNeed s (xBlank s ((xName s st).1)) [61]))).2.toArray⟩)).setCell ⟨w.heap.size, 0, none⟩ (.int .i64 st.i)).setCell ⟨w.heap.size, 1, none⟩ (.string ⟨(xName s st).2.toArray⟩)).setCell ⟨w.heap.size, 2, none⟩ (.string ⟨(xValue s (xBlank s (xNeed s (xBlank s ((xName s st).1)) [61]))).2.toArray⟩)) b s _ lv := CurS.set (CurS.set (CurS.set (CurS.set hC14 (by omega) _ _) (by omega) _ _) (by omega) _ _) (by omega) _ _
      have hGe : w.grownBy ((((w14.setCell ⟨w.heap.size + 1, 2, none⟩ (.string ⟨(xValue s (xBlank s (xNeed s (xBlank s ((xName s st).1)) [61]))).2.toArray⟩)).setCell ⟨w.heap.size, 0, none⟩ (.int .i64 st.i)).setCell ⟨w.heap.size, 1, none⟩ (.string ⟨(xName s st).2.toArray⟩)).setCell ⟨w.heap.size, 2, none⟩ (.string ⟨(xValue s (xBlank s (xNeed s (xBlank s ((xName s st).1)) [61]))).2.toArray⟩)) (some b) := grown_setNew (grown_setNew (grown_setNew (grown_setNew hG14 (by omega) _ _) (by omega) _ _) (by omega) _ _) (by omega) _ _
      have hZe : ((((w14.setCell ⟨w.heap.size + 1, 2, none⟩ (.string ⟨(xValue s (xBlank s (xNeed s (xBlank s ((xName s st).1)) [61]))).2.toArray⟩)).setCell ⟨w.heap.size, 0, none⟩ (.int .i64 st.i)).setCell ⟨w.heap.size, 1, none⟩ (.string ⟨(xName s st).2.toArray⟩)).setCell ⟨w.heap.size, 2, none⟩ (.string ⟨(xValue s (xBlank s (xNeed s (xBlank s ((xName s st).1)) [61]))).2.toArray⟩)).heap[w.heap.size]? = some (.cells #[.int .i64 st.i, .string ⟨(xName s st).2.toArray⟩, .string ⟨(xValue s (xBlank s (xNeed s (xBlank s ((xName s st).1)) [61]))).2.toArray⟩] 32 (0, 0)) :=
        heap_setCell_same _ _ 2 _ _ _ (heap_setCell_same _ _ 1 _ _ _ (heap_setCell_same _ _ 0 _ _ _ ((heap_setCell_other w14 _ _ _ (by show w.heap.size ≠ w.heap.size + 1; omega)).trans hZ14)))
      have HC := Lib.hid hCe
      have HZ := Lib.hid hZe
      have HG := Lib.hid hGe
      clear hCe hGe hZe hC14 hG14 hA14 hZ14 hC13 hG13 hB13 hA13 hZ13 hg14
      go_wp2
      (try simp only [Exit.inBlock, Exit.then])
      refine bodyPost_ret (results_cell_row (p := 4) (ty := 32) rfl _ _ w.heap.size _ _ _ _ rfl HZ.out Tryz.underlying32 rfl (by kernel_rfl)) rfl ?_
      rw [HX.out]
      exact ⟨rfl, HC.out, HG.out⟩
  · rw [decide_eq_false hbe] at cF
    rw [decide_eq_false hbe, Bool.false_and, if_neg (by decide)] at hT
    rw [hT] at hX
    have CF := Lib.hid cF
    clear cF hT hbe
    go_wp2_with fail
    rw [← hw2]
    clear hw2
    refine (CF.out).mono ?_
    rintro e w3 ⟨rfl, rfl⟩
    have hC := hC2
    have hB := hB2
    have hG := hG2
    have hA1 := hA2
    have hA0 := hZ2
    have hL := hLn
    clear hC2 hB2 hG2 hA2 hZ2 hP2
    have li := hL.ii hi
    have CB1 := Lib.hid (fun wx (hw : CurS wx b s ((xName s st).1) lv) => cblanks_any b s _ lv wx hw li hs2)
    have hL2 : Le s st (xBlank s ((xName s st).1)) := hL.trans le_blank
    have li2 := hL2.ii hi
    have CN2 := Lib.hid (fun wx (hw : CurS wx b s (xBlank s ((xName s st).1)) lv) => cneed_any b s _ lv [61] ⟨#[61]⟩ rfl wx hw li2 hs2)
    have hL3 : Le s st (xNeed s (xBlank s ((xName s st).1)) [61]) := hL2.trans (le_need _)
    have li3 := hL3.ii hi
    have CB3 := Lib.hid (fun wx (hw : CurS wx b s (xNeed s (xBlank s ((xName s st).1)) [61]) lv) => cblanks_any b s _ lv wx hw li3 hs2)
    have hL4 : Le s st (xBlank s (xNeed s (xBlank s ((xName s st).1)) [61])) := hL3.trans le_blank
    have li4 := hL4.ii hi
    have CV := Lib.hid (fun wx (hw : CurS wx b s (xBlank s (xNeed s (xBlank s ((xName s st).1)) [61])) lv) (hx : Based b wx) => xvalue_any b s _ lv wx hw li4 hsz hx)
    have hvA : xAttrB s ((xName s st).1) = xValue s (xBlank s (xNeed s (xBlank s ((xName s st).1)) [61])) := rfl
    rw [hvA] at hX
    have HX := Lib.hid hX
    clear hX hvA hL hL2 hL3 hL4 li li2 li3 li4
    go_wp2_with fail
    refine (CB1.out _ hC).mono ?_
    rintro e w11 ⟨rfl, hC11, hg11⟩
    have hG11 := hG.trans hg11
    have hB11 := hB.grown hg11
    have hA11 := (hg11.block _ hlt1 hne1).trans hA1
    have hZ11 := (hg11.block _ hlt0 hne0).trans hA0
    have hlt1 := Nat.lt_of_lt_of_le hlt1 hg11.size
    have hlt0 := Nat.lt_of_lt_of_le hlt0 hg11.size
    clear hC hG hB hA1 hA0 hg11
    go_wp2_with fail
    refine (CN2.out _ hC11).mono ?_
    rintro e w12 ⟨rfl, hC12, hg12⟩
    have hG12 := hG11.trans hg12
    have hB12 := hB11.grown hg12
    have hA12 := (hg12.block _ hlt1 hne1).trans hA11
    have hZ12 := (hg12.block _ hlt0 hne0).trans hZ11
    have hlt1 := Nat.lt_of_lt_of_le hlt1 hg12.size
    have hlt0 := Nat.lt_of_lt_of_le hlt0 hg12.size
    clear hC11 hG11 hB11 hA11 hZ11 hg12
    go_wp2_with fail
    refine (CB3.out _ hC12).mono ?_
    rintro e w13 ⟨rfl, hC13, hg13⟩
    have hG13 := hG12.trans hg13
    have hB13 := hB12.grown hg13
    have hA13 := (hg13.block _ hlt1 hne1).trans hA12
    have hZ13 := (hg13.block _ hlt0 hne0).trans hZ12
    have hlt1 := Nat.lt_of_lt_of_le hlt1 hg13.size
    have hlt0 := Nat.lt_of_lt_of_le hlt0 hg13.size
    clear hC12 hG12 hB12 hA12 hZ12 hg13
    go_wp2_with fail
    refine (CV.out _ hC13 hB13).mono ?_
    rintro e w14 ⟨rfl, hC14, hg14⟩
    have hG14 := hG13.trans hg14
    have hA14 := (hg14.block _ hlt1 hne1).trans hA13
    have hZ14 := (hg14.block _ hlt0 hne0).trans hZ13
    have hlt1 := Nat.lt_of_lt_of_le hlt1 hg14.size
    have hlt0 := Nat.lt_of_lt_of_le hlt0 hg14.size
    have ca0 := blk_c0 hA14
    have ca1 := blk_c1 hA14
    have ca2 := blk_c2 hA14
    have cz0 := blk_c0 hZ14
    have cz1 := blk_c1 hZ14
    have cz2 := blk_c2 hZ14
    have fa2 := frozen_of_row w14 (w.heap.size + 1) 2 _ _ hA14
    have fz0 := frozen_of_row w14 w.heap.size 0 _ _ hZ14
    have fz1 := frozen_of_row w14 w.heap.size 1 _ _ hZ14
    have fz2 := frozen_of_row w14 w.heap.size 2 _ _ hZ14
    have nab : w.heap.size + 1 ≠ w.heap.size := by omega
    have hCe : CurS ((((w14.setCell ⟨w.heap.size + 1, 2, none⟩ (.string ⟨(xValue s (xBlank s (xNeed s (xBlank s ((xName s st).1)) [61]))).2.toArray⟩)).setCell ⟨w.heap.size, 0, none⟩ (.int .i64 st.i)).setCell ⟨w.heap.size, 1, none⟩ (.string ⟨(xName s st).2.toArray⟩)).setCell ⟨w.heap.size, 2, none⟩ (.string ⟨(xValue s (xBlank s (xNeed s (xBlank s ((xName s st).1)) [61]))).2.toArray⟩)) b s _ lv := CurS.set (CurS.set (CurS.set (CurS.set hC14 (by omega) _ _) (by omega) _ _) (by omega) _ _) (by omega) _ _
    have hGe : w.grownBy ((((w14.setCell ⟨w.heap.size + 1, 2, none⟩ (.string ⟨(xValue s (xBlank s (xNeed s (xBlank s ((xName s st).1)) [61]))).2.toArray⟩)).setCell ⟨w.heap.size, 0, none⟩ (.int .i64 st.i)).setCell ⟨w.heap.size, 1, none⟩ (.string ⟨(xName s st).2.toArray⟩)).setCell ⟨w.heap.size, 2, none⟩ (.string ⟨(xValue s (xBlank s (xNeed s (xBlank s ((xName s st).1)) [61]))).2.toArray⟩)) (some b) := grown_setNew (grown_setNew (grown_setNew (grown_setNew hG14 (by omega) _ _) (by omega) _ _) (by omega) _ _) (by omega) _ _
    have hZe : ((((w14.setCell ⟨w.heap.size + 1, 2, none⟩ (.string ⟨(xValue s (xBlank s (xNeed s (xBlank s ((xName s st).1)) [61]))).2.toArray⟩)).setCell ⟨w.heap.size, 0, none⟩ (.int .i64 st.i)).setCell ⟨w.heap.size, 1, none⟩ (.string ⟨(xName s st).2.toArray⟩)).setCell ⟨w.heap.size, 2, none⟩ (.string ⟨(xValue s (xBlank s (xNeed s (xBlank s ((xName s st).1)) [61]))).2.toArray⟩)).heap[w.heap.size]? = some (.cells #[.int .i64 st.i, .string ⟨(xName s st).2.toArray⟩, .string ⟨(xValue s (xBlank s (xNeed s (xBlank s ((xName s st).1)) [61]))).2.toArray⟩] 32 (0, 0)) :=
      heap_setCell_same _ _ 2 _ _ _ (heap_setCell_same _ _ 1 _ _ _ (heap_setCell_same _ _ 0 _ _ _ ((heap_setCell_other w14 _ _ _ (by show w.heap.size ≠ w.heap.size + 1; omega)).trans hZ14)))
    have HC := Lib.hid hCe
    have HZ := Lib.hid hZe
    have HG := Lib.hid hGe
    clear hCe hGe hZe hC14 hG14 hA14 hZ14 hC13 hG13 hB13 hA13 hZ13 hg14
    go_wp2
    (try simp only [Exit.inBlock, Exit.then])
    refine bodyPost_ret (results_cell_row (p := 4) (ty := 32) rfl _ _ w.heap.size _ _ _ _ rfl HZ.out Tryz.underlying32 rfl (by kernel_rfl)) rfl ?_
    rw [HX.out]
    exact ⟨rfl, HC.out, HG.out⟩

end Go.Proofs.YtblhpkcdemefaaaGreatDoor
