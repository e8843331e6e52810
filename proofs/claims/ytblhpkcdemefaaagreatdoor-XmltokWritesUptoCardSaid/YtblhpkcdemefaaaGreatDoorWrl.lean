/- Walks: the law XmltokWrites. -/
import Derived.Test.YtblhpkcdemefaaaGreatDoorRwr
import Derived.Test.YtblhpkcdemefaaaGreatDoorEqt
set_option linter.unusedVariables false
set_option linter.unusedSimpArgs false
namespace Go.Proofs.YtblhpkcdemefaaaGreatDoor
open Go.RowKit

theorem samePs_self (pl : Bool) : ∀ ps : List RP, samePs pl ps ps = true
  | [] => rfl
  | p :: r => by unfold samePs sameP; rw [samePs_self pl r]; simp
theorem sameL_self (pl : Bool) (l : List RT) : sameL pl l l = true := by
  have h : ∀ l : List RT, sameTs pl l l = true := fun l => by
    induction l with
    | nil => rfl
    | cons t r ih => unfold sameTs sameH; rw [ih, samePs_self]; simp
  unfold sameL; rw [h]; simp

set_option maxHeartbeats 8000000 in
set_option maxRecDepth 100000 in
theorem writes_any (l m : List RT) (va vb : Value) (w : World) (h1 : ToksAt w va l) (h2 : ToksAt w vb m) (hR : Ready w) (hsz : szL l + szL m ≤ 10000000) :
    Calls Tryz.prog 5 #[va, vb] w fun e w' => e = .returned (.bool true) ∧ Below w.heap.size w w' := by
  have CA := Lib.hid (fun wx hx => alive_any wx hx)
  have h1' := h1
  have h2' := h2
  obtain ⟨p1, c1, rfl, _⟩ := h1'
  obtain ⟨p2, c2, rfl, _⟩ := h2'
  have HL := Lib.hid h1
  have HM := Lib.hid h2
  obtain ⟨n1, hn1⟩ : ∃ n, l.length = n := ⟨_, rfl⟩
  obtain ⟨n2, hn2⟩ : ∃ n, m.length = n := ⟨_, rfl⟩
  rw [hn1] at HL ⊢
  rw [hn2] at HM ⊢
  have cG := fun (wx : World) (hw : Below w.heap.size w wx) (g : Nat) (hg : wx.heap[g]? = some (.cells #[.slice p1 n1 c1, .slice p2 n2 c2] 24 (0, 0))) => great_any g 2 2 [(.slice p1 n1 c1, l), (.slice p2 n2 c2, m)] wx ⟨rfl, Nat.le_refl _, fun j hj => by
    have hj2 : j < 2 := hj
    match j, hj2 with
    | 0, _ => exact ⟨by simp [World.cell?, hg], HL.out.below hw⟩
    | 1, _ => exact ⟨by simp [World.cell?, hg], HM.out.below hw⟩⟩ (by decide) (by show szL l + (szL m + 0) ≤ _; omega)
  have hG : szG [(Value.slice p1 n1 c1, l), (Value.slice p2 n2 c2, m)] = szL l + szL m := by show szL l + (szL m + 0) = _; omega
  rw [hG] at cG
  clear h1 h2 hG
  go_enter Tryz.func5, Tryz.ntmps5
  go_wp2_with fail
  refine (CA.out _ hR).mono ?_
  rintro e w1 ⟨rfl, hb1⟩
  have hR1 := hR.below hb1
  have hs1 := hb1.size
  have hba := (Below.refl w1.heap.size w1).alloc (Nat.le_refl _) (Obj.cells #[.slice p1 n1 c1, .slice p2 n2 c2] 24)
  have hnew := heap_alloc_new w1 (Obj.cells #[.slice p1 n1 c1, .slice p2 n2 c2] 24)
  have hb2 := hb1.trans (hba.mono hs1)
  have cG' := cG _ hb2 w1.heap.size hnew
  have hR2 := hR1.below hba
  have hs2 := hb2.size
  clear hnew hba hb1 cG
  by_cases hbig : 3000 < szL l + szL m
  · rw [decide_eq_true hbig] at cG'
    have CG := Lib.hid cG'
    clear cG' hn1 hn2
    go_wp2_with fail
    refine (CG.out).mono ?_
    rintro e w3 ⟨rfl, hb3⟩
    have hR3 := hR2.below hb3
    have hb13 := hb2.trans (hb3.mono hs2)
    go_wp2_with fail
    refine (CA.out _ hR3).mono ?_
    rintro e w4 ⟨rfl, hb4⟩
    go_wp2
    go_ret
    exact ⟨rfl, hb13.trans (hb4.mono hb13.size)⟩
  · rw [decide_eq_false hbig] at cG'
    have CG := Lib.hid cG'
    have hin := sz_in (by omega : szL l ≤ 3000)
    have him := sz_in (by omega : szL m ≤ 3000)
    have hl3 : l.length ≤ 1000000000 := Nat.le_trans hin.1 (by decide)
    have hm3 : m.length ≤ 1000000000 := Nat.le_trans him.1 (by decide)
    have hal : ∀ t ∈ l, t.attrs.length ≤ 1000000000 := fun t ht => Nat.le_trans (hin.2 t ht).2.1 (by decide)
    have ham : ∀ t ∈ m, t.attrs.length ≤ 1000000000 := fun t ht => Nat.le_trans (him.2 t ht).2.1 (by decide)
    have CW := Lib.hid (fun wx (hw : Below w.heap.size w wx) (hx : Ready wx) => write_any l _ wx (HL.out.below hw) hx hin.1 hin.2)
    have CV := Lib.hid (fun wx (hw : Below w.heap.size w wx) => writeR_any l _ wx (HL.out.below hw) hin.1 hin.2)
    have cS1 := fun wx (hw : Below w.heap.size w wx) => xsame_any l m _ _ wx (HL.out.below hw) (HM.out.below hw) hl3 hm3 hal ham
    have cS2 := fun wx (hw : Below w.heap.size w wx) => same_any false l m _ _ wx (HL.out.below hw) (HM.out.below hw) hl3 hm3 hal ham
    have cS3 := fun wx (hw : Below w.heap.size w wx) => xsame_any l l _ _ wx (HL.out.below hw) (HL.out.below hw) hl3 hl3 hal hal
    rw [sameL_self] at cS3
    generalize sameL false l m = r at *
    generalize writeL l = wl at *
    obtain ⟨bs, wn, we⟩ := wl
    simp only [] at CW CV
    have CS1 := Lib.hid cS1
    have CS2 := Lib.hid cS2
    have CS3 := Lib.hid cS3
    clear cG' cS1 cS2 cS3 hn1 hn2
    go_wp2_with fail
    refine (CG.out).mono ?_
    rintro e' w3 ⟨rfl, hb3⟩
    have hR3 := hR2.below hb3
    have hb13 := hb2.trans (hb3.mono hs2)
    have hs13 := hb13.size
    clear hR2 hb2 hb3 CG hR1
    go_wp2_with fail
    refine (CW.out _ hb13 hR3).mono ?_
    rintro e' w4 ⟨bv, rfl, hown, hb4⟩
    have hb14 := hb13.trans (hb4.mono hs13)
    have hs14 := hb14.size
    have HO4 := Lib.hid (bytesOf_own hown)
    clear hb4 hown CW hb13
    go_wp2_with fail
    refine (CV.out _ hb14).mono ?_
    rintro e' w5 ⟨cv, rfl, hB5, hb5⟩
    have hb15 := hb14.trans (hb5.mono hs14)
    have hs15 := hb15.size
    have hcv1 := conv_of (HO4.out.below hb5)
    have hcv2 := conv_of hB5
    have HB15 := Lib.hid hb15
    clear hb5 hB5 hb14
    cases r with
    | true =>
      go_wp2_with fail
      refine (CS1.out _ HB15.out).mono ?_
      rintro e' w6 ⟨rfl, hb6⟩
      have hb16 := HB15.out.trans (hb6.mono hs15)
      have hs16 := hb16.size
      go_wp2_with fail
      refine (CS2.out _ hb16).mono ?_
      rintro e' w7 ⟨rfl, hb7⟩
      have hb17 := hb16.trans (hb7.mono hs16)
      have hs17 := hb17.size
      go_wp2_with fail
      refine (CS3.out _ hb17).mono ?_
      rintro e' w8 ⟨rfl, hb8⟩
      have HB := Lib.hid (hb17.trans (hb8.mono hs17))
      clear hb17 hb8 hb16 hb6 hb7
      go_wp2
      go_ret
      exact ⟨rfl, HB.out⟩
    | false =>
      go_wp2_with fail
      refine (CS1.out _ HB15.out).mono ?_
      rintro e' w6 ⟨rfl, hb6⟩
      have hb16 := HB15.out.trans (hb6.mono hs15)
      have hs16 := hb16.size
      go_wp2_with fail
      refine (CS2.out _ hb16).mono ?_
      rintro e' w7 ⟨rfl, hb7⟩
      have hb17 := hb16.trans (hb7.mono hs16)
      have hs17 := hb17.size
      go_wp2_with fail
      refine (CS3.out _ hb17).mono ?_
      rintro e' w8 ⟨rfl, hb8⟩
      have HB := Lib.hid (hb17.trans (hb8.mono hs17))
      clear hb17 hb8 hb16 hb6 hb7
      go_wp2
      go_ret
      exact ⟨rfl, HB.out⟩

end Go.Proofs.YtblhpkcdemefaaaGreatDoor
