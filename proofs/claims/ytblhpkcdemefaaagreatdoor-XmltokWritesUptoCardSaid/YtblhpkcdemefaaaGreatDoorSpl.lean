/- Walks: names.Plain, names.Split. -/
import Derived.Test.YtblhpkcdemefaaaGreatDoorNam
set_option linter.unusedVariables false
set_option linter.unusedSimpArgs false
namespace Go.Proofs.YtblhpkcdemefaaaGreatDoor
open Go.RowKit

theorem eg_start : ∀ args w, (callFunc 111 args).run Tryz.prog w = .ok (.enter 111 args) w := enters_of Tryz.func111 (by kernel_rfl) rfl
theorem eg_part : ∀ args w, (callFunc 110 args).run Tryz.prog w = .ok (.enter 110 args) w := enters_of Tryz.func110 (by kernel_rfl) rfl

theorem plain_any (l : List UInt8) (s : ByteArray) (hs : s = ⟨l.toArray⟩) (w : World) (hl : l.length ≤ 2147483647) (hR : Ready w) :
    Calls Tryz.prog 116 #[.string s] w fun e w' => e = .returned (.bool (plainL l)) ∧ Below w.heap.size w w' := by
  subst hs
  have C := Lib.hid (made_any 111 110 firstB partB eg_start eg_part start_any part_any (fun _ h => firstB_fine h) (fun _ h => partB_fine h) l w hl hR)
  go_enter Tryz.func116, Tryz.ntmps116
  go_wp2_with fail
  refine (C.out).mono ?_
  rintro e w1 ⟨rfl, hb1⟩
  go_wp2
  go_ret
  exact ⟨rfl, hb1⟩

/-- What names.Split hands back. -/
def splitRes (l : List UInt8) : Value := .tuple #[.string ⟨(splitR l).1.toArray⟩, .string ⟨(splitR l).2.toArray⟩, .int .i64 (if splitB l = true then 0 else 6)]
theorem splitRes_ok {l a b : List UInt8} (h : splitB l = true) (ha : splitR l = (a, b)) : splitRes l = .tuple #[.string ⟨a.toArray⟩, .string ⟨b.toArray⟩, .int .i64 0] := by
  unfold splitRes; rw [ha, if_pos h]
theorem splitRes_bad {l : List UInt8} (h : splitB l = false) : splitRes l = .tuple #[.string ⟨#[]⟩, .string ⟨#[]⟩, .int .i64 6] := by
  unfold splitRes splitR; rw [if_pos h, if_neg (by rw [h]; decide)]

theorem split_any (l : List UInt8) (s : ByteArray) (hs : s = ⟨l.toArray⟩) (w : World) (hl : l.length ≤ 2147483647) (hR : Ready w) :
    Calls Tryz.prog 72 #[.string s] w fun e w' => e = .returned (splitRes l) ∧ Below w.heap.size w w' := by
  subst hs
  have cC := cut_any 58 l ⟨l.toArray⟩ ⟨#[58]⟩ rfl rfl (by omega) w hR
  have hcl := cutB_le 58 l
  have hB : splitB l = if (cutB 58 l).2.2 = true then plainL (cutB 58 l).1 && plainL (cutB 58 l).2.1 else plainL l := rfl
  have hRR : splitB l = true → splitR l = if (cutB 58 l).2.2 = true then ((cutB 58 l).1, (cutB 58 l).2.1) else ([], l) := fun h => by unfold splitR; rw [if_neg (by rw [h]; decide)]
  have h2l : (cutB 58 l).2.1.length ≤ l.length := by
    have : ∀ m : List UInt8, (cutB 58 m).2.1.length ≤ m.length := by
      intro m
      induction m with
      | nil => exact Nat.le_refl _
      | cons x r ih =>
        unfold cutB
        split
        · simp
        · simp; omega
    exact this l
  have hP := Lib.hid (fun (m : List UInt8) wx (hm : m.length ≤ l.length) (hx : Ready wx) => plain_any m ⟨m.toArray⟩ rfl wx (by omega) hx)
  have hOK := fun (h : splitB l = true) a b => splitRes_ok (l := l) (a := a) (b := b) h
  have hBAD := fun (h : splitB l = false) => splitRes_bad h
  generalize (cutB 58 l).2.2 = both at *
  generalize (cutB 58 l).1 = x at *
  generalize (cutB 58 l).2.1 = y at *
  have CC := Lib.hid cC
  clear cC
  have hx1 := hcl.1
  clear hcl
  cases both with
  | true =>
    have hRR' : splitB l = true → splitR l = (x, y) := fun h => (hRR h).trans (if_pos rfl)
    have hB' : splitB l = (plainL x && plainL y) := hB.trans (if_pos rfl)
    clear hB hRR
    cases h1 : plainL x with
    | false =>
      have HF := Lib.hid (hBAD (by rw [hB', h1]; rfl))
      clear hB' hRR' hOK hBAD
      go_enter Tryz.func72, Tryz.ntmps72
      go_wp2_with fail
      refine (CC.out).mono ?_
      rintro e w1 ⟨rfl, hb1⟩
      have hR1 := hR.below hb1
      have hs1 := hb1.size
      go_wp2_with fail
      refine (hP.out x _ hx1 hR1).mono ?_
      rw [h1]
      rintro e w2 ⟨rfl, hb2⟩
      go_wp2
      go_ret3
      rw [HF.out]
      exact ⟨rfl, hb1.trans (hb2.mono hs1)⟩
    | true =>
      cases h2 : plainL y with
      | false =>
        have HF := Lib.hid (hBAD (by rw [hB', h1, h2]; rfl))
        clear hB' hRR' hOK hBAD
        go_enter Tryz.func72, Tryz.ntmps72
        go_wp2_with fail
        refine (CC.out).mono ?_
        rintro e w1 ⟨rfl, hb1⟩
        have hR1 := hR.below hb1
        have hs1 := hb1.size
        go_wp2_with fail
        refine (hP.out x _ hx1 hR1).mono ?_
        rw [h1]
        rintro e w2 ⟨rfl, hb2⟩
        have hR2 := hR1.below hb2
        have hs2 := hb2.size
        go_wp2_with fail
        refine (hP.out y _ h2l hR2).mono ?_
        rw [h2]
        rintro e w3 ⟨rfl, hb3⟩
        go_wp2
        go_ret3
        rw [HF.out]
        exact ⟨rfl, hb1.trans ((hb2.mono hs1).trans (hb3.mono (by omega)))⟩
      | true =>
        have hT : splitB l = true := by rw [hB', h1, h2]; rfl
        have HF := Lib.hid (hOK hT x y (hRR' hT))
        clear hB' hRR' hOK hBAD hT
        go_enter Tryz.func72, Tryz.ntmps72
        go_wp2_with fail
        refine (CC.out).mono ?_
        rintro e w1 ⟨rfl, hb1⟩
        have hR1 := hR.below hb1
        have hs1 := hb1.size
        go_wp2_with fail
        refine (hP.out x _ hx1 hR1).mono ?_
        rw [h1]
        rintro e w2 ⟨rfl, hb2⟩
        have hR2 := hR1.below hb2
        have hs2 := hb2.size
        go_wp2_with fail
        refine (hP.out y _ h2l hR2).mono ?_
        rw [h2]
        rintro e w3 ⟨rfl, hb3⟩
        go_wp2
        go_ret3
        rw [HF.out]
        exact ⟨rfl, hb1.trans ((hb2.mono hs1).trans (hb3.mono (by omega)))⟩
  | false =>
    have hRR' : splitB l = true → splitR l = ([], l) := fun h => (hRR h).trans (if_neg (by decide))
    have hB' : splitB l = plainL l := hB.trans (if_neg (by decide))
    clear hB hRR
    cases h1 : plainL l with
    | false =>
      have HF := Lib.hid (hBAD (by rw [hB', h1]))
      clear hB' hRR' hOK hBAD
      go_enter Tryz.func72, Tryz.ntmps72
      go_wp2_with fail
      refine (CC.out).mono ?_
      rintro e w1 ⟨rfl, hb1⟩
      have hR1 := hR.below hb1
      have hs1 := hb1.size
      go_wp2_with fail
      refine (hP.out l _ (Nat.le_refl _) hR1).mono ?_
      rw [h1]
      rintro e w2 ⟨rfl, hb2⟩
      go_wp2
      go_ret3
      rw [HF.out]
      exact ⟨rfl, hb1.trans (hb2.mono hs1)⟩
    | true =>
      have hT : splitB l = true := by rw [hB', h1]
      have HF := Lib.hid (hOK hT [] l (hRR' hT))
      clear hB' hRR' hOK hBAD hT
      go_enter Tryz.func72, Tryz.ntmps72
      go_wp2_with fail
      refine (CC.out).mono ?_
      rintro e w1 ⟨rfl, hb1⟩
      have hR1 := hR.below hb1
      have hs1 := hb1.size
      go_wp2_with fail
      refine (hP.out l _ (Nat.le_refl _) hR1).mono ?_
      rw [h1]
      rintro e w2 ⟨rfl, hb2⟩
      go_wp2
      go_ret3
      rw [HF.out]
      exact ⟨rfl, hb1.trans (hb2.mono hs1)⟩

end Go.Proofs.YtblhpkcdemefaaaGreatDoor
