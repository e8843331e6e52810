/- Walks: the law XmltokBack, over its plain law. -/
import Derived.Test.YtfnmhdnlogfbdaaGreatDoorNil
import Derived.Test.YtfnmhdnlogfbdaaGreatDoorTagw
set_option linter.unusedVariables false
set_option linter.unusedSimpArgs false
namespace Go.Proofs.YtfnmhdnlogfbdaaGreatDoor
open Go.RowKit

/-- What the plain law says of tokens: what is written is read as it was, but for places. -/
def BackP (l : List RT) : Prop := szL l ≤ 3000 → (writeL l).2.2 = 0 → ∃ ts : List Tk, tokL (writeL l).1 = (ts, (writeL l).1.length, 0) ∧ sameL false l (ts.map Tk.raw) = true ∧ (ts.length ≤ 1000000000 ∧ ∀ t ∈ ts, t.attrs.length ≤ 1000000000) ∧ ∀ i, Lib.hasPrefix ((writeL l).1.drop i) [60, 33, 91, 67, 68, 65, 84, 65, 91] = false

theorem sz_in {l : List RT} (h : szL l ≤ 3000) : l.length ≤ 3000 ∧ ∀ t ∈ l, t.s.length ≤ 3000 ∧ t.attrs.length ≤ 3000 ∧ ∀ p ∈ t.attrs, p.name.length ≤ 3000 ∧ p.value.length ≤ 3000 := by
  unfold szL at h
  refine ⟨by omega, fun t ht => ?_⟩
  have h1 : szT t ≤ szTs l := sum_mem szT l t ht
  have h2 := szPs_len t.attrs
  have h1' : t.s.length + szPs t.attrs ≤ szTs l := h1
  refine ⟨by omega, by omega, fun p hp => ?_⟩
  have h3 : szP p ≤ szPs t.attrs := sum_mem szP t.attrs p hp
  have h3' : 1 + p.name.length + p.value.length ≤ szPs t.attrs := h3
  omega

theorem writeGo_len : ∀ (l : List RT) (i : Nat) (b : Bool) (acc : List UInt8), (∀ t ∈ l, t.s.length ≤ 3000 ∧ t.attrs.length ≤ 3000 ∧ ∀ p ∈ t.attrs, p.name.length ≤ 3000 ∧ p.value.length ≤ 3000) → (writeGo l i b acc).1.length ≤ acc.length + l.length * 100000000
  | [], i, b, acc, _ => by simp [writeGo]
  | t :: r, i, b, acc, h => by
    unfold writeGo
    split
    · have ht := h t List.mem_cons_self
      have ih := writeGo_len r (i + 1) (decide (t.kind = 3)) (acc ++ (tokW t b).1) (fun u hu => h u (List.mem_cons_of_mem _ hu))
      have := tokW_len t b ht.1 ht.2.1 ht.2.2
      rw [List.length_append] at ih
      rw [List.length_cons, Nat.add_mul]
      omega
    · simp

set_option maxHeartbeats 8000000 in
set_option maxRecDepth 100000 in
theorem back_any (l : List RT) (v : Value) (w : World) (h : ToksAt w v l) (hR : Ready w) (hsz : szL l ≤ 10000000) (hlaw : BackP l) (hlen : (writeL l).1.length ≤ 2147483647) :
    Calls Tryz.prog 5 #[v] w fun e w' => e = .returned (.bool true) ∧ Below w.heap.size w w' := by
  have CA := Lib.hid (fun wx hx => alive_any wx hx)
  have h2 := h
  obtain ⟨vp, vc, hv, hvc, _⟩ := h2
  obtain ⟨n, hn⟩ : ∃ n, l.length = n := ⟨_, rfl⟩
  rw [hn] at hv
  have HV := Lib.hid h
  have cG := fun (wx : World) (hw : Below w.heap.size w wx) (g : Nat) (hg : wx.heap[g]? = some (.cells #[v] 24 (0, 0))) => great_any g 1 1 [(v, l)] wx ⟨rfl, Nat.le_refl _, fun j hj => by
    have hj1 : j < 1 := hj
    obtain rfl : j = 0 := by omega
    exact ⟨by simp [World.cell?, hg], h.below hw⟩⟩ (by decide) (by show szL l + 0 ≤ _; omega)
  have hG : szG [(v, l)] = szL l := by show szL l + 0 = _; omega
  rw [hG] at cG
  clear h hG
  subst hv
  go_enter Tryz.func5, Tryz.ntmps5
  go_wp2_with fail
  refine (CA.out _ hR).mono ?_
  rintro e w1 ⟨rfl, hb1⟩
  have hR1 := hR.below hb1
  have hs1 := hb1.size
  have hba := (Below.refl w1.heap.size w1).alloc (Nat.le_refl _) (Obj.cells #[.slice vp n vc] 24)
  have hnew := heap_alloc_new w1 (Obj.cells #[.slice vp n vc] 24)
  have hb2 := hb1.trans (hba.mono hs1)
  have cG' := cG _ hb2 w1.heap.size hnew
  have hR2 := hR1.below hba
  have hs2 := hb2.size
  clear hnew hba hb1 cG
  by_cases hbig : 3000 < szL l
  · rw [decide_eq_true hbig] at cG'
    have CG := Lib.hid cG'
    clear cG'
    go_wp2_with fail
    refine (CG.out).mono ?_
    rintro e w3 ⟨rfl, hb3⟩
    have hR3 := hR2.below hb3
    have hb13 := hb2.trans (hb3.mono hs2)
    go_wp2_with fail
    refine (CA.out _ hR3).mono ?_
    rintro e w4 ⟨rfl, hb4⟩
    go_wp2
    go_ret
    exact ⟨rfl, hb13.trans (hb4.mono hb13.size)⟩
  · rw [decide_eq_false hbig] at cG'
    have CG := Lib.hid cG'
    have hin := sz_in (by omega : szL l ≤ 3000)
    have cW := fun wx (hw : Below w.heap.size w wx) (hx : Ready wx) => write_any l _ wx (HV.out.below hw) hx hin.1 hin.2
    have hbp := hlaw (by omega)
    have herr := fun he => writeGo_err l 0 false [] he
    have hwl : writeL l = writeGo l 0 false [] := rfl
    rw [← hwl] at herr
    clear cG' hwl hlaw
    generalize writeL l = r at *
    obtain ⟨bs, wn, e⟩ := r
    simp only [] at cW hbp herr hlen
    have CW := Lib.hid cW
    clear cW
    go_wp2_with fail
    refine (CG.out).mono ?_
    rintro e' w3 ⟨rfl, hb3⟩
    have hR3 := hR2.below hb3
    have hb13 := hb2.trans (hb3.mono hs2)
    have hs13 := hb13.size
    clear hR2 hb2 hb3 CG hR1
    go_wp2_with fail
    refine (CW.out _ hb13 hR3).mono ?_
    rintro e' w4 ⟨bv, rfl, hown, hb4⟩
    have hR4 := hR3.below hb4
    have hb14 := hb13.trans (hb4.mono hs13)
    clear hR3 hb13 hb4 CW
    by_cases he : e = 0
    · subst he
      obtain ⟨ts, ht1, ht2, ht3, ht4⟩ := hbp rfl
      have cT := fun g cap wx (hx : Ready wx) hm => tokens_any bs g 0 cap wx (by omega) hx hm (oneC_free ht4)
      rw [ht1] at cT
      simp only [] at cT
      have hTA := fun wx (hw : Below w.heap.size w wx) => HV.out.below hw
      have hl3 : l.length ≤ 1000000000 := Nat.le_trans hin.1 (by decide)
      have ha3 : ∀ t ∈ l, t.attrs.length ≤ 1000000000 := fun t ht => Nat.le_trans (hin.2 t ht).2.1 (by decide)
      have hmr : (ts.map Tk.raw).length ≤ 1000000000 := by rw [List.length_map]; exact ht3.1
      have har : ∀ t ∈ ts.map Tk.raw, t.attrs.length ≤ 1000000000 := by
        intro t ht
        obtain ⟨u, hu, rfl⟩ := List.mem_map.1 ht
        show (u.attrs.map PrA.raw).length ≤ _
        rw [List.length_map]
        exact ht3.2 u hu
      have CT := Lib.hid cT
      clear cT hbp herr
      rcases hown.2 with ⟨rfl, h0⟩ | ⟨g, cap, cur, rfl, _⟩
      · have hbs : bs = [] := List.eq_nil_of_length_eq_zero h0
        subst hbs
        have hts : ts = [] := by
          have e1 : tokL [] = ([], 0, 0) := by decide +kernel
          rw [e1] at ht1
          cases ht1
          rfl
        subst hts
        clear CT ht1 hown
        go_wp2_with fail
        refine (tokens_nil w4).mono ?_
        rintro e' w5 ⟨rfl, hb5⟩
        have hb15 := hb14.trans (hb5.mono hb14.size)
        have cS := same_any false l [] _ (.slice none 0 0) w5 (hTA w5 hb15) ⟨none, 0, rfl, Nat.le_refl _, fun i hi => absurd hi (Nat.not_lt_zero i)⟩ hl3 (by decide) ha3 (by intro t ht; cases ht)
        rw [show sameL false l [] = true from ht2] at cS
        have CS := Lib.hid cS
        clear cS
        go_wp2_with fail
        refine (CS.out).mono ?_
        rintro e' w6 ⟨rfl, hb6⟩
        go_wp2
        go_ret
        exact ⟨rfl, hb15.trans (hb6.mono hb15.size)⟩
      · have hby : bytesAt w4 g 0 bs := own_bytes hown rfl
        obtain ⟨N, hN⟩ : ∃ N, bs.length = N := ⟨_, rfl⟩
        have hc := CT.out g cap w4 hR4 hby
        rw [hN] at hc hlen ⊢
        have HC := Lib.hid hc
        clear hc hown CT
        go_wp2_with fail
        refine (HC.out).mono ?_
        rintro e' w5 ⟨v1, ts1, rfl, hT1, hts1, hb5⟩
        have hb15 := hb14.trans (hb5.mono hb14.size)
        have hTT := tokRow_at hT1
        have hE : (ts1.map fun x => x.1.raw) = ts.map Tk.raw := by rw [← hts1, List.map_map]; rfl
        rw [hE] at hTT
        have cS := same_any false l (ts.map Tk.raw) _ v1 w5 (hTA w5 hb15) hTT hl3 hmr ha3 har
        rw [ht2] at cS
        have CS := Lib.hid cS
        clear cS
        go_wp2_with fail
        refine (CS.out).mono ?_
        rintro e' w6 ⟨rfl, hb6⟩
        go_wp2
        go_ret
        exact ⟨rfl, hb15.trans (hb6.mono hb15.size)⟩
    · have hbs := herr he
      subst hbs
      clear hbp
      have ie : ((e : Int) != 0) = true := by rw [bne_iff_ne]; omega
      have ie' : ((e : Int) == 0) = false := by rw [beq_eq_false_iff_ne]; omega
      obtain ⟨bp, bc, rfl⟩ : ∃ p c, bv = .slice p 0 c := by
        rcases hown.2 with ⟨rfl, _⟩ | ⟨g, cap, cur, rfl, _⟩
        · exact ⟨_, _, rfl⟩
        · exact ⟨_, _, rfl⟩
      clear hown herr
      go_wp2
      go_ret
      exact ⟨rfl, hb14⟩

end Go.Proofs.YtfnmhdnlogfbdaaGreatDoor
