/- Walks: the law XmltokTags. -/
import Derived.Test.YtfnmhdnlogfbdaaGreatDoorTi
set_option linter.unusedVariables false
set_option linter.unusedSimpArgs false
namespace Go.Proofs.YtfnmhdnlogfbdaaGreatDoor
open Go.RowKit

theorem one_at (w : World) (g h : Nat) (k : Int) (n0 n1 v : List UInt8) (hg : w.heap[g]? = some (.cells #[.int .i64 k, .int .i64 0, .string ⟨n0.toArray⟩, .slice (some ⟨h, 0, none⟩) 1 1] 30 (0, 0)))
    (hh : w.heap[h]? = some (.cells #[.int .i64 0, .string ⟨n1.toArray⟩, .string ⟨v.toArray⟩] 32 (0, 0))) : ToksAt w (.slice (some ⟨g, 0, none⟩) 1 1) [⟨k, 0, n0, [⟨0, n1, v⟩]⟩] := by
  refine ⟨some ⟨g, 0, none⟩, 1, rfl, Nat.le_refl _, fun i hi => ?_⟩
  have hi1 : i < 1 := hi
  obtain rfl : i = 0 := by omega
  refine ⟨g, 0, .slice (some ⟨h, 0, none⟩) 1 1, rfl, blk4_c0 hg, blk4_c1 hg, blk4_c2 hg, blk4_c3 hg, some ⟨h, 0, none⟩, 1, rfl, Nat.le_refl _, fun j hj => ?_⟩
  have hj1 : j < 1 := hj
  obtain rfl : j = 0 := by omega
  exact ⟨h, 0, rfl, blk_c0 hh, blk_c1 hh, blk_c2 hh⟩

theorem own_cap {w : World} {base n cap g : Nat} {e : TypeId} {size : Nat} {xs : List Value} (h : w.ownsRow base e size (.slice (some ⟨g, 0, none⟩) n cap) n xs) : n ≤ cap := by
  rcases h.2 with ⟨h1, _⟩ | ⟨g', cap', cur, hv, _, _, hn, _⟩
  · cases h1
  · cases hv; exact hn
theorem own_bytes {w : World} {base N cap g : Nat} {l : List UInt8} (h : w.ownsRow base 5 1 (.slice (some ⟨g, 0, none⟩) N cap) N (Lib.byteCells l)) (hN : l.length = N) : bytesAt w g 0 l := by
  intro j hj
  have := h.cells (g := g) rfl j (.int .u8 (l.getD j 0).toNat) (by simp [Lib.byteCells, List.getD_eq_getElem?_getD, hj])
  rw [Addr.add_lit] at this
  exact this
theorem bytes_pre {w : World} {b off : Nat} {l m : List UInt8} (h : bytesAt w b off (l ++ m)) : bytesAt w b off l := by
  intro j hj
  have := h j (by rw [List.length_append]; omega)
  rw [this]
  simp [List.getD_eq_getElem?_getD, List.getElem?_append_left hj]

theorem attrs_one (n1 v : List UInt8) : attrsL [⟨0, n1, v⟩] = if splitB n1 = false then ([], 6) else if (checkL v).2 = false then ([], 4) else (attrW ⟨0, n1, v⟩, 0) := by
  unfold attrsL attrsGo attrE
  simp only [List.any_nil, Bool.false_eq_true, if_false]
  cases splitB n1 <;> cases (checkL v).2 <;> rfl

theorem tokW_0 (n0 n1 v : List UInt8) : (splitB n0 = true → splitB n1 = true → (checkL v).2 = true → tokW ⟨0, 0, n0, [⟨0, n1, v⟩]⟩ false = ([60] ++ n0 ++ attrW ⟨0, n1, v⟩ ++ [62], 0)) ∧
    (¬ (splitB n0 = true ∧ splitB n1 = true ∧ (checkL v).2 = true) → ∃ e, (e = 6 ∨ e = 4) ∧ tokW ⟨0, 0, n0, [⟨0, n1, v⟩]⟩ false = ([], e)) := by
  have h : tokW ⟨0, 0, n0, [⟨0, n1, v⟩]⟩ false = if splitB n0 = false then ([], 6) else if (attrsL [⟨0, n1, v⟩]).2 ≠ 0 then ([], (attrsL [⟨0, n1, v⟩]).2) else ([60] ++ n0 ++ (attrsL [⟨0, n1, v⟩]).1 ++ [62], 0) := rfl
  rw [attrs_one] at h
  constructor
  · intro a b c
    rw [h, a, b, c]; rfl
  · intro hn
    cases a : splitB n0 with
    | false => exact ⟨6, Or.inl rfl, by rw [h, a]; rfl⟩
    | true =>
      cases b : splitB n1 with
      | false => exact ⟨6, Or.inl rfl, by rw [h, a, b]; rfl⟩
      | true =>
        cases c : (checkL v).2 with
        | false => exact ⟨4, Or.inr rfl, by rw [h, a, b, c]; rfl⟩
        | true => exact absurd ⟨a, b, c⟩ hn
theorem tokW_2 (n0 n1 v : List UInt8) : (splitB n0 = true → splitB n1 = true → (checkL v).2 = true → tokW ⟨2, 0, n0, [⟨0, n1, v⟩]⟩ false = ([60] ++ n0 ++ attrW ⟨0, n1, v⟩ ++ [47, 62], 0)) ∧
    (¬ (splitB n0 = true ∧ splitB n1 = true ∧ (checkL v).2 = true) → ∃ e, (e = 6 ∨ e = 4) ∧ tokW ⟨2, 0, n0, [⟨0, n1, v⟩]⟩ false = ([], e)) := by
  have h : tokW ⟨2, 0, n0, [⟨0, n1, v⟩]⟩ false = if splitB n0 = false then ([], 6) else if (attrsL [⟨0, n1, v⟩]).2 ≠ 0 then ([], (attrsL [⟨0, n1, v⟩]).2) else ([60] ++ n0 ++ (attrsL [⟨0, n1, v⟩]).1 ++ [47, 62], 0) := rfl
  rw [attrs_one] at h
  constructor
  · intro a b c
    rw [h, a, b, c]; rfl
  · intro hn
    cases a : splitB n0 with
    | false => exact ⟨6, Or.inl rfl, by rw [h, a]; rfl⟩
    | true =>
      cases b : splitB n1 with
      | false => exact ⟨6, Or.inl rfl, by rw [h, a, b]; rfl⟩
      | true =>
        cases c : (checkL v).2 with
        | false => exact ⟨4, Or.inr rfl, by rw [h, a, b, c]; rfl⟩
        | true => exact absurd ⟨a, b, c⟩ hn

theorem and_u8 : ∀ n : Fin 256, bits BinOp.and IntKind.u8 ((n.val : Nat) : Int) 1 = (((n.val % 2 : Nat)) : Int) := by decide +kernel

set_option maxHeartbeats 8000000 in
set_option maxRecDepth 100000 in
theorem tags_any (n0 n1 v : List UInt8) (k : Nat) (hk : k < 256) (w : World) (hR : Ready w) :
    Calls Tryz.prog 6 #[.agg #[.string ⟨n0.toArray⟩, .string ⟨n1.toArray⟩], .string ⟨v.toArray⟩, .int .u8 k] w fun e w' => e = .returned (.bool true) ∧ Below w.heap.size w w' := by
  have CA := Lib.hid (fun wx hx => alive_any wx hx)
  have s0 := ba_size n0
  have s1 := ba_size n1
  have s2 := ba_size v
  have hbb := (Below.refl w.heap.size w).alloc (Nat.le_refl _) (Obj.cells #[.string ⟨n0.toArray⟩, .string ⟨n1.toArray⟩] 39)
  have hRb := hR.below hbb
  by_cases l0 : 200 < n0.length
  · have i0 : (200 : Int) < (n0.length : Int) := by omega
    go_enter Tryz.func6, Tryz.ntmps6
    go_wp2_with fail
    refine (CA.out _ hRb).mono ?_
    rintro e w1 ⟨rfl, hb1⟩
    go_wp2
    go_ret
    exact ⟨rfl, hbb.trans (hb1.mono hbb.size)⟩
  · have i0 : ¬ (200 : Int) < (n0.length : Int) := by omega
    by_cases l1 : 200 < n1.length
    · have i1 : (200 : Int) < (n1.length : Int) := by omega
      go_enter Tryz.func6, Tryz.ntmps6
      go_wp2_with fail
      refine (CA.out _ hRb).mono ?_
      rintro e w1 ⟨rfl, hb1⟩
      go_wp2
      go_ret
      exact ⟨rfl, hbb.trans (hb1.mono hbb.size)⟩
    · have i1 : ¬ (200 : Int) < (n1.length : Int) := by omega
      by_cases l2 : 500 < v.length
      · have i2 : (500 : Int) < (v.length : Int) := by omega
        go_enter Tryz.func6, Tryz.ntmps6
        go_wp2_with fail
        refine (CA.out _ hRb).mono ?_
        rintro e w1 ⟨rfl, hb1⟩
        go_wp2
        go_ret
        exact ⟨rfl, hbb.trans (hb1.mono hbb.size)⟩
      · have i2 : ¬ (500 : Int) < (v.length : Int) := by omega
        have hb := and_u8 ⟨k, hk⟩
        simp only [] at hb
        by_cases hk2 : k % 2 = 0
        · rw [hk2] at hb
          have hb0 : bits BinOp.and IntKind.u8 (k : Int) 1 = 0 := hb
          clear hb hbb hRb
          have oP : Obj := Obj.cells #[.int .i64 0, .string ⟨n1.toArray⟩, .string ⟨v.toArray⟩] 32
          clear oP
          obtain ⟨wA, hwA⟩ : ∃ wA, wA = (((w.alloc (Obj.cells #[.string ⟨n0.toArray⟩, .string ⟨n1.toArray⟩] 39)).alloc (Obj.cells #[.int .i64 0, .string ⟨n1.toArray⟩, .string ⟨v.toArray⟩] 32)).alloc (Obj.cells #[.int .i64 0, .int .i64 0, .string ⟨n0.toArray⟩, .slice (some ⟨w.heap.size + 1, 0, none⟩) 1 1] 30)).alloc (Obj.cells #[.int .i64 0, .int .i64 0, .string ⟨n0.toArray⟩, .slice (some ⟨w.heap.size + 1, 0, none⟩) 1 1] 30) := ⟨_, rfl⟩
          have q3 : wA.heap[w.heap.size + 3]? = some (Obj.cells #[.int .i64 0, .int .i64 0, .string ⟨n0.toArray⟩, .slice (some ⟨w.heap.size + 1, 0, none⟩) 1 1] 30) := by rw [hwA]; have := heap_alloc_new (((w.alloc (Obj.cells #[.string ⟨n0.toArray⟩, .string ⟨n1.toArray⟩] 39)).alloc (Obj.cells #[.int .i64 0, .string ⟨n1.toArray⟩, .string ⟨v.toArray⟩] 32)).alloc (Obj.cells #[.int .i64 0, .int .i64 0, .string ⟨n0.toArray⟩, .slice (some ⟨w.heap.size + 1, 0, none⟩) 1 1] 30)) (Obj.cells #[.int .i64 0, .int .i64 0, .string ⟨n0.toArray⟩, .slice (some ⟨w.heap.size + 1, 0, none⟩) 1 1] 30); simpa [World.size_alloc] using this
          have q2 : wA.heap[w.heap.size + 2]? = some (Obj.cells #[.int .i64 0, .int .i64 0, .string ⟨n0.toArray⟩, .slice (some ⟨w.heap.size + 1, 0, none⟩) 1 1] 30) := by rw [hwA]; refine (heap_alloc_old _ _ (by simp [World.size_alloc])).trans ?_; have := heap_alloc_new ((w.alloc (Obj.cells #[.string ⟨n0.toArray⟩, .string ⟨n1.toArray⟩] 39)).alloc (Obj.cells #[.int .i64 0, .string ⟨n1.toArray⟩, .string ⟨v.toArray⟩] 32)) (Obj.cells #[.int .i64 0, .int .i64 0, .string ⟨n0.toArray⟩, .slice (some ⟨w.heap.size + 1, 0, none⟩) 1 1] 30); simpa [World.size_alloc] using this
          have q1 : wA.heap[w.heap.size + 1]? = some (Obj.cells #[.int .i64 0, .string ⟨n1.toArray⟩, .string ⟨v.toArray⟩] 32) := by rw [hwA]; refine (heap_alloc_old _ _ (by simp [World.size_alloc])).trans ((heap_alloc_old _ _ (by simp [World.size_alloc])).trans ?_); exact heap_alloc2_new w _ _
          have hbA : Below w.heap.size w wA := by rw [hwA]; exact (((Below.refl _ w).alloc (Nat.le_refl _) _).alloc (by simp [World.size_alloc]) _).alloc (by simp [World.size_alloc]; omega) _ |>.alloc (by simp [World.size_alloc]; omega) _
          have hRA := hR.below hbA
          have hTA := one_at wA (w.heap.size + 3) (w.heap.size + 1) 0 n0 n1 v q3 q1
          have cW := write_any [(⟨0, 0, n0, [⟨0, n1, v⟩]⟩ : RT)] _ wA hTA hRA (by show (1 : Nat) ≤ 3000; decide) (by intro t ht; rw [List.mem_singleton] at ht; subst ht; refine ⟨by show n0.length ≤ 3000; omega, by show (1 : Nat) ≤ 3000; omega, ?_⟩; intro p hp; rw [List.mem_singleton] at hp; subst hp; exact ⟨by show n1.length ≤ 3000; omega, by show v.length ≤ 3000; omega⟩)
          have hWL : writeL [(⟨0, 0, n0, [⟨0, n1, v⟩]⟩ : RT)] = if (tokW (⟨0, 0, n0, [⟨0, n1, v⟩]⟩ : RT) false).2 = 0 then ((tokW (⟨0, 0, n0, [⟨0, n1, v⟩]⟩ : RT) false).1, 0, 0) else ([], 0, (tokW (⟨0, 0, n0, [⟨0, n1, v⟩]⟩ : RT) false).2) := by
            unfold writeL writeGo
            split <;> rfl
          have hTW := tokW_0 n0 n1 v
          have hsA := hbA.size
          have HWA := Lib.hid hwA
          clear hwA hTA
          by_cases hok : splitB n0 = true ∧ splitB n1 = true ∧ (checkL v).2 = true
          · obtain ⟨ok0, ok1, ok2⟩ := hok
            obtain ⟨cs, rfl, hcs⟩ := split_chars ok0
            obtain ⟨ds, rfl, hds⟩ := split_chars ok1
            obtain ⟨vs, hvs, rfl⟩ := checkL_ok ok2
            have hTW' := hTW.1 ok0 ok1 ok2
            have hBeq : tokW (⟨0, 0, chars cs, [⟨0, chars ds, chars vs⟩]⟩ : RT) false = (tagH cs ds vs ++ [62], 0) := by rw [hTW']; unfold tagH attrW; simp
            have hWL' : writeL [(⟨0, 0, chars cs, [⟨0, chars ds, chars vs⟩]⟩ : RT)] = (tagH cs ds vs ++ [62], 0, 0) := by rw [hWL, hBeq]; rfl
            rw [hWL'] at cW
            have hel := (esc_le (chars vs) ok2).1
            have hHl := tag_len (cs := cs) (ds := ds) (vs := vs)
            have hBl : (tagH cs ds vs ++ [62]).length = (tagH cs ds vs).length + 1 := by simp
            have hHl2 : (tagH cs ds vs).length ≤ 10000000 := by omega
            have cT := fun g cap wx (hx : Ready wx) hm => tokens_any (tagH cs ds vs ++ [62]) g 0 cap wx (by omega) hx hm (oneC_free (tag_free hcs hds hvs (by decide)))
            have cT2 := fun g cap wx (hx : Ready wx) hm => tokens_any (tagH cs ds vs) g 0 cap wx (by omega) hx hm (oneC_free (by have := tag_free (tl := []) hcs hds hvs (fun b hb => (List.not_mem_nil hb).elim); rwa [List.append_nil] at this))
            have e1 := tok_gt hcs ok0 hds ok1 hvs hHl2
            have e2 := tok_no hcs ok0 hds ok1 hvs hHl2
            rw [e1] at cT
            rw [e2] at cT2
            simp only [] at cW cT cT2
            obtain ⟨N, hN⟩ : ∃ N, (tagH cs ds vs ++ [62]).length = N + 1 := ⟨(tagH cs ds vs).length + 0, by omega⟩
            have hHN : (tagH cs ds vs).length = N := by omega
            have hNp : (tagH cs ds vs).length + 1 = N + 1 := by omega
            have hNq : (tagH cs ds vs).length = N := by omega
            rw [hN, hNp] at cT
            rw [hHN] at cT2
            rw [hN] at cW
            have CW := Lib.hid cW
            have CT := Lib.hid cT
            have CT2 := Lib.hid cT2
            have hNb : N ≤ 10000010 := by omega
            have hBapp : ∃ z, tagH cs ds vs ++ [62] = (tagH cs ds vs) ++ [z] := ⟨62, rfl⟩
            generalize hBB : tagH cs ds vs ++ [62] = BB at *
            generalize hHH : tagH cs ds vs = HH at *
            clear cW cT cT2 hTW hTW' hBeq hWL hWL' e1 e2 hel hHl hBl hHl2 hNp hNq
            go_enter Tryz.func6, Tryz.ntmps6
            go_wp2_with fail
            rw [← HWA.out]
            refine (CW.out).mono ?_
            rintro e w1 ⟨bv, rfl, hown, hb1⟩
            obtain ⟨g, cap, rfl⟩ := own_val hown (Nat.succ_pos _)
            have hcapN : N + 1 ≤ cap := own_cap hown
            have hbB : bytesAt w1 g 0 BB := own_bytes hown hN
            have hbH : bytesAt w1 g 0 HH := by obtain ⟨z, hz⟩ := hBapp; rw [hz] at hbB; exact bytes_pre hbB
            have hR1 := hRA.below hb1
            have hs1 := hb1.size
            have p2 := (hb1.block _ (Array.getElem?_eq_some_iff.1 q2).1).trans q2
            have p1 := (hb1.block _ (Array.getElem?_eq_some_iff.1 q1).1).trans q1
            have hbw1 := hbA.trans (hb1.mono hsA)
            clear hb1 hown q1 q2 q3 hBapp
            go_wp2_with fail
            refine (CT.out g cap w1 hR1 hbB).mono ?_
            rintro e w2 ⟨v1, ts1, rfl, hT1, hts1, hb2⟩
            have hl1 : ts1.length = 1 := by have := congrArg List.length hts1; simpa using this
            have hTT := tokRow_at hT1
            have hown1 := hT1.1
            rw [hl1] at hown1
            obtain ⟨g1, cap1, rfl⟩ := own_val hown1 (Nat.succ_pos _)
            have hE : (ts1.map fun x => x.1.raw) = ([⟨0, 0, chars cs, [⟨chars ds, chars vs, 1 + (chars cs).length + 1⟩]⟩] : List Tk).map Tk.raw := by rw [← hts1, List.map_map]; rfl
            rw [hE] at hTT
            have hcap1 := own_cap hown1
            have hat : w2.cell? ⟨g1, 1, none⟩ = some (.int .i64 0) := by
              obtain ⟨pp, pc, hpv, _, hce⟩ := hTT
              cases hpv
              obtain ⟨g', o', av', hp', _, c1, _⟩ := hce 0 (by show (0 : Nat) < 1; decide)
              cases hp'
              exact c1
            have r2 := (hb2.block _ (Array.getElem?_eq_some_iff.1 p2).1).trans p2
            have r1 := (hb2.block _ (Array.getElem?_eq_some_iff.1 p1).1).trans p1
            have hR2 := hR1.below hb2
            have hbw2 := hbw1.trans (hb2.mono hbw1.size)
            have hbH2 := bytesAt_kept hbH hb2
            have z0 := blk4_c0 r2
            have z1 := blk4_c1 r2
            have z2 := blk4_c2 r2
            have z3 := blk4_c3 r2
            have hba := (Below.refl w2.heap.size w2).alloc (Nat.le_refl _) (Obj.cells #[.int .i64 0, .int .i64 0, .string ⟨(chars cs).toArray⟩, .slice (some ⟨w.heap.size + 1, 0, none⟩) 1 1] 30)
            have hnew := heap_alloc_new w2 (Obj.cells #[.int .i64 0, .int .i64 0, .string ⟨(chars cs).toArray⟩, .slice (some ⟨w.heap.size + 1, 0, none⟩) 1 1] 30)
            have hW2 := one_at _ w2.heap.size (w.heap.size + 1) 0 (chars cs) (chars ds) (chars vs) hnew ((hba.block _ (Array.getElem?_eq_some_iff.1 r1).1).trans r1)
            have cS := same_any false _ _ _ _ _ (hTT.below hba) hW2 (by show (1 : Nat) ≤ 1000000000; decide) (by show (1 : Nat) ≤ 1000000000; decide) (by intro t ht; simp at ht; subst ht; simp [Tk.raw]) (by intro t ht; simp at ht; subst ht; simp)
            have hsl : sameL false (([⟨0, 0, chars cs, [⟨chars ds, chars vs, 1 + (chars cs).length + 1⟩]⟩] : List Tk).map Tk.raw) [⟨0, 0, chars cs, [⟨0, chars ds, chars vs⟩]⟩] = true := by
              simp [sameL, sameTs, sameH, samePs, sameP, Tk.raw, PrA.raw]
            rw [hsl] at cS
            have CS := Lib.hid cS
            have HBA := Lib.hid hba
            have HAT := Lib.hid hat
            have HB2 := Lib.hid hbw2
            have HR2 := Lib.hid hR2
            clear cS hba hnew hW2 hTT hown1 hE hts1 hT1 hb2 p1 p2 hbw1 hR1 hbB hbH r1 r2 hat hbw2 hR2
            go_wp2_with fail
            refine (CS.out).mono ?_
            rintro e w3 ⟨rfl, hb3⟩
            have hb23 := HBA.out.trans (hb3.mono HBA.out.size)
            have hat3 := cellB hb23 HAT.out
            have hbw3 := HB2.out.trans (hb23.mono HB2.out.size)
            have hR3 := HR2.out.below hb23
            have hbH3 := bytesAt_kept hbH2 hb23
            have hN1 : ((N + 1 : Nat) : Int) - 1 = (N : Int) := by omega
            clear hb3 hb23 hbH2 z0 z1 z2 z3 CS CT
            go_wp2_with fail
            refine (CT2.out g cap w3 hR3 hbH3).mono ?_
            rintro e w4 ⟨v4, ts4, rfl, _, _, hb4⟩
            have hR4 := hR3.below hb4
            have hbw4 := hbw3.trans (hb4.mono hbw3.size)
            clear hat3 hbH3
            go_wp2_with fail
            refine (CA.out _ hR4).mono ?_
            rintro e w5 ⟨rfl, hb5⟩
            go_wp2
            go_ret
            exact ⟨rfl, hbw4.trans (hb5.mono hbw4.size)⟩
          · obtain ⟨ee, hee, hTWe⟩ := hTW.2 hok
            have hWL' : writeL [(⟨0, 0, n0, [⟨0, n1, v⟩]⟩ : RT)] = ([], 0, ee) := by rw [hWL, hTWe, if_neg (by simp only []; omega)]
            rw [hWL'] at cW
            simp only [] at cW
            have CW := Lib.hid cW
            have ie : ((ee : Int) != 0) = true := by rw [bne_iff_ne]; omega
            have ie' : ((ee : Int) == 0) = false := by rw [beq_eq_false_iff_ne]; omega
            clear cW hTW hWL hWL' hTWe hok
            go_enter Tryz.func6, Tryz.ntmps6
            go_wp2_with fail
            rw [← HWA.out]
            refine (CW.out).mono ?_
            rintro e w1 ⟨bv, rfl, hown, hb1⟩
            obtain ⟨bp, bc, rfl⟩ : ∃ p c, bv = .slice p 0 c := by
              rcases hown.2 with ⟨rfl, _⟩ | ⟨g, cap, cur, rfl, _⟩
              · exact ⟨_, _, rfl⟩
              · exact ⟨_, _, rfl⟩
            have hR1 := hRA.below hb1
            have hbw1 := hbA.trans (hb1.mono hsA)
            clear hown hb1
            rcases hee with rfl | rfl
            · go_wp2_with fail
              refine (CA.out _ hR1).mono ?_
              rintro e w2 ⟨rfl, hb2⟩
              go_wp2
              go_ret
              exact ⟨rfl, hbw1.trans (hb2.mono hbw1.size)⟩
            · go_wp2_with fail
              refine (CA.out _ hR1).mono ?_
              rintro e w2 ⟨rfl, hb2⟩
              go_wp2
              go_ret
              exact ⟨rfl, hbw1.trans (hb2.mono hbw1.size)⟩
        · have hk1 : k % 2 = 1 := by omega
          rw [hk1] at hb
          have hb0 : bits BinOp.and IntKind.u8 (k : Int) 1 = 1 := hb
          clear hb hbb hRb
          have oP : Obj := Obj.cells #[.int .i64 0, .string ⟨n1.toArray⟩, .string ⟨v.toArray⟩] 32
          clear oP
          obtain ⟨wA, hwA⟩ : ∃ wA, wA = (((w.alloc (Obj.cells #[.string ⟨n0.toArray⟩, .string ⟨n1.toArray⟩] 39)).alloc (Obj.cells #[.int .i64 0, .string ⟨n1.toArray⟩, .string ⟨v.toArray⟩] 32)).alloc (Obj.cells #[.int .i64 2, .int .i64 0, .string ⟨n0.toArray⟩, .slice (some ⟨w.heap.size + 1, 0, none⟩) 1 1] 30)).alloc (Obj.cells #[.int .i64 2, .int .i64 0, .string ⟨n0.toArray⟩, .slice (some ⟨w.heap.size + 1, 0, none⟩) 1 1] 30) := ⟨_, rfl⟩
          have q3 : wA.heap[w.heap.size + 3]? = some (Obj.cells #[.int .i64 2, .int .i64 0, .string ⟨n0.toArray⟩, .slice (some ⟨w.heap.size + 1, 0, none⟩) 1 1] 30) := by rw [hwA]; have := heap_alloc_new (((w.alloc (Obj.cells #[.string ⟨n0.toArray⟩, .string ⟨n1.toArray⟩] 39)).alloc (Obj.cells #[.int .i64 0, .string ⟨n1.toArray⟩, .string ⟨v.toArray⟩] 32)).alloc (Obj.cells #[.int .i64 2, .int .i64 0, .string ⟨n0.toArray⟩, .slice (some ⟨w.heap.size + 1, 0, none⟩) 1 1] 30)) (Obj.cells #[.int .i64 2, .int .i64 0, .string ⟨n0.toArray⟩, .slice (some ⟨w.heap.size + 1, 0, none⟩) 1 1] 30); simpa [World.size_alloc] using this
          have q2 : wA.heap[w.heap.size + 2]? = some (Obj.cells #[.int .i64 2, .int .i64 0, .string ⟨n0.toArray⟩, .slice (some ⟨w.heap.size + 1, 0, none⟩) 1 1] 30) := by rw [hwA]; refine (heap_alloc_old _ _ (by simp [World.size_alloc])).trans ?_; have := heap_alloc_new ((w.alloc (Obj.cells #[.string ⟨n0.toArray⟩, .string ⟨n1.toArray⟩] 39)).alloc (Obj.cells #[.int .i64 0, .string ⟨n1.toArray⟩, .string ⟨v.toArray⟩] 32)) (Obj.cells #[.int .i64 2, .int .i64 0, .string ⟨n0.toArray⟩, .slice (some ⟨w.heap.size + 1, 0, none⟩) 1 1] 30); simpa [World.size_alloc] using this
          have q1 : wA.heap[w.heap.size + 1]? = some (Obj.cells #[.int .i64 0, .string ⟨n1.toArray⟩, .string ⟨v.toArray⟩] 32) := by rw [hwA]; refine (heap_alloc_old _ _ (by simp [World.size_alloc])).trans ((heap_alloc_old _ _ (by simp [World.size_alloc])).trans ?_); exact heap_alloc2_new w _ _
          have hbA : Below w.heap.size w wA := by rw [hwA]; exact (((Below.refl _ w).alloc (Nat.le_refl _) _).alloc (by simp [World.size_alloc]) _).alloc (by simp [World.size_alloc]; omega) _ |>.alloc (by simp [World.size_alloc]; omega) _
          have hRA := hR.below hbA
          have hTA := one_at wA (w.heap.size + 3) (w.heap.size + 1) 2 n0 n1 v q3 q1
          have cW := write_any [(⟨2, 0, n0, [⟨0, n1, v⟩]⟩ : RT)] _ wA hTA hRA (by show (1 : Nat) ≤ 3000; decide) (by intro t ht; rw [List.mem_singleton] at ht; subst ht; refine ⟨by show n0.length ≤ 3000; omega, by show (1 : Nat) ≤ 3000; omega, ?_⟩; intro p hp; rw [List.mem_singleton] at hp; subst hp; exact ⟨by show n1.length ≤ 3000; omega, by show v.length ≤ 3000; omega⟩)
          have hWL : writeL [(⟨2, 0, n0, [⟨0, n1, v⟩]⟩ : RT)] = if (tokW (⟨2, 0, n0, [⟨0, n1, v⟩]⟩ : RT) false).2 = 0 then ((tokW (⟨2, 0, n0, [⟨0, n1, v⟩]⟩ : RT) false).1, 0, 0) else ([], 0, (tokW (⟨2, 0, n0, [⟨0, n1, v⟩]⟩ : RT) false).2) := by
            unfold writeL writeGo
            split <;> rfl
          have hTW := tokW_2 n0 n1 v
          have hsA := hbA.size
          have HWA := Lib.hid hwA
          clear hwA hTA
          by_cases hok : splitB n0 = true ∧ splitB n1 = true ∧ (checkL v).2 = true
          · obtain ⟨ok0, ok1, ok2⟩ := hok
            obtain ⟨cs, rfl, hcs⟩ := split_chars ok0
            obtain ⟨ds, rfl, hds⟩ := split_chars ok1
            obtain ⟨vs, hvs, rfl⟩ := checkL_ok ok2
            have hTW' := hTW.1 ok0 ok1 ok2
            have hBeq : tokW (⟨2, 0, chars cs, [⟨0, chars ds, chars vs⟩]⟩ : RT) false = (tagH cs ds vs ++ [47, 62], 0) := by rw [hTW']; unfold tagH attrW; simp
            have hWL' : writeL [(⟨2, 0, chars cs, [⟨0, chars ds, chars vs⟩]⟩ : RT)] = (tagH cs ds vs ++ [47, 62], 0, 0) := by rw [hWL, hBeq]; rfl
            rw [hWL'] at cW
            have hel := (esc_le (chars vs) ok2).1
            have hHl := tag_len (cs := cs) (ds := ds) (vs := vs)
            have hBl : (tagH cs ds vs ++ [47, 62]).length = (tagH cs ds vs).length + 2 := by simp
            have hHl2 : (tagH cs ds vs).length ≤ 10000000 := by omega
            have cT := fun g cap wx (hx : Ready wx) hm => tokens_any (tagH cs ds vs ++ [47, 62]) g 0 cap wx (by omega) hx hm (oneC_free (tag_free hcs hds hvs (by decide)))
            have cT2 := fun g cap wx (hx : Ready wx) hm => tokens_any (tagH cs ds vs ++ [47]) g 0 cap wx (by simp; omega) hx hm (oneC_free (tag_free hcs hds hvs (by decide)))
            have e1 := tok_sl hcs ok0 hds ok1 hvs hHl2
            have e2 := tok_ns hcs ok0 hds ok1 hvs hHl2
            rw [e1] at cT
            rw [e2] at cT2
            simp only [] at cW cT cT2
            obtain ⟨N, hN⟩ : ∃ N, (tagH cs ds vs ++ [47, 62]).length = N + 1 := ⟨(tagH cs ds vs).length + 1, by omega⟩
            have hHN : (tagH cs ds vs ++ [47]).length = N := by simp at hN ⊢; omega
            have hNp : (tagH cs ds vs).length + 2 = N + 1 := by omega
            have hNq : (tagH cs ds vs).length + 1 = N := by omega
            rw [hN, hNp] at cT
            rw [hHN, hNq] at cT2
            rw [hN] at cW
            have CW := Lib.hid cW
            have CT := Lib.hid cT
            have CT2 := Lib.hid cT2
            have hNb : N ≤ 10000010 := by omega
            have hBapp : ∃ z, tagH cs ds vs ++ [47, 62] = (tagH cs ds vs ++ [47]) ++ [z] := ⟨62, by simp⟩
            generalize hBB : tagH cs ds vs ++ [47, 62] = BB at *
            generalize hHH : tagH cs ds vs ++ [47] = HH at *
            clear cW cT cT2 hTW hTW' hBeq hWL hWL' e1 e2 hel hHl hBl hHl2 hNp hNq
            go_enter Tryz.func6, Tryz.ntmps6
            go_wp2_with fail
            rw [← HWA.out]
            refine (CW.out).mono ?_
            rintro e w1 ⟨bv, rfl, hown, hb1⟩
            obtain ⟨g, cap, rfl⟩ := own_val hown (Nat.succ_pos _)
            have hcapN : N + 1 ≤ cap := own_cap hown
            have hbB : bytesAt w1 g 0 BB := own_bytes hown hN
            have hbH : bytesAt w1 g 0 HH := by obtain ⟨z, hz⟩ := hBapp; rw [hz] at hbB; exact bytes_pre hbB
            have hR1 := hRA.below hb1
            have hs1 := hb1.size
            have p2 := (hb1.block _ (Array.getElem?_eq_some_iff.1 q2).1).trans q2
            have p1 := (hb1.block _ (Array.getElem?_eq_some_iff.1 q1).1).trans q1
            have hbw1 := hbA.trans (hb1.mono hsA)
            clear hb1 hown q1 q2 q3 hBapp
            go_wp2_with fail
            refine (CT.out g cap w1 hR1 hbB).mono ?_
            rintro e w2 ⟨v1, ts1, rfl, hT1, hts1, hb2⟩
            have hl1 : ts1.length = 1 := by have := congrArg List.length hts1; simpa using this
            have hTT := tokRow_at hT1
            have hown1 := hT1.1
            rw [hl1] at hown1
            obtain ⟨g1, cap1, rfl⟩ := own_val hown1 (Nat.succ_pos _)
            have hE : (ts1.map fun x => x.1.raw) = ([⟨2, 0, chars cs, [⟨chars ds, chars vs, 1 + (chars cs).length + 1⟩]⟩] : List Tk).map Tk.raw := by rw [← hts1, List.map_map]; rfl
            rw [hE] at hTT
            have hcap1 := own_cap hown1
            have hat : w2.cell? ⟨g1, 1, none⟩ = some (.int .i64 0) := by
              obtain ⟨pp, pc, hpv, _, hce⟩ := hTT
              cases hpv
              obtain ⟨g', o', av', hp', _, c1, _⟩ := hce 0 (by show (0 : Nat) < 1; decide)
              cases hp'
              exact c1
            have r2 := (hb2.block _ (Array.getElem?_eq_some_iff.1 p2).1).trans p2
            have r1 := (hb2.block _ (Array.getElem?_eq_some_iff.1 p1).1).trans p1
            have hR2 := hR1.below hb2
            have hbw2 := hbw1.trans (hb2.mono hbw1.size)
            have hbH2 := bytesAt_kept hbH hb2
            have z0 := blk4_c0 r2
            have z1 := blk4_c1 r2
            have z2 := blk4_c2 r2
            have z3 := blk4_c3 r2
            have hba := (Below.refl w2.heap.size w2).alloc (Nat.le_refl _) (Obj.cells #[.int .i64 2, .int .i64 0, .string ⟨(chars cs).toArray⟩, .slice (some ⟨w.heap.size + 1, 0, none⟩) 1 1] 30)
            have hnew := heap_alloc_new w2 (Obj.cells #[.int .i64 2, .int .i64 0, .string ⟨(chars cs).toArray⟩, .slice (some ⟨w.heap.size + 1, 0, none⟩) 1 1] 30)
            have hW2 := one_at _ w2.heap.size (w.heap.size + 1) 2 (chars cs) (chars ds) (chars vs) hnew ((hba.block _ (Array.getElem?_eq_some_iff.1 r1).1).trans r1)
            have cS := same_any false _ _ _ _ _ (hTT.below hba) hW2 (by show (1 : Nat) ≤ 1000000000; decide) (by show (1 : Nat) ≤ 1000000000; decide) (by intro t ht; simp at ht; subst ht; simp [Tk.raw]) (by intro t ht; simp at ht; subst ht; simp)
            have hsl : sameL false (([⟨2, 0, chars cs, [⟨chars ds, chars vs, 1 + (chars cs).length + 1⟩]⟩] : List Tk).map Tk.raw) [⟨2, 0, chars cs, [⟨0, chars ds, chars vs⟩]⟩] = true := by
              simp [sameL, sameTs, sameH, samePs, sameP, Tk.raw, PrA.raw]
            rw [hsl] at cS
            have CS := Lib.hid cS
            have HBA := Lib.hid hba
            have HAT := Lib.hid hat
            have HB2 := Lib.hid hbw2
            have HR2 := Lib.hid hR2
            clear cS hba hnew hW2 hTT hown1 hE hts1 hT1 hb2 p1 p2 hbw1 hR1 hbB hbH r1 r2 hat hbw2 hR2
            go_wp2_with fail
            refine (CS.out).mono ?_
            rintro e w3 ⟨rfl, hb3⟩
            have hb23 := HBA.out.trans (hb3.mono HBA.out.size)
            have hat3 := cellB hb23 HAT.out
            have hbw3 := HB2.out.trans (hb23.mono HB2.out.size)
            have hR3 := HR2.out.below hb23
            have hbH3 := bytesAt_kept hbH2 hb23
            have hN1 : ((N + 1 : Nat) : Int) - 1 = (N : Int) := by omega
            clear hb3 hb23 hbH2 z0 z1 z2 z3 CS CT
            go_wp2_with fail
            refine (CT2.out g cap w3 hR3 hbH3).mono ?_
            rintro e w4 ⟨v4, ts4, rfl, _, _, hb4⟩
            have hR4 := hR3.below hb4
            have hbw4 := hbw3.trans (hb4.mono hbw3.size)
            clear hat3 hbH3
            go_wp2_with fail
            refine (CA.out _ hR4).mono ?_
            rintro e w5 ⟨rfl, hb5⟩
            go_wp2
            go_ret
            exact ⟨rfl, hbw4.trans (hb5.mono hbw4.size)⟩
          · obtain ⟨ee, hee, hTWe⟩ := hTW.2 hok
            have hWL' : writeL [(⟨2, 0, n0, [⟨0, n1, v⟩]⟩ : RT)] = ([], 0, ee) := by rw [hWL, hTWe, if_neg (by simp only []; omega)]
            rw [hWL'] at cW
            simp only [] at cW
            have CW := Lib.hid cW
            have ie : ((ee : Int) != 0) = true := by rw [bne_iff_ne]; omega
            have ie' : ((ee : Int) == 0) = false := by rw [beq_eq_false_iff_ne]; omega
            clear cW hTW hWL hWL' hTWe hok
            go_enter Tryz.func6, Tryz.ntmps6
            go_wp2_with fail
            rw [← HWA.out]
            refine (CW.out).mono ?_
            rintro e w1 ⟨bv, rfl, hown, hb1⟩
            obtain ⟨bp, bc, rfl⟩ : ∃ p c, bv = .slice p 0 c := by
              rcases hown.2 with ⟨rfl, _⟩ | ⟨g, cap, cur, rfl, _⟩
              · exact ⟨_, _, rfl⟩
              · exact ⟨_, _, rfl⟩
            have hR1 := hRA.below hb1
            have hbw1 := hbA.trans (hb1.mono hsA)
            clear hown hb1
            rcases hee with rfl | rfl
            · go_wp2_with fail
              refine (CA.out _ hR1).mono ?_
              rintro e w2 ⟨rfl, hb2⟩
              go_wp2
              go_ret
              exact ⟨rfl, hbw1.trans (hb2.mono hbw1.size)⟩
            · go_wp2_with fail
              refine (CA.out _ hR1).mono ?_
              rintro e w2 ⟨rfl, hb2⟩
              go_wp2
              go_ret
              exact ⟨rfl, hbw1.trans (hb2.mono hbw1.size)⟩

end Go.Proofs.YtfnmhdnlogfbdaaGreatDoor
