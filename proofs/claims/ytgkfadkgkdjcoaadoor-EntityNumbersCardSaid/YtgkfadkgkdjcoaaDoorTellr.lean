/- Walks: the document's answer of layer 3: what a text tells (tipstaveref03.Tell). -/
import Derived.Test.YtgkfadkgkdjcoaaDoorDocp
import Derived.OwnWalk
set_option linter.unusedVariables false
set_option linter.unusedSimpArgs false
namespace Go.Proofs.YtgkfadkgkdjcoaaDoor
open Go.RowKit

theorem info_u8 : (Tryd.prog.info? 5).map (fun i => (i.zero, i.size, i.bytes)) = some (some (.int .u8 0), 1, 1) := by kernel_rfl

/-- 'string(out)' of a row of the call's own. -/
theorem own_string (w : World) (base : Nat) (v : Value) (acc : List UInt8) (h : w.ownsRow base 5 1 v acc.length (Lib.byteCells acc)) :
    (convert 32 9 v).run Tryd.prog w = .ok (.string ⟨acc.toArray⟩) w := by
  rcases h.2 with ⟨rfl, h0⟩ | ⟨g, cap, cur, rfl, hb, hg, hn, hcap, hs, ht⟩
  · have : acc = [] := List.eq_nil_of_length_eq_zero h0
    subst this
    exact run_convert_bytes_nil w 32 5 Tryd.underlying32 Tryd.underlying5 0 0 9 Tryd.underlying9
  · refine run_convert_bytes_back w 32 9 5 ⟨g, 0, none⟩ cap acc Tryd.underlying32 Tryd.underlying5 Tryd.underlying9 fun j hj => ?_
    refine h.cells (g := g) rfl j _ ?_
    simp [Lib.byteCells, hj]

theorem own_below {w w' : World} {base : Nat} {v : Value} {n : Nat} {xs : List Value} (h : w.ownsRow base 5 1 v n xs) (hb : Below w.heap.size w w') : w'.ownsRow base 5 1 v n xs := by
  refine h.kept (below_grown hb) ?_
  cases v.ownBlock <;> simp

theorem from_slice (l d : List UInt8) (pos : Nat) (hp : pos ≤ l.length) (hd : d = l.drop pos) (wx : World) :
    (Instr.slice 9 (.string ⟨l.toArray⟩) (some (.int .i64 pos)) none none).run Tryd.prog wx = .ok (.string ⟨d.toArray⟩) wx := by
  subst hd
  rw [run_slice_string_from_if wx 9 ⟨l.toArray⟩ .i64 pos Tryd.underlying9]
  rw [if_pos (by rw [ba_size]; omega)]
  have e : ((pos : Int)).toNat = pos := by omega
  rw [e, ba_size, extract_drop l pos l.length (Nat.le_refl _)]

theorem tellGo_key {v : Bool} {l d acc : List UInt8} {pos fuel : Nat} (hd : d = l.drop pos) (hp : pos < l.length) (hfu : l.length ≤ pos + fuel) (hchk : tellL v l = tellGo v fuel (l.drop pos) pos acc) {x k : Nat} (hst : step1 v d = (0, x, k)) :
    Hid (tellL v l = tellGo v (fuel - 1) (l.drop (pos + k)) (pos + k) (acc ++ put x)) ∧ 1 ≤ k ∧ pos + k ≤ l.length ∧ fineB x = true := by
  subst hd
  obtain ⟨k1, k2, _, k4⟩ := step1_ok hst
  rw [List.length_drop] at k2
  refine ⟨Lib.hid ?_, k1, by omega, k4⟩
  rw [hchk, tellGo_step pos acc (by rw [List.length_drop]; omega) (drop_ne hp) hst, List.drop_drop]
  rfl

theorem tellGo_wrong {v : Bool} {l d acc : List UInt8} {pos fuel : Nat} (hd : d = l.drop pos) (hp : pos < l.length) (hfu : l.length ≤ pos + fuel) (hchk : tellL v l = tellGo v fuel (l.drop pos) pos acc) {e : Nat} (he : e ≠ 0) (hst : step1 v d = (e, 0, 0)) :
    Hid (tellL v l = ([], pos, e)) := by
  subst hd
  exact Lib.hid (by rw [hchk]; exact tellGo_bad pos acc (by rw [List.length_drop]; omega) (drop_ne hp) hst he)

theorem cells_of_bytes {w : World} {b : Nat} {l : List UInt8} (h : bytesAt w b 0 l) : ∀ j u, (Lib.byteCells l)[j]? = some u → w.cell? ((⟨b, 0, none⟩ : Addr).add j) = some u := by
  intro j u hj
  have hjl : j < l.length := by
    have := (List.getElem?_eq_some_iff.1 hj).1
    simpa [Lib.byteCells] using this
  have hadd : (⟨b, 0, none⟩ : Addr).add j = ⟨b, 0 + j, none⟩ := by unfold Addr.add; split <;> simp_all
  rw [hadd, h j hjl]
  simp [Lib.byteCells, hjl] at hj
  rw [← hj]
  simp [hjl]

theorem byteCells_one (l : List UInt8) : ∀ u ∈ Lib.byteCells l, u.oneCell' = true := by
  intro u hu
  unfold Lib.byteCells at hu
  obtain ⟨b, _, rfl⟩ := List.mem_map.1 hu
  rfl

set_option maxHeartbeats 16000000 in
set_option maxRecDepth 100000 in
theorem tell3_any (v : Bool) (l : List UInt8) (s : ByteArray) (hs : s = ⟨l.toArray⟩) (w : World) (hl : l.length ≤ 100000) :
    Calls Tryd.prog 12 #[.string s, .bool v] w fun e w' => e = .returned (tellRes (tellL v l)) ∧ Below w.heap.size w w' := by
  subst hs
  obtain ⟨i0, hi0, hz0, hz1, hz2⟩ := info_parts info_u8
  go_enter Tryd.func12, Tryd.ntmps12
  go_wp2
  go_loopw [7, 8] (fun v7 v8 wr => ∃ (pos fuel : Nat) (acc : List UInt8), v8 = .int .i64 pos ∧ wr.ownsRow w.heap.size 5 1 v7 acc.length (Lib.byteCells acc) ∧ Below w.heap.size w wr ∧ Hid (tellL v l = tellGo v fuel (l.drop pos) pos acc) ∧ pos ≤ l.length ∧ l.length ≤ pos + fuel ∧ acc.length ≤ 4 * pos) (fun _ v8 _ => l.length - (intOf v8).toNat)
  case atStart => exact ⟨0, l.length, [], rfl, World.ownsRow_nil _ _ _ _, Below.refl _ w, Lib.hid rfl, by omega, by omega, by simp⟩
  case round =>
    obtain ⟨pos, fuel, acc, rfl, hown, hbw, hchk, hpl, hfu, hal⟩ := hrel
    have hsz := hbw.size
    by_cases hp : pos < l.length
    · obtain ⟨d, hd⟩ : ∃ d, d = l.drop pos := ⟨_, rfl⟩
      have hdl : d.length + pos = l.length := by rw [hd, List.length_drop]; omega
      have hsl := fun wx => from_slice l d pos hpl hd wx
      have hbad := fun (e : Nat) (he : e ≠ 0) h => tellGo_wrong hd hp hfu hchk.out he (e := e) h
      have hkey := fun (x k : Nat) h => tellGo_key hd hp hfu hchk.out (x := x) (k := k) h
      obtain ⟨W1, cap, hcv, hB1, hcap, hby, hsW⟩ := conv_check d (by omega) wr
      have cR := runeP_any d wr.heap.size 0 d.length cap rfl W1 (by omega) hcap hby
      have hbW : Below w.heap.size w W1 := hbw.trans (hB1.mono (by omega))
      have hs1 : w.heap.size ≤ W1.heap.size := by omega
      have hown1 := own_below hown hB1
      have HO := Lib.hid hown1
      have HBW := Lib.hid hbW
      have HLT := Lib.hid hown.lt
      clear hd hchk hB1 hby hcap hsW hown1 hbW hown
      cases hr : rune1 d with
      | none =>
        have e : runePair d = (0, 0) := by unfold runePair; rw [hr]
        rw [e, pairRes_mk] at cR
        have HF := hbad 4 (by decide) (by unfold step1; rw [hr])
        have CR := Lib.hid cR
        clear cR e hr hbad hkey
        go_wp2_with (go_at_call 21; refine (CR.out).mono ?_; rintro e w2 ⟨rfl, hb2⟩)
        go_ret3
        exact ⟨by rw [HF.out]; rfl, HBW.out.trans (hb2.mono hs1)⟩
      | some cn =>
        obtain ⟨c, n⟩ := cn
        have e : runePair d = ((c : Int), (n : Int)) := by unfold runePair; rw [hr]
        rw [e, pairRes_mk] at cR
        obtain ⟨_, rb1, rb2, rb3, rb4, rb5⟩ := rune1_bounds hr
        have in0 : ((n : Int) == 0) = false := by rw [beq_eq_false_iff_ne]; omega
        by_cases h60 : c = 60
        · subst h60
          have HF := hbad 5 (by decide) (by unfold step1; rw [hr]; rfl)
          have CR := Lib.hid cR
          clear cR e hr hbad hkey rb5
          go_wp2_with (go_at_call 21; refine (CR.out).mono ?_; rintro e w2 ⟨rfl, hb2⟩)
          go_ret3
          exact ⟨by rw [HF.out]; rfl, HBW.out.trans (hb2.mono hs1)⟩
        · have i60 : ((c : Int) == 60) = false := by rw [beq_eq_false_iff_ne]; omega
          by_cases h38 : c = 38
          · subst h38
            obtain ⟨t, ht, _⟩ := rune1_split hr
            have ht' : d = 38 :: t := ht
            have cD := fun wx => refdoc_any d ⟨d.toArray⟩ rfl wx (by omega)
            have hst : step1 v d = match ref1 (d.drop 1) with | none => (5, 0, 0) | some (x, k) => (0, x, k) := by unfold step1; rw [hr]; rfl
            have hrd : refDoc d = pairO (ref1 (d.drop 1)) := by rw [ht']; exact refDoc_eq t
            rw [hrd] at cD
            cases hrf : ref1 (d.drop 1) with
            | none =>
              rw [hrf] at cD hst
              have HF := hbad 5 (by decide) hst
              have e1 : nnRes (pairO none) = .tuple #[.int .i64 0, .int .i64 0] := rfl
              rw [e1] at cD
              have CR := Lib.hid cR
              have CD := Lib.hid cD
              clear cR e hr hbad hkey rb5 cD hst hrd hrf ht ht' e1
              go_wp2_with fail
              refine (CR.out).mono ?_
              rintro e w2 ⟨rfl, hb2⟩
              go_wp2_with fail
              refine (CD.out _).mono ?_
              rintro e w3 ⟨rfl, hb3⟩
              have hs2 := hb2.size
              go_wp2
              go_ret3
              exact ⟨by rw [HF.out]; rfl, HBW.out.trans ((hb2.mono hs1).trans (hb3.mono (by omega)))⟩
            | some xk =>
              obtain ⟨x, k⟩ := xk
              rw [hrf] at cD hst
              obtain ⟨HF, kb1, kb2, kfx⟩ := hkey x k hst
              have e1 : nnRes (pairO (some (x, k))) = .tuple #[.int .i64 (x : Nat), .int .i64 (k : Nat)] := rfl
              rw [e1] at cD
              have ik0 : ((k : Int) == 0) = false := by rw [beq_eq_false_iff_ne]; omega
              have CR := Lib.hid cR
              have CD := Lib.hid cD
              have CP := Lib.hid (fun wx => put_any x kfx wx)
              clear cR e hr hbad hkey rb5 cD hst hrd hrf ht ht' e1 kfx
              go_wp2_with fail
              refine (CR.out).mono ?_
              rintro e w2 ⟨rfl, hb2⟩
              go_wp2_with fail
              refine (CD.out _).mono ?_
              rintro e w3 ⟨rfl, hb3⟩
              have hs2 := hb2.size
              have hs3 := hb3.size
              have HO3 := Lib.hid (own_below (own_below HO.out hb2) hb3)
              have HB3 := Lib.hid (HBW.out.trans ((hb2.mono hs1).trans (hb3.mono (by omega))))
              have hs13 : w.heap.size ≤ w3.heap.size := by omega
              go_wp2_with fail
              refine (CP.out _).mono ?_
              rintro e w4 ⟨pb, pcap, rfl, hpb, hpc, hpby, hb4⟩
              have hs4 := hb4.size
              have hpl4 := put_len x
              go_wp2_with (at_builtin; refine wpList_append_own _ rfl _ _ 32 rfl w.heap.size 5 i0 (.int .u8 0) 1 1 Tryd.underlying32 hi0 hz0 hz1 hz2 rfl (by decide) _ _ _ rfl (own_below HO3.out hb4) ⟨pb, 0, none⟩ (put x).length pcap (Lib.byteCells (put x)) rfl ?c0 ?c1 ?c2 ?c3 ?c4 ?c5 ?_)
              case c0 => simp [Lib.byteCells]
              case c1 => exact cells_of_bytes hpby
              case c2 => exact byteCells_one _
              case c3 => unfold maxLen; omega
              case c4 => omega
              case c5 => omega
              intro v' w5 hown5 hgr5 _
              have HO5 := Lib.hid hown5
              have HB5 := Lib.hid ((HB3.out.trans (hb4.mono hs13)).grown hgr5 (by omega) (fun k hk => (HLT.out k hk).1))
              clear hown5 hgr5 hpby hb4
              go_wp2
              go_roundw
              case rel => exact ⟨pos + k, fuel - 1, acc ++ put x, by go_num, by rw [List.length_append, Lib.byteCells_append]; exact HO5.out, HB5.out, HF, by omega, by omega, by rw [List.length_append]; omega⟩
              case measure => simp [intOf]; omega
          · have i38 : ((c : Int) == 38) = false := by rw [beq_eq_false_iff_ne]; omega
            by_cases h3 : c = 13 ∨ c = 10 ∨ c = 9
            · have hst : step1 v d = (0, if v = true then 32 else if c = 13 then 10 else c, if Lib.hasPrefix d [13, 10] = true then 2 else n) := by
                unfold step1; rw [hr]; simp only []; rw [if_neg h60, if_neg h38, if_pos h3]
              have cP := fun wx => begins_any d [13, 10] ⟨d.toArray⟩ _ rfl rfl wx
              obtain ⟨pre, hpre⟩ : ∃ pre, pre = Lib.hasPrefix d [13, 10] := ⟨_, rfl⟩
              rw [← hpre] at cP hst
              clear hpre
              rcases h3 with rfl | rfl | rfl
              · cases v
                · cases pre
                  · have hst2 : step1 false d = (0, 10, n) := hst
                    obtain ⟨HF, kb1, kb2, kfx⟩ := hkey 10 n hst2
                    have CR := Lib.hid cR
                    have CB := Lib.hid cP
                    have CP := Lib.hid (fun wx => put_any 10 kfx wx)
                    clear cR e hr hbad hkey rb5 hst hst2 kfx cP
                    go_wp2_with fail
                    refine (CR.out).mono ?_
                    rintro e w3 ⟨rfl, hb2⟩
                    have hs2 := hb2.size
                    go_wp2_with fail
                    refine (CB.out _).mono ?_
                    rintro e w6 ⟨rfl, rfl⟩
                    have HO3 := Lib.hid (own_below HO.out hb2)
                    have HB3 := Lib.hid (HBW.out.trans (hb2.mono hs1))
                    have hs13 : w.heap.size ≤ w6.heap.size := by omega
                    go_wp2_with fail
                    refine (CP.out _).mono ?_
                    rintro e w4 ⟨pb, pcap, rfl, hpb, hpc, hpby, hb4⟩
                    have hs4 := hb4.size
                    have hpl4 := put_len 10
                    go_wp2_with (at_builtin; refine wpList_append_own _ rfl _ _ 32 rfl w.heap.size 5 i0 (.int .u8 0) 1 1 Tryd.underlying32 hi0 hz0 hz1 hz2 rfl (by decide) _ _ _ rfl (own_below HO3.out hb4) ⟨pb, 0, none⟩ (put 10).length pcap (Lib.byteCells (put 10)) rfl ?c0 ?c1 ?c2 ?c3 ?c4 ?c5 ?_)
                    case c0 => simp [Lib.byteCells]
                    case c1 => exact cells_of_bytes hpby
                    case c2 => exact byteCells_one _
                    case c3 => unfold maxLen; omega
                    case c4 => omega
                    case c5 => omega
                    intro v' w5 hown5 hgr5 _
                    have HO5 := Lib.hid hown5
                    have HB5 := Lib.hid ((HB3.out.trans (hb4.mono hs13)).grown hgr5 (by omega) (fun k hk => (HLT.out k hk).1))
                    clear hown5 hgr5 hpby hb4
                    go_wp2
                    go_roundw
                    case rel => exact ⟨pos + n, fuel - 1, acc ++ put 10, by go_num, by rw [List.length_append, Lib.byteCells_append]; exact HO5.out, HB5.out, HF, by omega, by omega, by rw [List.length_append]; omega⟩
                    case measure => simp [intOf]; omega
                  · have hst2 : step1 false d = (0, 10, 2) := hst
                    obtain ⟨HF, kb1, kb2, kfx⟩ := hkey 10 2 hst2
                    have CR := Lib.hid cR
                    have CB := Lib.hid cP
                    have CP := Lib.hid (fun wx => put_any 10 kfx wx)
                    clear cR e hr hbad hkey rb5 hst hst2 kfx cP
                    go_wp2_with fail
                    refine (CR.out).mono ?_
                    rintro e w3 ⟨rfl, hb2⟩
                    have hs2 := hb2.size
                    go_wp2_with fail
                    refine (CB.out _).mono ?_
                    rintro e w6 ⟨rfl, rfl⟩
                    have HO3 := Lib.hid (own_below HO.out hb2)
                    have HB3 := Lib.hid (HBW.out.trans (hb2.mono hs1))
                    have hs13 : w.heap.size ≤ w6.heap.size := by omega
                    go_wp2_with fail
                    refine (CP.out _).mono ?_
                    rintro e w4 ⟨pb, pcap, rfl, hpb, hpc, hpby, hb4⟩
                    have hs4 := hb4.size
                    have hpl4 := put_len 10
                    go_wp2_with (at_builtin; refine wpList_append_own _ rfl _ _ 32 rfl w.heap.size 5 i0 (.int .u8 0) 1 1 Tryd.underlying32 hi0 hz0 hz1 hz2 rfl (by decide) _ _ _ rfl (own_below HO3.out hb4) ⟨pb, 0, none⟩ (put 10).length pcap (Lib.byteCells (put 10)) rfl ?c0 ?c1 ?c2 ?c3 ?c4 ?c5 ?_)
                    case c0 => simp [Lib.byteCells]
                    case c1 => exact cells_of_bytes hpby
                    case c2 => exact byteCells_one _
                    case c3 => unfold maxLen; omega
                    case c4 => omega
                    case c5 => omega
                    intro v' w5 hown5 hgr5 _
                    have HO5 := Lib.hid hown5
                    have HB5 := Lib.hid ((HB3.out.trans (hb4.mono hs13)).grown hgr5 (by omega) (fun k hk => (HLT.out k hk).1))
                    clear hown5 hgr5 hpby hb4
                    go_wp2
                    go_roundw
                    case rel => exact ⟨pos + 2, fuel - 1, acc ++ put 10, by go_num, by rw [List.length_append, Lib.byteCells_append]; exact HO5.out, HB5.out, HF, by omega, by omega, by rw [List.length_append]; omega⟩
                    case measure => simp [intOf]; omega
                · cases pre
                  · have hst2 : step1 true d = (0, 32, n) := hst
                    obtain ⟨HF, kb1, kb2, kfx⟩ := hkey 32 n hst2
                    have CR := Lib.hid cR
                    have CB := Lib.hid cP
                    have CP := Lib.hid (fun wx => put_any 32 kfx wx)
                    clear cR e hr hbad hkey rb5 hst hst2 kfx cP
                    go_wp2_with fail
                    refine (CR.out).mono ?_
                    rintro e w3 ⟨rfl, hb2⟩
                    have hs2 := hb2.size
                    go_wp2_with fail
                    refine (CB.out _).mono ?_
                    rintro e w6 ⟨rfl, rfl⟩
                    have HO3 := Lib.hid (own_below HO.out hb2)
                    have HB3 := Lib.hid (HBW.out.trans (hb2.mono hs1))
                    have hs13 : w.heap.size ≤ w6.heap.size := by omega
                    go_wp2_with fail
                    refine (CP.out _).mono ?_
                    rintro e w4 ⟨pb, pcap, rfl, hpb, hpc, hpby, hb4⟩
                    have hs4 := hb4.size
                    have hpl4 := put_len 32
                    go_wp2_with (at_builtin; refine wpList_append_own _ rfl _ _ 32 rfl w.heap.size 5 i0 (.int .u8 0) 1 1 Tryd.underlying32 hi0 hz0 hz1 hz2 rfl (by decide) _ _ _ rfl (own_below HO3.out hb4) ⟨pb, 0, none⟩ (put 32).length pcap (Lib.byteCells (put 32)) rfl ?c0 ?c1 ?c2 ?c3 ?c4 ?c5 ?_)
                    case c0 => simp [Lib.byteCells]
                    case c1 => exact cells_of_bytes hpby
                    case c2 => exact byteCells_one _
                    case c3 => unfold maxLen; omega
                    case c4 => omega
                    case c5 => omega
                    intro v' w5 hown5 hgr5 _
                    have HO5 := Lib.hid hown5
                    have HB5 := Lib.hid ((HB3.out.trans (hb4.mono hs13)).grown hgr5 (by omega) (fun k hk => (HLT.out k hk).1))
                    clear hown5 hgr5 hpby hb4
                    go_wp2
                    go_roundw
                    case rel => exact ⟨pos + n, fuel - 1, acc ++ put 32, by go_num, by rw [List.length_append, Lib.byteCells_append]; exact HO5.out, HB5.out, HF, by omega, by omega, by rw [List.length_append]; omega⟩
                    case measure => simp [intOf]; omega
                  · have hst2 : step1 true d = (0, 32, 2) := hst
                    obtain ⟨HF, kb1, kb2, kfx⟩ := hkey 32 2 hst2
                    have CR := Lib.hid cR
                    have CB := Lib.hid cP
                    have CP := Lib.hid (fun wx => put_any 32 kfx wx)
                    clear cR e hr hbad hkey rb5 hst hst2 kfx cP
                    go_wp2_with fail
                    refine (CR.out).mono ?_
                    rintro e w3 ⟨rfl, hb2⟩
                    have hs2 := hb2.size
                    go_wp2_with fail
                    refine (CB.out _).mono ?_
                    rintro e w6 ⟨rfl, rfl⟩
                    have HO3 := Lib.hid (own_below HO.out hb2)
                    have HB3 := Lib.hid (HBW.out.trans (hb2.mono hs1))
                    have hs13 : w.heap.size ≤ w6.heap.size := by omega
                    go_wp2_with fail
                    refine (CP.out _).mono ?_
                    rintro e w4 ⟨pb, pcap, rfl, hpb, hpc, hpby, hb4⟩
                    have hs4 := hb4.size
                    have hpl4 := put_len 32
                    go_wp2_with (at_builtin; refine wpList_append_own _ rfl _ _ 32 rfl w.heap.size 5 i0 (.int .u8 0) 1 1 Tryd.underlying32 hi0 hz0 hz1 hz2 rfl (by decide) _ _ _ rfl (own_below HO3.out hb4) ⟨pb, 0, none⟩ (put 32).length pcap (Lib.byteCells (put 32)) rfl ?c0 ?c1 ?c2 ?c3 ?c4 ?c5 ?_)
                    case c0 => simp [Lib.byteCells]
                    case c1 => exact cells_of_bytes hpby
                    case c2 => exact byteCells_one _
                    case c3 => unfold maxLen; omega
                    case c4 => omega
                    case c5 => omega
                    intro v' w5 hown5 hgr5 _
                    have HO5 := Lib.hid hown5
                    have HB5 := Lib.hid ((HB3.out.trans (hb4.mono hs13)).grown hgr5 (by omega) (fun k hk => (HLT.out k hk).1))
                    clear hown5 hgr5 hpby hb4
                    go_wp2
                    go_roundw
                    case rel => exact ⟨pos + 2, fuel - 1, acc ++ put 32, by go_num, by rw [List.length_append, Lib.byteCells_append]; exact HO5.out, HB5.out, HF, by omega, by omega, by rw [List.length_append]; omega⟩
                    case measure => simp [intOf]; omega
              · cases v
                · cases pre
                  · have hst2 : step1 false d = (0, 10, n) := hst
                    obtain ⟨HF, kb1, kb2, kfx⟩ := hkey 10 n hst2
                    have CR := Lib.hid cR
                    have CB := Lib.hid cP
                    have CP := Lib.hid (fun wx => put_any 10 kfx wx)
                    clear cR e hr hbad hkey rb5 hst hst2 kfx cP
                    go_wp2_with fail
                    refine (CR.out).mono ?_
                    rintro e w3 ⟨rfl, hb2⟩
                    have hs2 := hb2.size
                    go_wp2_with fail
                    refine (CB.out _).mono ?_
                    rintro e w6 ⟨rfl, rfl⟩
                    have HO3 := Lib.hid (own_below HO.out hb2)
                    have HB3 := Lib.hid (HBW.out.trans (hb2.mono hs1))
                    have hs13 : w.heap.size ≤ w6.heap.size := by omega
                    go_wp2_with fail
                    refine (CP.out _).mono ?_
                    rintro e w4 ⟨pb, pcap, rfl, hpb, hpc, hpby, hb4⟩
                    have hs4 := hb4.size
                    have hpl4 := put_len 10
                    go_wp2_with (at_builtin; refine wpList_append_own _ rfl _ _ 32 rfl w.heap.size 5 i0 (.int .u8 0) 1 1 Tryd.underlying32 hi0 hz0 hz1 hz2 rfl (by decide) _ _ _ rfl (own_below HO3.out hb4) ⟨pb, 0, none⟩ (put 10).length pcap (Lib.byteCells (put 10)) rfl ?c0 ?c1 ?c2 ?c3 ?c4 ?c5 ?_)
                    case c0 => simp [Lib.byteCells]
                    case c1 => exact cells_of_bytes hpby
                    case c2 => exact byteCells_one _
                    case c3 => unfold maxLen; omega
                    case c4 => omega
                    case c5 => omega
                    intro v' w5 hown5 hgr5 _
                    have HO5 := Lib.hid hown5
                    have HB5 := Lib.hid ((HB3.out.trans (hb4.mono hs13)).grown hgr5 (by omega) (fun k hk => (HLT.out k hk).1))
                    clear hown5 hgr5 hpby hb4
                    go_wp2
                    go_roundw
                    case rel => exact ⟨pos + n, fuel - 1, acc ++ put 10, by go_num, by rw [List.length_append, Lib.byteCells_append]; exact HO5.out, HB5.out, HF, by omega, by omega, by rw [List.length_append]; omega⟩
                    case measure => simp [intOf]; omega
                  · have hst2 : step1 false d = (0, 10, 2) := hst
                    obtain ⟨HF, kb1, kb2, kfx⟩ := hkey 10 2 hst2
                    have CR := Lib.hid cR
                    have CB := Lib.hid cP
                    have CP := Lib.hid (fun wx => put_any 10 kfx wx)
                    clear cR e hr hbad hkey rb5 hst hst2 kfx cP
                    go_wp2_with fail
                    refine (CR.out).mono ?_
                    rintro e w3 ⟨rfl, hb2⟩
                    have hs2 := hb2.size
                    go_wp2_with fail
                    refine (CB.out _).mono ?_
                    rintro e w6 ⟨rfl, rfl⟩
                    have HO3 := Lib.hid (own_below HO.out hb2)
                    have HB3 := Lib.hid (HBW.out.trans (hb2.mono hs1))
                    have hs13 : w.heap.size ≤ w6.heap.size := by omega
                    go_wp2_with fail
                    refine (CP.out _).mono ?_
                    rintro e w4 ⟨pb, pcap, rfl, hpb, hpc, hpby, hb4⟩
                    have hs4 := hb4.size
                    have hpl4 := put_len 10
                    go_wp2_with (at_builtin; refine wpList_append_own _ rfl _ _ 32 rfl w.heap.size 5 i0 (.int .u8 0) 1 1 Tryd.underlying32 hi0 hz0 hz1 hz2 rfl (by decide) _ _ _ rfl (own_below HO3.out hb4) ⟨pb, 0, none⟩ (put 10).length pcap (Lib.byteCells (put 10)) rfl ?c0 ?c1 ?c2 ?c3 ?c4 ?c5 ?_)
                    case c0 => simp [Lib.byteCells]
                    case c1 => exact cells_of_bytes hpby
                    case c2 => exact byteCells_one _
                    case c3 => unfold maxLen; omega
                    case c4 => omega
                    case c5 => omega
                    intro v' w5 hown5 hgr5 _
                    have HO5 := Lib.hid hown5
                    have HB5 := Lib.hid ((HB3.out.trans (hb4.mono hs13)).grown hgr5 (by omega) (fun k hk => (HLT.out k hk).1))
                    clear hown5 hgr5 hpby hb4
                    go_wp2
                    go_roundw
                    case rel => exact ⟨pos + 2, fuel - 1, acc ++ put 10, by go_num, by rw [List.length_append, Lib.byteCells_append]; exact HO5.out, HB5.out, HF, by omega, by omega, by rw [List.length_append]; omega⟩
                    case measure => simp [intOf]; omega
                · cases pre
                  · have hst2 : step1 true d = (0, 32, n) := hst
                    obtain ⟨HF, kb1, kb2, kfx⟩ := hkey 32 n hst2
                    have CR := Lib.hid cR
                    have CB := Lib.hid cP
                    have CP := Lib.hid (fun wx => put_any 32 kfx wx)
                    clear cR e hr hbad hkey rb5 hst hst2 kfx cP
                    go_wp2_with fail
                    refine (CR.out).mono ?_
                    rintro e w3 ⟨rfl, hb2⟩
                    have hs2 := hb2.size
                    go_wp2_with fail
                    refine (CB.out _).mono ?_
                    rintro e w6 ⟨rfl, rfl⟩
                    have HO3 := Lib.hid (own_below HO.out hb2)
                    have HB3 := Lib.hid (HBW.out.trans (hb2.mono hs1))
                    have hs13 : w.heap.size ≤ w6.heap.size := by omega
                    go_wp2_with fail
                    refine (CP.out _).mono ?_
                    rintro e w4 ⟨pb, pcap, rfl, hpb, hpc, hpby, hb4⟩
                    have hs4 := hb4.size
                    have hpl4 := put_len 32
                    go_wp2_with (at_builtin; refine wpList_append_own _ rfl _ _ 32 rfl w.heap.size 5 i0 (.int .u8 0) 1 1 Tryd.underlying32 hi0 hz0 hz1 hz2 rfl (by decide) _ _ _ rfl (own_below HO3.out hb4) ⟨pb, 0, none⟩ (put 32).length pcap (Lib.byteCells (put 32)) rfl ?c0 ?c1 ?c2 ?c3 ?c4 ?c5 ?_)
                    case c0 => simp [Lib.byteCells]
                    case c1 => exact cells_of_bytes hpby
                    case c2 => exact byteCells_one _
                    case c3 => unfold maxLen; omega
                    case c4 => omega
                    case c5 => omega
                    intro v' w5 hown5 hgr5 _
                    have HO5 := Lib.hid hown5
                    have HB5 := Lib.hid ((HB3.out.trans (hb4.mono hs13)).grown hgr5 (by omega) (fun k hk => (HLT.out k hk).1))
                    clear hown5 hgr5 hpby hb4
                    go_wp2
                    go_roundw
                    case rel => exact ⟨pos + n, fuel - 1, acc ++ put 32, by go_num, by rw [List.length_append, Lib.byteCells_append]; exact HO5.out, HB5.out, HF, by omega, by omega, by rw [List.length_append]; omega⟩
                    case measure => simp [intOf]; omega
                  · have hst2 : step1 true d = (0, 32, 2) := hst
                    obtain ⟨HF, kb1, kb2, kfx⟩ := hkey 32 2 hst2
                    have CR := Lib.hid cR
                    have CB := Lib.hid cP
                    have CP := Lib.hid (fun wx => put_any 32 kfx wx)
                    clear cR e hr hbad hkey rb5 hst hst2 kfx cP
                    go_wp2_with fail
                    refine (CR.out).mono ?_
                    rintro e w3 ⟨rfl, hb2⟩
                    have hs2 := hb2.size
                    go_wp2_with fail
                    refine (CB.out _).mono ?_
                    rintro e w6 ⟨rfl, rfl⟩
                    have HO3 := Lib.hid (own_below HO.out hb2)
                    have HB3 := Lib.hid (HBW.out.trans (hb2.mono hs1))
                    have hs13 : w.heap.size ≤ w6.heap.size := by omega
                    go_wp2_with fail
                    refine (CP.out _).mono ?_
                    rintro e w4 ⟨pb, pcap, rfl, hpb, hpc, hpby, hb4⟩
                    have hs4 := hb4.size
                    have hpl4 := put_len 32
                    go_wp2_with (at_builtin; refine wpList_append_own _ rfl _ _ 32 rfl w.heap.size 5 i0 (.int .u8 0) 1 1 Tryd.underlying32 hi0 hz0 hz1 hz2 rfl (by decide) _ _ _ rfl (own_below HO3.out hb4) ⟨pb, 0, none⟩ (put 32).length pcap (Lib.byteCells (put 32)) rfl ?c0 ?c1 ?c2 ?c3 ?c4 ?c5 ?_)
                    case c0 => simp [Lib.byteCells]
                    case c1 => exact cells_of_bytes hpby
                    case c2 => exact byteCells_one _
                    case c3 => unfold maxLen; omega
                    case c4 => omega
                    case c5 => omega
                    intro v' w5 hown5 hgr5 _
                    have HO5 := Lib.hid hown5
                    have HB5 := Lib.hid ((HB3.out.trans (hb4.mono hs13)).grown hgr5 (by omega) (fun k hk => (HLT.out k hk).1))
                    clear hown5 hgr5 hpby hb4
                    go_wp2
                    go_roundw
                    case rel => exact ⟨pos + 2, fuel - 1, acc ++ put 32, by go_num, by rw [List.length_append, Lib.byteCells_append]; exact HO5.out, HB5.out, HF, by omega, by omega, by rw [List.length_append]; omega⟩
                    case measure => simp [intOf]; omega
              · cases v
                · cases pre
                  · have hst2 : step1 false d = (0, 9, n) := hst
                    obtain ⟨HF, kb1, kb2, kfx⟩ := hkey 9 n hst2
                    have CR := Lib.hid cR
                    have CB := Lib.hid cP
                    have CP := Lib.hid (fun wx => put_any 9 kfx wx)
                    clear cR e hr hbad hkey rb5 hst hst2 kfx cP
                    go_wp2_with fail
                    refine (CR.out).mono ?_
                    rintro e w3 ⟨rfl, hb2⟩
                    have hs2 := hb2.size
                    go_wp2_with fail
                    refine (CB.out _).mono ?_
                    rintro e w6 ⟨rfl, rfl⟩
                    have HO3 := Lib.hid (own_below HO.out hb2)
                    have HB3 := Lib.hid (HBW.out.trans (hb2.mono hs1))
                    have hs13 : w.heap.size ≤ w6.heap.size := by omega
                    go_wp2_with fail
                    refine (CP.out _).mono ?_
                    rintro e w4 ⟨pb, pcap, rfl, hpb, hpc, hpby, hb4⟩
                    have hs4 := hb4.size
                    have hpl4 := put_len 9
                    go_wp2_with (at_builtin; refine wpList_append_own _ rfl _ _ 32 rfl w.heap.size 5 i0 (.int .u8 0) 1 1 Tryd.underlying32 hi0 hz0 hz1 hz2 rfl (by decide) _ _ _ rfl (own_below HO3.out hb4) ⟨pb, 0, none⟩ (put 9).length pcap (Lib.byteCells (put 9)) rfl ?c0 ?c1 ?c2 ?c3 ?c4 ?c5 ?_)
                    case c0 => simp [Lib.byteCells]
                    case c1 => exact cells_of_bytes hpby
                    case c2 => exact byteCells_one _
                    case c3 => unfold maxLen; omega
                    case c4 => omega
                    case c5 => omega
                    intro v' w5 hown5 hgr5 _
                    have HO5 := Lib.hid hown5
                    have HB5 := Lib.hid ((HB3.out.trans (hb4.mono hs13)).grown hgr5 (by omega) (fun k hk => (HLT.out k hk).1))
                    clear hown5 hgr5 hpby hb4
                    go_wp2
                    go_roundw
                    case rel => exact ⟨pos + n, fuel - 1, acc ++ put 9, by go_num, by rw [List.length_append, Lib.byteCells_append]; exact HO5.out, HB5.out, HF, by omega, by omega, by rw [List.length_append]; omega⟩
                    case measure => simp [intOf]; omega
                  · have hst2 : step1 false d = (0, 9, 2) := hst
                    obtain ⟨HF, kb1, kb2, kfx⟩ := hkey 9 2 hst2
                    have CR := Lib.hid cR
                    have CB := Lib.hid cP
                    have CP := Lib.hid (fun wx => put_any 9 kfx wx)
                    clear cR e hr hbad hkey rb5 hst hst2 kfx cP
                    go_wp2_with fail
                    refine (CR.out).mono ?_
                    rintro e w3 ⟨rfl, hb2⟩
                    have hs2 := hb2.size
                    go_wp2_with fail
                    refine (CB.out _).mono ?_
                    rintro e w6 ⟨rfl, rfl⟩
                    have HO3 := Lib.hid (own_below HO.out hb2)
                    have HB3 := Lib.hid (HBW.out.trans (hb2.mono hs1))
                    have hs13 : w.heap.size ≤ w6.heap.size := by omega
                    go_wp2_with fail
                    refine (CP.out _).mono ?_
                    rintro e w4 ⟨pb, pcap, rfl, hpb, hpc, hpby, hb4⟩
                    have hs4 := hb4.size
                    have hpl4 := put_len 9
                    go_wp2_with (at_builtin; refine wpList_append_own _ rfl _ _ 32 rfl w.heap.size 5 i0 (.int .u8 0) 1 1 Tryd.underlying32 hi0 hz0 hz1 hz2 rfl (by decide) _ _ _ rfl (own_below HO3.out hb4) ⟨pb, 0, none⟩ (put 9).length pcap (Lib.byteCells (put 9)) rfl ?c0 ?c1 ?c2 ?c3 ?c4 ?c5 ?_)
                    case c0 => simp [Lib.byteCells]
                    case c1 => exact cells_of_bytes hpby
                    case c2 => exact byteCells_one _
                    case c3 => unfold maxLen; omega
                    case c4 => omega
                    case c5 => omega
                    intro v' w5 hown5 hgr5 _
                    have HO5 := Lib.hid hown5
                    have HB5 := Lib.hid ((HB3.out.trans (hb4.mono hs13)).grown hgr5 (by omega) (fun k hk => (HLT.out k hk).1))
                    clear hown5 hgr5 hpby hb4
                    go_wp2
                    go_roundw
                    case rel => exact ⟨pos + 2, fuel - 1, acc ++ put 9, by go_num, by rw [List.length_append, Lib.byteCells_append]; exact HO5.out, HB5.out, HF, by omega, by omega, by rw [List.length_append]; omega⟩
                    case measure => simp [intOf]; omega
                · cases pre
                  · have hst2 : step1 true d = (0, 32, n) := hst
                    obtain ⟨HF, kb1, kb2, kfx⟩ := hkey 32 n hst2
                    have CR := Lib.hid cR
                    have CB := Lib.hid cP
                    have CP := Lib.hid (fun wx => put_any 32 kfx wx)
                    clear cR e hr hbad hkey rb5 hst hst2 kfx cP
                    go_wp2_with fail
                    refine (CR.out).mono ?_
                    rintro e w3 ⟨rfl, hb2⟩
                    have hs2 := hb2.size
                    go_wp2_with fail
                    refine (CB.out _).mono ?_
                    rintro e w6 ⟨rfl, rfl⟩
                    have HO3 := Lib.hid (own_below HO.out hb2)
                    have HB3 := Lib.hid (HBW.out.trans (hb2.mono hs1))
                    have hs13 : w.heap.size ≤ w6.heap.size := by omega
                    go_wp2_with fail
                    refine (CP.out _).mono ?_
                    rintro e w4 ⟨pb, pcap, rfl, hpb, hpc, hpby, hb4⟩
                    have hs4 := hb4.size
                    have hpl4 := put_len 32
                    go_wp2_with (at_builtin; refine wpList_append_own _ rfl _ _ 32 rfl w.heap.size 5 i0 (.int .u8 0) 1 1 Tryd.underlying32 hi0 hz0 hz1 hz2 rfl (by decide) _ _ _ rfl (own_below HO3.out hb4) ⟨pb, 0, none⟩ (put 32).length pcap (Lib.byteCells (put 32)) rfl ?c0 ?c1 ?c2 ?c3 ?c4 ?c5 ?_)
                    case c0 => simp [Lib.byteCells]
                    case c1 => exact cells_of_bytes hpby
                    case c2 => exact byteCells_one _
                    case c3 => unfold maxLen; omega
                    case c4 => omega
                    case c5 => omega
                    intro v' w5 hown5 hgr5 _
                    have HO5 := Lib.hid hown5
                    have HB5 := Lib.hid ((HB3.out.trans (hb4.mono hs13)).grown hgr5 (by omega) (fun k hk => (HLT.out k hk).1))
                    clear hown5 hgr5 hpby hb4
                    go_wp2
                    go_roundw
                    case rel => exact ⟨pos + n, fuel - 1, acc ++ put 32, by go_num, by rw [List.length_append, Lib.byteCells_append]; exact HO5.out, HB5.out, HF, by omega, by omega, by rw [List.length_append]; omega⟩
                    case measure => simp [intOf]; omega
                  · have hst2 : step1 true d = (0, 32, 2) := hst
                    obtain ⟨HF, kb1, kb2, kfx⟩ := hkey 32 2 hst2
                    have CR := Lib.hid cR
                    have CB := Lib.hid cP
                    have CP := Lib.hid (fun wx => put_any 32 kfx wx)
                    clear cR e hr hbad hkey rb5 hst hst2 kfx cP
                    go_wp2_with fail
                    refine (CR.out).mono ?_
                    rintro e w3 ⟨rfl, hb2⟩
                    have hs2 := hb2.size
                    go_wp2_with fail
                    refine (CB.out _).mono ?_
                    rintro e w6 ⟨rfl, rfl⟩
                    have HO3 := Lib.hid (own_below HO.out hb2)
                    have HB3 := Lib.hid (HBW.out.trans (hb2.mono hs1))
                    have hs13 : w.heap.size ≤ w6.heap.size := by omega
                    go_wp2_with fail
                    refine (CP.out _).mono ?_
                    rintro e w4 ⟨pb, pcap, rfl, hpb, hpc, hpby, hb4⟩
                    have hs4 := hb4.size
                    have hpl4 := put_len 32
                    go_wp2_with (at_builtin; refine wpList_append_own _ rfl _ _ 32 rfl w.heap.size 5 i0 (.int .u8 0) 1 1 Tryd.underlying32 hi0 hz0 hz1 hz2 rfl (by decide) _ _ _ rfl (own_below HO3.out hb4) ⟨pb, 0, none⟩ (put 32).length pcap (Lib.byteCells (put 32)) rfl ?c0 ?c1 ?c2 ?c3 ?c4 ?c5 ?_)
                    case c0 => simp [Lib.byteCells]
                    case c1 => exact cells_of_bytes hpby
                    case c2 => exact byteCells_one _
                    case c3 => unfold maxLen; omega
                    case c4 => omega
                    case c5 => omega
                    intro v' w5 hown5 hgr5 _
                    have HO5 := Lib.hid hown5
                    have HB5 := Lib.hid ((HB3.out.trans (hb4.mono hs13)).grown hgr5 (by omega) (fun k hk => (HLT.out k hk).1))
                    clear hown5 hgr5 hpby hb4
                    go_wp2
                    go_roundw
                    case rel => exact ⟨pos + 2, fuel - 1, acc ++ put 32, by go_num, by rw [List.length_append, Lib.byteCells_append]; exact HO5.out, HB5.out, HF, by omega, by omega, by rw [List.length_append]; omega⟩
                    case measure => simp [intOf]; omega
            · have hst : step1 v d = (0, c, n) := by unfold step1; rw [hr]; simp only []; rw [if_neg h60, if_neg h38, if_neg h3]
              have i13 : ((c : Int) == 13) = false := by rw [beq_eq_false_iff_ne]; omega
              have i10 : ((c : Int) == 10) = false := by rw [beq_eq_false_iff_ne]; omega
              have i9 : ((c : Int) == 9) = false := by rw [beq_eq_false_iff_ne]; omega
              obtain ⟨HF, kb1, kb2, kfx⟩ := hkey c n hst
              have CR := Lib.hid cR
              have CP := Lib.hid (fun wx => put_any c kfx wx)
              clear cR e hr hbad hkey rb5 hst kfx h3
              go_wp2_with fail
              refine (CR.out).mono ?_
              rintro e w3 ⟨rfl, hb2⟩
              have hs2 := hb2.size
              have HO3 := Lib.hid (own_below HO.out hb2)
              have HB3 := Lib.hid (HBW.out.trans (hb2.mono hs1))
              have hs13 : w.heap.size ≤ w3.heap.size := by omega
              go_wp2_with fail
              refine (CP.out _).mono ?_
              rintro e w4 ⟨pb, pcap, rfl, hpb, hpc, hpby, hb4⟩
              have hs4 := hb4.size
              have hpl4 := put_len c
              go_wp2_with (at_builtin; refine wpList_append_own _ rfl _ _ 32 rfl w.heap.size 5 i0 (.int .u8 0) 1 1 Tryd.underlying32 hi0 hz0 hz1 hz2 rfl (by decide) _ _ _ rfl (own_below HO3.out hb4) ⟨pb, 0, none⟩ (put c).length pcap (Lib.byteCells (put c)) rfl ?c0 ?c1 ?c2 ?c3 ?c4 ?c5 ?_)
              case c0 => simp [Lib.byteCells]
              case c1 => exact cells_of_bytes hpby
              case c2 => exact byteCells_one _
              case c3 => unfold maxLen; omega
              case c4 => omega
              case c5 => omega
              intro v' w5 hown5 hgr5 _
              have HO5 := Lib.hid hown5
              have HB5 := Lib.hid ((HB3.out.trans (hb4.mono hs13)).grown hgr5 (by omega) (fun k hk => (HLT.out k hk).1))
              clear hown5 hgr5 hpby hb4
              go_wp2
              go_roundw
              case rel => exact ⟨pos + n, fuel - 1, acc ++ put c, by go_num, by rw [List.length_append, Lib.byteCells_append]; exact HO5.out, HB5.out, HF, by omega, by omega, by rw [List.length_append]; omega⟩
              case measure => simp [intOf]; omega
    · have HF : Hid (tellL v l = (acc, pos, 0)) := Lib.hid (by rw [hchk.out, List.drop_eq_nil_of_le (by omega), tellGo_nil])
      have hcs := own_string wr w.heap.size _ acc hown
      go_wp2
      go_ret3
      exact ⟨by rw [HF.out]; rfl, hbw⟩

end Go.Proofs.YtgkfadkgkdjcoaaDoor
