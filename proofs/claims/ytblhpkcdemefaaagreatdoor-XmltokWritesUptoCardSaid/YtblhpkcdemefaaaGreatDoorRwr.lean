/- Walks: the document's answer of layer 4: attributes' bytes (tipstaveref04.attrs). Walks: the document's answer of layer 4: a token's bytes (tipstaveref04.token). Walks: the document's answer of layer 4: tokens' bytes (tipstaveref04.Write). -/
import Derived.Test.YtblhpkcdemefaaaGreatDoorRsp
import Derived.Test.YtblhpkcdemefaaaGreatDoorEscs
import Derived.Test.YtblhpkcdemefaaaGreatDoorWt
import Derived.Test.YtblhpkcdemefaaaGreatDoorBs
set_option linter.unusedVariables false
set_option linter.unusedSimpArgs false
namespace Go.Proofs.YtblhpkcdemefaaaGreatDoor
open Go.RowKit

theorem splitV_bad {l : List UInt8} (h : splitB l = false) : splitV l = .tuple #[.string ⟨#[]⟩, .string ⟨#[]⟩, .bool false] := by
  unfold splitV splitR; rw [h, if_pos rfl]
theorem splitV_ok {l a b : List UInt8} (h : splitB l = true) (hr : splitR l = (a, b)) : splitV l = .tuple #[.string ⟨a.toArray⟩, .string ⟨b.toArray⟩, .bool true] := by
  unfold splitV; rw [h, hr]
theorem any_drop {ps : List RP} {k i : Nat} (hk : k < i) (hi : i ≤ ps.length) (nm : List UInt8) : ((ps.take i).drop k).any (fun q => q.name == nm) = ((ps[k]'(by omega)).name == nm || ((ps.take i).drop (k + 1)).any (fun q => q.name == nm)) := by
  have hl : k < (ps.take i).length := by rw [List.length_take]; omega
  rw [List.drop_eq_getElem_cons hl, List.any_cons, List.getElem_take]

set_option maxHeartbeats 8000000 in
set_option maxRecDepth 100000 in
theorem attrsR_any (ps : List RP) (v : Value) (w : World) (h : PairsAt w v ps) (hlen : ps.length ≤ 3000) (hsz : ∀ p ∈ ps, p.name.length ≤ 3000 ∧ p.value.length ≤ 3000) :
    Calls Tryz.prog 76 #[v] w fun e w' => e = .returned (.tuple #[.string ⟨(attrsL ps).1.toArray⟩, .int .i64 (attrsL ps).2]) ∧ Below w.heap.size w w' := by
  obtain ⟨p, cap, rfl, hcap, hcell⟩ := h
  obtain ⟨n, hn⟩ : ∃ n, ps.length = n := ⟨_, rfl⟩
  have HC := Lib.hid hcell
  have HS := Lib.hid hsz
  rw [hn] at hlen hcap ⊢
  clear hcell hsz
  go_enter Tryz.func76, Tryz.ntmps76
  go_wp2
  go_loopw [4, 5] (fun v4 v5 wr => ∃ (i : Nat) (acc : List UInt8), v4 = .string ⟨acc.toArray⟩ ∧ v5 = .int .i64 i ∧ i ≤ n ∧ Below w.heap.size w wr ∧ attrsL ps = attrsGo (ps.drop i) (ps.take i) acc ∧ acc.length ≤ i * 30000) (fun _ v5 _ => n - (intOf v5).toNat)
  case atStart => exact ⟨0, [], rfl, rfl, Nat.zero_le _, Below.refl _ _, rfl, Nat.zero_le _⟩
  case round =>
    obtain ⟨i, acc, rfl, rfl, hin, hbw, hchk, hacc⟩ := hrel
    by_cases hi : i < n
    · have hip : i < ps.length := by omega
      obtain ⟨g, off, hp, d0, d1, d2⟩ := HC.out i hip
      have hsx := HS.out _ (List.getElem_mem hip)
      obtain ⟨x, hx⟩ : ∃ x, ps[i] = x := ⟨_, rfl⟩
      have hst := attrs_step (seen := ps.take i) (acc := acc) hip hx
      have htk : ps.take i ++ [x] = ps.take (i + 1) := by rw [← hx, List.take_succ_eq_append_getElem hip]
      rw [htk] at hst
      rw [hx] at d0 d1 d2 hsx
      subst hp
      obtain ⟨xa, xn, xv⟩ := x
      have hs := hbw.size
      have d1' : wr.cell? ⟨g, off + i * 3 + 1, none⟩ = some (.string ⟨xn.toArray⟩) := cellB hbw d1
      have hsx1 : xn.length ≤ 3000 := hsx.1
      have hsx2 : xv.length ≤ 3000 := hsx.2
      have cS := fun wx => splitR2_any xn ⟨xn.toArray⟩ rfl wx (by omega)
      have hE : attrE (ps.take i) ⟨xa, xn, xv⟩ = if splitB xn = false then 6 else if (ps.take i).any (fun q => q.name == xn) = true then 8 else if (checkL xv).2 = false then 4 else 0 := rfl
      clear hx htk hsx
      cases hsp : splitB xn with
      | false =>
        rw [splitV_bad hsp] at cS
        rw [hsp, if_pos rfl] at hE
        have HF : Hid (attrsL ps = ([], 6)) := Lib.hid (by rw [hchk, hst, hE]; rfl)
        have CS := Lib.hid cS
        clear cS hE hchk hst hsp
        go_wp2_with fail
        refine (CS.out _).mono ?_
        rintro e w2 ⟨rfl, hb2⟩
        go_wp2
        go_ret2
        rw [HF.out]
        exact ⟨rfl, hbw.trans (hb2.mono hs)⟩
      | true =>
        rw [splitV_ok (a := (splitR xn).1) (b := (splitR xn).2) hsp rfl] at cS
        rw [hsp, if_neg (by decide)] at hE
        have CS := Lib.hid cS
        have HE := Lib.hid hE
        have HST := Lib.hid hst
        have HCHK := Lib.hid hchk
        clear cS hsp hE hst hchk
        go_wp2_with fail
        refine (CS.out _).mono ?_
        rintro e w2 ⟨rfl, hb2⟩
        have hbw2 := hbw.trans (hb2.mono hs)
        have hs2 := hbw2.size
        clear hb2 CS d1'
        go_wp2
        go_loopw [9] (fun v9 wr2 => ∃ k : Nat, v9 = .int .i64 k ∧ k ≤ i ∧ Below w.heap.size w wr2 ∧ (ps.take i).any (fun q => q.name == xn) = ((ps.take i).drop k).any (fun q => q.name == xn)) (fun v9 _ => i - (intOf v9).toNat)
        case atStart => exact ⟨0, rfl, Nat.zero_le _, hbw2, rfl⟩
        case round =>
          obtain ⟨k, rfl, hki, hbw3, hany⟩ := hrel
          have hs3 := hbw3.size
          have d1'' := cellB hbw3 d1
          by_cases hk : k < i
          · obtain ⟨g', off', hp', e0, e1, e2⟩ := HC.out k (by omega)
            cases hp'
            have hst2 := any_drop (ps := ps) hk (by omega) xn
            obtain ⟨y, hy⟩ : ∃ y, ps[k]'(by omega) = y := ⟨_, rfl⟩
            rw [hy] at e1 hst2
            obtain ⟨ya, yn, yv⟩ := y
            have e1' := cellB hbw3 e1
            have hkn : k < n := by omega
            have hkn' : (k : Int) < (n : Int) := by omega
            have hin' : (i : Int) < (n : Int) := by omega
            by_cases hyn : yn = xn
            · subst hyn
              have HF : Hid (attrsL ps = ([], 8)) := Lib.hid (by
                have : (ps.take i).any (fun q => q.name == yn) = true := by rw [hany, hst2]; simp
                have he := HE.out
                rw [this, if_pos rfl] at he
                rw [HCHK.out, HST.out, he]; rfl)
              clear hany hst2 hy e0 e1 e2
              go_wp2
              go_quiet (fail)
              all_goals try go_wp2
              go_ret2
              rw [HF.out]
              exact ⟨rfl, hbw3.trans ((below_drewN _ _).mono hs3)⟩
            · have iy : (yn == xn) = false := beq_eq_false_iff_ne.2 hyn
              have HA : Hid ((ps.take i).any (fun q => q.name == xn) = ((ps.take i).drop (k + 1)).any (fun q => q.name == xn)) := Lib.hid (by
                rw [hany, hst2]
                show (yn == xn || _) = _
                rw [iy, Bool.false_or])
              clear hany hst2 hy e0 e1 e2
              go_wp2
              go_quiet (fail)
              all_goals try go_wp2
              go_roundw
              case rel => exact ⟨k + 1, by go_num, by omega, hbw3.trans ((below_drewN _ _).mono hs3), HA.out⟩
              case measure => simp [intOf]; omega
          · have hany0 : (ps.take i).any (fun q => q.name == xn) = false := by rw [hany, List.drop_eq_nil_of_le (by rw [List.length_take]; omega)]; rfl
            have hE := HE.out
            rw [hany0, if_neg (by decide)] at hE
            have d2' := cellB hbw3 d2
            have cV := fun wx => esc3_any true xv ⟨xv.toArray⟩ rfl wx (by omega)
            clear hany hany0 HE
            cases hck : (checkL xv).2 with
            | false =>
              rw [hck, if_pos rfl] at hE
              have hr : esc3Res true xv = .tuple #[.string ⟨#[]⟩, .bool false] := by unfold esc3Res; rw [hck]; rfl
              rw [hr] at cV
              have HF : Hid (attrsL ps = ([], 4)) := Lib.hid (by rw [HCHK.out, HST.out, hE]; rfl)
              have CV := Lib.hid cV
              clear cV hE hck hr
              go_wp2_with fail
              refine (CV.out _).mono ?_
              rintro e w4 ⟨rfl, hb4⟩
              go_wp2
              go_ret2
              rw [HF.out]
              exact ⟨rfl, hbw3.trans (hb4.mono hs3)⟩
            | true =>
              rw [hck, if_neg (by decide)] at hE
              have hr : esc3Res true xv = .tuple #[.string ⟨(escL escV xv).toArray⟩, .bool true] := by unfold esc3Res; rw [hck]; rfl
              rw [hr] at cV
              have hel := (esc_le xv hck).1
              have HF : Hid (attrsL ps = attrsGo (ps.drop (i + 1)) (ps.take (i + 1)) (acc ++ attrW ⟨xa, xn, xv⟩)) := Lib.hid (by rw [HCHK.out, HST.out, hE]; rfl)
              have haw : attrW ⟨xa, xn, xv⟩ = [32] ++ xn ++ [61, 34] ++ escL escV xv ++ [34] := rfl
              have CV := Lib.hid cV
              clear cV hE hck hr HCHK HST
              rw [haw] at HF
              generalize escL escV xv = ev at *
              have z1 := ba_size acc
              have z2 := ba_size xn
              have z3 := ba_size ev
              have happ : Hid (((((⟨acc.toArray⟩ : ByteArray) ++ ⟨#[32]⟩) ++ ⟨xn.toArray⟩) ++ ⟨#[61, 34]⟩) ++ ⟨ev.toArray⟩ ++ ⟨#[34]⟩ = ⟨(acc ++ ([32] ++ xn ++ [61, 34] ++ ev ++ [34])).toArray⟩) := Lib.hid (by
                apply ByteArray.ext
                simp)
              have hlb : i * 30000 ≤ 90000000 := by omega
              go_wp2_with fail
              refine (CV.out _).mono ?_
              rintro e w4 ⟨rfl, hb4⟩
              have HB4 := Lib.hid (hbw3.trans (hb4.mono hs3))
              have d1''' := cellB hb4 d1''
              clear hb4 hbw3
              go_wp2
              go_roundw
              case rel => exact ⟨i + 1, acc ++ ([32] ++ xn ++ [61, 34] ++ ev ++ [34]), congrArg Value.string happ.out, by go_num, by omega, HB4.out, HF.out, by simp; omega⟩
              case measure => simp [intOf]; omega
    · have HF : Hid (attrsL ps = (acc, 0)) := Lib.hid (by rw [hchk, List.drop_eq_nil_of_le (by omega)]; rfl)
      clear hchk
      go_wp2
      go_ret2
      rw [HF.out]
      exact ⟨rfl, hbw⟩

end Go.Proofs.YtblhpkcdemefaaaGreatDoor

namespace Go.Proofs.YtblhpkcdemefaaaGreatDoor
open Go.RowKit

set_option maxHeartbeats 8000000 in
set_option maxRecDepth 100000 in
theorem tokenR_any (t : RT) (m : Int) (b : Bool) (hb : b = decide (m = 3)) (v : Value) (w : World) (h : PairsAt w v t.attrs) (hs : t.s.length ≤ 3000) (hlen : t.attrs.length ≤ 3000) (hps : ∀ p ∈ t.attrs, p.name.length ≤ 3000 ∧ p.value.length ≤ 3000) :
    Calls Tryz.prog 35 #[.agg #[.int .i64 t.kind, .int .i64 t.at_, .string ⟨t.s.toArray⟩, v], .int .i64 m] w fun e w' => e = .returned (.tuple #[.string ⟨(tokW t b).1.toArray⟩, .int .i64 (tokW t b).2]) ∧ Below w.heap.size w w' := by
  have HB := Lib.hid hb
  clear hb
  obtain ⟨k, at_, s, attrs⟩ := t
  obtain ⟨p, cap, rfl, hcap, hcell⟩ := h
  obtain ⟨n, hn⟩ : ∃ n, attrs.length = n := ⟨_, rfl⟩
  have hn3 : n ≤ 3000 := by rw [← hn]; exact hlen
  have hsl : s.length ≤ 3000 := hs
  have hne : attrs = [] ↔ n = 0 := by rw [← hn]; exact List.length_eq_zero_iff.symm
  have hba := (Below.refl w.heap.size w).alloc (Nat.le_refl _) (Obj.cells #[.int .i64 k, .int .i64 at_, .string ⟨s.toArray⟩, .slice p n cap] 30)
  have cA := attrsR_any attrs (.slice p attrs.length cap)
  have hPA : ∀ wx, Below w.heap.size w wx → PairsAt wx (.slice p attrs.length cap) attrs := fun wx hw => PairsAt.below ⟨p, cap, rfl, hcap, hcell⟩ hw
  have hK := heap_alloc_new w (Obj.cells #[.int .i64 k, .int .i64 at_, .string ⟨s.toArray⟩, .slice p n cap] 30)
  have hz := ba_size s
  have hsplit := fun wx => splitR2_any s ⟨s.toArray⟩ rfl wx (by omega)
  have hW : tokW ⟨k, at_, s, attrs⟩ b = if k = 3 then (if s = [] ∨ attrs ≠ [] ∨ b = true then ([], 2) else if (checkL s).2 = true then (escL escT s, 0) else ([], 4)) else if ¬ (k = 0 ∨ k = 1 ∨ k = 2) then ([], 2) else if splitB s = false then ([], 6) else if k = 1 then (if attrs ≠ [] then ([], 2) else ([60, 47] ++ s ++ [62], 0)) else if (attrsL attrs).2 ≠ 0 then ([], (attrsL attrs).2) else ([60] ++ s ++ (attrsL attrs).1 ++ (if k = 2 then [47, 62] else [62]), 0) := rfl
  rw [hn] at cA hPA hcap ⊢
  clear hcell
  by_cases k3 : k = 3
  · subst k3
    rw [if_pos rfl] at hW
    by_cases he : s = []
    · rw [if_pos (Or.inl he)] at hW
      have HF := Lib.hid hW
      subst he
      clear hW hsplit cA hPA hne
      go_enter Tryz.func35, Tryz.ntmps35
      go_wp2
      go_ret2
      rw [HF.out]
      exact ⟨rfl, hba⟩
    · have hem : s.isEmpty = false := by rw [List.isEmpty_eq_false_iff]; exact he
      by_cases h0 : n = 0
      · by_cases hm3 : m = 3
        · rw [if_pos (Or.inr (Or.inr (HB.out.trans (decide_eq_true hm3))))] at hW
          have HF := Lib.hid hW
          subst h0 hm3
          clear hW hsplit cA hPA hne he
          go_enter Tryz.func35, Tryz.ntmps35
          go_wp2
          go_ret2
          rw [HF.out]
          exact ⟨rfl, hba⟩
        · rw [if_neg (by rintro (h | h | h); exact he h; exact h (hne.2 h0); exact hm3 (of_decide_eq_true (HB.out.symm.trans h)))] at hW
          have cT := fun wx => esc3_any false s ⟨s.toArray⟩ rfl wx (by omega)
          have im3 : (m == 3) = false := beq_eq_false_iff_ne.2 hm3
          cases hck : (checkL s).2 with
          | true =>
            rw [hck, if_pos rfl] at hW
            have hr : esc3Res false s = .tuple #[.string ⟨(escL escT s).toArray⟩, .bool true] := by unfold esc3Res; rw [hck]; rfl
            rw [hr] at cT
            have HF := Lib.hid hW
            have CT := Lib.hid cT
            subst h0
            clear hW hsplit cA hPA hne he cT hck hr hm3
            go_enter Tryz.func35, Tryz.ntmps35
            go_wp2_with fail
            refine (CT.out _).mono ?_
            rintro e w2 ⟨rfl, hb2⟩
            go_wp2
            go_ret2
            rw [HF.out]
            exact ⟨rfl, hba.trans (hb2.mono hba.size)⟩
          | false =>
            rw [hck, if_neg (by decide)] at hW
            have hr : esc3Res false s = .tuple #[.string ⟨#[]⟩, .bool false] := by unfold esc3Res; rw [hck]; rfl
            rw [hr] at cT
            have HF := Lib.hid hW
            have CT := Lib.hid cT
            subst h0
            clear hW hsplit cA hPA hne he cT hck hr hm3
            go_enter Tryz.func35, Tryz.ntmps35
            go_wp2_with fail
            refine (CT.out _).mono ?_
            rintro e w2 ⟨rfl, hb2⟩
            go_wp2
            go_ret2
            rw [HF.out]
            exact ⟨rfl, hba.trans (hb2.mono hba.size)⟩
      · rw [if_pos (Or.inr (Or.inl (fun h => h0 (hne.1 h))))] at hW
        have HF := Lib.hid hW
        have ip : (0 : Int) < (n : Int) := by omega
        clear hW hsplit cA hPA hne he
        go_enter Tryz.func35, Tryz.ntmps35
        go_wp2
        go_ret2
        rw [HF.out]
        exact ⟨rfl, hba⟩
  · rw [if_neg k3] at hW
    by_cases k0 : k = 0
    · subst k0
      rw [if_neg (fun h => h (Or.inl rfl))] at hW
      cases hsp : splitB s with
      | false =>
        have cS := fun wx => hsplit wx
        rw [splitV_bad hsp] at cS
        rw [hsp, if_pos rfl] at hW
        have HF := Lib.hid hW
        have CS := Lib.hid cS
        clear hW cS hsplit hsp cA hPA hne
        go_enter Tryz.func35, Tryz.ntmps35
        go_wp2_with fail
        refine (CS.out _).mono ?_
        rintro e w2 ⟨rfl, hb2⟩
        go_wp2
        go_ret2
        rw [HF.out]
        exact ⟨rfl, hba.trans (hb2.mono hba.size)⟩
      | true =>
        have cS := fun wx => hsplit wx
        rw [splitV_ok (a := (splitR s).1) (b := (splitR s).2) hsp rfl] at cS
        rw [hsp, if_neg (by decide)] at hW
        have CS := Lib.hid cS
        clear cS hsplit hsp
        rw [if_neg (by decide)] at hW
        go_enter Tryz.func35, Tryz.ntmps35
        go_wp2_with fail
        refine (CS.out _).mono ?_
        rintro e w2 ⟨rfl, hb2⟩
        have hK2 := (hb2.block _ (Array.getElem?_eq_some_iff.1 hK).1).trans hK
        have b0 := blk4_c0 hK2
        have b3 := blk4_c3 hK2
        have hbw2 := hba.trans (hb2.mono hba.size)
        have cA' := cA w2 (hPA w2 hbw2) hn3 hps
        have hs2 := hbw2.size
        have hal := attrs_len attrs hlen hps
        generalize attrsL attrs = r at *
        obtain ⟨a, ea⟩ := r
        simp only [] at hW cA' hal
        have CA := Lib.hid cA'
        clear cA cA' hPA hb2 CS
        go_wp2_with fail
        refine (CA.out).mono ?_
        rintro e w3 ⟨rfl, hb3⟩
        have hK3 := (hb3.block _ (Array.getElem?_eq_some_iff.1 hK2).1).trans hK2
        have b0' := blk4_c0 hK3
        have b2' := blk4_c2 hK3
        by_cases he : ea = 0
        · subst he
          rw [if_neg (fun h => h rfl)] at hW
          have hW' : tokW ⟨0, at_, s, attrs⟩ b = ([60] ++ s ++ a ++ [62], 0) := hW
          have HF := Lib.hid hW'
          have happ : Hid ((((⟨#[60]⟩ : ByteArray) ++ ⟨s.toArray⟩) ++ ⟨a.toArray⟩) ++ ⟨#[62]⟩ = ⟨([60] ++ s ++ a ++ [62]).toArray⟩) := Lib.hid (by apply ByteArray.ext; simp)
          have za := ba_size a
          clear hW hW' hne
          go_wp2
          go_ret2
          rw [HF.out]
          exact ⟨by rw [← happ.out]; rfl, hbw2.trans (hb3.mono hs2)⟩
        · rw [if_pos he] at hW
          have HF := Lib.hid hW
          have ie : ((ea : Int) != 0) = true := by rw [bne_iff_ne]; omega
          have ie' : ((ea : Int) == 0) = false := by rw [beq_eq_false_iff_ne]; omega
          clear hW hne he
          go_wp2
          go_ret2
          rw [HF.out]
          exact ⟨rfl, hbw2.trans (hb3.mono hs2)⟩
    · by_cases k1 : k = 1
      · subst k1
        rw [if_neg (fun h => h (Or.inr (Or.inl rfl)))] at hW
        cases hsp : splitB s with
        | false =>
          have cS := fun wx => hsplit wx
          rw [splitV_bad hsp] at cS
          rw [hsp, if_pos rfl] at hW
          have HF := Lib.hid hW
          have CS := Lib.hid cS
          clear hW cS hsplit hsp cA hPA hne
          go_enter Tryz.func35, Tryz.ntmps35
          go_wp2_with fail
          refine (CS.out _).mono ?_
          rintro e w2 ⟨rfl, hb2⟩
          go_wp2
          go_ret2
          rw [HF.out]
          exact ⟨rfl, hba.trans (hb2.mono hba.size)⟩
        | true =>
          have cS := fun wx => hsplit wx
          rw [splitV_ok (a := (splitR s).1) (b := (splitR s).2) hsp rfl] at cS
          rw [hsp, if_neg (by decide)] at hW
          have CS := Lib.hid cS
          clear cS hsplit hsp
          rw [if_pos rfl] at hW
          by_cases h0 : n = 0
          · rw [if_neg (fun h => h (hne.2 h0))] at hW
            have HF := Lib.hid hW
            have happ : Hid (((⟨#[60, 47]⟩ : ByteArray) ++ ⟨s.toArray⟩) ++ ⟨#[62]⟩ = ⟨([60, 47] ++ s ++ [62]).toArray⟩) := Lib.hid (by apply ByteArray.ext; simp)
            clear hW cA hPA hne
            subst h0
            go_enter Tryz.func35, Tryz.ntmps35
            go_wp2_with fail
            refine (CS.out _).mono ?_
            rintro e w2 ⟨rfl, hb2⟩
            have hK2 := (hb2.block _ (Array.getElem?_eq_some_iff.1 hK).1).trans hK
            have b0 := blk4_c0 hK2
            have b2 := blk4_c2 hK2
            have b3 := blk4_c3 hK2
            go_wp2
            go_ret2
            rw [HF.out]
            exact ⟨by rw [← happ.out]; rfl, hba.trans (hb2.mono hba.size)⟩
          · rw [if_pos (fun h => h0 (hne.1 h))] at hW
            have HF := Lib.hid hW
            have ip : (0 : Int) < (n : Int) := by omega
            clear hW cA hPA hne
            go_enter Tryz.func35, Tryz.ntmps35
            go_wp2_with fail
            refine (CS.out _).mono ?_
            rintro e w2 ⟨rfl, hb2⟩
            have hK2 := (hb2.block _ (Array.getElem?_eq_some_iff.1 hK).1).trans hK
            have b0 := blk4_c0 hK2
            have b3 := blk4_c3 hK2
            go_wp2
            go_ret2
            rw [HF.out]
            exact ⟨rfl, hba.trans (hb2.mono hba.size)⟩
      · by_cases k2 : k = 2
        · subst k2
          rw [if_neg (fun h => h (Or.inr (Or.inr rfl)))] at hW
          cases hsp : splitB s with
          | false =>
            have cS := fun wx => hsplit wx
            rw [splitV_bad hsp] at cS
            rw [hsp, if_pos rfl] at hW
            have HF := Lib.hid hW
            have CS := Lib.hid cS
            clear hW cS hsplit hsp cA hPA hne
            go_enter Tryz.func35, Tryz.ntmps35
            go_wp2_with fail
            refine (CS.out _).mono ?_
            rintro e w2 ⟨rfl, hb2⟩
            go_wp2
            go_ret2
            rw [HF.out]
            exact ⟨rfl, hba.trans (hb2.mono hba.size)⟩
          | true =>
            have cS := fun wx => hsplit wx
            rw [splitV_ok (a := (splitR s).1) (b := (splitR s).2) hsp rfl] at cS
            rw [hsp, if_neg (by decide)] at hW
            have CS := Lib.hid cS
            clear cS hsplit hsp
            rw [if_neg (by decide)] at hW
            go_enter Tryz.func35, Tryz.ntmps35
            go_wp2_with fail
            refine (CS.out _).mono ?_
            rintro e w2 ⟨rfl, hb2⟩
            have hK2 := (hb2.block _ (Array.getElem?_eq_some_iff.1 hK).1).trans hK
            have b0 := blk4_c0 hK2
            have b3 := blk4_c3 hK2
            have hbw2 := hba.trans (hb2.mono hba.size)
            have cA' := cA w2 (hPA w2 hbw2) hn3 hps
            have hs2 := hbw2.size
            have hal := attrs_len attrs hlen hps
            generalize attrsL attrs = r at *
            obtain ⟨a, ea⟩ := r
            simp only [] at hW cA' hal
            have CA := Lib.hid cA'
            clear cA cA' hPA hb2 CS
            go_wp2_with fail
            refine (CA.out).mono ?_
            rintro e w3 ⟨rfl, hb3⟩
            have hK3 := (hb3.block _ (Array.getElem?_eq_some_iff.1 hK2).1).trans hK2
            have b0' := blk4_c0 hK3
            have b2' := blk4_c2 hK3
            by_cases he : ea = 0
            · subst he
              rw [if_neg (fun h => h rfl)] at hW
              have hW' : tokW ⟨2, at_, s, attrs⟩ b = ([60] ++ s ++ a ++ [47, 62], 0) := hW
              have HF := Lib.hid hW'
              have happ : Hid ((((⟨#[60]⟩ : ByteArray) ++ ⟨s.toArray⟩) ++ ⟨a.toArray⟩) ++ ⟨#[47, 62]⟩ = ⟨([60] ++ s ++ a ++ [47, 62]).toArray⟩) := Lib.hid (by apply ByteArray.ext; simp)
              have za := ba_size a
              clear hW hW' hne
              go_wp2
              go_ret2
              rw [HF.out]
              exact ⟨by rw [← happ.out]; rfl, hbw2.trans (hb3.mono hs2)⟩
            · rw [if_pos he] at hW
              have HF := Lib.hid hW
              have ie : ((ea : Int) != 0) = true := by rw [bne_iff_ne]; omega
              have ie' : ((ea : Int) == 0) = false := by rw [beq_eq_false_iff_ne]; omega
              clear hW hne he
              go_wp2
              go_ret2
              rw [HF.out]
              exact ⟨rfl, hbw2.trans (hb3.mono hs2)⟩
        · rw [if_pos (by rintro (h | h | h); exact k0 h; exact k1 h; exact k2 h)] at hW
          have HF := Lib.hid hW
          clear hW hsplit cA hPA hne
          by_cases hneg : k < 0
          · go_enter Tryz.func35, Tryz.ntmps35
            go_wp2
            go_ret2
            rw [HF.out]
            exact ⟨rfl, hba⟩
          · have hbig : 3 < k := by omega
            have hneg' : ¬ k < 0 := hneg
            go_enter Tryz.func35, Tryz.ntmps35
            go_wp2
            go_ret2
            rw [HF.out]
            exact ⟨rfl, hba⟩

end Go.Proofs.YtblhpkcdemefaaaGreatDoor

namespace Go.Proofs.YtblhpkcdemefaaaGreatDoor
open Go.RowKit

/-- A slice of bytes that holds these. -/
def BytesOf (w : World) (v : Value) (l : List UInt8) : Prop := ∃ p cap, v = .slice p l.length cap ∧ ((p = none ∧ l = [] ∧ cap = 0) ∨ ∃ g off, p = some ⟨g, off, none⟩ ∧ l.length ≤ cap ∧ bytesAt w g off l)
theorem BytesOf.below {w w' : World} {v : Value} {l : List UInt8} (h : BytesOf w v l) (hb : Below w.heap.size w w') : BytesOf w' v l := by
  obtain ⟨p, cap, hv, h⟩ := h
  refine ⟨p, cap, hv, h.imp id ?_⟩
  rintro ⟨g, off, hp, hc, hm⟩
  exact ⟨g, off, hp, hc, bytesAt_kept hm hb⟩
theorem conv_of {w : World} {v : Value} {l : List UInt8} (h : BytesOf w v l) : (convert 22 9 v).run Tryz.prog w = .ok (.string ⟨l.toArray⟩) w := by
  obtain ⟨p, cap, rfl, ⟨rfl, rfl, rfl⟩ | ⟨g, off, rfl, _, hm⟩⟩ := h
  · exact conv_nil w
  · exact conv_str l g off cap l.length rfl w hm
theorem conv_bytes (l : List UInt8) (w : World) : ∃ W1 v, (convert 9 22 (.string ⟨l.toArray⟩)).run Tryz.prog w = .ok v W1 ∧ Below w.heap.size w W1 ∧ BytesOf W1 v l := by
  have hcv := Lib.run_convert_string_bytes (P := Tryz.prog) w 9 22 5 ⟨l.toArray⟩ (u := .string) Tryz.underlying9 Tryz.underlying22 Tryz.underlying5
  rw [ba_size] at hcv
  refine ⟨_, _, hcv, bytesWorld_below w 5 _, _, _, rfl, Or.inr ⟨w.heap.size, 0, rfl, grownCap_ge w l.length 0 5, fun j hj => ?_⟩⟩
  rw [Nat.zero_add]; exact Lib.bytesWorld_cell w 5 ⟨l.toArray⟩ j (by rw [ba_size]; exact hj)
theorem bytesOf_nil (w : World) : BytesOf w (.slice none 0 0) [] := ⟨none, 0, rfl, Or.inl ⟨rfl, rfl, rfl⟩⟩
theorem bytesOf_own {w : World} {base : Nat} {v : Value} {l : List UInt8} (h : w.ownsRow base 5 1 v l.length (Lib.byteCells l)) : BytesOf w v l := by
  rcases h.2 with ⟨rfl, h0⟩ | ⟨g, cap, cur, rfl, _, _, hn, _⟩
  · have : l = [] := List.eq_nil_of_length_eq_zero h0
    subst this
    exact bytesOf_nil w
  · exact ⟨some ⟨g, 0, none⟩, cap, rfl, Or.inr ⟨g, 0, rfl, hn, own_bytes h rfl⟩⟩

set_option maxHeartbeats 8000000 in
set_option maxRecDepth 100000 in
theorem writeR_any (l : List RT) (v : Value) (w : World) (h : ToksAt w v l) (hlen : l.length ≤ 3000) (hsz : ∀ t ∈ l, t.s.length ≤ 3000 ∧ t.attrs.length ≤ 3000 ∧ ∀ p ∈ t.attrs, p.name.length ≤ 3000 ∧ p.value.length ≤ 3000) :
    Calls Tryz.prog 16 #[v] w fun e w' => ∃ bv, e = .returned (.tuple #[bv, .int .i64 (writeL l).2.1, .int .i64 (writeL l).2.2]) ∧ BytesOf w' bv (writeL l).1 ∧ Below w.heap.size w w' := by
  obtain ⟨p, cap, rfl, hcap, hcell⟩ := h
  obtain ⟨n, hn⟩ : ∃ n, l.length = n := ⟨_, rfl⟩
  have HC := Lib.hid hcell
  have HS := Lib.hid hsz
  rw [hn] at hlen hcap ⊢
  clear hcell hsz
  go_enter Tryz.func16, Tryz.ntmps16
  go_wp2
  go_loopw [5, 6, 7] (fun v5 v6 v7 wr => ∃ (i : Nat) (acc : List UInt8) (m : Int), v5 = .string ⟨acc.toArray⟩ ∧ v6 = .int .i64 m ∧ v7 = .int .i64 i ∧ i ≤ n ∧ Below w.heap.size w wr ∧ writeL l = writeGo (l.drop i) i (prevB l i) acc ∧ acc.length ≤ i * 100000000 ∧ Hid (prevB l i = decide (m = 3))) (fun _ _ v7 _ => n - (intOf v7).toNat)
  case atStart => exact ⟨0, [], -1, rfl, rfl, rfl, Nat.zero_le _, Below.refl _ _, rfl, Nat.zero_le _, Lib.hid rfl⟩
  case round =>
    obtain ⟨i, acc, m, rfl, rfl, rfl, hin, hbw, hchk, hacc, HM⟩ := hrel
    have hs := hbw.size
    by_cases hi : i < n
    · have hia : i < l.length := by omega
      obtain ⟨g, off, av, hp, a0, a1, a2, a3, a4⟩ := HC.out i hia
      have hts := HS.out _ (List.getElem_mem hia)
      have hpv := prev_succ hia rfl
      have hst := write_step (b := prevB l i) (acc := acc) hia
      obtain ⟨t, hti⟩ : ∃ t, l[i] = t := ⟨_, rfl⟩
      rw [hti] at a0 a1 a2 a4 hts hpv hst
      subst hp
      have a4' := a4
      obtain ⟨pp, pc, hav, _⟩ := a4'
      subst hav
      obtain ⟨na, hna⟩ : ∃ na, t.attrs.length = na := ⟨_, rfl⟩
      rw [hna] at a3 a4
      have a0' := cellB hbw a0
      have a1' := cellB hbw a1
      have a2' := cellB hbw a2
      have a3' := cellB hbw a3
      have cT := tokenR_any t m (prevB l i) HM.out (.slice pp na pc) _ (a4.below hbw) hts.1 hts.2.1 hts.2.2
      have htl := tokW_len t (prevB l i) hts.1 hts.2.1 hts.2.2
      have HPV := Lib.hid hpv
      generalize tokW t (prevB l i) = r at *
      obtain ⟨bs, e⟩ := r
      simp only [] at cT hst htl
      have CT := Lib.hid cT
      have hbs := ba_size bs
      have hac := ba_size acc
      have hM : acc.length + bs.length ≤ 400000000000 := sum_le hacc htl (Nat.le_trans hin hlen)
      clear cT hna hti hpv
      go_wp2_with fail
      refine (CT.out).mono ?_
      rintro e' w3 ⟨rfl, hb3⟩
      have a0'' := cellB hb3 a0'
      have hb13 := hbw.trans (hb3.mono hs)
      clear hb3 CT
      by_cases he : e = 0
      · subst he
        rw [if_pos rfl] at hst
        have HCH := Lib.hid (hchk.trans hst)
        have happ : Hid ((⟨acc.toArray⟩ : ByteArray) ++ ⟨bs.toArray⟩ = ⟨(acc ++ bs).toArray⟩) := Lib.hid (ba_app2 acc bs)
        clear hchk hst
        go_wp2
        go_roundw
        case rel => exact ⟨i + 1, acc ++ bs, t.kind, congrArg Value.string happ.out, rfl, by go_num, by omega, hb13, (by rw [HCH.out, HPV.out]), (by rw [List.length_append]; exact step_le hacc htl), HPV⟩
        case measure => simp [intOf]; omega
      · rw [if_neg he] at hst
        have HF : Hid (writeL l = ([], i, e)) := Lib.hid (hchk.trans hst)
        have ie : ((e : Int) != 0) = true := by rw [bne_iff_ne]; omega
        have ie' : ((e : Int) == 0) = false := by rw [beq_eq_false_iff_ne]; omega
        clear hchk hst he
        go_wp2
        go_ret3
        rw [HF.out]
        exact ⟨.slice none 0 0, rfl, bytesOf_nil _, hb13⟩
    · have HF : Hid (writeL l = (acc, 0, 0)) := Lib.hid (by rw [hchk, List.drop_eq_nil_of_le (by omega)]; rfl)
      clear hchk
      obtain ⟨W1, bv, hcv, hB, hBO⟩ := conv_bytes acc wr
      have HBO := Lib.hid hBO
      have HB := Lib.hid (hbw.trans (hB.mono hs))
      clear hBO hB
      go_wp2
      go_ret3
      rw [HF.out]
      exact ⟨_, rfl, HBO.out, HB.out⟩

end Go.Proofs.YtblhpkcdemefaaaGreatDoor
