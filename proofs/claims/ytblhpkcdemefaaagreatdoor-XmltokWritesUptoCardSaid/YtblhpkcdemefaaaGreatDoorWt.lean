/- Walks: xmltok.token: a token's bytes, or what is wrong with it. -/
import Derived.Test.YtblhpkcdemefaaaGreatDoorWa
set_option linter.unusedVariables false
set_option linter.unusedSimpArgs false
namespace Go.Proofs.YtblhpkcdemefaaaGreatDoor
open Go.RowKit

/-- A token's bytes, behind a text or not; or what is wrong. -/
def tokW (t : RT) (b : Bool) : List UInt8 × Nat :=
  if t.kind = 3 then (if t.s = [] ∨ t.attrs ≠ [] ∨ b = true then ([], 2) else if (checkL t.s).2 = true then (escL escT t.s, 0) else ([], 4))
  else if ¬ (t.kind = 0 ∨ t.kind = 1 ∨ t.kind = 2) then ([], 2)
  else if splitB t.s = false then ([], 6)
  else if t.kind = 1 then (if t.attrs ≠ [] then ([], 2) else ([60, 47] ++ t.s ++ [62], 0))
  else if (attrsL t.attrs).2 ≠ 0 then ([], (attrsL t.attrs).2) else ([60] ++ t.s ++ (attrsL t.attrs).1 ++ (if t.kind = 2 then [47, 62] else [62]), 0)

theorem attrsGo_len : ∀ (ps seen : List RP) (acc : List UInt8), (∀ p ∈ ps, p.name.length ≤ 3000 ∧ p.value.length ≤ 3000) → (attrsGo ps seen acc).1.length ≤ acc.length + ps.length * 30000
  | [], seen, acc, _ => by simp [attrsGo]
  | p :: r, seen, acc, h => by
    unfold attrsGo
    split
    · rename_i he
      have ih := attrsGo_len r (seen ++ [p]) (acc ++ attrW p) (fun q hq => h q (List.mem_cons_of_mem _ hq))
      have hp := h p List.mem_cons_self
      have hck : (checkL p.value).2 = true := by
        cases hc : (checkL p.value).2 with
        | true => rfl
        | false =>
          exfalso
          unfold attrE at he
          rw [hc] at he
          split at he
          · exact absurd he (by decide)
          · split at he
            · exact absurd he (by decide)
            · exact absurd he (by decide)
      have he6 := (esc_le p.value hck).1
      have hw : (attrW p).length = p.name.length + (escL escV p.value).length + 4 := by unfold attrW; simp; omega
      rw [List.length_append, hw] at ih
      rw [List.length_cons, Nat.add_mul]
      omega
    · simp
theorem attrs_len (ps : List RP) (hl : ps.length ≤ 3000) (h : ∀ p ∈ ps, p.name.length ≤ 3000 ∧ p.value.length ≤ 3000) : (attrsL ps).1.length ≤ 90000000 := by
  have := attrsGo_len ps [] [] h
  unfold attrsL
  have : ps.length * 30000 ≤ 3000 * 30000 := Nat.mul_le_mul_right _ hl
  simp at *
  omega

set_option maxHeartbeats 8000000 in
set_option maxRecDepth 100000 in
theorem token_any (t : RT) (b : Bool) (v : Value) (w : World) (h : PairsAt w v t.attrs) (hR : Ready w) (hs : t.s.length ≤ 3000) (hlen : t.attrs.length ≤ 3000) (hps : ∀ p ∈ t.attrs, p.name.length ≤ 3000 ∧ p.value.length ≤ 3000) :
    Calls Tryz.prog 34 #[.agg #[.int .i64 t.kind, .int .i64 t.at_, .string ⟨t.s.toArray⟩, v], .bool b] w fun e w' => e = .returned (.tuple #[.string ⟨(tokW t b).1.toArray⟩, .int .i64 (tokW t b).2]) ∧ Below w.heap.size w w' := by
  obtain ⟨k, at_, s, attrs⟩ := t
  obtain ⟨p, cap, rfl, hcap, hcell⟩ := h
  obtain ⟨n, hn⟩ : ∃ n, attrs.length = n := ⟨_, rfl⟩
  have hn3 : n ≤ 3000 := by rw [← hn]; exact hlen
  have hsl : s.length ≤ 3000 := hs
  have hne : attrs = [] ↔ n = 0 := by rw [← hn]; exact List.length_eq_zero_iff.symm
  have hba := (Below.refl w.heap.size w).alloc (Nat.le_refl _) (Obj.cells #[.int .i64 k, .int .i64 at_, .string ⟨s.toArray⟩, .slice p n cap] 30)
  have hRa := hR.below hba
  have cA := attrs_any attrs (.slice p attrs.length cap)
  have hPA : ∀ wx, Below w.heap.size w wx → PairsAt wx (.slice p attrs.length cap) attrs := fun wx hw => PairsAt.below ⟨p, cap, rfl, hcap, hcell⟩ hw
  have hK := heap_alloc_new w (Obj.cells #[.int .i64 k, .int .i64 at_, .string ⟨s.toArray⟩, .slice p n cap] 30)
  have hz := ba_size s
  have hsplit := fun wx (hx : Ready wx) => split_any s ⟨s.toArray⟩ rfl wx (by omega) hx
  have hW : tokW ⟨k, at_, s, attrs⟩ b = if k = 3 then (if s = [] ∨ attrs ≠ [] ∨ b = true then ([], 2) else if (checkL s).2 = true then (escL escT s, 0) else ([], 4)) else if ¬ (k = 0 ∨ k = 1 ∨ k = 2) then ([], 2) else if splitB s = false then ([], 6) else if k = 1 then (if attrs ≠ [] then ([], 2) else ([60, 47] ++ s ++ [62], 0)) else if (attrsL attrs).2 ≠ 0 then ([], (attrsL attrs).2) else ([60] ++ s ++ (attrsL attrs).1 ++ (if k = 2 then [47, 62] else [62]), 0) := rfl
  rw [hn] at cA hPA hcap ⊢
  clear hcell
  by_cases k3 : k = 3
  · subst k3
    rw [if_pos rfl] at hW
    by_cases he : s = []
    · rw [if_pos (Or.inl he)] at hW
      have HF := Lib.hid hW
      subst he
      clear hW hsplit cA hPA hne
      go_enter Tryz.func34, Tryz.ntmps34
      go_wp2
      go_ret2
      rw [HF.out]
      exact ⟨rfl, hba⟩
    · have hem : s.isEmpty = false := by rw [List.isEmpty_eq_false_iff]; exact he
      by_cases h0 : n = 0
      · cases hb : b with
        | true =>
          rw [hb] at hW
          rw [if_pos (Or.inr (Or.inr rfl))] at hW
          have HF := Lib.hid hW
          subst h0 hb
          clear hW hsplit cA hPA hne he
          go_enter Tryz.func34, Tryz.ntmps34
          go_wp2
          go_ret2
          rw [HF.out]
          exact ⟨rfl, hba⟩
        | false =>
          rw [hb] at hW
          rw [if_neg (by rintro (h | h | h); exact he h; exact h (hne.2 h0); cases h)] at hW
          have cT := escText_any s ⟨s.toArray⟩ rfl _ (by omega) hRa
          cases hck : (checkL s).2 with
          | true =>
            rw [hck, if_pos rfl] at hW
            have hr : escRes escT s = .tuple #[.string ⟨(escL escT s).toArray⟩, .int .i64 0] := by unfold escRes; rw [hck]; rfl
            rw [hr] at cT
            have HF := Lib.hid hW
            have CT := Lib.hid cT
            subst h0 hb
            clear hW hsplit cA hPA hne he cT hck hr
            go_enter Tryz.func34, Tryz.ntmps34
            go_wp2_with fail
            refine (CT.out).mono ?_
            rintro e w2 ⟨rfl, hb2⟩
            go_wp2
            go_ret2
            rw [HF.out]
            exact ⟨rfl, hba.trans (hb2.mono hba.size)⟩
          | false =>
            rw [hck, if_neg (by decide)] at hW
            have hr : escRes escT s = .tuple #[.string ⟨#[]⟩, .int .i64 4] := by unfold escRes; rw [hck]; rfl
            rw [hr] at cT
            have HF := Lib.hid hW
            have CT := Lib.hid cT
            subst h0 hb
            clear hW hsplit cA hPA hne he cT hck hr
            go_enter Tryz.func34, Tryz.ntmps34
            go_wp2_with fail
            refine (CT.out).mono ?_
            rintro e w2 ⟨rfl, hb2⟩
            go_wp2
            go_ret2
            rw [HF.out]
            exact ⟨rfl, hba.trans (hb2.mono hba.size)⟩
      · rw [if_pos (Or.inr (Or.inl (fun h => h0 (hne.1 h))))] at hW
        have HF := Lib.hid hW
        have ip : (0 : Int) < (n : Int) := by omega
        clear hW hsplit cA hPA hne he
        go_enter Tryz.func34, Tryz.ntmps34
        go_wp2
        go_ret2
        rw [HF.out]
        exact ⟨rfl, hba⟩
  · rw [if_neg k3] at hW
    by_cases k0 : k = 0
    · subst k0
      rw [if_neg (fun h => h (Or.inl rfl))] at hW
      cases hsp : splitB s with
      | false =>
        have cS := hsplit _ hRa
        rw [splitRes_bad hsp] at cS
        rw [hsp, if_pos rfl] at hW
        have HF := Lib.hid hW
        have CS := Lib.hid cS
        clear hW cS hsplit hsp cA hPA hne
        go_enter Tryz.func34, Tryz.ntmps34
        go_wp2_with fail
        refine (CS.out).mono ?_
        rintro e w2 ⟨rfl, hb2⟩
        go_wp2
        go_ret2
        rw [HF.out]
        exact ⟨rfl, hba.trans (hb2.mono hba.size)⟩
      | true =>
        have cS := hsplit _ hRa
        rw [splitRes_ok (a := (splitR s).1) (b := (splitR s).2) hsp rfl] at cS
        rw [hsp, if_neg (by decide)] at hW
        have CS := Lib.hid cS
        clear cS hsplit hsp
        rw [if_neg (by decide)] at hW
        go_enter Tryz.func34, Tryz.ntmps34
        go_wp2_with fail
        refine (CS.out).mono ?_
        rintro e w2 ⟨rfl, hb2⟩
        have hK2 := (hb2.block _ (Array.getElem?_eq_some_iff.1 hK).1).trans hK
        have b0 := blk4_c0 hK2
        have b3 := blk4_c3 hK2
        have hbw2 := hba.trans (hb2.mono hba.size)
        have cA' := cA w2 (hPA w2 hbw2) (hRa.below hb2) hn3 hps
        have hs2 := hbw2.size
        have hal := attrs_len attrs hlen hps
        generalize attrsL attrs = r at *
        obtain ⟨a, ea⟩ := r
        simp only [] at hW cA' hal
        have CA := Lib.hid cA'
        clear cA cA' hPA hb2 CS
        go_wp2_with fail
        refine (CA.out).mono ?_
        rintro e w3 ⟨rfl, hb3⟩
        have hK3 := (hb3.block _ (Array.getElem?_eq_some_iff.1 hK2).1).trans hK2
        have b0' := blk4_c0 hK3
        have b2' := blk4_c2 hK3
        by_cases he : ea = 0
        · subst he
          rw [if_neg (fun h => h rfl)] at hW
          have hW' : tokW ⟨0, at_, s, attrs⟩ b = ([60] ++ s ++ a ++ [62], 0) := hW
          have HF := Lib.hid hW'
          have happ : Hid ((((⟨#[60]⟩ : ByteArray) ++ ⟨s.toArray⟩) ++ ⟨a.toArray⟩) ++ ⟨#[62]⟩ = ⟨([60] ++ s ++ a ++ [62]).toArray⟩) := Lib.hid (by apply ByteArray.ext; simp)
          have za := ba_size a
          clear hW hW' hne
          go_wp2
          go_ret2
          rw [HF.out]
          exact ⟨by rw [← happ.out]; rfl, hbw2.trans (hb3.mono hs2)⟩
        · rw [if_pos he] at hW
          have HF := Lib.hid hW
          have ie : ((ea : Int) != 0) = true := by rw [bne_iff_ne]; omega
          have ie' : ((ea : Int) == 0) = false := by rw [beq_eq_false_iff_ne]; omega
          clear hW hne he
          go_wp2
          go_ret2
          rw [HF.out]
          exact ⟨rfl, hbw2.trans (hb3.mono hs2)⟩
    · by_cases k1 : k = 1
      · subst k1
        rw [if_neg (fun h => h (Or.inr (Or.inl rfl)))] at hW
        cases hsp : splitB s with
        | false =>
          have cS := hsplit _ hRa
          rw [splitRes_bad hsp] at cS
          rw [hsp, if_pos rfl] at hW
          have HF := Lib.hid hW
          have CS := Lib.hid cS
          clear hW cS hsplit hsp cA hPA hne
          go_enter Tryz.func34, Tryz.ntmps34
          go_wp2_with fail
          refine (CS.out).mono ?_
          rintro e w2 ⟨rfl, hb2⟩
          go_wp2
          go_ret2
          rw [HF.out]
          exact ⟨rfl, hba.trans (hb2.mono hba.size)⟩
        | true =>
          have cS := hsplit _ hRa
          rw [splitRes_ok (a := (splitR s).1) (b := (splitR s).2) hsp rfl] at cS
          rw [hsp, if_neg (by decide)] at hW
          have CS := Lib.hid cS
          clear cS hsplit hsp
          rw [if_pos rfl] at hW
          by_cases h0 : n = 0
          · rw [if_neg (fun h => h (hne.2 h0))] at hW
            have HF := Lib.hid hW
            have happ : Hid (((⟨#[60, 47]⟩ : ByteArray) ++ ⟨s.toArray⟩) ++ ⟨#[62]⟩ = ⟨([60, 47] ++ s ++ [62]).toArray⟩) := Lib.hid (by apply ByteArray.ext; simp)
            clear hW cA hPA hne
            subst h0
            go_enter Tryz.func34, Tryz.ntmps34
            go_wp2_with fail
            refine (CS.out).mono ?_
            rintro e w2 ⟨rfl, hb2⟩
            have hK2 := (hb2.block _ (Array.getElem?_eq_some_iff.1 hK).1).trans hK
            have b0 := blk4_c0 hK2
            have b2 := blk4_c2 hK2
            have b3 := blk4_c3 hK2
            go_wp2
            go_ret2
            rw [HF.out]
            exact ⟨by rw [← happ.out]; rfl, hba.trans (hb2.mono hba.size)⟩
          · rw [if_pos (fun h => h0 (hne.1 h))] at hW
            have HF := Lib.hid hW
            have ip : (0 : Int) < (n : Int) := by omega
            clear hW cA hPA hne
            go_enter Tryz.func34, Tryz.ntmps34
            go_wp2_with fail
            refine (CS.out).mono ?_
            rintro e w2 ⟨rfl, hb2⟩
            have hK2 := (hb2.block _ (Array.getElem?_eq_some_iff.1 hK).1).trans hK
            have b0 := blk4_c0 hK2
            have b3 := blk4_c3 hK2
            go_wp2
            go_ret2
            rw [HF.out]
            exact ⟨rfl, hba.trans (hb2.mono hba.size)⟩
      · by_cases k2 : k = 2
        · subst k2
          rw [if_neg (fun h => h (Or.inr (Or.inr rfl)))] at hW
          cases hsp : splitB s with
          | false =>
            have cS := hsplit _ hRa
            rw [splitRes_bad hsp] at cS
            rw [hsp, if_pos rfl] at hW
            have HF := Lib.hid hW
            have CS := Lib.hid cS
            clear hW cS hsplit hsp cA hPA hne
            go_enter Tryz.func34, Tryz.ntmps34
            go_wp2_with fail
            refine (CS.out).mono ?_
            rintro e w2 ⟨rfl, hb2⟩
            go_wp2
            go_ret2
            rw [HF.out]
            exact ⟨rfl, hba.trans (hb2.mono hba.size)⟩
          | true =>
            have cS := hsplit _ hRa
            rw [splitRes_ok (a := (splitR s).1) (b := (splitR s).2) hsp rfl] at cS
            rw [hsp, if_neg (by decide)] at hW
            have CS := Lib.hid cS
            clear cS hsplit hsp
            rw [if_neg (by decide)] at hW
            go_enter Tryz.func34, Tryz.ntmps34
            go_wp2_with fail
            refine (CS.out).mono ?_
            rintro e w2 ⟨rfl, hb2⟩
            have hK2 := (hb2.block _ (Array.getElem?_eq_some_iff.1 hK).1).trans hK
            have b0 := blk4_c0 hK2
            have b3 := blk4_c3 hK2
            have hbw2 := hba.trans (hb2.mono hba.size)
            have cA' := cA w2 (hPA w2 hbw2) (hRa.below hb2) hn3 hps
            have hs2 := hbw2.size
            have hal := attrs_len attrs hlen hps
            generalize attrsL attrs = r at *
            obtain ⟨a, ea⟩ := r
            simp only [] at hW cA' hal
            have CA := Lib.hid cA'
            clear cA cA' hPA hb2 CS
            go_wp2_with fail
            refine (CA.out).mono ?_
            rintro e w3 ⟨rfl, hb3⟩
            have hK3 := (hb3.block _ (Array.getElem?_eq_some_iff.1 hK2).1).trans hK2
            have b0' := blk4_c0 hK3
            have b2' := blk4_c2 hK3
            by_cases he : ea = 0
            · subst he
              rw [if_neg (fun h => h rfl)] at hW
              have hW' : tokW ⟨2, at_, s, attrs⟩ b = ([60] ++ s ++ a ++ [47, 62], 0) := hW
              have HF := Lib.hid hW'
              have happ : Hid ((((⟨#[60]⟩ : ByteArray) ++ ⟨s.toArray⟩) ++ ⟨a.toArray⟩) ++ ⟨#[47, 62]⟩ = ⟨([60] ++ s ++ a ++ [47, 62]).toArray⟩) := Lib.hid (by apply ByteArray.ext; simp)
              have za := ba_size a
              clear hW hW' hne
              go_wp2
              go_ret2
              rw [HF.out]
              exact ⟨by rw [← happ.out]; rfl, hbw2.trans (hb3.mono hs2)⟩
            · rw [if_pos he] at hW
              have HF := Lib.hid hW
              have ie : ((ea : Int) != 0) = true := by rw [bne_iff_ne]; omega
              have ie' : ((ea : Int) == 0) = false := by rw [beq_eq_false_iff_ne]; omega
              clear hW hne he
              go_wp2
              go_ret2
              rw [HF.out]
              exact ⟨rfl, hbw2.trans (hb3.mono hs2)⟩
        · rw [if_pos (by rintro (h | h | h); exact k0 h; exact k1 h; exact k2 h)] at hW
          have HF := Lib.hid hW
          have i0 : (k == 0) = false := beq_eq_false_iff_ne.2 k0
          have i1 : (k == 1) = false := beq_eq_false_iff_ne.2 k1
          have i2 : (k == 2) = false := beq_eq_false_iff_ne.2 k2
          have i3 : (k == 3) = false := beq_eq_false_iff_ne.2 k3
          clear hW hsplit cA hPA hne
          go_enter Tryz.func34, Tryz.ntmps34
          go_wp2
          go_ret2
          rw [HF.out]
          exact ⟨rfl, hba⟩

end Go.Proofs.YtblhpkcdemefaaaGreatDoor
