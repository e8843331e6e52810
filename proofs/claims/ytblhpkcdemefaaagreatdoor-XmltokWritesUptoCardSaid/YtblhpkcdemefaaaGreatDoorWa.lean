/- Walks: xmltok.attrs: attributes' bytes, or what is wrong. -/
import Derived.Test.YtblhpkcdemefaaaGreatDoorAl
import Derived.Test.YtblhpkcdemefaaaGreatDoorEsc
set_option linter.unusedVariables false
set_option linter.unusedSimpArgs false
namespace Go.Proofs.YtblhpkcdemefaaaGreatDoor
open Go.RowKit

instance : Inhabited RP := ⟨⟨0, [], []⟩⟩
def rpCells (p : RP) : List Value := [.int .i64 p.at_, .string ⟨p.name.toArray⟩, .string ⟨p.value.toArray⟩]

/-- An attribute's bytes. -/
def attrW (p : RP) : List UInt8 := [32] ++ p.name ++ [61, 34] ++ escL escV p.value ++ [34]
/-- What is wrong with an attribute behind others. -/
def attrE (seen : List RP) (p : RP) : Nat := if splitB p.name = false then 6 else if seen.any (fun q => q.name == p.name) = true then 8 else if (checkL p.value).2 = false then 4 else 0
def attrsGo : List RP → List RP → List UInt8 → List UInt8 × Nat
  | [], _, acc => (acc, 0)
  | p :: r, seen, acc => if attrE seen p = 0 then attrsGo r (seen ++ [p]) (acc ++ attrW p) else ([], attrE seen p)
def attrsL (ps : List RP) : List UInt8 × Nat := attrsGo ps [] []

theorem closure_attrs (w : World) (a : Nat) (nm : List UInt8) (ha : a < w.heap.size) (hc : w.cell? ⟨a, 1, none⟩ = some (.string ⟨nm.toArray⟩)) :
    PredBelow Tryz.prog 118 #[.pointer (some ⟨a, 0, none⟩)] (fun x : RP => .agg (rpCells x).toArray) (fun q => q.name == nm) w := fun W x hb => by
  have hc' : W.cell? ⟨a, 1, none⟩ = some (.string ⟨nm.toArray⟩) := (hb.cell (p := ⟨a, 1, none⟩) ha).trans hc
  have hsz := hb.size
  obtain ⟨i, n, v⟩ := x
  have hBW : a < W.heap.size := Nat.lt_of_lt_of_le ha hsz
  have hne : a ≠ W.heap.size := by omega
  show Calls Tryz.prog 118 #[.agg #[.int .i64 i, .string ⟨n.toArray⟩, .string ⟨v.toArray⟩], .pointer (some ⟨a, 0, none⟩)] W _
  clear hc
  go_enter Tryz.func118, Tryz.ntmps118
  go_wp2
  go_ret
  exact ⟨rfl, hb.alloc hb.size _⟩
theorem eg_attrs : ∀ args w, (callFunc 118 args).run Tryz.prog w = .ok (.enter 118 args) w := enters_of Tryz.func118 (by kernel_rfl) rfl

theorem esc_le (l : List UInt8) (h : (checkL l).2 = true) : (escL escV l).length ≤ 6 * l.length ∧ (escL escT l).length ≤ 6 * l.length := by
  obtain ⟨cs, hf, rfl⟩ := checkL_ok h
  exact ⟨escL_len escV (by decide) cs hf, escL_len escT (by decide) cs hf⟩

theorem ba_app2 (a b : List UInt8) : (⟨a.toArray⟩ : ByteArray) ++ ⟨b.toArray⟩ = ⟨(a ++ b).toArray⟩ := by
  apply ByteArray.ext
  simp

theorem attrs_step {ps seen : List RP} {acc : List UInt8} {p : RP} {i : Nat} (hi : i < ps.length) (hp : ps[i] = p) : attrsGo (ps.drop i) seen acc = if attrE seen p = 0 then attrsGo (ps.drop (i + 1)) (seen ++ [p]) (acc ++ attrW p) else ([], attrE seen p) := by
  rw [List.drop_eq_getElem_cons hi, hp]; rfl

set_option maxHeartbeats 8000000 in
set_option maxRecDepth 100000 in
theorem attrs_any (ps : List RP) (v : Value) (w : World) (h : PairsAt w v ps) (hR : Ready w) (hlen : ps.length ≤ 3000) (hsz : ∀ p ∈ ps, p.name.length ≤ 3000 ∧ p.value.length ≤ 3000) :
    Calls Tryz.prog 73 #[v] w fun e w' => e = .returned (.tuple #[.string ⟨(attrsL ps).1.toArray⟩, .int .i64 (attrsL ps).2]) ∧ Below w.heap.size w w' := by
  obtain ⟨p, cap, rfl, hcap, hcell⟩ := h
  obtain ⟨n, hn⟩ : ∃ n, ps.length = n := ⟨_, rfl⟩
  have HC := Lib.hid hcell
  have HS := Lib.hid hsz
  rw [hn] at hlen hcap ⊢
  clear hcell hsz
  go_enter Tryz.func73, Tryz.ntmps73
  go_wp2
  go_loopw [4, 14] (fun v4 v14 wr => ∃ (i : Nat) (acc : List UInt8), v4 = .string ⟨acc.toArray⟩ ∧ v14 = .int .i64 i ∧ i ≤ n ∧ Below w.heap.size w wr ∧ attrsL ps = attrsGo (ps.drop i) (ps.take i) acc ∧ acc.length ≤ i * 30000) (fun _ v14 _ => n - (intOf v14).toNat)
  case atStart => exact ⟨0, [], rfl, rfl, Nat.zero_le _, Below.refl _ _, rfl, Nat.zero_le _⟩
  case round =>
    obtain ⟨i, acc, rfl, rfl, hin, hbw, hchk, hacc⟩ := hrel
    by_cases hi : i < n
    · have hip : i < ps.length := by omega
      obtain ⟨g, off, hp, d0, d1, d2⟩ := HC.out i hip
      have hsx := HS.out _ (List.getElem_mem hip)
      obtain ⟨x, hx⟩ : ∃ x, ps[i] = x := ⟨_, rfl⟩
      have hst := attrs_step (seen := ps.take i) (acc := acc) hip hx
      have htk : ps.take i ++ [x] = ps.take (i + 1) := by rw [← hx, List.take_succ_eq_append_getElem hip]
      rw [htk] at hst
      rw [hx] at d0 d1 d2 hsx
      subst hp
      obtain ⟨xa, xn, xv⟩ := x
      have hs := hbw.size
      have d0' : wr.cell? ⟨g, off + i * 3, none⟩ = some (.int .i64 xa) := cellB hbw d0
      have d1' : wr.cell? ⟨g, off + i * 3 + 1, none⟩ = some (.string ⟨xn.toArray⟩) := cellB hbw d1
      have d2' : wr.cell? ⟨g, off + i * 3 + 2, none⟩ = some (.string ⟨xv.toArray⟩) := cellB hbw d2
      have hsx1 : xn.length ≤ 3000 := hsx.1
      have hsx2 : xv.length ≤ 3000 := hsx.2
      have hR1 := hR.below hbw
      have hba := (Below.refl wr.heap.size wr).alloc (Nat.le_refl _) (Obj.cells #[.int .i64 xa, .string ⟨xn.toArray⟩, .string ⟨xv.toArray⟩] 32)
      have hK := heap_alloc_new wr (Obj.cells #[.int .i64 xa, .string ⟨xn.toArray⟩, .string ⟨xv.toArray⟩] 32)
      have hRa := hR1.below hba
      have hbwa := hbw.trans (hba.mono hs)
      have hsa := hba.size
      have cS := split_any xn ⟨xn.toArray⟩ rfl _ (by omega) hRa
      have hE : attrE (ps.take i) ⟨xa, xn, xv⟩ = if splitB xn = false then 6 else if (ps.take i).any (fun q => q.name == xn) = true then 8 else if (checkL xv).2 = false then 4 else 0 := rfl
      clear hx htk hsx
      cases hsp : splitB xn with
      | false =>
        rw [splitRes_bad hsp] at cS
        rw [hsp, if_pos rfl] at hE
        have HF : Hid (attrsL ps = ([], 6)) := Lib.hid (by rw [hchk, hst, hE]; rfl)
        have CS := Lib.hid cS
        clear cS hE hchk hst hsp
        go_wp2_with fail
        refine (CS.out).mono ?_
        rintro e w2 ⟨rfl, hb2⟩
        go_wp2
        go_ret2
        rw [HF.out]
        exact ⟨rfl, hbwa.trans (hb2.mono (Nat.le_trans hs hsa))⟩
      | true =>
        rw [splitRes_ok (a := (splitR xn).1) (b := (splitR xn).2) hsp rfl] at cS
        rw [hsp, if_neg (by decide)] at hE
        have CS := Lib.hid cS
        clear cS hsp
        go_wp2_with fail
        refine (CS.out).mono ?_
        rintro e w2 ⟨rfl, hb2⟩
        have hK2 := (hb2.block _ (Array.getElem?_eq_some_iff.1 hK).1).trans hK
        have hR2 := hRa.below hb2
        have hbw2 := hbwa.trans (hb2.mono (Nat.le_trans hs hsa))
        have hs2 := hbw2.size
        have cK := Tryz.sContainsPair 3 Tryz.sizeOf32 rpCells (fun _ => rfl) (fun q => q.name == xn) 118 #[.pointer (some ⟨wr.heap.size, 0, none⟩)] eg_attrs g off i cap ps w2 (closure_attrs w2 wr.heap.size xn (Array.getElem?_eq_some_iff.1 hK2).1 (blk_c1 hK2)) (by omega) (by omega) (Lib.lt_of_cell (cellB hbw2 d0)) (fun j hj k u hu => by
          obtain ⟨g', off', hp', e0, e1, e2⟩ := HC.out j hj
          cases hp'
          rw [getElem!_pos ps j hj] at hu
          match k, hu with
          | 0, hu => simp [rpCells] at hu; rw [← hu]; exact cellB hbw2 e0
          | 1, hu => simp [rpCells] at hu; rw [← hu]; exact cellB hbw2 e1
          | 2, hu => simp [rpCells] at hu; rw [← hu]; exact cellB hbw2 e2
          | k + 3, hu => simp [rpCells] at hu)
        have c2 := blk_c2 hK2
        have c1 := blk_c1 hK2
        clear hb2 hRa hbwa hba hsa hK CS d0' d1' d2'
        cases hany : (ps.take i).any (fun q => q.name == xn) with
        | true =>
          rw [hany] at cK
          rw [hany, if_pos rfl] at hE
          have HF : Hid (attrsL ps = ([], 8)) := Lib.hid (by rw [hchk, hst, hE]; rfl)
          have CK := Lib.hid cK
          clear cK hE hchk hst hany
          go_wp2_with fail
          refine (CK.out).mono ?_
          rintro e w3 ⟨rfl, hb3⟩
          go_wp2
          go_ret2
          rw [HF.out]
          exact ⟨rfl, hbw2.trans (hb3.mono hs2)⟩
        | false =>
          rw [hany] at cK
          rw [hany, if_neg (by decide)] at hE
          have CK := Lib.hid cK
          clear cK hany
          go_wp2_with fail
          refine (CK.out).mono ?_
          rintro e w3 ⟨rfl, hb3⟩
          have hK3 := (hb3.block _ (Array.getElem?_eq_some_iff.1 hK2).1).trans hK2
          have hR3 := hR2.below hb3
          have hbw3 := hbw2.trans (hb3.mono hs2)
          have hs3 := hbw3.size
          have c2' := blk_c2 hK3
          have cV := escValue_any xv ⟨xv.toArray⟩ rfl w3 (by omega) hR3
          clear hb3 hbw2 hR2 c1 c2 hK2 CK hs2
          cases hck : (checkL xv).2 with
          | false =>
            rw [hck, if_pos rfl] at hE
            have hr : escRes escV xv = .tuple #[.string ⟨#[]⟩, .int .i64 4] := by unfold escRes; rw [hck]; rfl
            rw [hr] at cV
            have HF : Hid (attrsL ps = ([], 4)) := Lib.hid (by rw [hchk, hst, hE]; rfl)
            have CV := Lib.hid cV
            clear cV hE hchk hst hck hr
            go_wp2_with fail
            refine (CV.out).mono ?_
            rintro e w4 ⟨rfl, hb4⟩
            go_wp2
            go_ret2
            rw [HF.out]
            exact ⟨rfl, hbw3.trans (hb4.mono hs3)⟩
          | true =>
            rw [hck, if_neg (by decide)] at hE
            have hr : escRes escV xv = .tuple #[.string ⟨(escL escV xv).toArray⟩, .int .i64 0] := by unfold escRes; rw [hck]; rfl
            rw [hr] at cV
            have hel := (esc_le xv hck).1
            have HF : Hid (attrsL ps = attrsGo (ps.drop (i + 1)) (ps.take (i + 1)) (acc ++ attrW ⟨xa, xn, xv⟩)) := Lib.hid (by rw [hchk, hst, hE]; rfl)
            have haw : attrW ⟨xa, xn, xv⟩ = [32] ++ xn ++ [61, 34] ++ escL escV xv ++ [34] := rfl
            have CV := Lib.hid cV
            clear cV hE hchk hst hck hr
            rw [haw] at HF
            generalize escL escV xv = ev at *
            have z1 := ba_size acc
            have z2 := ba_size xn
            have z3 := ba_size ev
            have happ : Hid ((⟨acc.toArray⟩ : ByteArray) ++ ((((⟨#[32]⟩ : ByteArray) ++ ⟨xn.toArray⟩) ++ ⟨#[61, 34]⟩) ++ ⟨ev.toArray⟩ ++ ⟨#[34]⟩) = ⟨(acc ++ ([32] ++ xn ++ [61, 34] ++ ev ++ [34])).toArray⟩) := Lib.hid (by
              apply ByteArray.ext
              simp)
            have hlb : i * 30000 ≤ 90000000 := by omega
            go_wp2_with fail
            refine (CV.out).mono ?_
            rintro e w4 ⟨rfl, hb4⟩
            have c1'' := (hb4.block _ (Array.getElem?_eq_some_iff.1 hK3).1).trans hK3
            have c1' := blk_c1 c1''
            have HB4 := Lib.hid (hbw3.trans (hb4.mono hs3))
            clear hb4 hbw3 hR3 c2' hK3 c1''
            go_wp2
            go_roundw
            case rel => exact ⟨i + 1, acc ++ ([32] ++ xn ++ [61, 34] ++ ev ++ [34]), congrArg Value.string happ.out, by go_num, by omega, HB4.out, HF.out, by simp; omega⟩
            case measure => simp [intOf]; omega
    · have HF : Hid (attrsL ps = (acc, 0)) := Lib.hid (by rw [hchk, List.drop_eq_nil_of_le (by omega)]; rfl)
      clear hchk
      go_wp2
      go_ret2
      rw [HF.out]
      exact ⟨rfl, hbw⟩

end Go.Proofs.YtblhpkcdemefaaaGreatDoor
