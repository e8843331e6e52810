/- Walks: entity.named, entity.reference: the character that a reference's inside tells. -/
import Derived.Test.YtblhpkcdemefaaaGreatDoorCut
import Derived.Test.YtblhpkcdemefaaaGreatDoorNumb
import Derived.Test.YtblhpkcdemefaaaGreatDoorMap
import Derived.StringKeys
set_option linter.unusedVariables false
set_option linter.unusedSimpArgs false
namespace Go.Proofs.YtblhpkcdemefaaaGreatDoor
open Go.RowKit Go.WideMaps

def namesL : List (List UInt8 × Int) := [([97, 109, 112], 38), ([108, 116], 60), ([103, 116], 62), ([113, 117, 111, 116], 34), ([97, 112, 111, 115], 39)]
def strEntries (L : List (List UInt8 × Int)) : List (Value × Value) := L.map fun q => (Value.string ⟨q.1.toArray⟩, Value.int .i32 q.2)

theorem strVal_inj {a b : List UInt8} (h : Value.string ⟨a.toArray⟩ = Value.string ⟨b.toArray⟩) : a = b := by
  have h1 : (⟨a.toArray⟩ : ByteArray) = ⟨b.toArray⟩ := by injection h
  have h2 : (⟨a.toArray⟩ : ByteArray).data.toList = (⟨b.toArray⟩ : ByteArray).data.toList := by rw [h1]
  exact h2

theorem keyStr (l : List UInt8) (hl : l.length ≤ 2147483647) : keyOf Tryz.prog 9 (.string ⟨l.toArray⟩) = some (.string l) := by
  have := keyOf_string_mk (P := Tryz.prog) (k := 9) Tryz.underlying9 (s := ⟨l.toArray⟩) (by rw [ba_size]; unfold maxLen; omega)
  exact this

theorem strNew (L : List (List UInt8 × Int)) (key : List UInt8) (hL : ∀ q ∈ L, q.1.length ≤ 100 ∧ q.1 ≠ key) : ∀ p ∈ strEntries L, (∃ kl, keyOf Tryz.prog 9 p.1 = some kl) ∧ p.1 ≠ .string ⟨key.toArray⟩ := by
  intro p hp
  obtain ⟨q, hq, rfl⟩ := List.mem_map.1 hp
  exact ⟨⟨_, keyStr q.1 (by have := (hL q hq).1; omega)⟩, fun h => (hL q hq).2 (strVal_inj h)⟩

theorem strKeyed : Maps.Keyed Tryz.prog 9 := Maps.string_keyed Tryz.underlying9

set_option maxHeartbeats 2000000 in
set_option maxRecDepth 100000 in
theorem named_any (w : World) :
    Calls Tryz.prog 201 #[] w fun e w' => ∃ b, e = .returned (.map (some b)) ∧ litMap w' b (strEntries namesL) ∧ w.heap.size ≤ b ∧ Below w.heap.size w w' := by
  have hmm := @run_makeMap Tryz.prog
  have hm0 := litMap_made w
  have hbel0 := (Below.refl w.heap.size w).alloc (Nat.le_refl _) (.map #[] 0)
  obtain ⟨w1, hrun1, hm1, hg1⟩ := hm0.insert (key := .string ⟨#[97, 109, 112]⟩) (val := .int .i32 38) strKeyed Tryz.underlying271 (keyStr [97, 109, 112] (by decide)) (strNew (namesL.take 0) [97, 109, 112] (by decide))
  have hbel1 := hbel0.grown hg1 (by have := hm0.lt; omega) (by intro k hk; cases hk; omega)
  obtain ⟨w2, hrun2, hm2, hg2⟩ := hm1.insert (key := .string ⟨#[108, 116]⟩) (val := .int .i32 60) strKeyed Tryz.underlying271 (keyStr [108, 116] (by decide)) (strNew (namesL.take 1) [108, 116] (by decide))
  have hbel2 := hbel1.grown hg2 (by have := hm1.lt; omega) (by intro k hk; cases hk; omega)
  obtain ⟨w3, hrun3, hm3, hg3⟩ := hm2.insert (key := .string ⟨#[103, 116]⟩) (val := .int .i32 62) strKeyed Tryz.underlying271 (keyStr [103, 116] (by decide)) (strNew (namesL.take 2) [103, 116] (by decide))
  have hbel3 := hbel2.grown hg3 (by have := hm2.lt; omega) (by intro k hk; cases hk; omega)
  obtain ⟨w4, hrun4, hm4, hg4⟩ := hm3.insert (key := .string ⟨#[113, 117, 111, 116]⟩) (val := .int .i32 34) strKeyed Tryz.underlying271 (keyStr [113, 117, 111, 116] (by decide)) (strNew (namesL.take 3) [113, 117, 111, 116] (by decide))
  have hbel4 := hbel3.grown hg4 (by have := hm3.lt; omega) (by intro k hk; cases hk; omega)
  obtain ⟨w5, hrun5, hm5, hg5⟩ := hm4.insert (key := .string ⟨#[97, 112, 111, 115]⟩) (val := .int .i32 39) strKeyed Tryz.underlying271 (keyStr [97, 112, 111, 115] (by decide)) (strNew (namesL.take 4) [97, 112, 111, 115] (by decide))
  have hbel5 := hbel4.grown hg5 (by have := hm4.lt; omega) (by intro k hk; cases hk; omega)
  have HM := Lib.hid hm5
  have HB := Lib.hid hbel5
  clear hm0 hm1 hm2 hm3 hm4 hm5 hbel0 hbel1 hbel2 hbel3 hbel4 hbel5 hg1 hg2 hg3 hg4 hg5
  go_enter Tryz.func201, Tryz.ntmps201
  go_wp2
  go_ret
  exact ⟨w.heap.size, rfl, HM.out, Nat.le_refl _, HB.out⟩

/-- strings.CutPrefix where the text begins so, and where it doesn't. -/
theorem cutPre_yes (p r : List UInt8) (s t : ByteArray) (hs : s = ⟨(p ++ r).toArray⟩) (ht : t = ⟨p.toArray⟩) (w : World) :
    Calls Tryz.prog 102 #[.string s, .string t] w fun e w' => e = .returned (.tuple #[.string ⟨r.toArray⟩, .bool true]) ∧ w' = w := by
  subst hs ht
  have h := Tryz.strings_CutPrefix ⟨(p ++ r).toArray⟩ ⟨p.toArray⟩ w
  have h1 : Lib.hasPrefix (p ++ r) p = true := by unfold Lib.hasPrefix; rw [List.isPrefixOf_iff_prefix]; exact List.prefix_append p r
  have h2 : Lib.trimPrefix (p ++ r) p = r := by unfold Lib.trimPrefix; rw [if_pos h1]; simp
  have e1 : Lib.hasPrefix (⟨(p ++ r).toArray⟩ : ByteArray).data.toList (⟨p.toArray⟩ : ByteArray).data.toList = true := h1
  have e2 : Lib.trimPrefix (⟨(p ++ r).toArray⟩ : ByteArray).data.toList (⟨p.toArray⟩ : ByteArray).data.toList = r := h2
  rw [e1, e2] at h
  exact h

theorem cutPre_no (p l : List UInt8) (s t : ByteArray) (hs : s = ⟨l.toArray⟩) (ht : t = ⟨p.toArray⟩) (h0 : Lib.hasPrefix l p = false) (w : World) :
    Calls Tryz.prog 102 #[.string s, .string t] w fun e w' => e = .returned (.tuple #[.string ⟨l.toArray⟩, .bool false]) ∧ w' = w := by
  subst hs ht
  have h := Tryz.strings_CutPrefix ⟨l.toArray⟩ ⟨p.toArray⟩ w
  have h2 : Lib.trimPrefix l p = l := by unfold Lib.trimPrefix; rw [if_neg (by rw [h0]; decide)]
  have e1 : Lib.hasPrefix (⟨l.toArray⟩ : ByteArray).data.toList (⟨p.toArray⟩ : ByteArray).data.toList = false := h0
  have e2 : Lib.trimPrefix (⟨l.toArray⟩ : ByteArray).data.toList (⟨p.toArray⟩ : ByteArray).data.toList = l := h2
  rw [e1, e2] at h
  exact h

/-- What entity.reference hands back. -/
def refRes : Option Nat → Value
  | some c => .tuple #[.int .i32 c, .bool true]
  | none => .tuple #[.int .i32 0, .bool false]

/-- The look-up among the names. -/
theorem named_look (l : List UInt8) (hl : l.length ≤ 2147483647) (w : World) (b : Nat) (h : litMap w b (strEntries namesL)) :
    (∃ c : Nat, nameOf l = some c ∧ (Instr.lookup 271 (.map (some b)) (.string ⟨l.toArray⟩) true).run Tryz.prog w = .ok (.tuple #[.int .i32 c, .bool true]) w) ∨
    (nameOf l = none ∧ (Instr.lookup 271 (.map (some b)) (.string ⟨l.toArray⟩) true).run Tryz.prog w = .ok (.tuple #[.int .i32 0, .bool false]) w) := by
  have hz : (zeroValue 21).run Tryz.prog w = .ok (.int .i32 0) w := Tryz.zeroValue21 w
  rcases h.look strKeyed Tryz.underlying271 hz (keyStr l hl) (fun p hp => by
    obtain ⟨q, hq, rfl⟩ := List.mem_map.1 hp
    have : q.1.length ≤ 100 := by
      have h2 : ∀ q ∈ namesL, q.1.length ≤ 100 := by decide
      exact h2 q hq
    exact ⟨_, keyStr q.1 (by omega)⟩) with ⟨v, hv, hrun⟩ | ⟨hn, hrun⟩
  · refine Or.inl ?_
    obtain ⟨q, hq, he⟩ := List.mem_map.1 hv
    have e1 : q.1 = l := strVal_inj (congrArg Prod.fst he)
    have e2 : Value.int .i32 q.2 = v := congrArg Prod.snd he
    have h3 : ∀ q ∈ namesL, nameOf q.1 = some q.2.toNat ∧ q.2 = (q.2.toNat : Int) := by decide
    obtain ⟨h4, h5⟩ := h3 q hq
    refine ⟨q.2.toNat, by rw [← e1]; exact h4, ?_⟩
    rw [hrun, ← e2, h5]
    rfl
  · refine Or.inr ⟨?_, hrun⟩
    have h3 : ∀ q ∈ namesL, l ≠ q.1 := fun q hq e => hn (Value.string ⟨q.1.toArray⟩, Value.int .i32 q.2) (List.mem_map.2 ⟨q, hq, rfl⟩) (by rw [e])
    simp only [namesL, List.mem_cons, List.mem_nil_iff, or_false, forall_eq_or_imp, forall_eq] at h3
    obtain ⟨n1, n2, n3, n4, n5⟩ := h3
    unfold nameOf
    rw [if_neg n1, if_neg n2, if_neg n3, if_neg n4, if_neg n5]

theorem named_some {l : List UInt8} {c : Nat} (hn : nameOf l = some c) (hl : l.length ≤ 2147483647) (w : World) (b : Nat) (h : litMap w b (strEntries namesL)) :
    (Instr.lookup 271 (.map (some b)) (.string ⟨l.toArray⟩) true).run Tryz.prog w = .ok (.tuple #[.int .i32 c, .bool true]) w := by
  rcases named_look l hl w b h with ⟨c', h1, h2⟩ | ⟨h1, _⟩
  · rw [hn] at h1; cases h1; exact h2
  · rw [hn] at h1; cases h1
theorem named_none {l : List UInt8} (hn : nameOf l = none) (hl : l.length ≤ 2147483647) (w : World) (b : Nat) (h : litMap w b (strEntries namesL)) :
    (Instr.lookup 271 (.map (some b)) (.string ⟨l.toArray⟩) true).run Tryz.prog w = .ok (.tuple #[.int .i32 0, .bool false]) w := by
  rcases named_look l hl w b h with ⟨c', h1, _⟩ | ⟨_, h2⟩
  · rw [hn] at h1; cases h1
  · exact h2

set_option maxHeartbeats 8000000 in
set_option maxRecDepth 100000 in
theorem reference_any (l : List UInt8) (s : ByteArray) (hs : s = ⟨l.toArray⟩) (w : World) (hl : l.length ≤ 100) (hR : Ready w) :
    Calls Tryz.prog 177 #[.string s] w fun e w' => e = .returned (refRes (refIn l)) ∧ Below w.heap.size w w' := by
  subst hs
  have hl2 : l.length ≤ 2147483647 := by omega
  cases hn : nameOf l with
  | some c =>
    have HF : Hid (refIn l = some c) := Lib.hid (by unfold refIn; rw [hn])
    have HL := Lib.hid (fun wx b hx => named_some hn hl2 wx b hx)
    clear hn
    go_enter Tryz.func177, Tryz.ntmps177
    go_wp2_with (go_at_call 201; refine (named_any _).mono ?_; rintro e w1 ⟨b, rfl, hlit, hbb, hb1⟩; have hrun := HL.out _ _ hlit; clear hlit; have hR1 := hR.below hb1; have hs1 := hb1.size)
    go_ret2
    exact ⟨by rw [HF.out]; rfl, hb1⟩
  | none =>
    have HL := Lib.hid (fun wx b hx => named_none hn hl2 wx b hx)
    cases hp : Lib.hasPrefix l [35] with
    | false =>
      have HF : Hid (refIn l = none) := Lib.hid (by
        unfold refIn
        rw [hn]
        cases l with
        | nil => rfl
        | cons x r =>
          have hx : x ≠ 35 := by
            rintro rfl
            simp [Lib.hasPrefix] at hp
          simp only []
          split
          · rename_i heq; cases heq; exact absurd rfl hx
          · rename_i heq; cases heq; exact absurd rfl hx
          · rfl)
      have C1 := Lib.hid (fun wx => cutPre_no [35] l ⟨l.toArray⟩ ⟨#[35]⟩ rfl rfl hp wx)
      clear hn hp
      go_enter Tryz.func177, Tryz.ntmps177
      go_wp2_with (first | (go_at_call 201; refine (named_any _).mono ?_; rintro e w1 ⟨b, rfl, hlit, hbb, hb1⟩; have hrun := HL.out _ _ hlit; clear hlit; have hR1 := hR.below hb1; have hs1 := hb1.size) | (go_at_call 102; refine (C1.out _).mono ?_; rintro e w' ⟨rfl, rfl⟩))
      go_ret2
      exact ⟨by rw [HF.out]; rfl, hb1⟩
    | true =>
      obtain ⟨d, hd⟩ : ∃ d, l = 35 :: d := by
        cases l with
        | nil => simp [Lib.hasPrefix] at hp
        | cons x r =>
          simp [Lib.hasPrefix] at hp
          exact ⟨r, by rw [hp]⟩
      have hdl : d.length ≤ 100 := by rw [hd] at hl; simp at hl; omega
      have C1 := Lib.hid (fun wx => cutPre_yes [35] d ⟨l.toArray⟩ ⟨#[35]⟩ (by rw [hd]; rfl) rfl wx)
      cases hq : Lib.hasPrefix d [120] with
      | true =>
        obtain ⟨ds, hds⟩ : ∃ ds, d = 120 :: ds := by
          cases d with
          | nil => simp [Lib.hasPrefix] at hq
          | cons x r =>
            simp [Lib.hasPrefix] at hq
            exact ⟨r, by rw [hq]⟩
        have hdsl : ds.length ≤ 100 := by rw [hds] at hdl; simp at hdl; omega
        have C2 := Lib.hid (fun wx => cutPre_yes [120] ds ⟨d.toArray⟩ ⟨#[120]⟩ (by rw [hds]; rfl) rfl wx)
        have HR0 : Hid (refIn l = numOf 16 6 ds) := Lib.hid (by unfold refIn; rw [hn, hd, hds]; rfl)
        clear hn hp hq hd hds
        by_cases e1 : ds = []
        · have HF : Hid (refIn l = none) := Lib.hid (by rw [HR0.out]; unfold numOf; rw [if_pos (Or.inl e1)])
          have i1 : ds.isEmpty = true := by rw [e1]; rfl
          clear e1
          go_enter Tryz.func177, Tryz.ntmps177
          go_wp2_with (first | (go_at_call 201; refine (named_any _).mono ?_; rintro e w1 ⟨b, rfl, hlit, hbb, hb1⟩; have hrun := HL.out _ _ hlit; clear hlit; have hR1 := hR.below hb1; have hs1 := hb1.size) | (go_at_call 102; (first | (with_reducible refine (C1.out _).mono ?_) | (with_reducible refine (C2.out _).mono ?_)); rintro e w' ⟨rfl, rfl⟩))
          go_ret2
          exact ⟨by rw [HF.out]; rfl, hb1⟩
        · have i1 : ds.isEmpty = false := by rw [List.isEmpty_eq_false_iff]; exact e1
          by_cases e2 : 6 < ds.length
          · have HF : Hid (refIn l = none) := Lib.hid (by rw [HR0.out]; unfold numOf; rw [if_pos (Or.inr (Or.inl e2))])
            have i2 : (6 : Int) < (ds.length : Int) := by omega
            clear e1 e2
            go_enter Tryz.func177, Tryz.ntmps177
            go_wp2_with (first | (go_at_call 201; refine (named_any _).mono ?_; rintro e w1 ⟨b, rfl, hlit, hbb, hb1⟩; have hrun := HL.out _ _ hlit; clear hlit; have hR1 := hR.below hb1; have hs1 := hb1.size) | (go_at_call 102; (first | (with_reducible refine (C1.out _).mono ?_) | (with_reducible refine (C2.out _).mono ?_)); rintro e w' ⟨rfl, rfl⟩))
            go_ret2
            exact ⟨by rw [HF.out]; rfl, hb1⟩
          · have i2 : ¬ ((6 : Int) < (ds.length : Int)) := by omega
            have cL := fun wx => cutLeft_any ds set16 ⟨ds.toArray⟩ ⟨set16.toArray⟩ rfl rfl wx (by omega) (by decide) (by decide)
            have cR := fun wx hx => cutRight_any (cutL ds set16) set16 ⟨(cutL ds set16).toArray⟩ ⟨set16.toArray⟩ rfl rfl wx (by have := List.dropWhile_sublist (fun b : UInt8 => memB b.toNat set16) (l := ds); have := this.length_le; unfold cutL; omega) hx (by decide) (by decide)
            have CL := Lib.hid cL
            have CR := Lib.hid cR
            clear cL cR
            cases hA : allD 16 ds with
            | false =>
              have HF : Hid (refIn l = none) := Lib.hid (by rw [HR0.out]; unfold numOf; rw [if_pos (Or.inr (Or.inr (Or.inl hA)))])
              have i3 : (cutR (cutL ds set16) set16).isEmpty = false := by rw [List.isEmpty_eq_false_iff]; exact cut_digits_ne memB_set16 hA
              generalize cutL ds set16 = x at *
              generalize cutR x set16 = y at *
              clear hA e1
              go_enter Tryz.func177, Tryz.ntmps177
              go_wp2_with (first | (go_at_call 201; refine (named_any _).mono ?_; rintro e w1 ⟨b, rfl, hlit, hbb, hb1⟩; have hrun := HL.out _ _ hlit; clear hlit; have hR1 := hR.below hb1; have hs1 := hb1.size) | (go_at_call 102; (first | (with_reducible refine (C1.out _).mono ?_) | (with_reducible refine (C2.out _).mono ?_)); rintro e w' ⟨rfl, rfl⟩) | (go_at_call 203; refine (CL.out _).mono ?_; rintro e w2 ⟨rfl, hb2⟩; have hR2 := hR1.below hb2; have hs2 := hb2.size) | (go_at_call 202; refine (CR.out _ hR2).mono ?_; rintro e w3 ⟨rfl, hb3⟩))
              go_ret2
              exact ⟨by rw [HF.out]; rfl, hb1.trans ((hb2.mono hs1).trans (hb3.mono (by omega)))⟩
            | true =>
              have i3 : (cutR (cutL ds set16) set16).isEmpty = true := by rw [(cut_digits memB_set16).2 hA]; rfl
              generalize cutL ds set16 = x at *
              generalize cutR x set16 = y at *
              have CP := Lib.hid (fun wx => parseInt16_any ds ⟨ds.toArray⟩ rfl wx e1 (by omega) hA)
              have hlt := numL_lt7 16 (by omega) (by omega) ds hA (by omega)
              have HN : Hid (refIn l = if fineB (numL 16 ds) = false then none else some (numL 16 ds)) := Lib.hid (by
                rw [HR0.out]; unfold numOf
                cases hf : fineB (numL 16 ds) with
                | true => rw [if_neg (by intro h; rcases h with h | h | h | h; exact e1 h; exact e2 h; rw [hA] at h; cases h; cases h), if_neg (by decide)]
                | false => rw [if_pos (Or.inr (Or.inr (Or.inr rfl))), if_pos rfl])
              generalize numL 16 ds = v at *
              obtain ⟨a, ha⟩ : ∃ a : Int, a = (v : Int) := ⟨_, rfl⟩
              rw [← ha] at CP HN
              have v0 : 0 ≤ a := by omega
              have v1 : a < 268435456 := by omega
              have HA := Lib.hid ha
              clear hA e1 e2 ha hlt
              cases hf : fineB a with
              | true =>
                have HF := Lib.hid (HN.out.trans (if_neg (by rw [hf]; decide)))
                go_enter Tryz.func177, Tryz.ntmps177
                go_wp2_with (first | (go_at_call 201; refine (named_any _).mono ?_; rintro e w1 ⟨b, rfl, hlit, hbb, hb1⟩; have hrun := HL.out _ _ hlit; clear hlit; have hR1 := hR.below hb1; have hs1 := hb1.size) | (go_at_call 102; (first | (with_reducible refine (C1.out _).mono ?_) | (with_reducible refine (C2.out _).mono ?_)); rintro e w' ⟨rfl, rfl⟩) | (go_at_call 203; refine (CL.out _).mono ?_; rintro e w2 ⟨rfl, hb2⟩; have hR2 := hR1.below hb2; have hs2 := hb2.size) | (go_at_call 202; refine (CR.out _ hR2).mono ?_; rintro e w3 ⟨rfl, hb3⟩; have hs3 := hb3.size) | (go_at_call 204; refine (CP.out _).mono ?_; rintro e w4 ⟨rfl, hb4⟩) | (go_at_call 57; refine (fine_any _ _).mono ?_; rintro e w' ⟨rfl, rfl⟩))
                go_ret2
                exact ⟨by rw [HF.out]; first | rfl | (rw [HA.out]; rfl), hb1.trans ((hb2.mono hs1).trans ((hb3.mono (by omega)).trans (hb4.mono (by omega))))⟩
              | false =>
                have HF := Lib.hid (HN.out.trans (if_pos hf))
                go_enter Tryz.func177, Tryz.ntmps177
                go_wp2_with (first | (go_at_call 201; refine (named_any _).mono ?_; rintro e w1 ⟨b, rfl, hlit, hbb, hb1⟩; have hrun := HL.out _ _ hlit; clear hlit; have hR1 := hR.below hb1; have hs1 := hb1.size) | (go_at_call 102; (first | (with_reducible refine (C1.out _).mono ?_) | (with_reducible refine (C2.out _).mono ?_)); rintro e w' ⟨rfl, rfl⟩) | (go_at_call 203; refine (CL.out _).mono ?_; rintro e w2 ⟨rfl, hb2⟩; have hR2 := hR1.below hb2; have hs2 := hb2.size) | (go_at_call 202; refine (CR.out _ hR2).mono ?_; rintro e w3 ⟨rfl, hb3⟩; have hs3 := hb3.size) | (go_at_call 204; refine (CP.out _).mono ?_; rintro e w4 ⟨rfl, hb4⟩) | (go_at_call 57; refine (fine_any _ _).mono ?_; rintro e w' ⟨rfl, rfl⟩))
                go_ret2
                exact ⟨by rw [HF.out]; first | rfl | (rw [HA.out]; rfl), hb1.trans ((hb2.mono hs1).trans ((hb3.mono (by omega)).trans (hb4.mono (by omega))))⟩
      | false =>
        have C2 := Lib.hid (fun wx => cutPre_no [120] d ⟨d.toArray⟩ ⟨#[120]⟩ rfl rfl hq wx)
        have HR0 : Hid (refIn l = numOf 10 7 d) := Lib.hid (by
          unfold refIn
          rw [hn, hd]
          cases d with
          | nil => rfl
          | cons x r =>
            have hx : x ≠ 120 := by
              rintro rfl
              simp [Lib.hasPrefix] at hq
            simp only []
            split
            · rename_i heq; cases heq; exact absurd rfl hx
            · rename_i heq; cases heq; rfl
            · rename_i h1 h2; exact absurd rfl (h2 _))
        clear hn hp hq hd
        by_cases e1 : d = []
        · have HF : Hid (refIn l = none) := Lib.hid (by rw [HR0.out]; unfold numOf; rw [if_pos (Or.inl e1)])
          have i1 : d.isEmpty = true := by rw [e1]; rfl
          clear e1
          go_enter Tryz.func177, Tryz.ntmps177
          go_wp2_with (first | (go_at_call 201; refine (named_any _).mono ?_; rintro e w1 ⟨b, rfl, hlit, hbb, hb1⟩; have hrun := HL.out _ _ hlit; clear hlit; have hR1 := hR.below hb1; have hs1 := hb1.size) | (go_at_call 102; (first | (with_reducible refine (C1.out _).mono ?_) | (with_reducible refine (C2.out _).mono ?_)); rintro e w' ⟨rfl, rfl⟩))
          go_ret2
          exact ⟨by rw [HF.out]; rfl, hb1⟩
        · have i1 : d.isEmpty = false := by rw [List.isEmpty_eq_false_iff]; exact e1
          by_cases e2 : 7 < d.length
          · have HF : Hid (refIn l = none) := Lib.hid (by rw [HR0.out]; unfold numOf; rw [if_pos (Or.inr (Or.inl e2))])
            have i2 : (7 : Int) < (d.length : Int) := by omega
            clear e1 e2
            go_enter Tryz.func177, Tryz.ntmps177
            go_wp2_with (first | (go_at_call 201; refine (named_any _).mono ?_; rintro e w1 ⟨b, rfl, hlit, hbb, hb1⟩; have hrun := HL.out _ _ hlit; clear hlit; have hR1 := hR.below hb1; have hs1 := hb1.size) | (go_at_call 102; (first | (with_reducible refine (C1.out _).mono ?_) | (with_reducible refine (C2.out _).mono ?_)); rintro e w' ⟨rfl, rfl⟩))
            go_ret2
            exact ⟨by rw [HF.out]; rfl, hb1⟩
          · have i2 : ¬ ((7 : Int) < (d.length : Int)) := by omega
            have cL := fun wx => cutLeft_any d set10 ⟨d.toArray⟩ ⟨set10.toArray⟩ rfl rfl wx (by omega) (by decide) (by decide)
            have cR := fun wx hx => cutRight_any (cutL d set10) set10 ⟨(cutL d set10).toArray⟩ ⟨set10.toArray⟩ rfl rfl wx (by have := List.dropWhile_sublist (fun b : UInt8 => memB b.toNat set10) (l := d); have := this.length_le; unfold cutL; omega) hx (by decide) (by decide)
            have CL := Lib.hid cL
            have CR := Lib.hid cR
            clear cL cR
            cases hA : allD 10 d with
            | false =>
              have HF : Hid (refIn l = none) := Lib.hid (by rw [HR0.out]; unfold numOf; rw [if_pos (Or.inr (Or.inr (Or.inl hA)))])
              have i3 : (cutR (cutL d set10) set10).isEmpty = false := by rw [List.isEmpty_eq_false_iff]; exact cut_digits_ne memB_set10 hA
              generalize cutL d set10 = x at *
              generalize cutR x set10 = y at *
              clear hA e1
              go_enter Tryz.func177, Tryz.ntmps177
              go_wp2_with (first | (go_at_call 201; refine (named_any _).mono ?_; rintro e w1 ⟨b, rfl, hlit, hbb, hb1⟩; have hrun := HL.out _ _ hlit; clear hlit; have hR1 := hR.below hb1; have hs1 := hb1.size) | (go_at_call 102; (first | (with_reducible refine (C1.out _).mono ?_) | (with_reducible refine (C2.out _).mono ?_)); rintro e w' ⟨rfl, rfl⟩) | (go_at_call 203; refine (CL.out _).mono ?_; rintro e w2 ⟨rfl, hb2⟩; have hR2 := hR1.below hb2; have hs2 := hb2.size) | (go_at_call 202; refine (CR.out _ hR2).mono ?_; rintro e w3 ⟨rfl, hb3⟩))
              go_ret2
              exact ⟨by rw [HF.out]; rfl, hb1.trans ((hb2.mono hs1).trans (hb3.mono (by omega)))⟩
            | true =>
              have i3 : (cutR (cutL d set10) set10).isEmpty = true := by rw [(cut_digits memB_set10).2 hA]; rfl
              generalize cutL d set10 = x at *
              generalize cutR x set10 = y at *
              have CP := Lib.hid (fun wx => parseInt10_any d ⟨d.toArray⟩ rfl wx e1 (by omega) hA)
              have hlt := numL_lt7 10 (by omega) (by omega) d hA (by omega)
              have HN : Hid (refIn l = if fineB (numL 10 d) = false then none else some (numL 10 d)) := Lib.hid (by
                rw [HR0.out]; unfold numOf
                cases hf : fineB (numL 10 d) with
                | true => rw [if_neg (by intro h; rcases h with h | h | h | h; exact e1 h; exact e2 h; rw [hA] at h; cases h; cases h), if_neg (by decide)]
                | false => rw [if_pos (Or.inr (Or.inr (Or.inr rfl))), if_pos rfl])
              generalize numL 10 d = v at *
              obtain ⟨a, ha⟩ : ∃ a : Int, a = (v : Int) := ⟨_, rfl⟩
              rw [← ha] at CP HN
              have v0 : 0 ≤ a := by omega
              have v1 : a < 268435456 := by omega
              have HA := Lib.hid ha
              clear hA e1 e2 ha hlt
              cases hf : fineB a with
              | true =>
                have HF := Lib.hid (HN.out.trans (if_neg (by rw [hf]; decide)))
                go_enter Tryz.func177, Tryz.ntmps177
                go_wp2_with (first | (go_at_call 201; refine (named_any _).mono ?_; rintro e w1 ⟨b, rfl, hlit, hbb, hb1⟩; have hrun := HL.out _ _ hlit; clear hlit; have hR1 := hR.below hb1; have hs1 := hb1.size) | (go_at_call 102; (first | (with_reducible refine (C1.out _).mono ?_) | (with_reducible refine (C2.out _).mono ?_)); rintro e w' ⟨rfl, rfl⟩) | (go_at_call 203; refine (CL.out _).mono ?_; rintro e w2 ⟨rfl, hb2⟩; have hR2 := hR1.below hb2; have hs2 := hb2.size) | (go_at_call 202; refine (CR.out _ hR2).mono ?_; rintro e w3 ⟨rfl, hb3⟩; have hs3 := hb3.size) | (go_at_call 204; refine (CP.out _).mono ?_; rintro e w4 ⟨rfl, hb4⟩) | (go_at_call 57; refine (fine_any _ _).mono ?_; rintro e w' ⟨rfl, rfl⟩))
                go_ret2
                exact ⟨by rw [HF.out]; first | rfl | (rw [HA.out]; rfl), hb1.trans ((hb2.mono hs1).trans ((hb3.mono (by omega)).trans (hb4.mono (by omega))))⟩
              | false =>
                have HF := Lib.hid (HN.out.trans (if_pos hf))
                go_enter Tryz.func177, Tryz.ntmps177
                go_wp2_with (first | (go_at_call 201; refine (named_any _).mono ?_; rintro e w1 ⟨b, rfl, hlit, hbb, hb1⟩; have hrun := HL.out _ _ hlit; clear hlit; have hR1 := hR.below hb1; have hs1 := hb1.size) | (go_at_call 102; (first | (with_reducible refine (C1.out _).mono ?_) | (with_reducible refine (C2.out _).mono ?_)); rintro e w' ⟨rfl, rfl⟩) | (go_at_call 203; refine (CL.out _).mono ?_; rintro e w2 ⟨rfl, hb2⟩; have hR2 := hR1.below hb2; have hs2 := hb2.size) | (go_at_call 202; refine (CR.out _ hR2).mono ?_; rintro e w3 ⟨rfl, hb3⟩; have hs3 := hb3.size) | (go_at_call 204; refine (CP.out _).mono ?_; rintro e w4 ⟨rfl, hb4⟩) | (go_at_call 57; refine (fine_any _ _).mono ?_; rintro e w' ⟨rfl, rfl⟩))
                go_ret2
                exact ⟨by rw [HF.out]; first | rfl | (rw [HA.out]; rfl), hb1.trans ((hb2.mono hs1).trans ((hb3.mono (by omega)).trans (hb4.mono (by omega))))⟩
end Go.Proofs.YtblhpkcdemefaaaGreatDoor
