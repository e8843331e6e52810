/- Walks: the document's answer of layer 2: names (tipstaveref02.chars, Plain, Split). Walks: the document's answer of layer 2: names (tipstaveref02.Plain, Split). -/
import Derived.Test.YtblhpkcdemefaaaGreatDoorUcheck
import Derived.Test.YtblhpkcdemefaaaGreatDoorTi
import Derived.Test.YtblhpkcdemefaaaGreatDoorRcl
import Derived.Test.YtblhpkcdemefaaaGreatDoorAl
set_option linter.unusedVariables false
set_option linter.unusedSimpArgs false
namespace Go.Proofs.YtblhpkcdemefaaaGreatDoor
open Go.RowKit

theorem info_int : (Tryz.prog.info? 3).map (fun i => (i.zero, i.size, i.bytes)) = some (some (.int .i64 0), 1, 8) := by kernel_rfl
def intCells (cs : List Nat) : List Value := cs.map fun c => .int .i64 (c : Nat)
theorem intCells_len (cs : List Nat) : (intCells cs).length = cs.length := by simp [intCells]

theorem intCells_app (a b : List Nat) : intCells (a ++ b) = intCells a ++ intCells b := by simp [intCells]

/-- What chars returns. -/
def CharsPost (l : List UInt8) (w : World) (e : Ending) (w' : World) : Prop :=
  Below w.heap.size w w' ∧ (((checkL l).2 = false ∧ e = .returned (.tuple #[.slice none 0 0, .bool false])) ∨
    ∃ cs v, l = chars cs ∧ allFine cs ∧ e = .returned (.tuple #[v, .bool true]) ∧ w'.ownsRow w.heap.size 3 1 v cs.length (intCells cs))

set_option maxHeartbeats 4000000 in
set_option maxRecDepth 100000 in
theorem charsR_any (l : List UInt8) (s : ByteArray) (hs : s = ⟨l.toArray⟩) (w : World) (hl : l.length ≤ 100000000) :
    Calls Tryz.prog 155 #[.string s] w (CharsPost l w) := by
  subst hs
  obtain ⟨i0, hi0, hz0, hz1, hz2⟩ := info_parts info_int
  obtain ⟨W1, cap, hcv, hB1, hcap, hby, hsW⟩ := conv_check l (by omega) w
  have HBY := Lib.hid hby
  have hsl : w.heap.size < W1.heap.size := by omega
  obtain ⟨n, hn⟩ : ∃ n, l.length = n := ⟨_, rfl⟩
  rw [hn] at hcv hl hcap
  clear hby hsW
  go_enter Tryz.func155, Tryz.ntmps155
  go_wp2
  clear hcv
  go_loopw [4, 5] (fun v4 v5 wr => ∃ (pos m c f : Nat) (p : Option Addr) (ks : List Nat) (vv : Value), vv = v4 ∧ v5 = .slice p m c ∧ pos + m = n ∧ (0 < m → p = some ⟨w.heap.size, pos, none⟩ ∧ m ≤ c) ∧ wr.ownsRow W1.heap.size 3 1 vv ks.length (intCells ks) ∧ Below W1.heap.size W1 wr ∧ l.take pos = chars ks ∧ allFine ks ∧ ks.length ≤ pos ∧ checkL l = checkGo f (l.drop pos) pos ∧ n ≤ pos + f) (fun _ v5 _ => match v5 with | .slice _ m _ => m | _ => 0)
  case atStart => exact ⟨0, n, cap, n, _, [], _, rfl, rfl, by omega, fun _ => ⟨rfl, hcap⟩, World.ownsRow_nil _ _ _ _, Below.refl _ _, by simp [chars_nil], allFine_nil, Nat.le_refl _, by rw [← hn]; rfl, by omega⟩
  case round =>
    obtain ⟨pos, m, c, f, p, ks, vv, hvv, rfl, hpm, hp, hO, hbw, htk, hks, hkl, hchk, hfu⟩ := hrel
    subst hvv
    have hs1 := hbw.size
    by_cases hm : 0 < m
    · obtain ⟨hp', hmc⟩ := hp hm
      subst hp'
      have hm0 : (0 : Int) < (m : Int) := by omega
      have hpl : pos < l.length := by omega
      have h0 := drop_ne hpl
      have hm2 : bytesAt wr w.heap.size (0 + pos) (l.drop pos) := (HBY.out.below hbw (by omega)).drop pos
      rw [Nat.zero_add] at hm2
      have cR := runeP_any (l.drop pos) w.heap.size pos m c (by rw [List.length_drop]; omega) wr (by rw [List.length_drop]; omega) (by rw [List.length_drop]; omega) hm2
      cases hr : rune1 (l.drop pos) with
      | none =>
        have e : runePair (l.drop pos) = (0, 0) := by unfold runePair; rw [hr]
        rw [e, pairRes_mk] at cR
        have HF : Hid ((checkL l).2 = false) := Lib.hid (by rw [hchk, checkGo_none f pos (by rw [List.length_drop]; omega) h0 hr])
        have CR := Lib.hid cR
        have HBW := Lib.hid (hB1.trans (hbw.mono (by omega)))
        have HS : w.heap.size ≤ wr.heap.size := by omega
        clear cR e hr hchk h0 hm2 hp hO hbw htk hks hkl hB1
        go_wp2_with (go_at_call 154; refine (CR.out).mono ?_; rintro e w2 ⟨rfl, hb2⟩)
        go_ret2
        exact ⟨HBW.out.trans (hb2.mono HS), Or.inl ⟨HF.out, rfl⟩⟩
      | some cn =>
        obtain ⟨c', k⟩ := cn
        have e : runePair (l.drop pos) = ((c' : Int), (k : Int)) := by unfold runePair; rw [hr]
        rw [e, pairRes_mk] at cR
        obtain ⟨_, b1, b2, b3, b4, b5⟩ := rune1_bounds hr
        rw [List.length_drop] at b3
        have HF : Hid (checkL l = checkGo (f - 1) (l.drop (pos + k)) (pos + k)) := Lib.hid (by rw [hchk, checkGo_some f pos (by rw [List.length_drop]; omega) h0 hr, List.drop_drop])
        have HT : Hid (l.take (pos + k) = chars (ks ++ [c'])) := Lib.hid (by
          obtain ⟨r, hr1, hr2⟩ := rune1_split hr
          have hput : Lib.encodeRune (c' : Int) = put c' := rfl
          rw [hput] at hr1 hr2
          rw [List.take_add, htk, hr1, hr2, chars_append, chars_cons, chars_nil, List.append_nil]
          simp)
        have HK : Hid (allFine (ks ++ [c'])) := Lib.hid (fun x hx => (List.mem_append.1 hx).elim (hks x) (fun hx => by rw [List.mem_singleton] at hx; subst hx; exact b5))
        have CR := Lib.hid cR
        have ik0 : ((k : Int) == 0) = false := by rw [beq_eq_false_iff_ne]; omega
        have HB1 := Lib.hid hB1
        clear cR e hr hchk h0 hm2 b5 hp htk hks hB1
        go_wp2_with fail
        refine (CR.out).mono ?_
        rintro e w2 ⟨rfl, hb2⟩
        have hs2 := hb2.size
        have HO2 := Lib.hid (own_below hO hb2)
        have HB2 := Lib.hid (hbw.trans (hb2.mono hs1))
        clear hO hbw hb2 CR
        have hba := (Below.refl w2.heap.size w2).alloc (Nat.le_refl _) (Obj.cells #[.int .i64 (c' : Int)] 3)
        have HOA := Lib.hid (own_below HO2.out hba)
        have HBA := Lib.hid (HB2.out.trans (hba.mono (by omega)))
        have hnc := cells_new w2 (intCells [c']) 3
        clear hba
        go_wp2_with (at_builtin; refine wpList_append_own _ rfl _ _ 200 rfl W1.heap.size 3 i0 (.int .i64 0) 1 8 Tryz.underlying200 hi0 hz0 hz1 hz2 rfl (by decide) _ _ _ rfl HOA.out ⟨w2.heap.size, 0, none⟩ 1 1 (intCells [c']) rfl ?c0 ?c1 ?c2 ?c3 ?c4 ?c5 ?_)
        case c0 => rfl
        case c1 => first | exact hnc | exact fun j u hu => hu
        case c2 => intro u hu; simp only [intCells, List.map_cons, List.map_nil, List.mem_singleton] at hu; subst hu; rfl
        case c3 => unfold maxLen; omega
        case c4 => omega
        case c5 => first | omega | (rw [World.size_alloc]; omega)
        intro v' w5 hown5 hgr5 _
        have hlt := HOA.out.lt
        have HO5 := Lib.hid hown5
        have HB5 := Lib.hid (HBA.out.grown hgr5 (by first | omega | (rw [World.size_alloc]; omega)) (fun k hk => (hlt k hk).1))
        clear hown5 hgr5 hlt hnc
        by_cases hck : c = k
        · subst hck
          obtain rfl : m = c := by omega
          go_wp2
          go_roundw
          case rel => exact ⟨pos + m, 0, 0, f - 1, some ⟨w.heap.size, pos, none⟩, ks ++ [c'], _, rfl, by simp, by omega, fun h => absurd h (by omega), by rw [List.length_append, intCells_app]; exact HO5.out, HB5.out, HT.out, HK.out, by rw [List.length_append]; simp; omega, HF.out, by omega⟩
          case measure => simp; omega
        · have hck' : ¬ (c : Int) = (k : Int) := by omega
          go_wp2
          go_roundw
          case rel => exact ⟨pos + k, m - k, c - k, f - 1, _, ks ++ [c'], _, rfl, by go_num, by omega, fun h => ⟨rfl, by omega⟩, by rw [List.length_append, intCells_app]; exact HO5.out, HB5.out, HT.out, HK.out, by rw [List.length_append]; simp; omega, HF.out, by omega⟩
          case measure => simp; omega
    · obtain rfl : m = 0 := by omega
      have HF : Hid (l = chars ks) := Lib.hid (by rw [← htk, List.take_of_length_le (by omega)])
      have HK := Lib.hid hks
      have HB := Lib.hid (hB1.trans (hbw.mono (by omega)))
      have HO := Lib.hid (own_base hO (show w.heap.size ≤ W1.heap.size by omega))
      clear hchk htk hks hO hB1 hbw hp
      go_wp2
      go_ret2
      exact ⟨HB.out, Or.inr ⟨ks, _, HF.out, HK.out, rfl, HO.out⟩⟩

end Go.Proofs.YtblhpkcdemefaaaGreatDoor

namespace Go.Proofs.YtblhpkcdemefaaaGreatDoor
open Go.RowKit

/-- Are characters a name without a prefix? -/
def plainC : List Nat → Bool
  | [] => false
  | c :: r => firstB c && r.all fun x => partB (x : Nat)

theorem madeGo_chars (p q : Int → Bool) : ∀ (cs : List Nat) (f : Nat) (b : Bool), allFine cs → (chars cs).length ≤ f →
    madeGo p q f (chars cs) b = match cs with | [] => true | c :: r => (if b = true then p c else q c) && r.all fun x => q (x : Nat)
  | [], f, b, _, _ => by cases f <;> simp [madeGo, chars_nil]
  | c :: cs, f, b, hf, hl => by
    have hpl := put_len c
    rw [chars_cons] at hl ⊢
    rw [List.length_append] at hl
    cases f with
    | zero => omega
    | succ f =>
      have hfc := hf c List.mem_cons_self
      have ih := madeGo_chars p q cs f false (fun x hx => hf x (List.mem_cons_of_mem _ hx)) (by omega)
      unfold madeGo
      rw [if_neg (put_ne c _), rune1_put c hfc]
      simp only [List.drop_left]
      rw [ih]
      cases cs with
      | nil => simp
      | cons d ds => simp
theorem plain_cs {cs : List Nat} (hf : allFine cs) : plainL (chars cs) = plainC cs := by
  unfold plainL madeL
  rw [madeGo_chars _ _ cs _ true hf (Nat.le_refl _)]
  cases cs with
  | nil => rfl
  | cons c r =>
    have : (chars (c :: r)).isEmpty = false := by rw [List.isEmpty_eq_false_iff, chars_cons]; exact put_ne c _
    rw [this]
    simp [plainC]
theorem plain_bad {l : List UInt8} (h : (checkL l).2 = false) : plainL l = false := by
  cases hp : plainL l with
  | false => rfl
  | true =>
    obtain ⟨cs, hc, hn, _⟩ := plain_chars hp
    rw [hc, checkL_chars cs hn.1] at h
    cases h
theorem plainC_drop {cs : List Nat} {i : Nat} (hi : i < cs.length) : ((cs.drop i).all fun x => partB (x : Nat)) = (partB (cs[i] : Nat) && (cs.drop (i + 1)).all fun x => partB (x : Nat)) := by
  rw [List.drop_eq_getElem_cons hi, List.all_cons]

set_option maxHeartbeats 4000000 in
set_option maxRecDepth 100000 in
theorem plainR_any (l : List UInt8) (s : ByteArray) (hs : s = ⟨l.toArray⟩) (w : World) (hl : l.length ≤ 100000000) :
    Calls Tryz.prog 121 #[.string s] w fun e w' => e = .returned (.bool (plainL l)) ∧ Below w.heap.size w w' := by
  have C := Lib.hid (charsR_any l s hs w hl)
  clear hs
  go_enter Tryz.func121, Tryz.ntmps121
  go_wp2_with fail
  refine (C.out).mono ?_
  rintro e w1 ⟨hb1, h⟩
  rcases h with ⟨hck, rfl⟩ | ⟨cs, v, hlc, hf, rfl, hO⟩
  · have HF := Lib.hid (plain_bad hck)
    clear hck
    go_wp2
    go_ret
    rw [HF.out]
    exact ⟨rfl, hb1⟩
  · have hP : plainL l = plainC cs := by rw [hlc, plain_cs hf]
    have hcl := chars_len cs
    rw [← hlc] at hcl
    have hcells := @World.ownsRow.cells _ _ _ _ _ _ _ hO
    have hs1 := hb1.size
    obtain ⟨n, hn⟩ : ∃ n, cs.length = n := ⟨_, rfl⟩
    rcases hO.2 with ⟨rfl, h0⟩ | ⟨g, cap, cur, rfl, _⟩
    · have : cs = [] := List.eq_nil_of_length_eq_zero h0
      subst this
      have HF : Hid (plainL l = false) := Lib.hid hP
      clear hP hlc hcells hn hO hcl
      go_wp2
      go_ret
      rw [HF.out]
      exact ⟨rfl, hb1⟩
    · have hcell : ∀ i (hi : i < cs.length), w1.cell? ⟨g, 0 + i, none⟩ = some (.int .i64 (cs[i] : Nat)) := fun i hi => by
        have := hcells (g := g) rfl i (.int .i64 (cs[i] : Nat)) (by simp [intCells, hi])
        rwa [Addr.add_lit] at this
      rw [hn]
      cases cs with
      | nil =>
        obtain rfl : n = 0 := hn.symm
        have HF : Hid (plainL l = false) := Lib.hid hP
        clear hP hlc hcells hn hO hcl hcell
        go_wp2
        go_ret
        rw [HF.out]
        exact ⟨rfl, hb1⟩
      | cons c r =>
        have hc0 := hcell 0 (by simp)
        rw [List.getElem_cons_zero] at hc0
        have HC := Lib.hid hcell
        have HN := Lib.hid hn
        have hn0 : 0 < n := by rw [← hn]; simp
        have hn0' : (0 : Int) < (n : Int) := by omega
        have in0 : ((n : Int) == 0) = false := by rw [beq_eq_false_iff_ne]; omega
        have hln : n ≤ 100000000 := by rw [hn] at hcl; omega
        have cF := fun wx => firstR_any (c : Nat) wx
        have hP1 : plainL l = (firstB (c : Nat) && r.all fun x => partB (x : Nat)) := hP
        clear hcell hn hlc hcells hO hcl hP hf C
        rw [Nat.zero_add] at hc0
        cases hfc : firstB (c : Nat) with
        | false =>
          rw [hfc, Bool.false_and] at hP1
          rw [hfc] at cF
          have HF := Lib.hid hP1
          have CF := Lib.hid cF
          clear hP1 cF hfc
          go_wp2_with (go_at_call 156; refine (CF.out _).mono ?_; rintro e w2 ⟨rfl, rfl⟩)
          go_ret
          rw [HF.out]
          exact ⟨rfl, hb1⟩
        | true =>
          rw [hfc, Bool.true_and] at hP1
          rw [hfc] at cF
          have HP : Hid (plainL l = (((c :: r).drop 1).all fun x => partB (x : Nat))) := Lib.hid hP1
          have CF := Lib.hid cF
          clear hP1 cF hfc
          go_wp2_with (go_at_call 156; refine (CF.out _).mono ?_; rintro e w2 ⟨rfl, rfl⟩)
          go_wp2
          go_loop [5] (fun v5 => ∃ i : Nat, v5 = .int .i64 i ∧ i ≤ n ∧ Hid (plainL l = (((c :: r).drop i).all fun x => partB (x : Nat)))) (fun v5 => n - (intOf v5).toNat)
          case atStart => exact ⟨1, rfl, hn0, HP⟩
          case round =>
            obtain ⟨i, rfl, hin, HI⟩ := hrel
            by_cases hi : i < n
            · have hil : i < (c :: r).length := by rw [HN.out]; exact hi
              have hci := HC.out i hil
              rw [Nat.zero_add] at hci
              have hst := plainC_drop hil
              obtain ⟨x, hx⟩ : ∃ x, (c :: r)[i] = x := ⟨_, rfl⟩
              rw [hx] at hci hst
              have cP := fun wx => partR_any (x : Nat) wx
              cases hpx : partB (x : Nat) with
              | false =>
                rw [hpx, Bool.false_and] at hst
                rw [hpx] at cP
                have HF : Hid (plainL l = false) := Lib.hid (HI.out.trans hst)
                have CP := Lib.hid cP
                clear hst cP hpx hx
                go_wp2_with (go_at_call 157; refine (CP.out _).mono ?_; rintro e w2 ⟨rfl, rfl⟩)
                go_ret
                rw [HF.out]
                exact ⟨rfl, hb1⟩
              | true =>
                rw [hpx, Bool.true_and] at hst
                rw [hpx] at cP
                have HF := Lib.hid (HI.out.trans hst)
                have CP := Lib.hid cP
                clear hst cP hpx hx
                go_wp2_with (go_at_call 157; refine (CP.out _).mono ?_; rintro e w2 ⟨rfl, rfl⟩)
                go_round
                case rel => exact ⟨i + 1, by go_num, by omega, HF⟩
                case measure => simp [intOf]; omega
            · have HF : Hid (plainL l = true) := Lib.hid (by rw [HI.out, List.drop_eq_nil_of_le (by rw [HN.out]; omega)]; rfl)
              go_wp2
              go_ret
              rw [HF.out]
              exact ⟨rfl, hb1⟩

theorem idx_str (l : List UInt8) (pos : Nat) (hp : pos < l.length) (b : UInt8) (hb : l[pos] = b) (wx : World) :
    (Instr.index 9 (.string ⟨l.toArray⟩) (.int .i64 pos)).run Tryz.prog wx = .ok (.int .u8 b.toNat) wx := by
  rw [run_index_string wx 9 ⟨l.toArray⟩ .i64 pos Tryz.underlying9, dif_pos ⟨by omega, by rw [ba_size]; omega⟩, ← hb]
  rfl
theorem from_str (l : List UInt8) (n : Nat) (z : Int) (hz : z = (n : Int)) (h : n ≤ l.length) (wx : World) :
    (Instr.slice 9 (.string ⟨l.toArray⟩) (some (.int .i64 z)) none none).run Tryz.prog wx = .ok (.string ⟨(l.drop n).toArray⟩) wx := by
  subst hz
  rw [run_slice_string_from_if wx 9 ⟨l.toArray⟩ .i64 n Tryz.underlying9, if_pos (by rw [ba_size]; omega)]
  have e : ((n : Int)).toNat = n := by omega
  rw [e, ba_size, extract_drop l n l.length (Nat.le_refl _)]

/-- How the first colon of a text is found. -/
def CutAt (l : List UInt8) (i : Nat) : Prop := (cutB 58 l).2.2 = (cutB 58 (l.drop i)).2.2 ∧ ((cutB 58 (l.drop i)).2.2 = true → (cutB 58 l).1 = l.take i ++ (cutB 58 (l.drop i)).1 ∧ (cutB 58 l).2.1 = (cutB 58 (l.drop i)).2.1)
theorem cutAt_0 (l : List UInt8) : CutAt l 0 := ⟨rfl, fun _ => ⟨rfl, rfl⟩⟩
theorem cutAt_next {l : List UInt8} {i : Nat} (h : CutAt l i) (hi : i < l.length) (hb : l[i] ≠ 58) : CutAt l (i + 1) := by
  have e : cutB 58 (l.drop i) = (l[i] :: (cutB 58 (l.drop (i + 1))).1, (cutB 58 (l.drop (i + 1))).2.1, (cutB 58 (l.drop (i + 1))).2.2) := by
    rw [List.drop_eq_getElem_cons hi]
    conv => lhs; unfold cutB
    rw [if_neg hb]
  unfold CutAt at h ⊢
  rw [e] at h
  simp only [] at h
  refine ⟨h.1, fun hh => ?_⟩
  have := h.2 hh
  rw [List.take_succ_eq_append_getElem hi, List.append_assoc]
  exact this
theorem cutAt_here {l : List UInt8} {i : Nat} (h : CutAt l i) (hi : i < l.length) (hb : l[i] = 58) : cutB 58 l = (l.take i, l.drop (i + 1), true) := by
  have e : cutB 58 (l.drop i) = ([], l.drop (i + 1), true) := by
    rw [List.drop_eq_getElem_cons hi, hb]
    unfold cutB
    rw [if_pos rfl]
  unfold CutAt at h
  rw [e] at h
  have h2 := h.2 rfl
  rw [List.append_nil] at h2
  exact Prod.ext h2.1 (Prod.ext h2.2 h.1)

def splitV (l : List UInt8) : Value := .tuple #[.string ⟨(splitR l).1.toArray⟩, .string ⟨(splitR l).2.toArray⟩, .bool (splitB l)]

set_option maxHeartbeats 4000000 in
set_option maxRecDepth 100000 in
theorem splitR2_any (l : List UInt8) (s : ByteArray) (hs : s = ⟨l.toArray⟩) (w : World) (hl : l.length ≤ 100000000) :
    Calls Tryz.prog 75 #[.string s] w fun e w' => e = .returned (splitV l) ∧ Below w.heap.size w w' := by
  subst hs
  have hsz := ba_size l
  have CW := Lib.hid (fun wx => plainR_any l ⟨l.toArray⟩ rfl wx hl)
  go_enter Tryz.func75, Tryz.ntmps75
  go_wp2
  go_loop [5] (fun v5 => ∃ i : Nat, v5 = .int .i64 i ∧ i ≤ l.length ∧ CutAt l i) (fun v5 => l.length - (intOf v5).toNat)
  case atStart => exact ⟨0, rfl, Nat.zero_le _, cutAt_0 l⟩
  case round =>
    obtain ⟨i, rfl, hil, hC⟩ := hrel
    by_cases hi : i < l.length
    · obtain ⟨b, hb⟩ : ∃ b, l[i] = b := ⟨_, rfl⟩
      have hix := fun wx => idx_str l i hi b hb wx
      by_cases h58 : b = 58
      · subst h58
        have hcut := cutAt_here hC hi hb
        have hto := fun wx => to_slice l i i rfl hil wx
        have hfr := fun wx => from_str l (i + 1) ((i : Int) + 1) (by omega) (by omega) wx
        have CA := Lib.hid (fun wx => plainR_any (l.take i) ⟨(l.take i).toArray⟩ rfl wx (by rw [List.length_take]; omega))
        have CB := Lib.hid (fun wx => plainR_any (l.drop (i + 1)) ⟨(l.drop (i + 1)).toArray⟩ rfl wx (by rw [List.length_drop]; omega))
        have hS : splitB l = (plainL (l.take i) && plainL (l.drop (i + 1))) := by unfold splitB; rw [hcut, if_pos rfl]
        have hR : splitR l = if splitB l = false then ([], []) else (l.take i, l.drop (i + 1)) := by unfold splitR; rw [hcut]; simp
        generalize l.take i = a at *
        generalize l.drop (i + 1) = d at *
        cases ha : plainL a with
        | false =>
          rw [ha] at hS CA
          rw [Bool.false_and] at hS
          rw [hS, if_pos rfl] at hR
          have HF : Hid (splitV l = .tuple #[.string ⟨#[]⟩, .string ⟨#[]⟩, .bool false]) := Lib.hid (by unfold splitV; rw [hS, hR])
          clear hS hR hcut hC ha hb CB CW
          go_wp2_with (go_at_call 121; refine (CA.out _).mono ?_; rintro e w2 ⟨rfl, hb2⟩)
          go_ret3
          rw [HF.out]
          exact ⟨rfl, hb2⟩
        | true =>
          rw [ha] at hS CA
          rw [Bool.true_and] at hS
          cases hd : plainL d with
          | false =>
            rw [hd] at hS CB
            rw [hS, if_pos rfl] at hR
            have HF : Hid (splitV l = .tuple #[.string ⟨#[]⟩, .string ⟨#[]⟩, .bool false]) := Lib.hid (by unfold splitV; rw [hS, hR])
            clear hS hR hcut hC ha hb hd CW
            go_wp2_with fail
            refine (CA.out _).mono ?_
            rintro e w2 ⟨rfl, hb2⟩
            have hs2 := hb2.size
            go_wp2_with fail
            refine (CB.out _).mono ?_
            rintro e w3 ⟨rfl, hb3⟩
            have HB3 := Lib.hid (hb2.trans (hb3.mono hs2))
            clear hb2 hb3
            go_wp2
            go_ret3
            rw [HF.out]
            exact ⟨rfl, HB3.out⟩
          | true =>
            rw [hd] at hS CB
            rw [hS, if_neg (by decide)] at hR
            have HF : Hid (splitV l = .tuple #[.string ⟨a.toArray⟩, .string ⟨d.toArray⟩, .bool true]) := Lib.hid (by unfold splitV; rw [hS, hR])
            clear hS hR hcut hC ha hb hd CW
            go_wp2_with fail
            refine (CA.out _).mono ?_
            rintro e w2 ⟨rfl, hb2⟩
            have hs2 := hb2.size
            go_wp2_with fail
            refine (CB.out _).mono ?_
            rintro e w3 ⟨rfl, hb3⟩
            have HB3 := Lib.hid (hb2.trans (hb3.mono hs2))
            clear hb2 hb3
            go_wp2
            go_ret3
            rw [HF.out]
            exact ⟨rfl, HB3.out⟩
      · have HN := Lib.hid (cutAt_next hC hi (by rw [hb]; exact h58))
        have ib : ((b.toNat : Int) == 58) = false := by
          rw [beq_eq_false_iff_ne]
          intro e
          apply h58
          have : b.toNat = (58 : UInt8).toNat := by show b.toNat = 58; omega
          exact UInt8.toNat_inj.1 this
        clear hb hC CW
        go_wp2
        go_round
        case rel => exact ⟨i + 1, by go_num, by omega, HN.out⟩
        case measure => simp [intOf]; omega
    · have hc0 : (cutB 58 l).2.2 = false := by rw [hC.1, List.drop_eq_nil_of_le (by omega)]; rfl
      have hS : splitB l = plainL l := by unfold splitB; rw [hc0, if_neg (by decide)]
      have hR : splitR l = if splitB l = false then ([], []) else ([], l) := by unfold splitR; rw [hc0]; simp
      cases hp : plainL l with
      | false =>
        rw [hp] at hS CW
        rw [hS, if_pos rfl] at hR
        have HF : Hid (splitV l = .tuple #[.string ⟨#[]⟩, .string ⟨#[]⟩, .bool false]) := Lib.hid (by unfold splitV; rw [hS, hR])
        clear hS hR hc0 hC hp
        go_wp2_with (go_at_call 121; refine (CW.out _).mono ?_; rintro e w2 ⟨rfl, hb2⟩)
        go_ret3
        rw [HF.out]
        exact ⟨rfl, hb2⟩
      | true =>
        rw [hp] at hS CW
        rw [hS, if_neg (by decide)] at hR
        have HF : Hid (splitV l = .tuple #[.string ⟨#[]⟩, .string ⟨l.toArray⟩, .bool true]) := Lib.hid (by unfold splitV; rw [hS, hR])
        clear hS hR hc0 hC hp
        go_wp2_with (go_at_call 121; refine (CW.out _).mono ?_; rintro e w2 ⟨rfl, hb2⟩)
        go_ret3
        rw [HF.out]
        exact ⟨rfl, hb2⟩

end Go.Proofs.YtblhpkcdemefaaaGreatDoor
