/- Walks: entity.escape, EscapeText, EscapeValue. -/
import Derived.Test.YtblhpkcdemefaaaGreatDoorTell
import Derived.Test.YtblhpkcdemefaaaGreatDoorEscp
set_option linter.unusedVariables false
set_option linter.unusedSimpArgs false
namespace Go.Proofs.YtblhpkcdemefaaaGreatDoor
open Go.RowKit Go.WideMaps

def intEntries (L : List (Int × List UInt8)) : List (Value × Value) := L.map fun q => (Value.int .i32 q.1, Value.string ⟨q.2.toArray⟩)

theorem intKeyed : Maps.Keyed Tryz.prog 21 := Maps.int_keyed Tryz.underlying21
theorem keyInt (c : Int) (h : -2147483648 ≤ c ∧ c ≤ 2147483647) : keyOf Tryz.prog 21 (.int .i32 c) = some (.int .i32 c) :=
  Maps.keyOf_int_mk Tryz.underlying21 (WalkArith.wf_i32 (by omega))

theorem intNew (L : List (Int × List UInt8)) (key : Int) (hL : ∀ q ∈ L, (0 ≤ q.1 ∧ q.1 ≤ 100) ∧ q.1 ≠ key) : ∀ p ∈ intEntries L, (∃ kl, keyOf Tryz.prog 21 p.1 = some kl) ∧ p.1 ≠ .int .i32 key := by
  intro p hp
  obtain ⟨q, hq, rfl⟩ := List.mem_map.1 hp
  exact ⟨⟨_, keyInt q.1 (by have := (hL q hq).1; omega)⟩, fun h => (hL q hq).2 (by injection h)⟩

theorem esc_look (E : List (Int × List UInt8)) (hE : ∀ q ∈ E, 0 ≤ q.1 ∧ q.1 ≤ 100) (hN : (E.map (·.1)).Nodup) (c : Nat) (hc : c ≤ 1114111) (w : World) (b : Nat) (h : litMap w b (intEntries E)) :
    (∃ x, escOf E c = some x ∧ (Instr.lookup 185 (.map (some b)) (.int .i32 c) true).run Tryz.prog w = .ok (.tuple #[.string ⟨x.toArray⟩, .bool true]) w) ∨
    (escOf E c = none ∧ (Instr.lookup 185 (.map (some b)) (.int .i32 c) true).run Tryz.prog w = .ok (.tuple #[.string ⟨#[]⟩, .bool false]) w) := by
  have hz : (zeroValue 9).run Tryz.prog w = .ok (.string ⟨#[]⟩) w := Tryz.zeroValue9 w
  rcases h.look intKeyed Tryz.underlying185 hz (keyInt c (by omega)) (fun p hp => by
    obtain ⟨q, hq, rfl⟩ := List.mem_map.1 hp
    exact ⟨_, keyInt q.1 (by have := hE q hq; omega)⟩) with ⟨v, hv, hrun⟩ | ⟨hn, hrun⟩
  · refine Or.inl ?_
    obtain ⟨q, hq, he⟩ := List.mem_map.1 hv
    have e1 : q.1 = (c : Int) := by
      have := congrArg Prod.fst he
      injection this
    have e2 : Value.string ⟨q.2.toArray⟩ = v := congrArg Prod.snd he
    refine ⟨q.2, escOf_mem hN (by rw [← e1]; exact hq), ?_⟩
    rw [hrun, ← e2]
  · refine Or.inr ⟨?_, hrun⟩
    unfold escOf
    rw [List.find?_eq_none.2]
    · rfl
    · intro p hp
      have := hn (Value.int .i32 p.1, Value.string ⟨p.2.toArray⟩) (List.mem_map.2 ⟨p, hp, rfl⟩)
      simp only [beq_iff_eq]
      exact fun e => this (by rw [e])

theorem strCells_mk (x : List UInt8) : Lib.strCells ⟨x.toArray⟩ = Lib.byteCells x := rfl

/-- What escape hands back. -/
def escRes (E : List (Int × List UInt8)) (l : List UInt8) : Value := if (checkL l).2 = true then .tuple #[.string ⟨(escL E l).toArray⟩, .int .i64 0] else .tuple #[.string ⟨#[]⟩, .int .i64 4]

set_option maxHeartbeats 8000000 in
set_option maxRecDepth 100000 in
theorem escape_any (E : List (Int × List UInt8)) (hE : ∀ q ∈ E, 0 ≤ q.1 ∧ q.1 ≤ 100) (hN : (E.map (·.1)).Nodup) (hE6 : ∀ q ∈ E, q.2.length ≤ 6) (l : List UInt8) (s : ByteArray) (hs : s = ⟨l.toArray⟩) (mb : Nat) (w : World) (hl : l.length ≤ 1000000000) (hR : Ready w) (hM : litMap w mb (intEntries E)) :
    Calls Tryz.prog 115 #[.string s, .map (some mb)] w fun e w' => e = .returned (escRes E l) ∧ Below w.heap.size w w' := by
  subst hs
  have hcv := Lib.run_convert_string_bytes (P := Tryz.prog) w 9 22 5 ⟨l.toArray⟩ (u := .string) Tryz.underlying9 Tryz.underlying22 Tryz.underlying5
  have hB : bytesAt (Lib.bytesWorld w 5 ⟨l.toArray⟩) w.heap.size 0 l := fun j hj => by
    rw [Nat.zero_add]; exact Lib.bytesWorld_cell w 5 ⟨l.toArray⟩ j (by rw [ba_size]; exact hj)
  have hbelow : Below w.heap.size w (Lib.bytesWorld w 5 ⟨l.toArray⟩) := bytesWorld_below w 5 _
  rw [ba_size] at hcv
  generalize grownCap w l.length 0 5 = cap at *
  obtain ⟨W1, hW1⟩ : ∃ W1, W1 = Lib.bytesWorld w 5 ⟨l.toArray⟩ := ⟨_, rfl⟩
  rw [← hW1] at hcv hB hbelow
  clear hW1
  have hR1 := hR.below hbelow
  have cC := check_any l w.heap.size 0 cap W1 (by omega) hR1 hB
  have hs1 := hbelow.size
  have HBELOW := Lib.hid hbelow
  cases hck : (checkL l).2 with
  | false =>
    have HF : Hid (escRes E l = .tuple #[.string ⟨#[]⟩, .int .i64 4]) := Lib.hid (by unfold escRes; rw [hck, if_neg (by decide)])
    have e : checkRes (checkL l) = .tuple #[.int .i64 (checkL l).1, .int .i64 4] := by unfold checkRes; rw [hck, if_neg (by decide)]
    rw [e] at cC
    generalize (checkL l).1 = p at *
    have CC := Lib.hid cC
    clear cC hB hbelow hck e
    go_enter Tryz.func115, Tryz.ntmps115
    go_wp2_with (go_at_call 30; refine (CC.out).mono ?_; rintro e w2 ⟨rfl, hb2⟩)
    go_ret2
    exact ⟨by rw [HF.out]; rfl, HBELOW.out.trans (hb2.mono hs1)⟩
  | true =>
    have HF : Hid (escRes E l = .tuple #[.string ⟨(escL E l).toArray⟩, .int .i64 0]) := Lib.hid (by unfold escRes; rw [hck, if_pos rfl])
    have e : checkRes (checkL l) = .tuple #[.int .i64 (checkL l).1, .int .i64 0] := by unfold checkRes; rw [hck, if_pos rfl]
    rw [e] at cC
    generalize (checkL l).1 = p at *
    have CC := Lib.hid cC
    clear cC hB hbelow hck e
    go_enter Tryz.func115, Tryz.ntmps115
    go_wp2_with (go_at_call 30; refine (CC.out).mono ?_; rintro e w2 ⟨rfl, hb2⟩)
    have hbw2 : Below w.heap.size w w2 := HBELOW.out.trans (hb2.mono hs1)
    have hs2 := hbw2.size
    clear hcv CC hb2
    go_loopw [] (fun wr => ∃ (pos fuel : Nat) (acc : List UInt8), Lib.IsBuilderF 111 5 w2.heap.size w2.heap.size (Lib.byteCells acc) wr ∧ wr.heap[w2.heap.size + 1]? = some (.stringIter ⟨l.toArray⟩ pos) ∧ Below w2.heap.size w2 wr ∧ acc ++ escGo E fuel (l.drop pos) = escL E l ∧ l.length ≤ pos + fuel ∧ pos ≤ l.length ∧ acc.length ≤ 6 * pos) (fun wr => l.length - wr.iterPos (w2.heap.size + 1))
    case atStart =>
      refine ⟨0, l.length, [], (Lib.IsBuilderF.of (Lib.fresh_isBuilder 111 5 w2)).alloc _, ?_, ((Below.refl _ w2).alloc (Nat.le_refl _) _).alloc (by simp) _, rfl, by omega, by omega, by simp⟩
      have := World.iter_heap (w2.alloc (.cells #[.pointer none, .slice none 0 0] 111)) ⟨l.toArray⟩ 0
      simpa using this
    case round =>
      obtain ⟨pos, fuel, acc, hI, hit, hbw, hacc, hfu, hpl, hal⟩ := hrel
      have hsz : w2.heap.size + 1 < wr.heap.size := (Array.getElem?_eq_some_iff.1 hit).1
      by_cases hp : pos < l.length
      · have h0 : l.drop pos ≠ [] := by
          intro h
          have := congrArg List.length h
          simp at this
          omega
        have hnx : ∀ ty, (Instr.next (.pointer (some ⟨w2.heap.size + 1, 0, none⟩)) true ty).run Tryz.prog wr = _ := fun ty => Lib.run_next_any_at wr (w2.heap.size + 1) ⟨l.toArray⟩ pos ty hit (by rw [ba_size]; exact hp)
        rw [decode_drop] at hnx
        have hstr : ((⟨l.toArray⟩ : ByteArray)).data.toList.drop pos = l.drop pos := rfl
        rw [hstr] at hnx
        clear hstr
        have hst := escGo_step E (f := fuel) (l := l.drop pos) (by simp; omega) h0
        obtain ⟨b1, b2, b3, b4⟩ := dec_bounds _ h0
        rw [List.length_drop] at b3
        generalize (Lib.decodeL (l.drop pos)).1 = c at *
        generalize (Lib.decodeL (l.drop pos)).2 = n at *
        have hI2 := hI.iterAt hit (pos + n)
        have hit2 := Lib.iterAt_heap wr (w2.heap.size + 1) ⟨l.toArray⟩ pos (pos + n) hit
        have hbw3 := Lib.below_iterAt hbw (k := w2.heap.size + 1) (by omega) ⟨l.toArray⟩ (pos + n)
        have hsz2 : w2.heap.size ≤ (wr.iterAt (w2.heap.size + 1) ⟨l.toArray⟩ (pos + n)).heap.size := by rw [Lib.iterAt_size]; omega
        have HST : Hid (acc ++ (escB E c ++ escGo E (fuel - 1) (l.drop (pos + n))) = escL E l) := Lib.hid (by rw [← hacc, hst, List.drop_drop])
        have HIT := Lib.hid hit
        obtain ⟨w3, hw3⟩ : ∃ w3, w3 = wr.iterAt (w2.heap.size + 1) ⟨l.toArray⟩ (pos + n) := ⟨_, rfl⟩
        rw [← hw3] at hnx hI2 hit2 hbw3 hsz2
        clear hw3 hit hst hacc h0 hI hbw
        have hM3 := (hM.below hbw2 hM.lt).below hbw3 (by have := hM.lt; omega)
        have HI := Lib.hid hI2
        have HIT2 := Lib.hid hit2
        clear hI2 hit2
        rcases esc_look E hE hN c (by omega) w3 mb hM3 with ⟨x, hx, hrun⟩ | ⟨hx, hrun⟩
        · have hx6 : x.length ≤ 6 := by
            unfold escOf at hx
            rw [Option.map_eq_some_iff] at hx
            obtain ⟨q, hq, rfl⟩ := hx
            exact hE6 q (List.mem_of_find?_eq_some hq)
          have HB : Hid (escB E c = x) := Lib.hid (by unfold escB; rw [hx])
          clear hx hM3
          go_wp2_with (go_at_call 96; refine (Tryz.bWriteString w2.heap.size w2.heap.size _ _ _ HI.out (by rw [Lib.byteCells_length, ba_size]; omega) hsz2).mono ?_; rintro e w9 ⟨rfl, h1, bb1, k1⟩)
          have hit9 := k1.iter HIT2.out (by omega)
          go_roundw
          case rel =>
            refine ⟨pos + n, fuel - 1, acc ++ x, ?_, hit9, hbw3.trans bb1, ?_, by omega, by omega, by rw [List.length_append]; omega⟩
            · rw [Lib.byteCells_append, ← strCells_mk]; exact Or.inr h1
            · rw [← HST.out, HB.out, List.append_assoc]
          case measure => simp only [World.iterPos, hit9, HIT.out]; omega
        · have HB : Hid (escB E c = Lib.encodeRune c) := Lib.hid (by unfold escB; rw [hx])
          clear hx hM3
          go_wp2_with (go_at_call 151; refine (Tryz.bWriteRune w2.heap.size w2.heap.size _ _ (by omega) (by omega) _ HI.out (by rw [Lib.byteCells_length]; omega) hsz2).mono ?_; rintro e w9 ⟨rfl, h1, bb1, k1⟩)
          have hit9 := k1.iter HIT2.out (by omega)
          go_roundw
          case rel =>
            have hl4 := Lib.runeCells_le (c : Int)
            rw [Lib.runeCells_length] at hl4
            refine ⟨pos + n, fuel - 1, acc ++ Lib.encodeRune c, ?_, hit9, hbw3.trans bb1, ?_, by omega, by omega, by rw [List.length_append]; omega⟩
            · rw [Lib.byteCells_append, Lib.byteCells_encodeRune]; exact Or.inr h1
            · rw [← HST.out, HB.out, List.append_assoc]
          case measure => simp only [World.iterPos, hit9, HIT.out]; omega
      · have hnx : ∀ ty, (Instr.next (.pointer (some ⟨w2.heap.size + 1, 0, none⟩)) true ty).run Tryz.prog wr = _ := fun ty => Lib.run_next_end_at wr (w2.heap.size + 1) ⟨l.toArray⟩ pos ty hit (by rw [ba_size]; exact hp)
        have HE : Hid (escL E l = acc) := Lib.hid (by rw [← hacc, List.drop_eq_nil_of_le (by omega), escGo_nil, List.append_nil])
        clear hacc hit
        go_wp2_with (go_at_call 54; refine (Tryz.Builder_String_any_k w2.heap.size w2.heap.size acc _ hI (by omega)).mono ?_; rintro e w9 ⟨rfl, _, bb1, _⟩)
        go_ret2
        exact ⟨by rw [HF.out, HE.out]; rfl, hbw2.trans ((hbw.trans bb1).mono hs2)⟩


set_option maxHeartbeats 4000000 in
set_option maxRecDepth 100000 in
theorem escText_any (l : List UInt8) (s : ByteArray) (hs : s = ⟨l.toArray⟩) (w : World) (hl : l.length ≤ 1000000000) (hR : Ready w) :
    Calls Tryz.prog 71 #[.string s] w fun e w' => e = .returned (escRes escT l) ∧ Below w.heap.size w w' := by
  subst hs
  have hmm := @run_makeMap Tryz.prog
  have hm0 := litMap_made w
  have hbel0 := (Below.refl w.heap.size w).alloc (Nat.le_refl _) (.map #[] 0)
  obtain ⟨w1, hrun1, hm1, hg1⟩ := hm0.insert (key := .int .i32 38) (val := .string ⟨#[38, 97, 109, 112, 59]⟩) intKeyed Tryz.underlying185 (keyInt 38 (by decide)) (intNew (escT.take 0) 38 (by decide))
  have hbel1 := hbel0.grown hg1 (by have := hm0.lt; omega) (by intro k hk; cases hk; omega)
  obtain ⟨w2, hrun2, hm2, hg2⟩ := hm1.insert (key := .int .i32 60) (val := .string ⟨#[38, 108, 116, 59]⟩) intKeyed Tryz.underlying185 (keyInt 60 (by decide)) (intNew (escT.take 1) 60 (by decide))
  have hbel2 := hbel1.grown hg2 (by have := hm1.lt; omega) (by intro k hk; cases hk; omega)
  obtain ⟨w3, hrun3, hm3, hg3⟩ := hm2.insert (key := .int .i32 62) (val := .string ⟨#[38, 103, 116, 59]⟩) intKeyed Tryz.underlying185 (keyInt 62 (by decide)) (intNew (escT.take 2) 62 (by decide))
  have hbel3 := hbel2.grown hg3 (by have := hm2.lt; omega) (by intro k hk; cases hk; omega)
  obtain ⟨w4, hrun4, hm4, hg4⟩ := hm3.insert (key := .int .i32 13) (val := .string ⟨#[38, 35, 49, 51, 59]⟩) intKeyed Tryz.underlying185 (keyInt 13 (by decide)) (intNew (escT.take 3) 13 (by decide))
  have hbel4 := hbel3.grown hg4 (by have := hm3.lt; omega) (by intro k hk; cases hk; omega)
  have cE := escape_any escT (by decide) (by decide) (by decide) l ⟨l.toArray⟩ rfl w.heap.size w4 hl (hR.below hbel4) hm4
  have HB := Lib.hid hbel4
  have hs5 := hbel4.size
  unfold escRes at cE ⊢
  clear hm0 hbel0 hm1 hbel1 hm2 hbel2 hm3 hbel3 hm4 hbel4 hg1 hg2 hg3 hg4
  cases hck : (checkL l).2 with
  | true =>
    rw [hck, if_pos rfl] at cE
    rw [if_pos rfl]
    have CE := Lib.hid cE
    clear cE hck
    go_enter Tryz.func71, Tryz.ntmps71
    go_wp2_with (go_at_call 115; refine (CE.out).mono ?_; rintro e w' ⟨rfl, hb⟩)
    go_ret2
    exact ⟨rfl, HB.out.trans (hb.mono hs5)⟩
  | false =>
    rw [hck, if_neg (by decide)] at cE
    rw [if_neg (by decide)]
    have CE := Lib.hid cE
    clear cE hck
    go_enter Tryz.func71, Tryz.ntmps71
    go_wp2_with (go_at_call 115; refine (CE.out).mono ?_; rintro e w' ⟨rfl, hb⟩)
    go_ret2
    exact ⟨rfl, HB.out.trans (hb.mono hs5)⟩

set_option maxHeartbeats 4000000 in
set_option maxRecDepth 100000 in
theorem escValue_any (l : List UInt8) (s : ByteArray) (hs : s = ⟨l.toArray⟩) (w : World) (hl : l.length ≤ 1000000000) (hR : Ready w) :
    Calls Tryz.prog 119 #[.string s] w fun e w' => e = .returned (escRes escV l) ∧ Below w.heap.size w w' := by
  subst hs
  have hmm := @run_makeMap Tryz.prog
  have hm0 := litMap_made w
  have hbel0 := (Below.refl w.heap.size w).alloc (Nat.le_refl _) (.map #[] 0)
  obtain ⟨w1, hrun1, hm1, hg1⟩ := hm0.insert (key := .int .i32 38) (val := .string ⟨#[38, 97, 109, 112, 59]⟩) intKeyed Tryz.underlying185 (keyInt 38 (by decide)) (intNew (escV.take 0) 38 (by decide))
  have hbel1 := hbel0.grown hg1 (by have := hm0.lt; omega) (by intro k hk; cases hk; omega)
  obtain ⟨w2, hrun2, hm2, hg2⟩ := hm1.insert (key := .int .i32 60) (val := .string ⟨#[38, 108, 116, 59]⟩) intKeyed Tryz.underlying185 (keyInt 60 (by decide)) (intNew (escV.take 1) 60 (by decide))
  have hbel2 := hbel1.grown hg2 (by have := hm1.lt; omega) (by intro k hk; cases hk; omega)
  obtain ⟨w3, hrun3, hm3, hg3⟩ := hm2.insert (key := .int .i32 62) (val := .string ⟨#[38, 103, 116, 59]⟩) intKeyed Tryz.underlying185 (keyInt 62 (by decide)) (intNew (escV.take 2) 62 (by decide))
  have hbel3 := hbel2.grown hg3 (by have := hm2.lt; omega) (by intro k hk; cases hk; omega)
  obtain ⟨w4, hrun4, hm4, hg4⟩ := hm3.insert (key := .int .i32 13) (val := .string ⟨#[38, 35, 49, 51, 59]⟩) intKeyed Tryz.underlying185 (keyInt 13 (by decide)) (intNew (escV.take 3) 13 (by decide))
  have hbel4 := hbel3.grown hg4 (by have := hm3.lt; omega) (by intro k hk; cases hk; omega)
  obtain ⟨w5, hrun5, hm5, hg5⟩ := hm4.insert (key := .int .i32 34) (val := .string ⟨#[38, 113, 117, 111, 116, 59]⟩) intKeyed Tryz.underlying185 (keyInt 34 (by decide)) (intNew (escV.take 4) 34 (by decide))
  have hbel5 := hbel4.grown hg5 (by have := hm4.lt; omega) (by intro k hk; cases hk; omega)
  obtain ⟨w6, hrun6, hm6, hg6⟩ := hm5.insert (key := .int .i32 9) (val := .string ⟨#[38, 35, 57, 59]⟩) intKeyed Tryz.underlying185 (keyInt 9 (by decide)) (intNew (escV.take 5) 9 (by decide))
  have hbel6 := hbel5.grown hg6 (by have := hm5.lt; omega) (by intro k hk; cases hk; omega)
  obtain ⟨w7, hrun7, hm7, hg7⟩ := hm6.insert (key := .int .i32 10) (val := .string ⟨#[38, 35, 49, 48, 59]⟩) intKeyed Tryz.underlying185 (keyInt 10 (by decide)) (intNew (escV.take 6) 10 (by decide))
  have hbel7 := hbel6.grown hg7 (by have := hm6.lt; omega) (by intro k hk; cases hk; omega)
  have cE := escape_any escV (by decide) (by decide) (by decide) l ⟨l.toArray⟩ rfl w.heap.size w7 hl (hR.below hbel7) hm7
  have HB := Lib.hid hbel7
  have hs5 := hbel7.size
  unfold escRes at cE ⊢
  clear hm0 hbel0 hm1 hbel1 hm2 hbel2 hm3 hbel3 hm4 hbel4 hm5 hbel5 hm6 hbel6 hm7 hbel7 hg1 hg2 hg3 hg4 hg5 hg6 hg7
  cases hck : (checkL l).2 with
  | true =>
    rw [hck, if_pos rfl] at cE
    rw [if_pos rfl]
    have CE := Lib.hid cE
    clear cE hck
    go_enter Tryz.func119, Tryz.ntmps119
    go_wp2_with (go_at_call 115; refine (CE.out).mono ?_; rintro e w' ⟨rfl, hb⟩)
    go_ret2
    exact ⟨rfl, HB.out.trans (hb.mono hs5)⟩
  | false =>
    rw [hck, if_neg (by decide)] at cE
    rw [if_neg (by decide)]
    have CE := Lib.hid cE
    clear cE hck
    go_enter Tryz.func119, Tryz.ntmps119
    go_wp2_with (go_at_call 115; refine (CE.out).mono ?_; rintro e w' ⟨rfl, hb⟩)
    go_ret2
    exact ⟨rfl, HB.out.trans (hb.mono hs5)⟩

end Go.Proofs.YtblhpkcdemefaaaGreatDoor
