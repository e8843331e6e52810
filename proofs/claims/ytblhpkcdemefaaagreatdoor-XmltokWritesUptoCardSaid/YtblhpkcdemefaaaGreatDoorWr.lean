/- Walks: xmltok.Write. -/
import Derived.Test.YtblhpkcdemefaaaGreatDoorWt
import Derived.Lib.AppendStr
import Derived.Deep.QuietTactic
import Derived.BigQuiet
set_option linter.unusedVariables false
set_option linter.unusedSimpArgs false
namespace Go.Proofs.YtblhpkcdemefaaaGreatDoor
open Go.RowKit

theorem info_u8w : (Tryz.prog.info? 5).map (fun i => (i.zero, i.size, i.bytes)) = some (some (.int .u8 0), 1, 1) := by kernel_rfl

/-- A world in which all of another one lies as it was. -/
structure BelowW (w : World) where
  w' : World
  h : Below w.heap.size w w'
instance (w : World) : Inhabited (BelowW w) := ⟨⟨w, Below.refl _ _⟩⟩
theorem wp_region_quiet_below {P : Program} {id : Nat} {Q : Exit → Act → World → Prop} {a : Act} {w : World} {l : List Oper} (hm : P.follows .mixedOrders = true) (hB : Region.lexB .any l.toArray = true)
    (h : wpQuiet P l.toArray (fun v => ∃ p : BelowW w, v = p.w') (fun a' => ∀ v, (∃ p : BelowW w, v = p.w') → Q .normal a' v) l a) : (Code.region id l.toArray true).wp P Q a w :=
  wp_region_quiet (C := fun v => ∃ p : BelowW w, v = p.w') hm hB ⟨⟨_, below_drewN w 1⟩, rfl⟩ (by simpa using h)
theorem calls_belowW {P : Program} {f : FuncId} {args : Array Value} {v : Value} {wa : World} (h : ∀ wx, Below wa.heap.size wa wx → Calls P f args wx fun e w' => e = .returned v ∧ Below wx.heap.size wx w') (p : BelowW wa) :
    Calls P f args p.w' fun e w'' => e = .returned v ∧ ∃ q : BelowW wa, w'' = q.w' :=
  (h p.w' p.h).mono fun _ _ ⟨he, hb⟩ => ⟨he, ⟨_, p.h.trans (hb.mono p.h.size)⟩, rfl⟩

def writeGo : List RT → Nat → Bool → List UInt8 → List UInt8 × Nat × Nat
  | [], _, _, acc => (acc, 0, 0)
  | t :: r, i, b, acc => if (tokW t b).2 = 0 then writeGo r (i + 1) (decide (t.kind = 3)) (acc ++ (tokW t b).1) else ([], i, (tokW t b).2)
def writeL (l : List RT) : List UInt8 × Nat × Nat := writeGo l 0 false []
def prevB (l : List RT) : Nat → Bool
  | 0 => false
  | j + 1 => match l[j]? with | some t => decide (t.kind = 3) | none => false
theorem prev_succ {l : List RT} {i : Nat} {t : RT} (hi : i < l.length) (ht : l[i] = t) : prevB l (i + 1) = decide (t.kind = 3) := by
  show (match l[i]? with | some t => decide (t.kind = 3) | none => false) = _
  rw [List.getElem?_eq_getElem hi, ht]
theorem write_step {l : List RT} {i : Nat} {b : Bool} {acc : List UInt8} (hi : i < l.length) : writeGo (l.drop i) i b acc = if (tokW l[i] b).2 = 0 then writeGo (l.drop (i + 1)) (i + 1) (decide (l[i].kind = 3)) (acc ++ (tokW l[i] b).1) else ([], i, (tokW l[i] b).2) := by
  rw [List.drop_eq_getElem_cons hi]; rfl
theorem tokW_len (t : RT) (b : Bool) (hs : t.s.length ≤ 3000) (hlen : t.attrs.length ≤ 3000) (hps : ∀ p ∈ t.attrs, p.name.length ≤ 3000 ∧ p.value.length ≤ 3000) : (tokW t b).1.length ≤ 100000000 := by
  have ha := attrs_len t.attrs hlen hps
  unfold tokW
  split
  · split
    · simp
    · split
      · rename_i hck
        have := (esc_le t.s hck).2
        show (escL escT t.s).length ≤ _
        omega
      · simp
  · split
    · simp
    · split
      · simp
      · split
        · split
          · simp
          · simp; omega
        · split
          · simp
          · split <;> simp <;> omega
theorem sum_le {a b i : Nat} (h1 : a ≤ i * 100000000) (h2 : b ≤ 100000000) (hi : i ≤ 3000) : a + b ≤ 400000000000 := by omega
theorem step_le {a b i : Nat} (h1 : a ≤ i * 100000000) (h2 : b ≤ 100000000) : a + b ≤ (i + 1) * 100000000 := by omega
theorem strCells_eq (l : List UInt8) : Lib.strCells ⟨l.toArray⟩ = Lib.byteCells l := by
  unfold Lib.strCells Lib.byteCells; simp
theorem own_below {w w' : World} {base size n : Nat} {e : TypeId} {v : Value} {xs : List Value} (h : w.ownsRow base e size v n xs) (hb : Below w.heap.size w w') : w'.ownsRow base e size v n xs := by
  refine h.kept (below_grows hb none) ?_
  cases v.ownBlock <;> simp

set_option maxHeartbeats 8000000 in
set_option maxRecDepth 100000 in
theorem write_any (l : List RT) (v : Value) (w : World) (h : ToksAt w v l) (hR : Ready w) (hlen : l.length ≤ 3000) (hsz : ∀ t ∈ l, t.s.length ≤ 3000 ∧ t.attrs.length ≤ 3000 ∧ ∀ p ∈ t.attrs, p.name.length ≤ 3000 ∧ p.value.length ≤ 3000) :
    Calls Tryz.prog 15 #[v] w fun e w' => ∃ bv, e = .returned (.tuple #[bv, .int .i64 (writeL l).2.1, .int .i64 (writeL l).2.2]) ∧ w'.ownsRow w.heap.size 5 1 bv (writeL l).1.length (Lib.byteCells (writeL l).1) ∧ Below w.heap.size w w' := by
  obtain ⟨p, cap, rfl, hcap, hcell⟩ := h
  obtain ⟨i0, hi0, hz0, hz1, hz2⟩ := info_parts info_u8w
  obtain ⟨n, hn⟩ : ∃ n, l.length = n := ⟨_, rfl⟩
  have HC := Lib.hid hcell
  have HS := Lib.hid hsz
  rw [hn] at hlen hcap ⊢
  clear hcell hsz
  go_enter Tryz.func15, Tryz.ntmps15
  go_wp2
  go_loopw [5, 12] (fun v5 v12 wr => ∃ (i : Nat) (acc : List UInt8) (bv : Value), bv = v5 ∧ v12 = .int .i64 i ∧ wr.ownsRow w.heap.size 5 1 bv acc.length (Lib.byteCells acc) ∧ i ≤ n ∧ Below w.heap.size w wr ∧ writeL l = writeGo (l.drop i) i (prevB l i) acc ∧ acc.length ≤ i * 100000000) (fun _ v12 _ => n - (intOf v12).toNat)
  case atStart => exact ⟨0, [], _, rfl, rfl, World.ownsRow_nil _ _ _ _, Nat.zero_le _, Below.refl _ _, rfl, Nat.zero_le _⟩
  case round =>
    obtain ⟨i, acc, bv, hbv, rfl, hO, hin, hbw, hchk, hacc⟩ := hrel
    subst hbv
    have hs := hbw.size
    by_cases hi : i < n
    · have hia : i < l.length := by omega
      obtain ⟨g, off, av, hp, a0, a1, a2, a3, a4⟩ := HC.out i hia
      have hts := HS.out _ (List.getElem_mem hia)
      obtain ⟨t, hti⟩ : ∃ t, l[i] = t := ⟨_, rfl⟩
      rw [hti] at a0 a1 a2 a4 hts
      subst hp
      have a4' := a4
      obtain ⟨pp, pc, hav, _⟩ := a4'
      subst hav
      obtain ⟨na, hna⟩ : ∃ na, t.attrs.length = na := ⟨_, rfl⟩
      rw [hna] at a3 a4
      have a0' := cellB hbw a0
      have a1' := cellB hbw a1
      have a2' := cellB hbw a2
      have a3' := cellB hbw a3
      by_cases hi0' : i = 0
      · subst hi0'
        have hpv : prevB l 0 = false := rfl
        rw [hpv] at hchk
        clear hpv
        rw [Nat.zero_mul, Nat.add_zero] at a0' a1' a2' a3'
        rw [show ((0 : Nat) : Int) = 0 from rfl]
        have cT := fun wx (hx : Below wr.heap.size wr wx) => token_any t (false) (.slice pp na pc) wx ((a4.below hbw).below hx) ((hR.below hbw).below hx) hts.1 hts.2.1 hts.2.2
        have hst := write_step (acc := acc) (b := false) hia
        rw [hti] at hst
        have htl := tokW_len t (false) hts.1 hts.2.1 hts.2.2
        generalize tokW t (false) = r at *
        obtain ⟨bs, e⟩ := r
        simp only [] at cT hst htl
        have CT := Lib.hid cT
        have hba := (Below.refl wr.heap.size wr).alloc (Nat.le_refl _) (Obj.cells #[.int .i64 t.kind, .int .i64 t.at_, .string ⟨t.s.toArray⟩, .slice pp na pc] 30)
        have hK := heap_alloc_new wr (Obj.cells #[.int .i64 t.kind, .int .i64 t.at_, .string ⟨t.s.toArray⟩, .slice pp na pc] 30)
        have z0 := blk4_c0 hK
        have z1 := blk4_c1 hK
        have z2 := blk4_c2 hK
        have z3 := blk4_c3 hK
        have hbs := ba_size bs
        clear cT
        obtain ⟨wa, hwa⟩ : ∃ wa, wa = (wr.alloc (Obj.cells #[.int .i64 t.kind, .int .i64 t.at_, .string ⟨t.s.toArray⟩, .slice pp na pc] 30)) := ⟨_, rfl⟩
        rw [← hwa] at z0 z1 z2 z3 hba 
        clear hK
        go_wp2
        rw [← hwa]
        clear hwa
        have Z0 : ∀ p : BelowW wa, p.w'.cell? ⟨wr.heap.size, 0, none⟩ = some (.int .i64 t.kind) := fun p => cellB p.h z0
        have Z1 : ∀ p : BelowW wa, p.w'.cell? ⟨wr.heap.size, 1, none⟩ = some (.int .i64 t.at_) := fun p => cellB p.h z1
        have Z2 : ∀ p : BelowW wa, p.w'.cell? ⟨wr.heap.size, 2, none⟩ = some (.string ⟨t.s.toArray⟩) := fun p => cellB p.h z2
        have Z3 : ∀ p : BelowW wa, p.w'.cell? ⟨wr.heap.size, 3, none⟩ = some (.slice pp na pc) := fun p => cellB p.h z3
        have CTB := calls_belowW (wa := wa) (fun wx hx => CT.out wx (hba.trans (hx.mono hba.size)))
        refine wp_region_quiet_below (by kernel_rfl) (by kernel_rfl) ?_
        repeat (go_big_quiet_step (exact CTB _))
        refine wpQuiet_nil ?_
        intro wq hwq
        obtain ⟨⟨w3x, hb3'⟩, hwq⟩ := hwq
        obtain rfl : wq = w3x := hwq
        have hbr3 : Below wr.heap.size wr wq := hba.trans (Below.mono hb3' hba.size)
        have hbw3 := hbw.trans (hbr3.mono hs)
        have hs3 := hbw3.size
        have HO3 := Lib.hid (own_below hO hbr3)
        clear hb3' hba z0 z1 z2 z3 CT Z0 Z1 Z2 Z3 CTB
        by_cases he : e = 0
        · subst he
          rw [if_pos rfl] at hst
          have hlt := HO3.out.lt
          have hM : acc.length + bs.length ≤ 400000000000 := sum_le hacc htl (Nat.le_trans hin hlen)
          go_wp2_with (at_builtin; refine Lib.wpList_append_own_string _ rfl _ _ 22 9 rfl w.heap.size 5 i0 Tryz.underlying22 Tryz.underlying9 hi0 hz0 hz1 hz2 bv _ _ rfl HO3.out ⟨bs.toArray⟩ rfl ?c3 ?c4 ?c5 ?_)
          case c3 => first | exact Nat.le_trans hM (by decide) | (rw [hbs]; exact Nat.le_trans hM (by decide))
          case c4 => first | exact Nat.le_trans hM (by decide) | (rw [hbs]; exact Nat.le_trans hM (by decide))
          case c5 => omega
          intro v' w5 hown5 hgr5 _
          have hb5 : Below w.heap.size w w5 := hbw3.grown hgr5 (by omega) (fun k hk => (hlt k hk).1)
          have hsc : Lib.strCells ⟨bs.toArray⟩ = Lib.byteCells bs := strCells_eq bs
          first | rw [hsc, hbs] at hown5 | rw [hsc] at hown5
          have HO5 := Lib.hid hown5
          have HB5 := Lib.hid hb5
          have HCH := Lib.hid (hchk.trans hst)
          clear hown5 hgr5 hb5 hlt hchk hst
          go_wp2
          go_roundw
          case rel => exact ⟨0 + 1, acc ++ bs, _, rfl, by go_num, by rw [List.length_append, Lib.byteCells_append]; exact HO5.out, by omega, HB5.out, (by rw [HCH.out, prev_succ hia hti]), (by rw [List.length_append]; exact step_le hacc htl)⟩
          case measure => simp [intOf]; omega
        · rw [if_neg he] at hst
          have HF : Hid (writeL l = ([], 0, e)) := Lib.hid (hchk.trans hst)
          have ie : ((e : Int) != 0) = true := by rw [bne_iff_ne]; omega
          have ie' : ((e : Int) == 0) = false := by rw [beq_eq_false_iff_ne]; omega
          clear hchk hst he
          go_wp2
          go_ret3
          rw [HF.out]
          exact ⟨.slice none 0 0, rfl, World.ownsRow_nil _ _ _ _, hbw3⟩
      · obtain ⟨j, rfl⟩ : ∃ j, i = j + 1 := ⟨i - 1, by omega⟩
        have hja : j < l.length := by omega
        obtain ⟨g', off', av', hp', q0, _⟩ := HC.out j hja
        cases hp'
        obtain ⟨u, huj⟩ : ∃ u, l[j] = u := ⟨_, rfl⟩
        rw [huj] at q0
        have q0' := cellB hbw q0
        have hpv : prevB l (j + 1) = decide (u.kind = 3) := prev_succ hja huj
        rw [hpv] at hchk
        have cj : ((j + 1 : Nat) : Int) = (j : Int) + 1 := by omega
        rw [cj]
        clear cj
        have h0j : (0 : Int) < (j : Int) + 1 := by omega
        have hjn : (j : Int) + 1 < (n : Int) := by omega
        by_cases hk3 : u.kind = 3
        · rw [decide_eq_true hk3] at hchk
          rw [hk3] at q0'
          have cT := fun wx (hx : Below wr.heap.size wr wx) => token_any t (true) (.slice pp na pc) wx ((a4.below hbw).below hx) ((hR.below hbw).below hx) hts.1 hts.2.1 hts.2.2
          have hst := write_step (acc := acc) (b := true) hia
          rw [hti] at hst
          have htl := tokW_len t (true) hts.1 hts.2.1 hts.2.2
          generalize tokW t (true) = r at *
          obtain ⟨bs, e⟩ := r
          simp only [] at cT hst htl
          have CT := Lib.hid cT
          have hba := (Below.refl wr.heap.size wr).alloc (Nat.le_refl _) (Obj.cells #[.int .i64 t.kind, .int .i64 t.at_, .string ⟨t.s.toArray⟩, .slice pp na pc] 30)
          have hK := heap_alloc_new wr (Obj.cells #[.int .i64 t.kind, .int .i64 t.at_, .string ⟨t.s.toArray⟩, .slice pp na pc] 30)
          have z0 := blk4_c0 hK
          have z1 := blk4_c1 hK
          have z2 := blk4_c2 hK
          have z3 := blk4_c3 hK
          have q0'' : (wr.alloc (Obj.cells #[.int .i64 t.kind, .int .i64 t.at_, .string ⟨t.s.toArray⟩, .slice pp na pc] 30)).cell? ⟨g, off + j * 4, none⟩ = some (.int .i64 3) := cellB hba q0'
          have hbs := ba_size bs
          clear cT
          obtain ⟨wa, hwa⟩ : ∃ wa, wa = (wr.alloc (Obj.cells #[.int .i64 t.kind, .int .i64 t.at_, .string ⟨t.s.toArray⟩, .slice pp na pc] 30)) := ⟨_, rfl⟩
          rw [← hwa] at z0 z1 z2 z3 hba q0''
          clear hK
          go_wp2
          rw [← hwa]
          clear hwa
          have Z0 : ∀ p : BelowW wa, p.w'.cell? ⟨wr.heap.size, 0, none⟩ = some (.int .i64 t.kind) := fun p => cellB p.h z0
          have Z1 : ∀ p : BelowW wa, p.w'.cell? ⟨wr.heap.size, 1, none⟩ = some (.int .i64 t.at_) := fun p => cellB p.h z1
          have Z2 : ∀ p : BelowW wa, p.w'.cell? ⟨wr.heap.size, 2, none⟩ = some (.string ⟨t.s.toArray⟩) := fun p => cellB p.h z2
          have Z3 : ∀ p : BelowW wa, p.w'.cell? ⟨wr.heap.size, 3, none⟩ = some (.slice pp na pc) := fun p => cellB p.h z3
          have Z4 := fun p : BelowW wa => cellB p.h q0''
          have CTB := calls_belowW (wa := wa) (fun wx hx => CT.out wx (hba.trans (hx.mono hba.size)))
          refine wp_region_quiet_below (by kernel_rfl) (by kernel_rfl) ?_
          repeat (go_big_quiet_step (exact CTB _))
          refine wpQuiet_nil ?_
          intro wq hwq
          obtain ⟨⟨w3x, hb3'⟩, hwq⟩ := hwq
          obtain rfl : wq = w3x := hwq
          have hbr3 : Below wr.heap.size wr wq := hba.trans (Below.mono hb3' hba.size)
          have hbw3 := hbw.trans (hbr3.mono hs)
          have hs3 := hbw3.size
          have HO3 := Lib.hid (own_below hO hbr3)
          clear hb3' hba z0 z1 z2 z3 CT Z0 Z1 Z2 Z3 CTB
          by_cases he : e = 0
          · subst he
            rw [if_pos rfl] at hst
            have hlt := HO3.out.lt
            have hM : acc.length + bs.length ≤ 400000000000 := sum_le hacc htl (Nat.le_trans hin hlen)
            go_wp2_with (at_builtin; refine Lib.wpList_append_own_string _ rfl _ _ 22 9 rfl w.heap.size 5 i0 Tryz.underlying22 Tryz.underlying9 hi0 hz0 hz1 hz2 bv _ _ rfl HO3.out ⟨bs.toArray⟩ rfl ?c3 ?c4 ?c5 ?_)
            case c3 => first | exact Nat.le_trans hM (by decide) | (rw [hbs]; exact Nat.le_trans hM (by decide))
            case c4 => first | exact Nat.le_trans hM (by decide) | (rw [hbs]; exact Nat.le_trans hM (by decide))
            case c5 => omega
            intro v' w5 hown5 hgr5 _
            have hb5 : Below w.heap.size w w5 := hbw3.grown hgr5 (by omega) (fun k hk => (hlt k hk).1)
            have hsc : Lib.strCells ⟨bs.toArray⟩ = Lib.byteCells bs := strCells_eq bs
            first | rw [hsc, hbs] at hown5 | rw [hsc] at hown5
            have HO5 := Lib.hid hown5
            have HB5 := Lib.hid hb5
            have HCH := Lib.hid (hchk.trans hst)
            clear hown5 hgr5 hb5 hlt hchk hst
            go_wp2
            go_roundw
            case rel => exact ⟨j + 1 + 1, acc ++ bs, _, rfl, by go_num, by rw [List.length_append, Lib.byteCells_append]; exact HO5.out, by omega, HB5.out, (by rw [HCH.out, prev_succ hia hti]), (by rw [List.length_append]; exact step_le hacc htl)⟩
            case measure => simp [intOf]; omega
          · rw [if_neg he] at hst
            have HF : Hid (writeL l = ([], j + 1, e)) := Lib.hid (hchk.trans hst)
            have ie : ((e : Int) != 0) = true := by rw [bne_iff_ne]; omega
            have ie' : ((e : Int) == 0) = false := by rw [beq_eq_false_iff_ne]; omega
            clear hchk hst he
            go_wp2
            go_ret3
            rw [HF.out]
            exact ⟨.slice none 0 0, rfl, World.ownsRow_nil _ _ _ _, hbw3⟩
        · rw [decide_eq_false hk3] at hchk
          have ik : (u.kind == 3) = false := beq_eq_false_iff_ne.2 hk3
          have cT := fun wx (hx : Below wr.heap.size wr wx) => token_any t (false) (.slice pp na pc) wx ((a4.below hbw).below hx) ((hR.below hbw).below hx) hts.1 hts.2.1 hts.2.2
          have hst := write_step (acc := acc) (b := false) hia
          rw [hti] at hst
          have htl := tokW_len t (false) hts.1 hts.2.1 hts.2.2
          generalize tokW t (false) = r at *
          obtain ⟨bs, e⟩ := r
          simp only [] at cT hst htl
          have CT := Lib.hid cT
          have hba := (Below.refl wr.heap.size wr).alloc (Nat.le_refl _) (Obj.cells #[.int .i64 t.kind, .int .i64 t.at_, .string ⟨t.s.toArray⟩, .slice pp na pc] 30)
          have hK := heap_alloc_new wr (Obj.cells #[.int .i64 t.kind, .int .i64 t.at_, .string ⟨t.s.toArray⟩, .slice pp na pc] 30)
          have z0 := blk4_c0 hK
          have z1 := blk4_c1 hK
          have z2 := blk4_c2 hK
          have z3 := blk4_c3 hK
          have q0'' : (wr.alloc (Obj.cells #[.int .i64 t.kind, .int .i64 t.at_, .string ⟨t.s.toArray⟩, .slice pp na pc] 30)).cell? ⟨g, off + j * 4, none⟩ = some (.int .i64 u.kind) := cellB hba q0'
          have hbs := ba_size bs
          clear cT
          obtain ⟨wa, hwa⟩ : ∃ wa, wa = (wr.alloc (Obj.cells #[.int .i64 t.kind, .int .i64 t.at_, .string ⟨t.s.toArray⟩, .slice pp na pc] 30)) := ⟨_, rfl⟩
          rw [← hwa] at z0 z1 z2 z3 hba q0''
          clear hK
          go_wp2
          rw [← hwa]
          clear hwa
          have Z0 : ∀ p : BelowW wa, p.w'.cell? ⟨wr.heap.size, 0, none⟩ = some (.int .i64 t.kind) := fun p => cellB p.h z0
          have Z1 : ∀ p : BelowW wa, p.w'.cell? ⟨wr.heap.size, 1, none⟩ = some (.int .i64 t.at_) := fun p => cellB p.h z1
          have Z2 : ∀ p : BelowW wa, p.w'.cell? ⟨wr.heap.size, 2, none⟩ = some (.string ⟨t.s.toArray⟩) := fun p => cellB p.h z2
          have Z3 : ∀ p : BelowW wa, p.w'.cell? ⟨wr.heap.size, 3, none⟩ = some (.slice pp na pc) := fun p => cellB p.h z3
          have Z4 := fun p : BelowW wa => cellB p.h q0''
          have CTB := calls_belowW (wa := wa) (fun wx hx => CT.out wx (hba.trans (hx.mono hba.size)))
          refine wp_region_quiet_below (by kernel_rfl) (by kernel_rfl) ?_
          repeat (go_big_quiet_step (exact CTB _))
          refine wpQuiet_nil ?_
          intro wq hwq
          obtain ⟨⟨w3x, hb3'⟩, hwq⟩ := hwq
          obtain rfl : wq = w3x := hwq
          have hbr3 : Below wr.heap.size wr wq := hba.trans (Below.mono hb3' hba.size)
          have hbw3 := hbw.trans (hbr3.mono hs)
          have hs3 := hbw3.size
          have HO3 := Lib.hid (own_below hO hbr3)
          clear hb3' hba z0 z1 z2 z3 CT Z0 Z1 Z2 Z3 CTB
          by_cases he : e = 0
          · subst he
            rw [if_pos rfl] at hst
            have hlt := HO3.out.lt
            have hM : acc.length + bs.length ≤ 400000000000 := sum_le hacc htl (Nat.le_trans hin hlen)
            go_wp2_with (at_builtin; refine Lib.wpList_append_own_string _ rfl _ _ 22 9 rfl w.heap.size 5 i0 Tryz.underlying22 Tryz.underlying9 hi0 hz0 hz1 hz2 bv _ _ rfl HO3.out ⟨bs.toArray⟩ rfl ?c3 ?c4 ?c5 ?_)
            case c3 => first | exact Nat.le_trans hM (by decide) | (rw [hbs]; exact Nat.le_trans hM (by decide))
            case c4 => first | exact Nat.le_trans hM (by decide) | (rw [hbs]; exact Nat.le_trans hM (by decide))
            case c5 => omega
            intro v' w5 hown5 hgr5 _
            have hb5 : Below w.heap.size w w5 := hbw3.grown hgr5 (by omega) (fun k hk => (hlt k hk).1)
            have hsc : Lib.strCells ⟨bs.toArray⟩ = Lib.byteCells bs := strCells_eq bs
            first | rw [hsc, hbs] at hown5 | rw [hsc] at hown5
            have HO5 := Lib.hid hown5
            have HB5 := Lib.hid hb5
            have HCH := Lib.hid (hchk.trans hst)
            clear hown5 hgr5 hb5 hlt hchk hst
            go_wp2
            go_roundw
            case rel => exact ⟨j + 1 + 1, acc ++ bs, _, rfl, by go_num, by rw [List.length_append, Lib.byteCells_append]; exact HO5.out, by omega, HB5.out, (by rw [HCH.out, prev_succ hia hti]), (by rw [List.length_append]; exact step_le hacc htl)⟩
            case measure => simp [intOf]; omega
          · rw [if_neg he] at hst
            have HF : Hid (writeL l = ([], j + 1, e)) := Lib.hid (hchk.trans hst)
            have ie : ((e : Int) != 0) = true := by rw [bne_iff_ne]; omega
            have ie' : ((e : Int) == 0) = false := by rw [beq_eq_false_iff_ne]; omega
            clear hchk hst he
            go_wp2
            go_ret3
            rw [HF.out]
            exact ⟨.slice none 0 0, rfl, World.ownsRow_nil _ _ _ _, hbw3⟩
    · have HF : Hid (writeL l = (acc, 0, 0)) := Lib.hid (by rw [hchk, List.drop_eq_nil_of_le (by omega)]; rfl)
      clear hchk
      go_wp2
      go_ret3
      rw [HF.out]
      exact ⟨_, rfl, hO, hbw⟩

end Go.Proofs.YtblhpkcdemefaaaGreatDoor
