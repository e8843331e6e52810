/- Walks: tipstavelaw04.great: are tokens more than are looked at? -/
import Derived.Test.YtblhpkcdemefaaaGreatDoorSame
set_option linter.unusedVariables false
set_option linter.unusedSimpArgs false
namespace Go.Proofs.YtblhpkcdemefaaaGreatDoor
open Go.RowKit

/-- How much attributes, a token, tokens are. -/
def szP (p : RP) : Nat := 1 + p.name.length + p.value.length
def szPs (ps : List RP) : Nat := (ps.map szP).sum
def szT (t : RT) : Nat := t.s.length + szPs t.attrs
def szTs (ts : List RT) : Nat := (ts.map szT).sum
def szL (ts : List RT) : Nat := ts.length + szTs ts

theorem sum_take {α : Type} (f : α → Nat) (l : List α) (i : Nat) (x : α) (h : i < l.length) (hx : l[i] = x) : ((l.take (i + 1)).map f).sum = ((l.take i).map f).sum + f x := by
  rw [List.take_succ_eq_append_getElem h, List.map_append, List.sum_append, hx]; simp
theorem sum_le_take {α : Type} (f : α → Nat) (l : List α) (i : Nat) : ((l.take i).map f).sum ≤ (l.map f).sum := by
  conv => rhs; rw [← List.take_append_drop i l, List.map_append, List.sum_append]
  omega
theorem sum_mem {α : Type} (f : α → Nat) (l : List α) (x : α) (h : x ∈ l) : f x ≤ (l.map f).sum := by
  induction l with
  | nil => cases h
  | cons y r ih =>
    rw [List.map_cons, List.sum_cons]
    rcases List.mem_cons.1 h with rfl | h
    · omega
    · have := ih h; omega

theorem szPs_len : ∀ ps : List RP, ps.length ≤ szPs ps
  | [] => Nat.le_refl _
  | p :: r => by
    have ih := szPs_len r
    have e : szPs (p :: r) = szP p + szPs r := by unfold szPs; rw [List.map_cons, List.sum_cons]
    rw [e, List.length_cons]
    unfold szP
    omega

/-- A slice of slices of tokens lies there. -/
def GsAt (w : World) (g n cap : Nat) (gs : List (Value × List RT)) : Prop := gs.length = n ∧ n ≤ cap ∧ ∀ j (h : j < gs.length), w.cell? ⟨g, j, none⟩ = some gs[j].1 ∧ ToksAt w gs[j].1 gs[j].2
def szG (gs : List (Value × List RT)) : Nat := (gs.map fun x => szL x.2).sum

set_option maxHeartbeats 8000000 in
set_option maxRecDepth 100000 in
theorem great_any (g n cap : Nat) (gs : List (Value × List RT)) (w : World) (h : GsAt w g n cap gs) (hn : n ≤ 10) (hsz : szG gs ≤ 10000000) :
    Calls Tryz.prog 14 #[.slice (some ⟨g, 0, none⟩) n cap] w fun e w' => e = .returned (.bool (decide (3000 < szG gs))) ∧ Below w.heap.size w w' := by
  obtain ⟨hl, hcap, hcell⟩ := h
  have HC := Lib.hid hcell
  clear hcell
  go_enter Tryz.func14, Tryz.ntmps14
  go_wp2
  go_loopw [3, 12] (fun v3 v12 wr => ∃ j : Nat, v3 = .int .i64 (((gs.take j).map fun x => szL x.2).sum : Nat) ∧ v12 = .int .i64 j ∧ j ≤ n ∧ Below w.heap.size w wr) (fun _ v12 _ => n - (intOf v12).toNat)
  case atStart => exact ⟨0, rfl, rfl, Nat.zero_le _, Below.refl _ _⟩
  case round =>
    obtain ⟨j, rfl, rfl, hjn, hbw⟩ := hrel
    by_cases hj : j < n
    · have hjl : j < gs.length := by omega
      obtain ⟨hc0, hT⟩ := HC.out j hjl
      have hst := sum_take (fun x : Value × List RT => szL x.2) gs j _ hjl rfl
      have hle := sum_le_take (fun x : Value × List RT => szL x.2) gs (j + 1)
      have hG : (gs.map fun x => szL x.2).sum ≤ 10000000 := hsz
      generalize hS : ((gs.take j).map fun x => szL x.2).sum = S at *
      generalize hS1 : ((gs.take (j + 1)).map fun x => szL x.2).sum = S1 at *
      generalize gs[j] = gj at *
      obtain ⟨v, ts⟩ := gj
      simp only [] at hc0 hT hst
      obtain ⟨p, tc, rfl, htc, htk⟩ := hT
      obtain ⟨m, hm⟩ : ∃ m, ts.length = m := ⟨_, rfl⟩
      have HT := Lib.hid htk
      have hszL : szL ts = m + szTs ts := by unfold szL; rw [hm]
      have hbS : S + (m + szTs ts) ≤ 10000000 := by omega
      have hc0' := cellB hbw hc0
      rw [hm] at hc0' htc
      clear htk hc0
      have hs := hbw.size
      go_wp2
      go_loopw [3, 22] (fun v3 v22 wr2 => ∃ i : Nat, v3 = .int .i64 ((S + m + ((ts.take i).map szT).sum : Nat) : Int) ∧ v22 = .int .i64 i ∧ i ≤ m ∧ Below w.heap.size w wr2) (fun _ v22 _ => m - (intOf v22).toNat)
      case atStart => exact ⟨0, by simp, rfl, Nat.zero_le _, hbw⟩
      case round =>
        obtain ⟨i, rfl, rfl, him, hbw2⟩ := hrel
        have hs2 := hbw2.size
        by_cases hi : i < m
        · have hil : i < ts.length := by omega
          obtain ⟨gg, off, av, hp, a0, a1, a2, a3, a4⟩ := HT.out i hil
          have hst2 := sum_take szT ts i _ hil rfl
          have hle2 := sum_le_take szT ts (i + 1)
          have hTs : (ts.map szT).sum = szTs ts := rfl
          generalize ts[i] = t at *
          generalize hQ : ((ts.take i).map szT).sum = Q at *
          generalize hQ1 : ((ts.take (i + 1)).map szT).sum = Q1 at *
          obtain ⟨tk, ta, tss, tat⟩ := t
          simp only [] at a0 a1 a2 a4
          subst hp
          obtain ⟨pp, pc, rfl, hpc, hpk⟩ := a4
          obtain ⟨q, hq⟩ : ∃ q, tat.length = q := ⟨_, rfl⟩
          have HP := Lib.hid hpk
          have hqle : tat.length ≤ szPs tat := szPs_len tat
          have hszT : szT ⟨tk, ta, tss, tat⟩ = tss.length + szPs tat := rfl
          have hbQ : S + m + Q + tss.length + szPs tat ≤ 10000000 := by omega
          rw [hq] at a3 hpc hqle
          have hq7 : q ≤ 10000000 := by omega
          have a0' := cellB hbw2 a0
          have a1' := cellB hbw2 a1
          have a2' := cellB hbw2 a2
          have a3' := cellB hbw2 a3
          have hz := ba_size tss
          clear hpk a0 a1 a2 a3
          have hba := hbw2.alloc hs2 (Obj.cells #[.int .i64 tk, .int .i64 ta, .string ⟨tss.toArray⟩, .slice pp q pc] 30)
          clear hst hle hG hsz hszL hTs hle2
          go_wp2
          go_loopw [3, 34] (fun v3 v34 wr3 => ∃ k : Nat, v3 = .int .i64 ((S + m + Q + tss.length + ((tat.take k).map szP).sum : Nat) : Int) ∧ v34 = .int .i64 k ∧ k ≤ q ∧ Below w.heap.size w wr3) (fun _ v34 _ => q - (intOf v34).toNat)
          case atStart => exact ⟨0, by simp, rfl, Nat.zero_le _, hba⟩
          case round =>
            obtain ⟨k, rfl, rfl, hkq, hbw3⟩ := hrel
            have hs3 := hbw3.size
            by_cases hk : k < q
            · have hkl : k < tat.length := by omega
              obtain ⟨hh, oo, hpp, d0, d1, d2⟩ := HP.out k hkl
              have hst3 := sum_take szP tat k _ hkl rfl
              have hle3 := sum_le_take szP tat (k + 1)
              have hPs : (tat.map szP).sum = szPs tat := rfl
              generalize tat[k] = x at *
              generalize hR : ((tat.take k).map szP).sum = R at *
              generalize hR1 : ((tat.take (k + 1)).map szP).sum = R1 at *
              obtain ⟨xa, xn, xv⟩ := x
              simp only [] at d0 d1 d2
              subst hpp
              have d0' := cellB hbw3 d0
              have d1' := cellB hbw3 d1
              have d2' := cellB hbw3 d2
              have hzn := ba_size xn
              have hzv := ba_size xv
              have hszP : szP ⟨xa, xn, xv⟩ = 1 + xn.length + xv.length := rfl
              have hbR : S + m + Q + tss.length + (R + (1 + xn.length + xv.length)) ≤ 10000000 := by omega
              have hba3 := hbw3.alloc hs3 (Obj.cells #[.int .i64 xa, .string ⟨xn.toArray⟩, .string ⟨xv.toArray⟩] 32)
              clear d0 d1 d2 hle3 hPs hbQ hbS
              go_wp2
              go_roundw
              case rel => exact ⟨k + 1, by rw [hR1]; simp only [Value.int.injEq, true_and]; omega, by go_num, by omega, hba3⟩
              case measure => simp [intOf]; omega
            · have hke : k = q := by omega
              have hR : ((tat.take k).map szP).sum = szPs tat := by rw [List.take_of_length_le (by omega)]; rfl
              rw [hR]
              clear hR
              go_wp2
              go_roundw
              case rel => exact ⟨i + 1, by rw [hQ1]; simp only [Value.int.injEq, true_and]; omega, by go_num, by omega, hbw3⟩
              case measure => simp [intOf]; omega
        · have hie : i = m := by omega
          have hQ : ((ts.take i).map szT).sum = szTs ts := by rw [List.take_of_length_le (by omega)]; rfl
          rw [hQ]
          clear hQ
          go_wp2
          go_roundw
          case rel => exact ⟨j + 1, by rw [hS1]; simp only [Value.int.injEq, true_and]; omega, by go_num, by omega, hbw2⟩
          case measure => simp [intOf]; omega
    · have hF : ((gs.take j).map fun x => szL x.2).sum = szG gs := by rw [List.take_of_length_le (by omega)]; rfl
      rw [hF]
      clear hF
      obtain ⟨G, hGG⟩ : ∃ G, szG gs = G := ⟨_, rfl⟩
      have hd : decide (3000 < szG gs) = decide ((3000 : Int) < ((G : Nat) : Int)) := by
        rw [hGG, Bool.eq_iff_iff, decide_eq_true_iff, decide_eq_true_iff]; omega
      rw [hGG] at hsz ⊢
      have HD := Lib.hid hd
      clear hGG hd
      go_wp2
      go_ret
      exact ⟨retb HD.out.symm, hbw⟩

end Go.Proofs.YtblhpkcdemefaaaGreatDoor
