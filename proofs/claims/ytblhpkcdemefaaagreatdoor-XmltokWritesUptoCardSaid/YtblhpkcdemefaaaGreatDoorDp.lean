/- A row's argument []api.Token, opened: tokens that lie there, and how much they hold. -/
import Derived.Test.YtblhpkcdemefaaaGreatDoorGr
import Derived.Test.YtblhpkcdemefaaaGreatDoorRowk
import Derived.Deep.Slices
import Derived.Deep.Strs
import Derived.Lib.SmallJoins
set_option linter.unusedVariables false
set_option linter.unusedSimpArgs false
namespace Go.Proofs.YtblhpkcdemefaaaGreatDoor
open Go Go.ChangeShapes Go.WideShapes Go.ChangeAt Go.RowKit Go.Deep

instance inhRPd : Inhabited RP := ⟨⟨0, [], []⟩⟩
instance inhRTd : Inhabited RT := ⟨⟨0, 0, [], []⟩⟩

section
variable {H : Type} {enc : TypeId × Value → H} {W : World} {sp : Nat → Bool} {held : Bool}

theorem bulk_sum {α : Type} (a : α → Nat) (D : α → DataW H) : ∀ l : List α, (∀ i ∈ l, a i ≤ Rows.uptoBulk (D i)) → (l.map a).sum ≤ Rows.uptoBulkAll (l.map D)
  | [], _ => Nat.zero_le _
  | x :: l, h => by
    have := bulk_sum a D l (fun i hi => h i (List.mem_cons_of_mem _ hi))
    have := h x List.mem_cons_self
    rw [List.map_cons, List.map_cons, List.sum_cons]
    unfold Rows.uptoBulkAll
    omega

theorem spot_none {w : World} {a : Addr} {v : Value} (h : w.cell? a = some v) : a.spot = none := by
  unfold World.cell? at h
  split at h
  · split at h
    · cases h
    · rename_i hs
      cases hs' : a.spot with
      | none => rfl
      | some x => rw [hs'] at hs; exact absurd rfl hs
  · cases h
theorem addr_eta {a : Addr} (h : a.spot = none) : a = ⟨a.block, a.off, none⟩ := by obtain ⟨b, o, s⟩ := a; simp only at h; subst h; rfl
theorem add_cell {w : World} {g off k : Nat} {v : Value} (h : w.cell? ((⟨g, off, none⟩ : Addr).add k) = some v) : w.cell? ⟨g, off + k, none⟩ = some v := by
  unfold Addr.add at h
  by_cases hk : k = 0
  · subst hk; exact h
  · rw [if_neg hk] at h; exact h

set_option maxRecDepth 100000 in
theorem open_pairs {n : Nat} {v : Value} {x : DataW H × List MemPlace} (h : DataW.trod enc Tryz.prog W 0 sp held n 28 [v] = some x) : ∃ ps : List RP, PairsAt W v ps ∧ szPs ps ≤ Rows.uptoBulk x.1 := by
  have c3 : Tryz.prog.cellsOf 32 = 3 := by kernel_rfl
  have cs1 : Tryz.prog.cellsOf 9 = 1 := by kernel_rfl
  have ci1 : Tryz.prog.cellsOf 3 = 1 := by kernel_rfl
  rcases open_slice Tryz.underlying28 h with ⟨hcs, rfl⟩ | ⟨a, len, cap, m, k, D, Pl, hcs, _, hl, _, hm, rfl, hx⟩
  · obtain rfl : v = .slice none 0 0 := by simpa using hcs
    exact ⟨[], ⟨none, 0, rfl, Nat.le_refl _, fun i hi => absurd hi (Nat.not_lt_zero i)⟩, Nat.zero_le _⟩
  · obtain rfl : v = .slice (some a) len cap := by simpa using hcs
    have hlm : len ≤ m := by rw [hm]; split <;> omega
    rw [c3] at hx
    obtain ⟨f, hf⟩ := choose_lt (α := RP) (n := len) (p := fun i q => W.cell? (a.add (i * 3)) = some (.int .i64 q.at_) ∧ W.cell? ((a.add (i * 3)).add 1) = some (.string ⟨q.name.toArray⟩) ∧ W.cell? ((a.add (i * 3)).add 2) = some (.string ⟨q.value.toArray⟩) ∧ szP q ≤ Rows.uptoBulk (D i)) (fun i hi => by
      obtain ⟨cs', h1, h2⟩ := hx i (by omega)
      obtain ⟨_, hlen, hcell⟩ := World.cells?_some h1
      obtain ⟨y0, y1, y2, k', hy, _, g0, g1, g2⟩ := trod_struct3 Tryz.underlying32 h2
      match cs', hlen with
      | [c0, c1, c2], _ =>
        simp [ci1, cs1] at g0 g1 g2
        obtain ⟨z, e0, hy0, _⟩ := DataW.trod_int Tryz.underlying3 (x := y0) g0
        obtain ⟨s1, e1, hy1, _⟩ := DataW.trod_string Tryz.underlying9 (x := y1) g1
        obtain ⟨s2, e2, hy2, _⟩ := DataW.trod_string Tryz.underlying9 (x := y2) g2
        have k0 := hcell 0 (by decide)
        have k1 := hcell 1 (by decide)
        have k2 := hcell 2 (by decide)
        simp only [List.cons.injEq, and_true] at e0 e1 e2
        subst e0 e1 e2
        refine ⟨⟨z, s1.data.toList, s2.data.toList⟩, by simpa [Addr.add] using k0, by simpa using k1, by simpa using k2, ?_⟩
        have hD : D i = .agg [y0.1, y1.1, y2.1] := congrArg Prod.fst hy
        rw [hD, hy0, hy1, hy2]
        simp only [szP, Rows.uptoBulk, Rows.uptoBulkAll]
        omega)
    refine ⟨(List.range len).map f, ⟨some a, cap, by simp, by simpa using hl, ?_⟩, ?_⟩
    · intro i hi
      have hi' : i < len := by simpa using hi
      obtain ⟨q0, q1, q2, _⟩ := hf i hi'
      have ha : a.spot = none := by
        obtain ⟨r0, _⟩ := hf 0 (by omega)
        exact spot_none (a := a) (by simpa [Addr.add] using r0)
      have hae := addr_eta ha
      refine ⟨a.block, a.off, by rw [← hae], ?_, ?_, ?_⟩
      · rw [hae] at q0
        simpa using add_cell q0
      · rw [hae, add_add] at q1
        simpa [Nat.add_assoc] using add_cell q1
      · rw [hae, add_add] at q2
        simpa [Nat.add_assoc] using add_cell q2
    · have := bulk_sum (fun i => szP (f i)) D (List.range len) (fun i hi => (hf i (List.mem_range.1 hi)).2.2.2)
      unfold szPs
      rw [List.map_map]
      simp only [Rows.uptoBulk]
      exact Nat.le_trans this (by omega)

set_option maxRecDepth 100000 in
theorem open_toks {v : Value} {d : DataW H} {pl : List MemPlace} (h : DataW.Trod enc Tryz.prog W 0 sp held 24 v d pl) (hv : v.cells.toList = [v]) : ∃ ts : List RT, ToksAt W v ts ∧ szL ts ≤ Rows.uptoBulk d := by
  obtain ⟨n, h⟩ := h
  have c4 : Tryz.prog.cellsOf 30 = 4 := by kernel_rfl
  have cs1 : Tryz.prog.cellsOf 9 = 1 := by kernel_rfl
  have ci1 : Tryz.prog.cellsOf 3 = 1 := by kernel_rfl
  have cp1 : Tryz.prog.cellsOf 28 = 1 := by kernel_rfl
  rcases open_slice Tryz.underlying24 h with ⟨hcs, hxx⟩ | ⟨a, len, cap, m, k, D, Pl, hcs, _, hl, _, hm, hxx, hx⟩
  · rw [hv] at hcs
    obtain rfl : v = .slice none 0 0 := by simpa using hcs
    exact ⟨[], ⟨none, 0, rfl, Nat.le_refl _, fun i hi => absurd hi (Nat.not_lt_zero i)⟩, Nat.zero_le _⟩
  · rw [hv] at hcs
    obtain rfl : v = .slice (some a) len cap := by simpa using hcs
    have hd : d = .slice ((List.range len).map D) ((List.range (m - len)).map fun j => D (len + j)) := congrArg Prod.fst hxx
    have hlm : len ≤ m := by rw [hm]; split <;> omega
    rw [c4] at hx
    obtain ⟨f, hf⟩ := choose_lt (α := RT) (n := len) (p := fun i q => W.cell? (a.add (i * 4)) = some (.int .i64 q.kind) ∧ W.cell? ((a.add (i * 4)).add 1) = some (.int .i64 q.at_) ∧ W.cell? ((a.add (i * 4)).add 2) = some (.string ⟨q.s.toArray⟩) ∧ (∃ av, W.cell? ((a.add (i * 4)).add 3) = some av ∧ PairsAt W av q.attrs) ∧ 1 + szT q ≤ Rows.uptoBulk (D i)) (fun i hi => by
      obtain ⟨cs', h1, h2⟩ := hx i (by omega)
      obtain ⟨_, hlen, hcell⟩ := World.cells?_some h1
      obtain ⟨y0, y1, y2, y3, k', hy, _, g0, g1, g2, g3⟩ := Go.Joins.trod_struct4 Tryz.underlying30 h2
      match cs', hlen with
      | [c0, c1, c2, c3], _ =>
        simp [ci1, cs1, cp1] at g0 g1 g2 g3
        obtain ⟨z0, e0, hy0, _⟩ := DataW.trod_int Tryz.underlying3 (x := y0) g0
        obtain ⟨z1, e1, hy1, _⟩ := DataW.trod_int Tryz.underlying3 (x := y1) g1
        obtain ⟨s2, e2, hy2, _⟩ := DataW.trod_string Tryz.underlying9 (x := y2) g2
        obtain ⟨ps, hps, hsz⟩ := open_pairs g3
        have k0 := hcell 0 (by decide)
        have k1 := hcell 1 (by decide)
        have k2 := hcell 2 (by decide)
        have k3 := hcell 3 (by decide)
        simp only [List.cons.injEq, and_true] at e0 e1 e2
        subst e0 e1 e2
        refine ⟨⟨z0, z1, s2.data.toList, ps⟩, by simpa [Addr.add] using k0, by simpa using k1, by simpa using k2, ⟨c3, by simpa using k3, hps⟩, ?_⟩
        have hD : D i = .agg [y0.1, y1.1, y2.1, y3.1] := congrArg Prod.fst hy
        rw [hD, hy0, hy1, hy2]
        simp only [szT, Rows.uptoBulk, Rows.uptoBulkAll]
        omega)
    refine ⟨(List.range len).map f, ⟨some a, cap, by simp, by simpa using hl, ?_⟩, ?_⟩
    · intro i hi
      have hi' : i < len := by simpa using hi
      obtain ⟨q0, q1, q2, ⟨av, q3, qp⟩, _⟩ := hf i hi'
      have ha : a.spot = none := by
        obtain ⟨r0, _⟩ := hf 0 (by omega)
        exact spot_none (a := a) (by simpa [Addr.add] using r0)
      have hae := addr_eta ha
      refine ⟨a.block, a.off, av, by rw [← hae], ?_, ?_, ?_, ?_, by simpa using qp⟩
      · rw [hae] at q0
        simpa using add_cell q0
      · rw [hae, add_add] at q1
        simpa [Nat.add_assoc] using add_cell q1
      · rw [hae, add_add] at q2
        simpa [Nat.add_assoc] using add_cell q2
      · rw [hae, add_add] at q3
        simpa [Nat.add_assoc] using add_cell q3
    · have := bulk_sum (fun i => 1 + szT (f i)) D (List.range len) (fun i hi => (hf i (List.mem_range.1 hi)).2.2.2.2)
      have hs : ∀ l : List Nat, (l.map f).length + ((l.map f).map szT).sum = (l.map fun i => 1 + szT (f i)).sum := by
        intro l
        induction l with
        | nil => rfl
        | cons x l ih => simp only [List.map_cons, List.length_cons, List.sum_cons] at ih ⊢; omega
      rw [hd]
      unfold szL szTs
      rw [hs]
      simp only [Rows.uptoBulk]
      exact Nat.le_trans this (by omega)
end
end Go.Proofs.YtblhpkcdemefaaaGreatDoor
