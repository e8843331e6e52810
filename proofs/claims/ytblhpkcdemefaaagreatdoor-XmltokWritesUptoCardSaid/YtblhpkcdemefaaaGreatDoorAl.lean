/- Walks: the laws of chapter 4: the document's examples. -/
import Derived.Test.YtblhpkcdemefaaaGreatDoorSame
import Derived.Lib.SlBytesConst
set_option linter.unusedVariables false
set_option linter.unusedSimpArgs false
namespace Go.Proofs.YtblhpkcdemefaaaGreatDoor
open Go.RowKit

theorem noData_of {l : List UInt8} (h : (List.range (l.length + 1)).all (fun i => !Lib.hasPrefix (l.drop i) [60, 33, 91, 67, 68, 65, 84, 65, 91]) = true) : ∀ i, Lib.hasPrefix (l.drop i) [60, 33, 91, 67, 68, 65, 84, 65, 91] = false := by
  intro i
  by_cases hi : i ≤ l.length
  · have := List.all_eq_true.1 h i (List.mem_range.2 (by omega))
    simpa using this
  · rw [List.drop_eq_nil_of_le (by omega)]; rfl

theorem bytes_new (w : World) (l : List UInt8) (xs : List Value) (hx : xs = Lib.byteCells l) (fr : Nat × Nat) : bytesAt (w.alloc (.cells xs.toArray 5 fr)) w.heap.size 0 l := by
  subst hx
  intro j hj
  rw [Nat.zero_add, cell_of_row _ w.heap.size j _ _ fr (heap_alloc_new w _)]
  simp [Lib.byteCells, List.getD_eq_getElem?_getD, hj]

theorem prRow_at {B : Nat} {w : World} {v : Value} {ps : List PrA} (h : prRow B w v ps) : PairsAt w v (ps.map PrA.raw) := by
  have hcells := @World.ownsRow.cells _ _ _ _ _ _ _ h
  rcases h.2 with ⟨rfl, h0⟩ | ⟨g, cap, cur, rfl, hb, hg, hn, hcap, hs, ht⟩
  · have : ps = [] := List.eq_nil_of_length_eq_zero h0
    subst this
    exact ⟨none, 0, rfl, Nat.le_refl _, fun i hi => absurd hi (by simp)⟩
  · refine ⟨some ⟨g, 0, none⟩, cap, by rw [List.length_map], by rw [List.length_map]; exact hn, fun i hi => ?_⟩
    rw [List.length_map] at hi
    have hc : ∀ k u, (prCells ps[i])[k]? = some u → k < 3 → w.cell? ⟨g, 0 + i * 3 + k, none⟩ = some u := fun k u hu hk => by
      have e := hcells (g := g) rfl (i * 3 + k) u (by rw [flat_get prCells 3 prCells_len ps i k hi hk]; exact hu)
      rw [Addr.add_lit, ← Nat.add_assoc] at e
      exact e
    rw [List.getElem_map]
    exact ⟨g, 0, rfl, hc 0 _ rfl (by decide), hc 1 _ rfl (by decide), hc 2 _ rfl (by decide)⟩

theorem tokRow_at {B : Nat} {w : World} {v : Value} {ts : List (Tk × Value)} (h : TokRow B w v ts) : ToksAt w v (ts.map fun x => x.1.raw) := by
  have hcells := @World.ownsRow.cells _ _ _ _ _ _ _ h.1
  rcases h.1.2 with ⟨rfl, h0⟩ | ⟨g, cap, cur, rfl, hb, hg, hn, hcap, hs, ht⟩
  · have : ts = [] := List.eq_nil_of_length_eq_zero h0
    subst this
    exact ⟨none, 0, rfl, Nat.le_refl _, fun i hi => absurd hi (by simp)⟩
  · refine ⟨some ⟨g, 0, none⟩, cap, by rw [List.length_map], by rw [List.length_map]; exact hn, fun i hi => ?_⟩
    rw [List.length_map] at hi
    have hc : ∀ k u, (tkCells ts[i].1 ts[i].2)[k]? = some u → k < 4 → w.cell? ⟨g, 0 + i * 4 + k, none⟩ = some u := fun k u hu hk => by
      have e := hcells (g := g) rfl (i * 4 + k) u (by rw [flat_get (fun x : Tk × Value => tkCells x.1 x.2) 4 (fun _ => rfl) ts i k hi hk]; exact hu)
      rw [Addr.add_lit, ← Nat.add_assoc] at e
      exact e
    rw [List.getElem_map]
    exact ⟨g, 0, ts[i].2, rfl, hc 0 _ rfl (by decide), hc 1 _ rfl (by decide), hc 2 _ rfl (by decide), hc 3 _ rfl (by decide), prRow_at (h.2 _ (List.getElem_mem hi))⟩

def text1 : List UInt8 := [60, 97, 32, 98, 61, 39, 49, 39, 62, 120, 38, 108, 116, 59, 60, 47, 97, 62]
def text2 : List UInt8 := [60, 97, 32, 98, 61, 34, 49, 34, 32, 98, 61, 34, 50, 34, 47, 62]
def text3 : List UInt8 := [60, 33, 68, 79, 67, 84, 89, 80, 69, 32, 97, 62]
def want1 : List RT := [⟨0, 0, [97], [⟨0, [98], [49]⟩]⟩, ⟨3, 0, [120, 60], []⟩, ⟨1, 0, [97], []⟩]

theorem want_at (w : World) (g h : Nat) (hg : w.heap[g]? = some (.cells #[.int .i64 0, .int .i64 0, .string ⟨#[97]⟩, .slice (some ⟨h, 0, none⟩) 1 1, .int .i64 3, .int .i64 0, .string ⟨#[120, 60]⟩, .slice none 0 0, .int .i64 1, .int .i64 0, .string ⟨#[97]⟩, .slice none 0 0] 30 (0, 0)))
    (hh : w.heap[h]? = some (.cells #[.int .i64 0, .string ⟨#[98]⟩, .string ⟨#[49]⟩] 32 (0, 0))) : ToksAt w (.slice (some ⟨g, 0, none⟩) 3 3) want1 := by
  refine ⟨some ⟨g, 0, none⟩, 3, rfl, Nat.le_refl _, fun i hi => ?_⟩
  have hi3 : i < 3 := hi
  have hc : ∀ k, w.cell? ⟨g, k, none⟩ = (#[.int .i64 0, .int .i64 0, .string ⟨#[97]⟩, .slice (some ⟨h, 0, none⟩) 1 1, .int .i64 3, .int .i64 0, .string ⟨#[120, 60]⟩, .slice none 0 0, .int .i64 1, .int .i64 0, .string ⟨#[97]⟩, .slice none 0 0] : Array Value)[k]? := fun k => cell_of_row w g k _ _ (0, 0) hg
  have hcp : ∀ k, w.cell? ⟨h, k, none⟩ = (#[.int .i64 0, .string ⟨#[98]⟩, .string ⟨#[49]⟩] : Array Value)[k]? := fun k => cell_of_row w h k _ _ (0, 0) hh
  match i, hi3 with
  | 0, _ => exact ⟨g, 0, .slice (some ⟨h, 0, none⟩) 1 1, rfl, hc 0, hc 1, hc 2, hc 3, some ⟨h, 0, none⟩, 1, rfl, Nat.le_refl _, fun k hk => by
      have hk1 : k < 1 := hk
      have : k = 0 := by omega
      subst this
      exact ⟨h, 0, rfl, hcp 0, hcp 1, hcp 2⟩⟩
  | 1, _ => exact ⟨g, 0, .slice none 0 0, rfl, hc 4, hc 5, hc 6, hc 7, none, 0, rfl, Nat.le_refl _, fun k hk => absurd hk (Nat.not_lt_zero k)⟩
  | 2, _ => exact ⟨g, 0, .slice none 0 0, rfl, hc 8, hc 9, hc 10, hc 11, none, 0, rfl, Nat.le_refl _, fun k hk => absurd hk (Nat.not_lt_zero k)⟩

theorem same_live : sameL false ([⟨0, 0, [97], [⟨[98], [49], 3⟩]⟩, ⟨3, 9, [120, 60], []⟩, ⟨1, 14, [97], []⟩].map Tk.raw) want1 = true := by decide

set_option maxHeartbeats 4000000 in
set_option maxRecDepth 100000 in
theorem alive_any (w : World) (hR : Ready w) : Calls Tryz.prog 11 #[] w fun e w' => e = .returned (.bool true) ∧ Below w.heap.size w w' := by
  have cT1 := fun b w' (h1 : Ready w') h2 => tokens_any text1 b 0 18 w' (by decide) h1 h2 (oneC_free (noData_of (by decide +kernel)))
  have cT2 := fun b w' (h1 : Ready w') h2 => tokens_any text2 b 0 16 w' (by decide) h1 h2 (oneC_free (noData_of (by decide +kernel)))
  have cT3 := fun b w' (h1 : Ready w') h2 => tokens_any text3 b 0 12 w' (by decide) h1 h2 (oneC_free (noData_of (by decide +kernel)))
  have e1 : tokL text1 = ([⟨0, 0, [97], [⟨[98], [49], 3⟩]⟩, ⟨3, 9, [120, 60], []⟩, ⟨1, 14, [97], []⟩], 18, 0) := live_1
  have e2 : tokL text2 = ([], 9, 8) := live_2
  have e3 : tokL text3 = ([], 0, 5) := live_3
  rw [e1] at cT1
  rw [e2] at cT2
  rw [e3] at cT3
  have CT1 : Hid (∀ b w', Ready w' → bytesAt w' b 0 text1 → Calls Tryz.prog 12 #[.slice (some ⟨b, 0, none⟩) text1.length 18] w' fun e w'' => ∃ v ts, e = .returned (.tuple #[v, .int .i64 18, .int .i64 0]) ∧ TokRow w'.heap.size w'' v ts ∧ ts.map (·.1) = ([⟨0, 0, [97], [⟨[98], [49], 3⟩]⟩, ⟨3, 9, [120, 60], []⟩, ⟨1, 14, [97], []⟩] : List Tk) ∧ Below w'.heap.size w' w'') := Lib.hid cT1
  have CT2 : Hid (∀ b w', Ready w' → bytesAt w' b 0 text2 → Calls Tryz.prog 12 #[.slice (some ⟨b, 0, none⟩) text2.length 16] w' fun e w'' => ∃ v ts, e = .returned (.tuple #[v, .int .i64 9, .int .i64 8]) ∧ TokRow w'.heap.size w'' v ts ∧ ts.map (·.1) = ([] : List Tk) ∧ Below w'.heap.size w' w'') := Lib.hid cT2
  have CT3 : Hid (∀ b w', Ready w' → bytesAt w' b 0 text3 → Calls Tryz.prog 12 #[.slice (some ⟨b, 0, none⟩) text3.length 12] w' fun e w'' => ∃ v ts, e = .returned (.tuple #[v, .int .i64 0, .int .i64 5]) ∧ TokRow w'.heap.size w'' v ts ∧ ts.map (·.1) = ([] : List Tk) ∧ Below w'.heap.size w' w'') := Lib.hid cT3
  clear cT1 cT2 cT3 e1 e2 e3
  have kc := fun (w : World) (C : Array Value) (n c : Nat) => Lib.run_convert_bytes_const (P := Tryz.prog) w 22 5 C n c Tryz.underlying22 Tryz.underlying5
  go_enter Tryz.func11, Tryz.ntmps11
  go_wp2_with fail
  have hba := (Below.refl w.heap.size w).alloc (Nat.le_refl _) (.cells (Lib.byteCells text1).toArray 5 (18, 19))
  refine (CT1.out _ _ (hR.below hba) (bytes_new w text1 _ rfl (18, 19))).mono ?_
  rintro e w1 ⟨v1, ts1, rfl, hT1, hts1, hb1⟩
  have hR1 := (hR.below hba).below hb1
  have hB1 := hba.trans (hb1.mono hba.size)
  have hs1 := hB1.size
  clear hba hb1
  go_wp2_with fail
  have hba2 := (Below.refl w1.heap.size w1).alloc (Nat.le_refl _) (.cells (Lib.byteCells text2).toArray 5 (16, 17))
  refine (CT2.out _ _ (hR1.below hba2) (bytes_new w1 text2 _ rfl (16, 17))).mono ?_
  rintro e w2 ⟨v2, ts2, rfl, _, _, hb2⟩
  have hR2 := (hR1.below hba2).below hb2
  have hB12 := hba2.trans (hb2.mono hba2.size)
  have hT2 := hT1.below hB12
  have hB2 := hB1.trans (hB12.mono hs1)
  have hs2 := hB2.size
  clear hba2 hb2 hB12 hT1 hB1
  go_wp2_with fail
  have hba3 := (Below.refl w2.heap.size w2).alloc (Nat.le_refl _) (.cells (Lib.byteCells text3).toArray 5 (12, 13))
  refine (CT3.out _ _ (hR2.below hba3) (bytes_new w2 text3 _ rfl (12, 13))).mono ?_
  rintro e w3 ⟨v3, ts3, rfl, _, _, hb3⟩
  have hB23 := hba3.trans (hb3.mono hba3.size)
  have hT3 := hT2.below hB23
  have hB3 := hB2.trans (hB23.mono hs2)
  have hs3 := hB3.size
  clear hba3 hb3 hB23 hT2 hB2 CT1 CT2 CT3 kc
  have hE : (ts1.map fun x => x.1.raw) = ([⟨0, 0, [97], [⟨[98], [49], 3⟩]⟩, ⟨3, 9, [120, 60], []⟩, ⟨1, 14, [97], []⟩] : List Tk).map Tk.raw := by
    rw [← hts1, List.map_map]; rfl
  have hba4 := (Below.refl w3.heap.size w3).alloc (Nat.le_refl _) (Obj.cells #[.int .i64 0, .string ⟨#[98]⟩, .string ⟨#[49]⟩] 32)
  have hba5 := hba4.alloc hba4.size (Obj.cells #[.int .i64 0, .int .i64 0, .string ⟨#[97]⟩, .slice (some ⟨w3.heap.size, 0, none⟩) 1 1, .int .i64 3, .int .i64 0, .string ⟨#[120, 60]⟩, .slice none 0 0, .int .i64 1, .int .i64 0, .string ⟨#[97]⟩, .slice none 0 0] 30)
  have hA := tokRow_at (hT3.below hba5)
  rw [hE] at hA
  have hW := want_at _ (w3.heap.size + 1) w3.heap.size (heap_alloc2_new w3 (Obj.cells #[.int .i64 0, .string ⟨#[98]⟩, .string ⟨#[49]⟩] 32) (Obj.cells #[.int .i64 0, .int .i64 0, .string ⟨#[97]⟩, .slice (some ⟨w3.heap.size, 0, none⟩) 1 1, .int .i64 3, .int .i64 0, .string ⟨#[120, 60]⟩, .slice none 0 0, .int .i64 1, .int .i64 0, .string ⟨#[97]⟩, .slice none 0 0] 30)) (heap_alloc2_old w3 _ _)
  have cS := same_any false _ want1 v1 _ _ hA hW (by decide) (by decide) (by decide) (by decide)
  rw [same_live] at cS
  have CS := Lib.hid cS
  have HB := Lib.hid (hB3.trans (hba5.mono hs3))
  have HS := Lib.hid hba5.size
  clear cS hA hW hba4 hba5 hT3 hB3 hE hts1
  go_wp2_with fail
  refine (CS.out).mono ?_
  rintro e w4 ⟨rfl, hb4⟩
  have HB4 := Lib.hid (HB.out.trans (hb4.mono (Nat.le_trans hs3 HS.out)))
  clear hb4
  go_wp2
  go_ret
  exact ⟨rfl, HB4.out⟩

end Go.Proofs.YtblhpkcdemefaaaGreatDoor
