/- A map that a literal lays, key by key, and a look-up in it (of no program): what the block holds is told by a list of keys and values. -/
import Derived.Maps.Own
import Derived.Maps.OwnOps
import Derived.WalkKit
set_option linter.unusedVariables false
set_option linter.unusedSimpArgs false
namespace Go.Proofs.YtblhpkcdemefaaaGreatDoor
open Go.RowKit Go.ChangeMaps Go.MapKept
open Go.Maps (Keyed)

/-- Block b is a map of just these entries. -/
def litMap (w : World) (b : Nat) (l : List (Value × Value)) : Prop := ∃ es clock, w.heap[b]? = some (.map es clock) ∧ es.toList.map (fun e => (e.key, e.val)) = l

theorem litMap_made (w : World) : litMap (w.alloc (.map #[] 0)) w.heap.size [] := ⟨#[], 0, (MapKept.heap_alloc w _).1, rfl⟩

theorem litMap.lt {w : World} {b : Nat} {l : List (Value × Value)} (h : litMap w b l) : b < w.heap.size := by
  obtain ⟨es, clock, hb, _⟩ := h
  exact (Array.getElem?_eq_some_iff.1 hb).1

theorem litMap.below {w w' : World} {b B : Nat} {l : List (Value × Value)} (h : litMap w b l) (hb : Below B w w') (hB : b < B) : litMap w' b l := by
  obtain ⟨es, clock, h1, h2⟩ := h
  exact ⟨es, clock, (hb.block b hB).trans h1, h2⟩

theorem litMap.kept {w w' : World} {b : Nat} {l : List (Value × Value)} (h : litMap w b l) (hk : w'.heap[b]? = w.heap[b]?) : litMap w' b l := by
  obtain ⟨es, clock, h1, h2⟩ := h
  exact ⟨es, clock, hk.trans h1, h2⟩

theorem litMap.insert {P : Program} {w : World} {b : Nat} {l : List (Value × Value)} (h : litMap w b l) {t k e : TypeId} (K : Keyed P k) (ht : P.underlying t = some (.map k e)) {key val : Value} {kl : Lit}
    (hkey : keyOf P k key = some kl) (hl : ∀ p ∈ l, (∃ kl, keyOf P k p.1 = some kl) ∧ p.1 ≠ key) :
    ∃ w', (Instr.mapUpdate t (.map (some b)) key val).run P w = .ok () w' ∧ litMap w' b (l ++ [(key, val)]) ∧ w.grownBy w' (some b) := by
  obtain ⟨es, clock, hb, rfl⟩ := h
  have hkeys : ∀ x ∈ es.toList, ∃ l, keyOf P k x.key = some l := fun x hx => (hl (x.key, x.val) (List.mem_map.2 ⟨x, hx, rfl⟩)).1
  rcases K.find w hkey es.toList hkeys with ⟨h1, h2⟩ | ⟨j, e0, h1, h2, h3⟩
  · refine ⟨setBlock w b (.map (es.push { key, val, born := clock }) (clock + 1)), ?_, ⟨_, _, heap_setBlock_same hb _, by simp⟩, ⟨rfl, rfl, rfl, by simp [setBlock], fun i _ hi => heap_setBlock_other hb _ (fun e => hi (by rw [e]))⟩⟩
    simp [Instr.mapUpdate, run_underlying ht, MapKept.run_getObj_map hb, K.check w _ hkey, h1, MapKept.run_setObj_map _ hb, Result.andThen, setBlock]
  · exact absurd h3 (hl (e0.key, e0.val) (List.mem_map.2 ⟨e0, List.mem_of_getElem? h2, rfl⟩)).2

/-- 'map[..]..{.., key: val, ..}' at the operation. -/
theorem wpList_insert_lit {P : Program} (w : World) {ops : Array Oper} {rest : List Oper} {o : Oper} {a : Act} {Q : Exit → Act → World → Prop}
    (hg : o.guard = none) (m x v : Operand) (t : TypeId) (hop : o.op = Op.insert t m x v)
    (k e : TypeId) (K : Keyed P k) (ht : P.underlying t = some (.map k e)) (b : Nat) (l : List (Value × Value))
    (hm : a.eval m = .map (some b)) (hl : litMap w b l) (key val : Value) (kl : Lit) (hx : a.eval x = key) (hv : a.eval v = val) (hkey : keyOf P k key = some kl)
    (hnew : ∀ p ∈ l, (∃ kl, keyOf P k p.1 = some kl) ∧ p.1 ≠ key)
    (hK : ∀ w', litMap w' b (l ++ [(key, val)]) → w.grownBy w' (some b) → wpList P ops Q rest (a.put o.dst undef) w') :
    wpList P ops Q (o :: rest) a w := by
  refine wpList_plain hg fun K' hK' => ?_
  obtain ⟨w', hrun, r1, r2⟩ := hl.insert (val := val) K ht hkey hnew
  unfold Oper.wp
  simp [execOp, hop, hm, hx, hv, hrun, Result.andThen]
  exact hK' _ _ (hK w' r1 r2)

/-- 'v, ok := m[key]': the world does not turn. -/
theorem litMap.look {P : Program} {w : World} {b : Nat} {l : List (Value × Value)} (h : litMap w b l) {t k e : TypeId} (K : Keyed P k) (ht : P.underlying t = some (.map k e)) {key z : Value} {kl : Lit}
    (hz : (zeroValue e).run P w = .ok z w) (hkey : keyOf P k key = some kl) (hl : ∀ p ∈ l, ∃ kl, keyOf P k p.1 = some kl) :
    (∃ v, (key, v) ∈ l ∧ (Instr.lookup t (.map (some b)) key true).run P w = .ok (.tuple #[v, .bool true]) w) ∨
    ((∀ p ∈ l, p.1 ≠ key) ∧ (Instr.lookup t (.map (some b)) key true).run P w = .ok (.tuple #[z, .bool false]) w) := by
  obtain ⟨es, clock, hb, rfl⟩ := h
  have hkeys : ∀ x ∈ es.toList, ∃ l, keyOf P k x.key = some l := fun x hx => hl (x.key, x.val) (List.mem_map.2 ⟨x, hx, rfl⟩)
  rcases K.find w hkey es.toList hkeys with ⟨h1, h2⟩ | ⟨j, e0, h1, h2, h3⟩
  · refine Or.inr ⟨fun p hp => ?_, by simp [Instr.lookup, run_underlying ht, MapKept.run_getObj_map hb, K.check w _ hkey, h1, hz, Result.andThen]⟩
    obtain ⟨x, hx, rfl⟩ := List.mem_map.1 hp
    exact h2 x hx
  · refine Or.inl ⟨e0.val, List.mem_map.2 ⟨e0, List.mem_of_getElem? h2, by rw [h3]⟩, by simp [Instr.lookup, run_underlying ht, MapKept.run_getObj_map hb, K.check w _ hkey, h1, Result.andThen]⟩

end Go.Proofs.YtblhpkcdemefaaaGreatDoor
