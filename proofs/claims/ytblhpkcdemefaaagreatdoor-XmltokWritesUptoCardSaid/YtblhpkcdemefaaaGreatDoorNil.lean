/- Walks: utf.Check and xmltok.Tokens at no bytes. -/
import Derived.Test.YtblhpkcdemefaaaGreatDoorWr
import Derived.Test.YtblhpkcdemefaaaGreatDoorGr
set_option linter.unusedVariables false
set_option linter.unusedSimpArgs false
namespace Go.Proofs.YtblhpkcdemefaaaGreatDoor
open Go.RowKit

theorem conv_nil (w : World) : (convert 22 9 (.slice none 0 0)).run Tryz.prog w = .ok (.string ⟨#[]⟩) w :=
  run_convert_bytes_nil w 22 5 Tryz.underlying22 Tryz.underlying5 0 0 9 Tryz.underlying9

theorem check_nil (w : World) : Calls Tryz.prog 30 #[.slice none 0 0] w fun e w' => e = .returned (.tuple #[.int .i64 0, .int .i64 0]) ∧ Below w.heap.size w w' := by
  have hcv := conv_nil w
  go_enter Tryz.func30, Tryz.ntmps30
  go_wp2
  go_loopw [] (fun wr => wr.heap[w.heap.size]? = some (.stringIter ⟨#[]⟩ 0) ∧ Below w.heap.size w wr) (fun _ => 0)
  case atStart =>
    refine ⟨?_, (Below.refl _ w).alloc (Nat.le_refl _) _⟩
    have := World.iter_heap w ⟨#[]⟩ 0
    simpa using this
  case round =>
    obtain ⟨hit, hbw⟩ := hrel
    have hnx : ∀ ty, (Instr.next (.pointer (some ⟨w.heap.size, 0, none⟩)) true ty).run Tryz.prog wr = _ := fun ty => Lib.run_next_end_at wr w.heap.size ⟨#[]⟩ 0 ty hit (by decide)
    clear hit hcv
    go_wp2
    go_ret2
    exact ⟨rfl, hbw⟩

set_option maxHeartbeats 4000000 in
set_option maxRecDepth 100000 in
theorem tokens_nil (w : World) : Calls Tryz.prog 12 #[.slice none 0 0] w fun e w' => e = .returned (.tuple #[.slice none 0 0, .int .i64 0, .int .i64 0]) ∧ Below w.heap.size w w' := by
  have CC := Lib.hid (check_nil w)
  go_enter Tryz.func12, Tryz.ntmps12
  go_wp2_with fail
  refine (CC.out).mono ?_
  rintro e w1 ⟨rfl, hb1⟩
  have hcv := conv_nil w1
  have hs1 := hb1.size
  have hba := (Below.refl w1.heap.size w1).alloc (Nat.le_refl _) (Obj.cells #[.string ⟨#[]⟩, .int .i64 0, .int .i64 0, .int .i64 0, .slice none 0 0] 72)
  have hC : CurS ((w1.alloc (Obj.cells #[.string ⟨#[]⟩, .int .i64 0, .int .i64 0, .int .i64 0, .slice none 0 0] 72))) w1.heap.size [] ⟨0, 0, 0, []⟩ (.slice none 0 0) := heap_alloc_new w1 _
  have hbw := hb1.trans (hba.mono hs1)
  clear hba hb1 CC
  go_wp2
  go_loopw [] (fun wr => CurS wr w1.heap.size [] ⟨0, 0, 0, []⟩ (.slice none 0 0) ∧ Below w.heap.size w wr) (fun _ => 0)
  case atStart => exact ⟨hC, hbw⟩
  case round =>
    obtain ⟨hC, hbr⟩ := hrel
    have CF := Lib.hid (fun wx (hw : CurS wx w1.heap.size [] ⟨0, 0, 0, []⟩ (.slice none 0 0)) => cfine_any w1.heap.size [] 0 0 0 (.slice none 0 0) wx hw)
    have CR := Lib.hid (fun wx (hw : CurS wx w1.heap.size [] ⟨0, 0, 0, []⟩ (.slice none 0 0)) => crest_any w1.heap.size [] 0 0 0 (.slice none 0 0) wx hw (Nat.le_refl _))
    simp only [decide_true] at CF
    clear hcv
    go_wp2_with fail
    refine (CF.out _ hC).mono ?_
    rintro e w2 ⟨rfl, rfl⟩
    go_wp2_with fail
    refine (CR.out _ hC).mono ?_
    rintro e w3 ⟨rfl, hb3⟩
    have hC3 := hC.below hb3
    have c4 := CurAt.c4 hC3
    have hbr3 := hbr.trans (hb3.mono hbr.size)
    clear hC hb3
    go_wp2_with fail
    refine (CF.out _ hC3).mono ?_
    rintro e w4 ⟨rfl, rfl⟩
    go_wp2
    go_ret3
    exact ⟨rfl, hbr3⟩

theorem writeGo_err : ∀ (l : List RT) (i : Nat) (b : Bool) (acc : List UInt8), (writeGo l i b acc).2.2 ≠ 0 → (writeGo l i b acc).1 = []
  | [], i, b, acc, h => absurd rfl h
  | t :: r, i, b, acc, h => by
    unfold writeGo at h ⊢
    split
    · rename_i h0
      rw [if_pos h0] at h
      exact writeGo_err r _ _ _ h
    · rfl
end Go.Proofs.YtblhpkcdemefaaaGreatDoor
