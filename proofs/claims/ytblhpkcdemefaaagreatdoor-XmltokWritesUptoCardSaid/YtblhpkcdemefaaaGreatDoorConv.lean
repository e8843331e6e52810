/- Walks: '[]byte(s)': an equation. -/
import Derived.Test.YtblhpkcdemefaaaGreatDoorNum
set_option linter.unusedVariables false
set_option linter.unusedSimpArgs false
namespace Go.Proofs.YtblhpkcdemefaaaGreatDoor
open Go.RowKit

theorem conv_check (l : List UInt8) (hl : l.length ≤ 2147483647) (w : World) : ∃ W1 cap, (convert 9 22 (.string ⟨l.toArray⟩)).run Tryz.prog w = .ok (.slice (some ⟨w.heap.size, 0, none⟩) l.length cap) W1 ∧ Below w.heap.size w W1 ∧ l.length ≤ cap ∧ bytesAt W1 w.heap.size 0 l ∧ W1.heap.size = w.heap.size + 1 := by
  have hcv := Lib.run_convert_string_bytes (P := Tryz.prog) w 9 22 5 ⟨l.toArray⟩ (u := .string) Tryz.underlying9 Tryz.underlying22 Tryz.underlying5
  rw [ba_size] at hcv
  refine ⟨_, _, hcv, bytesWorld_below w 5 _, grownCap_ge w l.length 0 5, fun j hj => ?_, Lib.bytesWorld_size w 5 _⟩
  rw [Nat.zero_add]; exact Lib.bytesWorld_cell w 5 ⟨l.toArray⟩ j (by rw [ba_size]; exact hj)

end Go.Proofs.YtblhpkcdemefaaaGreatDoor
