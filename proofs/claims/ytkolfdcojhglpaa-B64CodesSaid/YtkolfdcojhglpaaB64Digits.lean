/-
  The digits of b64: what their function hands back.
-/
import Derived.Test.YtkolfdcojhglpaaB64Signs
import Derived.Lib.SlBytesConst
set_option linter.unusedVariables false
namespace Go.Tm
open Go.RowKit Go.Proofs

set_option maxHeartbeats 1000000 in
theorem digits_any (w : World) : Calls Try.prog 23 #[] w fun e w' => e = .returned (.slice (some ⟨w.heap.size, 0, none⟩) digitsN.length 16) ∧ Same w w' ∧ BytesAt w' w.heap.size 0 digitsN ∧ w.heap.size < w'.heap.size := by
  have kc := fun (w : World) (C : Array Value) (n c : Nat) => Lib.run_convert_bytes_const (P := Try.prog) w 32 5 C n c Try.underlying32 Try.underlying5
  go_enter Try.func23, Try.ntmps23
  go_wp2
  go_ret
  refine ⟨rfl, (Keep.refl _ w).alloc _, ?_, by simp⟩
  have hb := World.alloc_heap_new w (.cells (byteVals digitsN).toArray 5 (16, 17))
  intro k hk
  have e : (⟨w.heap.size, 0 + k, none⟩ : Addr) = ⟨w.heap.size, k, none⟩ := by simp
  rw [e]
  refine (Lib.cell_of_heap hb k).trans ?_
  simp only [digitsN, List.length_cons, List.length_nil] at hk
  have : k = 0 ∨ k = 1 ∨ k = 2 ∨ k = 3 ∨ k = 4 ∨ k = 5 ∨ k = 6 ∨ k = 7 ∨ k = 8 ∨ k = 9 ∨ k = 10 ∨ k = 11 ∨ k = 12 ∨ k = 13 ∨ k = 14 ∨ k = 15 := by omega
  rcases this with rfl | rfl | rfl | rfl | rfl | rfl | rfl | rfl | rfl | rfl | rfl | rfl | rfl | rfl | rfl | rfl <;> rfl

#print axioms digits_any
end Go.Tm
