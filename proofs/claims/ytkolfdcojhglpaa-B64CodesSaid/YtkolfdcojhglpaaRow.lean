/-
  A slice of bytes that the call itself has built by append: read as a string; one byte more, where the slice lies in a box.
-/
import Derived.Test.YtkolfdcojhglpaaBld
import Derived.Laws.BytesArg
import Derived.RangeFuncBox
set_option linter.unusedVariables false
namespace Go.Tm
open Go.RowKit Go.Proofs

theorem row_slice {w : World} {B : Nat} {v : Value} {n : Nat} {xs : List Value} {e : TypeId} (h : w.ownsRow B e 1 v n xs) : ∃ a cap, v = .slice a n cap := by
  rcases h.2 with ⟨rfl, h0⟩ | ⟨g, cap, cur, rfl, _⟩
  · exact ⟨none, 0, by rw [h0]⟩
  · exact ⟨_, cap, rfl⟩

theorem row_string {B : Nat} {v : Value} {n : Nat} {xs : List Nat} {w : World} (h : w.ownsRow B 5 1 v n (byteVals xs)) (hx : ∀ x ∈ xs, x < 256) :
    (convert 32 9 v).run Try.prog w = .ok (.string (strN xs)) w := by
  have hn : xs.length = n := by have := h.1; rw [byteVals_length] at this; omega
  subst hn
  rcases h.2 with ⟨rfl, h0⟩ | ⟨g, cap, cur, rfl, _, hg, h1, _, h3, h4⟩
  · rw [List.length_eq_zero_iff.1 h0]
    exact run_convert_bytes_nil w _ _ Try.underlying32 Try.underlying5 _ _ _ Try.underlying9
  · have := run_convert_bytes_back (P := Try.prog) w 32 9 5 ⟨g, 0, none⟩ cap (xs.map UInt8.ofNat) Try.underlying32 Try.underlying5 Try.underlying9 (fun j hj => by
      rw [List.length_map] at hj
      have e : (⟨g, 0, none⟩ : Addr).add j = ⟨g, j, none⟩ := by unfold Addr.add; split <;> simp_all
      rw [e, Lib.cell_of_heap hg]
      have h5 : cur[j]? = (byteVals xs)[j]? := by
        rw [← h4, List.getElem?_take_of_lt (by omega), Array.getElem?_toList]
      rw [h5]
      simp [byteVals, Nat.mod_eq_of_lt (hx _ (List.getElem_mem hj))]
      exact ⟨_, List.getElem?_eq_getElem hj, rfl⟩)
    simpa [strN] using this

/-- One byte more, in a box. -/
theorem row_appended {W w1 : World} {B b : Nat} {v v' : Value} {k : Nat} {xs ys : List Value} {tmp : Obj} {n : Nat}
    (hv : Boxed W b 32 v) (hrow : W.ownsRow B 5 1 v k xs) (hB : B ≤ W.heap.size) (hBb : B ≤ b)
    (hown' : w1.ownsRow B 5 1 v' n ys) (hgrow : (W.alloc tmp).grownBy w1 v.ownBlock) :
    Boxed w1 b 32 v ∧ Boxed (w1.setCell ⟨b, 0, none⟩ v') b 32 v' ∧ (w1.setCell ⟨b, 0, none⟩ v').ownsRow B 5 1 v' n ys ∧ Keep (BldS B b) W (w1.setCell ⟨b, 0, none⟩ v') := by
  obtain ⟨h1, h2, h3, _, _⟩ := Boxed.appended hv (by decide) hrow hB hBb hown' hgrow
  refine ⟨h1, h2, h3, ?_⟩
  have h2 : Keep (BldS B b) W (W.alloc tmp) := (Keep.refl _ W).alloc tmp
  have h3 : Keep (BldS B b) W w1 := h2.grown hgrow fun r hr o' ho hs _ => by
    rcases hrow.2 with ⟨rfl, _⟩ | ⟨g, cap, cur, rfl, hb, hgg, _⟩
    · simp [Value.ownBlock] at hr
    · simp [Value.ownBlock] at hr
      subst hr
      have : (W.alloc tmp).heap[g]? = some (.cells cur 5 (0, 0)) := (Below.heap_alloc W tmp g (lt_of_some hgg)).trans hgg
      rw [this] at ho; cases ho
      rcases hs.2 with h | h
      · omega
      · exact h _ _ rfl
  exact h3.setCell _ fun o _ hs _ => hs.1 rfl
end Go.Tm
