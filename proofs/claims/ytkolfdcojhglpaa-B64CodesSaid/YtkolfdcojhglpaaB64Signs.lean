/-
  The letters and the digits of b64: what their functions hand back.
-/
import Derived.Test.YtkolfdcojhglpaaRow
import Derived.Test.YtkolfdcojhglpaaB64Number
import Derived.Deep.WholeRow
set_option linter.unusedVariables false
namespace Go.Tm
open Go.RowKit Go.Proofs

/-- The number of a letter's sign. -/
def signN (k : Nat) : Nat := if k < 26 then 65 + k else if k < 52 then 97 + k - 26 else if k < 62 then 48 + k - 52 else if k = 62 then 45 else 95
def lettersN : List Nat := (List.range 64).map signN
def digitsN : List Nat := [48, 49, 50, 51, 52, 53, 54, 55, 56, 57, 97, 98, 99, 100, 101, 102]
def arrAt (k : Nat) : Array Value := ((List.range 64).map fun j : Nat => Value.int .u8 ((if j < k then signN j else 0 : Nat) : Int)).toArray

theorem arrAt_size (k : Nat) : (arrAt k).size = 64 := by simp [arrAt]
theorem arrAt_get (k j : Nat) (h : j < 64) : (arrAt k)[j]? = some (.int .u8 ((if j < k then signN j else 0 : Nat) : Int)) := by
  simp [arrAt, h]
theorem arrAt_succ (k : Nat) (h : k < 64) : (arrAt k).setIfInBounds k (.int .u8 (signN k : Nat)) = arrAt (k + 1) := by
  apply Array.ext_getElem?
  intro j
  rw [Array.getElem?_setIfInBounds]
  by_cases hj : j < 64
  · rw [arrAt_get _ _ hj, arrAt_get _ _ hj, arrAt_size]
    by_cases e : k = j
    · subst e; simp [h]
    · have : (j < k + 1) ↔ j < k := by omega
      simp [e, this]
  · have h1 : (arrAt k)[j]? = none := by simp [arrAt, hj]
    have h2 : (arrAt (k + 1))[j]? = none := by simp [arrAt, hj]
    rw [h1, h2]
    simp; omega

theorem row_setCell {w : World} {b k : Nat} {c : Array Value} {u : Value} {t : TypeId} {fr : Nat × Nat} (h : w.heap[b]? = some (.cells c t fr)) : (w.setCell ⟨b, k, none⟩ u).heap[b]? = some (.cells (c.setIfInBounds k u) t fr) := by
  have hlt := lt_of_block h
  have h' : w.heap[b] = .cells c t fr := by simpa [Array.getElem?_eq_getElem hlt] using h
  show (w.heap.modify b _)[b]? = _
  rw [Array.getElem?_eq_getElem (by simpa using hlt), Array.getElem_modify_self, h']
  rfl

theorem signN_lt (k : Nat) : signN k < 256 := by unfold signN; split <;> (try split) <;> (try split) <;> (try split) <;> omega
theorem arr_agg (k : Nat) : (arrAt k).all (·.oneCell') = true := by
  rw [Array.all_eq_true]
  intro i hi
  have := arrAt_get k i (by rw [arrAt_size] at hi; exact hi)
  rw [Array.getElem?_eq_getElem hi] at this
  rw [Option.some.inj this]; rfl
theorem arr_info : (Try.prog.info? 29).map (·.size) = some 64 := by kernel_rfl

set_option maxRecDepth 100000 in
set_option maxHeartbeats 1000000 in
theorem letters_any (w : World) : Calls Try.prog 20 #[] w fun e w' => e = .returned (.agg (arrAt 64)) ∧ Same w w' := by
  go_enter Try.func20, Try.ntmps20
  go_wp2
  have h0 : arrAt 0 = #[.int .u8 0, .int .u8 0, .int .u8 0, .int .u8 0, .int .u8 0, .int .u8 0, .int .u8 0, .int .u8 0, .int .u8 0, .int .u8 0, .int .u8 0, .int .u8 0, .int .u8 0, .int .u8 0, .int .u8 0, .int .u8 0, .int .u8 0, .int .u8 0, .int .u8 0, .int .u8 0, .int .u8 0, .int .u8 0, .int .u8 0, .int .u8 0, .int .u8 0, .int .u8 0, .int .u8 0, .int .u8 0, .int .u8 0, .int .u8 0, .int .u8 0, .int .u8 0, .int .u8 0, .int .u8 0, .int .u8 0, .int .u8 0, .int .u8 0, .int .u8 0, .int .u8 0, .int .u8 0, .int .u8 0, .int .u8 0, .int .u8 0, .int .u8 0, .int .u8 0, .int .u8 0, .int .u8 0, .int .u8 0, .int .u8 0, .int .u8 0, .int .u8 0, .int .u8 0, .int .u8 0, .int .u8 0, .int .u8 0, .int .u8 0, .int .u8 0, .int .u8 0, .int .u8 0, .int .u8 0, .int .u8 0, .int .u8 0, .int .u8 0, .int .u8 0] := by rfl
  rw [← h0]
  clear h0
  generalize hW1 : World.alloc _ (.cells (arrAt 0) 29) = W1
  have hk1 : Same w W1 := by rw [← hW1]; exact ((Keep.refl _ w).alloc _).alloc _
  have hz : W1.heap.size = w.heap.size + 2 := by rw [← hW1]; simp
  have b0 : W1.heap[w.heap.size]? = some (.cells (arrAt 0) 29 (0, 0)) := by rw [← hW1]; exact heap_old (heap_new' rfl)
  have b1 : W1.heap[w.heap.size + 1]? = some (.cells (arrAt 0) 29 (0, 0)) := by rw [← hW1]; exact heap_new' (by simp)
  clear hW1
  go_loopw [2, 3] (fun i s wr => ∃ k : Nat, k ≤ 64 ∧ i = .int .i64 k ∧ s = .string (if k ≤ 62 then ⟨#[]⟩ else ⟨#[45, 95]⟩) ∧ Same w wr ∧ wr.heap[w.heap.size]? = some (.cells (arrAt 0) 29 (0, 0)) ∧ wr.heap[w.heap.size + 1]? = some (.cells (arrAt k) 29 (0, 0)))
    (fun i _ _ => 64 - (intOf i).toNat)
  case atStart => exact ⟨0, by omega, rfl, rfl, hk1, b0, b1⟩
  case round =>
    obtain ⟨k, hk, rfl, rfl, hs, hb0, hb1⟩ := hrel
    by_cases hlt : k < 64
    · have hc1 : wr.cell? ⟨w.heap.size + 1, k, none⟩ = some (.int .u8 0) := by rw [Lib.cell_of_heap hb1, arrAt_get _ _ hlt]; simp
      have hf1 : wr.frozen? ⟨w.heap.size + 1, k, none⟩ = false := Lib.frozen_of_heap hb1 _
      have next : ∀ x : Int, x = ((signN k : Nat) : Int) → Same w (wr.setCell ⟨w.heap.size + 1, k, none⟩ (.int .u8 x)) ∧ (wr.setCell ⟨w.heap.size + 1, k, none⟩ (.int .u8 x)).heap[w.heap.size]? = some (.cells (arrAt 0) 29 (0, 0)) ∧ (wr.setCell ⟨w.heap.size + 1, k, none⟩ (.int .u8 x)).heap[w.heap.size + 1]? = some (.cells (arrAt (k + 1)) 29 (0, 0)) := by
        rintro x rfl
        refine ⟨hs.setCell _ fun o _ _ h => by simp at h; omega, ?_, ?_⟩
        · rw [Below.heap_setCell _ _ _ _ (by show w.heap.size ≠ w.heap.size + 1; omega)]; exact hb0
        · rw [row_setCell hb1, arrAt_succ k hlt]
      have Next := Lib.hid next
      clear next hs hb0 hb1
      by_cases h1 : k < 26
      · have hw8 : IntKind.u8.wrap (65 + (k : Int)) = 65 + (k : Int) := by simp [IntKind.wrap, IntKind.bits, IntKind.signed]; omega
        have hss : (if k ≤ 62 then (⟨#[]⟩ : ByteArray) else ⟨#[45, 95]⟩) = ⟨#[]⟩ := if_pos (by omega)
        rw [hss]
        go_wp2
        go_roundw
        case rel =>
          refine ⟨k + 1, by omega, by go_num, by rw [if_pos (by omega)], Next.out _ ?_⟩
          simp [signN, h1]
        case measure => simp [intOf]; omega
      · by_cases h2 : k < 52
        · have hw8 : IntKind.u8.wrap (97 + (k : Int) - 26) = 97 + (k : Int) - 26 := by simp [IntKind.wrap, IntKind.bits, IntKind.signed]; omega
          have hss : (if k ≤ 62 then (⟨#[]⟩ : ByteArray) else ⟨#[45, 95]⟩) = ⟨#[]⟩ := if_pos (by omega)
          rw [hss]
          go_wp2
          go_roundw
          case rel =>
            refine ⟨k + 1, by omega, by go_num, by rw [if_pos (by omega)], Next.out _ ?_⟩
            simp [signN, h1, h2]; omega
          case measure => simp [intOf]; omega
        · by_cases h3 : k < 62
          · have hw8 : IntKind.u8.wrap (48 + (k : Int) - 52) = 48 + (k : Int) - 52 := by simp [IntKind.wrap, IntKind.bits, IntKind.signed]; omega
            have hss : (if k ≤ 62 then (⟨#[]⟩ : ByteArray) else ⟨#[45, 95]⟩) = ⟨#[]⟩ := if_pos (by omega)
            rw [hss]
            go_wp2
            go_roundw
            case rel =>
              refine ⟨k + 1, by omega, by go_num, by rw [if_pos (by omega)], Next.out _ ?_⟩
              simp [signN, h1, h2, h3]; omega
            case measure => simp [intOf]; omega
          · by_cases h4 : k = 62
            · subst h4
              go_wp2
              go_roundw
              case rel =>
                refine ⟨62 + 1, by omega, by go_num, by rfl, Next.out _ ?_⟩
                rfl
              case measure => simp [intOf]
            · obtain rfl : k = 63 := by omega
              go_wp2
              go_roundw
              case rel =>
                refine ⟨63 + 1, by omega, by go_num, by rfl, Next.out _ ?_⟩
                rfl
              case measure => simp [intOf]
    · obtain rfl : k = 64 := by omega
      go_wp2_with (first
        | (refine wpList_load_row rfl 29 _ rfl (w.heap.size + 1) rfl 29 _ (0, 0) _ hb1 Try.underlying29 rfl (by rw [arr_info, arrAt_size]) ?_)
        | (refine wpList_store_row rfl 29 _ _ rfl w.heap.size (arrAt 64) rfl rfl 29 (arrAt 0) hb0 (by rw [arr_info, arrAt_size]) (by rw [arrAt_size, arrAt_size]) (arr_agg 64) ?_))
      have hrow : (wr.setRow w.heap.size (arrAt 64)).heap[w.heap.size]? = some (.cells (arrAt 64) 29 (0, 0)) := by
        have hlt' := lt_of_block hb0
        have h' : wr.heap[w.heap.size] = .cells (arrAt 0) 29 (0, 0) := by simpa [Array.getElem?_eq_getElem hlt'] using hb0
        show (wr.heap.modify w.heap.size _)[w.heap.size]? = _
        rw [Array.getElem?_eq_getElem (by simpa using hlt'), Array.getElem_modify_self, h']
      refine bodyPost_ret (v := .agg (arrAt 64)) (results_cell_row rfl _ _ w.heap.size 29 (arrAt 64) (0, 0) _ rfl hrow Try.underlying29 rfl (by rw [arr_info, arrAt_size])) rfl ⟨rfl, ?_⟩
      refine ⟨hs.os, hs.tape, hs.output, by have := hs.size; simpa [World.setRow] using this, fun b o hb _ => ?_⟩
      have := hs.same b o hb trivial
      show (wr.heap.modify w.heap.size _)[b]? = _
      rw [Array.getElem?_modify, if_neg (by have := lt_of_some hb; omega)]
      exact this

#print axioms letters_any
end Go.Tm
