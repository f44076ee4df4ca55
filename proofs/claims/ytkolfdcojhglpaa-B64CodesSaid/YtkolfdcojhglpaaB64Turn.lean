/-
  The bit accumulator of b64: add, take, and what pieces hands back. Conditions: the theorem's own.
-/
import Derived.Test.YtkolfdcojhglpaaB64Each
import Derived.BigQuiet
import Derived.Deep.QuietTactic
set_option linter.unusedVariables false
namespace Go.Tm
open Go.RowKit Go.Proofs

/-- Block t is a turner: bits that wait, how many, and the pieces' size. -/
def Turner (w : World) (t n c to : Nat) : Prop := w.heap[t]? = some (.cells #[.int .u64 n, .int .i64 c, .int .i64 to] 45 (0, 0))

theorem Turner.c0 {w : World} {t n c to : Nat} (h : Turner w t n c to) : w.cell? ⟨t, 0, none⟩ = some (.int .u64 n) := by simp [World.cell?, show w.heap[t]? = _ from h]
theorem Turner.c1 {w : World} {t n c to : Nat} (h : Turner w t n c to) : w.cell? ⟨t, 1, none⟩ = some (.int .i64 c) := by simp [World.cell?, show w.heap[t]? = _ from h]
theorem Turner.c2 {w : World} {t n c to : Nat} (h : Turner w t n c to) : w.cell? ⟨t, 2, none⟩ = some (.int .i64 to) := by simp [World.cell?, show w.heap[t]? = _ from h]
theorem Turner.f {w : World} {t n c to : Nat} (h : Turner w t n c to) (j : Nat) : w.frozen? ⟨t, j, none⟩ = false := by simp [World.frozen?, show w.heap[t]? = _ from h]
theorem Turner.keep {S : Nat → Obj → Prop} {w w' : World} {t n c to : Nat} (h : Turner w t n c to) (hk : Keep S w w') (hS : ∀ o, S t o) : Turner w' t n c to := hk.same _ _ h (hS _)
theorem heap_setCell_same {w : World} {b off : Nat} {cs : Array Value} {T : TypeId} {fr : Nat × Nat} (v : Value) (h : w.heap[b]? = some (.cells cs T fr)) : (w.setCell ⟨b, off, none⟩ v).heap[b]? = some (.cells (cs.setIfInBounds off v) T fr) := by
  obtain ⟨hlt, hk⟩ := Array.getElem?_eq_some_iff.1 h
  show (w.heap.modify b _)[b]? = _
  rw [Array.getElem?_eq_getElem (by rw [Array.size_modify]; exact hlt), Array.getElem_modify_self, hk]
  rfl

theorem or_add (n x k : Nat) (hx : x < 2 ^ k) : (n * 2 ^ k ||| x) = n * 2 ^ k + x := by
  rw [Nat.mul_comm]; exact (Nat.two_pow_add_eq_or_of_lt hx n).symm

theorem turn_or (n x k : Nat) (hn : n < 65536) (hk : k ≤ 8) (hx : x < 2 ^ k) : bits BinOp.or IntKind.u64 (IntKind.u64.wrap ((n : Int) * 2 ^ k)) (x : Int) = ((n * 2 ^ k + x : Nat) : Int) := by
  have h2 : (2 : Nat) ^ k ≤ 256 := Nat.pow_le_pow_right (by omega) hk
  have h3 : n * 2 ^ k ≤ 65535 * 256 := Nat.mul_le_mul (by omega) h2
  have e : ((n : Int) * 2 ^ k) = ((n * 2 ^ k : Nat) : Int) := by push_cast; rfl
  rw [e, wrap_u64 (by omega) (by omega), bits_or_u64_nat _ _ (by omega) (by omega), or_add n x k hx]

set_option maxHeartbeats 400000 in
theorem add_any (w : World) (t n c to x k : Nat) (h : Turner w t n c to) (hn : n < 65536) (hc : c < 64) (hk : k ≤ 8) (hx : x < 2 ^ k) :
    Calls Try.prog 33 #[.pointer (some ⟨t, 0, none⟩), .int .u64 x, .int .i64 k] w fun e w' => e = .returned (.tuple #[]) ∧ Keep (fun b _ => b ≠ t) w w' ∧ Turner w' t (n * 2 ^ k + x) (c + k) to := by
  have c0 := h.c0
  have c1 := h.c1
  have f0 := h.f 0
  have f1 := h.f 1
  have hor := turn_or n x k hn hk hx
  have H : Hid (Turner w t n c to) := h
  clear h
  go_enter Try.func33, Try.ntmps33
  go_wp2
  go_region
  all_goals
    go_wp2
    go_end0
    refine ⟨rfl, ?_, ?_⟩
    · refine Keep.drew ((Keep.setCell (Keep.setCell (Keep.refl _ w) _ ?_) _ ?_)) <;> intro o _ h _ <;> exact h rfl
    · have h1 := heap_setCell_same (off := 0) (.int .u64 ((n * 2 ^ k + x : Nat) : Int)) H.out
      have h2 := heap_setCell_same (off := 1) (.int .i64 ((c + k : Nat) : Int)) h1
      show (World.setCell _ _ _).heap[t]? = _
      simpa using h2

theorem pow_le (d k : Nat) (h : d ≤ k) : (2 : Nat) ^ d ≤ 2 ^ k := Nat.pow_le_pow_right (by omega) h

theorem turn_take (n d to : Nat) (hn : n < 2 ^ (d + to)) (hc : d + to < 16) : bits BinOp.and IntKind.u64 (n : Int) (IntKind.u64.wrap (IntKind.u64.wrap ((2 : Int) ^ d) - 1)) = ((n % 2 ^ d : Nat) : Int) := by
  have h2 := pow_le d 16 (by omega)
  have h1 : 1 ≤ (2 : Nat) ^ d := Nat.one_le_two_pow
  have h3 := pow_le (d + to) 16 (by omega)
  have e : ((2 : Int) ^ d) = ((2 ^ d : Nat) : Int) := by push_cast; rfl
  rw [e]
  generalize hp : (2 : Nat) ^ d = p at *
  rw [wrap_u64 (x := (p : Int)) (by omega) (by omega), show ((p : Int) - 1) = ((p - 1 : Nat) : Int) by omega, wrap_u64 (by omega) (by omega),
    bits_and_u64_nat _ _ (by omega) (by omega)]
  subst hp
  rw [Nat.and_two_pow_sub_one_eq_mod]

set_option maxHeartbeats 400000 in
theorem take_any (w : World) (t n d to : Nat) (h : Turner w t n (d + to) to) (hn : n < 2 ^ (d + to)) (hc : d + to < 16) :
    Calls Try.prog 34 #[.pointer (some ⟨t, 0, none⟩), .int .i64 to] w fun e w' => e = .returned (.int .u64 (n / 2 ^ d : Nat)) ∧ Keep (fun b _ => b ≠ t) w w' ∧ Turner w' t (n % 2 ^ d) d to := by
  have c0 := h.c0
  have c1 := h.c1
  have f0 := h.f 0
  have f1 := h.f 1
  have H : Hid (Turner w t n (d + to) to) := h
  clear h
  have ht := turn_take n d to hn hc
  go_enter Try.func34, Try.ntmps34
  go_wp2
  go_region
  go_wp2
  go_region
  go_wp2
  go_ret
  refine ⟨by simp, ?_, ?_⟩
  · refine Keep.drew (Keep.drew (Keep.setCell (Keep.setCell (Keep.refl _ w) _ ?_) _ ?_)) <;> intro o _ h _ <;> exact h rfl
  · have h1 := heap_setCell_same (off := 1) (.int .i64 (d : Int)) H.out
    have h2 := heap_setCell_same (off := 0) (.int .u64 ((n % 2 ^ d : Nat) : Int)) h1
    show (World.setCell _ _ _).heap[t]? = _
    simpa using h2

theorem pieces_any (w : World) (t : Nat) (g : Nat) (lb : Array Value) (fr : Int) :
    Calls Try.prog 26 #[.pointer (some ⟨t, 0, none⟩), .func (.func g) #[] lb, .int .i64 fr] w fun e w' =>
      e = .returned (.func (.func 32) #[] #[.pointer (some ⟨w.heap.size + 1, 0, none⟩), .pointer (some ⟨w.heap.size, 0, none⟩), .pointer (some ⟨w.heap.size + 2, 0, none⟩)]) ∧
      w' = ((w.alloc (.cells #[.pointer (some ⟨t, 0, none⟩)] 40)).alloc (.cells #[.func (.func g) #[] lb] 47)).alloc (.cells #[.int .i64 fr] 3) := by
  go_enter Try.func26, Try.ntmps26
  go_wp2
  go_ret
  exact ⟨rfl, rfl⟩

end Go.Tm
