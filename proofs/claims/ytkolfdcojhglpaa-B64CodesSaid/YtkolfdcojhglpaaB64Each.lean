/-
  b64.each hands back an iterator that gives the bytes of its string one by one. No conditions beyond the theorem's own.
-/
import Derived.Test.YtkolfdcojhglpaaOrd
import Derived.Test.YtkolfdcojhglpaaProg
set_option linter.unusedVariables false
namespace Go.Tm
open Go.RowKit Go.Proofs

theorem each_any (s : ByteArray) (w : World) :
    Calls Try.prog 27 #[.string s] w fun e w' => e = .returned (.func (.func 35) #[] #[.pointer (some ⟨w.heap.size, 0, none⟩)]) ∧ w' = w.alloc (.cells #[.string s] 9) := by
  go_enter Try.func27, Try.ntmps27
  go_wp2
  go_ret
  exact ⟨rfl, rfl⟩

set_option maxHeartbeats 400000 in
theorem each1_iter (s : ByteArray) (bx : Nat) (Sb Si : Nat → Obj → Prop) (W : World) (hs : s.size ≤ 9223372036854775807) (hbx : Boxed W bx 9 (.string s)) (hSb : ∀ c f, Sb bx (.cells c 9 f)) :
    IterAt Try.prog 35 #[.pointer (some ⟨bx, 0, none⟩)] s.size (fun i v _ => v = #[.int .u64 (nth (bytesN s) i)]) Sb Si (fun _ => True) (fun _ _ => True) W := by
  rintro l J Jx ⟨r, hl⟩ hJ hJx hY h0
  have hne := cell_ne_loop hbx.cell hl
  have hbc := hbx.cell
  refine callsIn_of_wp Try.func35 rfl trivial ?_ rfl
  simp only [Try.ntmps35, List.size_toArray, List.length_cons, List.length_nil, Nat.reduceAdd, Nat.reduceSub, Array.replicate_succ, Array.replicate_zero, List.push_toArray, List.append_toArray, List.nil_append, List.cons_append]
  gi_wp2
  gi_loopw [6] (fun i wr => ∃ k : Nat, k ≤ s.size ∧ i = .int .i64 k ∧ J k wr ∧ Boxed wr bx 9 (.string s)) (fun i _ => s.size - (intOf i).toNat)
  case atStart => exact ⟨0, Nat.zero_le _, rfl, h0, hbx⟩
  case round =>
    obtain ⟨k, hk, rfl, hj, hc0⟩ := hrel
    have hc := hc0.cell
    by_cases hlt : k < s.size
    · obtain ⟨fn, tmps, assign, body, hy, hR⟩ := hY k _ wr hlt hj rfl
      have hwr : IntKind.u64.wrap (↑(s[k]).toNat) = (nth (bytesN s) k : Int) := by
        rw [nth_bytes s hlt]; exact wrap_u64 (by omega) (by have := (s[k]).toNat_lt; omega)
      gi_wp2
      refine hR.mono ?_
      rintro e W3 ⟨hkp, (⟨rfl, hj3⟩ | ⟨rfl, hj3⟩)⟩
      · have hc3 := hkp.boxed hc0 ⟨hne, hSb _ _⟩
        gi_wp2
        go_roundw
        case rel => exact ⟨k + 1, by omega, by go_num, hj3, hc3⟩
        case measure => simp [intOf]; omega
      · gi_wp2
        refine bodyPost_ret (results_none rfl _ _ _) rfl ?_
        exact ⟨⟨_, rfl⟩, .inr ⟨k, hlt, hj3, trivial⟩⟩
    · gi_wp2
      go_end0
      have : k = s.size := by omega
      subst this
      exact ⟨⟨_, rfl⟩, .inl ⟨hj, trivial⟩⟩

end Go.Tm
