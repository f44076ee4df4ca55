/-
  b64.number answers the place of a sign among bytes, or -1. Conditions: the theorem's own.
-/
import Derived.Test.YtkolfdcojhglpaaBld
import Derived.Test.YtkolfdcojhglpaaBits
import Derived.Lib.OthersKept
import Derived.Laws.RangeAny
set_option linter.unusedVariables false
namespace Go.Tm
open Go.RowKit Go.Proofs

/-- The place of r among ys; their number, if it is none. -/
def idxN (ys : List Nat) (r : Nat) : Nat := ys.findIdx (· == r)
def idxI (ys : List Nat) (r : Nat) : Int := if idxN ys r < ys.length then (idxN ys r : Int) else -1

/-- A slice of bytes at a place: its first cells. -/
def BytesAt (w : World) (b o : Nat) (ys : List Nat) : Prop := ∀ k, k < ys.length → w.cell? ⟨b, o + k, none⟩ = some (.int .u8 (nth ys k))
theorem BytesAt.keep {S : Nat → Obj → Prop} {w w' : World} {b o : Nat} {ys : List Nat} (h : BytesAt w b o ys) (hk : Keep S w w') (hS : ∀ o', w.heap[b]? = some o' → S b o') : BytesAt w' b o ys := fun k hlt => hk.cell (h k hlt) hS

theorem idxN_eq (ys : List Nat) (r k : Nat) (hk : k < ys.length) (hm : nth ys k = r) (hno : ∀ j, j < k → nth ys j ≠ r) : idxN ys r = k := by
  unfold idxN
  have hm' : ys[k] = r := by simpa [nth, hk] using hm
  rw [List.findIdx_eq hk]
  refine ⟨by simp [hm'], fun j hj => ?_⟩
  have := hno j hj
  simp only [nth, List.getD_eq_getElem?_getD, List.getElem?_eq_getElem (show j < ys.length by omega), Option.getD_some] at this
  simpa using this
theorem idxN_none (ys : List Nat) (r : Nat) (hno : ∀ j, j < ys.length → nth ys j ≠ r) : ¬ idxN ys r < ys.length := by
  intro h
  have := List.findIdx_getElem (xs := ys) (p := (· == r)) (w := h)
  have h2 := hno _ h
  simp only [nth, List.getD_eq_getElem?_getD] at h2
  unfold idxN at h h2
  rw [List.getElem?_eq_getElem h, Option.getD_some] at h2
  exact h2 (by simpa using this)

set_option maxHeartbeats 400000 in
theorem number_any (w : World) (r sb so cap : Nat) (ys : List Nat) (h : BytesAt w sb so ys) (hl : ys.length ≤ 9223372036854775807) (hb : ∀ k, nth ys k < 256) :
    Calls Try.prog 31 #[.int .i32 r, .slice (some ⟨sb, so, none⟩) ys.length cap] w fun e w' => e = .returned (.int .i64 (idxI ys r)) ∧ w = w' := by
  obtain ⟨n, hn⟩ : ∃ n, ys.length = n := ⟨_, rfl⟩
  have Hn := Lib.hid hn
  rw [hn] at hl ⊢
  clear hn
  have H := Lib.hid h
  clear h
  go_enter Try.func31, Try.ntmps31
  go_wp2
  go_step3
  go_wp2
  go_step3
  go_wp2
  go_loop [5, 10] (fun f i => ∃ k : Nat, k ≤ n ∧ i = .int .i64 k ∧ f = .int .i64 (-1) ∧ ∀ j, j < k → nth ys j ≠ r) (fun _ i => n - (intOf i).toNat)
  case atStart => exact ⟨0, Nat.zero_le _, rfl, rfl, fun j hj => absurd hj (Nat.not_lt_zero j)⟩
  case round =>
    obtain ⟨k, hk, rfl, rfl, hno⟩ := hrel
    have Hno := Lib.hid hno
    clear hno
    by_cases hlt : k < n
    · have hc := H.out k (by rw [Hn.out]; exact hlt)
      by_cases hm : nth ys k = r
      · subst hm
        have hid : idxI ys (nth ys k) = k := by
          have := idxN_eq ys _ k (by rw [Hn.out]; exact hlt) rfl Hno.out
          unfold idxI; rw [this, if_pos (by rw [Hn.out]; exact hlt)]
        have Hid' := Lib.hid hid
        clear hid
        have hw32 := wrap_i32 (x := (nth ys k : Int)) (by omega) (by have := hb k; omega)
        go_wp2
        go_ret
        exact ⟨by rw [Hid'.out]; rfl, rfl⟩
      · have hw32 := wrap_i32 (x := (nth ys k : Int)) (by omega) (by have := hb k; omega)
        have hbe : (((nth ys k : Nat) : Int) == (r : Int)) = false := by rw [beq_eq_false_iff_ne]; omega
        go_wp2
        go_round
        case rel =>
          refine ⟨k + 1, by omega, by go_num, rfl, fun j hj => ?_⟩
          by_cases e : j = k
          · subst e; exact hm
          · exact Hno.out j (by omega)
        case measure => simp [intOf]; omega
    · have hid : idxI ys r = -1 := by
        unfold idxI; rw [if_neg (idxN_none ys r fun j hj => Hno.out j (by rw [Hn.out] at hj; omega))]
      have Hid' := Lib.hid hid
      clear hid
      go_wp2
      go_ret
      exact ⟨by rw [Hid'.out]; rfl, rfl⟩

end Go.Tm
