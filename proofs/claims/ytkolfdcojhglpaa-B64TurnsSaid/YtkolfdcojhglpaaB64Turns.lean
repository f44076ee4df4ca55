/-
  The law B64Turns: its walk.
-/
import Derived.Test.YtkolfdcojhglpaaB64Laws
set_option linter.unusedVariables false
namespace Go.Tm.B64Turns
open Go.RowKit Go.Proofs

def tup (x : ByteArray) (e : Int) : Value := .tuple #[.string x, .int .i64 e]
def pairsV (s : ByteArray) : Value := two (pairsN (bytesN s))
def unpairV (s : ByteArray) : Value := two (unpairN (bytesN s))

theorem enc_v (s : ByteArray) (w : World) (hs : s.size ≤ 1073741824) : Calls Try.prog 13 #[.string s] w fun e w' => e = .returned (pairsV s) ∧ Same w w' := pairs_any s w hs
theorem dec_v (s : ByteArray) (w : World) (hs : s.size ≤ 1073741824) : Calls Try.prog 15 #[.string s] w fun e w' => e = .returned (unpairV s) ∧ Same w w' := unpair_any s w hs

/-- Bytes, coded, and read. -/
theorem there (s : ByteArray) (hs : s.size ≤ 410) : ∃ (X : ByteArray) (e : Int) (Y : ByteArray) (f : Int), pairsV s = tup X e ∧ unpairV X = tup Y f ∧ X.size ≤ 1073741824 ∧
    ((s.size ≤ 400 ∧ e = 0 ∧ f = 0 ∧ Y = s ∧ X.size = 2 * s.size) ∨ (400 < s.size ∧ e = 30)) := by
  have hl := bytesN_length s
  have hb := bytesN_lt s
  refine ⟨strN (pairsN (bytesN s)).1, (pairsN (bytesN s)).2, strN (unpairN (pairsN (bytesN s)).1).1, (unpairN (pairsN (bytesN s)).1).2, rfl, ?_, ?_, ?_⟩
  · unfold unpairV; rw [bytesN_strN _ (pairs_lt _)]; rfl
  · rw [strN_size]; unfold pairsN; split
    · have := turned_len 4 (by omega) _ hb
      simp only [signsOf, List.length_map]; omega
    · simp
  · by_cases h : s.size ≤ 400
    · have h1 := unpair_pairs (bytesN s) hb (by omega)
      refine .inl ⟨h, by unfold pairsN; rw [if_pos (by omega)], by rw [h1], by rw [h1]; exact strN_bytesN s, ?_⟩
      rw [strN_size]; unfold pairsN; rw [if_pos (by omega)]
      have := turned_len 4 (by omega) _ hb
      simp only [signsOf, List.length_map]; omega
    · exact .inr ⟨by omega, by unfold pairsN; rw [if_neg (by omega)]⟩
/-- A text, read, and coded. -/
theorem back (t : ByteArray) (hs : t.size ≤ 410) : ∃ (X : ByteArray) (e : Int) (Y : ByteArray) (f : Int), unpairV t = tup X e ∧ pairsV X = tup Y f ∧ X.size ≤ 1073741824 ∧
    ((e = 0 ∧ f = 0 ∧ Y = t) ∨ e = 30) := by
  refine ⟨strN (unpairN (bytesN t)).1, (unpairN (bytesN t)).2, strN (pairsN (unpairN (bytesN t)).1).1, (pairsN (unpairN (bytesN t)).1).2, rfl, ?_, ?_, ?_⟩
  · unfold pairsV; rw [bytesN_strN _ (unpair_lt _)]; rfl
  · rw [strN_size]; unfold unpairN readN; split
    · rename_i h
      unfold readOk at h
      simp only [Bool.and_eq_true, decide_eq_true_eq] at h
      have := h.2
      show (readOut 4 digitsN (bytesN t)).length ≤ _
      omega
    · simp
  · rcases unpair_errno (bytesN t) with h | h
    · have h1 := pairs_unpair (bytesN t) h
      exact .inl ⟨h, by rw [h1], by rw [h1]; exact strN_bytesN t⟩
    · exact .inr h

set_option maxHeartbeats 2000000 in
theorem walk_any (s t : ByteArray) (w : World) (hs : s.size ≤ 9223372036854775807) (ht : t.size ≤ 9223372036854775807) :
    Calls Try.prog 6 #[.string s, .string t] w fun e w' => e = .returned (.bool true) ∧ Same w w' := by
  have zC := cutS_size s
  have zD := cutS_size t
  obtain ⟨X, e, Y, f, c1, c2, zX, hc⟩ := there (cutS s) zC
  obtain ⟨Z, g, V, h, c3, c4, zZ, hd⟩ := back (cutS t) zD
  have k1 := fun w => cut_any s w hs
  have k2 := fun w => cut_any t w ht
  obtain ⟨cf, hcf⟩ : ∃ cf : ByteArray → ByteArray, cutS = cf := ⟨_, rfl⟩
  have k := fun (x : ByteArray) (hx : x.size ≤ 9223372036854775807) w => cut_any x w hx
  rw [hcf] at k
  obtain ⟨C, hC⟩ : ∃ C, cf s = C := ⟨_, rfl⟩
  obtain ⟨D, hD⟩ : ∃ D, cf t = D := ⟨_, rfl⟩
  rw [hcf, hC] at c1 hc zC
  rw [hcf, hD] at c3 hd zD
  clear k1 k2 hcf
  have zC' : C.size ≤ 1073741824 := by omega
  have zD' : D.size ≤ 1073741824 := by omega
  have K := Lib.hid k
  have HC := Lib.hid hC
  have HD := Lib.hid hD
  have E1 := Lib.hid c1
  have E2 := Lib.hid c2
  have E3 := Lib.hid c3
  have E4 := Lib.hid c4
  clear k hC hD c1 c2 c3 c4
  rcases hc with ⟨q1, rfl, rfl, rfl, q2⟩ | ⟨q1, rfl⟩ <;> rcases hd with ⟨rfl, rfl, rfl⟩ | rfl
  all_goals
    go_enter Try.func6, Try.ntmps6
    go_wp2_with (first
      | (go_at_call 9; refine (shown_any _).mono ?_; rintro r w1 ⟨rfl, hk1⟩)
      | (go_at_call 11; refine (K.out _ (by first | exact hs | exact ht) _).mono ?_; rintro r w2 ⟨rfl, rfl⟩; first | rw [HC.out] | rw [HD.out])
      | (go_at_call 13; refine (enc_v _ _ (by first | exact zC' | exact zZ)).mono ?_; first | (rw [E1.out]; rintro r w2 ⟨rfl, hk2⟩; unfold tup) | (rw [E4.out]; rintro r w5 ⟨rfl, hk5⟩; unfold tup))
      | (go_at_call 15; refine (dec_v _ _ (by first | exact zX | exact zD')).mono ?_; first | (rw [E2.out]; rintro r w3 ⟨rfl, hk3⟩; unfold tup) | (rw [E3.out]; rintro r w4 ⟨rfl, hk4⟩; unfold tup)))
    go_ret
    refine ⟨?_, (((hk1.trans hk2).trans hk3).trans hk4).trans hk5⟩
    first | rfl | (have q3 : decide ((C.size : Int) ≤ 400) = false := decide_eq_false (by omega); simp [q3])

#print axioms walk_any
end Go.Tm.B64Turns
