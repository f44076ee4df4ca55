/-
  The law B64Back: its walk.
-/
import Derived.Test.YtkolfdcojhglpaaB64Laws
set_option linter.unusedVariables false
namespace Go.Tm.B64Back
open Go.RowKit Go.Proofs

def tup (x : ByteArray) (e : Int) : Value := .tuple #[.string x, .int .i64 e]
def codeV (s : ByteArray) : Value := two (codeN (bytesN s))
def decodeV (s : ByteArray) : Value := two (decodeN (bytesN s))

theorem enc_v (s : ByteArray) (w : World) (hs : s.size ≤ 1073741824) : Calls Try.prog 10 #[.string s] w fun e w' => e = .returned (codeV s) ∧ Same w w' := code_any s w hs
theorem dec_v (s : ByteArray) (w : World) (hs : s.size ≤ 1073741824) : Calls Try.prog 12 #[.string s] w fun e w' => e = .returned (decodeV s) ∧ Same w w' := decode_any s w hs

/-- Bytes, coded, and read. -/
theorem there (s : ByteArray) (hs : s.size ≤ 410) : ∃ (X : ByteArray) (e : Int) (Y : ByteArray) (f : Int), codeV s = tup X e ∧ decodeV X = tup Y f ∧ X.size ≤ 1073741824 ∧
    ((s.size ≤ 400 ∧ e = 0 ∧ f = 0 ∧ Y = s) ∨ (400 < s.size ∧ e = 30)) := by
  have hl := bytesN_length s
  have hb := bytesN_lt s
  refine ⟨strN (codeN (bytesN s)).1, (codeN (bytesN s)).2, strN (decodeN (codeN (bytesN s)).1).1, (decodeN (codeN (bytesN s)).1).2, rfl, ?_, ?_, ?_⟩
  · unfold decodeV; rw [bytesN_strN _ (code_lt _)]; rfl
  · rw [strN_size]; unfold codeN; split
    · have := turned_len 6 (by omega) _ hb
      simp only [signsOf, List.length_map]; omega
    · simp
  · by_cases h : s.size ≤ 400
    · have h1 := decode_code (bytesN s) hb (by omega)
      refine .inl ⟨h, by unfold codeN; rw [if_pos (by omega)], by rw [h1], by rw [h1]; exact strN_bytesN s⟩
    · exact .inr ⟨by omega, by unfold codeN; rw [if_neg (by omega)]⟩
/-- A text, read, and coded. -/
theorem back (t : ByteArray) (hs : t.size ≤ 410) : ∃ (X : ByteArray) (e : Int) (Y : ByteArray) (f : Int), decodeV t = tup X e ∧ codeV X = tup Y f ∧ X.size ≤ 1073741824 ∧
    ((e = 0 ∧ f = 0 ∧ Y = t) ∨ e = 30) := by
  refine ⟨strN (decodeN (bytesN t)).1, (decodeN (bytesN t)).2, strN (codeN (decodeN (bytesN t)).1).1, (codeN (decodeN (bytesN t)).1).2, rfl, ?_, ?_, ?_⟩
  · unfold codeV; rw [bytesN_strN _ (decode_lt _)]; rfl
  · rw [strN_size]; unfold decodeN readN; split
    · rename_i h
      unfold readOk at h
      simp only [Bool.and_eq_true, decide_eq_true_eq] at h
      have := h.2
      show (readOut 6 lettersN (bytesN t)).length ≤ _
      omega
    · simp
  · rcases decode_errno (bytesN t) with h | h
    · have h1 := code_decode (bytesN t) h
      exact .inl ⟨h, by rw [h1], by rw [h1]; exact strN_bytesN t⟩
    · exact .inr h

set_option maxHeartbeats 2000000 in
theorem walk_any (s t : ByteArray) (w : World) (hs : s.size ≤ 9223372036854775807) (ht : t.size ≤ 9223372036854775807) :
    Calls Try.prog 3 #[.string s, .string t] w fun e w' => e = .returned (.bool true) ∧ Same w w' := by
  have zC := cutS_size s
  have zD := cutS_size t
  obtain ⟨X, e, Y, f, c1, c2, zX, hc⟩ := there (cutS s) zC
  obtain ⟨Z, g, V, h, c3, c4, zZ, hd⟩ := back (cutS t) zD
  have k1 := fun w => cut_any s w hs
  have k2 := fun w => cut_any t w ht
  obtain ⟨cf, hcf⟩ : ∃ cf : ByteArray → ByteArray, cutS = cf := ⟨_, rfl⟩
  have k := fun (x : ByteArray) (hx : x.size ≤ 9223372036854775807) w => cut_any x w hx
  rw [hcf] at k
  obtain ⟨C, hC⟩ : ∃ C, cf s = C := ⟨_, rfl⟩
  obtain ⟨D, hD⟩ : ∃ D, cf t = D := ⟨_, rfl⟩
  rw [hcf, hC] at c1 hc zC
  rw [hcf, hD] at c3 hd zD
  clear k1 k2 hcf
  have zC' : C.size ≤ 1073741824 := by omega
  have zD' : D.size ≤ 1073741824 := by omega
  have K := Lib.hid k
  have HC := Lib.hid hC
  have HD := Lib.hid hD
  have E1 := Lib.hid c1
  have E2 := Lib.hid c2
  have E3 := Lib.hid c3
  have E4 := Lib.hid c4
  clear k hC hD c1 c2 c3 c4
  rcases hc with ⟨q1, rfl, rfl, rfl⟩ | ⟨q1, rfl⟩ <;> rcases hd with ⟨rfl, rfl, rfl⟩ | rfl
  all_goals
    go_enter Try.func3, Try.ntmps3
    go_wp2_with (first
      | (go_at_call 9; refine (shown_any _).mono ?_; rintro r w1 ⟨rfl, hk1⟩)
      | (go_at_call 11; refine (K.out _ (by first | exact hs | exact ht) _).mono ?_; rintro r w2 ⟨rfl, rfl⟩; first | rw [HC.out] | rw [HD.out])
      | (go_at_call 10; refine (enc_v _ _ (by first | exact zC' | exact zZ)).mono ?_; first | (rw [E1.out]; rintro r w2 ⟨rfl, hk2⟩; unfold tup) | (rw [E4.out]; rintro r w5 ⟨rfl, hk5⟩; unfold tup))
      | (go_at_call 12; refine (dec_v _ _ (by first | exact zX | exact zD')).mono ?_; first | (rw [E2.out]; rintro r w3 ⟨rfl, hk3⟩; unfold tup) | (rw [E3.out]; rintro r w4 ⟨rfl, hk4⟩; unfold tup)))
    go_ret
    refine ⟨?_, (((hk1.trans hk2).trans hk3).trans hk4).trans hk5⟩
    first | rfl | (have q3 : decide ((C.size : Int) ≤ 400) = false := decide_eq_false (by omega); simp [q3])

#print axioms walk_any
end Go.Tm.B64Back
