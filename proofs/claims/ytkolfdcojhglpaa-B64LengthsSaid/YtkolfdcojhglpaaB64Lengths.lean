/-
  The law B64Lengths: its walk.
-/
import Derived.Test.YtkolfdcojhglpaaB64Laws
set_option linter.unusedVariables false
namespace Go.Tm
open Go.RowKit Go.Proofs

/-- A letter, as the law asks for it. -/
def IsLetter (c : Nat) : Prop := (65 ≤ c ∧ c ≤ 90) ∨ (97 ≤ c ∧ c ≤ 122) ∨ (48 ≤ c ∧ c ≤ 57) ∨ c = 45 ∨ c = 95
theorem letter_all : ∀ n, n < 64 → IsLetter (nth lettersN n) := by unfold IsLetter; decide

theorem code_letters (x : ByteArray) (h : x.size ≤ 400) : ∃ A : ByteArray,
    two (codeN (bytesN x)) = .tuple #[.string A, .int .i64 0] ∧ (decodeN (bytesN A)).2 = 0 ∧ A.size = (4 * x.size + 2) / 3 ∧ ∀ k (hk : k < A.size), IsLetter (A.data[k]'hk).toNat := by
  have l1 := bytesN_length x
  have b1 := bytesN_lt x
  have t1 := turned_len 6 (by omega) _ b1
  obtain ⟨p, _, _, _, hlt⟩ := turned_val 6 (by omega) _ b1
  have e1 : codeN (bytesN x) = (signsOf lettersN (turnedN 6 (bytesN x)), 0) := by unfold codeN; rw [if_pos (by omega)]
  refine ⟨strN (signsOf lettersN (turnedN 6 (bytesN x))), by rw [e1]; rfl, ?_, ?_, ?_⟩
  · have h1 := decode_code (bytesN x) b1 (by omega)
    rw [e1] at h1
    rw [bytesN_strN _ (signs_lt _ _ letters_lt), h1]
  · rw [strN_size]; simp only [signsOf, List.length_map]; omega
  · intro k hk
    have hk2 : k < (turnedN 6 (bytesN x)).length := by rw [strN_size] at hk; simpa [signsOf] using hk
    have h1 : (strN (signsOf lettersN (turnedN 6 (bytesN x)))).data[k]'hk = UInt8.ofNat (nth lettersN ((turnedN 6 (bytesN x))[k])) := by simp [strN, signsOf]
    rw [h1]
    have h2 := letters_lt ((turnedN 6 (bytesN x))[k])
    have h3 : (UInt8.ofNat (nth lettersN ((turnedN 6 (bytesN x))[k]))).toNat = nth lettersN ((turnedN 6 (bytesN x))[k]) := by
      simp; omega
    rw [h3]
    exact letter_all _ (hlt _ (List.getElem_mem hk2))

set_option maxHeartbeats 4000000 in
theorem B64Lengths.walk_any (s : ByteArray) (w : World) (hs : s.size ≤ 9223372036854775807) :
    Calls Try.prog 8 #[.string s] w fun e w' => e = .returned (.bool true) ∧ Same w w' := by
  obtain ⟨S1, e1⟩ : ∃ S1, s.extract 0 (min (s.size : Int) 400).toNat = S1 := ⟨_, rfl⟩
  have z1 : S1.size ≤ 400 := by rw [← e1, ByteArray.size_extract]; omega
  obtain ⟨A, c1, c2, z2, hA⟩ := code_letters S1 z1
  have z3 : A.size ≤ 1000 := by omega
  have Z2 := Lib.hid z2
  clear z2
  have E1 := Lib.hid c1
  have E2 := Lib.hid c2
  have HA := Lib.hid hA
  clear c1 c2 hA
  go_enter Try.func8, Try.ntmps8
  go_wp2_with (first
    | (go_at_call 9; refine (shown_any _).mono ?_; rintro r w1 ⟨rfl, hk1⟩)
    | (go_at_call 10; refine (code_any _ _ (by omega)).mono ?_; rw [E1.out]; rintro r w2 ⟨rfl, hk2⟩))
  have hk12 := hk1.trans hk2
  clear hk1 hk2
  go_loop [6] (fun i => ∃ k : Nat, k ≤ A.size ∧ i = .int .i64 k) (fun i => A.size - (intOf i).toNat)
  case atStart => exact ⟨0, Nat.zero_le _, rfl⟩
  case round =>
    obtain ⟨k, hk, rfl⟩ := hrel
    by_cases hlt : k < A.size
    · have hL : IsLetter (A[k]'hlt).toNat := HA.out k hlt
      unfold IsLetter at hL
      rcases hL with h | h | h | h | h
      all_goals
        go_wp2
        go_round
        case rel => exact ⟨k + 1, by omega, by go_num⟩
        case measure => simp [intOf]; omega
    · obtain rfl : k = A.size := by omega
      have d3 : (4 * (S1.size : Int) + 2) / 3 = (A.size : Int) := by have := Z2.out; omega
      go_wp2_with (go_at_call 19; refine (iscode_any _ _ (by omega)).mono ?_; rw [E2.out]; rintro r w3 ⟨rfl, hk3⟩)
      go_ret
      exact ⟨rfl, hk12.trans hk3⟩

#print axioms B64Lengths.walk_any
end Go.Tm
