/-
  The law B64Joins: its walk.
-/
import Derived.Test.YtkolfdcojhglpaaB64Laws
set_option linter.unusedVariables false
namespace Go.Tm
open Go.RowKit Go.Proofs

theorem bytesN_append (x y : ByteArray) : bytesN (x ++ y) = bytesN x ++ bytesN y := by
  simp [bytesN, ByteArray.data_append]
theorem strN_append (x y : List Nat) : strN (x ++ y) = strN x ++ strN y := by
  apply bytesN_inj
  rw [bytesN_append]
  simp [bytesN, strN]

/-- The pieces of two texts, the first of which leaves nothing over. -/
theorem turned_append (x y : List Nat) (m : Nat) (hx : ∀ b ∈ x, b < 256) (h : x.length = 3 * m) : turnedN 6 (x ++ y) = turnedN 6 x ++ turnedN 6 y := by
  have hl := outs_len 6 8 (0, 0) x
  have hok := finAt_ok 6 8 x (by omega) x.length (Nat.le_refl _)
  rw [finAt_all] at hok
  have h0 : (fin 6 8 (0, 0) x).2 = 0 := by simp only at hl; omega
  have h1 : (fin 6 8 (0, 0) x).1 = 0 := by have := hok.2; rw [h0] at this; omega
  have hf : fin 6 8 (0, 0) x = (0, 0) := Prod.ext h1 h0
  have ha : fin 6 8 (0, 0) (x ++ y) = fin 6 8 (0, 0) y := by rw [fin_append, hf]
  unfold turnedN
  rw [finAt_all, finAt_all, finAt_all, ha, outs_append, hf]
  simp

theorem codes_join (x y : ByteArray) (m : Nat) (hx : x.size = 3 * m) (h1 : x.size ≤ 180) (h2 : y.size ≤ 180) : ∃ A B : ByteArray,
    two (codeN (bytesN x)) = .tuple #[.string A, .int .i64 0] ∧ two (codeN (bytesN y)) = .tuple #[.string B, .int .i64 0] ∧
    two (codeN (bytesN (x ++ y))) = .tuple #[.string (A ++ B), .int .i64 0] ∧ A.size = m * 4 ∧ B.size ≤ 1000 := by
  have l1 := bytesN_length x
  have l2 := bytesN_length y
  have b1 := bytesN_lt x
  have b2 := bytesN_lt y
  have t1 := turned_len 6 (by omega) _ b1
  have t2 := turned_len 6 (by omega) _ b2
  have e1 : codeN (bytesN x) = (signsOf lettersN (turnedN 6 (bytesN x)), 0) := by unfold codeN; rw [if_pos (by omega)]
  have e2 : codeN (bytesN y) = (signsOf lettersN (turnedN 6 (bytesN y)), 0) := by unfold codeN; rw [if_pos (by omega)]
  have e3 : codeN (bytesN (x ++ y)) = (signsOf lettersN (turnedN 6 (bytesN x)) ++ signsOf lettersN (turnedN 6 (bytesN y)), 0) := by
    unfold codeN
    rw [bytesN_append, if_pos (by rw [List.length_append]; omega), turned_append _ _ m b1 (by omega)]
    simp [signsOf]
  refine ⟨strN (signsOf lettersN (turnedN 6 (bytesN x))), strN (signsOf lettersN (turnedN 6 (bytesN y))), by rw [e1]; rfl, by rw [e2]; rfl, by rw [e3, ← strN_append]; rfl, ?_, ?_⟩
  · rw [strN_size]; simp only [signsOf, List.length_map]; omega
  · rw [strN_size]; simp only [signsOf, List.length_map]; omega

set_option maxHeartbeats 2000000 in
theorem B64Joins.walk_any (s t : ByteArray) (w : World) (hs : s.size ≤ 9223372036854775807) (ht : t.size ≤ 9223372036854775807) :
    Calls Try.prog 4 #[.string s, .string t] w fun e w' => e = .returned (.bool true) ∧ Same w w' := by
  obtain ⟨S1, e1⟩ : ∃ S1, s.extract 0 (min (s.size : Int) 180).toNat = S1 := ⟨_, rfl⟩
  obtain ⟨T1, e2⟩ : ∃ T1, t.extract 0 (min (t.size : Int) 180).toNat = T1 := ⟨_, rfl⟩
  have z1 : S1.size ≤ 180 := by rw [← e1, ByteArray.size_extract]; omega
  have z2 : T1.size ≤ 180 := by rw [← e2, ByteArray.size_extract]; omega
  have d3 : (S1.size : Int).tdiv 3 = ((S1.size / 3 : Nat) : Int) := by rw [Int.tdiv_eq_ediv_of_nonneg (by omega)]; omega
  obtain ⟨m, hm⟩ : ∃ m, S1.size / 3 = m := ⟨_, rfl⟩
  rw [hm] at d3
  obtain ⟨S2, e3⟩ : ∃ S2, S1.extract 0 ((m : Int) * 3).toNat = S2 := ⟨_, rfl⟩
  have z3 : S2.size = 3 * m := by rw [← e3, ByteArray.size_extract]; omega
  obtain ⟨A, B, c1, c2, c3, z4, z5⟩ := codes_join S2 T1 m z3 (by omega) z2
  have d4 : (S2.size : Int).tdiv 3 = (m : Int) := by rw [Int.tdiv_eq_ediv_of_nonneg (by omega)]; omega
  have z6 : (S2 ++ T1).size ≤ 1073741824 := by rw [ByteArray.size_append]; omega
  have E1 := Lib.hid c1
  have E2 := Lib.hid c2
  have E3 := Lib.hid c3
  clear c1 c2 c3
  go_enter Try.func4, Try.ntmps4
  go_wp2_with (first
    | (go_at_call 9; refine (shown_any _).mono ?_; rintro r w1 ⟨rfl, hk1⟩)
    | (go_at_call 10; refine (code_any _ _ (by first | exact z6 | omega)).mono ?_; first | (rw [E1.out]; rintro r w2 ⟨rfl, hk2⟩) | (rw [E2.out]; rintro r w3 ⟨rfl, hk3⟩) | (rw [E3.out]; rintro r w4 ⟨rfl, hk4⟩)))
  go_ret
  exact ⟨rfl, ((hk1.trans hk2).trans hk3).trans hk4⟩

#print axioms B64Joins.walk_any
end Go.Tm
