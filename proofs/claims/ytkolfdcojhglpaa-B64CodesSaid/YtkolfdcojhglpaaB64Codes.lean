/-
  The law B64Codes: its walk.
-/
import Derived.Test.YtkolfdcojhglpaaRefDecode
set_option linter.unusedVariables false
namespace Go.Tm.B64Codes
open Go.RowKit Go.Proofs

def tup (x : ByteArray) (e : Int) : Value := .tuple #[.string x, .int .i64 e]

set_option maxHeartbeats 2000000 in
theorem walk_any (s t : ByteArray) (w : World) (hs : s.size ≤ 9223372036854775807) (ht : t.size ≤ 9223372036854775807) :
    Calls Try.prog 7 #[.string s, .string t] w fun e w' => e = .returned (.bool true) ∧ Same w w' := by
  have zC := cutS_size s
  have zD := cutS_size t
  obtain ⟨cf, hcf⟩ : ∃ cf : ByteArray → ByteArray, cutS = cf := ⟨_, rfl⟩
  have k := fun (x : ByteArray) (hx : x.size ≤ 9223372036854775807) w => cut_any x w hx
  rw [hcf] at k
  obtain ⟨C, hC⟩ : ∃ C, cf s = C := ⟨_, rfl⟩
  obtain ⟨D, hD⟩ : ∃ D, cf t = D := ⟨_, rfl⟩
  rw [hcf, hC] at zC
  rw [hcf, hD] at zD
  clear hcf
  have zC' : C.size ≤ 1073741824 := by omega
  have zD' : D.size ≤ 1073741824 := by omega
  have zC2 : C.size ≤ 9223372036854775807 := by omega
  have zD2 : D.size ≤ 9223372036854775807 := by omega
  obtain ⟨X, hX⟩ : ∃ X, strN (codeN (bytesN C)).1 = X := ⟨_, rfl⟩
  obtain ⟨e, he⟩ : ∃ e, (codeN (bytesN C)).2 = e := ⟨_, rfl⟩
  obtain ⟨Y, hY⟩ : ∃ Y, strN (decodeN (bytesN D)).1 = Y := ⟨_, rfl⟩
  obtain ⟨f, hf⟩ : ∃ f, (decodeN (bytesN D)).2 = f := ⟨_, rfl⟩
  have E1 : Hid (two (codeN (bytesN C)) = tup X e) := Lib.hid (by unfold two tup; rw [hX, he])
  have E2 : Hid (two (decodeN (bytesN D)) = tup Y f) := Lib.hid (by unfold two tup; rw [hY, hf])
  have HI : Hid (((decodeN (bytesN D)).2 == 0) = (f == 0)) := Lib.hid (by rw [hf])
  have K := Lib.hid k
  have HC := Lib.hid hC
  have HD := Lib.hid hD
  clear k hC hD hX he hY hf
  go_enter Try.func7, Try.ntmps7
  go_wp2_with (first
      | (go_at_call 9; refine (shown_any _).mono ?_; rintro r w1 ⟨rfl, hk1⟩)
      | (go_at_call 11; refine (K.out _ (by first | exact hs | exact ht) _).mono ?_; rintro r w2 ⟨rfl, rfl⟩; first | rw [HC.out] | rw [HD.out])
      | (go_at_call 10; refine (code_any C _ zC').mono ?_; rw [E1.out]; rintro r w2 ⟨rfl, hk2⟩; unfold tup)
      | (go_at_call 17; refine (refCode_any C _ zC2).mono ?_; rw [E1.out]; rintro r w3 ⟨rfl, hk3⟩; unfold tup)
      | (go_at_call 12; refine (decode_any D _ zD').mono ?_; rw [E2.out]; rintro r w4 ⟨rfl, hk4⟩; unfold tup)
      | (go_at_call 18; refine (refDecode_any D _ zD2).mono ?_; rw [E2.out]; rintro r w5 ⟨rfl, hk5⟩; unfold tup)
      | (go_at_call 19; refine (iscode_any D _ zD').mono ?_; rintro r w6 ⟨rfl, hk6⟩; rw [HI.out]))
  go_ret
  exact ⟨by first | rfl | simp, ((((hk1.trans hk2).trans hk3).trans hk4).trans hk5).trans hk6⟩

#print axioms walk_any
end Go.Tm.B64Codes
