/-
  Part 2 of what the claim leans on: contracts of the functions that the law reaches, and plain facts of what they compute (joined by wip/merge.py out of the texts named behind each mark). Conditions: the theorems' own.
-/
import Derived.Deep.QuietTactic
import Derived.BigQuiet
import Derived.Lib.ValidLaws
import Derived.Laws.BitsLemmas
import Derived.Lib.ValidAsc
import Derived.Test.YthledjlechdbiaaGreatDoorSortsClaimA
set_option linter.unusedVariables false
namespace Go.Tm
open Go.RowKit Go.Proofs
set_option maxRecDepth 100000 in
set_option maxHeartbeats 2000000 in
theorem refCompare_any (s t : ByteArray) (w : World) (hs : s.size ≤ 9223372036854775807) (ht : t.size ≤ 9223372036854775807) : Calls Tryz.prog 170 #[.string s, .string t] w fun e w' => (∃ z : Int, -1 ≤ z ∧ z ≤ 1 ∧ e = .returned (.int .i64 z)) ∧ Same w w' := by
 by_cases c1 : s.size < t.size
 ·have c0 : ((s.size : Int) != (t.size : Int)) = true := by simp; omega
  go_enter Tryz.func170, Tryz.ntmps170
  go_wp2
  go_ret
  exact ⟨⟨-1, by decide, by decide, rfl⟩, smK⟩
 by_cases c2 : t.size < s.size
 ·have c0 : ((s.size : Int) != (t.size : Int)) = true := by simp; omega
  go_enter Tryz.func170, Tryz.ntmps170
  go_wp2
  go_ret
  exact ⟨⟨1, by decide, by decide, rfl⟩, smK⟩
 have c3 : t.size = s.size := by omega
 have c0 : ((s.size : Int) != (t.size : Int)) = false := by simp; omega
 go_enter Tryz.func170, Tryz.ntmps170
 go_wp2
 go_loopw [5] (fun i wr => ∃ k : Nat, k ≤ s.size ∧ i = .int .i64 k ∧ Same w wr) (fun i _ => s.size - (RowKit.intOf i).toNat)
 case atStart => exact ⟨0, Nat.zero_le _, rfl, smK⟩
 case round =>
  obtain ⟨k, hk, rfl, hsm⟩ := hrel
  by_cases hlt : k < s.size
  ·have hlt2 : k < t.size := by omega
   go_wp2
   go_quiet (fail)
   by_cases d1 : (s[k]'hlt).toNat < (t[k]'hlt2).toNat
   ·go_wp2
    go_ret
    exact ⟨⟨-1, by decide, by decide, rfl⟩, smK⟩
   go_wp2
   go_quiet (fail)
   by_cases d2 : (t[k]'hlt2).toNat < (s[k]'hlt).toNat
   ·go_wp2
    go_ret
    exact ⟨⟨1, by decide, by decide, rfl⟩, smK⟩
   go_wp2
   go_roundw
   case rel => exact ⟨k + 1, by omega, by go_num, smK⟩
   case measure => simp [RowKit.intOf]; omega
  ·go_wp2
   go_ret
   exact ⟨⟨0, by decide, by decide, rfl⟩, smK⟩
set_option maxRecDepth 100000 in
set_option maxHeartbeats 2000000 in
theorem refTo_any (s : ByteArray) (w : World) (hs : s.size ≤ 9223372036854775807) : Calls Tryz.prog 120 #[.string s] w fun e w' => (∃ (z : Int) (b : Bool), e = .returned (.tuple #[.int .u64 z, .bool b])) ∧ Same w w' := by
 obtain ⟨r, hr⟩ : ∃ r, natRight (bytesN s) = r := ⟨_, rfl⟩
 have h1 := fun W => refRight_any s W hs
 rw [hr] at h1
 clear hr
 cases r with
 | false =>
  go_enter Tryz.func120, Tryz.ntmps120
  go_wp2_with (go_at_call 169; refine (h1 _).mono ?_; rintro e w1 ⟨rfl, h9⟩; replace h9 := h9.symm; subst h9)
  go_ret2
  exact ⟨⟨_, _, rfl⟩, smK⟩
 | true =>
  go_enter Tryz.func120, Tryz.ntmps120
  go_wp2_with (go_at_call 169; refine (h1 _).mono ?_; rintro e w1 ⟨rfl, h9⟩; replace h9 := h9.symm; subst h9)
  refine (refCompare_any s _ _ hs (by decide)).mono ?_
  rintro e w2 ⟨⟨z, hz1, hz2, rfl⟩, hk2⟩
  by_cases hz : 0 < z
  ·go_wp2
   go_ret2
   exact ⟨⟨_, _, rfl⟩, smK⟩
  go_wp2
  go_loopw [4, 5] (fun v i wr => ∃ (k : Nat) (n : Int), k ≤ s.size ∧ i = .int .i64 k ∧ v = .int .u64 n ∧ Same w wr) (fun _ i _ => s.size - (RowKit.intOf i).toNat)
  case atStart => exact ⟨0, 0, Nat.zero_le _, rfl, rfl, smK⟩
  case round =>
   obtain ⟨k, n, hk, rfl, rfl, hsm⟩ := hrel
   by_cases hlt : k < s.size
   ·go_wp2
    go_roundw
    case rel => exact ⟨k + 1, _, by omega, by go_num, rfl, hsm⟩
    case measure => simp [RowKit.intOf]; omega
   ·go_wp2
    go_ret2
    exact ⟨⟨_, _, rfl⟩, hsm⟩
def zerosQ (k : Nat) : ByteArray := ⟨(List.replicate k (48 : UInt8)).toArray⟩
theorem zerosQ_succ (k : Nat) : zerosQ k ++ (⟨#[48]⟩ : ByteArray) = zerosQ (k + 1) := by
 apply ByteArray.ext
 rw [ByteArray.data_append]
 apply Array.ext'
 simp [zerosQ, List.replicate_succ']
theorem zerosQ_size (k : Nat) : (zerosQ k).size = k := by show (List.replicate k (48 : UInt8)).toArray.size = k; simp
set_option maxRecDepth 100000 in
set_option maxHeartbeats 2000000 in
theorem refZeros_any (n : Nat) (w : World) (hn : n ≤ 1000000) : Calls Tryz.prog 121 #[.int .i64 n] w fun e w' => e = .returned (.string (zerosQ n)) ∧ Same w w' := by
 go_enter Tryz.func121, Tryz.ntmps121
 go_wp2
 go_loopw [3, 4] (fun v i wr => ∃ k : Nat, k ≤ n ∧ i = .int .i64 k ∧ v = .string (zerosQ k) ∧ wr = w) (fun _ i _ => n - (RowKit.intOf i).toNat)
 case atStart => exact ⟨0, Nat.zero_le _, rfl, rfl, rfl⟩
 case round =>
  obtain ⟨k, hk, rfl, rfl, rfl⟩ := hrel
  by_cases hlt : k < n
  ·have hz := zerosQ_size k
   go_wp2
   go_roundw
   case rel => exact ⟨k + 1, by omega, by go_num, by rw [zerosQ_succ], trivial⟩
   case measure => simp [RowKit.intOf]; omega
  ·obtain rfl : k = n := by omega
   go_wp2
   go_ret
   exact ⟨rfl, smK⟩
theorem list48 : (⟨#[48]⟩ : ByteArray).toList = [48] := by rw [ByteArray.toList_eq]
theorem decRight_eq (d : Dc) : decRight d = if natRight (bytesN d.digits) = false ∨ 100 < d.digits.size then false else if d.digits = ⟨#[48]⟩ then decide (d.exp = 0) && !d.neg else within d.exp 100 && !decide (nth (bytesN d.digits) (d.digits.size - 1) = 48) := by
 obtain ⟨neg, s, e⟩ := d
 simp only
 by_cases hz : s = ⟨#[48]⟩
 ·subst hz
  have h1 : natRight (bytesN ⟨#[48]⟩) = true := by decide
  have h2 : ¬ 100 < (⟨#[48]⟩ : ByteArray).size := by decide
  rw [if_neg (by rw [h1]; simp [h2]), if_pos rfl]
  have h3 : ((bytesN ⟨#[48]⟩).getLast? == some 48) = true := by decide
  unfold decRight
  simp only [h3, Bool.not_true, Bool.and_false, Bool.or_false]
  cases neg <;> by_cases he : e = 0 <;> simp [zeroDc, he]
 ·rw [if_neg hz]
  have hne : decide ((⟨neg, s, e⟩ : Dc) = zeroDc) = false := by
   rw [decide_eq_false_iff_not]; intro h; exact hz (congrArg Dc.digits h)
  unfold decRight
  simp only [hne, Bool.false_or]
  by_cases hn : natRight (bytesN s) = false ∨ 100 < s.size
  ·rw [if_pos hn]
   rcases hn with hn | hn
   ·rw [hn]; rfl
   ·rw [show decide (s.size ≤ 100) = false by simpa using hn]; simp
  ·rw [if_neg hn]
   have hn1 : natRight (bytesN s) = true := by
    cases h : natRight (bytesN s) with
    | true => rfl
    | false => exact absurd (.inl h) hn
   have hn2 : s.size ≤ 100 := by omega
   rw [hn1, decide_eq_true hn2]
   simp only [Bool.true_and]
   congr 2
   have hpos : 0 < s.size := by
    rw [natRight_eq] at hn1
    simp only [Bool.and_eq_true, decide_eq_true_eq] at hn1
    omega
   have hl := bytesN_length s
   have : (bytesN s).getLast? = some (nth (bytesN s) (s.size - 1)) := by
    rw [List.getLast?_eq_getElem?, hl]
    unfold nth
    rw [List.getD_eq_getElem?_getD, List.getElem?_eq_getElem (by omega)]
    rfl
   rw [this]
   by_cases hx : nth (bytesN s) (s.size - 1) = 48 <;> simp [hx]
set_option maxRecDepth 100000 in
set_option maxHeartbeats 2000000 in
theorem refDecRight_any (d : Dc) (w : World) (hs : d.digits.size ≤ 9223372036854775807) (he : -9223372036854775808 ≤ d.exp ∧ d.exp ≤ 9223372036854775807) : Calls Tryz.prog 119 #[decV d] w fun e w' => e = .returned (.bool (decRight d)) ∧ Same w w' := by
 have hd := decRight_eq d
 obtain ⟨R, hR⟩ : ∃ R, decRight d = R := ⟨_, rfl⟩
 rw [hR] at hd ⊢
 clear hR
 obtain ⟨neg, s, x⟩ := d
 simp only at hd hs he ⊢
 obtain ⟨r, hr⟩ : ∃ r, natRight (bytesN s) = r := ⟨_, rfl⟩
 have h1 := fun W => refRight_any s W hs
 rw [hr] at h1
 have hn := natRight_eq s
 rw [hr] at hd hn
 clear hr
 have hb : (w.alloc (.cells #[.bool neg, .string s, .int .i64 x] 23)).heap[w.heap.size]? = some (.cells #[.bool neg, .string s, .int .i64 x] 23 (0, 0)) := World.alloc_heap_new w _
 obtain ⟨n0, n1, n2⟩ := cells3 hb
 clear hb
 cases r with
 | false =>
  obtain rfl : R = false := by rw [hd, if_pos (.inl rfl)]
  clear hd hn
  go_enter Tryz.func119, Tryz.ntmps119
  go_wp2_with (go_at_call 169; refine (h1 _).mono ?_; rintro e w1 ⟨rfl, h9⟩; replace h9 := h9.symm; subst h9)
  go_ret
  exact ⟨rfl, smK⟩
 | true =>
  have hpos : 0 < s.size := by
   simp only [eq_comm (a := true), Bool.and_eq_true, decide_eq_true_eq] at hn
   omega
  clear hn
  by_cases c1 : 100 < s.size
  ·obtain rfl : R = false := by rw [hd, if_pos (.inr c1)]
   clear hd
   go_enter Tryz.func119, Tryz.ntmps119
   go_wp2_with (go_at_call 169; refine (h1 _).mono ?_; rintro e w1 ⟨rfl, h9⟩; replace h9 := h9.symm; subst h9)
   go_ret
   exact ⟨rfl, smK⟩
  rw [if_neg (by simp [c1])] at hd
  by_cases c2 : s = ⟨#[48]⟩
  ·have k1 : (s.toList == [48]) = true := by rw [← list48]; exact str_eq c2
   rw [if_pos c2] at hd
   have HD := Lib.hid hd
   clear hd c2
   go_enter Tryz.func119, Tryz.ntmps119
   go_wp2_with (go_at_call 169; refine (h1 _).mono ?_; rintro e w1 ⟨rfl, h9⟩; replace h9 := h9.symm; subst h9)
   all_goals
    go_ret
    exact ⟨by rw [HD.out]; simp [*], smK⟩
  have k1 : (s.toList == [48]) = false := by rw [← list48]; exact str_ne c2
  rw [if_neg c2] at hd
  have hz := nth_bytes s (k := s.size - 1) (by omega)
  obtain ⟨z, hz0⟩ : ∃ z, nth (bytesN s) (s.size - 1) = z := ⟨_, rfl⟩
  rw [hz0] at hd hz
  clear c2 hz0
  by_cases c3 : x < -100
  ·obtain rfl : R = false := by rw [hd]; simp [within, show ¬ -100 ≤ x by omega]
   clear hd hz
   go_enter Tryz.func119, Tryz.ntmps119
   go_wp2_with (go_at_call 169; refine (h1 _).mono ?_; rintro e w1 ⟨rfl, h9⟩; replace h9 := h9.symm; subst h9)
   go_ret
   exact ⟨rfl, smK⟩
  by_cases c4 : 100 < x
  ·obtain rfl : R = false := by rw [hd]; simp [within, show ¬ x ≤ 100 by omega]
   clear hd hz
   go_enter Tryz.func119, Tryz.ntmps119
   go_wp2_with (go_at_call 169; refine (h1 _).mono ?_; rintro e w1 ⟨rfl, h9⟩; replace h9 := h9.symm; subst h9)
   go_ret
   exact ⟨rfl, smK⟩
  have c3' : -100 ≤ x := by omega
  have c4' : x ≤ 100 := by omega
  have hi : s.size - 1 < s.size := by omega
  have hz1 := hz.symm
  by_cases c5 : z = 48
  ·obtain rfl : R = false := by rw [hd]; simp [c5]
   have k5 : ((z : Int) != 48) = false := by simp [c5]
   have hw : wrap64 ((s.size : Int) - 1) = ((s.size - 1 : Nat) : Int) := by rw [IntWalk.wrap64_in _ (by omega)]; omega
   clear hd hz c5 c3 c4
   go_enter Tryz.func119, Tryz.ntmps119
   go_wp2_with (go_at_call 169; refine (h1 _).mono ?_; rintro e w1 ⟨rfl, h9⟩; replace h9 := h9.symm; subst h9)
   go_ret
   exact ⟨rfl, smK⟩
  ·obtain rfl : R = true := by rw [hd]; simp [within, c3', c4', c5]
   have k5 : ((z : Int) != 48) = true := by simp; omega
   have hw : wrap64 ((s.size : Int) - 1) = ((s.size - 1 : Nat) : Int) := by rw [IntWalk.wrap64_in _ (by omega)]; omega
   clear hd hz c5 c3 c4
   go_enter Tryz.func119, Tryz.ntmps119
   go_wp2_with (go_at_call 169; refine (h1 _).mono ?_; rintro e w1 ⟨rfl, h9⟩; replace h9 := h9.symm; subst h9)
   go_ret
   exact ⟨rfl, smK⟩
set_option maxRecDepth 100000 in
set_option maxHeartbeats 2000000 in
theorem refToInt_any (d : Dc) (w : World) (hs : d.digits.size ≤ 1099511627776) (he : -9223372036854775808 ≤ d.exp ∧ d.exp ≤ 9223372036854775807) : Calls Tryz.prog 74 #[decV d] w fun e w' => (∃ (a : Bool) (z : Int) (b : Bool), e = .returned (.tuple #[.bool a, .int .u64 z, .bool b])) ∧ Same w w' := by
 have h1 := fun W => refDecRight_any d W (by omega) he
 obtain ⟨R, hR⟩ : ∃ R, decRight d = R := ⟨_, rfl⟩
 rw [hR] at h1
 clear hR
 obtain ⟨neg, s, x⟩ := d
 simp only at hs he h1 ⊢
 have hb : (w.alloc (.cells #[.bool neg, .string s, .int .i64 x] 23)).heap[w.heap.size]? = some (.cells #[.bool neg, .string s, .int .i64 x] 23 (0, 0)) := World.alloc_heap_new w _
 obtain ⟨n0, n1, n2⟩ := cells3 hb
 cases R with
 | false =>
  go_enter Tryz.func74, Tryz.ntmps74
  go_wp2_with (go_at_call 119; refine (h1 _).mono ?_; rintro e w1 ⟨rfl, hk1⟩)
  go_ret3
  exact ⟨⟨_, _, _, rfl⟩, smK⟩
 | true =>
  go_enter Tryz.func74, Tryz.ntmps74
  go_wp2_with fail
  refine (h1 _).mono ?_
  rintro e w1 ⟨rfl, hk1⟩
  have hb1 := hk1.same _ _ hb trivial
  clear n0 n1 n2
  obtain ⟨n0, n1, n2⟩ := cells3 hb1
  have hkw : Same w w1 := smK
  clear hb hk1
  by_cases c1 : x < 0
  ·go_wp2
   go_ret3
   exact ⟨⟨_, _, _, rfl⟩, hkw⟩
  by_cases c2 : 20 < x
  ·go_wp2
   go_ret3
   exact ⟨⟨_, _, _, rfl⟩, hkw⟩
  obtain ⟨n, rfl⟩ : ∃ n : Nat, x = n := ⟨x.toNat, by omega⟩
  have hz := fun W => refZeros_any n W (by omega)
  have hsz := zerosQ_size n
  have hsn : (9223372036854775807 < s.size + n) = False := by simp; omega
  have hto := fun W => refTo_any (s ++ zerosQ n) W (by rw [ByteArray.size_append, hsz]; omega)
  go_wp2_with fail
  refine (wpIn_wide (n := 0)).1 ?_
  refine wpIn_region_shut (n := 0) (fun Z => Z.heap[w.heap.size]? = some (.cells #[.bool neg, .string s, .int .i64 (n : Int)] 23 (0, 0))) reads (fun _ => trivial) rfl (by kernel_rfl) (by kernel_rfl) hb1 ?_
  iterate 4 (refine shT_x rfl rfl ?_; intro K hK w' hs; obtain ⟨p0, p1, p2⟩ := cells3 hs; go_simp; refine hK _ _ ?_; clear hK K p0 p1 p2 hs w')
  refine shT_c rfl rfl ?_
  intro K hK
  go_simp
  refine (callsW (hz _)).mono ?_
  rintro e w2 ⟨rfl, hk2⟩
  refine hK _ _ (hk2.same _ _ hb1 trivial) ?_
  clear hK K
  refine shT_x rfl rfl ?_; intro K hK w' hs; obtain ⟨p0, p1, p2⟩ := cells3 hs; go_simp; refine hK _ _ ?_; clear hK K p0 p1 p2 hs w'
  refine shT_c rfl rfl ?_
  intro K hK
  go_simp
  refine (callsW (hto _)).mono ?_
  rintro e w3 ⟨⟨z, b, rfl⟩, hk3⟩
  refine hK _ _ (hk3.same _ _ (hk2.same _ _ hb1 trivial) trivial) ?_
  clear hK K
  iterate 5 (refine shT_x rfl rfl ?_; intro K hK w' hs; obtain ⟨p0, p1, p2⟩ := cells3 hs; go_simp; refine hK _ _ ?_; clear hK K p0 p1 p2 hs w')
  refine shT_nil ?_
  have hkw3 : Same w w3 := smK
  have hb3 := hk3.same _ _ (hk2.same _ _ hb1 trivial) trivial
  clear n0 n1 n2
  obtain ⟨n0, n1, n2⟩ := cells3 hb3
  cases b with
  | false =>
   go_wp2
   go_ret3
   exact ⟨⟨_, _, _, rfl⟩, hkw3⟩
  | true =>
   go_wp2
   go_ret3
   exact ⟨⟨_, _, _, rfl⟩, hkw3⟩
end Go.Tm
namespace Go.Tm
open Go.Lib
def firstB (n b0 b1 b2 b3 : Nat) : Nat :=
 if b0 < 128 then 1 else match checkN n b1 b2 b3 (firstT b0 % 8) (accLo (firstT b0 / 16)) (accHi (firstT b0 / 16)) with
  | none => 0
  | some k => k
def firstOf (l : List UInt8) : Nat := firstB l.length (l.getD 0 0).toNat (l.getD 1 0).toNat (l.getD 2 0).toNat (l.getD 3 0).toNat
theorem first_valid (l : List UInt8) (hne : l ≠ []) : validD l = if firstOf l = 0 then false else validD (l.drop (firstOf l)) := by
 by_cases h : (l.getD 0 0).toNat < 128
 ·have e : firstOf l = 1 := by unfold firstOf firstB; rw [if_pos h]
  rw [e, if_neg (by decide)]
  match l, hne with
  | b :: t, _ => exact validD_cons b t (by simpa using h)
 ·rw [validD_lead l hne (by omega)]
  have hk : ∀ k, checkN l.length (l.getD 1 0).toNat (l.getD 2 0).toNat (l.getD 3 0).toNat (firstT (l.getD 0 0).toNat % 8) (accLo (firstT (l.getD 0 0).toNat / 16)) (accHi (firstT (l.getD 0 0).toNat / 16)) = some k → k ≠ 0 := by
   intro k hk
   unfold checkN at hk
   repeat' split at hk
   all_goals first | (cases hk; omega) | (simp at hk; omega) | cases hk
  unfold firstOf firstB
  rw [if_neg h]
  cases hc : checkN l.length (l.getD 1 0).toNat (l.getD 2 0).toNat (l.getD 3 0).toNat (firstT (l.getD 0 0).toNat % 8) (accLo (firstT (l.getD 0 0).toNat / 16)) (accHi (firstT (l.getD 0 0).toNat / 16)) with
  | none => simp
  | some k => rw [if_neg (hk k hc)]
theorem first_one {n b0 b1 b2 b3 : Nat} (h : b0 < 128) : firstB n b0 b1 b2 b3 = 1 := by unfold firstB; rw [if_pos h]
theorem first_bad {n b0 b1 b2 b3 : Nat} (h : (128 ≤ b0 ∧ b0 < 194) ∨ 244 < b0) : firstB n b0 b1 b2 b3 = 0 := by
 unfold firstB
 rw [if_neg (by omega)]
 rcases h with h | h
 ·simp [firstT, checkN, show ¬ b0 < 128 by omega, h.2]
 ·simp [firstT, checkN, show ¬ b0 < 128 by omega, show ¬ b0 < 194 by omega, show ¬ b0 < 224 by omega, show ¬ b0 = 224 by omega, show ¬ b0 < 237 by omega, show ¬ b0 = 237 by omega, show ¬ b0 < 240 by omega, show ¬ b0 = 240 by omega, show ¬ b0 < 244 by omega, show ¬ b0 = 244 by omega]
theorem first_two {n b0 b1 b2 b3 : Nat} (h : 194 ≤ b0 ∧ b0 < 224) : firstB n b0 b1 b2 b3 = if n < 2 ∨ b1 < 128 ∨ 191 < b1 then 0 else 2 := by
 unfold firstB
 rw [if_neg (by omega)]
 have e : firstT b0 = 2 := by simp [firstT, show ¬ b0 < 128 by omega, show ¬ b0 < 194 by omega, h.2]
 rw [e]
 simp only [checkN, accLo, accHi]
 by_cases hc : n < 2 ∨ b1 < 128 ∨ 191 < b1 <;> simp [hc]
theorem first_three {n b0 b1 b2 b3 : Nat} (h : 224 ≤ b0 ∧ b0 < 240) :
  firstB n b0 b1 b2 b3 = if n < 3 ∨ b1 < 128 ∨ 191 < b1 ∨ b2 < 128 ∨ 191 < b2 ∨ 64 * (64 * (b0 % 16) + b1 % 64) + b2 % 64 < 2048 ∨ (55296 ≤ 64 * (64 * (b0 % 16) + b1 % 64) + b2 % 64 ∧ 64 * (64 * (b0 % 16) + b1 % 64) + b2 % 64 ≤ 57343) then 0 else 3 := by
 have key : ∀ lo hi, firstT b0 % 8 = 3 → accLo (firstT b0 / 16) = lo → accHi (firstT b0 / 16) = hi → firstB n b0 b1 b2 b3 = if n < 3 ∨ b1 < lo ∨ hi < b1 ∨ b2 < 128 ∨ 191 < b2 then 0 else 3 := by
  intro lo hi e1 e2 e3
  unfold firstB
  rw [if_neg (by omega), e1, e2, e3]
  simp only [checkN]
  by_cases hc : n < 3 ∨ b1 < lo ∨ hi < b1 ∨ b2 < 128 ∨ 191 < b2 <;> simp [hc]
 by_cases c2 : b0 = 224
 ·subst c2; rw [key 160 191 (by decide) (by decide) (by decide)]; congr 1; apply propext; omega
 by_cases c4 : b0 = 237
 ·subst c4; rw [key 128 159 (by decide) (by decide) (by decide)]; congr 1; apply propext; omega
 have hcase : firstT b0 = 3 := by
  by_cases c3 : b0 < 237
  ·simp [firstT, show ¬ b0 < 128 by omega, show ¬ b0 < 194 by omega, show ¬ b0 < 224 by omega, c2, c3]
  ·simp [firstT, show ¬ b0 < 128 by omega, show ¬ b0 < 194 by omega, show ¬ b0 < 224 by omega, c2, c3, c4, h.2]
 rw [key 128 191 (by rw [hcase]) (by rw [hcase]; decide) (by rw [hcase]; decide)]
 congr 1; apply propext; omega
theorem first_four {n b0 b1 b2 b3 : Nat} (h : 240 ≤ b0 ∧ b0 ≤ 244) :
  firstB n b0 b1 b2 b3 = if n < 4 ∨ b1 < 128 ∨ 191 < b1 ∨ b2 < 128 ∨ 191 < b2 ∨ b3 < 128 ∨ 191 < b3 ∨ 64 * (64 * (64 * (b0 % 8) + b1 % 64) + b2 % 64) + b3 % 64 < 65536 ∨ 1114111 < 64 * (64 * (64 * (b0 % 8) + b1 % 64) + b2 % 64) + b3 % 64 then 0 else 4 := by
 have key : ∀ lo hi, firstT b0 % 8 = 4 → accLo (firstT b0 / 16) = lo → accHi (firstT b0 / 16) = hi → firstB n b0 b1 b2 b3 = if n < 4 ∨ b1 < lo ∨ hi < b1 ∨ b2 < 128 ∨ 191 < b2 ∨ b3 < 128 ∨ 191 < b3 then 0 else 4 := by
  intro lo hi e1 e2 e3
  unfold firstB
  rw [if_neg (by omega), e1, e2, e3]
  simp only [checkN]
  by_cases hc : n < 4 ∨ b1 < lo ∨ hi < b1 ∨ b2 < 128 ∨ 191 < b2 ∨ b3 < 128 ∨ 191 < b3 <;> simp [hc]
 by_cases c2 : b0 = 240
 ·subst c2; rw [key 144 191 (by decide) (by decide) (by decide)]; congr 1; apply propext; omega
 by_cases c4 : b0 = 244
 ·subst c4; rw [key 128 143 (by decide) (by decide) (by decide)]; congr 1; apply propext; omega
 have hcase : firstT b0 = 4 := by
  simp [firstT, show ¬ b0 < 128 by omega, show ¬ b0 < 194 by omega, show ¬ b0 < 224 by omega, show ¬ b0 = 224 by omega, show ¬ b0 < 237 by omega, show ¬ b0 = 237 by omega, show ¬ b0 < 240 by omega, c2, show b0 < 244 by omega]
 rw [key 128 191 (by rw [hcase]) (by rw [hcase]; decide) (by rw [hcase]; decide)]
 congr 1; apply propext; omega
theorem cont_iff : ∀ b : Fin 256, ((b.val &&& 192) = 128) = (128 ≤ b.val ∧ b.val ≤ 191) := by decide +kernel
theorem and63 (b : Nat) : b &&& 63 = b % 64 := Nat.and_two_pow_sub_one_eq_mod b 6
theorem and31 (b : Nat) : b &&& 31 = b % 32 := Nat.and_two_pow_sub_one_eq_mod b 5
theorem and15 (b : Nat) : b &&& 15 = b % 16 := Nat.and_two_pow_sub_one_eq_mod b 4
theorem and7 (b : Nat) : b &&& 7 = b % 8 := Nat.and_two_pow_sub_one_eq_mod b 3
end Go.Tm
namespace Go.Tm
open Go.RowKit Go.Proofs
theorem and_i64 (a b : Nat) (ha : a < 4611686018427387904) (hb : b < 4611686018427387904) : bits BinOp.and IntKind.i64 (a : Int) (b : Int) = ((a &&& b : Nat) : Int) :=
 (bits_nat .i64 62 (by decide) (fun n h0 h1 => by rw [IntKind.wrap_i64]; simp only [show (2 : Int) ^ 62 = 4611686018427387904 by decide] at h1; omega) a b ha hb).1
theorem and_u8 (a b : Nat) (ha : a < 256) (hb : b < 256) : bits BinOp.and IntKind.u8 (a : Int) (b : Int) = ((a &&& b : Nat) : Int) := (bits_nat .u8 8 (by decide) wraps_u8 a b ha hb).1
def accF (c0 : Nat) (B : Nat → Nat) : Nat → Nat
 | 0 => c0
 | k + 1 => 64 * accF c0 B k + B (k + 1) % 64
theorem acc4_lt (a b c d : Nat) (ha : a < 8) (hb : b < 64) (hc : c < 64) (hd : d < 64) : 64 * (64 * (64 * a + b) + c) + d < 4194304 := by omega
theorem firstOf_eq (s : ByteArray) : firstOf s.data.toList = firstB s.size (nth (bytesN s) 0) (nth (bytesN s) 1) (nth (bytesN s) 2) (nth (bytesN s) 3) := by
 have h : ∀ k, (s.data.toList.getD k 0).toNat = nth (bytesN s) k := fun k => by
  unfold nth bytesN
  rw [List.getD_eq_getElem?_getD, List.getD_eq_getElem?_getD, List.getElem?_map]
  cases s.data.toList[k]? <;> rfl
 unfold firstOf
 rw [h, h, h, h]
 congr 1
def strSz : Value → Nat
 | .string s => s.size
 | _ => 0
def FirstOut (R : Nat) (w : World) (e : Ending) (w' : World) : Prop := (∃ c : Int, e = .returned (.tuple #[.int .i64 c, .int .i64 (R : Int)])) ∧ w' = w
set_option maxRecDepth 100000 in
set_option maxHeartbeats 4000000 in
theorem first_arm1 (s : ByteArray) (w : World) (hs : s.size ≤ 9223372036854775807) (hp : 0 < s.size) (b : Nat) (hb0 : nth (bytesN s) 0 = b) (h : b < 128) : Calls Tryz.prog 213 #[.string s] w (FirstOut 1 w) := by
 have hz := nth_bytes s hp
 rw [hb0] at hz
 have hz1 := hz.symm
 clear hz hb0
 unfold FirstOut
 go_enter Tryz.func213, Tryz.ntmps213
 go_wp2
 go_loopw [5, 7] (fun c i wr => c = .int .i64 (b : Int) ∧ i = .int .i64 1 ∧ wr = w) (fun _ _ _ => 0)
 case atStart => exact ⟨rfl, rfl, rfl⟩
 case round =>
  obtain ⟨rfl, rfl, rfl⟩ := hrel
  go_wp2
  go_ret2
  exact ⟨⟨_, rfl⟩, rfl⟩
set_option maxRecDepth 100000 in
set_option maxHeartbeats 4000000 in
theorem first_arm0 (s : ByteArray) (w : World) (hs : s.size ≤ 9223372036854775807) (hp : 0 < s.size) (b : Nat) (hb0 : nth (bytesN s) 0 = b) (h : (128 ≤ b ∧ b < 194) ∨ 244 < b) : Calls Tryz.prog 213 #[.string s] w (FirstOut 0 w) := by
 have hz := nth_bytes s hp
 rw [hb0] at hz
 have hz1 := hz.symm
 have hbl := nth_lt s 0
 rw [hb0] at hbl
 clear hz hb0
 unfold FirstOut
 rcases h with ⟨h, h2⟩ | h
 all_goals
  go_enter Tryz.func213, Tryz.ntmps213
  go_wp2
  go_ret2
  exact ⟨⟨_, rfl⟩, rfl⟩
set_option maxRecDepth 100000 in
set_option maxHeartbeats 4000000 in
theorem first_arm2 (s : ByteArray) (w : World) (hs : s.size ≤ 9223372036854775807) (hp : 0 < s.size) (b : Nat) (hb0 : nth (bytesN s) 0 = b) (h : 194 ≤ b ∧ b < 224) (R : Nat) (hR : firstB s.size b (nth (bytesN s) 1) (nth (bytesN s) 2) (nth (bytesN s) 3) = R) : Calls Tryz.prog 213 #[.string s] w (FirstOut R w) := by
 have hz := nth_bytes s hp
 rw [hb0] at hz
 have hz1 := hz.symm
 rw [first_two h] at hR
 obtain ⟨h, h2⟩ := h
 have a1 : bits BinOp.and IntKind.i64 (b : Int) 31 = ((b % 32 : Nat) : Int) := by rw [show (31 : Int) = ((31 : Nat) : Int) from rfl, and_i64 b 31 (by omega) (by decide), and31]
 have HR := Lib.hid hR
 clear hz hb0 hR
 unfold FirstOut
 by_cases hn : s.size < 2
 ·obtain rfl : R = 0 := by rw [← HR.out, if_pos (.inl hn)]
  clear HR
  go_enter Tryz.func213, Tryz.ntmps213
  go_wp2
  go_ret2
  exact ⟨⟨_, rfl⟩, rfl⟩
 go_enter Tryz.func213, Tryz.ntmps213
 go_wp2
 go_loopw [5, 7] (fun c i wr => ∃ k : Nat, k < 2 ∧ i = .int .i64 ((k + 1 : Nat) : Int) ∧ c = .int .i64 ((accF (b % 32) (nth (bytesN s)) k : Nat) : Int) ∧ (∀ j, 1 ≤ j → j ≤ k → 128 ≤ nth (bytesN s) j ∧ nth (bytesN s) j ≤ 191) ∧ wr = w) (fun _ i _ => 2 - (RowKit.intOf i).toNat)
 case atStart => exact ⟨0, by omega, rfl, rfl, fun j h1 h2 => absurd h2 (by omega), rfl⟩
 case round =>
  clear hz1 a1
  obtain ⟨k, hk, rfl, rfl, hc, rfl⟩ := hrel
  have HC := Lib.hid hc
  clear hc
  have hst : accF (b % 32) (nth (bytesN s)) (k + 1) = 64 * accF (b % 32) (nth (bytesN s)) k + nth (bytesN s) (k + 1) % 64 := rfl
  by_cases hlt : k + 1 < 2
  ·have hi : k + 1 < s.size := by omega
   have hy := nth_bytes s hi
   have hBl := nth_lt s (k + 1)
   have hacc : accF (b % 32) (nth (bytesN s)) k < 16777216 := by
    have h0 : accF (b % 32) (nth (bytesN s)) 0 < 32 := by show b % 32 < 32; omega
    have h1 : accF (b % 32) (nth (bytesN s)) 1 < 64 * 32 := by show 64 * accF (b % 32) (nth (bytesN s)) 0 + nth (bytesN s) 1 % 64 < _; omega
    have h2 : accF (b % 32) (nth (bytesN s)) 2 < 64 * 64 * 32 := by show 64 * accF (b % 32) (nth (bytesN s)) 1 + nth (bytesN s) 2 % 64 < _; omega
    obtain rfl : k = 0 := by omega
    all_goals omega
   obtain ⟨B, hB⟩ : ∃ B, nth (bytesN s) (k + 1) = B := ⟨_, rfl⟩
   obtain ⟨C, hC⟩ : ∃ C, accF (b % 32) (nth (bytesN s)) k = C := ⟨_, rfl⟩
   rw [hB] at hy hBl hst
   rw [hC] at hst hacc
   rw [hC]
   have hy1 := hy.symm
   have b1 : bits BinOp.and IntKind.u8 (B : Int) 192 = ((B &&& 192 : Nat) : Int) := and_u8 B 192 hBl (by decide)
   have b2 : bits BinOp.and IntKind.u8 (B : Int) 63 = ((B % 64 : Nat) : Int) := by rw [show (63 : Int) = ((63 : Nat) : Int) from rfl, and_u8 B 63 hBl (by decide), and63]
   have hci := cont_iff ⟨B, hBl⟩
   simp only at hci
   have HST := Lib.hid hst
   clear hy hst hC
   by_cases hcont : 128 ≤ B ∧ B ≤ 191
   ·have hv : B &&& 192 = 128 := by rw [hci]; exact hcont
    have k1 : (((B &&& 192 : Nat) : Int) != 128) = false := by rw [hv]; rfl
    obtain ⟨hc1, hc2⟩ := hcont
    clear hci hv
    go_wp2
    go_roundw
    case rel =>
     refine ⟨k + 1, by omega, by go_num, ?_, fun j h1 h2 => ?_, trivial⟩
     ·rw [HST.out]; push_cast; first | rfl | omega
     ·by_cases e : j = k + 1
      ·rw [e, hB]; exact ⟨hc1, hc2⟩
      ·exact HC.out j h1 (by omega)
    case measure => simp [RowKit.intOf]; omega
   ·have hv : ¬ B &&& 192 = 128 := by rw [hci]; exact hcont
    have k1 : (((B &&& 192 : Nat) : Int) != 128) = true := bne_iff_ne.2 (by omega)
    obtain rfl : R = 0 := by
     rw [← HR.out]
     obtain rfl : k = 0 := by omega
     all_goals
      rw [if_pos]
      first | (rw [show nth (bytesN s) 1 = B from hB]; omega) | (rw [show nth (bytesN s) 2 = B from hB]; omega) | (rw [show nth (bytesN s) 3 = B from hB]; omega)
    clear hci hv HR HC
    go_wp2
    go_ret2
    exact ⟨⟨_, rfl⟩, rfl⟩
  ·obtain rfl : k = 1 := by omega
   have hc1 := HC.out 1 (by omega) (by omega)
   have hac : accF (b % 32) (nth (bytesN s)) 1 = 64 * (b % 32) + nth (bytesN s) 1 % 64 := rfl
   have hbm : b % 32 < 32 := Nat.mod_lt _ (by decide)
   rw [hac]
   obtain ⟨B1, hB1⟩ : ∃ B1, nth (bytesN s) 1 = B1 := ⟨_, rfl⟩
   obtain ⟨B2, hB2⟩ : ∃ B2, nth (bytesN s) 2 = B2 := ⟨_, rfl⟩
   obtain ⟨B3, hB3⟩ : ∃ B3, nth (bytesN s) 3 = B3 := ⟨_, rfl⟩
   have HR2 := HR.out
   rw [hB1] at HR2
   rw [hB1] at hc1
   rw [hB1]
   obtain ⟨V, hV⟩ : ∃ V, 64 * (b % 32) + B1 % 64 = V := ⟨_, rfl⟩
   have hvb : V < 4194304 ∧ 128 ≤ V ∧ V < 55296 := by omega
   rw [hV]
   clear HC HR hst hac hB1 hB2 hB3 hlt
   obtain rfl : R = 2 := by rw [← HR2, if_neg (by omega)]
   clear HR2 hV hc1
   obtain ⟨v1, v2, v3⟩ := hvb
   go_wp2
   go_ret2
   exact ⟨⟨_, rfl⟩, rfl⟩
set_option maxRecDepth 100000 in
set_option maxHeartbeats 4000000 in
theorem first_arm3 (s : ByteArray) (w : World) (hs : s.size ≤ 9223372036854775807) (hp : 0 < s.size) (b : Nat) (hb0 : nth (bytesN s) 0 = b) (h : 224 ≤ b ∧ b < 240) (R : Nat) (hR : firstB s.size b (nth (bytesN s) 1) (nth (bytesN s) 2) (nth (bytesN s) 3) = R) : Calls Tryz.prog 213 #[.string s] w (FirstOut R w) := by
 have hz := nth_bytes s hp
 rw [hb0] at hz
 have hz1 := hz.symm
 rw [first_three h] at hR
 obtain ⟨h, h2⟩ := h
 have a1 : bits BinOp.and IntKind.i64 (b : Int) 31 = ((b % 32 : Nat) : Int) := by rw [show (31 : Int) = ((31 : Nat) : Int) from rfl, and_i64 b 31 (by omega) (by decide), and31]
 have a2 : bits BinOp.and IntKind.i64 ((b : Int) % 32) 15 = (b : Int) % 16 := by rw [show (15 : Int) = ((15 : Nat) : Int) from rfl, show (b : Int) % 32 = ((b % 32 : Nat) : Int) from rfl, and_i64 _ 15 (by omega) (by decide), and15]; omega
 have HR := Lib.hid hR
 clear hz hb0 hR
 unfold FirstOut
 by_cases hn : s.size < 3
 ·obtain rfl : R = 0 := by rw [← HR.out, if_pos (.inl hn)]
  clear HR
  go_enter Tryz.func213, Tryz.ntmps213
  go_wp2
  go_ret2
  exact ⟨⟨_, rfl⟩, rfl⟩
 go_enter Tryz.func213, Tryz.ntmps213
 go_wp2
 go_loopw [5, 7] (fun c i wr => ∃ k : Nat, k < 3 ∧ i = .int .i64 ((k + 1 : Nat) : Int) ∧ c = .int .i64 ((accF (b % 16) (nth (bytesN s)) k : Nat) : Int) ∧ (∀ j, 1 ≤ j → j ≤ k → 128 ≤ nth (bytesN s) j ∧ nth (bytesN s) j ≤ 191) ∧ wr = w) (fun _ i _ => 3 - (RowKit.intOf i).toNat)
 case atStart => exact ⟨0, by omega, rfl, rfl, fun j h1 h2 => absurd h2 (by omega), rfl⟩
 case round =>
  clear hz1 a1 a2
  obtain ⟨k, hk, rfl, rfl, hc, rfl⟩ := hrel
  have HC := Lib.hid hc
  clear hc
  have hst : accF (b % 16) (nth (bytesN s)) (k + 1) = 64 * accF (b % 16) (nth (bytesN s)) k + nth (bytesN s) (k + 1) % 64 := rfl
  by_cases hlt : k + 1 < 3
  ·have hi : k + 1 < s.size := by omega
   have hy := nth_bytes s hi
   have hBl := nth_lt s (k + 1)
   have hacc : accF (b % 16) (nth (bytesN s)) k < 16777216 := by
    have h0 : accF (b % 16) (nth (bytesN s)) 0 < 32 := by show b % 16 < 32; omega
    have h1 : accF (b % 16) (nth (bytesN s)) 1 < 64 * 32 := by show 64 * accF (b % 16) (nth (bytesN s)) 0 + nth (bytesN s) 1 % 64 < _; omega
    have h2 : accF (b % 16) (nth (bytesN s)) 2 < 64 * 64 * 32 := by show 64 * accF (b % 16) (nth (bytesN s)) 1 + nth (bytesN s) 2 % 64 < _; omega
    obtain rfl | rfl : k = 0 ∨ k = 1 := by omega
    all_goals omega
   obtain ⟨B, hB⟩ : ∃ B, nth (bytesN s) (k + 1) = B := ⟨_, rfl⟩
   obtain ⟨C, hC⟩ : ∃ C, accF (b % 16) (nth (bytesN s)) k = C := ⟨_, rfl⟩
   rw [hB] at hy hBl hst
   rw [hC] at hst hacc
   rw [hC]
   have hy1 := hy.symm
   have b1 : bits BinOp.and IntKind.u8 (B : Int) 192 = ((B &&& 192 : Nat) : Int) := and_u8 B 192 hBl (by decide)
   have b2 : bits BinOp.and IntKind.u8 (B : Int) 63 = ((B % 64 : Nat) : Int) := by rw [show (63 : Int) = ((63 : Nat) : Int) from rfl, and_u8 B 63 hBl (by decide), and63]
   have hci := cont_iff ⟨B, hBl⟩
   simp only at hci
   have HST := Lib.hid hst
   clear hy hst hC
   by_cases hcont : 128 ≤ B ∧ B ≤ 191
   ·have hv : B &&& 192 = 128 := by rw [hci]; exact hcont
    have k1 : (((B &&& 192 : Nat) : Int) != 128) = false := by rw [hv]; rfl
    obtain ⟨hc1, hc2⟩ := hcont
    clear hci hv
    go_wp2
    go_roundw
    case rel =>
     refine ⟨k + 1, by omega, by go_num, ?_, fun j h1 h2 => ?_, trivial⟩
     ·rw [HST.out]; push_cast; first | rfl | omega
     ·by_cases e : j = k + 1
      ·rw [e, hB]; exact ⟨hc1, hc2⟩
      ·exact HC.out j h1 (by omega)
    case measure => simp [RowKit.intOf]; omega
   ·have hv : ¬ B &&& 192 = 128 := by rw [hci]; exact hcont
    have k1 : (((B &&& 192 : Nat) : Int) != 128) = true := bne_iff_ne.2 (by omega)
    obtain rfl : R = 0 := by
     rw [← HR.out]
     obtain rfl | rfl : k = 0 ∨ k = 1 := by omega
     all_goals
      rw [if_pos]
      first | (rw [show nth (bytesN s) 1 = B from hB]; omega) | (rw [show nth (bytesN s) 2 = B from hB]; omega) | (rw [show nth (bytesN s) 3 = B from hB]; omega)
    clear hci hv HR HC
    go_wp2
    go_ret2
    exact ⟨⟨_, rfl⟩, rfl⟩
  ·obtain rfl : k = 2 := by omega
   have hc1 := HC.out 1 (by omega) (by omega)
   have hc2 := HC.out 2 (by omega) (by omega)
   have hac : accF (b % 16) (nth (bytesN s)) 2 = 64 * (64 * (b % 16) + nth (bytesN s) 1 % 64) + nth (bytesN s) 2 % 64 := rfl
   have hbm : b % 16 < 16 := Nat.mod_lt _ (by decide)
   rw [hac]
   obtain ⟨B1, hB1⟩ : ∃ B1, nth (bytesN s) 1 = B1 := ⟨_, rfl⟩
   obtain ⟨B2, hB2⟩ : ∃ B2, nth (bytesN s) 2 = B2 := ⟨_, rfl⟩
   obtain ⟨B3, hB3⟩ : ∃ B3, nth (bytesN s) 3 = B3 := ⟨_, rfl⟩
   have HR2 := HR.out
   rw [hB1, hB2] at HR2
   rw [hB1] at hc1
   rw [hB2] at hc2
   rw [hB1, hB2]
   obtain ⟨V, hV⟩ : ∃ V, 64 * (64 * (b % 16) + B1 % 64) + B2 % 64 = V := ⟨_, rfl⟩
   have hvb : V < 4194304 ∧ V < 65536 := by omega
   rw [hV] at HR2
   rw [hV]
   clear HC HR hst hac hB1 hB2 hB3 hlt
   by_cases d1 : V < 2048
   ·obtain rfl : R = 0 := by rw [← HR2, if_pos (by omega)]
    clear HR2 hV hc1 hc2
    obtain ⟨v1, v2⟩ := hvb
    go_wp2
    go_ret2
    exact ⟨⟨_, rfl⟩, rfl⟩
   by_cases d2 : 55296 ≤ V ∧ V ≤ 57343
   ·obtain rfl : R = 0 := by rw [← HR2, if_pos (by omega)]
    obtain ⟨d2, d3⟩ := d2
    clear HR2 hV hc1 hc2
    obtain ⟨v1, v2⟩ := hvb
    go_wp2
    go_ret2
    exact ⟨⟨_, rfl⟩, rfl⟩
   obtain rfl : R = 3 := by rw [← HR2, if_neg (by omega)]
   clear HR2 hV hc1 hc2
   obtain ⟨v1, v2⟩ := hvb
   by_cases d3 : 55296 ≤ V
   ·have d4 : ¬ V ≤ 57343 := by omega
    clear d2
    go_wp2
    go_ret2
    exact ⟨⟨_, rfl⟩, rfl⟩
   ·clear d2
    go_wp2
    go_ret2
    exact ⟨⟨_, rfl⟩, rfl⟩
set_option maxRecDepth 100000 in
set_option maxHeartbeats 4000000 in
theorem first_arm4 (s : ByteArray) (w : World) (hs : s.size ≤ 9223372036854775807) (hp : 0 < s.size) (b : Nat) (hb0 : nth (bytesN s) 0 = b) (h : 240 ≤ b ∧ b ≤ 244) (R : Nat) (hR : firstB s.size b (nth (bytesN s) 1) (nth (bytesN s) 2) (nth (bytesN s) 3) = R) : Calls Tryz.prog 213 #[.string s] w (FirstOut R w) := by
 have hz := nth_bytes s hp
 rw [hb0] at hz
 have hz1 := hz.symm
 rw [first_four h] at hR
 obtain ⟨h, h2⟩ := h
 have a1 : bits BinOp.and IntKind.i64 (b : Int) 31 = ((b % 32 : Nat) : Int) := by rw [show (31 : Int) = ((31 : Nat) : Int) from rfl, and_i64 b 31 (by omega) (by decide), and31]
 have a2 : bits BinOp.and IntKind.i64 ((b : Int) % 32) 15 = (b : Int) % 16 := by rw [show (15 : Int) = ((15 : Nat) : Int) from rfl, show (b : Int) % 32 = ((b % 32 : Nat) : Int) from rfl, and_i64 _ 15 (by omega) (by decide), and15]; omega
 have a3 : bits BinOp.and IntKind.i64 ((b : Int) % 16) 7 = (b : Int) % 8 := by rw [show (7 : Int) = ((7 : Nat) : Int) from rfl, show (b : Int) % 16 = ((b % 16 : Nat) : Int) from rfl, and_i64 _ 7 (by omega) (by decide), and7]; omega
 have HR := Lib.hid hR
 clear hz hb0 hR
 unfold FirstOut
 by_cases hn : s.size < 4
 ·obtain rfl : R = 0 := by rw [← HR.out, if_pos (.inl hn)]
  clear HR
  go_enter Tryz.func213, Tryz.ntmps213
  go_wp2
  go_ret2
  exact ⟨⟨_, rfl⟩, rfl⟩
 go_enter Tryz.func213, Tryz.ntmps213
 go_wp2
 go_loopw [5, 7] (fun c i wr => ∃ k : Nat, k < 4 ∧ i = .int .i64 ((k + 1 : Nat) : Int) ∧ c = .int .i64 ((accF (b % 8) (nth (bytesN s)) k : Nat) : Int) ∧ (∀ j, 1 ≤ j → j ≤ k → 128 ≤ nth (bytesN s) j ∧ nth (bytesN s) j ≤ 191) ∧ wr = w) (fun _ i _ => 4 - (RowKit.intOf i).toNat)
 case atStart => exact ⟨0, by omega, rfl, rfl, fun j h1 h2 => absurd h2 (by omega), rfl⟩
 case round =>
  clear hz1 a1 a2 a3
  obtain ⟨k, hk, rfl, rfl, hc, rfl⟩ := hrel
  have HC := Lib.hid hc
  clear hc
  have hst : accF (b % 8) (nth (bytesN s)) (k + 1) = 64 * accF (b % 8) (nth (bytesN s)) k + nth (bytesN s) (k + 1) % 64 := rfl
  by_cases hlt : k + 1 < 4
  ·have hi : k + 1 < s.size := by omega
   have hy := nth_bytes s hi
   have hBl := nth_lt s (k + 1)
   have hacc : accF (b % 8) (nth (bytesN s)) k < 16777216 := by
    have h0 : accF (b % 8) (nth (bytesN s)) 0 < 32 := by show b % 8 < 32; omega
    have h1 : accF (b % 8) (nth (bytesN s)) 1 < 64 * 32 := by show 64 * accF (b % 8) (nth (bytesN s)) 0 + nth (bytesN s) 1 % 64 < _; omega
    have h2 : accF (b % 8) (nth (bytesN s)) 2 < 64 * 64 * 32 := by show 64 * accF (b % 8) (nth (bytesN s)) 1 + nth (bytesN s) 2 % 64 < _; omega
    obtain rfl | rfl | rfl : k = 0 ∨ k = 1 ∨ k = 2 := by omega
    all_goals omega
   obtain ⟨B, hB⟩ : ∃ B, nth (bytesN s) (k + 1) = B := ⟨_, rfl⟩
   obtain ⟨C, hC⟩ : ∃ C, accF (b % 8) (nth (bytesN s)) k = C := ⟨_, rfl⟩
   rw [hB] at hy hBl hst
   rw [hC] at hst hacc
   rw [hC]
   have hy1 := hy.symm
   have b1 : bits BinOp.and IntKind.u8 (B : Int) 192 = ((B &&& 192 : Nat) : Int) := and_u8 B 192 hBl (by decide)
   have b2 : bits BinOp.and IntKind.u8 (B : Int) 63 = ((B % 64 : Nat) : Int) := by rw [show (63 : Int) = ((63 : Nat) : Int) from rfl, and_u8 B 63 hBl (by decide), and63]
   have hci := cont_iff ⟨B, hBl⟩
   simp only at hci
   have HST := Lib.hid hst
   clear hy hst hC
   by_cases hcont : 128 ≤ B ∧ B ≤ 191
   ·have hv : B &&& 192 = 128 := by rw [hci]; exact hcont
    have k1 : (((B &&& 192 : Nat) : Int) != 128) = false := by rw [hv]; rfl
    obtain ⟨hc1, hc2⟩ := hcont
    clear hci hv
    go_wp2
    go_roundw
    case rel =>
     refine ⟨k + 1, by omega, by go_num, ?_, fun j h1 h2 => ?_, trivial⟩
     ·rw [HST.out]; push_cast; first | rfl | omega
     ·by_cases e : j = k + 1
      ·rw [e, hB]; exact ⟨hc1, hc2⟩
      ·exact HC.out j h1 (by omega)
    case measure => simp [RowKit.intOf]; omega
   ·have hv : ¬ B &&& 192 = 128 := by rw [hci]; exact hcont
    have k1 : (((B &&& 192 : Nat) : Int) != 128) = true := bne_iff_ne.2 (by omega)
    obtain rfl : R = 0 := by
     rw [← HR.out]
     obtain rfl | rfl | rfl : k = 0 ∨ k = 1 ∨ k = 2 := by omega
     all_goals
      rw [if_pos]
      first | (rw [show nth (bytesN s) 1 = B from hB]; omega) | (rw [show nth (bytesN s) 2 = B from hB]; omega) | (rw [show nth (bytesN s) 3 = B from hB]; omega)
    clear hci hv HR HC
    go_wp2
    go_ret2
    exact ⟨⟨_, rfl⟩, rfl⟩
  ·obtain rfl : k = 3 := by omega
   have hc1 := HC.out 1 (by omega) (by omega)
   have hc2 := HC.out 2 (by omega) (by omega)
   have hc3 := HC.out 3 (by omega) (by omega)
   have hac : accF (b % 8) (nth (bytesN s)) 3 = 64 * (64 * (64 * (b % 8) + nth (bytesN s) 1 % 64) + nth (bytesN s) 2 % 64) + nth (bytesN s) 3 % 64 := rfl
   have hbm : b % 8 < 8 := Nat.mod_lt _ (by decide)
   rw [hac]
   obtain ⟨B1, hB1⟩ : ∃ B1, nth (bytesN s) 1 = B1 := ⟨_, rfl⟩
   obtain ⟨B2, hB2⟩ : ∃ B2, nth (bytesN s) 2 = B2 := ⟨_, rfl⟩
   obtain ⟨B3, hB3⟩ : ∃ B3, nth (bytesN s) 3 = B3 := ⟨_, rfl⟩
   have HR2 := HR.out
   rw [hB1, hB2, hB3] at HR2
   rw [hB1] at hc1
   rw [hB2] at hc2
   rw [hB3] at hc3
   rw [hB1, hB2, hB3]
   obtain ⟨V, hV⟩ : ∃ V, 64 * (64 * (64 * (b % 8) + B1 % 64) + B2 % 64) + B3 % 64 = V := ⟨_, rfl⟩
   have hvb : V < 4194304 ∧ True := ⟨hV ▸ acc4_lt _ _ _ _ hbm (Nat.mod_lt _ (by decide)) (Nat.mod_lt _ (by decide)) (Nat.mod_lt _ (by decide)), trivial⟩
   rw [hV] at HR2
   rw [hV]
   clear HC HR hst hac hB1 hB2 hB3 hlt
   by_cases d1 : V < 65536
   ·obtain rfl : R = 0 := by rw [← HR2, if_pos (by omega)]
    clear HR2 hV hc1 hc2 hc3
    obtain ⟨v1, v2⟩ := hvb
    go_wp2
    go_ret2
    exact ⟨⟨_, rfl⟩, rfl⟩
   by_cases d2 : 1114111 < V
   ·obtain rfl : R = 0 := by rw [← HR2, if_pos (by omega)]
    clear HR2 hV hc1 hc2 hc3
    obtain ⟨v1, v2⟩ := hvb
    go_wp2
    go_ret2
    exact ⟨⟨_, rfl⟩, rfl⟩
   obtain rfl : R = 4 := by rw [← HR2, if_neg (by omega)]
   clear HR2 hV hc1 hc2 hc3
   obtain ⟨v1, v2⟩ := hvb
   go_wp2
   go_ret2
   exact ⟨⟨_, rfl⟩, rfl⟩
theorem refFirst_any (s : ByteArray) (w : World) (hs : s.size ≤ 9223372036854775807) (hp : 0 < s.size) : Calls Tryz.prog 213 #[.string s] w (FirstOut (firstOf s.data.toList) w) := by
 rw [firstOf_eq]
 obtain ⟨b, hb⟩ : ∃ b, nth (bytesN s) 0 = b := ⟨_, rfl⟩
 rw [hb]
 by_cases c1 : b < 128
 ·rw [first_one c1]; exact first_arm1 s w hs hp b hb c1
 by_cases c2 : b < 194 ∨ 244 < b
 ·have h : (128 ≤ b ∧ b < 194) ∨ 244 < b := by omega
  rw [first_bad h]; exact first_arm0 s w hs hp b hb h
 by_cases c3 : b < 224
 ·exact first_arm2 s w hs hp b hb (by omega) _ rfl
 by_cases c4 : b < 240
 ·exact first_arm3 s w hs hp b hb (by omega) _ rfl
 exact first_arm4 s w hs hp b hb (by omega) _ rfl
theorem firstB_le {n b0 b1 b2 b3 : Nat} (hn : 1 ≤ n) : firstB n b0 b1 b2 b3 ≤ n := by
 by_cases c1 : b0 < 128
 ·rw [first_one c1]; exact hn
 by_cases c2 : b0 < 194 ∨ 244 < b0
 ·rw [first_bad (by omega)]; omega
 by_cases c3 : b0 < 224
 ·rw [first_two (by omega)]; split <;> omega
 by_cases c4 : b0 < 240
 ·rw [first_three (by omega)]; split <;> omega
 rw [first_four (by omega)]; split <;> omega
theorem toList_ne (t : ByteArray) (h : 0 < t.size) : t.toList.isEmpty = false := by
 rw [List.isEmpty_eq_false_iff, ByteArray.toList_eq]
 intro e
 have : t.data.toList.length = 0 := by rw [e]; rfl
 have h2 : t.data.toList.length = t.size := by simp
 omega
theorem toList_nil (t : ByteArray) (h : ¬ 0 < t.size) : t.toList.isEmpty = true := by
 have e : t.data.toList = [] := List.length_eq_zero_iff.1 (by have h2 : t.data.toList.length = t.size := by simp
                                                              omega)
 rw [ByteArray.toList_eq, e]; rfl
set_option maxRecDepth 100000 in
set_option maxHeartbeats 4000000 in
theorem refUtf_any (s : ByteArray) (w : World) (hs : s.size ≤ 9223372036854775807) : Calls Tryz.prog 168 #[.string s] w fun e w' => e = .returned (.bool (Lib.validD s.data.toList)) ∧ w' = w := by
 go_enter Tryz.func168, Tryz.ntmps168
 go_wp2
 go_loopw [0] (fun v wr => ∃ t : ByteArray, v = .string t ∧ t.size ≤ s.size ∧ Lib.validD t.data.toList = Lib.validD s.data.toList ∧ wr = w) (fun v _ => strSz v)
 case atStart => exact ⟨s, rfl, Nat.le_refl _, rfl, rfl⟩
 case round =>
  obtain ⟨t, rfl, hl, hd, rfl⟩ := hrel
  have Hd := Lib.hid hd
  clear hd
  by_cases hp : 0 < t.size
  ·have k1 := toList_ne t hp
   have hlen : t.data.toList.length = t.size := by simp
   have hne : t.data.toList ≠ [] := fun e => by rw [e] at hlen; simp at hlen; omega
   have hv := Lib.hid (first_valid t.data.toList hne)
   have hle : firstOf t.data.toList ≤ t.size := by rw [firstOf_eq]; exact firstB_le hp
   have hf := refFirst_any t wr (by omega) hp
   unfold FirstOut at hf
   obtain ⟨n, hn⟩ : ∃ n, firstOf t.data.toList = n := ⟨_, rfl⟩
   rw [hn] at hf hle
   have hv2 : Lib.validD t.data.toList = if n = 0 then false else Lib.validD (t.data.toList.drop n) := by rw [hv.out, hn]
   have HV := Lib.hid hv2
   clear hv hv2 hn hne hlen
   go_wp2_with fail
   refine hf.mono ?_
   rintro e w1 ⟨⟨c, rfl⟩, h9⟩
   replace h9 := h9.symm
   subst h9
   by_cases h0 : n = 0
   ·have k2 : ((n : Int) == 0) = true := by simp [h0]
    have hr : Lib.validD s.data.toList = false := by rw [← Hd.out, HV.out, if_pos h0]
    have HR := Lib.hid hr
    clear HV Hd h0 hr hf
    go_wp2
    go_ret
    exact ⟨by rw [HR.out]; rfl, rfl⟩
   ·have k2 : ((n : Int) == 0) = false := by simpa using h0
    have hr : Lib.validD (t.extract n t.size).data.toList = Lib.validD s.data.toList := by rw [← Hd.out, HV.out, if_neg h0, Lib.ext_list]
    have hsz := Lib.ext_size t n
    have HR := Lib.hid hr
    clear HV Hd hr hf
    go_wp2
    go_roundw
    case rel => exact ⟨_, rfl, by omega, HR.out, trivial⟩
    case measure => show (t.extract n t.size).size < t.size; omega
  ·have k1 := toList_nil t hp
   have hr : Lib.validD s.data.toList = true := by
    rw [← Hd.out]
    have e : t.data.toList = [] := List.length_eq_zero_iff.1 (by have h2 : t.data.toList.length = t.size := by simp
                                                                 omega)
    rw [e]; exact Lib.validD_nil
   have HR := Lib.hid hr
   clear Hd hr
   go_wp2
   go_ret
   exact ⟨by rw [HR.out]; rfl, rfl⟩
end Go.Tm
