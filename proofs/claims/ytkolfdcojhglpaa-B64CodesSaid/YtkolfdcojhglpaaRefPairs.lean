/-
  The document's Pairs: what it hands back.
-/
import Derived.Test.YtkolfdcojhglpaaAppend
import Derived.Test.YtkolfdcojhglpaaB64Laws
set_option linter.unusedVariables false
namespace Go.Tm
open Go.RowKit Go.Proofs

def digN (n : Nat) : Nat := nth digitsN n
def pairsOf (l : List Nat) : List Nat := l.flatMap fun b => [digN (b / 16), digN (b % 16)]

theorem pairsOf_take (l : List Nat) (k : Nat) (h : k < l.length) : pairsOf (l.take (k + 1)) = pairsOf (l.take k) ++ [digN (nth l k / 16), digN (nth l k % 16)] := by
  rw [take_nth l k h]; simp [pairsOf]
theorem pairsOf_length (l : List Nat) : (pairsOf l).length = 2 * l.length := by
  induction l with
  | nil => rfl
  | cons x l ih => simp only [pairsOf, List.flatMap_cons, List.length_append, List.length_cons, List.length_nil] at ih ⊢; omega

def halves (l : List Nat) : List Nat := l.flatMap fun b => [b / 16, b % 16]
theorem halves_length (l : List Nat) : (halves l).length = 2 * l.length := by
  induction l with
  | nil => rfl
  | cons x l ih => simp only [halves, List.flatMap_cons, List.length_append, List.length_cons, List.length_nil] at ih ⊢; omega
theorem halves_val : ∀ (l : List Nat) (v : Nat), val 4 v (halves l) = val 8 v l
  | [], _ => rfl
  | x :: l, v => by
    have e : halves (x :: l) = x / 16 :: x % 16 :: halves l := rfl
    rw [e, val_cons, val_cons, val_cons, halves_val l]
    congr 1
    have := Nat.div_add_mod x 16
    omega
theorem halves_lt (l : List Nat) (h : ∀ x ∈ l, x < 256) : ∀ x ∈ halves l, x < 2 ^ 4 := by
  intro x hx
  obtain ⟨b, hb, hx⟩ := List.mem_flatMap.1 hx
  have := h b hb
  simp at hx
  rcases hx with rfl | rfl <;> omega
theorem turned_halves (l : List Nat) (h : ∀ x ∈ l, x < 256) : turnedN 4 l = halves l := by
  obtain ⟨p, hp, hlen, hval, hlt⟩ := turned_val 4 (by omega) l h
  obtain rfl : p = 0 := by omega
  refine (val_inj 4 _ _ 0 0 hlt (halves_lt l h) (by rw [halves_length]; omega) ?_).2
  rw [hval, halves_val]; simp
theorem pairs_is (l : List Nat) (h : ∀ x ∈ l, x < 256) (hn : l.length ≤ 400) : pairsN l = (pairsOf l, 0) := by
  unfold pairsN
  rw [if_pos hn, turned_halves l h]
  simp [signsOf, halves, pairsOf, List.map_flatMap, digN]

theorem dig_at (n : Nat) (h : n < 16) : (⟨#[48, 49, 50, 51, 52, 53, 54, 55, 56, 57, 97, 98, 99, 100, 101, 102]⟩ : ByteArray)[n]'h = UInt8.ofNat (digN n) := by
  revert n; decide
theorem dig_nat (n : Nat) (h : n < (⟨#[48, 49, 50, 51, 52, 53, 54, 55, 56, 57, 97, 98, 99, 100, 101, 102]⟩ : ByteArray).size) : ((⟨#[48, 49, 50, 51, 52, 53, 54, 55, 56, 57, 97, 98, 99, 100, 101, 102]⟩ : ByteArray)[n]'h).toNat = digN n := by
  have h' : n < 16 := h
  revert h; revert n; decide
theorem digN_lt (n : Nat) : digN n < 128 := digits_lt n

set_option maxRecDepth 100000 in
set_option maxHeartbeats 2000000 in
theorem refPairs_any (s : ByteArray) (w : World) (hs : s.size ≤ 9223372036854775807) : Calls Try.prog 14 #[.string s] w fun e w' => e = .returned (two (pairsN (bytesN s))) ∧ Same w w' := by
  have hsz := bytesN_length s
  have hb := bytesN_lt s
  obtain ⟨i0, hi0, hz0, hz1, hz2⟩ := info_parts byte_info
  refine (callsIn_wide (n := 0)).1 ?_
  refine callsIn_of_wp Try.func14 rfl trivial ?_ rfl
  simp only [Try.ntmps14, List.size_toArray, List.length_cons, List.length_nil, Nat.reduceAdd, Nat.reduceSub, Array.replicate_succ, Array.replicate_zero, List.push_toArray, List.append_toArray, List.nil_append, List.cons_append]
  by_cases h : s.size ≤ 400
  · have hp := pairs_is (bytesN s) hb (by omega)
    have Hp := Lib.hid hp
    have Hsz := Lib.hid hsz
    have Hb := Lib.hid hb
    clear hp hsz hb
    gi_wp2
    gi_loopw [5, 6] (fun v i wr => ∃ k : Nat, k ≤ s.size ∧ i = .int .i64 k ∧ wr.ownsRow w.heap.size 5 1 v (2 * k) (byteVals (pairsOf ((bytesN s).take k))) ∧ Same w wr)
      (fun _ i _ => s.size - (intOf i).toNat)
    case atStart => exact ⟨0, Nat.zero_le _, rfl, by simpa [pairsOf, byteVals] using World.ownsRow_nil w w.heap.size 5 1, Keep.refl _ _⟩
    case round =>
      obtain ⟨k, hk, rfl, hown, hsm⟩ := hrel
      by_cases hlt : k < s.size
      · gi_wp2
        refine wpIn_region_text (fun _ => True) reads (fun _ => trivial) rfl (by kernel_rfl) (by kernel_rfl) trivial ?_
        iterate 4 (refine wpT_x rfl rfl ?_; intro K hK w' _; go_simp; refine hK _ _ ?_; clear hK K w')
        refine wpT_x rfl rfl ?_; intro K hK w' _; go_simp; refine hK _ _ ?_; clear hK K w'
        obtain ⟨x, hx⟩ : ∃ x, s[k].toNat = x := ⟨_, rfl⟩
        have hx256 : x < 256 := by rw [← hx]; exact s[k].toNat_lt
        rw [hx]
        obtain ⟨a, ha⟩ : ∃ a, x / 16 = a := ⟨_, rfl⟩
        obtain ⟨b, hbm⟩ : ∃ b, x % 16 = b := ⟨_, rfl⟩
        have a16 : a < 16 := by omega
        have b16 : b < 16 := by omega
        have a16' : (a : Int) < 16 := by omega
        have b16' : (b : Int) < 16 := by omega
        have r1 : IntKind.u8.wrap ((x : Int) / 16) = (a : Int) := by simp [IntKind.wrap, IntKind.bits, IntKind.signed]; omega
        have r2 : (x : Int).tmod 16 = (b : Int) := by rw [Int.tmod_eq_emod_of_nonneg (by omega)]; omega
        iterate 6 (refine wpT_x rfl rfl ?_; intro K hK w' _; go_simp; refine hK _ _ ?_; clear hK K w')
        iterate 2 (refine wpT_x rfl rfl ?_; intro K hK w' _; go_simp; refine hK _ _ ?_; clear hK K w')
        rw [dig_nat a a16, dig_nat b b16]
        refine wpT_c rfl rfl ?_
        intro K hK
        go_simp
        refine hK _ _ trivial ?_
        clear hK K
        refine wpT_c rfl rfl ?_
        intro K hK
        refine oper_append_own _ _ _ 32 rfl w.heap.size 5 i0 (.int .u8 0) 1 1 Try.underlying32 hi0 hz0 hz1 hz2 rfl (by decide) _ _ _ rfl (World.ownsRow.alloc (w := wr.drew) hown _) ⟨wr.heap.size, 0, none⟩ 2 2 [.int .u8 (digN a), .int .u8 (digN b)] rfl rfl ?c1 ?c2 ?c3 ?c4 ?c5 ?_
        case c1 =>
          intro j u hj
          match j, hj with
          | 0, hj => simp at hj; subst hj; simp [Addr.add]
          | 1, hj => simp at hj; subst hj; simp [Addr.add]
        case c2 => intro u hu; simp at hu; rcases hu with rfl | rfl <;> rfl
        case c3 => unfold maxLen; omega
        case c4 => omega
        case c5 => have := hsm.size; simp; omega
        intro v' w1 hown' hgrow
        have hsm1 : Same w w1 := same_appended (hsm.alloc _).drew rfl (World.ownsRow.alloc hown _) hgrow
        obtain ⟨a1, cp, rfl⟩ := row_slice hown'
        refine hK _ _ trivial ?_
        clear hK K
        refine wpT_x rfl rfl ?_; intro K hK w' _; go_simp; refine hK _ _ ?_; clear hK K w'
        refine wpT_nil ?_
        clear hgrow hown
        gi_wp2
        go_roundw
        case rel =>
          refine ⟨k + 1, by omega, by go_num, ?_, hsm1⟩
          rw [pairsOf_take _ _ (by rw [Hsz.out]; exact hlt), byteVals_append, nth_bytes s hlt, hx, ha, hbm, show 2 * (k + 1) = 2 * k + 2 by omega]
          exact hown'
        case measure => simp [intOf]; omega
      · obtain rfl : k = s.size := by omega
        rw [← Hsz.out, List.take_length] at hown
        have hs := row_string hown (by intro x hx; obtain ⟨b, hb, hx⟩ := List.mem_flatMap.1 hx; simp at hx; rcases hx with rfl | rfl <;> (have := digN_lt (b / 16); have := digN_lt (b % 16); omega))
        obtain ⟨a, cp, rfl⟩ := row_slice hown
        gi_wp2
        refine bodyPost_ret (results_tmp2 rfl _ _ _) rfl ?_
        exact ⟨by rw [Hp.out]; rfl, hsm⟩
  · have hp : pairsN (bytesN s) = ([], 30) := by unfold pairsN; rw [if_neg (by omega)]
    have Hp := Lib.hid hp
    clear hp hsz hb
    gi_wp2
    refine bodyPost_ret (results_tmp2 rfl _ _ _) rfl ?_
    exact ⟨by rw [Hp.out]; rfl, Keep.refl _ _⟩

#print axioms refPairs_any
end Go.Tm
