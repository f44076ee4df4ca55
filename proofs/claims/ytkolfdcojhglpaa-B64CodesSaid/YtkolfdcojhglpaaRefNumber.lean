/-
  The document's number of a letter; the plain law of its Decode.
-/
import Derived.Test.YtkolfdcojhglpaaRefCode
set_option linter.unusedVariables false
namespace Go.Tm
open Go.RowKit Go.Proofs

set_option maxHeartbeats 1000000 in
theorem refNumber_any (c : Nat) (w : World) (hc : c < 256) : Calls Try.prog 25 #[.int .u8 c] w fun e w' => e = .returned (.int .i64 (idxI lettersN c)) ∧ w' = w := by
  obtain ⟨LS, hLS, hla⟩ : ∃ LS, lettersS = LS ∧ ∀ k (h : k < LS.size), (LS[k]'h).toNat = nth lettersN k := ⟨_, rfl, lettersS_at⟩
  have hlet := refLetters_any
  have hls := lettersS_size
  have hll : lettersN.length = 64 := letters_len
  rw [hLS] at hlet hls
  have Hlet := Lib.hid hlet
  have Hla := Lib.hid hla
  have HLL := Lib.hid hll
  clear hlet hla hLS hll
  go_enter Try.func25, Try.ntmps25
  go_wp2_with (go_at_call 24; refine (Hlet.out _).mono ?_; rintro r w1 ⟨rfl, h9⟩; replace h9 := h9.symm; subst h9)
  go_loop [4] (fun i => ∃ k : Nat, k ≤ 64 ∧ i = .int .i64 k ∧ ∀ j, j < k → nth lettersN j ≠ c) (fun i => 64 - (intOf i).toNat)
  case atStart => exact ⟨0, Nat.zero_le _, rfl, fun j hj => absurd hj (Nat.not_lt_zero j)⟩
  case round =>
    obtain ⟨k, hk, rfl, hno⟩ := hrel
    have Hno := Lib.hid hno
    clear hno
    by_cases hlt : k < 64
    · have hkL : k < LS.size := by omega
      obtain ⟨x, hx⟩ : ∃ x, (LS[k]'hkL).toNat = x := ⟨_, rfl⟩
      have hxn : nth lettersN k = x := by rw [← Hla.out k hkL, hx]
      have Hxn := Lib.hid hxn
      clear hxn
      by_cases hm : x = c
      · subst hm
        have hid : idxI lettersN x = k := by
          have := idxN_eq lettersN x k (by rw [HLL.out]; exact hlt) Hxn.out Hno.out
          unfold idxI; rw [this, if_pos (by rw [HLL.out]; exact hlt)]
        have Hid' := Lib.hid hid
        clear hid
        go_wp2
        go_ret
        exact ⟨by rw [Hid'.out]; rfl, rfl⟩
      · have hbe : (((x : Nat) : Int) == (c : Int)) = false := by rw [beq_eq_false_iff_ne]; omega
        go_wp2
        go_round
        case rel =>
          refine ⟨k + 1, by omega, by go_num, fun j hj => ?_⟩
          by_cases e : j = k
          · subst e; rw [Hxn.out]; exact hm
          · exact Hno.out j (by omega)
        case measure => simp [intOf]; omega
    · have hid : idxI lettersN c = -1 := by
        unfold idxI; rw [if_neg (idxN_none lettersN c fun j hj => Hno.out j (by rw [HLL.out] at hj; omega))]
      have Hid' := Lib.hid hid
      clear hid
      go_wp2
      go_ret
      exact ⟨by rw [Hid'.out]; rfl, rfl⟩

/-- The numbers of a text's letters. -/
def numsT (l : List Nat) : List Nat := l.map (idxN lettersN)
theorem numsT_good (l : List Nat) (h : allSigns lettersN l = true) : goodN lettersN l = numsT l := by
  unfold goodN numsT; rw [takeWhile_self _ _ (List.all_eq_true.1 h)]
def bytesT (l : List Nat) (k : Nat) : List Nat := outs 8 6 (0, 0) (numsT (l.take k))
def three (n : Nat) : List Nat := [n / 65536, n / 256 % 256, n % 256]

theorem len_four {l : List Nat} (h : l.length = 4) : ∃ a b c d, l = [a, b, c, d] := by
  match l, h with
  | [a, b, c, d], _ => exact ⟨a, b, c, d, rfl⟩
theorem outs_few (l : List Nat) (n : Nat) (hl : ∀ x ∈ l, x < 2 ^ 6)
    (h : (l.length = 2 ∧ n = (nth l 0 * 64 + nth l 1) * 4096) ∨ (l.length = 3 ∧ n = ((nth l 0 * 64 + nth l 1) * 64 + nth l 2) * 64) ∨ (l.length = 4 ∧ n = ((nth l 0 * 64 + nth l 1) * 64 + nth l 2) * 64 + nth l 3)) :
    outs 8 6 (0, 0) l = (three n).take (l.length - 1) := by
  have hv := outs_val 8 6 l (0, 0) (by simp) hl
  have hn := outs_len 8 6 (0, 0) l
  have ho := outs_lt 8 6 (0, 0) l
  have hok := finAt_ok 8 6 l (by omega) l.length (Nat.le_refl _)
  rw [finAt_all] at hok
  generalize fin 8 6 (0, 0) l = f at *
  generalize outs 8 6 (0, 0) l = O at *
  simp only at hv hn
  obtain ⟨f1, f2⟩ := f
  simp only at hv hn hok
  have hlen : O.length = l.length - 1 := by omega
  have hn24 : n < 16777216 := by
    have b0 := nth_lt_of l 64 (by omega) hl 0
    have b1 := nth_lt_of l 64 (by omega) hl 1
    have b2 := nth_lt_of l 64 (by omega) hl 2
    have b3 := nth_lt_of l 64 (by omega) hl 3
    omega
  have h3 : ∀ x ∈ three n, x < 2 ^ 8 := by
    intro x hx; simp only [three, List.mem_cons, List.not_mem_nil, or_false] at hx; rcases hx with rfl | rfl | rfl <;> omega
  refine (val_inj 8 _ _ 0 0 ho (fun x hx => h3 x (List.mem_of_mem_take hx)) ?_ ?_).2
  · rw [List.length_take]; simp only [three, List.length_cons, List.length_nil]; omega
  · rcases h with ⟨h1, h2⟩ | ⟨h1, h2⟩ | ⟨h1, h2⟩
    · obtain rfl : f2 = 4 := by omega
      obtain ⟨a, b, rfl⟩ := len_two h1
      have h2' : n = (a * 64 + b) * 4096 := h2
      have h5 : f1 < 16 := hok.2
      have hv' : (0 * 64 + a) * 64 + b = val 8 0 O * 16 + f1 := hv
      show val 8 0 O = val 8 0 [n / 65536]
      simp only [val_cons, val_nil]
      omega
    · obtain rfl : f2 = 2 := by omega
      obtain ⟨a, b, c, rfl⟩ := len_three h1
      have h2' : n = ((a * 64 + b) * 64 + c) * 64 := h2
      have h5 : f1 < 4 := hok.2
      have hv' : ((0 * 64 + a) * 64 + b) * 64 + c = val 8 0 O * 4 + f1 := hv
      show val 8 0 O = val 8 0 [n / 65536, n / 256 % 256]
      simp only [val_cons, val_nil]
      omega
    · obtain rfl : f2 = 0 := by omega
      obtain ⟨a, b, c, d, rfl⟩ := len_four h1
      have h2' : n = ((a * 64 + b) * 64 + c) * 64 + d := h2
      have h5 : f1 < 1 := hok.2
      have hv' : (((0 * 64 + a) * 64 + b) * 64 + c) * 64 + d = val 8 0 O * 1 + f1 := hv
      show val 8 0 O = val 8 0 [n / 65536, n / 256 % 256, n % 256]
      simp only [val_cons, val_nil]
      omega

theorem outs_append4 (x y : List Nat) (m : Nat) (hx : ∀ b ∈ x, b < 2 ^ 6) (h : x.length = 4 * m) : outs 8 6 (0, 0) (x ++ y) = outs 8 6 (0, 0) x ++ outs 8 6 (0, 0) y := by
  have hl := outs_len 8 6 (0, 0) x
  have hok := finAt_ok 8 6 x (by omega) x.length (Nat.le_refl _)
  rw [finAt_all] at hok
  have h0 : (fin 8 6 (0, 0) x).2 = 0 := by simp only at hl; omega
  have h1 : (fin 8 6 (0, 0) x).1 = 0 := by have := hok.2; rw [h0] at this; omega
  have hf : fin 8 6 (0, 0) x = (0, 0) := Prod.ext h1 h0
  rw [outs_append, hf]

theorem numsT_lt (l : List Nat) (h : ∀ x ∈ l, isSign lettersN x = true) : ∀ x ∈ numsT l, x < 2 ^ 6 := by
  intro x hx
  obtain ⟨c, hc, rfl⟩ := List.mem_map.1 hx
  have := h c hc
  rw [isSign, decide_eq_true_eq, letters_len] at this
  exact this

theorem bytesT_next (l : List Nat) (m n : Nat) (hs : ∀ j, j < 4 * m + 4 → j < l.length → isSign lettersN (nth l j) = true) (h : 4 * m + 1 < l.length)
    (hn : (4 * m + 2 = l.length ∧ n = (idxN lettersN (nth l (4 * m)) * 64 + idxN lettersN (nth l (4 * m + 1))) * 4096) ∨
      (4 * m + 3 = l.length ∧ n = ((idxN lettersN (nth l (4 * m)) * 64 + idxN lettersN (nth l (4 * m + 1))) * 64 + idxN lettersN (nth l (4 * m + 2))) * 64) ∨
      (4 * m + 3 < l.length ∧ n = ((idxN lettersN (nth l (4 * m)) * 64 + idxN lettersN (nth l (4 * m + 1))) * 64 + idxN lettersN (nth l (4 * m + 2))) * 64 + idxN lettersN (nth l (4 * m + 3)))) :
    bytesT l (4 * m + 4) = bytesT l (4 * m) ++ (three n).take (min 4 (l.length - 4 * m) - 1) := by
  have e : l.take (4 * m + 4) = l.take (4 * m) ++ (l.drop (4 * m)).take 4 := by rw [List.take_add]
  have hd : ∀ j, j < 4 → 4 * m + j < l.length → nth (numsT ((l.drop (4 * m)).take 4)) j = idxN lettersN (nth l (4 * m + j)) := by
    intro j hj hj2
    have h1 : j < (numsT ((l.drop (4 * m)).take 4)).length := by simp [numsT]; omega
    rw [nth_eq h1, nth_eq hj2]
    simp [numsT]
  have hlen : (numsT ((l.drop (4 * m)).take 4)).length = min 4 (l.length - 4 * m) := by simp [numsT]
  have hsg : ∀ k, (∀ x ∈ l.take k, isSign lettersN x = true) ∨ ¬ k ≤ 4 * m + 4 := fun k => by
    by_cases hk : k ≤ 4 * m + 4
    · refine .inl fun x hx => ?_
      obtain ⟨j, hj, rfl⟩ := List.getElem_of_mem hx
      have hj' := hj
      rw [List.length_take] at hj'
      have := hs j (by omega) (by omega)
      rw [nth_eq (by omega)] at this
      simpa using this
    · exact .inr hk
  have hs1 : ∀ x ∈ l.take (4 * m), isSign lettersN x = true := (hsg _).resolve_right (by omega)
  have hs2 : ∀ x ∈ l.take (4 * m + 4), isSign lettersN x = true := (hsg _).resolve_right (by omega)
  rw [e] at hs2
  have hs3 : ∀ x ∈ (l.drop (4 * m)).take 4, isSign lettersN x = true := fun x hx => hs2 x (List.mem_append_right _ hx)
  unfold bytesT
  rw [e]
  have e2 : numsT (l.take (4 * m) ++ (l.drop (4 * m)).take 4) = numsT (l.take (4 * m)) ++ numsT ((l.drop (4 * m)).take 4) := by simp [numsT]
  rw [e2, outs_append4 _ _ m (numsT_lt _ hs1) (by simp [numsT]; omega)]
  congr 1
  rw [← hlen]
  refine outs_few _ n (numsT_lt _ hs3) ?_
  rw [hlen]
  have g0 := hd 0 (by omega) (by omega)
  have g1 := hd 1 (by omega) (by omega)
  rw [Nat.add_zero] at g0
  rcases hn with ⟨h1, h2⟩ | ⟨h1, h2⟩ | ⟨h1, h2⟩
  · exact .inl ⟨by omega, by rw [g0, g1]; exact h2⟩
  · exact .inr (.inl ⟨by omega, by rw [g0, g1, hd 2 (by omega) (by omega)]; exact h2⟩)
  · exact .inr (.inr ⟨by omega, by rw [g0, g1, hd 2 (by omega) (by omega), hd 3 (by omega) (by omega)]; exact h2⟩)

/-- When the program's Decode refuses. -/
theorem decode_bad (l : List Nat) (h : l.length % 4 = 1 ∨ 540 < l.length ∨ allSigns lettersN l = false) : decodeN l = ([], 30) := by
  have key : (decodeN l).2 = 30 → decodeN l = ([], 30) := by
    unfold decodeN readN; split
    · intro h; simp at h
    · intro _; rfl
  rcases decode_errno l with h0 | h0
  · exfalso
    have h1 := code_decode l h0
    have hb := decode_lt l
    have h2 := turned_len 6 (by omega) _ hb
    unfold codeN at h1
    split at h1
    · rename_i hle
      have h3 := congrArg (fun p => p.1.length) h1
      simp only [signsOf, List.length_map] at h3
      rcases h with h | h | h
      · omega
      · omega
      · unfold decodeN readN at h0
        split at h0
        · rename_i hr
          unfold readOk at hr
          rw [h] at hr
          simp at hr
        · simp at h0
    · simp at h1
  · exact key h0
theorem decode_30 (l : List Nat) (h : (decodeN l).2 ≠ 0) : decodeN l = ([], 30) := by
  unfold decodeN readN at h ⊢; split
  · rename_i hr; rw [if_pos hr] at h; simp at h
  · rfl
theorem decode_out (l : List Nat) (ha : allSigns lettersN l = true) (h : (decodeN l).2 = 0) : decodeN l = (bytesT l l.length, 0) := by
  unfold bytesT
  rw [List.take_length, ← numsT_good l ha]
  unfold decodeN readN at h ⊢; split
  · rfl
  · rename_i hr; rw [if_neg hr] at h; simp at h
theorem bytesT_lt (l : List Nat) (k : Nat) : ∀ x ∈ bytesT l k, x < 256 := outs_lt 8 6 _ _
theorem bytesT_len (l : List Nat) (k : Nat) : (bytesT l k).length ≤ l.length := by
  have := outs_len 8 6 (0, 0) (numsT (l.take k))
  unfold bytesT
  simp only [numsT, List.length_map, List.length_take] at this ⊢
  omega
/-- What the check of the document's Decode decides. -/
theorem decode_check (l : List Nat) (hl : ∀ x ∈ l, x < 256) (ha : allSigns lettersN l = true) :
    decodeN l = if (codeN (bytesT l l.length)).2 = 0 ∧ (codeN (bytesT l l.length)).1 = l then (bytesT l l.length, 0) else ([], 30) := by
  split
  · rename_i h
    obtain ⟨h1, h2⟩ := h
    have hle : (bytesT l l.length).length ≤ 400 := by
      unfold codeN at h1; split at h1
      · assumption
      · simp at h1
    have := decode_code (bytesT l l.length) (bytesT_lt l _) hle
    rw [h2] at this
    exact this
  · rename_i h
    refine decode_30 l fun h0 => h ?_
    have h1 := code_decode l h0
    rw [decode_out l ha h0] at h1
    rw [h1]; exact ⟨rfl, rfl⟩
#print axioms decode_check
end Go.Tm
