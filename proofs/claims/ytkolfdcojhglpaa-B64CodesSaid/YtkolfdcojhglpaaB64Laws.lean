/-
  b64's laws, as far as no program is in sight; what 'cut' and 'shown' hand back.
-/
import Derived.Test.YtkolfdcojhglpaaB64Math
set_option linter.unusedVariables false
namespace Go.Tm
open Go.RowKit Go.Proofs

theorem takeWhile_self {α : Type} (p : α → Bool) : ∀ l : List α, (∀ x ∈ l, p x = true) → l.takeWhile p = l
  | [], _ => rfl
  | x :: l, h => by rw [List.takeWhile_cons_of_pos (h x (List.mem_cons_self ..)), takeWhile_self p l fun y hy => h y (List.mem_cons_of_mem _ hy)]

/-- Each sign is found at its own place. -/
def Dist (ys : List Nat) : Prop := ∀ n, n < ys.length → idxN ys (nth ys n) = n

theorem letters_dist : Dist lettersN := by unfold Dist; decide
theorem digits_dist : Dist digitsN := by unfold Dist; decide

theorem goodN_signs (ys ns : List Nat) (hd : Dist ys) (hn : ∀ x ∈ ns, x < ys.length) : allSigns ys (signsOf ys ns) = true ∧ goodN ys (signsOf ys ns) = ns := by
  have hall : ∀ x ∈ signsOf ys ns, isSign ys x = true := by
    intro x hx
    obtain ⟨n, hm, rfl⟩ := List.mem_map.1 hx
    have := hn n hm
    simp [isSign, hd n this, this]
  refine ⟨List.all_eq_true.2 hall, ?_⟩
  unfold goodN
  rw [takeWhile_self _ _ hall]
  unfold signsOf
  rw [List.map_map]
  conv => rhs; rw [← List.map_id ns]
  exact List.map_congr_left fun n hm => hd n (hn n hm)

theorem nth_idx (ys : List Nat) (c : Nat) (h : isSign ys c = true) : nth ys (idxN ys c) = c := by
  have h : idxN ys c < ys.length := by simpa [isSign] using h
  unfold idxN at h ⊢
  have := List.findIdx_getElem (w := h)
  rw [nth_eq h]
  simpa using this
theorem signs_goodN (ys t : List Nat) (h : allSigns ys t = true) : signsOf ys (goodN ys t) = t := by
  have hall : ∀ x ∈ t, isSign ys x = true := List.all_eq_true.1 h
  unfold goodN signsOf
  rw [takeWhile_self _ _ hall, List.map_map]
  conv => rhs; rw [← List.map_id t]
  exact List.map_congr_left fun n hm => nth_idx ys n (hall n hm)

/-- Bytes, coded and read. -/
theorem back1 (to : Nat) (h1 : 1 ≤ to) (h8 : to ≤ 8) (ys : List Nat) (hl : ys.length = 2 ^ to) (hd : Dist ys) (l : List Nat) (hb : ∀ x ∈ l, x < 256) (hn : l.length ≤ 400) :
    readN to ys (signsOf ys (turnedN to l)) = (l, 0) := by
  obtain ⟨p, _, _, _, hlt⟩ := turned_val to h1 l hb
  obtain ⟨g1, g2⟩ := goodN_signs ys (turnedN to l) hd (fun x hx => by rw [hl]; exact hlt x hx)
  obtain ⟨r1, r2, r3⟩ := turned_read to h1 h8 l hb
  unfold readN readOk readEnd readOut
  rw [g1, g2, finAt_all, r1, r2]
  simp [r3, hn]
/-- A code, read and coded. -/
theorem back2 (to : Nat) (h1 : 1 ≤ to) (h8 : to ≤ 8) (ys : List Nat) (hl : ys.length = 2 ^ to) (t : List Nat) (h : (readN to ys t).2 = 0) :
    signsOf ys (turnedN to (readN to ys t).1) = t ∧ (readN to ys t).1.length ≤ 400 := by
  unfold readN at h ⊢
  by_cases hok : readOk to ys t = true
  · rw [if_pos hok]
    unfold readOk readEnd readOut at hok
    simp only [Bool.and_eq_true, decide_eq_true_eq, finAt_all] at hok
    obtain ⟨⟨⟨o1, o2⟩, o3⟩, o4⟩ := hok
    refine ⟨?_, o4⟩
    show signsOf ys (turnedN to (outs 8 to (0, 0) (goodN ys t))) = t
    rw [read_turned to h1 h8 _ (fun x hx => by rw [← hl]; exact goodN_lt ys t x hx) o2 o3, signs_goodN ys t o1]
  · rw [if_neg hok] at h
    simp at h

theorem decode_code (l : List Nat) (hb : ∀ x ∈ l, x < 256) (hn : l.length ≤ 400) : decodeN (codeN l).1 = (l, 0) := by
  unfold codeN; rw [if_pos hn]; exact back1 6 (by omega) (by omega) _ letters_len letters_dist l hb hn
theorem unpair_pairs (l : List Nat) (hb : ∀ x ∈ l, x < 256) (hn : l.length ≤ 400) : unpairN (pairsN l).1 = (l, 0) := by
  unfold pairsN; rw [if_pos hn]; exact back1 4 (by omega) (by omega) _ digits_len digits_dist l hb hn
theorem code_decode (t : List Nat) (h : (decodeN t).2 = 0) : codeN (decodeN t).1 = (t, 0) := by
  obtain ⟨h1, h2⟩ := back2 6 (by omega) (by omega) lettersN letters_len t h
  unfold codeN decodeN; rw [if_pos h2]; exact congrArg (fun x => (x, (0 : Int))) h1
theorem pairs_unpair (t : List Nat) (h : (unpairN t).2 = 0) : pairsN (unpairN t).1 = (t, 0) := by
  obtain ⟨h1, h2⟩ := back2 4 (by omega) (by omega) digitsN digits_len t h
  unfold pairsN unpairN; rw [if_pos h2]; exact congrArg (fun x => (x, (0 : Int))) h1

theorem turned_len (to : Nat) (h1 : 1 ≤ to) (l : List Nat) (hb : ∀ x ∈ l, x < 256) : (turnedN to l).length = (8 * l.length + (to - 1)) / to := by
  obtain ⟨p, hp, hlen, _, _⟩ := turned_val to h1 l hb
  have e : 8 * l.length + (to - 1) = to * (turnedN to l).length + (to - 1 - p) := by omega
  rw [e, Nat.mul_add_div (by omega), Nat.div_eq_of_lt (by omega)]; rfl

theorem signs_lt (ys ns : List Nat) (h : ∀ k, nth ys k < 128) : ∀ x ∈ signsOf ys ns, x < 256 := by
  intro x hx
  obtain ⟨n, _, rfl⟩ := List.mem_map.1 hx
  have := h n; omega
theorem code_lt (l : List Nat) : ∀ x ∈ (codeN l).1, x < 256 := by
  unfold codeN; split
  · exact signs_lt _ _ letters_lt
  · simp
theorem pairs_lt (l : List Nat) : ∀ x ∈ (pairsN l).1, x < 256 := by
  unfold pairsN; split
  · exact signs_lt _ _ digits_lt
  · simp
theorem read_lt (to : Nat) (ys t : List Nat) : ∀ x ∈ (readN to ys t).1, x < 256 := by
  unfold readN; split
  · exact outs_lt 8 to _ _
  · simp
theorem decode_lt (t : List Nat) : ∀ x ∈ (decodeN t).1, x < 256 := read_lt _ _ t
theorem unpair_lt (t : List Nat) : ∀ x ∈ (unpairN t).1, x < 256 := read_lt _ _ t

theorem unpair_errno (l : List Nat) : (unpairN l).2 = 0 ∨ (unpairN l).2 = 30 := by
  unfold unpairN readN; split <;> simp

/-- The bytes that 'cut' leaves. -/
def cutS (s : ByteArray) : ByteArray := s.extract 0 (min s.size 410)
theorem cutS_size (s : ByteArray) : (cutS s).size ≤ 410 := by unfold cutS; rw [ByteArray.size_extract]; omega

set_option maxHeartbeats 400000 in
theorem cut_any (s : ByteArray) (w : World) (hs : s.size ≤ 9223372036854775807) : Calls Try.prog 11 #[.string s] w fun e w' => e = .returned (.string (cutS s)) ∧ w' = w := by
  have e : (min (s.size : Int) 410).toNat = min s.size 410 := by omega
  have H := Lib.hid e
  clear e
  go_enter Try.func11, Try.ntmps11
  go_wp2
  go_ret
  refine ⟨?_, rfl⟩
  unfold cutS
  rw [← H.out]
  rfl

theorem shown1 : codeN [255, 254] = ([95, 95, 52], 0) := by decide
theorem shown2 : pairsN [255, 254] = ([102, 102, 102, 101], 0) := by decide
theorem shown3 : decodeN [95, 95, 53] = ([], 30) := by decide
set_option maxHeartbeats 1000000 in
theorem shown_any (w : World) : Calls Try.prog 9 #[] w fun e w' => e = .returned (.bool true) ∧ Same w w' := by
  have e1 : bytesN (⟨#[255, 254]⟩ : ByteArray) = [255, 254] := rfl
  have e2 : bytesN (⟨#[95, 95, 53]⟩ : ByteArray) = [95, 95, 53] := rfl
  have s1 : strN [95, 95, 52] = ⟨#[95, 95, 52]⟩ := rfl
  have s2 : strN [102, 102, 102, 101] = ⟨#[102, 102, 102, 101]⟩ := rfl
  have c1 := fun w => code_any (⟨#[255, 254]⟩ : ByteArray) w (by decide)
  have c2 := fun w => pairs_any (⟨#[255, 254]⟩ : ByteArray) w (by decide)
  have c3 := fun w => decode_any (⟨#[95, 95, 53]⟩ : ByteArray) w (by decide)
  simp only [e1, e2, shown1, shown2, shown3, two, s1, s2] at c1 c2 c3
  go_enter Try.func9, Try.ntmps9
  go_wp2_with (first
    | (go_at_call 10; refine (c1 _).mono ?_; rintro e w1 ⟨rfl, hk1⟩)
    | (go_at_call 13; refine (c2 _).mono ?_; rintro e w2 ⟨rfl, hk2⟩)
    | (go_at_call 12; refine (c3 _).mono ?_; rintro e w3 ⟨rfl, hk3⟩))
  go_ret
  exact ⟨rfl, (hk1.trans hk2).trans hk3⟩
end Go.Tm
