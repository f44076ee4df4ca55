/-
  b64's five functions: what each hands back, and that nothing that lay there is touched.
-/
import Derived.Test.YtkolfdcojhglpaaB64Digits
import Derived.Test.YtkolfdcojhglpaaB64Read
set_option linter.unusedVariables false
namespace Go.Tm
open Go.RowKit Go.Proofs

theorem letters_len : lettersN.length = 2 ^ 6 := by decide
theorem letters_lt (k : Nat) : nth lettersN k < 128 := nth_lt_of _ 128 (by omega) (by decide) k
theorem digits_lt (k : Nat) : nth digitsN k < 128 := nth_lt_of _ 128 (by omega) (by decide) k

/-- What Code, Decode, Pairs, Unpair hand back. -/
def codeN (l : List Nat) : List Nat × Int := if l.length ≤ 400 then (signsOf lettersN (turnedN 6 l), 0) else ([], 30)
def pairsN (l : List Nat) : List Nat × Int := if l.length ≤ 400 then (signsOf digitsN (turnedN 4 l), 0) else ([], 30)
def decodeN (l : List Nat) : List Nat × Int := readN 6 lettersN l
def unpairN (l : List Nat) : List Nat × Int := readN 4 digitsN l

def two (r : List Nat × Int) : Value := .tuple #[.string (strN r.1), .int .i64 r.2]

theorem letters_at {w : World} {b : Nat} (h : w.heap[b]? = some (.cells (arrAt 64) 29 (0, 0))) : BytesAt w b 0 lettersN := by
  intro k hk
  have hk : k < 64 := by simpa [lettersN] using hk
  have e : (⟨b, 0 + k, none⟩ : Addr) = ⟨b, k, none⟩ := by simp
  rw [e, Lib.cell_of_heap h, arrAt_get _ _ hk]
  simp [nth, lettersN, hk]

theorem digits_len : digitsN.length = 2 ^ 4 := by decide

set_option maxHeartbeats 1000000 in
theorem pairs_any (s : ByteArray) (w : World) (hs : s.size ≤ 1073741824) : Calls Try.prog 13 #[.string s] w fun e w' => e = .returned (two (pairsN (bytesN s))) ∧ Same w w' := by
  have hsz := bytesN_length s
  by_cases h : s.size ≤ 400
  · have hp : pairsN (bytesN s) = (signsOf digitsN (turnedN 4 (bytesN s)), 0) := by unfold pairsN; rw [if_pos (by omega)]
    clear hsz
    go_enter Try.func13, Try.ntmps13
    go_wp2_with (first
      | (go_at_call 23; refine (digits_any _).mono ?_; rintro e w1 ⟨rfl, hk1, hB1, hlt1⟩)
      | (go_at_call 21; refine (turned_any s 4 w.heap.size 0 16 digitsN w1 (by omega) (by omega) (Lib.hid digits_len) hs hB1 hlt1 (fun k => by have := digits_lt k; omega)).mono ?_; rintro e w2 ⟨rfl, hk2⟩))
    try simp only [Exit.inBlock, Exit.then]
    refine bodyPost_ret (results_tmp2 rfl _ _ _) rfl ?_
    exact ⟨by rw [hp]; rfl, hk1.trans hk2⟩
  · have hp : pairsN (bytesN s) = ([], 30) := by unfold pairsN; rw [if_neg (by omega)]
    clear hsz
    go_enter Try.func13, Try.ntmps13
    go_wp2
    try simp only [Exit.inBlock, Exit.then]
    refine bodyPost_ret (results_tmp2 rfl _ _ _) rfl ?_
    exact ⟨by rw [hp]; rfl, Keep.refl _ _⟩

set_option maxHeartbeats 1000000 in
theorem unpair_any (s : ByteArray) (w : World) (hs : s.size ≤ 1073741824) : Calls Try.prog 15 #[.string s] w fun e w' => e = .returned (two (unpairN (bytesN s))) ∧ Same w w' := by
  go_enter Try.func15, Try.ntmps15
  go_wp2_with (first
    | (go_at_call 23; refine (digits_any _).mono ?_; rintro e w1 ⟨rfl, hk1, hB1, hlt1⟩)
    | (go_at_call 22; refine (read_any s 4 w.heap.size 0 16 digitsN w1 (by omega) (by omega) (Lib.hid digits_len) digits_lt (by decide) hs hB1 hlt1).mono ?_; rintro e w2 ⟨rfl, hk2⟩))
  try simp only [Exit.inBlock, Exit.then]
  refine bodyPost_ret (results_tmp2 rfl _ _ _) rfl ?_
  exact ⟨rfl, hk1.trans hk2⟩

set_option maxHeartbeats 1000000 in
theorem decode_any (s : ByteArray) (w : World) (hs : s.size ≤ 1073741824) : Calls Try.prog 12 #[.string s] w fun e w' => e = .returned (two (decodeN (bytesN s))) ∧ Same w w' := by
  go_enter Try.func12, Try.ntmps12
  go_wp2_with (first
    | (go_at_call 20; refine (letters_any _).mono ?_; rintro e w1 ⟨rfl, hk1⟩)
    | (refine wpList_store_row rfl 29 _ _ rfl w1.heap.size (arrAt 64) rfl rfl 29 (arrAt 0) (heap_alloc_last _ _) (by rw [arr_info, arrAt_size]) (by rw [arrAt_size, arrAt_size]) (arr_agg 64) ?_; rw [World.setRow_alloc_new])
    | (go_at_call 22; refine (read_any s 6 w1.heap.size 0 64 lettersN _ (by omega) (by omega) (Lib.hid letters_len) letters_lt (by decide) hs (letters_at (heap_alloc_last _ _)) (by simp)).mono ?_; rintro e w2 ⟨rfl, hk2⟩))
  try simp only [Exit.inBlock, Exit.then]
  refine bodyPost_ret (results_tmp2 rfl _ _ _) rfl ?_
  exact ⟨rfl, (hk1.alloc _).trans hk2⟩

set_option maxHeartbeats 1000000 in
theorem code_any (s : ByteArray) (w : World) (hs : s.size ≤ 1073741824) : Calls Try.prog 10 #[.string s] w fun e w' => e = .returned (two (codeN (bytesN s))) ∧ Same w w' := by
  have hsz := bytesN_length s
  by_cases h : s.size ≤ 400
  · have hp : codeN (bytesN s) = (signsOf lettersN (turnedN 6 (bytesN s)), 0) := by unfold codeN; rw [if_pos (by omega)]
    clear hsz
    go_enter Try.func10, Try.ntmps10
    go_wp2_with (first
      | (go_at_call 20; refine (letters_any _).mono ?_; rintro e w1 ⟨rfl, hk1⟩)
      | (refine wpList_store_row rfl 29 _ _ rfl w1.heap.size (arrAt 64) rfl rfl 29 (arrAt 0) (heap_alloc_last _ _) (by rw [arr_info, arrAt_size]) (by rw [arrAt_size, arrAt_size]) (arr_agg 64) ?_; rw [World.setRow_alloc_new])
      | (go_at_call 21; refine (turned_any s 6 w1.heap.size 0 64 lettersN _ (by omega) (by omega) (Lib.hid letters_len) hs (letters_at (heap_alloc_last _ _)) (by simp) (fun k => by have := letters_lt k; omega)).mono ?_; rintro e w2 ⟨rfl, hk2⟩))
    try simp only [Exit.inBlock, Exit.then]
    refine bodyPost_ret (results_tmp2 rfl _ _ _) rfl ?_
    exact ⟨by rw [hp]; rfl, (hk1.alloc _).trans hk2⟩
  · have hp : codeN (bytesN s) = ([], 30) := by unfold codeN; rw [if_neg (by omega)]
    clear hsz
    go_enter Try.func10, Try.ntmps10
    go_wp2
    try simp only [Exit.inBlock, Exit.then]
    refine bodyPost_ret (results_tmp2 rfl _ _ _) rfl ?_
    exact ⟨by rw [hp]; rfl, Keep.refl _ _⟩

theorem decode_errno (l : List Nat) : (decodeN l).2 = 0 ∨ (decodeN l).2 = 30 := by
  unfold decodeN readN; split <;> simp

set_option maxHeartbeats 1000000 in
theorem iscode_any (s : ByteArray) (w : World) (hs : s.size ≤ 1073741824) : Calls Try.prog 19 #[.string s] w fun e w' => e = .returned (.bool ((decodeN (bytesN s)).2 == 0)) ∧ Same w w' := by
  go_enter Try.func19, Try.ntmps19
  go_wp2_with (go_at_call 12; refine (decode_any s _ hs).mono ?_; rintro e w1 ⟨rfl, hk1⟩; unfold two)
  go_ret
  exact ⟨by simp, hk1⟩

#print axioms pairs_any
#print axioms unpair_any
#print axioms decode_any
#print axioms code_any
#print axioms iscode_any
end Go.Tm
