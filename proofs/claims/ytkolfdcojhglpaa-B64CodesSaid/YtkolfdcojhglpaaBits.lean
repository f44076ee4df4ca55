/-
  Bits that are fed in pieces of one size and taken in pieces of another one: plain lists of numbers.
-/
import Derived.Test.YtkolfdcojhglpaaBase
namespace Go.Tm

/-- What waits, and how many bits it has. -/
abbrev St := Nat × Nat
def feed (fr : Nat) (s : St) (x : Nat) : St := (s.1 * 2 ^ fr + x, s.2 + fr)
def outs1 (to : Nat) (s : St) : List Nat := (List.range (s.2 / to)).map fun j => (s.1 % 2 ^ (s.2 - j * to)) / 2 ^ (s.2 - (j + 1) * to)
def rest1 (to : Nat) (s : St) : St := (s.1 % 2 ^ (s.2 % to), s.2 % to)
def outs (to fr : Nat) : St → List Nat → List Nat
  | _, [] => []
  | s, x :: xs => outs1 to (feed fr s x) ++ outs to fr (rest1 to (feed fr s x)) xs
def fin (to fr : Nat) : St → List Nat → St
  | s, [] => s
  | s, x :: xs => fin to fr (rest1 to (feed fr s x)) xs

theorem outs_append (to fr : Nat) : ∀ (s : St) (xs ys : List Nat), outs to fr s (xs ++ ys) = outs to fr s xs ++ outs to fr (fin to fr s xs) ys
  | _, [], _ => rfl
  | s, x :: xs, ys => by simp [outs, fin, outs_append to fr _ xs ys]
theorem fin_append (to fr : Nat) : ∀ (s : St) (xs ys : List Nat), fin to fr s (xs ++ ys) = fin to fr (fin to fr s xs) ys
  | _, [], _ => rfl
  | s, x :: xs, ys => by simp [fin, fin_append to fr _ xs ys]
theorem outs1_length (to : Nat) (s : St) : (outs1 to s).length = s.2 / to := by simp [outs1]

/-- Behind i elements. -/
def outsAt (to fr : Nat) (xs : List Nat) (i : Nat) : Nat := (outs to fr (0, 0) (xs.take i)).length
def finAt (to fr : Nat) (xs : List Nat) (i : Nat) : St := fin to fr (0, 0) (xs.take i)

theorem take_nth (xs : List Nat) (i : Nat) (h : i < xs.length) : xs.take (i + 1) = xs.take i ++ [nth xs i] := by
  rw [List.take_succ_eq_append_getElem h]; simp [nth, h]

theorem finAt_succ (to fr : Nat) (xs : List Nat) (i : Nat) (h : i < xs.length) : finAt to fr xs (i + 1) = rest1 to (feed fr (finAt to fr xs i) (nth xs i)) := by
  simp [finAt, take_nth xs i h, fin_append, fin]
theorem outsAt_succ (to fr : Nat) (xs : List Nat) (i : Nat) (h : i < xs.length) : outsAt to fr xs (i + 1) = outsAt to fr xs i + ((finAt to fr xs i).2 + fr) / to := by
  simp [outsAt, finAt, take_nth xs i h, outs_append, outs, outs1_length, feed]
theorem outsAt_all (to fr : Nat) (xs : List Nat) : outsAt to fr xs xs.length = (outs to fr (0, 0) xs).length := by simp [outsAt]
theorem outsAt_le (to fr : Nat) (xs : List Nat) (i : Nat) (h : i < xs.length) : outsAt to fr xs i + ((finAt to fr xs i).2 + fr) / to ≤ (outs to fr (0, 0) xs).length := by
  rw [← outsAt_succ to fr xs i h]
  have : xs = xs.take (i + 1) ++ xs.drop (i + 1) := (List.take_append_drop _ _).symm
  conv => rhs; rw [this, outs_append]
  simp [outsAt]

/-- The j-th piece that the i-th element gives. -/
theorem nth_outs (to fr : Nat) (xs : List Nat) (i j : Nat) (h : i < xs.length) (hj : j < ((finAt to fr xs i).2 + fr) / to) :
    nth (outs to fr (0, 0) xs) (outsAt to fr xs i + j) =
      ((finAt to fr xs i).1 * 2 ^ fr + nth xs i) % 2 ^ ((finAt to fr xs i).2 + fr - j * to) / 2 ^ ((finAt to fr xs i).2 + fr - (j + 1) * to) := by
  have e : xs = xs.take i ++ (nth xs i :: xs.drop (i + 1)) := by
    conv => lhs; rw [← List.take_append_drop i xs, List.drop_eq_getElem_cons h]
    simp [nth, h]
  have e2 : outs to fr (0, 0) xs = outs to fr (0, 0) (xs.take i) ++ (outs1 to (feed fr (finAt to fr xs i) (nth xs i)) ++ outs to fr (rest1 to (feed fr (finAt to fr xs i) (nth xs i))) (xs.drop (i + 1))) := by
    conv => lhs; rw [e, outs_append]
    rfl
  unfold nth at *
  rw [e2]
  rw [List.getD_eq_getElem?_getD, List.getElem?_append_right (by unfold outsAt; omega), List.getElem?_append_left (by rw [outs1_length]; unfold outsAt; simp [feed]; omega)]
  simp only [outsAt, outs1, feed, List.getElem?_map]
  rw [show (outs to fr (0, 0) (xs.take i)).length + j - (outs to fr (0, 0) (xs.take i)).length = j by omega]
  rw [List.getElem?_range (by simpa using hj)]
  rfl

theorem rest1_ok (to : Nat) (s : St) (h : 1 ≤ to) : (rest1 to s).2 < to ∧ (rest1 to s).1 < 2 ^ (rest1 to s).2 :=
  ⟨Nat.mod_lt _ (by omega), Nat.mod_lt _ (Nat.two_pow_pos _)⟩
theorem finAt_ok (to fr : Nat) (xs : List Nat) (h : 1 ≤ to) : ∀ i, i ≤ xs.length → (finAt to fr xs i).2 < to ∧ (finAt to fr xs i).1 < 2 ^ (finAt to fr xs i).2
  | 0, _ => by simp [finAt, fin]; omega
  | i + 1, hi => by rw [finAt_succ to fr xs i (by omega)]; exact rest1_ok to _ h

theorem outs_len (to fr : Nat) : ∀ (s : St) (xs : List Nat), (outs to fr s xs).length * to + (fin to fr s xs).2 = s.2 + fr * xs.length
  | s, [] => by simp [outs, fin]
  | s, x :: xs => by
    have ih := outs_len to fr (rest1 to (feed fr s x)) xs
    simp only [outs, fin, List.length_append, outs1_length, List.length_cons, Nat.add_mul, Nat.mul_add] at ih ⊢
    have h1 : (rest1 to (feed fr s x)).2 = (s.2 + fr) % to := rfl
    have h2 : (feed fr s x).2 = s.2 + fr := rfl
    have h3 := Nat.div_add_mod (s.2 + fr) to
    rw [Nat.mul_comm] at h3
    rw [h1] at ih
    rw [h2]
    omega

end Go.Tm
