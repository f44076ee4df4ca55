/-
  Bits fed in pieces of one size and taken in pieces of another one: nothing is lost, and the way back is the way.
-/
import Derived.Test.YtkolfdcojhglpaaB64Calls
set_option linter.unusedVariables false
namespace Go.Tm

/-- A list's value: its numbers of k bits each, the first one's the highest. -/
def val (k : Nat) (v : Nat) (l : List Nat) : Nat := l.foldl (fun v x => v * 2 ^ k + x) v

theorem val_nil (k v : Nat) : val k v [] = v := rfl
theorem val_cons (k v x : Nat) (l : List Nat) : val k v (x :: l) = val k (v * 2 ^ k + x) l := rfl
theorem val_append (k v : Nat) (l m : List Nat) : val k v (l ++ m) = val k (val k v l) m := by simp [val]
theorem val_pow (k : Nat) : ∀ (l : List Nat) (v : Nat), val k v l = v * 2 ^ (k * l.length) + val k 0 l
  | [], v => by simp [val]
  | x :: l, v => by
    rw [val_cons, val_cons, val_pow k l (v * 2 ^ k + x), val_pow k l (0 * 2 ^ k + x), List.length_cons, Nat.mul_succ, Nat.pow_add, Nat.add_mul, Nat.add_mul, Nat.zero_mul, Nat.zero_mul, Nat.mul_assoc, Nat.mul_comm (2 ^ k)]
    omega
theorem pair_inj (k u v x y : Nat) (hx : x < 2 ^ k) (hy : y < 2 ^ k) (h : u * 2 ^ k + x = v * 2 ^ k + y) : u = v ∧ x = y := by
  have h1 : (u * 2 ^ k + x) / 2 ^ k = u := by rw [Nat.mul_comm, Nat.mul_add_div (Nat.two_pow_pos _), Nat.div_eq_of_lt hx]; rfl
  have h2 : (v * 2 ^ k + y) / 2 ^ k = v := by rw [Nat.mul_comm, Nat.mul_add_div (Nat.two_pow_pos _), Nat.div_eq_of_lt hy]; rfl
  have : u = v := by rw [← h1, ← h2, h]
  subst this
  exact ⟨rfl, by omega⟩
theorem val_inj (k : Nat) : ∀ (l m : List Nat) (u v : Nat), (∀ x ∈ l, x < 2 ^ k) → (∀ x ∈ m, x < 2 ^ k) → l.length = m.length → val k u l = val k v m → u = v ∧ l = m
  | [], [], u, v, _, _, _, h => ⟨h, rfl⟩
  | [], _ :: _, _, _, _, _, h, _ => by simp at h
  | _ :: _, [], _, _, _, _, h, _ => by simp at h
  | x :: l, y :: m, u, v, hx, hy, hl, h => by
    obtain ⟨h1, rfl⟩ := val_inj k l m _ _ (fun z hz => hx z (List.mem_cons_of_mem _ hz)) (fun z hz => hy z (List.mem_cons_of_mem _ hz)) (by simpa using hl) h
    obtain ⟨rfl, rfl⟩ := pair_inj k u v x y (hx x (List.mem_cons_self ..)) (hy y (List.mem_cons_self ..)) h1
    exact ⟨rfl, rfl⟩

theorem digit_val (to n c : Nat) (hn : n < 2 ^ c) : ∀ m, m * to ≤ c → val to 0 ((List.range m).map fun j => (n % 2 ^ (c - j * to)) / 2 ^ (c - (j + 1) * to)) = n / 2 ^ (c - m * to)
  | 0, _ => by simp [val, Nat.div_eq_of_lt hn]
  | m + 1, h => by
    have h' : m * to + to ≤ c := by rw [Nat.succ_mul] at h; exact h
    rw [List.range_succ, List.map_append, val_append, digit_val to n c hn m (by omega)]
    simp only [List.map_cons, List.map_nil, val_cons, val_nil]
    have e : c - m * to = (c - (m + 1) * to) + to := by rw [Nat.succ_mul]; omega
    rw [e]
    generalize c - (m + 1) * to = d
    have h1 : n / 2 ^ (d + to) = n / 2 ^ d / 2 ^ to := by rw [Nat.pow_add, Nat.div_div_eq_div_mul]
    have h2 : n % 2 ^ (d + to) / 2 ^ d = n / 2 ^ d % 2 ^ to := by
      rw [Nat.pow_add, Nat.mod_mul_right_div_self]
    rw [h1, h2, Nat.mul_comm]
    exact Nat.div_add_mod _ _

theorem outs1_val (to : Nat) (s : St) (hs : s.1 < 2 ^ s.2) : val to 0 (outs1 to s) * 2 ^ (rest1 to s).2 + (rest1 to s).1 = s.1 := by
  have h1 := digit_val to s.1 s.2 hs (s.2 / to) (Nat.div_mul_le_self _ _)
  have h2 : s.2 - s.2 / to * to = s.2 % to := by
    have := Nat.div_add_mod s.2 to
    rw [Nat.mul_comm] at this
    omega
  rw [h2] at h1
  show val to 0 ((List.range (s.2 / to)).map _) * 2 ^ (s.2 % to) + s.1 % 2 ^ (s.2 % to) = s.1
  rw [h1, Nat.mul_comm]
  exact Nat.div_add_mod _ _

theorem rest1_lt (to : Nat) (s : St) : (rest1 to s).1 < 2 ^ (rest1 to s).2 := Nat.mod_lt _ (Nat.two_pow_pos _)

theorem outs_val (to fr : Nat) : ∀ (xs : List Nat) (s : St), s.1 < 2 ^ s.2 → (∀ x ∈ xs, x < 2 ^ fr) → val fr s.1 xs = val to 0 (outs to fr s xs) * 2 ^ (fin to fr s xs).2 + (fin to fr s xs).1
  | [], s, _, _ => by simp [outs, fin, val]
  | x :: xs, s, hs, hx => by
    have hf : (feed fr s x).1 < 2 ^ (feed fr s x).2 := by
      have h6 := hx x (List.mem_cons_self ..)
      have h7 : s.1 * 2 ^ fr + 2 ^ fr ≤ 2 ^ s.2 * 2 ^ fr := by rw [← Nat.succ_mul]; exact Nat.mul_le_mul_right _ (by omega)
      show s.1 * 2 ^ fr + x < 2 ^ (s.2 + fr)
      rw [Nat.pow_add]; omega
    have h1 := outs1_val to (feed fr s x) hf
    have ih := outs_val to fr xs (rest1 to (feed fr s x)) (rest1_lt to _) (fun z hz => hx z (List.mem_cons_of_mem _ hz))
    have hl := outs_len to fr (rest1 to (feed fr s x)) xs
    have e : s.1 * 2 ^ fr + x = (feed fr s x).1 := rfl
    simp only [outs, fin]
    rw [val_cons, e, ← h1, val_append]
    generalize rest1 to (feed fr s x) = r at *
    generalize val to 0 (outs1 to (feed fr s x)) = V at *
    rw [val_pow fr xs (V * 2 ^ r.2 + r.1), val_pow to _ V]
    rw [val_pow fr xs r.1] at ih
    generalize (fin to fr r xs) = f at *
    generalize hO : outs to fr r xs = O at *
    have e2 : r.2 + fr * xs.length = to * O.length + f.2 := by rw [← hl, Nat.mul_comm to]
    have e3 : 2 ^ r.2 * 2 ^ (fr * xs.length) = 2 ^ (to * O.length) * 2 ^ f.2 := by rw [← Nat.pow_add, e2, Nat.pow_add]
    rw [Nat.add_mul, Nat.add_mul, Nat.mul_assoc, e3, Nat.mul_assoc, Nat.add_assoc, ih, Nat.add_assoc]

theorem finAt_all (to fr : Nat) (xs : List Nat) : finAt to fr xs xs.length = fin to fr (0, 0) xs := by simp [finAt]

/-- What the filled-up pieces are worth. -/
theorem turned_val (to : Nat) (h1 : 1 ≤ to) (l : List Nat) (hl : ∀ x ∈ l, x < 256) :
    ∃ p, p < to ∧ to * (turnedN to l).length = 8 * l.length + p ∧ val to 0 (turnedN to l) = val 8 0 l * 2 ^ p ∧ ∀ x ∈ turnedN to l, x < 2 ^ to := by
  have hok := finAt_ok to 8 l h1 l.length (Nat.le_refl _)
  have hv := outs_val to 8 l (0, 0) (by simp) hl
  have hn := outs_len to 8 (0, 0) l
  have hlt := outs_lt to 8 (0, 0) l
  unfold turnedN
  rw [finAt_all] at hok ⊢
  generalize fin to 8 (0, 0) l = f at *
  generalize outs to 8 (0, 0) l = O at *
  simp only at hv hn
  by_cases hc : 0 < f.2
  · rw [if_pos hc]
    refine ⟨to - f.2, by omega, ?_, ?_, ?_⟩
    · rw [List.length_append, List.length_cons, List.length_nil, Nat.mul_add, Nat.mul_comm]; omega
    · rw [val_append, val_cons, val_nil, hv, Nat.add_mul, Nat.mul_assoc, ← Nat.pow_add, show f.2 + (to - f.2) = to by omega]
    · intro x hx
      rcases List.mem_append.1 hx with hx | hx
      · exact hlt x hx
      · obtain rfl : x = _ := by simpa using hx
        have e : to = f.2 + (to - f.2) := by omega
        conv => rhs; rw [e, Nat.pow_add]
        exact Nat.mul_lt_mul_of_pos_right hok.2 (Nat.two_pow_pos _)
  · have hf : f.2 = 0 := by omega
    rw [if_neg hc, List.append_nil]
    have h0 : f.1 = 0 := by have := hok.2; rw [hf] at this; omega
    refine ⟨0, by omega, ?_, ?_, hlt⟩
    · rw [Nat.mul_comm]; omega
    · rw [hv, hf, h0]; simp

theorem mul_lt_unique {a p q x y : Nat} (hp : p < a) (hq : q < a) (h : a * x + p = a * y + q) : x = y ∧ p = q := by
  have h1 : (a * x + p) / a = x := by rw [Nat.mul_add_div (by omega), Nat.div_eq_of_lt hp]; rfl
  have h2 : (a * y + q) / a = y := by rw [Nat.mul_add_div (by omega), Nat.div_eq_of_lt hq]; rfl
  have : x = y := by rw [← h1, ← h2, h]
  subst this
  exact ⟨rfl, by omega⟩

/-- Bytes, turned, and read back. -/
theorem turned_read (to : Nat) (h1 : 1 ≤ to) (h8 : to ≤ 8) (l : List Nat) (hl : ∀ x ∈ l, x < 256) :
    outs 8 to (0, 0) (turnedN to l) = l ∧ (fin 8 to (0, 0) (turnedN to l)).1 = 0 ∧ (fin 8 to (0, 0) (turnedN to l)).2 < to := by
  obtain ⟨p, hp, hlen, hval, hlt⟩ := turned_val to h1 l hl
  generalize turnedN to l = ns at *
  have hv := outs_val 8 to ns (0, 0) (by simp) hlt
  have hn := outs_len 8 to (0, 0) ns
  have ho := outs_lt 8 to (0, 0) ns
  have hok := finAt_ok 8 to ns (by omega) ns.length (Nat.le_refl _)
  rw [finAt_all] at hok
  generalize fin 8 to (0, 0) ns = f at *
  generalize outs 8 to (0, 0) ns = O at *
  simp only at hv hn
  obtain ⟨h3, h4⟩ := mul_lt_unique (a := 8) (x := O.length) (y := l.length) (p := f.2) (q := p) hok.1 (by omega) (by omega)
  subst h4
  have h5 : val 8 0 O * 2 ^ f.2 + f.1 = val 8 0 l * 2 ^ f.2 + 0 := by rw [← hv, hval, Nat.add_zero]
  obtain ⟨h6, h7⟩ := pair_inj f.2 _ _ _ _ hok.2 (Nat.two_pow_pos _) h5
  exact ⟨(val_inj 8 O l 0 0 ho hl h3 h6).2, h7, hp⟩

/-- Pieces, read, and turned back. -/
theorem read_turned (to : Nat) (h1 : 1 ≤ to) (h8 : to ≤ 8) (ns : List Nat) (hns : ∀ x ∈ ns, x < 2 ^ to) (hz : (fin 8 to (0, 0) ns).1 = 0) (hc : (fin 8 to (0, 0) ns).2 < to) :
    turnedN to (outs 8 to (0, 0) ns) = ns := by
  have hv := outs_val 8 to ns (0, 0) (by simp) hns
  have hn := outs_len 8 to (0, 0) ns
  have ho := outs_lt 8 to (0, 0) ns
  generalize fin 8 to (0, 0) ns = f at *
  generalize outs 8 to (0, 0) ns = O at *
  simp only at hv hn
  obtain ⟨p, hp, hlen, hval, hlt⟩ := turned_val to h1 O ho
  obtain ⟨h3, h4⟩ := mul_lt_unique (a := to) (x := (turnedN to O).length) (y := ns.length) (p := f.2) (q := p) hc hp (by omega)
  subst h4
  refine (val_inj to _ ns 0 0 hlt hns h3 ?_).2
  rw [hval, hv, hz, Nat.add_zero]

#print axioms turned_read
#print axioms read_turned
end Go.Tm
