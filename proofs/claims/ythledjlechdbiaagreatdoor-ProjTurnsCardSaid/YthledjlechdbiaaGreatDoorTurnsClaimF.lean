/-
  Part 6 of what the claim leans on: contracts of the functions that the law reaches, and plain facts of what they compute (joined by wip/merge.py out of the texts named behind each mark). Conditions: the theorems' own.
-/
import Derived.MapKept
import Derived.Lib.ItoaLen
import Derived.Test.YthledjlechdbiaaGreatDoorTurnsClaimE

set_option linter.unusedVariables false
namespace Go.Tm
open Go.Sort
def revP : List Tree → List Tree
  | k :: x :: l => revP l ++ [k, x]
  | _ => []
mutual
def Tree.turn : Tree → Tree
  | .node h l => .node h (if h.kind = 8 ∧ l.length % 2 = 0 then revP (turnL l) else turnL l)
def turnL : List Tree → List Tree
  | [] => []
  | x :: l => x.turn :: turnL l
end
theorem turn_hd (t : Tree) : t.turn.hd = t.hd := by cases t; rw [Tree.turn]; rfl
theorem turnL_map : ∀ l : List Tree, turnL l = l.map Tree.turn
  | [] => by rw [turnL]; rfl
  | x :: l => by rw [turnL, turnL_map l]; rfl
theorem turnL_len (l : List Tree) : (turnL l).length = l.length := by rw [turnL_map, List.length_map]
def unpairs (ps : List (Tree × Tree)) : List Tree := ps.flatMap fun p => [p.1, p.2]
theorem unpairs_cons (p : Tree × Tree) (ps : List (Tree × Tree)) : unpairs (p :: ps) = p.1 :: p.2 :: unpairs ps := rfl
theorem unpairs_append (a b : List (Tree × Tree)) : unpairs (a ++ b) = unpairs a ++ unpairs b := by simp [unpairs]
theorem even_pairs : ∀ l : List Tree, l.length % 2 = 0 → ∃ ps, l = unpairs ps
  | [], _ => ⟨[], rfl⟩
  | [_], h => by simp at h
  | k :: x :: l, h => by
    obtain ⟨ps, hp⟩ := even_pairs l (by simp at h; omega)
    exact ⟨(k, x) :: ps, by rw [unpairs_cons, ← hp]⟩
theorem unpairs_len (ps : List (Tree × Tree)) : (unpairs ps).length = 2 * ps.length := by
  induction ps with
  | nil => rfl
  | cons p ps ih => rw [unpairs_cons]; simp only [List.length_cons, ih]; omega
theorem revP_unpairs (ps : List (Tree × Tree)) : revP (unpairs ps) = unpairs ps.reverse := by
  induction ps with
  | nil => rfl
  | cons p ps ih => rw [unpairs_cons, revP, ih, List.reverse_cons, unpairs_append]; rfl
theorem keys_unpairs (ps : List (Tree × Tree)) : keysOf (unpairs ps) = ps.map Prod.fst := by
  induction ps with
  | nil => rfl
  | cons p ps ih => rw [unpairs_cons, keysOf, ih]; rfl
def turn2 (p : Tree × Tree) : Tree × Tree := (p.1.turn, p.2.turn)
theorem turnL_unpairs (ps : List (Tree × Tree)) : turnL (unpairs ps) = unpairs (ps.map turn2) := by
  induction ps with
  | nil => rw [unpairs, List.flatMap_nil, turnL]; rfl
  | cons p ps ih => rw [unpairs_cons, turnL, turnL, ih]; rfl
theorem turn_even {h : Hd} {ps : List (Tree × Tree)} (hk : h.kind = 8) : (Tree.node h (unpairs ps)).turn = .node h (unpairs (ps.map turn2).reverse) := by
  rw [Tree.turn, if_pos ⟨hk, by rw [unpairs_len]; omega⟩, turnL_unpairs, revP_unpairs]
theorem turn_odd {h : Hd} {l : List Tree} (hk : ¬ (h.kind = 8 ∧ l.length % 2 = 0)) : (Tree.node h l).turn = .node h (turnL l) := by
  rw [Tree.turn, if_neg hk]
theorem turn_cases (h : Hd) (l : List Tree) : ((Tree.node h l).turn = .node h (turnL l) ∧ (h.kind = 8 → l.length % 2 = 1)) ∨ ∃ ps, h.kind = 8 ∧ l = unpairs ps ∧ (Tree.node h l).turn = .node h (unpairs (ps.map turn2).reverse) := by
  by_cases hk : h.kind = 8 ∧ l.length % 2 = 0
  · obtain ⟨ps, hp⟩ := even_pairs l hk.2
    subst hp
    exact .inr ⟨ps, hk.1, rfl, turn_even hk.1⟩
  · exact .inl ⟨turn_odd hk, fun h8 => by have : ¬ l.length % 2 = 0 := fun h' => hk ⟨h8, h'⟩; omega⟩
theorem turn_len (t : Tree) : t.turn.l.length = t.l.length := by
  obtain ⟨h, l⟩ := t
  rcases turn_cases h l with ⟨e, _⟩ | ⟨ps, _, rfl, e⟩
  · rw [e]; exact turnL_len l
  · rw [e]; simp [unpairs_len]
theorem mem_unpairs {x : Tree} {ps : List (Tree × Tree)} : x ∈ unpairs ps ↔ ∃ p ∈ ps, x = p.1 ∨ x = p.2 := by simp [unpairs]
theorem turn_mem (t x : Tree) : x ∈ t.turn.l ↔ ∃ y ∈ t.l, x = y.turn := by
  obtain ⟨h, l⟩ := t
  rcases turn_cases h l with ⟨e, _⟩ | ⟨ps, _, rfl, e⟩
  · rw [e, Tree.l_node, Tree.l_node, turnL_map, List.mem_map]
    exact ⟨fun ⟨y, h1, h2⟩ => ⟨y, h1, h2.symm⟩, fun ⟨y, h1, h2⟩ => ⟨y, h1, h2.symm⟩⟩
  · rw [e, Tree.l_node, Tree.l_node, mem_unpairs]
    constructor
    · rintro ⟨p, hp, hx⟩
      obtain ⟨q, hq, rfl⟩ := List.mem_map.1 (List.mem_reverse.1 hp)
      rcases hx with rfl | rfl
      · exact ⟨q.1, mem_unpairs.2 ⟨q, hq, .inl rfl⟩, rfl⟩
      · exact ⟨q.2, mem_unpairs.2 ⟨q, hq, .inr rfl⟩, rfl⟩
    · rintro ⟨y, hy, rfl⟩
      obtain ⟨q, hq, hx⟩ := mem_unpairs.1 hy
      refine ⟨turn2 q, List.mem_reverse.2 (List.mem_map.2 ⟨q, hq, rfl⟩), ?_⟩
      rcases hx with rfl | rfl
      · exact .inl rfl
      · exact .inr rfl
theorem depthL_append : ∀ a b : List Tree, depthL (a ++ b) = max (depthL a) (depthL b)
  | [], b => by simp [depthL]
  | x :: a, b => by simp only [List.cons_append, depthL, depthL_append a b]; omega
theorem countL_append : ∀ a b : List Tree, countL (a ++ b) = countL a + countL b
  | [], b => by simp [countL]
  | x :: a, b => by simp only [List.cons_append, countL, countL_append a b]; omega
theorem depthL_rev (ps : List (Tree × Tree)) : depthL (unpairs ps.reverse) = depthL (unpairs ps) := by
  induction ps with
  | nil => rfl
  | cons p ps ih =>
    rw [List.reverse_cons, unpairs_append, depthL_append, ih, unpairs_cons]
    show max (depthL (unpairs ps)) (depthL [p.1, p.2]) = depthL (p.1 :: p.2 :: unpairs ps)
    simp only [depthL]
    omega
theorem countL_rev (ps : List (Tree × Tree)) : countL (unpairs ps.reverse) = countL (unpairs ps) := by
  induction ps with
  | nil => rfl
  | cons p ps ih =>
    rw [List.reverse_cons, unpairs_append, countL_append, ih, unpairs_cons]
    show  countL (unpairs ps) + (countL [p.1, p.2]) = countL (p.1 :: p.2 :: unpairs ps)
    simp only [countL]
    omega
mutual
theorem turn_depth : ∀ t : Tree, t.turn.depth = t.depth
  | .node h l => by
    have ih := turnL_depth l
    rcases turn_cases h l with ⟨e, _⟩ | ⟨ps, _, hl, e⟩
    · rw [e, Tree.depth, Tree.depth, ih]
    · rw [e, Tree.depth, Tree.depth, depthL_rev, ← turnL_unpairs, ← hl, ih]
theorem turnL_depth : ∀ l : List Tree, depthL (turnL l) = depthL l
  | [] => by rw [turnL]
  | x :: l => by rw [turnL, depthL, depthL, turn_depth x, turnL_depth l]
end
mutual
theorem turn_count : ∀ t : Tree, t.turn.count = t.count
  | .node h l => by
    have ih := turnL_count l
    rcases turn_cases h l with ⟨e, _⟩ | ⟨ps, _, hl, e⟩
    · rw [e, Tree.count, Tree.count, ih]
    · rw [e, Tree.count, Tree.count, countL_rev, ← turnL_unpairs, ← hl, ih]
theorem turnL_count : ∀ l : List Tree, countL (turnL l) = countL l
  | [] => by rw [turnL]
  | x :: l => by rw [turnL, countL, countL, turn_count x, turnL_count l]
end
mutual
theorem turn_turn : ∀ t : Tree, t.turn.turn = t
  | .node h l => by
    have ih := turnL_turnL l
    rcases turn_cases h l with ⟨e, ho⟩ | ⟨ps, hk, hl, e⟩
    · rw [e, turn_odd (fun h' => by rw [turnL_len] at h'; have := ho h'.1; omega), ih]
    · rw [e, turn_even hk, ← List.map_reverse, List.reverse_reverse, ← turnL_unpairs, ← turnL_unpairs, ← hl, ih]
theorem turnL_turnL : ∀ l : List Tree, turnL (turnL l) = l
  | [] => by rw [turnL, turnL]
  | x :: l => by rw [turnL, turnL, turn_turn x, turnL_turnL l]
end
theorem turn_inj {x y : Tree} (h : x.turn = y.turn) : x = y := by rw [← turn_turn x, h, turn_turn]
theorem mem_flatL {x : Tree} : ∀ {l : List Tree}, x ∈ flatL l ↔ ∃ k ∈ l, x ∈ k.flat
  | [] => by simp [flatL]
  | y :: l => by rw [flatL, List.mem_append, mem_flatL (l := l)]; simp
theorem flat_all (P : Tree → Prop) (t : Tree) : (∀ x ∈ t.flat, P x) ↔ P t ∧ ∀ k ∈ t.l, ∀ x ∈ k.flat, P x := by
  obtain ⟨h, l⟩ := t
  rw [Tree.flat, Tree.l_node]
  constructor
  · intro H
    exact ⟨H _ List.mem_cons_self, fun k hk x hx => H x (List.mem_cons_of_mem _ (mem_flatL.2 ⟨k, hk, hx⟩))⟩
  · rintro ⟨h1, h2⟩ x hx
    rcases List.mem_cons.1 hx with rfl | hx
    · exact h1
    · obtain ⟨k, hk, hx⟩ := mem_flatL.1 hx
      exact h2 k hk x hx
theorem turn_all (P : Tree → Prop) (hP : ∀ t, P t.turn ↔ P t) : ∀ t : Tree, (∀ x ∈ t.turn.flat, P x) ↔ ∀ x ∈ t.flat, P x := by
  refine Tree.ind fun h l ih => ?_
  rw [flat_all P (Tree.node h l).turn, flat_all P (Tree.node h l), hP]
  refine and_congr_right fun _ => ?_
  constructor
  · intro H k hk
    exact (ih k hk).1 (H k.turn ((turn_mem _ _).2 ⟨k, hk, rfl⟩))
  · intro H k hk
    obtain ⟨y, hy, rfl⟩ := (turn_mem _ _).1 hk
    exact (ih y hy).2 (H y hy)
theorem turn_flat_all (p : Tree → Bool) (hp : ∀ t, p t.turn = p t) (t : Tree) : t.turn.flat.all p = t.flat.all p := by
  rw [Bool.eq_iff_iff, List.all_eq_true, List.all_eq_true]
  exact turn_all (fun x => p x = true) (fun t => by rw [hp]) t
theorem checkFrom_eq (f : Int) (l : List Tree) (e : Int) : checkFrom f l e = if l.all ownT then (if l.all (fitsT f) then e else 61) else 60 := check_from f l e
theorem nodup_rev {α : Type} (l : List α) : l.reverse.Nodup ↔ l.Nodup := (List.reverse_perm l).nodup_iff
theorem twice_iff (l : List Tree) : isTwice l = false ↔ l.Nodup := by
  rw [List.nodup_iff_pairwise_ne, List.pairwise_iff_getElem]
  constructor
  · intro h i j hi hj hij e
    have : isTwice l = true := by
      unfold isTwice
      rw [List.any_eq_true]
      refine ⟨j, List.mem_range.2 hj, ?_⟩
      unfold twiceAt
      rw [List.getElem?_eq_getElem hj]
      simp only
      rw [List.any_eq_true]
      refine ⟨l[i], ?_, (same_iff _ _).2 e.symm⟩
      rw [List.mem_take_iff_getElem]
      exact ⟨i, by omega, rfl⟩
    rw [this] at h; cases h
  · intro h
    cases hh : isTwice l with
    | false => rfl
    | true =>
      unfold isTwice at hh
      rw [List.any_eq_true] at hh
      obtain ⟨j, hj, h2⟩ := hh
      have hj := List.mem_range.1 hj
      unfold twiceAt at h2
      rw [List.getElem?_eq_getElem hj] at h2
      simp only at h2
      rw [List.any_eq_true] at h2
      obtain ⟨y, hy, h3⟩ := h2
      rw [List.mem_take_iff_getElem] at hy
      obtain ⟨i, hi, rfl⟩ := hy
      exact absurd ((same_iff _ _).1 h3).symm (h i j (by omega) hj (by omega))
theorem keysOf_turnL : ∀ l : List Tree, keysOf (turnL l) = turnL (keysOf l)
  | [] => by rw [keysOf, turnL, keysOf]
  | [x] => by rw [turnL, turnL, keysOf, keysOf, turnL, turnL]
  | x :: y :: l => by rw [turnL, turnL, keysOf, keysOf, turnL, keysOf_turnL l]
theorem nodup_turnL (l : List Tree) : (turnL l).Nodup ↔ l.Nodup := by
  rw [turnL_map, List.nodup_iff_pairwise_ne, List.nodup_iff_pairwise_ne, List.pairwise_map]
  constructor
  · exact fun h => h.imp fun hne e => hne (by rw [e])
  · exact fun h => h.imp fun hne e => hne (turn_inj e)
theorem keys_turn (h : Hd) (l : List Tree) (hk : h.kind = 8) : isTwice (keysOf (Tree.node h l).turn.l) = isTwice (keysOf l) := by
  have : isTwice (keysOf (Tree.node h l).turn.l) = false ↔ isTwice (keysOf l) = false := by
    rw [twice_iff, twice_iff]
    rcases turn_cases h l with ⟨e, _⟩ | ⟨ps, _, rfl, e⟩
    · rw [e, Tree.l_node, keysOf_turnL, nodup_turnL]
    · rw [e, Tree.l_node, keys_unpairs, keys_unpairs, List.map_reverse, nodup_rev, List.map_map, show (Prod.fst ∘ turn2) = Tree.turn ∘ Prod.fst from rfl, ← List.map_map, ← turnL_map, nodup_turnL]
  cases h1 : isTwice (keysOf (Tree.node h l).turn.l) <;> cases h2 : isTwice (keysOf l) <;> simp_all
theorem isEmpty_len {α : Type} (l m : List α) (h : l.length = m.length) : l.isEmpty = m.isEmpty := by cases l <;> cases m <;> simp_all
theorem bareT_turn (t : Tree) (g : Hd) : bareT t.turn g = bareT t g := by
  unfold bareT
  rw [turn_hd, isEmpty_len _ _ (turn_len t)]
theorem own_turn (t : Tree) : ownT t.turn = ownT t := by
  obtain ⟨h, l⟩ := t
  have h1 := turn_len (.node h l)
  have h2 := turn_hd (.node h l)
  unfold ownT
  simp only [bareT_turn, h1, h2]
  by_cases hk : (Tree.node h l).hd.kind = 8
  · have := keys_turn h l hk
    simp only [Tree.l_node] at this ⊢
    rw [this]
  · simp only [if_neg hk]
theorem isKey_turn (f : Int) (t : Tree) : isKeyT f t.turn = isKeyT f t := by unfold isKeyT; rw [turn_hd]
theorem all_turnL (p : Tree → Bool) (hp : ∀ t, p t.turn = p t) (l : List Tree) : (turnL l).all p = l.all p := by
  rw [turnL_map, List.all_map]
  congr 1
  funext x
  exact hp x
theorem fits_turn (f : Int) (t : Tree) : fitsT f t.turn = fitsT f t := by
  obtain ⟨h, l⟩ := t
  have h2 := turn_hd (.node h l)
  have h3 : (keysOf (Tree.node h l).turn.l).all (isKeyT f) = (keysOf l).all (isKeyT f) := by
    rcases turn_cases h l with ⟨e, _⟩ | ⟨ps, _, rfl, e⟩
    · rw [e, Tree.l_node, keysOf_turnL, all_turnL _ (isKey_turn f)]
    · rw [e, Tree.l_node, keys_unpairs, keys_unpairs, List.map_reverse, List.all_reverse, List.map_map, show (Prod.fst ∘ turn2) = Tree.turn ∘ Prod.fst from rfl, ← List.map_map, ← turnL_map, all_turnL _ (isKey_turn f)]
  unfold fitsT
  simp only [h2, h3, Tree.l_node]
theorem check_turn (t : Tree) (f : Int) : checkT t.turn f = checkT t f := by
  unfold checkT
  rw [turn_depth, checkFrom_eq, checkFrom_eq, turn_flat_all ownT own_turn, turn_flat_all (fitsT f) (fits_turn f), show cnt64 t.turn = cnt64 t by unfold cnt64; rw [turn_count]]
theorem null_turn : (Tree.node (bareHd 1) []).turn = .node (bareHd 1) [] := by rw [turn_odd (by decide), turnL]
theorem zero_turn : (Tree.node (bareHd 0) []).turn = .node (bareHd 0) [] := by rw [turn_odd (by decide), turnL]
theorem render_turn (k : Tree) : renderM k.turn = renderM k := by
  have h1 : ownerT k.turn = (ownerT k).turn := by
    unfold ownerT
    rw [show [k, Tree.node (bareHd 1) []] = unpairs [(k, .node (bareHd 1) [])] from rfl, turn_even rfl]
    show _ = Tree.node (bareHd 8) [k.turn, (Tree.node (bareHd 1) []).turn]
    rw [null_turn]
  unfold renderM
  rw [h1, check_turn, turn_hd]
theorem nth_turn (l : List Tree) (i : Nat) : nthT (turnL l) i = (nthT l i).turn := by
  unfold nthT
  rw [turnL_map, List.getD_eq_getElem?_getD, List.getD_eq_getElem?_getD, List.getElem?_map]
  cases l[i]? with
  | none => exact zero_turn.symm
  | some x => rfl
theorem turn_l {t : Tree} (h : t.hd.kind ≠ 8) : t.turn.l = turnL t.l := by
  obtain ⟨hd, l⟩ := t
  rw [turn_odd (h := hd) (fun h' => h h'.1)]; rfl
theorem whole_turn (t : Tree) : wholeM t.turn = wholeM t := by
  unfold wholeM
  rw [turn_hd, turn_len]
  by_cases h3 : t.hd.kind = 3
  · rw [if_pos h3, if_pos h3]
  · rw [if_neg h3, if_neg h3]
    by_cases h9 : t.hd.kind = 9
    · rw [turn_l (by omega), nth_turn, turn_hd]
    · rw [if_pos (.inl h9), if_pos (.inl h9)]
theorem ofTag_turn {t : Tree} (h9 : t.hd.kind = 9) : ofTagM t.turn = ofTagM t := by
  unfold ofTagM
  rw [turn_hd, turn_len, turn_l (by omega), nth_turn, turn_hd, turn_len]
  by_cases h7 : (nthT t.l 0).hd.kind = 7
  · rw [turn_l (t := nthT t.l 0) (by omega), nth_turn, nth_turn]
    simp only [turn_hd, whole_turn]
  · rw [if_pos (.inr (.inr (.inl h7))), if_pos (.inr (.inr (.inl h7)))]
theorem decimal_turn (X : Hd → Dc × Bool) (t : Tree) : decimalM X t.turn = decimalM X t := by
  unfold decimalM
  rw [turn_hd]
  by_cases h9 : t.hd.kind = 9
  · rw [ofTag_turn h9]
  · simp only [if_neg h9]
def keyR (p : Tree × Tree) : ByteArray := (renderM p.1).1
def GoodP (seen : List ByteArray) (ps : List (Tree × Tree)) : Prop := (∀ p ∈ ps, (renderM p.1).2 = true ∧ keyR p ∉ seen) ∧ (ps.map keyR).Nodup
def maxN (l : List Nat) : Nat := l.foldr max 0
theorem maxN_append (a b : List Nat) : maxN (a ++ b) = max (maxN a) (maxN b) := by
  induction a with
  | nil => simp [maxN]
  | cons x a ih => simp only [List.cons_append, maxN, List.foldr_cons] at ih ⊢; rw [ih]; omega
theorem maxN_reverse (a : List Nat) : maxN a.reverse = maxN a := by
  induction a with
  | nil => rfl
  | cons x a ih => rw [List.reverse_cons, maxN_append, ih]; simp [maxN]; omega
theorem le_maxN {a : List Nat} {x : Nat} (h : x ∈ a) : x ≤ maxN a := by
  induction a with
  | nil => cases h
  | cons y a ih =>
    simp only [maxN, List.foldr_cons] at ih ⊢
    rcases List.mem_cons.1 h with rfl | h
    · omega
    · have := ih h; omega
variable (X : Hd → Dc × Bool)
def pairP (p : Tree × Tree) : ByteArray × Tree := (keyR p, (p.2.proj X).1)
theorem contB' (s : ByteArray) : ∀ l : List ByteArray, l.contains s = true ↔ s ∈ l
  | [] => by simp
  | x :: l => by
    rw [List.contains_cons, Bool.or_eq_true, contB' s l, List.mem_cons, MapKept.bytes_beq]
theorem projP_good : ∀ (ps : List (Tree × Tree)) (seen : List ByteArray), GoodP seen ps → projP X (unpairs ps) seen = (ps.map (pairP X), maxN (ps.map fun p => (p.2.proj X).2))
  | [], seen, _ => by
    rw [show unpairs [] = [] from rfl, projP]
    · rfl
    · intro k x l h; cases h
  | p :: ps, seen, ⟨h1, h2⟩ => by
    have hp := h1 p (by simp)
    rw [unpairs_cons, projP, if_neg (by rintro (h | h); rw [hp.1] at h; cases h; exact hp.2 ((contB' _ _).1 h))]
    rw [List.map_cons, List.nodup_cons] at h2
    have hg : GoodP (keyR p :: seen) ps := ⟨fun q hq => ⟨(h1 q (by simp [hq])).1, fun hm => by
      rcases List.mem_cons.1 hm with e | hm
      · exact h2.1 (List.mem_map.2 ⟨q, hq, e⟩)
      · exact (h1 q (by simp [hq])).2 hm⟩, h2.2⟩
    have := projP_good ps _ hg
    unfold keyR at this
    rw [this]
    rfl
theorem projP_bad : ∀ (ps : List (Tree × Tree)) (seen : List ByteArray), ¬ GoodP seen ps → (projP X (unpairs ps) seen).2 = 2
  | [], seen, h => absurd ⟨by simp, by simp⟩ h
  | p :: ps, seen, h => by
    have h1 := Tree.proj_le X p.2
    rw [unpairs_cons, projP]
    by_cases hc : (renderM p.1).2 = false ∨ seen.contains (renderM p.1).1
    · rw [if_pos hc]
      show max _ 2 = 2
      omega
    · rw [if_neg hc]
      have hr : (renderM p.1).2 = true := by
        cases hh : (renderM p.1).2 with
        | true => rfl
        | false => exact absurd (.inl hh) hc
      have hs : keyR p ∉ seen := fun hm => hc (.inr ((contB' _ _).2 hm))
      have hb := projP_bad ps (keyR p :: seen) fun hg => h ⟨fun q hq => by
        rcases List.mem_cons.1 hq with rfl | hq
        · exact ⟨hr, hs⟩
        · exact ⟨(hg.1 q hq).1, fun hm => (hg.1 q hq).2 (List.mem_cons_of_mem _ hm)⟩, by
        rw [List.map_cons, List.nodup_cons]
        refine ⟨fun hm => ?_, hg.2⟩
        obtain ⟨q, hq, e⟩ := List.mem_map.1 hm
        exact (hg.1 q hq).2 (by rw [e]; exact List.mem_cons_self)⟩
      show max _ _ = 2
      unfold keyR at hb
      rw [hb]
      omega
theorem sortM_perm {a b : List (ByteArray × Tree)} (hd : b.Pairwise fun x y => x.1 ≠ y.1) (hp : a.Perm b) : sortM a = sortM b := by
  have : a.mergeSort leB = b.mergeSort leB := by
    have tr : ∀ a b c : ByteArray × Tree, leB a b = true → leB b c = true → leB a c = true := by
      intro a b c h1 h2
      have h1' : ltB b.1 a.1 = false := by simpa [leB, ltB] using h1
      have h2' : ltB c.1 b.1 = false := by simpa [leB, ltB] using h2
      show (!ltB c.1 a.1) = true
      rw [swo_ltB.ntrans _ _ _ h2' h1']; rfl
    have tot : ∀ a b : ByteArray × Tree, (leB a b || leB b a) = true := by
      intro a b
      show ((!ltB b.1 a.1) || (!ltB a.1 b.1)) = true
      cases h : ltB b.1 a.1 with
      | false => rfl
      | true => rw [swo_ltB.asymmA h]; rfl
    refine List.Perm.eq_of_pairwise (le := fun x y => leB x y = true) ?_ (List.pairwise_mergeSort tr tot _) (List.pairwise_mergeSort tr tot _) ((List.mergeSort_perm _ _).trans (hp.trans (List.mergeSort_perm _ _).symm))
    intro x y hx hy h1 h2
    have hx' := hp.mem_iff.1 ((List.mergeSort_perm _ _).mem_iff.1 hx)
    have hy' := (List.mergeSort_perm _ _).mem_iff.1 hy
    refine key_unique hd hx' hy' (ltB_anti ?_ ?_)
    · simpa [leB, ltB] using h2
    · simpa [leB, ltB] using h1
  unfold sortM
  rw [this]
theorem turn_proj : ∀ t : Tree, (∀ x ∈ t.flat, ownT x = true) → (t.turn.proj X).2 = (t.proj X).2 ∧ ((t.proj X).2 ≠ 2 → (t.turn.proj X).1 = (t.proj X).1) := by
  refine Tree.ind fun h l ih hown => ?_
  have hdec := decimal_turn X (.node h l)
  have hkid : ∀ k ∈ l, ∀ x ∈ k.flat, ownT x = true := ((flat_all (fun x => ownT x = true) (.node h l)).1 hown).2
  have hself : ownT (.node h l) = true := ((flat_all (fun x => ownT x = true) (.node h l)).1 hown).1
  have IH := fun k hk => ih k hk (hkid k hk)
  by_cases h8 : h.kind = 8
  · have hev : l.length % 2 = 0 := by
      have e : ownT (.node h l) = (decide (h = bareHd 8) && decide (l.length % 2 = 0) && !isTwice (keysOf l)) := by
        unfold ownT
        simp only [Tree.hd_node, Tree.l_node, h8]
        rfl
      rw [e, Bool.and_eq_true, Bool.and_eq_true] at hself
      exact of_decide_eq_true hself.1.2
    obtain ⟨ps, rfl⟩ := even_pairs l hev
    have hd0 : decimalM X (.node h (unpairs ps)) = (noDc, false) := by unfold decimalM; simp [h8]
    rw [hd0] at hdec
    rw [turn_even h8] at hdec ⊢
    rw [Tree.proj, Tree.proj, hdec, hd0]
    simp only [h8]
    simp only [Bool.false_eq_true, if_false, or_self, show ((8 : Int) = 2) = False by decide, show ((8 : Int) = 5) = False by decide, show ((8 : Int) = 6) = False by decide, show ((8 : Int) = 11) = False by decide, show ((8 : Int) = 9) = False by decide, show ((8 : Int) = 7) = False by decide, if_true]
    have hkey : ∀ p : Tree × Tree, keyR (turn2 p) = keyR p := fun p => by unfold keyR turn2; rw [render_turn]
    have hgood : GoodP [] (ps.map turn2).reverse ↔ GoodP [] ps := by
      unfold GoodP
      rw [List.map_reverse, nodup_rev, List.map_map, show keyR ∘ turn2 = keyR from funext hkey]
      refine and_congr_left fun _ => ?_
      constructor
      · intro H p hp
        have := H (turn2 p) (List.mem_reverse.2 (List.mem_map.2 ⟨p, hp, rfl⟩))
        rw [hkey] at this
        exact ⟨by have := this.1; unfold turn2 at this; rwa [render_turn] at this, this.2⟩
      · intro H q hq
        obtain ⟨p, hp, rfl⟩ := List.mem_map.1 (List.mem_reverse.1 hq)
        rw [hkey]
        exact ⟨by unfold turn2; rw [render_turn]; exact (H p hp).1, (H p hp).2⟩
    have hmem : ∀ p ∈ ps, p.2 ∈ unpairs ps := fun p hp => mem_unpairs.2 ⟨p, hp, .inr rfl⟩
    by_cases hg : GoodP [] ps
    · rw [projP_good X ps [] hg, projP_good X _ [] (hgood.2 hg)]
      have he : ((ps.map turn2).reverse.map fun p => (p.2.proj X).2) = (ps.map fun p => (p.2.proj X).2).reverse := by
        rw [List.map_reverse, List.map_map]
        congr 1
        exact List.map_congr_left fun p hp => (IH p.2 (hmem p hp)).1
      refine ⟨by rw [he, maxN_reverse], fun hne => ?_⟩
      have hpr : (ps.map turn2).reverse.map (pairP X) = (ps.map (pairP X)).reverse := by
        rw [List.map_reverse, List.map_map]
        congr 1
        refine List.map_congr_left fun p hp => ?_
        show (keyR (turn2 p), (p.2.turn.proj X).1) = (keyR p, (p.2.proj X).1)
        rw [hkey, (IH p.2 (hmem p hp)).2 (fun e => hne ?_)]
        have h1 := le_maxN (a := ps.map fun p => (p.2.proj X).2) (List.mem_map.2 ⟨p, hp, rfl⟩)
        have h2 := projP_le X (unpairs ps) []
        rw [projP_good X ps [] hg] at h2
        simp only at h2
        omega
      simp only
      rw [hpr]
      congr 1
      refine sortM_perm ?_ (List.reverse_perm _)
      rw [List.pairwise_map]
      exact (List.pairwise_map.1 (List.nodup_iff_pairwise_ne.1 hg.2)).imp fun h => h
    · have h1 := projP_bad X ps [] hg
      have h2 := projP_bad X _ [] (fun h => hg (hgood.1 h))
      rw [h1, h2]
      exact ⟨rfl, fun h => absurd rfl h⟩
  · rw [turn_odd (fun h' => h8 h'.1)] at hdec ⊢
    rw [Tree.proj, Tree.proj, hdec]
    cases hok : (decimalM X (.node h l)).2 with
    | true => exact ⟨rfl, fun _ => rfl⟩
    | false =>
      simp only [Bool.false_eq_true, if_false]
      by_cases h2 : h.kind = 2 ∨ h.kind = 5
      · rw [if_pos h2, if_pos h2]
        have hl : l = [] := by
          unfold ownT at hself
          rcases h2 with e | e
          · simp only [Tree.hd_node, e] at hself
            simp at hself
            exact (bareT_hd hself).2
          · simp only [Tree.hd_node, e] at hself
            simp at hself
            exact (bareT_hd hself.1.1).2
        subst hl
        rw [turnL]
        exact ⟨rfl, fun _ => rfl⟩
      · rw [if_neg h2, if_neg h2]
        by_cases h6 : h.kind = 6
        · rw [if_pos h6, if_pos h6]; exact ⟨rfl, fun _ => rfl⟩
        · rw [if_neg h6, if_neg h6]
          by_cases h11 : h.kind = 11
          · rw [if_pos h11, if_pos h11]; exact ⟨rfl, fun _ => rfl⟩
          · rw [if_neg h11, if_neg h11]
            by_cases h9 : h.kind = 9
            · rw [if_pos h9, if_pos h9]
              cases l with
              | nil => rw [turnL]; exact ⟨rfl, fun _ => rfl⟩
              | cons x l => rw [turnL, projT, projT]; exact IH x (by simp)
            · rw [if_neg h9, if_neg h9]
              by_cases h7 : h.kind = 7
              · rw [if_pos h7, if_pos h7]
                have : ∀ m : List Tree, (∀ k ∈ m, k ∈ l) → (projL X (turnL m)).2 = (projL X m).2 ∧ ((projL X m).2 ≠ 2 → (projL X (turnL m)).1 = (projL X m).1) := by
                  intro m
                  induction m with
                  | nil => intro _; rw [turnL]; exact ⟨rfl, fun _ => rfl⟩
                  | cons x m ihm =>
                    intro hm
                    have h1 := IH x (hm x (by simp))
                    have h2 := ihm fun k hk => hm k (by simp [hk])
                    have l1 := Tree.proj_le X x
                    have l2 := projL_le X m
                    rw [turnL, projL, projL]
                    simp only
                    refine ⟨by rw [h1.1, h2.1], fun hne => ?_⟩
                    rw [h1.2 (by omega), h2.2 (by omega)]
                have := this l fun k hk => hk
                exact ⟨this.1, fun hne => by simp only at hne ⊢; rw [this.2 hne]⟩
              · rw [if_neg h7, if_neg h7, if_neg h8, if_neg h8]; exact ⟨rfl, fun _ => rfl⟩
theorem common_turn (t : Tree) (f : Int) : commonM X t.turn f = commonM X t f := by
  unfold commonM
  rw [check_turn]
  by_cases hc : checkT t f = 0
  · have hp := turn_proj X t fun x hx => ((checkT_all hc).2.2 x hx).1
    rw [if_neg (show ¬ checkT t f ≠ 0 from fun h => h hc), if_neg (show ¬ checkT t f ≠ 0 from fun h => h hc), hp.1]
    by_cases he : (t.proj X).2 = 0
    · rw [hp.2 (by omega)]
    · rw [if_pos he, if_pos he]
  · rw [if_pos hc, if_pos hc]
end Go.Tm

set_option linter.unusedVariables false
namespace Go.Tm
open Go.RowKit Go.Proofs
set_option maxRecDepth 100000 in
set_option maxHeartbeats 1000000 in
theorem refCount_any : ∀ t : Tree, ∀ (S : Nat → Prop) (lv : Value) (w : World), RepS S w t.l lv → Calls Tryz.prog 16 #[nodeV t.hd lv] w fun e w' => e = .returned (.int .i64 (cnt64 t)) ∧ Same w w' := by
  refine Tree.ind fun h l ih => ?_
  intro S lv w hl
  simp only [Tree.hd_node, Tree.l_node] at hl ⊢
  obtain ⟨hlen, a, cap, rfl, hcap, hi⟩ := hl.shape
  have hcn : cnt64 (.node h l) = wrap64 ((1 + countL l : Nat) : Int) := by unfold cnt64; simp only [Tree.count]
  rw [hcn]
  clear hcn
  go_enter Tryz.func16, Tryz.ntmps16
  go_wp2
  go_loopw [3, 4] (fun v i wr => ∃ k : Nat, k ≤ l.length ∧ i = .int .i64 k ∧ v = .int .i64 (wrap64 ((1 + countL (l.take k) : Nat) : Int)) ∧ Same w wr ∧ wr.heap[w.heap.size]? = some (.cells #[.int .i64 h.kind, .bool h.b, .bool h.d.neg, .string h.d.digits, .int .i64 h.d.exp, .int .u64 h.u, .int .i64 h.w, .string h.s, .slice a l.length cap] 27 (0, 0)))
    (fun _ i _ => l.length - (RowKit.intOf i).toNat)
  case atStart => exact ⟨0, Nat.zero_le _, rfl, by rw [List.take_zero, show ((1 + countL [] : Nat) : Int) = 1 from rfl, IntWalk.wrap64_in (1 : Int) (by omega)], (Keep.refl _ _).alloc _, World.alloc_heap_new w _⟩
  case round =>
    obtain ⟨k, hk, rfl, rfl, hsm, hbx⟩ := hrel
    obtain ⟨n0, n1, n2, n3, n4, n5, n6, n7, n8⟩ := cells9 hbx
    obtain ⟨q, hq⟩ : ∃ q, wrap64 ((1 + countL (l.take k) : Nat) : Int) = q := ⟨_, rfl⟩
    by_cases hlt : k < l.length
    · obtain ⟨b, off, lv', rfl, hS, hb, hr, hok, hra⟩ := hi k hlt
      obtain ⟨a', cap', rfl⟩ := hr.is_slice
      obtain ⟨c0, c1, c2, c3, c4, c5, c6, c7, c8⟩ := nodeAt_of (rangeAt_same hsm hra)
      have hst := countL_take l k hlt
      obtain ⟨cc, hcc⟩ : ∃ q, cnt64 (l[k]) = q := ⟨_, rfl⟩
      have hq2 : wrap64 ((1 + countL (l.take (k + 1)) : Nat) : Int) = wrap64 (q + cc) := by
        rw [← hq, ← hcc, hst]; unfold cnt64; rw [wrap64_add]; congr 1; push_cast; omega
      have HQ2 := Lib.hid hq2
      have ihc := fun (W : World) (hr2 : RepS S W (l[k]).l (.slice a' (l[k]).l.length cap')) => ih _ (List.getElem_mem hlt) S _ W hr2
      rw [hcc] at ihc
      rw [hq]
      clear hst hq2 hq hcc
      go_wp2_with (first | (go_at_call 16; refine (ihc _ (hr.same hsm)).mono ?_; rintro e w' ⟨rfl, hk'⟩))
      go_roundw
      case rel => exact ⟨k + 1, by omega, by go_num, by rw [HQ2.out], hsm.trans hk', hk'.same _ _ hbx trivial⟩
      case measure => simp [RowKit.intOf]; omega
    · obtain rfl : k = l.length := by omega
      rw [List.take_length] at hq
      rw [List.take_length, hq]
      go_wp2
      go_ret
      exact ⟨by rw [hq]; rfl, hsm⟩
end Go.Tm

set_option linter.unusedVariables false
namespace Go.Tm
open Go.RowKit Go.Proofs
def fewT (t : Tree) : Tree := if 400 < cnt64 (t.cut 17) then .node (cutHd t.hd) [] else t.cut 17
theorem few_hd (t : Tree) : (fewT t).hd = cutHd t.hd := by unfold fewT; split; rfl; exact cut_hd 17 t
set_option maxRecDepth 100000 in
set_option maxHeartbeats 4000000 in
theorem few_any (t : Tree) (lv : Value) (w : World) (hrep : t.RepW w lv) :
    Calls Tryz.prog 10 #[nodeV t.hd lv] w fun e w' => ∃ lv', e = .returned (nodeV (cutHd t.hd) lv') ∧ RepS (fun b => w.heap.size ≤ b) w' (fewT t).l lv' ∧ Same w w' := by
  obtain ⟨ho, a, cap, rfl, hlen, hL⟩ := repW_node hrep
  have hcut := fun (W : World) (hk : Same w W) => cut_any 17 t _ W (by omega) (hrep.same hk)
  obtain ⟨n, hn⟩ : ∃ n, t.l.length = n := ⟨_, rfl⟩
  rw [hn] at hcut ⊢
  obtain ⟨h, hh⟩ : ∃ h, t.hd = h := ⟨_, rfl⟩
  rw [hh] at hcut ⊢
  obtain ⟨q, hq⟩ : ∃ q, cutHd h = q := ⟨_, rfl⟩
  rw [hq] at hcut ⊢
  have hct : t.cut 17 = .node q (t.cut 17).l := by rw [← hq, ← hh, ← cut_hd 17]; exact (Tree.eta _).symm
  obtain ⟨cl, hcl⟩ : ∃ cl, (t.cut 17).l = cl := ⟨_, rfl⟩
  rw [hcl] at hcut hct
  have hfew : (fewT t).l = if 400 < cnt64 (.node q cl) then [] else cl := by unfold fewT; rw [hct]; split <;> rfl
  rw [hfew]
  obtain ⟨cc, hcc⟩ : ∃ cc, cnt64 (.node q cl) = cc := ⟨_, rfl⟩
  rw [hcc]
  have hcnt := fun (W : World) (lv2 : Value) (hr : RepS AnyB W cl lv2) => refCount_any (.node q cl) AnyB lv2 W hr
  rw [hcc] at hcnt
  simp only [Tree.hd_node] at hcnt
  clear hcc hfew hct hcl hh hq hn hrep hL ho
  go_enter Tryz.func10, Tryz.ntmps10
  by_cases hbig : 400 < cc
  · rw [if_pos hbig]
    go_wp2_with (first
      | (go_at_call 25; refine (hcut _ (by repeat (first | with_reducible exact Keep.refl _ _ | with_reducible refine Keep.alloc ?_ _ | with_reducible refine Keep.drew ?_ | with_reducible refine Keep.drewN ?_ _ | with_reducible refine Keep.trans ?_ (by assumption)))).mono ?_; rintro e w1 ⟨lv2, rfl, hr2, hk2⟩; obtain ⟨a2, c2, rfl⟩ := hr2.is_slice; have hb := hk2.same w.heap.size _ (show _ = some (.cells #[.int .i64 h.kind, .bool h.b, .bool h.d.neg, .string h.d.digits, .int .i64 h.d.exp, .int .u64 h.u, .int .i64 h.w, .string h.s, .slice a n cap] 27 (0, 0)) from (by repeat (first | with_reducible exact heap_new' (by simp) | with_reducible refine heap_old ?_ | with_reducible refine heap_drew ?_))) trivial; have hr := hk2.same (w.heap.size + 1) _ (show _ = some (.cells #[.int .i64 0, .bool false, .bool false, .string ⟨#[]⟩, .int .i64 0, .int .u64 0, .int .i64 0, .string ⟨#[]⟩, .slice none 0 0] 27 (0, 0)) from (by repeat (first | with_reducible exact heap_new' (by simp) | with_reducible refine heap_old ?_ | with_reducible refine heap_drew ?_))) trivial; obtain ⟨n0, n1, n2, n3, n4, n5, n6, n7, n8⟩ := cells9 hb; obtain ⟨m0, m1, m2, m3, m4, m5, m6, m7, m8⟩ := cells9 hr; have hfb : ∀ j, w1.frozen? ⟨w.heap.size, j, none⟩ = false := Lib.frozen_of_heap hb; have hfr : ∀ j, w1.frozen? ⟨w.heap.size + 1, j, none⟩ = false := Lib.frozen_of_heap hr)
      | (go_at_call 16; fail))
    obtain ⟨h9, hk9⟩ := put9 hb (.int .i64 q.kind) (.bool q.b) (.bool q.d.neg) (.string q.d.digits) (.int .i64 q.d.exp) (.int .u64 q.u) (.int .i64 q.w) (.string q.s) (.slice a2 cl.length c2)
    have hrX := hk9.same _ _ hr (by omega)
    have hr3 : RepS (fun b => w.heap.size + 2 ≤ b) w1 cl (.slice a2 cl.length c2) := hr2.mono fun b _ (hb : _ ≤ b) => by simpa using hb
    have hrp := hr3.keep hk9 fun b (hb : w.heap.size + 2 ≤ b) _ _ => by omega
    have hkX : Same w _ := (⟨hk9.os.trans hk2.os, hk9.tape.trans hk2.tape, hk9.output.trans hk2.output, Nat.le_trans (by have := hk2.size; simp at this; omega) hk9.size, fun k o hk _ => hk9.same k o (hk2.same k o (heap_old (heap_old hk)) trivial) (by have := lt_of_some hk; omega)⟩ : Same w _)
    clear n0 n1 n2 n3 n4 n5 n6 n7 n8 m0 m1 m2 m3 m4 m5 m6 m7 m8 hfb hfr hk9 hr3 hr2 hr hb hk2
    generalize ((((((((((w1.setCell ⟨w.heap.size, 0, none⟩ (.int .i64 q.kind)).setCell ⟨w.heap.size, 1, none⟩ (.bool q.b)).setCell ⟨w.heap.size, 2, none⟩ (.bool q.d.neg)).setCell ⟨w.heap.size, 3, none⟩ (.string q.d.digits)).setCell ⟨w.heap.size, 4, none⟩ (.int .i64 q.d.exp)).setCell ⟨w.heap.size, 5, none⟩ (.int .u64 q.u)).setCell ⟨w.heap.size, 6, none⟩ (.int .i64 q.w)).setCell ⟨w.heap.size, 7, none⟩ (.string q.s)).setCell ⟨w.heap.size, 8, none⟩ (.slice a2 cl.length c2))) = X at h9 hrX hrp hkX ⊢
    refine (hcnt X _ (hrp.mono fun _ _ _ => trivial)).mono ?_
    rintro e w3 ⟨rfl, hk3⟩
    have hbc := hk3.same _ _ h9 trivial
    have hrc := hk3.same _ _ hrX trivial
    have hrp3 := hrp.same hk3
    have hkw3 : Same w w3 := hkX.trans hk3
    obtain ⟨n0, n1, n2, n3, n4, n5, n6, n7, n8⟩ := cells9 hbc
    obtain ⟨m0, m1, m2, m3, m4, m5, m6, m7, m8⟩ := cells9 hrc
    have hfb : ∀ j, w3.frozen? ⟨w.heap.size, j, none⟩ = false := Lib.frozen_of_heap hbc
    have hfr : ∀ j, w3.frozen? ⟨w.heap.size + 1, j, none⟩ = false := Lib.frozen_of_heap hrc
    have hkeep : ∀ (X : World) (p : Addr) (v : Value) (b : Nat), p.block ≠ b → (X.setCell p v).heap[b]? = X.heap[b]? := fun X p v b h => Below.heap_setCell X p v b (fun e => h e.symm)
    clear h9 hrX hrp hkX hk3
    go_wp2
    have hX : (w3.setCell ⟨w.heap.size, 8, none⟩ (.slice none 0 0)).heap[w.heap.size + 1]? = some (.cells #[.int .i64 0, .bool false, .bool false, .string ⟨#[]⟩, .int .i64 0, .int .u64 0, .int .i64 0, .string ⟨#[]⟩, .slice none 0 0] 27 (0, 0)) := by rw [hkeep _ _ _ _ (by show w.heap.size ≠ w.heap.size + 1; omega)]; exact hrc
    obtain ⟨h9, hk9⟩ := put9 hX (.int .i64 q.kind) (.bool q.b) (.bool q.d.neg) (.string q.d.digits) (.int .i64 q.d.exp) (.int .u64 q.u) (.int .i64 q.w) (.string q.s) (.slice none 0 0)
    refine bodyPost_ret (results_cell_row rfl _ _ (w.heap.size + 1) 27 _ (0, 0) _ rfl h9 Tryz.underlying27 rfl (by kernel_rfl)) rfl ⟨_, rfl, RepS.nil _ _, ?_⟩
    have hk8 : Same w (w3.setCell ⟨w.heap.size, 8, none⟩ (.slice none 0 0)) := hkw3.setCell (p := ⟨w.heap.size, 8, none⟩) _ (fun o _ _ h => absurd h (Nat.lt_irrefl _))
    exact ⟨hk9.os.trans hk8.os, hk9.tape.trans hk8.tape, hk9.output.trans hk8.output, Nat.le_trans hk8.size hk9.size, fun k o hk _ => hk9.same k o (hk8.same k o hk trivial) (by have := lt_of_some hk; omega)⟩
  · rw [if_neg hbig]
    go_wp2_with (first
      | (go_at_call 25; refine (hcut _ (by repeat (first | with_reducible exact Keep.refl _ _ | with_reducible refine Keep.alloc ?_ _ | with_reducible refine Keep.drew ?_ | with_reducible refine Keep.drewN ?_ _ | with_reducible refine Keep.trans ?_ (by assumption)))).mono ?_; rintro e w1 ⟨lv2, rfl, hr2, hk2⟩; obtain ⟨a2, c2, rfl⟩ := hr2.is_slice; have hb := hk2.same w.heap.size _ (show _ = some (.cells #[.int .i64 h.kind, .bool h.b, .bool h.d.neg, .string h.d.digits, .int .i64 h.d.exp, .int .u64 h.u, .int .i64 h.w, .string h.s, .slice a n cap] 27 (0, 0)) from (by repeat (first | with_reducible exact heap_new' (by simp) | with_reducible refine heap_old ?_ | with_reducible refine heap_drew ?_))) trivial; have hr := hk2.same (w.heap.size + 1) _ (show _ = some (.cells #[.int .i64 0, .bool false, .bool false, .string ⟨#[]⟩, .int .i64 0, .int .u64 0, .int .i64 0, .string ⟨#[]⟩, .slice none 0 0] 27 (0, 0)) from (by repeat (first | with_reducible exact heap_new' (by simp) | with_reducible refine heap_old ?_ | with_reducible refine heap_drew ?_))) trivial; obtain ⟨n0, n1, n2, n3, n4, n5, n6, n7, n8⟩ := cells9 hb; obtain ⟨m0, m1, m2, m3, m4, m5, m6, m7, m8⟩ := cells9 hr; have hfb : ∀ j, w1.frozen? ⟨w.heap.size, j, none⟩ = false := Lib.frozen_of_heap hb; have hfr : ∀ j, w1.frozen? ⟨w.heap.size + 1, j, none⟩ = false := Lib.frozen_of_heap hr)
      | (go_at_call 16; fail))
    obtain ⟨h9, hk9⟩ := put9 hb (.int .i64 q.kind) (.bool q.b) (.bool q.d.neg) (.string q.d.digits) (.int .i64 q.d.exp) (.int .u64 q.u) (.int .i64 q.w) (.string q.s) (.slice a2 cl.length c2)
    have hrX := hk9.same _ _ hr (by omega)
    have hr3 : RepS (fun b => w.heap.size + 2 ≤ b) w1 cl (.slice a2 cl.length c2) := hr2.mono fun b _ (hb : _ ≤ b) => by simpa using hb
    have hrp := hr3.keep hk9 fun b (hb : w.heap.size + 2 ≤ b) _ _ => by omega
    have hkX : Same w _ := (⟨hk9.os.trans hk2.os, hk9.tape.trans hk2.tape, hk9.output.trans hk2.output, Nat.le_trans (by have := hk2.size; simp at this; omega) hk9.size, fun k o hk _ => hk9.same k o (hk2.same k o (heap_old (heap_old hk)) trivial) (by have := lt_of_some hk; omega)⟩ : Same w _)
    clear n0 n1 n2 n3 n4 n5 n6 n7 n8 m0 m1 m2 m3 m4 m5 m6 m7 m8 hfb hfr hk9 hr3 hr2 hr hb hk2
    generalize ((((((((((w1.setCell ⟨w.heap.size, 0, none⟩ (.int .i64 q.kind)).setCell ⟨w.heap.size, 1, none⟩ (.bool q.b)).setCell ⟨w.heap.size, 2, none⟩ (.bool q.d.neg)).setCell ⟨w.heap.size, 3, none⟩ (.string q.d.digits)).setCell ⟨w.heap.size, 4, none⟩ (.int .i64 q.d.exp)).setCell ⟨w.heap.size, 5, none⟩ (.int .u64 q.u)).setCell ⟨w.heap.size, 6, none⟩ (.int .i64 q.w)).setCell ⟨w.heap.size, 7, none⟩ (.string q.s)).setCell ⟨w.heap.size, 8, none⟩ (.slice a2 cl.length c2))) = X at h9 hrX hrp hkX ⊢
    refine (hcnt X _ (hrp.mono fun _ _ _ => trivial)).mono ?_
    rintro e w3 ⟨rfl, hk3⟩
    have hbc := hk3.same _ _ h9 trivial
    have hrc := hk3.same _ _ hrX trivial
    have hrp3 := hrp.same hk3
    have hkw3 : Same w w3 := hkX.trans hk3
    obtain ⟨n0, n1, n2, n3, n4, n5, n6, n7, n8⟩ := cells9 hbc
    obtain ⟨m0, m1, m2, m3, m4, m5, m6, m7, m8⟩ := cells9 hrc
    have hfb : ∀ j, w3.frozen? ⟨w.heap.size, j, none⟩ = false := Lib.frozen_of_heap hbc
    have hfr : ∀ j, w3.frozen? ⟨w.heap.size + 1, j, none⟩ = false := Lib.frozen_of_heap hrc
    have hkeep : ∀ (X : World) (p : Addr) (v : Value) (b : Nat), p.block ≠ b → (X.setCell p v).heap[b]? = X.heap[b]? := fun X p v b h => Below.heap_setCell X p v b (fun e => h e.symm)
    clear h9 hrX hrp hkX hk3
    go_wp2
    obtain ⟨h9, hk9⟩ := put9 hrc (.int .i64 q.kind) (.bool q.b) (.bool q.d.neg) (.string q.d.digits) (.int .i64 q.d.exp) (.int .u64 q.u) (.int .i64 q.w) (.string q.s) (.slice a2 cl.length c2)
    refine bodyPost_ret (results_cell_row rfl _ _ (w.heap.size + 1) 27 _ (0, 0) _ rfl h9 Tryz.underlying27 rfl (by kernel_rfl)) rfl ⟨_, rfl, ?_, ?_⟩
    · refine RepS.mono (fun b _ (hb : w.heap.size + 2 ≤ b) => (by omega : w.heap.size ≤ b)) ?_
      exact hrp3.keep hk9 fun b (hb : w.heap.size + 2 ≤ b) _ _ => by omega
    · exact ⟨hk9.os.trans hkw3.os, hk9.tape.trans hkw3.tape, hk9.output.trans hkw3.output, Nat.le_trans hkw3.size hk9.size, fun k o hk _ => hk9.same k o (hkw3.same k o hk trivial) (by have := lt_of_some hk; omega)⟩
end Go.Tm

set_option linter.unusedVariables false
namespace Go.Tm
theorem mem_flatL' {x : Tree} : ∀ {l : List Tree}, x ∈ flatL l → ∃ k ∈ l, x ∈ k.flat
  | [], h => by rw [flatL] at h; cases h
  | y :: l, h => by
    rw [flatL] at h
    rcases List.mem_append.1 h with h | h
    · exact ⟨y, List.mem_cons_self, h⟩
    · obtain ⟨k, hk, hx⟩ := mem_flatL' h
      exact ⟨k, List.mem_cons_of_mem _ hk, hx⟩
theorem flat_node {x : Tree} {h : Hd} {l : List Tree} (hx : x ∈ (Tree.node h l).flat) : x = .node h l ∨ ∃ k ∈ l, x ∈ k.flat := by
  rw [Tree.flat] at hx
  rcases List.mem_cons.1 hx with h | h
  · exact .inl h
  · exact .inr (mem_flatL' h)
theorem cut_depth : ∀ (d : Nat) (t : Tree), (t.cut d).depth ≤ d + 1
  | 0, t => by rw [Tree.cut, leaf_depth]; exact Nat.le_refl _
  | d + 1, t => by
    rw [Tree.cut, Tree.depth]
    have : depthL ((t.l.take 40).map (Tree.cut d)) ≤ d + 1 := depthL_all fun x hx => by
      obtain ⟨y, _, rfl⟩ := List.mem_map.1 hx
      exact cut_depth d y
    omega
theorem cut_lens : ∀ (d : Nat) (t x : Tree), x ∈ (t.cut d).flat → x.l.length ≤ 40
  | 0, t, x, hx => by
    rw [Tree.cut] at hx
    rcases flat_node hx with rfl | ⟨k, hk, _⟩
    · exact Nat.zero_le _
    · cases hk
  | d + 1, t, x, hx => by
    have h0 := cut_len (d + 1) t
    rw [Tree.cut] at hx h0
    rcases flat_node hx with rfl | ⟨k, hk, hxk⟩
    · exact h0
    · obtain ⟨y, _, rfl⟩ := List.mem_map.1 hk
      exact cut_lens d y x hxk
theorem few_depth (t : Tree) : (fewT t).depth ≤ 18 := by
  unfold fewT
  split
  · rw [leaf_depth]; decide
  · exact cut_depth 17 t
theorem few_lens (t x : Tree) (hx : x ∈ (fewT t).flat) : x.l.length ≤ 40 := by
  unfold fewT at hx
  split at hx
  · rcases flat_node hx with rfl | ⟨k, hk, _⟩
    · exact Nat.zero_le _
    · cases hk
  · exact cut_lens 17 t x hx
theorem few_ok {t : Tree} (h : t.hd.okW) : (fewT t).hd.ok := by rw [few_hd]; exact cutHd_ok h
end Go.Tm

set_option linter.unusedVariables false
namespace Go.Tm
open Go.RowKit Go.Proofs
def TurnOut (t : Tree) (w : World) (e : Ending) (w' : World) : Prop := ∃ lv', e = .returned (nodeV t.hd lv') ∧ RepS (fun b => w.heap.size ≤ b) w' t.turn.l lv' ∧ Same w w'
def TurnAt (t : Tree) : Prop := ∀ (S : Nat → Prop) (lv : Value) (w : World), RepS S w t.l lv → Calls Tryz.prog 15 #[nodeV t.hd lv] w (TurnOut t w)
def turnsTo (l : List Tree) (k : Nat) : List Tree := turnL (l.take k)
theorem turnsTo_succ (l : List Tree) (k : Nat) (h : k < l.length) : turnsTo l (k + 1) = turnsTo l k ++ [(l[k]).turn] := by
  unfold turnsTo
  rw [List.take_add_one, List.getElem?_eq_getElem h, turnL_map, turnL_map, List.map_append]
  rfl
set_option maxRecDepth 100000 in
set_option maxHeartbeats 4000000 in
theorem turned_plain (h : Hd) (l : List Tree) (ih : ∀ x ∈ l, TurnAt x) (hl40 : l.length ≤ 40) (hk : ¬ (h.kind = 8 ∧ l.length % 2 = 0)) : TurnAt (.node h l) := by
  intro S lv w hrs
  have hend := turn_odd hk
  simp only [Tree.l_node, Tree.hd_node] at hrs ⊢
  obtain ⟨_, a, cap, rfl, hcap, hget⟩ := hrs.shape
  clear hrs
  have HE := Lib.hid hend
  have IH := Lib.hid ih
  clear hend ih
  by_cases h8 : h.kind = 8
  · have hodd : l.length % 2 = 1 := by have : ¬ l.length % 2 = 0 := fun e => hk ⟨h8, e⟩; omega
    have k8 : (h.kind == 8) = true := by simpa using h8
    have nk8 : (h.kind != 8) = false := by simpa using h8
    have o1 : ((l.length : Int) % 2 == 1) = true := by simp; omega
    have HO := Lib.hid hodd
    clear hodd
    clear hk h8
    go_enter Tryz.func15, Tryz.ntmps15
    go_wp2
    have hb0 : ((w.alloc (.cells #[.int .i64 h.kind, .bool h.b, .bool h.d.neg, .string h.d.digits, .int .i64 h.d.exp, .int .u64 (h.u : Int), .int .i64 h.w, .string h.s, .slice a l.length cap] 27)).alloc (.cells #[.int .i64 0, .bool false, .bool false, .string ⟨#[]⟩, .int .i64 0, .int .u64 0, .int .i64 0, .string ⟨#[]⟩, .slice none 0 0] 27)).heap[w.heap.size]? = some (.cells #[.int .i64 h.kind, .bool h.b, .bool h.d.neg, .string h.d.digits, .int .i64 h.d.exp, .int .u64 (h.u : Int), .int .i64 h.w, .string h.s, .slice a l.length cap] 27 (0, 0)) := (by repeat (first | with_reducible exact heap_new' (by simp) | with_reducible refine heap_old ?_ | with_reducible refine heap_drew ?_))
    have hr0 : ((w.alloc (.cells #[.int .i64 h.kind, .bool h.b, .bool h.d.neg, .string h.d.digits, .int .i64 h.d.exp, .int .u64 (h.u : Int), .int .i64 h.w, .string h.s, .slice a l.length cap] 27)).alloc (.cells #[.int .i64 0, .bool false, .bool false, .string ⟨#[]⟩, .int .i64 0, .int .u64 0, .int .i64 0, .string ⟨#[]⟩, .slice none 0 0] 27)).heap[w.heap.size + 1]? = some (.cells #[.int .i64 0, .bool false, .bool false, .string ⟨#[]⟩, .int .i64 0, .int .u64 0, .int .i64 0, .string ⟨#[]⟩, .slice none 0 0] 27 (0, 0)) := (by repeat (first | with_reducible exact heap_new' (by simp) | with_reducible refine heap_old ?_ | with_reducible refine heap_drew ?_))
    have hz1 : ((w.alloc (.cells #[.int .i64 h.kind, .bool h.b, .bool h.d.neg, .string h.d.digits, .int .i64 h.d.exp, .int .u64 (h.u : Int), .int .i64 h.w, .string h.s, .slice a l.length cap] 27)).alloc (.cells #[.int .i64 0, .bool false, .bool false, .string ⟨#[]⟩, .int .i64 0, .int .u64 0, .int .i64 0, .string ⟨#[]⟩, .slice none 0 0] 27)).heap.size = w.heap.size + 2 := by simp
    have hk1 : Same w ((w.alloc (.cells #[.int .i64 h.kind, .bool h.b, .bool h.d.neg, .string h.d.digits, .int .i64 h.d.exp, .int .u64 (h.u : Int), .int .i64 h.w, .string h.s, .slice a l.length cap] 27)).alloc (.cells #[.int .i64 0, .bool false, .bool false, .string ⟨#[]⟩, .int .i64 0, .int .u64 0, .int .i64 0, .string ⟨#[]⟩, .slice none 0 0] 27)) := (by repeat (first | with_reducible exact Keep.refl _ _ | with_reducible refine Keep.alloc ?_ _ | with_reducible refine Keep.drew ?_ | with_reducible refine Keep.drewN ?_ _ | with_reducible refine Keep.trans ?_ (by assumption)))
    generalize ((w.alloc (.cells #[.int .i64 h.kind, .bool h.b, .bool h.d.neg, .string h.d.digits, .int .i64 h.d.exp, .int .u64 (h.u : Int), .int .i64 h.w, .string h.s, .slice a l.length cap] 27)).alloc (.cells #[.int .i64 0, .bool false, .bool false, .string ⟨#[]⟩, .int .i64 0, .int .u64 0, .int .i64 0, .string ⟨#[]⟩, .slice none 0 0] 27)) = W1 at hb0 hr0 hz1 hk1 ⊢
    go_loopw [3, 4] (fun ov iv wr => ∃ k : Nat, k ≤ l.length ∧ iv = .int .i64 (k : Int) ∧ OwnL (fun x => w.heap.size + 2 ≤ x) wr (w.heap.size + 2) ov (turnsTo l k) ∧ Same w wr ∧ wr.heap[w.heap.size]? = some (.cells #[.int .i64 h.kind, .bool h.b, .bool h.d.neg, .string h.d.digits, .int .i64 h.d.exp, .int .u64 (h.u : Int), .int .i64 h.w, .string h.s, .slice a l.length cap] 27 (0, 0)) ∧ wr.heap[w.heap.size + 1]? = some (.cells #[.int .i64 0, .bool false, .bool false, .string ⟨#[]⟩, .int .i64 0, .int .u64 0, .int .i64 0, .string ⟨#[]⟩, .slice none 0 0] 27 (0, 0))) (fun _ iv _ => l.length - (RowKit.intOf iv).toNat)
    case atStart => exact ⟨0, Nat.zero_le _, rfl, OwnL.nil _ _ _, hk1, hb0, hr0⟩
    case round =>
      clear hb0 hr0 hz1 hk1
      obtain ⟨k, hkl, rfl, hown, hsm, hb, hr⟩ := hrel
      obtain ⟨n0, n1, n2, n3, n4, n5, n6, n7, n8⟩ := cells9 hb
      obtain ⟨m0, m1, m2, m3, m4, m5, m6, m7, m8⟩ := cells9 hr
      have hfb : ∀ j, wr.frozen? ⟨w.heap.size, j, none⟩ = false := Lib.frozen_of_heap hb
      have hfr : ∀ j, wr.frozen? ⟨w.heap.size + 1, j, none⟩ = false := Lib.frozen_of_heap hr
      have htl : (turnsTo l k).length = k := by unfold turnsTo; rw [turnL_len, List.length_take]; omega
      obtain ⟨a0, cp0, rfl⟩ := hown.is_slice
      by_cases hlt : k < l.length
      · rw [htl] at hown
        obtain ⟨b', off, lv', rfl, _, _, hrk, hok', hra⟩ := hget k hlt
        obtain ⟨a', cap', rfl⟩ := hrk.is_slice
        obtain ⟨c0, c1, c2, c3, c4, c5, c6, c7, c8⟩ := nodeAt_of (rangeAt_same hsm hra)
        have hcall := fun W (hW' : Same w W) => IH.out (l[k]) (List.getElem_mem hlt) S _ W (hrk.same hW')
        have hst := turnsTo_succ l k hlt
        have hct : (l[k]).turn = .node (l[k]).hd (l[k]).turn.l := by rw [← turn_hd]; exact (Tree.eta _).symm
        unfold TurnOut at hcall
        obtain ⟨q, hq⟩ : ∃ q, (l[k]).hd = q := ⟨_, rfl⟩
        obtain ⟨cl, hcl⟩ : ∃ cl, (l[k]).turn.l = cl := ⟨_, rfl⟩
        rw [hcl] at hcall hct
        rw [hq] at hcall hct hok'
        rw [hct] at hst
        have HST := Lib.hid hst
        clear hst hct hcl
        have hszw := hsm.size
        have hlt0 := fun b (hb : wr.heap.size ≤ b) => hown.lt hb
        rw [hq] at c0 c1 c2 c3 c4 c5 c6 c7
        clear hq
        have g3 : wrap64 ((k : Int) + 1) = (k : Int) + 1 := IntWalk.wrap64_in _ (by omega)
        go_wp2_with (first
          | (go_at_call 15; refine (hcall _ (by repeat (first | with_reducible exact Keep.refl _ _ | with_reducible refine Keep.alloc ?_ _ | with_reducible refine Keep.drew ?_ | with_reducible refine Keep.drewN ?_ _ | with_reducible refine Keep.trans ?_ (by assumption)))).mono ?_; rintro e w1 ⟨lv2, rfl, hr2, hk2⟩; obtain ⟨a2, cc2, rfl⟩ := hr2.is_slice; obtain ⟨e0, e1, e2, e3, e4, e5, e6, e7, e8⟩ := cells9 (heap_old (o := .cells #[.int .i64 q.kind, .bool q.b, .bool q.d.neg, .string q.d.digits, .int .i64 q.d.exp, .int .u64 (q.u : Int), .int .i64 q.w, .string q.s, .slice a2 cl.length cc2] 27) (hk2.same _ _ hb trivial)))
          | (at_builtin; refine wpList_append_trees (v := .slice a0 k cp0) (ts := [.node q cl]) (news := nodeCs q (.slice a2 cl.length cc2)) rfl _ _ rfl rfl rfl (((hown.same hk2).same ((Keep.refl _ _).alloc _)).same ((Keep.refl _ _).alloc _)) rfl ?c2 ?c3 (node_one _ _ _ _) ?c4 ?c5 ?_))
        case c2 =>
          refine repL_one ?_
          rw [rep_node]
          refine ⟨hok', _, rfl, ?_⟩
          exact ((hr2.mono (fun b hb h => (⟨by have h' : wr.heap.size ≤ b := h; have := lt_of_some hr; omega, hlt0 b h⟩ : _ ∧ _))).same ((Keep.refl _ _).alloc _)).same ((Keep.refl _ _).alloc _)
        case c3 =>
          have hz : (w1.alloc (.cells #[.int .i64 q.kind, .bool q.b, .bool q.d.neg, .string q.d.digits, .int .i64 q.d.exp, .int .u64 (q.u : Int), .int .i64 q.w, .string q.s, .slice a2 cl.length cc2] 27)).heap.size = w1.heap.size + 1 := by simp
          intro j u hju
          have e := cells_new (w1.alloc (.cells #[.int .i64 q.kind, .bool q.b, .bool q.d.neg, .string q.d.digits, .int .i64 q.d.exp, .int .u64 (q.u : Int), .int .i64 q.w, .string q.s, .slice a2 cl.length cc2] 27)) #[.int .i64 q.kind, .bool q.b, .bool q.d.neg, .string q.d.digits, .int .i64 q.d.exp, .int .u64 (q.u : Int), .int .i64 q.w, .string q.s, .slice a2 cl.length cc2] 27 j u hju
          rw [hz] at e
          exact e
        case c4 => simp only [List.length_cons, List.length_nil, htl]; omega
        case c5 => have := hk2.size; have := lt_of_some hr; simp; omega
        intro v' w2 hown' hg
        have hsA : Same w1 ((w1.alloc (.cells #[.int .i64 q.kind, .bool q.b, .bool q.d.neg, .string q.d.digits, .int .i64 q.d.exp, .int .u64 (q.u : Int), .int .i64 q.w, .string q.s, .slice a2 cl.length cc2] 27)).alloc (.cells #[.int .i64 q.kind, .bool q.b, .bool q.d.neg, .string q.d.digits, .int .i64 q.d.exp, .int .u64 (q.u : Int), .int .i64 q.w, .string q.s, .slice a2 cl.length cc2] 27)) := (by repeat (first | with_reducible exact Keep.refl _ _ | with_reducible refine Keep.alloc ?_ _ | with_reducible refine Keep.drew ?_ | with_reducible refine Keep.drewN ?_ _ | with_reducible refine Keep.trans ?_ (by assumption)))
        have hsm2 : Same w w2 := same_grown ((hsm.trans hk2).trans hsA) (by omega) ((hown.same hk2).same hsA) hg
        have hb2 : w2.heap[w.heap.size]? = _ := (hg.block _ (by have := lt_of_some (hk2.same _ _ hb trivial); simp; omega) (fun e => hown.apart (b := w.heap.size) (by omega) e.symm)).trans (hsA.same _ _ (hk2.same _ _ hb trivial) trivial)
        have hr2' : w2.heap[w.heap.size + 1]? = _ := (hg.block _ (by have := lt_of_some (hk2.same _ _ hr trivial); simp; omega) (fun e => hown.apart (b := w.heap.size + 1) (by omega) e.symm)).trans (hsA.same _ _ (hk2.same _ _ hr trivial) trivial)
        rw [← HST.out] at hown'
        obtain ⟨a9, cc9, rfl⟩ := hown'.is_slice
        clear e0 e1 e2 e3 e4 e5 e6 e7 e8 hg hsA hr2 hk2 hown n0 n1 n2 n3 n4 n5 n6 n7 n8 c0 c1 c2 c3 c4 c5 c6 c7 c8
        go_wp2
        go_roundw
        case rel => exact ⟨k + 1, by omega, by go_num, hown', hsm2, hb2, hr2'⟩
        case measure => simp [RowKit.intOf]; omega
      · obtain rfl : k = l.length := by omega
        have hfull : turnsTo l l.length = turnL l := by unfold turnsTo; rw [List.take_length]
        have HF := Lib.hid hfull
        have hrep2 := hown.rep (fun b hb => hb) (by rw [htl]; omega)
        have hkeep : ∀ (X : World) (p : Addr) (v : Value) (b : Nat), p.block ≠ b → (X.setCell p v).heap[b]? = X.heap[b]? := fun X p v b h => Below.heap_setCell X p v b (fun e => h e.symm)
        clear hfull htl hget IH
        go_wp2
        have hX : (wr.setCell ⟨w.heap.size, 8, none⟩ (.slice a0 (turnsTo l l.length).length cp0)).heap[w.heap.size + 1]? = some (.cells #[.int .i64 0, .bool false, .bool false, .string ⟨#[]⟩, .int .i64 0, .int .u64 0, .int .i64 0, .string ⟨#[]⟩, .slice none 0 0] 27 (0, 0)) := by rw [hkeep _ _ _ _ (by show w.heap.size ≠ w.heap.size + 1; omega)]; exact hr
        obtain ⟨h9, hk9⟩ := put9 hX (.int .i64 h.kind) (.bool h.b) (.bool h.d.neg) (.string h.d.digits) (.int .i64 h.d.exp) (.int .u64 h.u) (.int .i64 h.w) (.string h.s) (.slice a0 (turnsTo l l.length).length cp0)
        refine bodyPost_ret (results_cell_row rfl _ _ (w.heap.size + 1) 27 _ (0, 0) _ rfl h9 Tryz.underlying27 rfl (by kernel_rfl)) rfl ⟨.slice a0 (turnsTo l l.length).length cp0, rfl, ?_, ?_⟩
        · rw [HE.out]
          show RepS _ _ (turnL l) _
          rw [← HF.out]
          have hk8 : Keep (fun k _ => k ≠ w.heap.size) wr (wr.setCell ⟨w.heap.size, 8, none⟩ (.slice a0 (turnsTo l l.length).length cp0)) := (Keep.refl _ _).setCell _ fun o _ h _ => h rfl
          refine RepS.mono (fun b _ (hb : w.heap.size + 2 ≤ b) => (by omega : w.heap.size ≤ b)) ?_
          exact (hrep2.keep hk8 fun b (hb : w.heap.size + 2 ≤ b) _ _ => by omega).keep hk9 fun b (hb : w.heap.size + 2 ≤ b) _ _ => by omega
        · have hk8 : Same w (wr.setCell ⟨w.heap.size, 8, none⟩ (.slice a0 (turnsTo l l.length).length cp0)) := hsm.setCell (p := ⟨w.heap.size, 8, none⟩) _ (fun o _ _ h => absurd h (Nat.lt_irrefl _))
          exact ⟨hk9.os.trans hk8.os, hk9.tape.trans hk8.tape, hk9.output.trans hk8.output, Nat.le_trans hk8.size hk9.size, fun k o hk _ => hk9.same k o (hk8.same k o hk trivial) (by have := lt_of_some hk; omega)⟩
  · have k8 : (h.kind == 8) = false := by simpa using h8
    have nk8 : (h.kind != 8) = true := by simpa using h8
    clear hk h8
    go_enter Tryz.func15, Tryz.ntmps15
    go_wp2
    have hb0 : ((w.alloc (.cells #[.int .i64 h.kind, .bool h.b, .bool h.d.neg, .string h.d.digits, .int .i64 h.d.exp, .int .u64 (h.u : Int), .int .i64 h.w, .string h.s, .slice a l.length cap] 27)).alloc (.cells #[.int .i64 0, .bool false, .bool false, .string ⟨#[]⟩, .int .i64 0, .int .u64 0, .int .i64 0, .string ⟨#[]⟩, .slice none 0 0] 27)).heap[w.heap.size]? = some (.cells #[.int .i64 h.kind, .bool h.b, .bool h.d.neg, .string h.d.digits, .int .i64 h.d.exp, .int .u64 (h.u : Int), .int .i64 h.w, .string h.s, .slice a l.length cap] 27 (0, 0)) := (by repeat (first | with_reducible exact heap_new' (by simp) | with_reducible refine heap_old ?_ | with_reducible refine heap_drew ?_))
    have hr0 : ((w.alloc (.cells #[.int .i64 h.kind, .bool h.b, .bool h.d.neg, .string h.d.digits, .int .i64 h.d.exp, .int .u64 (h.u : Int), .int .i64 h.w, .string h.s, .slice a l.length cap] 27)).alloc (.cells #[.int .i64 0, .bool false, .bool false, .string ⟨#[]⟩, .int .i64 0, .int .u64 0, .int .i64 0, .string ⟨#[]⟩, .slice none 0 0] 27)).heap[w.heap.size + 1]? = some (.cells #[.int .i64 0, .bool false, .bool false, .string ⟨#[]⟩, .int .i64 0, .int .u64 0, .int .i64 0, .string ⟨#[]⟩, .slice none 0 0] 27 (0, 0)) := (by repeat (first | with_reducible exact heap_new' (by simp) | with_reducible refine heap_old ?_ | with_reducible refine heap_drew ?_))
    have hz1 : ((w.alloc (.cells #[.int .i64 h.kind, .bool h.b, .bool h.d.neg, .string h.d.digits, .int .i64 h.d.exp, .int .u64 (h.u : Int), .int .i64 h.w, .string h.s, .slice a l.length cap] 27)).alloc (.cells #[.int .i64 0, .bool false, .bool false, .string ⟨#[]⟩, .int .i64 0, .int .u64 0, .int .i64 0, .string ⟨#[]⟩, .slice none 0 0] 27)).heap.size = w.heap.size + 2 := by simp
    have hk1 : Same w ((w.alloc (.cells #[.int .i64 h.kind, .bool h.b, .bool h.d.neg, .string h.d.digits, .int .i64 h.d.exp, .int .u64 (h.u : Int), .int .i64 h.w, .string h.s, .slice a l.length cap] 27)).alloc (.cells #[.int .i64 0, .bool false, .bool false, .string ⟨#[]⟩, .int .i64 0, .int .u64 0, .int .i64 0, .string ⟨#[]⟩, .slice none 0 0] 27)) := (by repeat (first | with_reducible exact Keep.refl _ _ | with_reducible refine Keep.alloc ?_ _ | with_reducible refine Keep.drew ?_ | with_reducible refine Keep.drewN ?_ _ | with_reducible refine Keep.trans ?_ (by assumption)))
    generalize ((w.alloc (.cells #[.int .i64 h.kind, .bool h.b, .bool h.d.neg, .string h.d.digits, .int .i64 h.d.exp, .int .u64 (h.u : Int), .int .i64 h.w, .string h.s, .slice a l.length cap] 27)).alloc (.cells #[.int .i64 0, .bool false, .bool false, .string ⟨#[]⟩, .int .i64 0, .int .u64 0, .int .i64 0, .string ⟨#[]⟩, .slice none 0 0] 27)) = W1 at hb0 hr0 hz1 hk1 ⊢
    go_loopw [3, 4] (fun ov iv wr => ∃ k : Nat, k ≤ l.length ∧ iv = .int .i64 (k : Int) ∧ OwnL (fun x => w.heap.size + 2 ≤ x) wr (w.heap.size + 2) ov (turnsTo l k) ∧ Same w wr ∧ wr.heap[w.heap.size]? = some (.cells #[.int .i64 h.kind, .bool h.b, .bool h.d.neg, .string h.d.digits, .int .i64 h.d.exp, .int .u64 (h.u : Int), .int .i64 h.w, .string h.s, .slice a l.length cap] 27 (0, 0)) ∧ wr.heap[w.heap.size + 1]? = some (.cells #[.int .i64 0, .bool false, .bool false, .string ⟨#[]⟩, .int .i64 0, .int .u64 0, .int .i64 0, .string ⟨#[]⟩, .slice none 0 0] 27 (0, 0))) (fun _ iv _ => l.length - (RowKit.intOf iv).toNat)
    case atStart => exact ⟨0, Nat.zero_le _, rfl, OwnL.nil _ _ _, hk1, hb0, hr0⟩
    case round =>
      clear hb0 hr0 hz1 hk1
      obtain ⟨k, hkl, rfl, hown, hsm, hb, hr⟩ := hrel
      obtain ⟨n0, n1, n2, n3, n4, n5, n6, n7, n8⟩ := cells9 hb
      obtain ⟨m0, m1, m2, m3, m4, m5, m6, m7, m8⟩ := cells9 hr
      have hfb : ∀ j, wr.frozen? ⟨w.heap.size, j, none⟩ = false := Lib.frozen_of_heap hb
      have hfr : ∀ j, wr.frozen? ⟨w.heap.size + 1, j, none⟩ = false := Lib.frozen_of_heap hr
      have htl : (turnsTo l k).length = k := by unfold turnsTo; rw [turnL_len, List.length_take]; omega
      obtain ⟨a0, cp0, rfl⟩ := hown.is_slice
      by_cases hlt : k < l.length
      · rw [htl] at hown
        obtain ⟨b', off, lv', rfl, _, _, hrk, hok', hra⟩ := hget k hlt
        obtain ⟨a', cap', rfl⟩ := hrk.is_slice
        obtain ⟨c0, c1, c2, c3, c4, c5, c6, c7, c8⟩ := nodeAt_of (rangeAt_same hsm hra)
        have hcall := fun W (hW' : Same w W) => IH.out (l[k]) (List.getElem_mem hlt) S _ W (hrk.same hW')
        have hst := turnsTo_succ l k hlt
        have hct : (l[k]).turn = .node (l[k]).hd (l[k]).turn.l := by rw [← turn_hd]; exact (Tree.eta _).symm
        unfold TurnOut at hcall
        obtain ⟨q, hq⟩ : ∃ q, (l[k]).hd = q := ⟨_, rfl⟩
        obtain ⟨cl, hcl⟩ : ∃ cl, (l[k]).turn.l = cl := ⟨_, rfl⟩
        rw [hcl] at hcall hct
        rw [hq] at hcall hct hok'
        rw [hct] at hst
        have HST := Lib.hid hst
        clear hst hct hcl
        have hszw := hsm.size
        have hlt0 := fun b (hb : wr.heap.size ≤ b) => hown.lt hb
        rw [hq] at c0 c1 c2 c3 c4 c5 c6 c7
        clear hq
        have g3 : wrap64 ((k : Int) + 1) = (k : Int) + 1 := IntWalk.wrap64_in _ (by omega)
        go_wp2_with (first
          | (go_at_call 15; refine (hcall _ (by repeat (first | with_reducible exact Keep.refl _ _ | with_reducible refine Keep.alloc ?_ _ | with_reducible refine Keep.drew ?_ | with_reducible refine Keep.drewN ?_ _ | with_reducible refine Keep.trans ?_ (by assumption)))).mono ?_; rintro e w1 ⟨lv2, rfl, hr2, hk2⟩; obtain ⟨a2, cc2, rfl⟩ := hr2.is_slice; obtain ⟨e0, e1, e2, e3, e4, e5, e6, e7, e8⟩ := cells9 (heap_old (o := .cells #[.int .i64 q.kind, .bool q.b, .bool q.d.neg, .string q.d.digits, .int .i64 q.d.exp, .int .u64 (q.u : Int), .int .i64 q.w, .string q.s, .slice a2 cl.length cc2] 27) (hk2.same _ _ hb trivial)))
          | (at_builtin; refine wpList_append_trees (v := .slice a0 k cp0) (ts := [.node q cl]) (news := nodeCs q (.slice a2 cl.length cc2)) rfl _ _ rfl rfl rfl (((hown.same hk2).same ((Keep.refl _ _).alloc _)).same ((Keep.refl _ _).alloc _)) rfl ?c2 ?c3 (node_one _ _ _ _) ?c4 ?c5 ?_))
        case c2 =>
          refine repL_one ?_
          rw [rep_node]
          refine ⟨hok', _, rfl, ?_⟩
          exact ((hr2.mono (fun b hb h => (⟨by have h' : wr.heap.size ≤ b := h; have := lt_of_some hr; omega, hlt0 b h⟩ : _ ∧ _))).same ((Keep.refl _ _).alloc _)).same ((Keep.refl _ _).alloc _)
        case c3 =>
          have hz : (w1.alloc (.cells #[.int .i64 q.kind, .bool q.b, .bool q.d.neg, .string q.d.digits, .int .i64 q.d.exp, .int .u64 (q.u : Int), .int .i64 q.w, .string q.s, .slice a2 cl.length cc2] 27)).heap.size = w1.heap.size + 1 := by simp
          intro j u hju
          have e := cells_new (w1.alloc (.cells #[.int .i64 q.kind, .bool q.b, .bool q.d.neg, .string q.d.digits, .int .i64 q.d.exp, .int .u64 (q.u : Int), .int .i64 q.w, .string q.s, .slice a2 cl.length cc2] 27)) #[.int .i64 q.kind, .bool q.b, .bool q.d.neg, .string q.d.digits, .int .i64 q.d.exp, .int .u64 (q.u : Int), .int .i64 q.w, .string q.s, .slice a2 cl.length cc2] 27 j u hju
          rw [hz] at e
          exact e
        case c4 => simp only [List.length_cons, List.length_nil, htl]; omega
        case c5 => have := hk2.size; have := lt_of_some hr; simp; omega
        intro v' w2 hown' hg
        have hsA : Same w1 ((w1.alloc (.cells #[.int .i64 q.kind, .bool q.b, .bool q.d.neg, .string q.d.digits, .int .i64 q.d.exp, .int .u64 (q.u : Int), .int .i64 q.w, .string q.s, .slice a2 cl.length cc2] 27)).alloc (.cells #[.int .i64 q.kind, .bool q.b, .bool q.d.neg, .string q.d.digits, .int .i64 q.d.exp, .int .u64 (q.u : Int), .int .i64 q.w, .string q.s, .slice a2 cl.length cc2] 27)) := (by repeat (first | with_reducible exact Keep.refl _ _ | with_reducible refine Keep.alloc ?_ _ | with_reducible refine Keep.drew ?_ | with_reducible refine Keep.drewN ?_ _ | with_reducible refine Keep.trans ?_ (by assumption)))
        have hsm2 : Same w w2 := same_grown ((hsm.trans hk2).trans hsA) (by omega) ((hown.same hk2).same hsA) hg
        have hb2 : w2.heap[w.heap.size]? = _ := (hg.block _ (by have := lt_of_some (hk2.same _ _ hb trivial); simp; omega) (fun e => hown.apart (b := w.heap.size) (by omega) e.symm)).trans (hsA.same _ _ (hk2.same _ _ hb trivial) trivial)
        have hr2' : w2.heap[w.heap.size + 1]? = _ := (hg.block _ (by have := lt_of_some (hk2.same _ _ hr trivial); simp; omega) (fun e => hown.apart (b := w.heap.size + 1) (by omega) e.symm)).trans (hsA.same _ _ (hk2.same _ _ hr trivial) trivial)
        rw [← HST.out] at hown'
        obtain ⟨a9, cc9, rfl⟩ := hown'.is_slice
        clear e0 e1 e2 e3 e4 e5 e6 e7 e8 hg hsA hr2 hk2 hown n0 n1 n2 n3 n4 n5 n6 n7 n8 c0 c1 c2 c3 c4 c5 c6 c7 c8
        go_wp2
        go_roundw
        case rel => exact ⟨k + 1, by omega, by go_num, hown', hsm2, hb2, hr2'⟩
        case measure => simp [RowKit.intOf]; omega
      · obtain rfl : k = l.length := by omega
        have hfull : turnsTo l l.length = turnL l := by unfold turnsTo; rw [List.take_length]
        have HF := Lib.hid hfull
        have hrep2 := hown.rep (fun b hb => hb) (by rw [htl]; omega)
        have hkeep : ∀ (X : World) (p : Addr) (v : Value) (b : Nat), p.block ≠ b → (X.setCell p v).heap[b]? = X.heap[b]? := fun X p v b h => Below.heap_setCell X p v b (fun e => h e.symm)
        clear hfull htl hget IH
        go_wp2
        have hX : (wr.setCell ⟨w.heap.size, 8, none⟩ (.slice a0 (turnsTo l l.length).length cp0)).heap[w.heap.size + 1]? = some (.cells #[.int .i64 0, .bool false, .bool false, .string ⟨#[]⟩, .int .i64 0, .int .u64 0, .int .i64 0, .string ⟨#[]⟩, .slice none 0 0] 27 (0, 0)) := by rw [hkeep _ _ _ _ (by show w.heap.size ≠ w.heap.size + 1; omega)]; exact hr
        obtain ⟨h9, hk9⟩ := put9 hX (.int .i64 h.kind) (.bool h.b) (.bool h.d.neg) (.string h.d.digits) (.int .i64 h.d.exp) (.int .u64 h.u) (.int .i64 h.w) (.string h.s) (.slice a0 (turnsTo l l.length).length cp0)
        refine bodyPost_ret (results_cell_row rfl _ _ (w.heap.size + 1) 27 _ (0, 0) _ rfl h9 Tryz.underlying27 rfl (by kernel_rfl)) rfl ⟨.slice a0 (turnsTo l l.length).length cp0, rfl, ?_, ?_⟩
        · rw [HE.out]
          show RepS _ _ (turnL l) _
          rw [← HF.out]
          have hk8 : Keep (fun k _ => k ≠ w.heap.size) wr (wr.setCell ⟨w.heap.size, 8, none⟩ (.slice a0 (turnsTo l l.length).length cp0)) := (Keep.refl _ _).setCell _ fun o _ h _ => h rfl
          refine RepS.mono (fun b _ (hb : w.heap.size + 2 ≤ b) => (by omega : w.heap.size ≤ b)) ?_
          exact (hrep2.keep hk8 fun b (hb : w.heap.size + 2 ≤ b) _ _ => by omega).keep hk9 fun b (hb : w.heap.size + 2 ≤ b) _ _ => by omega
        · have hk8 : Same w (wr.setCell ⟨w.heap.size, 8, none⟩ (.slice a0 (turnsTo l l.length).length cp0)) := hsm.setCell (p := ⟨w.heap.size, 8, none⟩) _ (fun o _ _ h => absurd h (Nat.lt_irrefl _))
          exact ⟨hk9.os.trans hk8.os, hk9.tape.trans hk8.tape, hk9.output.trans hk8.output, Nat.le_trans hk8.size hk9.size, fun k o hk _ => hk9.same k o (hk8.same k o hk trivial) (by have := lt_of_some hk; omega)⟩
end Go.Tm

set_option linter.unusedVariables false
namespace Go.Tm
open Go.RowKit Go.Proofs
def pairsTo (l : List Tree) (k : Nat) : List Tree := revP (turnL (l.take (k / 2 * 2)))
theorem pairsTo_even (l : List Tree) (k : Nat) (h : k % 2 = 0) : pairsTo l (k + 1) = pairsTo l k := by
  unfold pairsTo
  rw [show (k + 1) / 2 * 2 = k / 2 * 2 by omega]
theorem revP_snoc (a : List Tree) (x y : Tree) (h : a.length % 2 = 0) : revP (a ++ [x, y]) = x :: y :: revP a := by
  obtain ⟨ps, rfl⟩ := even_pairs a h
  have : unpairs ps ++ [x, y] = unpairs (ps ++ [(x, y)]) := by rw [unpairs_append]; rfl
  rw [this, revP_unpairs, revP_unpairs, List.reverse_append]
  rfl
theorem revP_len (a : List Tree) (h : a.length % 2 = 0) : (revP a).length = a.length := by
  obtain ⟨ps, rfl⟩ := even_pairs a h
  rw [revP_unpairs, unpairs_len, unpairs_len, List.length_reverse]
theorem pairsTo_odd (l : List Tree) (j : Nat) (h : j % 2 = 0) (hl : j + 1 < l.length) : pairsTo l (j + 1 + 1) = [(l[j]).turn, (l[j + 1]).turn] ++ pairsTo l (j + 1) := by
  rw [pairsTo_even l j h]
  unfold pairsTo
  rw [show (j + 1 + 1) / 2 * 2 = j + 1 + 1 by omega, show j / 2 * 2 = j by omega, List.take_succ_eq_append_getElem hl, List.take_succ_eq_append_getElem (by omega : j < l.length), turnL_map, turnL_map, List.map_append, List.map_append, List.append_assoc]
  rw [show List.map Tree.turn [l[j]] ++ List.map Tree.turn [l[j + 1]] = [(l[j]).turn, (l[j + 1]).turn] from rfl]
  rw [revP_snoc _ _ _ (by rw [List.length_map, List.length_take]; omega)]
  rfl
theorem pairsTo_len (l : List Tree) (k : Nat) (h : k ≤ l.length) : (pairsTo l k).length = k / 2 * 2 := by
  unfold pairsTo
  have : (turnL (l.take (k / 2 * 2))).length = k / 2 * 2 := by rw [turnL_len, List.length_take]; omega
  rw [revP_len _ (by omega), this]
theorem pairsTo_all (l : List Tree) (h : l.length % 2 = 0) : pairsTo l l.length = revP (turnL l) := by
  unfold pairsTo
  rw [show l.length / 2 * 2 = l.length by omega, List.take_length]
theorem oper_append1 {F : Fence} {n : Nat} {w w' : World} {o : Oper} {a : Act} {K : Act → World → Prop} {Q : Exit → Act → World → Prop} {t : TypeId} {v v' vx : Value} (s x : Operand)
    (ho : o.op = .call { callee := .builtin .append, args := #[s, x], argTypes := #[t, t] }) (hs : a.eval s = v) (hx : a.eval x = vx)
    (hrun : (Builtin.append_ #[t, t] o.type #[v, vx]).run Tryz.prog w = .ok v' w') (hK : K (a.put o.dst v') w') : o.wpIn F n Tryz.prog a w K Q := by
  unfold Oper.wpIn
  refine ⟨?_, ?_⟩
  · simp [Oper.about, ho, resolve, Target.leads, Sem.run_pure]
  · rw [Oper.semAt_plain F _ _ (by rw [ho]; intro c hc'; cases hc')]
    simp [execOp, ho, resolve, invoke, builtin, hs, hx, hrun, Result.andThen]
    exact hK
theorem OwnL.none {S : Nat → Prop} {w : World} {B n c : Nat} {l : List Tree} (h : OwnL S w B (.slice none n c) l) : l = [] ∧ n = 0 ∧ c = 0 := by
  obtain ⟨xs, h, hr⟩ := h
  rcases h.2 with ⟨e, h0⟩ | ⟨g, cap, cur, e, _⟩
  · cases e
    exact ⟨List.length_eq_zero_iff.1 h0, rfl, rfl⟩
  · cases e
theorem own_two {S : Nat → Prop} (w : World) (B : Nat) (p q : Hd) (pl ql : List Tree) (pv qv : Value) (hB : B ≤ w.heap.size) (hp : p.ok) (hq : q.ok) (h1 : RepS (fun b => S b ∧ b < w.heap.size) w pl pv) (h2 : RepS (fun b => S b ∧ b < w.heap.size) w ql qv) :
    OwnL S (w.alloc (.cells (nodeCs p pv ++ nodeCs q qv).toArray 27)) B (.slice (some ⟨w.heap.size, 0, .none⟩) 2 2) [.node p pl, .node q ql] := by
  have hs : Same w (w.alloc (.cells (nodeCs p pv ++ nodeCs q qv).toArray 27)) := (Keep.refl _ _).alloc _
  have mon : ∀ b, (S b ∧ b < w.heap.size) → (S b ∧ (Value.slice (some ⟨w.heap.size, 0, .none⟩) 2 2).ownBlock ≠ some b) := fun b h => ⟨h.1, by simp [Value.ownBlock]; omega⟩
  refine ⟨nodeCs p pv ++ nodeCs q qv, ⟨rfl, .inr ⟨w.heap.size, 2, (nodeCs p pv ++ nodeCs q qv).toArray, rfl, hB, World.alloc_heap_new w _, Nat.le_refl _, by decide, rfl, rfl⟩⟩, ?_⟩
  rw [RepL]
  refine ⟨nodeCs p pv, nodeCs q qv, rfl, rep_node.2 ⟨hp, _, rfl, (h1.mono fun b _ h => mon b h).same hs⟩, ?_⟩
  exact repL_one (rep_node.2 ⟨hq, _, rfl, (h2.mono fun b _ h => mon b h).same hs⟩)
theorem repL_cells {S : Nat → Prop} {w : World} : ∀ {l : List Tree} {xs : List Value}, RepL S w l xs → ∀ u ∈ xs, u.oneCell' = true
  | [], xs, h, u, hu => by rw [RepL] at h; subst h; cases hu
  | .node h k :: l, xs, hh, u, hu => by
    rw [RepL] at hh
    obtain ⟨cs, rest, rfl, h1, h2⟩ := hh
    rcases List.mem_append.1 hu with hu | hu
    · obtain ⟨_, lv, rfl, h3⟩ := rep_node.1 h1
      obtain ⟨a, c, rfl⟩ := h3.is_slice
      exact node_one _ _ _ _ u hu
    · exact repL_cells h2 u hu
set_option maxHeartbeats 1000000 in
theorem append_pair {S : Nat → Prop} {w : World} {B : Nat} {xv : Value} {acc : List Tree} (ty : TypeId) (p q : Hd) (pl ql : List Tree) (pv qv : Value) (hown : OwnL S w B xv acc) (hB : B ≤ w.heap.size) (hlen : acc.length ≤ 1000) (hp : p.ok) (hq : q.ok)
    (h1 : RepS (fun b => S b ∧ b < w.heap.size) w pl pv) (h2 : RepS (fun b => S b ∧ b < w.heap.size) w ql qv) :
    ∃ v' w', (Builtin.append_ #[25, 25] ty #[.slice (some ⟨w.heap.size, 0, .none⟩) 2 2, xv]).run Tryz.prog (w.alloc (.cells (nodeCs p pv ++ nodeCs q qv).toArray 27)) = .ok v' w' ∧ OwnL S w' B v' ([.node p pl, .node q ql] ++ acc) ∧ Same w w' := by
  have own2 := own_two w B p q pl ql pv qv hB hp hq h1 h2
  have hs : Same w (w.alloc (.cells (nodeCs p pv ++ nodeCs q qv).toArray 27)) := (Keep.refl _ _).alloc _
  obtain ⟨xa, xc, rfl⟩ := hown.is_slice
  cases xa with
  | none =>
    obtain ⟨e1, e2, e3⟩ := hown.none
    subst e1 e3
    refine ⟨_, _, ?_, by simpa using own2, hs⟩
    obtain ⟨i, hi, _⟩ := Option.map_eq_some_iff.1 node_info
    simp [Builtin.append_, run_underlying Tryz.underlying25, sizeOf, typeInfo, Builtin.lenOf, Builtin.firstCells, loadCells, hi, storeCells]
  | some ad =>
    obtain ⟨xs, hrow, hrep⟩ := hown
    have hrow2 := hrow
    obtain ⟨e0, h0 | ⟨g, cap, cur, e, hb, hg, hrest⟩⟩ := hrow
    · cases h0.1
    · cases e
      have hcl := hrow2.cells (g := g) rfl
      have hn : RepL (fun b => S b ∧ (Value.slice (some ⟨w.heap.size, 0, .none⟩) 2 2).ownBlock ≠ some b) (w.alloc (.cells (nodeCs p pv ++ nodeCs q qv).toArray 27)) acc xs := (hrep.mono fun b hb h => ⟨h.1, by simp [Value.ownBlock]; omega⟩).keep hs fun _ _ _ _ => trivial
      obtain ⟨v', w', hr, h3, h4⟩ := run_append_trees (c := xc) ty own2 rfl hn (fun j u hu => hs.cell (hcl j u hu) fun _ _ => trivial) (repL_cells hrep) (by simp only [List.length_cons, List.length_nil]; omega) (Nat.le_trans hB hs.size)
      refine ⟨v', w', hr, h3, ?_⟩
      exact hs.grown h4 fun r hr o ho _ hlt => by simp [Value.ownBlock] at hr; omega
set_option maxRecDepth 100000 in
set_option maxHeartbeats 4000000 in
theorem turned_pairs (h : Hd) (l : List Tree) (ih : ∀ x ∈ l, TurnAt x) (hl40 : l.length ≤ 40) (h8 : h.kind = 8) (hev : l.length % 2 = 0) : TurnAt (.node h l) := by
  intro S lv w hrs
  have hend : (Tree.node h l).turn = .node h (revP (turnL l)) := by rw [Tree.turn, if_pos ⟨h8, hev⟩]
  simp only [Tree.l_node, Tree.hd_node] at hrs ⊢
  obtain ⟨_, a, cap, rfl, hcap, hget⟩ := hrs.shape
  clear hrs
  have HE := Lib.hid hend
  have IH := Lib.hid ih
  clear hend ih
  have k8 : (h.kind == 8) = true := by simpa using h8
  have nk8 : (h.kind != 8) = false := by simpa using h8
  have o1 : ((l.length : Int) % 2 == 1) = false := by simp; omega
  have HEV := Lib.hid hev
  clear hev h8
  go_enter Tryz.func15, Tryz.ntmps15
  go_wp2
  have hb0 : ((w.alloc (.cells #[.int .i64 h.kind, .bool h.b, .bool h.d.neg, .string h.d.digits, .int .i64 h.d.exp, .int .u64 (h.u : Int), .int .i64 h.w, .string h.s, .slice a l.length cap] 27)).alloc (.cells #[.int .i64 0, .bool false, .bool false, .string ⟨#[]⟩, .int .i64 0, .int .u64 0, .int .i64 0, .string ⟨#[]⟩, .slice none 0 0] 27)).heap[w.heap.size]? = some (.cells #[.int .i64 h.kind, .bool h.b, .bool h.d.neg, .string h.d.digits, .int .i64 h.d.exp, .int .u64 (h.u : Int), .int .i64 h.w, .string h.s, .slice a l.length cap] 27 (0, 0)) := (by repeat (first | with_reducible exact heap_new' (by simp) | with_reducible refine heap_old ?_ | with_reducible refine heap_drew ?_))
  have hr0 : ((w.alloc (.cells #[.int .i64 h.kind, .bool h.b, .bool h.d.neg, .string h.d.digits, .int .i64 h.d.exp, .int .u64 (h.u : Int), .int .i64 h.w, .string h.s, .slice a l.length cap] 27)).alloc (.cells #[.int .i64 0, .bool false, .bool false, .string ⟨#[]⟩, .int .i64 0, .int .u64 0, .int .i64 0, .string ⟨#[]⟩, .slice none 0 0] 27)).heap[w.heap.size + 1]? = some (.cells #[.int .i64 0, .bool false, .bool false, .string ⟨#[]⟩, .int .i64 0, .int .u64 0, .int .i64 0, .string ⟨#[]⟩, .slice none 0 0] 27 (0, 0)) := (by repeat (first | with_reducible exact heap_new' (by simp) | with_reducible refine heap_old ?_ | with_reducible refine heap_drew ?_))
  have hz1 : ((w.alloc (.cells #[.int .i64 h.kind, .bool h.b, .bool h.d.neg, .string h.d.digits, .int .i64 h.d.exp, .int .u64 (h.u : Int), .int .i64 h.w, .string h.s, .slice a l.length cap] 27)).alloc (.cells #[.int .i64 0, .bool false, .bool false, .string ⟨#[]⟩, .int .i64 0, .int .u64 0, .int .i64 0, .string ⟨#[]⟩, .slice none 0 0] 27)).heap.size = w.heap.size + 2 := by simp
  have hk1 : Same w ((w.alloc (.cells #[.int .i64 h.kind, .bool h.b, .bool h.d.neg, .string h.d.digits, .int .i64 h.d.exp, .int .u64 (h.u : Int), .int .i64 h.w, .string h.s, .slice a l.length cap] 27)).alloc (.cells #[.int .i64 0, .bool false, .bool false, .string ⟨#[]⟩, .int .i64 0, .int .u64 0, .int .i64 0, .string ⟨#[]⟩, .slice none 0 0] 27)) := (by repeat (first | with_reducible exact Keep.refl _ _ | with_reducible refine Keep.alloc ?_ _ | with_reducible refine Keep.drew ?_ | with_reducible refine Keep.drewN ?_ _ | with_reducible refine Keep.trans ?_ (by assumption)))
  generalize ((w.alloc (.cells #[.int .i64 h.kind, .bool h.b, .bool h.d.neg, .string h.d.digits, .int .i64 h.d.exp, .int .u64 (h.u : Int), .int .i64 h.w, .string h.s, .slice a l.length cap] 27)).alloc (.cells #[.int .i64 0, .bool false, .bool false, .string ⟨#[]⟩, .int .i64 0, .int .u64 0, .int .i64 0, .string ⟨#[]⟩, .slice none 0 0] 27)) = W1 at hb0 hr0 hz1 hk1 ⊢
  go_loopw [3, 4] (fun ov iv wr => ∃ k : Nat, k ≤ l.length ∧ iv = .int .i64 (k : Int) ∧ OwnL (fun x => w.heap.size + 2 ≤ x) wr (w.heap.size + 2) ov (pairsTo l k) ∧ Same w wr ∧ wr.heap[w.heap.size]? = some (.cells #[.int .i64 h.kind, .bool h.b, .bool h.d.neg, .string h.d.digits, .int .i64 h.d.exp, .int .u64 (h.u : Int), .int .i64 h.w, .string h.s, .slice a l.length cap] 27 (0, 0)) ∧ wr.heap[w.heap.size + 1]? = some (.cells #[.int .i64 0, .bool false, .bool false, .string ⟨#[]⟩, .int .i64 0, .int .u64 0, .int .i64 0, .string ⟨#[]⟩, .slice none 0 0] 27 (0, 0))) (fun _ iv _ => l.length - (RowKit.intOf iv).toNat)
  case atStart => exact ⟨0, Nat.zero_le _, rfl, OwnL.nil _ _ _, hk1, hb0, hr0⟩
  case round =>
    clear hb0 hr0 hz1 hk1
    obtain ⟨k, hkl, rfl, hown, hsm, hb, hr⟩ := hrel
    obtain ⟨n0, n1, n2, n3, n4, n5, n6, n7, n8⟩ := cells9 hb
    obtain ⟨m0, m1, m2, m3, m4, m5, m6, m7, m8⟩ := cells9 hr
    have hfb : ∀ j, wr.frozen? ⟨w.heap.size, j, none⟩ = false := Lib.frozen_of_heap hb
    have hfr : ∀ j, wr.frozen? ⟨w.heap.size + 1, j, none⟩ = false := Lib.frozen_of_heap hr
    have HTL := Lib.hid (pairsTo_len l k hkl)
    obtain ⟨a0, cp0, rfl⟩ := hown.is_slice
    by_cases hlt : k < l.length
    · obtain ⟨b', off, lv', rfl, _, _, hrk, hok', hra⟩ := hget k hlt
      obtain ⟨a', cap', rfl⟩ := hrk.is_slice
      obtain ⟨c0, c1, c2, c3, c4, c5, c6, c7, c8⟩ := nodeAt_of (rangeAt_same hsm hra)
      have hcall := fun W (hW' : Same w W) => IH.out (l[k]) (List.getElem_mem hlt) S _ W (hrk.same hW')
      have hct : (l[k]).turn = .node (l[k]).hd (l[k]).turn.l := by rw [← turn_hd]; exact (Tree.eta _).symm
      unfold TurnOut at hcall
      obtain ⟨q, hq⟩ : ∃ q, (l[k]).hd = q := ⟨_, rfl⟩
      obtain ⟨cl, hcl⟩ : ∃ cl, (l[k]).turn.l = cl := ⟨_, rfl⟩
      rw [hcl] at hcall hct
      rw [hq] at hcall hct hok'
      have HCT := Lib.hid hct
      clear hct hcl
      have hszw := hsm.size
      rw [hq] at c0 c1 c2 c3 c4 c5 c6 c7
      clear hq
      have g3 : wrap64 ((k : Int) + 1) = (k : Int) + 1 := IntWalk.wrap64_in _ (by omega)
      rcases (by omega : k % 2 = 0 ∨ k % 2 = 1) with hpar | hpar
      · have o2 : ((k : Int) % 2 == 1) = false := by simp; omega
        have hst := Lib.hid (pairsTo_even l k hpar)
        clear hpar
        go_wp2_with (first
          | (go_at_call 15; refine (hcall _ (by repeat (first | with_reducible exact Keep.refl _ _ | with_reducible refine Keep.alloc ?_ _ | with_reducible refine Keep.drew ?_ | with_reducible refine Keep.drewN ?_ _ | with_reducible refine Keep.trans ?_ (by assumption)))).mono ?_; rintro e w1 ⟨lv2, rfl, hr2, hk2⟩; obtain ⟨a2, cc2, rfl⟩ := hr2.is_slice; obtain ⟨e0, e1, e2, e3, e4, e5, e6, e7, e8⟩ := cells9 (heap_old (o := .cells #[.int .i64 q.kind, .bool q.b, .bool q.d.neg, .string q.d.digits, .int .i64 q.d.exp, .int .u64 (q.u : Int), .int .i64 q.w, .string q.s, .slice a2 cl.length cc2] 27) (hk2.same _ _ hb trivial))))
        have hsA : Same w1 (w1.alloc (.cells #[.int .i64 q.kind, .bool q.b, .bool q.d.neg, .string q.d.digits, .int .i64 q.d.exp, .int .u64 (q.u : Int), .int .i64 q.w, .string q.s, .slice a2 cl.length cc2] 27)) := (by repeat (first | with_reducible exact Keep.refl _ _ | with_reducible refine Keep.alloc ?_ _ | with_reducible refine Keep.drew ?_ | with_reducible refine Keep.drewN ?_ _ | with_reducible refine Keep.trans ?_ (by assumption)))
        have hsm2 := (hsm.trans hk2).trans hsA
        have hown' := (hown.same hk2).same hsA
        have hb2 := hsA.same _ _ (hk2.same _ _ hb trivial) trivial
        have hr2' := hsA.same _ _ (hk2.same _ _ hr trivial) trivial
        go_roundw
        case rel => exact ⟨k + 1, by omega, by go_num, by rw [hst.out]; exact hown', hsm2, hb2, hr2'⟩
        case measure => simp [RowKit.intOf]; omega
      · obtain ⟨j, hkj⟩ : ∃ j, k = j + 1 := ⟨k - 1, by omega⟩
        have hj1 : (k : Int) - 1 = (j : Int) := by omega
        have hjl : j < l.length := by omega
        obtain ⟨bj, offj, lvj, ej, _, _, hrj, hokj, hraj⟩ := hget j hjl
        cases ej
        obtain ⟨aj, capj, rfl⟩ := hrj.is_slice
        have hcallj := fun W (hW' : Same w W) => IH.out (l[j]) (List.getElem_mem hjl) S _ W (hrj.same hW')
        have hctj : (l[j]).turn = .node (l[j]).hd (l[j]).turn.l := by rw [← turn_hd]; exact (Tree.eta _).symm
        unfold TurnOut at hcallj
        obtain ⟨p, hpq⟩ : ∃ p, (l[j]).hd = p := ⟨_, rfl⟩
        obtain ⟨pl, hpl⟩ : ∃ pl, (l[j]).turn.l = pl := ⟨_, rfl⟩
        rw [hpl] at hcallj hctj
        rw [hpq] at hcallj hctj hokj hraj
        have hst : pairsTo l (k + 1) = [.node p pl, .node q cl] ++ pairsTo l k := by
          subst hkj
          rw [pairsTo_odd l j (by omega) hlt, hctj, HCT.out]
        have HST := Lib.hid hst
        have o2 : ((k : Int) % 2 == 1) = true := by simp; omega
        have HLE : (pairsTo l k).length ≤ 1000 := by rw [HTL.out]; omega
        have HL2 := Lib.hid HLE
        have HJ := Lib.hid hkj
        clear hst HLE hctj hpl hpq hkj hpar
        go_wp2_with (first
          | (go_at_call 15; refine (hcall _ (by repeat (first | with_reducible exact Keep.refl _ _ | with_reducible refine Keep.alloc ?_ _ | with_reducible refine Keep.drew ?_ | with_reducible refine Keep.drewN ?_ _ | with_reducible refine Keep.trans ?_ (by assumption)))).mono ?_; rintro e w1 ⟨lv2, rfl, hr2, hk2⟩; obtain ⟨a2, cc2, rfl⟩ := hr2.is_slice; obtain ⟨e0, e1, e2, e3, e4, e5, e6, e7, e8⟩ := cells9 (heap_old (o := .cells #[.int .i64 q.kind, .bool q.b, .bool q.d.neg, .string q.d.digits, .int .i64 q.d.exp, .int .u64 (q.u : Int), .int .i64 q.w, .string q.s, .slice a2 cl.length cc2] 27) (hk2.same _ _ hb trivial))))
        have hsA : Same w1 (w1.alloc (.cells #[.int .i64 q.kind, .bool q.b, .bool q.d.neg, .string q.d.digits, .int .i64 q.d.exp, .int .u64 (q.u : Int), .int .i64 q.w, .string q.s, .slice a2 cl.length cc2] 27)) := (by repeat (first | with_reducible exact Keep.refl _ _ | with_reducible refine Keep.alloc ?_ _ | with_reducible refine Keep.drew ?_ | with_reducible refine Keep.drewN ?_ _ | with_reducible refine Keep.trans ?_ (by assumption)))
        have hsmx := (hsm.trans hk2).trans hsA
        have hownx := (hown.same hk2).same hsA
        have hbx := hsA.same _ _ (hk2.same _ _ hb trivial) trivial
        have hrx := hsA.same _ _ (hk2.same _ _ hr trivial) trivial
        have hqx : (w1.alloc (.cells #[.int .i64 q.kind, .bool q.b, .bool q.d.neg, .string q.d.digits, .int .i64 q.d.exp, .int .u64 (q.u : Int), .int .i64 q.w, .string q.s, .slice a2 cl.length cc2] 27)).heap[w1.heap.size]? = some (.cells #[.int .i64 q.kind, .bool q.b, .bool q.d.neg, .string q.d.digits, .int .i64 q.d.exp, .int .u64 (q.u : Int), .int .i64 q.w, .string q.s, .slice a2 cl.length cc2] 27 (0, 0)) := World.alloc_heap_new w1 _
        have hrqx := (hr2.mono (fun b hb hh => (⟨by have h' : wr.heap.size ≤ b := hh; have := lt_of_some hr; omega, hb⟩ : w.heap.size + 2 ≤ b ∧ b < w1.heap.size))).same hsA
        have hrax := rangeAt_same hsmx hraj
        have hz2x : w.heap.size + 2 ≤ w1.heap.size := by have := hk2.size; have := lt_of_some hr; omega
        have hzx : (w1.alloc (.cells #[.int .i64 q.kind, .bool q.b, .bool q.d.neg, .string q.d.digits, .int .i64 q.d.exp, .int .u64 (q.u : Int), .int .i64 q.w, .string q.s, .slice a2 cl.length cc2] 27)).heap.size = w1.heap.size + 1 := by simp
        clear e0 e1 e2 e3 e4 e5 e6 e7 e8 n0 n1 n2 n3 n4 n5 n6 n7 n8 c0 c1 c2 c3 c4 c5 c6 c7 c8 m0 m1 m2 m3 m4 m5 m6 m7 m8 hfb hfr hcall hra hrk hsA
        generalize (w1.alloc (.cells #[.int .i64 q.kind, .bool q.b, .bool q.d.neg, .string q.d.digits, .int .i64 q.d.exp, .int .u64 (q.u : Int), .int .i64 q.w, .string q.s, .slice a2 cl.length cc2] 27)) = wx at hsmx hownx hbx hrx hqx hrqx hrax hzx ⊢
        clear hb hr hown hraj hr2 hk2 hsm
        obtain ⟨n0, n1, n2, n3, n4, n5, n6, n7, n8⟩ := cells9 hbx
        obtain ⟨e0, e1, e2, e3, e4, e5, e6, e7, e8⟩ := cells9 hqx
        obtain ⟨c0, c1, c2, c3, c4, c5, c6, c7, c8⟩ := nodeAt_of hrax
        refine (wpIn_wide (n := 0)).1 ?_
        refine wpIn_region_shut (n := 0) (fun Z => Z.heap[w.heap.size]? = some (.cells #[.int .i64 h.kind, .bool h.b, .bool h.d.neg, .string h.d.digits, .int .i64 h.d.exp, .int .u64 (h.u : Int), .int .i64 h.w, .string h.s, .slice (some ⟨b', off, none⟩) l.length cap] 27 (0, 0)) ∧ Z.heap[w1.heap.size]? = some (.cells #[.int .i64 q.kind, .bool q.b, .bool q.d.neg, .string q.d.digits, .int .i64 q.d.exp, .int .u64 (q.u : Int), .int .i64 q.w, .string q.s, .slice a2 cl.length cc2] 27 (0, 0)) ∧ Z.rangeAt b' (off + j * 9) (nodeCs p (.slice aj (l[j]).l.length capj))) reads (fun _ => trivial) rfl (by kernel_rfl) (by kernel_rfl) ⟨hbx, hqx, hrax⟩ ?_
        have g4 : IntKind.i64.wrap (j : Int) = (j : Int) := by rw [IntKind.wrap_i64]; omega
        have hin : (0 : Int) ≤ (j : Int) ∧ (j : Int) < (l.length : Int) := by omega
        refine shT_x rfl rfl ?_; intro K hK w' hs; obtain ⟨p0, p1, p2, p3, p4, p5, p6, p7, p8⟩ := cells9 hs.1; obtain ⟨q0, q1, q2, q3, q4, q5, q6, q7, q8⟩ := cells9 hs.2.1; obtain ⟨r0, r1, r2, r3, r4, r5, r6, r7, r8⟩ := nodeAt_of hs.2.2; go_simp; refine hK _ _ ?_; clear hK K p0 p1 p2 p3 p4 p5 p6 p7 p8 q0 q1 q2 q3 q4 q5 q6 q7 q8 r0 r1 r2 r3 r4 r5 r6 r7 r8 hs w'
        refine shT_x rfl rfl ?_; intro K hK w' hs; obtain ⟨p0, p1, p2, p3, p4, p5, p6, p7, p8⟩ := cells9 hs.1; obtain ⟨q0, q1, q2, q3, q4, q5, q6, q7, q8⟩ := cells9 hs.2.1; obtain ⟨r0, r1, r2, r3, r4, r5, r6, r7, r8⟩ := nodeAt_of hs.2.2; go_simp; refine hK _ _ ?_; clear hK K p0 p1 p2 p3 p4 p5 p6 p7 p8 q0 q1 q2 q3 q4 q5 q6 q7 q8 r0 r1 r2 r3 r4 r5 r6 r7 r8 hs w'
        refine shT_x rfl rfl ?_; intro K hK w' hs; obtain ⟨p0, p1, p2, p3, p4, p5, p6, p7, p8⟩ := cells9 hs.1; obtain ⟨q0, q1, q2, q3, q4, q5, q6, q7, q8⟩ := cells9 hs.2.1; obtain ⟨r0, r1, r2, r3, r4, r5, r6, r7, r8⟩ := nodeAt_of hs.2.2; go_simp; refine hK _ _ ?_; clear hK K p0 p1 p2 p3 p4 p5 p6 p7 p8 q0 q1 q2 q3 q4 q5 q6 q7 q8 r0 r1 r2 r3 r4 r5 r6 r7 r8 hs w'
        refine shT_x rfl rfl ?_; intro K hK w' hs; obtain ⟨p0, p1, p2, p3, p4, p5, p6, p7, p8⟩ := cells9 hs.1; obtain ⟨q0, q1, q2, q3, q4, q5, q6, q7, q8⟩ := cells9 hs.2.1; obtain ⟨r0, r1, r2, r3, r4, r5, r6, r7, r8⟩ := nodeAt_of hs.2.2; go_simp; refine hK _ _ ?_; clear hK K p0 p1 p2 p3 p4 p5 p6 p7 p8 q0 q1 q2 q3 q4 q5 q6 q7 q8 r0 r1 r2 r3 r4 r5 r6 r7 r8 hs w'
        refine shT_x rfl rfl ?_; intro K hK w' hs; obtain ⟨p0, p1, p2, p3, p4, p5, p6, p7, p8⟩ := cells9 hs.1; obtain ⟨q0, q1, q2, q3, q4, q5, q6, q7, q8⟩ := cells9 hs.2.1; obtain ⟨r0, r1, r2, r3, r4, r5, r6, r7, r8⟩ := nodeAt_of hs.2.2; go_simp; refine hK _ _ ?_; clear hK K p0 p1 p2 p3 p4 p5 p6 p7 p8 q0 q1 q2 q3 q4 q5 q6 q7 q8 r0 r1 r2 r3 r4 r5 r6 r7 r8 hs w'
        refine shT_x rfl rfl ?_; intro K hK w' hs; obtain ⟨p0, p1, p2, p3, p4, p5, p6, p7, p8⟩ := cells9 hs.1; obtain ⟨q0, q1, q2, q3, q4, q5, q6, q7, q8⟩ := cells9 hs.2.1; obtain ⟨r0, r1, r2, r3, r4, r5, r6, r7, r8⟩ := nodeAt_of hs.2.2; go_simp; refine hK _ _ ?_; clear hK K p0 p1 p2 p3 p4 p5 p6 p7 p8 q0 q1 q2 q3 q4 q5 q6 q7 q8 r0 r1 r2 r3 r4 r5 r6 r7 r8 hs w'
        clear g4
        refine shT_c rfl rfl ?_
        intro K hK
        go_simp
        refine (callsW (hcallj _ hsmx.drew)).mono ?_
        rintro e w4 ⟨lv4, rfl, hr4, hk4⟩
        obtain ⟨a4, cc4, rfl⟩ := hr4.is_slice
        have hb4 := hk4.same _ _ hbx trivial
        have hq4 := hk4.same _ _ hqx trivial
        have hra4 := rangeAt_same hk4 hrax
        refine hK _ _ ⟨hb4, hq4, hra4⟩ ?_
        clear hK K e0 e1 e2 e3 e4 e5 e6 e7 e8 n0 n1 n2 n3 n4 n5 n6 n7 n8 c0 c1 c2 c3 c4 c5 c6 c7 c8
        obtain ⟨e0, e1, e2, e3, e4, e5, e6, e7, e8⟩ := cells9 hq4
        refine shT_x rfl rfl ?_; intro K hK w' hs; obtain ⟨p0, p1, p2, p3, p4, p5, p6, p7, p8⟩ := cells9 hs.1; obtain ⟨q0, q1, q2, q3, q4, q5, q6, q7, q8⟩ := cells9 hs.2.1; obtain ⟨r0, r1, r2, r3, r4, r5, r6, r7, r8⟩ := nodeAt_of hs.2.2; go_simp; refine hK _ _ ?_; clear hK K p0 p1 p2 p3 p4 p5 p6 p7 p8 q0 q1 q2 q3 q4 q5 q6 q7 q8 r0 r1 r2 r3 r4 r5 r6 r7 r8 hs w'
        refine shT_c rfl rfl ?_
        intro K hK
        go_simp
        refine hK _ _ ⟨heap_old hb4, heap_old hq4, rangeAt_same (by repeat (first | with_reducible exact Keep.refl _ _ | with_reducible refine Keep.alloc ?_ _ | with_reducible refine Keep.drew ?_ | with_reducible refine Keep.drewN ?_ _ | with_reducible refine Keep.trans ?_ (by assumption))) hra4⟩ ?_
        clear hK K e0 e1 e2 e3 e4 e5 e6 e7 e8
        have hz4 : wx.heap.size ≤ w4.heap.size := hk4.size
        have hd4 : Same wx w4 := (Keep.refl _ wx).drew.trans hk4
        obtain ⟨v9, w9, hrun, hown9, hs9⟩ := append_pair (S := fun x => w.heap.size + 2 ≤ x) (w := w4) (B := w.heap.size + 2) 25 p q pl cl (.slice a4 pl.length cc4) (.slice a2 cl.length cc2) (hownx.same hd4) (by omega) HL2.out hokj hok'
          (hr4.mono fun b hb hh => ⟨by have h' : wx.heap.size ≤ b := hh; omega, hb⟩) ((hrqx.same hd4).mono fun b _ hh => ⟨hh.1, by have := hh.2; omega⟩)
        rw [← HST.out] at hown9
        obtain ⟨a9, cc9, rfl⟩ := hown9.is_slice
        have hb9 := hs9.same _ _ hb4 trivial
        have hq9 := hs9.same _ _ hq4 trivial
        have hra9 := rangeAt_same hs9 hra4
        have hr9 := hs9.same _ _ (hd4.same _ _ hrx trivial) trivial
        have hsm9 := (hsmx.trans hd4).trans hs9
        refine shT_x rfl rfl ?_; intro K hK w' hs; obtain ⟨p0, p1, p2, p3, p4, p5, p6, p7, p8⟩ := cells9 hs.1; obtain ⟨q0, q1, q2, q3, q4, q5, q6, q7, q8⟩ := cells9 hs.2.1; obtain ⟨r0, r1, r2, r3, r4, r5, r6, r7, r8⟩ := nodeAt_of hs.2.2; go_simp; refine hK _ _ ?_; clear hK K p0 p1 p2 p3 p4 p5 p6 p7 p8 q0 q1 q2 q3 q4 q5 q6 q7 q8 r0 r1 r2 r3 r4 r5 r6 r7 r8 hs w'
        refine shT_c rfl rfl ?_
        intro K hK
        refine oper_append1 _ _ rfl rfl rfl hrun ?_
        refine hK _ _ ⟨hb9, hq9, hra9⟩ ?_
        clear hK K hrun
        refine shT_x rfl rfl ?_; intro K hK w' hs; obtain ⟨p0, p1, p2, p3, p4, p5, p6, p7, p8⟩ := cells9 hs.1; obtain ⟨q0, q1, q2, q3, q4, q5, q6, q7, q8⟩ := cells9 hs.2.1; obtain ⟨r0, r1, r2, r3, r4, r5, r6, r7, r8⟩ := nodeAt_of hs.2.2; go_simp; refine hK _ _ ?_; clear hK K p0 p1 p2 p3 p4 p5 p6 p7 p8 q0 q1 q2 q3 q4 q5 q6 q7 q8 r0 r1 r2 r3 r4 r5 r6 r7 r8 hs w'
        refine shT_nil ?_
        go_wp2
        go_roundw
        case rel => exact ⟨k + 1, by omega, by go_num, hown9, hsm9, hb9, hr9⟩
        case measure => simp [RowKit.intOf]; omega
    · obtain rfl : k = l.length := by omega
      have hfull := pairsTo_all l HEV.out
      have HF := Lib.hid hfull
      have hrep2 := hown.rep (fun b hb => hb) (by rw [HTL.out]; omega)
      have hkeep : ∀ (X : World) (p : Addr) (v : Value) (b : Nat), p.block ≠ b → (X.setCell p v).heap[b]? = X.heap[b]? := fun X p v b h => Below.heap_setCell X p v b (fun e => h e.symm)
      clear hfull hget IH
      go_wp2
      have hX : (wr.setCell ⟨w.heap.size, 8, none⟩ (.slice a0 (pairsTo l l.length).length cp0)).heap[w.heap.size + 1]? = some (.cells #[.int .i64 0, .bool false, .bool false, .string ⟨#[]⟩, .int .i64 0, .int .u64 0, .int .i64 0, .string ⟨#[]⟩, .slice none 0 0] 27 (0, 0)) := by rw [hkeep _ _ _ _ (by show w.heap.size ≠ w.heap.size + 1; omega)]; exact hr
      obtain ⟨h9, hk9⟩ := put9 hX (.int .i64 h.kind) (.bool h.b) (.bool h.d.neg) (.string h.d.digits) (.int .i64 h.d.exp) (.int .u64 h.u) (.int .i64 h.w) (.string h.s) (.slice a0 (pairsTo l l.length).length cp0)
      refine bodyPost_ret (results_cell_row rfl _ _ (w.heap.size + 1) 27 _ (0, 0) _ rfl h9 Tryz.underlying27 rfl (by kernel_rfl)) rfl ⟨.slice a0 (pairsTo l l.length).length cp0, rfl, ?_, ?_⟩
      · rw [HE.out]
        show RepS _ _ (revP (turnL l)) _
        rw [← HF.out]
        have hk8 : Keep (fun k _ => k ≠ w.heap.size) wr (wr.setCell ⟨w.heap.size, 8, none⟩ (.slice a0 (pairsTo l l.length).length cp0)) := (Keep.refl _ _).setCell _ fun o _ h _ => h rfl
        refine RepS.mono (fun b _ (hb : w.heap.size + 2 ≤ b) => (by omega : w.heap.size ≤ b)) ?_
        exact (hrep2.keep hk8 fun b (hb : w.heap.size + 2 ≤ b) _ _ => by omega).keep hk9 fun b (hb : w.heap.size + 2 ≤ b) _ _ => by omega
      · have hk8 : Same w (wr.setCell ⟨w.heap.size, 8, none⟩ (.slice a0 (pairsTo l l.length).length cp0)) := hsm.setCell (p := ⟨w.heap.size, 8, none⟩) _ (fun o _ _ h => absurd h (Nat.lt_irrefl _))
        exact ⟨hk9.os.trans hk8.os, hk9.tape.trans hk8.tape, hk9.output.trans hk8.output, Nat.le_trans hk8.size hk9.size, fun k o hk _ => hk9.same k o (hk8.same k o hk trivial) (by have := lt_of_some hk; omega)⟩
theorem lawTurned_any : ∀ t : Tree, (∀ x ∈ t.flat, x.l.length ≤ 40) → TurnAt t := by
  refine Tree.ind fun h l ih hle => ?_
  have hs : l.length ≤ 40 := hle _ (self_flat _)
  have hk : ∀ x ∈ l, TurnAt x := fun x hx => ih x hx fun y hy => hle y (mem_flat_kids h l x hx y hy)
  by_cases h8 : h.kind = 8 ∧ l.length % 2 = 0
  · exact turned_pairs h l hk hs h8.1 h8.2
  · exact turned_plain h l hk hs h8
end Go.Tm

set_option linter.unusedVariables false
namespace Go.Tm
open Go.RowKit Go.Proofs
theorem keep_iterAt' (w : World) (k : Nat) (s : ByteArray) (pos : Nat) : Keep (fun b _ => b ≠ k) w (w.iterAt k s pos) :=
  ⟨rfl, rfl, rfl, by rw [Lib.iterAt_size]; exact Nat.le_refl _, fun b o hb hn => (Lib.iterAt_other w k b s pos hn).trans hb⟩
def digN (l : List Nat) : Nat := (l.takeWhile isDig).length
theorem digN_le (l : List Nat) : digN l ≤ l.length := (List.takeWhile_prefix isDig).length_le
theorem digN_lt : ∀ (l : List Nat) (k : Nat), k < l.length → (∀ j, j < k → isDig (nth l j) = true) → isDig (nth l k) = true → k < digN l
  | x :: l, 0, _, _, h => by
    have h0 : isDig x = true := h
    unfold digN
    rw [List.takeWhile_cons_of_pos h0]; simp
  | x :: l, k + 1, h, hp, hk => by
    have h0 : isDig x = true := hp 0 (by omega)
    have := digN_lt l k (by simpa using h) (fun j hj => hp (j + 1) (by omega)) hk
    unfold digN at this ⊢
    rw [List.takeWhile_cons_of_pos h0]
    simp only [List.length_cons]; omega
theorem digN_stop : ∀ (l : List Nat) (k : Nat), k < l.length → (∀ j, j < k → isDig (nth l j) = true) → isDig (nth l k) = false → digN l = k
  | x :: l, 0, _, _, h => by
    have h0 : isDig x = false := h
    unfold digN
    rw [List.takeWhile_cons_of_neg (by simp [h0])]; rfl
  | x :: l, k + 1, h, hp, hk => by
    have h0 : isDig x = true := hp 0 (by omega)
    have := digN_stop l k (by simpa using h) (fun j hj => hp (j + 1) (by omega)) hk
    unfold digN at this ⊢
    rw [List.takeWhile_cons_of_pos h0]
    simp only [List.length_cons]; omega
theorem digN_end : ∀ (l : List Nat), (∀ j, j < l.length → isDig (nth l j) = true) → digN l = l.length
  | [], _ => rfl
  | x :: l, hp => by
    have h0 : isDig x = true := hp 0 (by simp)
    have := digN_end l (fun j hj => hp (j + 1) (by simpa using hj))
    unfold digN at this ⊢
    rw [List.takeWhile_cons_of_pos h0]
    simp only [List.length_cons]; omega
set_option maxRecDepth 100000 in
set_option maxHeartbeats 1000000 in
theorem runes1_iter (s : ByteArray) (bs : Nat) (Sb Si : Nat → Obj → Prop) (W : World)
    (hs : s.size ≤ 9223372036854775807) (hbs : Boxed W bs 9 (.string s)) (hSb : ∀ c f, Sb bs (.cells c 9 f)) (hSb2 : ∀ b o, W.heap.size ≤ b → o.isCells = false → Sb b o)
    (hSi : ∀ b o, Si b o → b < W.heap.size ∨ o.isCells = true) :
    IterAt Tryz.prog 272 #[.pointer (some ⟨bs, 0, none⟩)] (digN (bytesN s)) (fun i v _ => v = #[.int .i32 (nth (bytesN s) i)]) Sb Si (fun _ => True) (fun _ _ => True) W := by
  rintro l J Jx hlp hJ hJx hY h0
  obtain ⟨r, hl⟩ := hlp 0 W h0
  have n1 := cell_ne_loop hbs.cell hl
  have zl := lt_of_some hl
  have z1 := lt_of_some hbs
  have cs0 := hbs.cell
  have hsz := bytesN_length s
  refine callsIn_of_wp Tryz.func272 rfl trivial ?_ rfl
  simp only [Tryz.ntmps272, List.size_toArray, List.length_cons, List.length_nil, Nat.reduceAdd, Nat.reduceSub, Array.replicate_succ, Array.replicate_zero, List.push_toArray, List.append_toArray, List.nil_append, List.cons_append]
  have Hsz := Lib.hid hsz
  clear hsz
  refine wpIn_scope ?_
  gi_wp2
  refine wpIn_label ?_
  gi_wp2
  have hk0 : Same W (W.iter s 0) := (Keep.refl _ W).alloc _
  gi_loopw [4] (fun _ wr => ∃ k : Nat, k ≤ s.size ∧ (∀ j, j < k → isDig (nth (bytesN s) j) = true) ∧ wr.heap[W.heap.size]? = some (.stringIter s k) ∧ J k wr ∧ Boxed wr bs 9 (.string s))
    (fun _ wr => s.size - wr.iterPos W.heap.size)
  case atStart => exact ⟨0, Nat.zero_le _, fun j hj => absurd hj (Nat.not_lt_zero j), World.iter_heap W s 0, hJ _ _ _ h0 (Keep.of_same hk0), hk0.boxed hbs trivial⟩
  case round =>
    obtain ⟨k, hk, hp, hit, hj, cb1⟩ := hrel
    have c1 := cb1.cell
    have Hp := Lib.hid hp
    clear hp
    have hpos : wr.iterPos W.heap.size = k := by simp [World.iterPos, hit]
    have Hpos := Lib.hid hpos
    clear hpos
    by_cases hlt : k < s.size
    · obtain ⟨W1, hW1⟩ : ∃ W1, wr.iterAt W.heap.size s (k + (Utf8.decode s k).2) = W1 := ⟨_, rfl⟩
      have hnx := fun ty => Lib.run_next_any_at (P := Tryz.prog) wr W.heap.size s k ty hit hlt
      rw [hW1] at hnx
      have hkk : Keep (fun b _ => b ≠ W.heap.size) wr W1 := by rw [← hW1]; exact keep_iterAt' wr _ s _
      have hit1 : W1.heap[W.heap.size]? = some (.stringIter s (k + (Utf8.decode s k).2)) := by rw [← hW1]; exact Lib.iterAt_heap wr _ s k _ hit
      have Hit1 := Lib.hid hit1
      clear hW1 hit1
      have db1 := hkk.boxed cb1 (by omega)
      have d1 := db1.cell
      have hj2 : J k W1 := hJ _ _ _ hj (hkk.mono fun b o hb h => by
        rintro rfl
        rw [hit] at hb; cases hb
        rcases hSi _ _ h with h | h
        · omega
        · cases h)
      have hby := nth_bytes s hlt
      have Hby := Lib.hid hby
      clear hby
      by_cases hg : isDig (nth (bytesN s) k) = true
      · have hb128 : nth (bytesN s) k < 128 := by
          simp [isDig] at hg; omega
        have hdec := decode_ascii s k hlt (by rw [← Hby.out]; exact hb128)
        rw [← Hby.out] at hdec
        rw [hdec] at hnx
        have hit2 : W1.heap[W.heap.size]? = some (.stringIter s (k + 1)) := by have := Hit1.out; rw [hdec] at this; exact this
        have Hit2 := Lib.hid hit2
        clear hit2 hdec
        have hlg := digN_lt (bytesN s) k (by rw [Hsz.out]; exact hlt) Hp.out hg
        obtain ⟨fn, tmps, assign, body, hy', hR⟩ := hY k _ _ hlg hj2 rfl
        have hcall := fun W => isDigit_any (nth (bytesN s) k) W
        rw [hg] at hcall
        have Hg := Lib.hid hg
        clear hg
        gi_wp2_with (gi_at_call 151; refine (callsW (hcall _)).mono ?_; rintro e w' ⟨rfl, rfl⟩)
        refine hR.mono ?_
        rintro e W3 ⟨hk3, hj4⟩
        have c14 := hk3.boxed db1 ⟨n1, hSb _ _⟩
        have c14c := c14.cell
        have hit4 : W3.heap[W.heap.size]? = some (.stringIter s (k + 1)) := hk3.same _ _ Hit2.out ⟨by omega, hSb2 _ _ (Nat.le_refl _) rfl⟩
        have hpos4 : W3.iterPos W.heap.size = k + 1 := by simp [World.iterPos, hit4]
        have Hpos4 := Lib.hid hpos4
        clear hpos4 hR hy' hnx hj2 hcall
        rcases hj4 with ⟨rfl, hj4⟩ | ⟨rfl, hj4⟩
        · gi_wp2
          go_roundw
          case rel =>
            refine ⟨k + 1, by omega, fun j hj => ?_, hit4, hj4, c14⟩
            by_cases e : j = k
            · subst e; exact Hg.out
            · exact Hp.out j (by omega)
          case measure => rw [Hpos.out, Hpos4.out]; omega
        · gi_wp2
          simp only [Exit.noGoto]
          refine bodyPost_end (results_none rfl _ _ _) rfl ?_
          exact ⟨⟨_, rfl⟩, .inr ⟨k, hlg, hj4, trivial⟩⟩
      · have hfalse : isDig (nth (bytesN s) k) = false := by simpa using hg
        have hidx : isDig (Utf8.decode s k).1 = false := by
          by_cases h : nth (bytesN s) k < 128
          · have := decode_ascii s k hlt (by rw [← Hby.out]; exact h)
            rw [this]; rw [← Hby.out]; exact hfalse
          · have := (decode_high s k hlt (by rw [← Hby.out]; omega)).1
            simp [isDig]; omega
        have e1 := digN_stop (bytesN s) k (by rw [Hsz.out]; exact hlt) Hp.out hfalse
        have hcall := fun W => isDigit_any (Utf8.decode s k).1 W
        rw [hidx] at hcall
        have E1 := Lib.hid e1
        clear hidx e1 hg hfalse
        gi_wp2_with (gi_at_call 151; refine (callsW (hcall _)).mono ?_; rintro e w' ⟨rfl, rfl⟩)
        simp only [Exit.noGoto]
        refine bodyPost_end (results_none rfl _ _ _) rfl ?_
        exact ⟨⟨_, rfl⟩, .inl ⟨by rw [E1.out]; exact hj2, trivial⟩⟩
    · have hnx := fun ty => Lib.run_next_end_at (P := Tryz.prog) wr W.heap.size s k ty hit hlt
      have hks : k = s.size := by omega
      have e1 := digN_end (bytesN s) fun j hj => Hp.out j (by rw [Hsz.out] at hj; omega)
      rw [Hsz.out, ← hks] at e1
      have E1 := Lib.hid e1
      clear e1
      subst hks
      gi_wp2
      simp only [Exit.noGoto]
      refine bodyPost_end (results_none rfl _ _ _) rfl ?_
      exact ⟨⟨_, rfl⟩, .inl ⟨by rw [E1.out]; exact hj, trivial⟩⟩
end Go.Tm

set_option linter.unusedVariables false
namespace Go.Tm
open Go.RowKit Go.Proofs
def nextB (s : ByteArray) (cs : List Nat) : Bool := decide (0 < s.size) && cs.contains (nth (bytesN s) 0)
def tailB (s : ByteArray) : ByteArray := s.extract 1 s.size
def digsB (s : ByteArray) : ByteArray := s.extract 0 (digN (bytesN s))
def restD (s : ByteArray) : ByteArray := s.extract (digN (bytesN s)) s.size
def wholeR (s : ByteArray) : ByteArray × ByteArray := if nextB s [48] then (⟨#[48]⟩, tailB s) else (digsB s, restD s)
def partR (s : ByteArray) : ByteArray × ByteArray := if nextB s [46] = true ∧ (digsB (tailB s)).size ≠ 0 then (digsB (tailB s), restD (tailB s)) else (⟨#[]⟩, s)
abbrev RB (rb : Nat) (s : ByteArray) (w : World) : Prop := w.heap[rb]? = some (.cells #[.string s] 188 (0, 0))
def NextOut (rb : Nat) (s : ByteArray) (b : Bool) (w : World) (e : Ending) (w' : World) : Prop := e = .returned (.bool b) ∧ RB rb (if b then tailB s else s) w' ∧ Keep (fun k _ => k ≠ rb) w w'
set_option maxRecDepth 100000 in
set_option maxHeartbeats 1000000 in
theorem isNext_any (rb lb : Nat) (s : ByteArray) (cs : List Nat) (w : World) (hrb : RB rb s w) (hlb : ∀ j, j < cs.length → w.cell? ⟨lb, j, none⟩ = some (.int .u8 (nth cs j))) (hl : cs.length ≤ 10) (hs : s.size ≤ 1099511627776) :
    Calls Tryz.prog 155 #[.pointer (some ⟨rb, 0, none⟩), .slice (some ⟨lb, 0, none⟩) cs.length cs.length] w (NextOut rb s (nextB s cs) w) := by
  have c0 := cells1 hrb
  have hfz : ∀ j, w.frozen? ⟨rb, j, none⟩ = false := Lib.frozen_of_heap hrb
  have HLB := Lib.hid hlb
  clear hlb
  go_enter Tryz.func155, Tryz.ntmps155
  go_wp2
  go_loop [6, 9] (fun _ i => ∃ k : Nat, k ≤ cs.length ∧ i = .int .i64 (k : Int) ∧ nextB s cs = nextB s (cs.drop k)) (fun _ i => cs.length - (RowKit.intOf i).toNat)
  case atStart => exact ⟨0, Nat.zero_le _, rfl, rfl⟩
  case round =>
    obtain ⟨k, hk, rfl, hn⟩ := hrel
    by_cases hlt : k < cs.length
    · have hck := HLB.out k hlt
      have hdr : cs.drop k = nth cs k :: cs.drop (k + 1) := by
        rw [List.drop_eq_getElem_cons hlt]; congr 1; simp [nth, hlt]
      rw [hdr] at hn
      by_cases h0 : s.size = 0
      · have e1 : s.toList = [] := by
          have : s = ByteArray.empty := by simpa using h0
          rw [this, ByteArray.toList_eq]; rfl
        have hn2 : nextB s cs = nextB s (cs.drop (k + 1)) := by
          rw [hn]; unfold nextB; simp [h0]
        have HN := Lib.hid hn2
        clear hn hn2 hdr h0
        go_wp2_with fail
        go_round
        case rel => exact ⟨k + 1, by omega, by go_num, HN.out⟩
        case measure => simp [RowKit.intOf]; omega
      · have hpos : 0 < s.size := by omega
        have hb := nth_bytes s hpos
        have e1 : s.toList.isEmpty = false := by
          rw [ByteArray.toList_eq]
          cases h : s.data.toList with
          | nil => have : s.data.toList.length = s.size := by simp
                   rw [h] at this; simp at this; omega
          | cons x l => rfl
        have e2 : (s.toList == []) = false := by cases h : s.toList with
          | nil => rw [h] at e1; cases e1
          | cons x l => rfl
        clear e1
        by_cases hc : nth (bytesN s) 0 = nth cs k
        · have hn2 : nextB s cs = true := by
            rw [hn]; unfold nextB; simp [hpos, hc]
          have hcb : ((s[0]).toNat : Int) = (nth cs k : Int) := by rw [← hb, hc]
          have HN := Lib.hid hn2
          rw [hb] at hc
          rw [← hc] at hck
          clear hn hn2 hdr h0 hcb hb hc
          go_wp2_with fail
          go_ret
          rw [HN.out]
          exact ⟨rfl, setCell_heap hrb 0 _, (Keep.refl _ _).setCell _ fun o _ h _ => h rfl⟩
        · have hn2 : nextB s cs = nextB s (cs.drop (k + 1)) := by
            rw [hn]; unfold nextB; simp [hc]
          have hcb : (((s[0]).toNat : Int) == (nth cs k : Int)) = false := by rw [hb] at hc; simp; omega
          have HN := Lib.hid hn2
          clear hn hn2 hdr h0 hb hc
          go_wp2_with fail
          go_round
          case rel => exact ⟨k + 1, by omega, by go_num, HN.out⟩
          case measure => simp [RowKit.intOf]; omega
    · obtain rfl : k = cs.length := by omega
      have hf : nextB s cs = false := by rw [hn, List.drop_length]; unfold nextB; simp
      have HF := Lib.hid hf
      clear hn hf
      go_wp2_with fail
      go_ret
      rw [HF.out]
      exact ⟨rfl, hrb, Keep.refl _ _⟩
set_option maxRecDepth 100000 in
theorem runes_any (s : ByteArray) (w : World) : Calls Tryz.prog 237 #[.string s] w fun e w' => e = .returned (.func (.func 272) #[] #[.pointer (some ⟨w.heap.size, 0, none⟩)]) ∧ w' = w.alloc (.cells #[.string s] 9) := by
  go_enter Tryz.func237, Tryz.ntmps237
  go_wp2
  go_ret
  exact ⟨rfl, rfl⟩
def ReadOut (rb : Nat) (r : ByteArray × ByteArray) (w : World) (e : Ending) (w' : World) : Prop := e = .returned (.string r.1) ∧ RB rb r.2 w' ∧ Keep (fun k _ => k ≠ rb) w w'
set_option maxRecDepth 100000 in
set_option maxHeartbeats 2000000 in
theorem digits_any (rb : Nat) (s : ByteArray) (w : World) (hrb : RB rb s w) (hs : s.size ≤ 1099511627776) :
    Calls Tryz.prog 206 #[.pointer (some ⟨rb, 0, none⟩)] w (ReadOut rb (digsB s, restD s) w) := by
  have hdn := digN_le (bytesN s)
  rw [bytesN_length] at hdn
  have hblt := lt_of_some hrb
  obtain ⟨d, hd⟩ : ∃ d, digN (bytesN s) = d := ⟨_, rfl⟩
  rw [hd] at hdn
  have HD := Lib.hid hd
  refine (callsIn_wide (n := 0)).1 ?_
  refine callsIn_of_wp_marks Tryz.func206 rfl trivial ?_ rfl
  simp only [Tryz.ntmps206, List.size_toArray, List.length_cons, List.length_nil, Nat.reduceAdd, Nat.reduceSub, Array.replicate_succ, Array.replicate_zero, List.push_toArray, List.append_toArray, List.nil_append, List.cons_append]
  have c0 := alloc_cell (cells1 hrb)
  gi_wp2_with (first
    | (gi_at_call 237; refine (callsW (runes_any _ _)).mono ?_; rintro e w' ⟨rfl, rfl⟩))
  clear c0
  generalize hW1 : World.alloc _ (.cells #[.string s] 9) = W1
  have hz : W1.heap.size = w.heap.size + 2 := by rw [← hW1]; simp
  have hk1 : Same w W1 := by rw [← hW1]; exact (((Keep.refl _ w).alloc _).alloc _)
  have b1 : Boxed W1 w.heap.size 3 (.int .i64 ((0 : Nat) : Int)) := by rw [← hW1]; repeat (first | exact heap_new' (by simp) | refine heap_old ?_)
  have b2 : Boxed W1 (w.heap.size + 1) 9 (.string s) := by rw [← hW1]; repeat (first | exact heap_new' (by simp) | refine heap_old ?_)
  clear hW1
  have hrb1 := hk1.same _ _ hrb trivial
  refine wp_rangeS (gf := 272) (lb := #[.pointer (some ⟨w.heap.size + 1, 0, none⟩)])
    rfl (enters_of Tryz.func272 (by kernel_rfl) rfl) d (fun i v _ => v = #[.int .i32 (nth (bytesN s) i)]) (fun b o => b ≠ w.heap.size ∨ ∀ c f, o ≠ .cells c 3 f) (fun b o => b < w.heap.size + 4 ∨ o.isCells = true)
    (fun _ => True) (fun _ _ => True) ?hit ?hSb ?hSi (fun i A => Boxed A w.heap.size 3 (.int .i64 (i : Int))) (fun _ _ _ => False) ?hI (fun _ _ _ _ h _ => h) ?hE (fun _ _ _ _ => trivial) (fun _ _ _ _ _ => trivial) ?hEs b1 ?hround ?hdone (fun _ _ _ _ _ _ h => h.elim)
  case hit =>
    intro W2 hk2 hz2
    have := runes1_iter s (w.heap.size + 1) (fun b o => b ≠ w.heap.size ∨ ∀ c f, o ≠ .cells c 3 f) (fun b o => b < w.heap.size + 4 ∨ o.isCells = true) W2 (by omega) (hk2.boxed b2 trivial) (fun c f => .inr (by simp)) (fun b o _ ho => .inr fun c f e => by subst e; cases ho) (fun b o h => by rw [hz2, hz]; exact h)
    rw [HD.out] at this
    exact this
  case hSb => exact fun b o hb ho => .inr fun c f e => by subst e; cases ho
  case hSi => exact fun b o _ h _ => .inl (by omega)
  case hI => exact fun i A B h hk => hk.boxed h ⟨.inr rfl, .inr rfl⟩
  case hE => exact fun i v A B h _ => h
  case hEs => rintro i v A rfl; rfl
  case hround =>
    intro i v hv
    obtain ⟨x, rfl⟩ := size_one rfl hv
    apply Exists.intro
    apply And.intro
    · intro l2 A K hK
      gi_wp2
      exact hK
    · rintro l2 A hl2 _ hi h1 _
      have c0 := h1.cell
      have f0 := h1.frozen
      gi_wp2
      refine ⟨(Keep.refl _ A).setCell _ fun o ho hs _ => ?_, by have := h1.set (.int .i64 ((i : Int) + 1)); simpa using this⟩
      have h1' : A.heap[w.heap.size]? = some (.cells #[.int .i64 (i : Int)] 3 (0, 0)) := h1
      rw [show (⟨w.heap.size, 0, none⟩ : Addr).block = w.heap.size from rfl, h1'] at ho
      cases ho
      rcases hs with hs | hs
      · exact hs rfl
      · exact hs _ _ rfl
  case hdone =>
    rintro D A hD h1 _ hk hDB
    have hrbA : RB rb s A := hk.same _ _ hrb1 ⟨.inl (by omega), .inl (by omega)⟩
    have c0 := cells1 hrbA
    have c1 := h1.cell
    have hkA : Same w A := ⟨hk.os.trans hk1.os, hk.tape.trans hk1.tape, hk.output.trans hk1.output, Nat.le_trans hk1.size hk.size, fun b o hb _ => hk.same b o (hk1.same b o hb trivial) ⟨.inl (by have := lt_of_some hb; omega), .inl (by have := lt_of_some hb; omega)⟩⟩
    gi_wp2_with fail
    refine wpIn_region_shut (fun Z => RB rb s Z ∧ Boxed Z w.heap.size 3 (.int .i64 (d : Int))) reads (fun _ => trivial) rfl (by kernel_rfl) (by kernel_rfl) ⟨hrbA, h1⟩ ?_
    refine shT_x rfl rfl ?_; intro K hK w' hs; have z0 := cells1 hs.1; have z1 := hs.2.cell; go_simp; refine hK _ _ ?_; clear hK K z0 z1 hs w'
    refine shT_x rfl rfl ?_; intro K hK w' hs; have z0 := cells1 hs.1; have z1 := hs.2.cell; go_simp; refine hK _ _ ?_; clear hK K z0 z1 hs w'
    refine shT_x rfl rfl ?_; intro K hK w' hs; have z0 := cells1 hs.1; have z1 := hs.2.cell; go_simp; refine hK _ _ ?_; clear hK K z0 z1 hs w'
    refine shT_x rfl rfl ?_; intro K hK w' hs; have z0 := cells1 hs.1; have z1 := hs.2.cell; go_simp; refine hK _ _ ?_; clear hK K z0 z1 hs w'
    refine shT_x rfl rfl ?_; intro K hK w' hs; have z0 := cells1 hs.1; have z1 := hs.2.cell; go_simp; refine hK _ _ ?_; clear hK K z0 z1 hs w'
    refine shT_x rfl rfl ?_; intro K hK w' hs; have z0 := cells1 hs.1; have z1 := hs.2.cell; go_simp; refine hK _ _ ?_; clear hK K z0 z1 hs w'
    refine shT_x rfl rfl ?_; intro K hK w' hs; have z0 := cells1 hs.1; have z1 := hs.2.cell; go_simp; refine hK _ _ ?_; clear hK K z0 z1 hs w'
    refine shT_x rfl rfl ?_; intro K hK w' hs; have z0 := cells1 hs.1; have z1 := hs.2.cell; go_simp; refine hK _ _ ?_; clear hK K z0 z1 hs w'
    refine shT_nil ?_
    gi_wp2_with fail
    refine wpIn_region_tailA (fun Z => RB rb s Z ∧ Boxed Z w.heap.size 3 (.int .i64 (d : Int))) reads (fun _ => trivial) rfl (by kernel_rfl) rfl (by kernel_rfl) (by kernel_rfl) ⟨hrbA, h1⟩ ?_
    simp only [initL]
    refine shT_x rfl rfl ?_; intro K hK w' hs; have z0 := cells1 hs.1; have z1 := hs.2.cell; go_simp; refine hK _ _ ?_; clear hK K z0 z1 hs w'
    refine shT_x rfl rfl ?_; intro K hK w' hs; have z0 := cells1 hs.1; have z1 := hs.2.cell; go_simp; refine hK _ _ ?_; clear hK K z0 z1 hs w'
    refine shT_x rfl rfl ?_; intro K hK w' hs; have z0 := cells1 hs.1; have z1 := hs.2.cell; go_simp; refine hK _ _ ?_; clear hK K z0 z1 hs w'
    refine shT_x rfl rfl ?_; intro K hK w' hs; have z0 := cells1 hs.1; have z1 := hs.2.cell; go_simp; refine hK _ _ ?_; clear hK K z0 z1 hs w'
    refine shT_x rfl rfl ?_; intro K hK w' hs; have z0 := cells1 hs.1; have z1 := hs.2.cell; go_simp; refine hK _ _ ?_; clear hK K z0 z1 hs w'
    refine shT_x rfl rfl ?_; intro K hK w' hs; have z0 := cells1 hs.1; have z1 := hs.2.cell; go_simp; refine hK _ _ ?_; clear hK K z0 z1 hs w'
    refine shT_x rfl rfl ?_; intro K hK w' hs; have z0 := cells1 hs.1; have z1 := hs.2.cell; go_simp; refine hK _ _ ?_; clear hK K z0 z1 hs w'
    refine shT_x rfl rfl ?_; intro K hK w' hs; have z0 := cells1 hs.1; have z1 := hs.2.cell; go_simp; refine hK _ _ ?_; clear hK K z0 z1 hs w'
    refine shT_x rfl rfl ?_; intro K hK w' hs; have z0 := cells1 hs.1; have z1 := hs.2.cell; go_simp; refine hK _ _ ?_; clear hK K z0 z1 hs w'
    refine shT_x rfl rfl ?_; intro K hK w' hs; have z0 := cells1 hs.1; have z1 := hs.2.cell; go_simp; refine hK _ _ ?_; clear hK K z0 z1 hs w'
    refine shT_x rfl rfl ?_; intro K hK w' hs; have z0 := cells1 hs.1; have z1 := hs.2.cell; go_simp; refine hK _ _ ?_; clear hK K z0 z1 hs w'
    refine shT_tail (tail_last rfl ?_)
    have hfz : ∀ j, A.frozen? ⟨rb, j, none⟩ = false := Lib.frozen_of_heap hrbA
    go_simp
    gi_wp2
    have hk9 : Keep (fun k _ => k ≠ rb) A (A.setCell ⟨rb, 0, none⟩ (.string (s.extract d s.size))).drew.drew := (((Keep.refl _ _).setCell _ fun o _ h _ => h rfl).drew).drew
    have hD9 := hk9.same _ _ hDB (by omega)
    have hrb9 : RB rb (s.extract d s.size) (A.setCell ⟨rb, 0, none⟩ (.string (s.extract d s.size))).drew.drew := setCell_heap hrbA 0 _
    generalize (A.setCell ⟨rb, 0, none⟩ (.string (s.extract d s.size))).drew.drew = B at hk9 hD9 hrb9 ⊢
    refine ⟨by simp, .inl ⟨_, _, rfl, run_takeDeferred hD9, ?_⟩⟩
    have hkp := (Keep.refl (fun k o => k ≠ D ∨ o.isCells = true) B).putObj (r := D) (.deferred none) fun o ho hs _ => by rw [hD9] at ho; cases ho; rcases hs with h | h; exact h rfl; cases h
    refine ⟨_, results_tmp rfl _ _ _, ⟨?_, ?_, ?_⟩⟩
    · unfold digsB; rw [HD.out]; rfl
    · show RB rb (restD s) _
      unfold restD; rw [HD.out]
      exact hkp.same _ _ hrb9 (.inr rfl)
    · exact ⟨hkp.os.trans (hk9.os.trans hkA.os), hkp.tape.trans (hk9.tape.trans hkA.tape), hkp.output.trans (hk9.output.trans hkA.output), Nat.le_trans hkA.size (Nat.le_trans hk9.size hkp.size), fun y o hy hyb => hkp.same y o (hk9.same y o (hkA.same y o hy trivial) hyb) (.inl (by have := lt_of_some hy; omega))⟩
end Go.Tm

set_option linter.unusedVariables false
namespace Go.Tm
open Go.RowKit Go.Proofs
theorem tail_size (s : ByteArray) : (tailB s).size ≤ s.size := by unfold tailB; rw [ByteArray.size_extract]; omega
theorem digsB_size (s : ByteArray) : (digsB s).size ≤ s.size := by unfold digsB; rw [ByteArray.size_extract]; omega
theorem restD_size (s : ByteArray) : (restD s).size ≤ s.size := by unfold restD; rw [ByteArray.size_extract]; omega
theorem isNext1 (rb : Nat) (s : ByteArray) (c : Nat) (w : World) (hrb : RB rb s w) (hs : s.size ≤ 1099511627776) :
    Calls Tryz.prog 155 #[.pointer (some ⟨rb, 0, none⟩), .slice (some ⟨w.heap.size, 0, none⟩) 1 1] (w.alloc (.cells #[.int .u8 (c : Int)] 5)) (NextOut rb s (nextB s [c]) (w.alloc (.cells #[.int .u8 (c : Int)] 5))) :=
  isNext_any rb w.heap.size s [c] _ (heap_old hrb) (fun j hj => by
    obtain rfl : j = 0 := by simpa using hj
    exact cells1 (World.alloc_heap_new w _)) (by simp) hs
theorem isNext2 (rb : Nat) (s : ByteArray) (c d : Nat) (w : World) (hrb : RB rb s w) (hs : s.size ≤ 1099511627776) :
    Calls Tryz.prog 155 #[.pointer (some ⟨rb, 0, none⟩), .slice (some ⟨w.heap.size, 0, none⟩) 2 2] (w.alloc (.cells #[.int .u8 (c : Int), .int .u8 (d : Int)] 5)) (NextOut rb s (nextB s [c, d]) (w.alloc (.cells #[.int .u8 (c : Int), .int .u8 (d : Int)] 5))) :=
  isNext_any rb w.heap.size s [c, d] _ (heap_old hrb) (fun j hj => by
    have : j = 0 ∨ j = 1 := by simp at hj; omega
    rcases this with rfl | rfl
    · exact (cells2 (World.alloc_heap_new w _)).1
    · exact (cells2 (World.alloc_heap_new w _)).2) (by simp) hs
theorem keep_new {rb : Nat} {w w' : World} {o : Obj} (h : Keep (fun k _ => k ≠ rb) (w.alloc o) w') : Keep (fun k _ => k ≠ rb) w w' := ((Keep.refl _ w).alloc o).trans h
set_option maxRecDepth 100000 in
set_option maxHeartbeats 1000000 in
theorem whole_rd (rb : Nat) (s : ByteArray) (w : World) (hrb : RB rb s w) (hs : s.size ≤ 1099511627776) :
    Calls Tryz.prog 156 #[.pointer (some ⟨rb, 0, none⟩)] w (ReadOut rb (wholeR s) w) := by
  have hnx := isNext1 rb s 48 w hrb hs
  obtain ⟨b, hb⟩ : ∃ b, nextB s [48] = b := ⟨_, rfl⟩
  have hw : wholeR s = if b then (⟨#[48]⟩, tailB s) else (digsB s, restD s) := by unfold wholeR; rw [hb]
  rw [hb] at hnx
  have HW := Lib.hid hw
  clear hw hb
  go_enter Tryz.func156, Tryz.ntmps156
  go_wp2_with fail
  refine hnx.mono ?_
  rintro e w1 ⟨rfl, hr1, hk1⟩
  have hkw := keep_new hk1
  clear hnx
  cases b with
  | true =>
    go_wp2_with fail
    go_ret
    rw [HW.out]
    exact ⟨rfl, hr1, hkw⟩
  | false =>
    have hdg := digits_any rb s w1 hr1 hs
    go_wp2_with fail
    refine hdg.mono ?_
    rintro e w2 ⟨rfl, hr2, hk2⟩
    go_wp2_with fail
    go_ret
    rw [HW.out]
    exact ⟨rfl, hr2, hkw.trans hk2⟩
set_option maxRecDepth 100000 in
set_option maxHeartbeats 1000000 in
theorem part_rd (rb : Nat) (s : ByteArray) (w : World) (hrb : RB rb s w) (hs : s.size ≤ 1099511627776) :
    Calls Tryz.prog 157 #[.pointer (some ⟨rb, 0, none⟩)] w (ReadOut rb (partR s) w) := by
  have hnx := isNext1 rb s 46 w hrb hs
  obtain ⟨b, hb⟩ : ∃ b, nextB s [46] = b := ⟨_, rfl⟩
  have hw : partR s = if b = true ∧ (digsB (tailB s)).size ≠ 0 then (digsB (tailB s), restD (tailB s)) else (⟨#[]⟩, s) := by unfold partR; rw [hb]
  rw [hb] at hnx
  have HW := Lib.hid hw
  clear hw hb
  have c0 := cells1 hrb
  go_enter Tryz.func157, Tryz.ntmps157
  go_wp2_with fail
  refine hnx.mono ?_
  rintro e w1 ⟨rfl, hr1, hk1⟩
  have hkw := keep_new hk1
  clear hnx c0
  cases b with
  | true =>
    have hdg := digits_any rb (tailB s) w1 hr1 (Nat.le_trans (tail_size s) hs)
    obtain ⟨D, hD⟩ : ∃ D, digsB (tailB s) = D := ⟨_, rfl⟩
    rw [hD] at hdg HW
    obtain ⟨R, hR⟩ : ∃ R, restD (tailB s) = R := ⟨_, rfl⟩
    rw [hR] at hdg HW
    clear hD hR
    go_wp2_with fail
    refine hdg.mono ?_
    rintro e w2 ⟨rfl, hr2, hk2⟩
    by_cases h0 : D.size = 0
    · have e1 : D.toList = [] := by
        have : D = ByteArray.empty := by simpa using h0
        rw [this, ByteArray.toList_eq]; rfl
      have HW2 := Lib.hid (show partR s = (⟨#[]⟩, s) from by rw [HW.out]; simp [h0])
      have c2 := cells1 hr2
      have hfz : ∀ j, w2.frozen? ⟨rb, j, none⟩ = false := Lib.frozen_of_heap hr2
      clear h0 hdg
      go_wp2_with fail
      go_ret
      rw [HW2.out]
      exact ⟨rfl, setCell_heap hr2 0 _, (hkw.trans hk2).setCell _ fun o _ h _ => h rfl⟩
    · have e1 : (D.toList == []) = false := by
        cases h : D.toList with
        | nil =>
          have : D.toList.length = D.size := by rw [ByteArray.toList_eq]; simp
          rw [h] at this; simp at this; omega
        | cons x l => rfl
      have HW2 := Lib.hid (show partR s = (D, R) from by rw [HW.out]; simp [h0])
      clear h0 hdg
      go_wp2_with fail
      go_ret
      rw [HW2.out]
      exact ⟨rfl, hr2, hkw.trans hk2⟩
  | false =>
    have HW2 := Lib.hid (show partR s = (⟨#[]⟩, s) from by rw [HW.out]; simp)
    have c2 := cells1 hr1
    have hfz : ∀ j, w1.frozen? ⟨rb, j, none⟩ = false := Lib.frozen_of_heap hr1
    go_wp2_with fail
    go_ret
    rw [HW2.out]
    exact ⟨rfl, setCell_heap hr1 0 _, hkw.setCell _ fun o _ h _ => h rfl⟩
def signR (s : ByteArray) : Int × ByteArray := if nextB s [45] then (-1, tailB s) else (1, if nextB s [43] then tailB s else s)
def atoiV (d : ByteArray) : Int := match Lib.atoiAll d.data.toList with
  | .ok v => v
  | .range => Lib.atoiSat d.data.toList
  | _ => 0
def atoiOk (d : ByteArray) : Bool := match Lib.atoiAll d.data.toList with
  | .ok _ => true
  | _ => false
def powerR (s : ByteArray) : (Int × Bool) × ByteArray :=
  if nextB s [101, 69] = true ∧ (digsB (signR (tailB s)).2).size ≠ 0 then
    ((wrap64 ((signR (tailB s)).1 * atoiV (digsB (signR (tailB s)).2)), atoiOk (digsB (signR (tailB s)).2) && decide ((digsB (signR (tailB s)).2).size ≤ 4)), restD (signR (tailB s)).2)
  else ((0, true), s)
def AtoiErr (b : Bool) (ev : Value) : Prop := if b then ev = .nilIface else ∃ t p, ev = .iface t (.pointer (some p))
theorem atoi_any {N : Nat} {E : Errs} (d : ByteArray) (w : World) (hG : Glob N E w) (hs : d.size ≤ 1099511627776) :
    Calls Tryz.prog 207 #[.string d] w fun e w' => ∃ ev, e = .returned (.tuple #[.int .i64 (atoiV d), ev]) ∧ AtoiErr (atoiOk d) ev ∧ Same w w' := by
  unfold atoiV atoiOk
  cases h : Lib.atoiAll d.data.toList with
  | ok v =>
    refine (Tryz.strconv_Atoi_ok d (by omega) v h w).mono ?_
    rintro e w' ⟨rfl, hk⟩
    refine ⟨_, rfl, rfl, ?_⟩
    rcases hk with rfl | ⟨t, rfl⟩
    · exact Keep.refl _ _
    · exact Keep.of_below (Lib.bytesWorld_below _ _ _)
  | range =>
    obtain ⟨tp, p, hv⟩ := hG.range
    refine (Tryz.strconv_Atoi_range_var d (by omega) h tp p w hv).mono ?_
    rintro e w' ⟨n, rfl, _, _, hb⟩
    exact ⟨_, rfl, ⟨_, _, rfl⟩, Keep.of_below hb⟩
  | _ =>
    obtain ⟨tp, p, hv⟩ := hG.syn
    refine (Tryz.strconv_Atoi_syntax_var d (by omega) h tp p w hv).mono ?_
    rintro e w' ⟨n, rfl, _, _, hb⟩
    exact ⟨_, rfl, ⟨_, _, rfl⟩, Keep.of_below hb⟩
def PowOut (rb : Nat) (r : (Int × Bool) × ByteArray) (w : World) (e : Ending) (w' : World) : Prop := e = .returned (.tuple #[.int .i64 r.1.1, .bool r.1.2]) ∧ RB rb r.2 w' ∧ Keep (fun k _ => k ≠ rb) w w'
theorem AtoiErr.is_iface {b : Bool} {ev : Value} (h : AtoiErr b ev) : ev = .nilIface ∨ ∃ t p, ev = .iface t (.pointer (some p)) := by
  cases b with
  | true => exact .inl h
  | false => exact .inr h
theorem atoi_bd (d : ByteArray) : -9223372036854775808 ≤ atoiV d ∧ atoiV d ≤ 9223372036854775807 := by
  unfold atoiV
  cases h : Lib.atoiAll d.data.toList with
  | range => simp only [Lib.atoiSat]; split <;> simp
  | ok v =>
    simp only
    unfold Lib.atoiAll at h
    split at h
    · cases h
    · dsimp only at h
      split at h
      · cases h
      · cases h
      · split at h
        · cases h
        · split at h
          · cases h
          · rename_i h1 h2
            injection h with h
            subst h
            split <;> omega
  | _ => simp
set_option maxRecDepth 100000 in
set_option maxHeartbeats 2000000 in
theorem power_rd {N : Nat} {E : Errs} (rb : Nat) (s : ByteArray) (w : World) (hG : Glob N E w) (hN : N ≤ rb) (hrb : RB rb s w) (hs : s.size ≤ 1099511627776) :
    Calls Tryz.prog 158 #[.pointer (some ⟨rb, 0, none⟩)] w (PowOut rb (powerR s) w) := by
  have hnx := isNext2 rb s 101 69 w hrb hs
  have hts := Nat.le_trans (tail_size s) hs
  have htt := Nat.le_trans (tail_size (tailB s)) hts
  obtain ⟨b1, hb1⟩ : ∃ b, nextB s [101, 69] = b := ⟨_, rfl⟩
  rw [hb1] at hnx
  have HB1 := Lib.hid hb1
  clear hb1
  have c0 := cells1 hrb
  go_enter Tryz.func158, Tryz.ntmps158
  go_wp2_with fail
  refine hnx.mono ?_
  rintro e w1 ⟨rfl, hr1, hk1⟩
  have hkw := keep_new hk1
  clear hnx c0
  cases b1 with
  | false =>
    have HW2 := Lib.hid (show powerR s = ((0, true), s) from by unfold powerR; rw [HB1.out]; simp)
    have c2 := cells1 hr1
    have hfz : ∀ j, w1.frozen? ⟨rb, j, none⟩ = false := Lib.frozen_of_heap hr1
    go_wp2_with fail
    go_ret2
    rw [HW2.out]
    exact ⟨rfl, setCell_heap hr1 0 _, hkw.setCell _ fun o _ h _ => h rfl⟩
  | true =>
    simp only [if_true] at hr1
    have hnx2 := isNext1 rb (tailB s) 45 w1 hr1 hts
    obtain ⟨b2, hb2⟩ : ∃ b, nextB (tailB s) [45] = b := ⟨_, rfl⟩
    rw [hb2] at hnx2
    have HB2 := Lib.hid hb2
    clear hb2
    go_wp2_with fail
    refine hnx2.mono ?_
    rintro e w2 ⟨rfl, hr2, hk2⟩
    have hkw2 := hkw.trans (keep_new hk2)
    clear hnx2 hk2 hk1
    cases b2 with
    | true =>
      simp only [if_true] at hr2
      have hdg := digits_any rb (tailB (tailB s)) w2 hr2 htt
      obtain ⟨D, hD⟩ : ∃ D, digsB (tailB (tailB s)) = D := ⟨_, rfl⟩
      obtain ⟨R, hR⟩ : ∃ R, restD (tailB (tailB s)) = R := ⟨_, rfl⟩
      have hDz : D.size ≤ 1099511627776 := by rw [← hD]; exact Nat.le_trans (digsB_size _) htt
      have hpw : powerR s = if D.size ≠ 0 then ((wrap64 (-1 * atoiV D), atoiOk D && decide (D.size ≤ 4)), R) else ((0, true), s) := by
        unfold powerR
        rw [HB1.out]
        have hsg : signR (tailB s) = (-1, (tailB (tailB s))) := by unfold signR; simp [HB2.out]
        rw [hsg]
        simp only [hD, hR, true_and]
      rw [hD, hR] at hdg
      have HPW := Lib.hid hpw
      clear hpw hD hR
      go_wp2_with fail
      refine hdg.mono ?_
      rintro e w7 ⟨rfl, hr7, hk7⟩
      have hkw7 := hkw2.trans hk7
      have hat := atoi_any D w7 (hG.keep hkw7 fun k hlt _ => by omega) hDz
      have hbd := atoi_bd D
      obtain ⟨av, hav⟩ : ∃ v, atoiV D = v := ⟨_, rfl⟩
      obtain ⟨ao, hao⟩ : ∃ v, atoiOk D = v := ⟨_, rfl⟩
      rw [hav] at hat HPW hbd
      rw [hao] at hat HPW
      clear hav hao hdg
      go_wp2_with fail
      refine hat.mono ?_
      rintro e w8 ⟨ev, rfl, hev, hk8⟩
      have hr8 := hk8.same _ _ hr7 trivial
      have hkw8 := hkw7.trans (Keep.of_same hk8)
      clear hat
      by_cases h0 : D.size = 0
      · have e1 : D.toList = [] := by
          have : D = ByteArray.empty := by simpa using h0
          rw [this, ByteArray.toList_eq]; rfl
        have HW2 := Lib.hid (show powerR s = ((0, true), s) from by rw [HPW.out]; simp [h0])
        have c2 := cells1 hr8
        have hfz : ∀ j, w8.frozen? ⟨rb, j, none⟩ = false := Lib.frozen_of_heap hr8
        have hev1 := hev.is_iface
        clear h0
        go_wp2_with fail
        go_ret2
        rw [HW2.out]
        exact ⟨rfl, setCell_heap hr8 0 _, hkw8.setCell _ fun o _ h _ => h rfl⟩
      · have e1 : (D.toList == []) = false := by
          cases h : D.toList with
          | nil =>
            have : D.toList.length = D.size := by rw [ByteArray.toList_eq]; simp
            rw [h] at this; simp at this; omega
          | cons x l => rfl
        have HW2 := Lib.hid (show powerR s = ((wrap64 (-1 * av), ao && decide (D.size ≤ 4)), R) from by rw [HPW.out]; simp [h0])
        clear h0
        cases ao with
        | true =>
          have hev2 : ev = .nilIface := hev
          subst hev2
          by_cases h4 : D.size ≤ 4
          · have h4b : decide ((D.size : Int) ≤ 4) = true := by simp; omega
            go_wp2_with fail
            go_ret2
            rw [HW2.out]
            exact ⟨by simp [h4] <;> (unfold wrap64; omega), hr8, hkw8⟩
          · have h4b : decide ((D.size : Int) ≤ 4) = false := by simp; omega
            go_wp2_with fail
            go_ret2
            rw [HW2.out]
            exact ⟨by simp [h4] <;> (unfold wrap64; omega), hr8, hkw8⟩
        | false =>
          obtain ⟨tt, pp, rfl⟩ : ∃ t p, ev = .iface t (.pointer (some p)) := hev
          go_wp2_with fail
          go_ret2
          rw [HW2.out]
          exact ⟨by simp <;> (unfold wrap64; omega), hr8, hkw8⟩
    | false =>
      simp only [Bool.false_eq_true, if_false] at hr2
      have hnx3 := isNext1 rb (tailB s) 43 w2 hr2 hts
      obtain ⟨b3, hb3⟩ : ∃ b, nextB (tailB s) [43] = b := ⟨_, rfl⟩
      rw [hb3] at hnx3
      have HB3 := Lib.hid hb3
      clear hb3
      go_wp2_with fail
      refine hnx3.mono ?_
      rintro e w3 ⟨rfl, hr3, hk3⟩
      have hkw3 := hkw2.trans (keep_new hk3)
      clear hnx3 hk3
      cases b3 with
      | true =>
        simp only [if_true] at hr3
        have hdg := digits_any rb (tailB (tailB s)) w3 hr3 htt
        obtain ⟨D, hD⟩ : ∃ D, digsB (tailB (tailB s)) = D := ⟨_, rfl⟩
        obtain ⟨R, hR⟩ : ∃ R, restD (tailB (tailB s)) = R := ⟨_, rfl⟩
        have hDz : D.size ≤ 1099511627776 := by rw [← hD]; exact Nat.le_trans (digsB_size _) htt
        have hpw : powerR s = if D.size ≠ 0 then ((wrap64 (1 * atoiV D), atoiOk D && decide (D.size ≤ 4)), R) else ((0, true), s) := by
          unfold powerR
          rw [HB1.out]
          have hsg : signR (tailB s) = (1, (tailB (tailB s))) := by unfold signR; simp [HB2.out, HB3.out]
          rw [hsg]
          simp only [hD, hR, true_and]
        rw [hD, hR] at hdg
        have HPW := Lib.hid hpw
        clear hpw hD hR
        go_wp2_with fail
        refine hdg.mono ?_
        rintro e w7 ⟨rfl, hr7, hk7⟩
        have hkw7 := hkw3.trans hk7
        have hat := atoi_any D w7 (hG.keep hkw7 fun k hlt _ => by omega) hDz
        have hbd := atoi_bd D
        obtain ⟨av, hav⟩ : ∃ v, atoiV D = v := ⟨_, rfl⟩
        obtain ⟨ao, hao⟩ : ∃ v, atoiOk D = v := ⟨_, rfl⟩
        rw [hav] at hat HPW hbd
        rw [hao] at hat HPW
        clear hav hao hdg
        go_wp2_with fail
        refine hat.mono ?_
        rintro e w8 ⟨ev, rfl, hev, hk8⟩
        have hr8 := hk8.same _ _ hr7 trivial
        have hkw8 := hkw7.trans (Keep.of_same hk8)
        clear hat
        by_cases h0 : D.size = 0
        · have e1 : D.toList = [] := by
            have : D = ByteArray.empty := by simpa using h0
            rw [this, ByteArray.toList_eq]; rfl
          have HW2 := Lib.hid (show powerR s = ((0, true), s) from by rw [HPW.out]; simp [h0])
          have c2 := cells1 hr8
          have hfz : ∀ j, w8.frozen? ⟨rb, j, none⟩ = false := Lib.frozen_of_heap hr8
          have hev1 := hev.is_iface
          clear h0
          go_wp2_with fail
          go_ret2
          rw [HW2.out]
          exact ⟨rfl, setCell_heap hr8 0 _, hkw8.setCell _ fun o _ h _ => h rfl⟩
        · have e1 : (D.toList == []) = false := by
            cases h : D.toList with
            | nil =>
              have : D.toList.length = D.size := by rw [ByteArray.toList_eq]; simp
              rw [h] at this; simp at this; omega
            | cons x l => rfl
          have HW2 := Lib.hid (show powerR s = ((wrap64 (1 * av), ao && decide (D.size ≤ 4)), R) from by rw [HPW.out]; simp [h0])
          clear h0
          cases ao with
          | true =>
            have hev2 : ev = .nilIface := hev
            subst hev2
            by_cases h4 : D.size ≤ 4
            · have h4b : decide ((D.size : Int) ≤ 4) = true := by simp; omega
              go_wp2_with fail
              go_ret2
              rw [HW2.out]
              exact ⟨by simp [h4] <;> (unfold wrap64; omega), hr8, hkw8⟩
            · have h4b : decide ((D.size : Int) ≤ 4) = false := by simp; omega
              go_wp2_with fail
              go_ret2
              rw [HW2.out]
              exact ⟨by simp [h4] <;> (unfold wrap64; omega), hr8, hkw8⟩
          | false =>
            obtain ⟨tt, pp, rfl⟩ : ∃ t p, ev = .iface t (.pointer (some p)) := hev
            go_wp2_with fail
            go_ret2
            rw [HW2.out]
            exact ⟨by simp <;> (unfold wrap64; omega), hr8, hkw8⟩
      | false =>
        simp only [Bool.false_eq_true, if_false] at hr3
        have hdg := digits_any rb (tailB s) w3 hr3 hts
        obtain ⟨D, hD⟩ : ∃ D, digsB (tailB s) = D := ⟨_, rfl⟩
        obtain ⟨R, hR⟩ : ∃ R, restD (tailB s) = R := ⟨_, rfl⟩
        have hDz : D.size ≤ 1099511627776 := by rw [← hD]; exact Nat.le_trans (digsB_size _) hts
        have hpw : powerR s = if D.size ≠ 0 then ((wrap64 (1 * atoiV D), atoiOk D && decide (D.size ≤ 4)), R) else ((0, true), s) := by
          unfold powerR
          rw [HB1.out]
          have hsg : signR (tailB s) = (1, (tailB s)) := by unfold signR; simp [HB2.out, HB3.out]
          rw [hsg]
          simp only [hD, hR, true_and]
        rw [hD, hR] at hdg
        have HPW := Lib.hid hpw
        clear hpw hD hR
        go_wp2_with fail
        refine hdg.mono ?_
        rintro e w7 ⟨rfl, hr7, hk7⟩
        have hkw7 := hkw3.trans hk7
        have hat := atoi_any D w7 (hG.keep hkw7 fun k hlt _ => by omega) hDz
        have hbd := atoi_bd D
        obtain ⟨av, hav⟩ : ∃ v, atoiV D = v := ⟨_, rfl⟩
        obtain ⟨ao, hao⟩ : ∃ v, atoiOk D = v := ⟨_, rfl⟩
        rw [hav] at hat HPW hbd
        rw [hao] at hat HPW
        clear hav hao hdg
        go_wp2_with fail
        refine hat.mono ?_
        rintro e w8 ⟨ev, rfl, hev, hk8⟩
        have hr8 := hk8.same _ _ hr7 trivial
        have hkw8 := hkw7.trans (Keep.of_same hk8)
        clear hat
        by_cases h0 : D.size = 0
        · have e1 : D.toList = [] := by
            have : D = ByteArray.empty := by simpa using h0
            rw [this, ByteArray.toList_eq]; rfl
          have HW2 := Lib.hid (show powerR s = ((0, true), s) from by rw [HPW.out]; simp [h0])
          have c2 := cells1 hr8
          have hfz : ∀ j, w8.frozen? ⟨rb, j, none⟩ = false := Lib.frozen_of_heap hr8
          have hev1 := hev.is_iface
          clear h0
          go_wp2_with fail
          go_ret2
          rw [HW2.out]
          exact ⟨rfl, setCell_heap hr8 0 _, hkw8.setCell _ fun o _ h _ => h rfl⟩
        · have e1 : (D.toList == []) = false := by
            cases h : D.toList with
            | nil =>
              have : D.toList.length = D.size := by rw [ByteArray.toList_eq]; simp
              rw [h] at this; simp at this; omega
            | cons x l => rfl
          have HW2 := Lib.hid (show powerR s = ((wrap64 (1 * av), ao && decide (D.size ≤ 4)), R) from by rw [HPW.out]; simp [h0])
          clear h0
          cases ao with
          | true =>
            have hev2 : ev = .nilIface := hev
            subst hev2
            by_cases h4 : D.size ≤ 4
            · have h4b : decide ((D.size : Int) ≤ 4) = true := by simp; omega
              go_wp2_with fail
              go_ret2
              rw [HW2.out]
              exact ⟨by simp [h4] <;> (unfold wrap64; omega), hr8, hkw8⟩
            · have h4b : decide ((D.size : Int) ≤ 4) = false := by simp; omega
              go_wp2_with fail
              go_ret2
              rw [HW2.out]
              exact ⟨by simp [h4] <;> (unfold wrap64; omega), hr8, hkw8⟩
          | false =>
            obtain ⟨tt, pp, rfl⟩ : ∃ t p, ev = .iface t (.pointer (some p)) := hev
            go_wp2_with fail
            go_ret2
            rw [HW2.out]
            exact ⟨by simp <;> (unfold wrap64; omega), hr8, hkw8⟩
def wholeO (s : ByteArray) : ByteArray × ByteArray := wholeR (if nextB s [45] then tailB s else s)
def partO (s : ByteArray) : ByteArray × ByteArray := partR (wholeO s).2
def powerO (s : ByteArray) : (Int × Bool) × ByteArray := powerR (partO s).2
def makeO (s : ByteArray) : Dc × Int := makeB (nextB s [45]) ((wholeO s).1 ++ (partO s).1) (wrap64 ((powerO s).1.1 - ((partO s).1.size : Int)))
def parseM (s : ByteArray) : Dc × ByteArray × Int :=
  if (wholeO s).1.size = 0 ∨ (powerO s).1.2 = false then (noDc, s, 40)
  else if (makeO s).2 ≠ 0 then (noDc, s, (makeO s).2) else ((makeO s).1, (powerO s).2, 0)
theorem wholeR_size (s : ByteArray) : (wholeR s).1.size ≤ s.size + 1 ∧ (wholeR s).2.size ≤ s.size := by
  unfold wholeR
  split
  · exact ⟨by show 1 ≤ _; omega, tail_size s⟩
  · exact ⟨Nat.le_succ_of_le (digsB_size s), restD_size s⟩
theorem partR_size (s : ByteArray) : (partR s).1.size ≤ s.size ∧ (partR s).2.size ≤ s.size := by
  unfold partR
  split
  · exact ⟨Nat.le_trans (digsB_size _) (tail_size s), Nat.le_trans (restD_size _) (tail_size s)⟩
  · exact ⟨Nat.zero_le _, Nat.le_refl _⟩
theorem parse_res (T : Array Value) (W : World) (bx : Nat) (d : Dc) (r : ByteArray) (e : Int) (h2 : T.getD 2 undef = .pointer (some ⟨bx, 0, none⟩)) (h3 : T.getD 3 undef = .string r) (h4 : T.getD 4 undef = .int .i64 e)
    (hrow : W.heap[bx]? = some (.cells #[.bool d.neg, .string d.digits, .int .i64 d.exp] 23 (0, 0))) : (results Tryz.f108 T).run Tryz.prog W = .ok (.tuple #[decV d, .string r, .int .i64 e]) W := by
  have hld := run_loadVar_row (P := Tryz.prog) W bx 23 23 _ (0, 0) _ hrow Tryz.underlying23 rfl (by kernel_rfl)
  have e1 : Tryz.f108.results = #[.cell 2 23, .tmp 3, .tmp 4] := rfl
  unfold results
  rw [e1]
  simp [-Array.getD_eq_getD_getElem?, h2, h3, h4, asAddr, hld, Result.andThen]
set_option maxRecDepth 100000 in
set_option maxHeartbeats 4000000 in
theorem parse_any {N : Nat} {E : Errs} (s : ByteArray) (w : World) (hG : Glob N E w) (hN : N ≤ w.heap.size) (hs : s.size ≤ 274877906944) :
    Calls Tryz.prog 108 #[.string s] w fun e w' => e = .returned (.tuple #[decV (parseM s).1, .string (parseM s).2.1, .int .i64 (parseM s).2.2]) ∧ Same w w' := by
  have h1 : (if nextB s [45] then tailB s else s).size ≤ s.size := by
    split
    · exact tail_size s
    · exact Nat.le_refl _
  have h2 := wholeR_size (if nextB s [45] then tailB s else s)
  have h3 := partR_size (wholeO s).2
  have h2' : (wholeO s).1.size ≤ s.size + 1 ∧ (wholeO s).2.size ≤ s.size := by unfold wholeO; omega
  have hpm : parseM s = if (wholeO s).1.size = 0 ∨ (powerO s).1.2 = false then (noDc, s, 40) else if (makeO s).2 ≠ 0 then (noDc, s, (makeO s).2) else ((makeO s).1, (powerO s).2, 0) := rfl
  obtain ⟨R, hR⟩ : ∃ R, parseM s = R := ⟨_, rfl⟩
  rw [hR] at hpm ⊢
  have HR := Lib.hid hpm
  clear hpm hR
  have hnx := fun W (hr : RB (w.heap.size + 1) s W) => isNext1 (w.heap.size + 1) s 45 W hr (by omega)
  have hwh := fun W hr => whole_rd (w.heap.size + 1) (if nextB s [45] then tailB s else s) W hr (by omega)
  have hpt := fun W hr => part_rd (w.heap.size + 1) (wholeO s).2 W hr (by omega)
  have hpw := fun W hg hr => power_rd (N := N) (E := E) (w.heap.size + 1) (partO s).2 W hg (by omega) hr (by have : (partO s).2.size ≤ _ := h3.2; omega)
  have hp1 : (partO s).1.size ≤ s.size := by have : (partO s).1.size ≤ _ := h3.1; omega
  have hmk := fun W => make_any (nextB s [45]) ((wholeO s).1 ++ (partO s).1) (wrap64 ((powerO s).1.1 - ((partO s).1.size : Int))) W (by rw [ByteArray.size_append]; omega) (by unfold wrap64; omega)
  have hw0 : wholeR (if nextB s [45] then tailB s else s) = wholeO s := rfl
  have hp0 : partR (wholeO s).2 = partO s := rfl
  have hq0 : powerR (partO s).2 = powerO s := rfl
  have hm0 : makeB (nextB s [45]) ((wholeO s).1 ++ (partO s).1) (wrap64 ((powerO s).1.1 - ((partO s).1.size : Int))) = makeO s := rfl
  rw [hw0] at hwh
  rw [hp0] at hpt
  rw [hq0] at hpw
  rw [hm0] at hmk
  clear hw0 hp0 hq0 hm0 h1 h2 h3
  obtain ⟨⟨m1, m2⟩, hm⟩ : ∃ r, makeO s = r := ⟨_, rfl⟩
  obtain ⟨⟨⟨q1, q2⟩, q3⟩, hq⟩ : ∃ r, powerO s = r := ⟨_, rfl⟩
  obtain ⟨⟨p1, p2⟩, hp⟩ : ∃ r, partO s = r := ⟨_, rfl⟩
  obtain ⟨⟨v1, v2⟩, hv⟩ : ∃ r, wholeO s = r := ⟨_, rfl⟩
  rw [hm] at hmk HR
  rw [hq] at hpw hmk HR
  rw [hp] at hpt hpw hmk hp1
  rw [hv] at hwh hpt hmk HR h2'
  clear hm hq hp hv
  simp only at hwh hpt hpw hmk HR h2' hp1
  obtain ⟨b, hb⟩ : ∃ b, nextB s [45] = b := ⟨_, rfl⟩
  rw [hb] at hnx hwh hmk
  clear hb
  unfold NextOut at hnx
  obtain ⟨s1, hs1⟩ : ∃ s1, (if b = true then tailB s else s) = s1 := ⟨_, rfl⟩
  rw [hs1] at hwh
  simp only [hs1] at hnx
  clear hs1
  go_enter Tryz.func108, Tryz.ntmps108
  go_wp2_with fail
  have hrb0 : RB (w.heap.size + 1) s ((w.alloc (.cells #[.bool false, .string ⟨#[]⟩, .int .i64 0] 23)).alloc (.cells #[.string s] 188)) := heap_new' (by simp)
  have hbr0 : ((w.alloc (.cells #[.bool false, .string ⟨#[]⟩, .int .i64 0] 23)).alloc (.cells #[.string s] 188)).heap[w.heap.size]? = some (.cells #[.bool false, .string ⟨#[]⟩, .int .i64 0] 23 (0, 0)) := heap_old (World.alloc_heap_new w _)
  have hk0 : Same w ((w.alloc (.cells #[.bool false, .string ⟨#[]⟩, .int .i64 0] 23)).alloc (.cells #[.string s] 188)) := (by repeat (first | with_reducible exact Keep.refl _ _ | with_reducible refine Keep.alloc ?_ _ | with_reducible refine Keep.drew ?_ | with_reducible refine Keep.drewN ?_ _ | with_reducible refine Keep.trans ?_ (by assumption)))
  have hz0 : ((w.alloc (.cells #[.bool false, .string ⟨#[]⟩, .int .i64 0] 23)).alloc (.cells #[.string s] 188)).heap.size = w.heap.size + 1 + 1 := by simp
  have hnx0 := hnx _ hrb0
  generalize ((w.alloc (.cells #[.bool false, .string ⟨#[]⟩, .int .i64 0] 23)).alloc (.cells #[.string s] 188)) = W0 at hrb0 hbr0 hk0 hz0 hnx0 ⊢
  rw [hz0] at hnx0
  clear hz0
  refine hnx0.mono ?_
  rintro e w1 ⟨rfl, hr1, hk1⟩
  have hkw1 := (Keep.of_same hk0).trans (keep_new hk1)
  have hbr1 := (keep_new hk1).same _ _ hbr0 (by omega)
  clear hnx hnx0 hk1 hbr0 hrb0 hk0
  go_wp2_with fail
  refine (hwh _ hr1).mono ?_
  rintro e w2 ⟨rfl, hr2, hk2⟩
  have hkw2 := hkw1.trans hk2
  have hbr2 := hk2.same _ _ hbr1 (by omega)
  clear hwh hk2 hkw1 hbr1 hr1
  go_wp2_with fail
  refine (hpt _ hr2).mono ?_
  rintro e w3 ⟨rfl, hr3, hk3⟩
  have hkw3 := hkw2.trans hk3
  have hbr3 := hk3.same _ _ hbr2 (by omega)
  clear hpt hk3 hkw2 hbr2 hr2
  go_wp2_with fail
  refine (hpw _ (hG.keep hkw3 fun k hlt _ => by omega) hr3).mono ?_
  rintro e w4 ⟨rfl, hr4, hk4⟩
  have hkw4' := hkw3.trans hk4
  have hbr4 := hk4.same _ _ hbr3 (by omega)
  have hkw4 : Same w w4 := ⟨hkw4'.os, hkw4'.tape, hkw4'.output, hkw4'.size, fun k o ho _ => hkw4'.same k o ho (by have := lt_of_some ho; omega)⟩
  clear hpw hk4 hkw3 hbr3 hr3 hkw4'
  simp only at hr4
  by_cases h0 : v1.size = 0
  · have e1 : v1.toList = [] := by
      have : v1 = ByteArray.empty := by simpa using h0
      rw [this, ByteArray.toList_eq]; rfl
    have HR1 := Lib.hid (show R = (noDc, s, 40) from by rw [HR.out, if_pos (.inl h0)])
    clear h0 hmk
    have c0 := cells3 hbr4
    obtain ⟨x0, x1, x2⟩ := c0
    have hfz : ∀ j, w4.frozen? ⟨w.heap.size, j, none⟩ = false := Lib.frozen_of_heap hbr4
    go_wp2_with fail
    (try simp only [Exit.inBlock, Exit.then])
    obtain ⟨p3, p4⟩ := put3 (x := .bool false) (y := .string ⟨#[]⟩) (z := .int .i64 0) hkw4 hbr4 (by omega)
    exact bodyPost_ret (parse_res _ _ w.heap.size noDc s 40 rfl rfl rfl p3) rfl ⟨by rw [HR1.out] <;> rfl, p4⟩
  · have e1 : (v1.toList == []) = false := by
      cases h : v1.toList with
      | nil =>
        have : v1.toList.length = v1.size := by rw [ByteArray.toList_eq]; simp
        rw [h] at this; simp at this; omega
      | cons x l => rfl
    cases q2 with
    | false =>
      have HR1 := Lib.hid (show R = (noDc, s, 40) from by rw [HR.out, if_pos (.inr rfl)])
      clear h0 hmk
      have c0 := cells3 hbr4
      obtain ⟨x0, x1, x2⟩ := c0
      have hfz : ∀ j, w4.frozen? ⟨w.heap.size, j, none⟩ = false := Lib.frozen_of_heap hbr4
      go_wp2_with fail
      (try simp only [Exit.inBlock, Exit.then])
      obtain ⟨p3, p4⟩ := put3 (x := .bool false) (y := .string ⟨#[]⟩) (z := .int .i64 0) hkw4 hbr4 (by omega)
      exact bodyPost_ret (parse_res _ _ w.heap.size noDc s 40 rfl rfl rfl p3) rfl ⟨by rw [HR1.out] <;> rfl, p4⟩
    | true =>
      have hR2 : R = if m2 ≠ 0 then (noDc, s, m2) else (m1, q3, 0) := by rw [HR.out, if_neg (by rintro (h | h); exact h0 h; cases h)]
      have HR2 := Lib.hid hR2
      clear hR2 h0
      obtain ⟨ex, hex⟩ : ∃ ex, wrap64 (q1 - (p1.size : Int)) = ex := ⟨_, rfl⟩
      rw [hex] at hmk
      go_wp2_with fail
      rw [hex]
      refine (hmk _).mono ?_
      rintro e w5 ⟨rfl, hk5⟩
      have hbr5 := heap_old (o := .cells #[.bool m1.neg, .string m1.digits, .int .i64 m1.exp] 23) (hk5.same _ _ hbr4 trivial)
      have hrb5 : RB (w.heap.size + 1) q3 (w5.alloc (.cells #[.bool m1.neg, .string m1.digits, .int .i64 m1.exp] 23)) := heap_old (hk5.same _ _ hr4 trivial)
      have hbd5 : (w5.alloc (.cells #[.bool m1.neg, .string m1.digits, .int .i64 m1.exp] 23)).heap[w5.heap.size]? = some (.cells #[.bool m1.neg, .string m1.digits, .int .i64 m1.exp] 23 (0, 0)) := World.alloc_heap_new w5 _
      have hkw5 : Same w (w5.alloc (.cells #[.bool m1.neg, .string m1.digits, .int .i64 m1.exp] 23)) := (hkw4.trans hk5).alloc _
      have hdb : w.heap.size + 1 < w5.heap.size := lt_of_some (hk5.same _ _ hr4 trivial)
      clear hmk hkw4 hk5 hbr4 hr4 hex
      by_cases hm0 : m2 = 0
      · subst hm0
        have HR1 := Lib.hid (show R = (m1, q3, 0) from by rw [HR2.out]; simp)
        go_wp2_with fail
        generalize (w5.alloc (.cells #[.bool m1.neg, .string m1.digits, .int .i64 m1.exp] 23)) = w6 at hbr5 hrb5 hbd5 hkw5 ⊢
        generalize w5.heap.size = db at hbd5 hdb ⊢
        have z0 := cells1 hrb5
        obtain ⟨z1, z2, z3⟩ := cells3 hbd5
        obtain ⟨x0, x1, x2⟩ := cells3 hbr5
        have hfz : ∀ j, w6.frozen? ⟨w.heap.size, j, none⟩ = false := Lib.frozen_of_heap hbr5
        refine (wpIn_wide (n := 0)).1 ?_
        refine wpIn_region_shut (n := 0) (fun Z => RB (w.heap.size + 1) q3 Z ∧ Z.heap[db]? = some (.cells #[.bool m1.neg, .string m1.digits, .int .i64 m1.exp] 23 (0, 0))) reads (fun _ => trivial) rfl (by kernel_rfl) (by kernel_rfl) ⟨hrb5, hbd5⟩ ?_
        refine shT_x rfl rfl ?_; intro K hK w' hs; have z0 := cells1 hs.1; obtain ⟨z1, z2, z3⟩ := cells3 hs.2; go_simp; refine hK _ _ ?_; clear hK K z0 z1 z2 z3 hs w'
        refine shT_x rfl rfl ?_; intro K hK w' hs; have z0 := cells1 hs.1; obtain ⟨z1, z2, z3⟩ := cells3 hs.2; go_simp; refine hK _ _ ?_; clear hK K z0 z1 z2 z3 hs w'
        refine shT_x rfl rfl ?_; intro K hK w' hs; have z0 := cells1 hs.1; obtain ⟨z1, z2, z3⟩ := cells3 hs.2; go_simp; refine hK _ _ ?_; clear hK K z0 z1 z2 z3 hs w'
        refine shT_x rfl rfl ?_; intro K hK w' hs; have z0 := cells1 hs.1; obtain ⟨z1, z2, z3⟩ := cells3 hs.2; go_simp; refine hK _ _ ?_; clear hK K z0 z1 z2 z3 hs w'
        refine shT_x rfl rfl ?_; intro K hK w' hs; have z0 := cells1 hs.1; obtain ⟨z1, z2, z3⟩ := cells3 hs.2; go_simp; refine hK _ _ ?_; clear hK K z0 z1 z2 z3 hs w'
        refine shT_x rfl rfl ?_; intro K hK w' hs; have z0 := cells1 hs.1; obtain ⟨z1, z2, z3⟩ := cells3 hs.2; go_simp; refine hK _ _ ?_; clear hK K z0 z1 z2 z3 hs w'
        refine shT_c rfl rfl ?_
        intro K hK
        go_simp
        obtain ⟨p3, p4⟩ := put3 (x := .bool m1.neg) (y := .string m1.digits) (z := .int .i64 m1.exp) hkw5 hbr5 (by omega)
        have hk6 : Keep (fun k _ => k ≠ w.heap.size) w6 (((w6.setCell ⟨w.heap.size, 0, none⟩ (.bool m1.neg)).setCell ⟨w.heap.size, 1, none⟩ (.string m1.digits)).setCell ⟨w.heap.size, 2, none⟩ (.int .i64 m1.exp)) := (((Keep.refl _ w6).setCell _ fun o _ h _ => h rfl).setCell _ fun o _ h _ => h rfl).setCell _ fun o _ h _ => h rfl
        refine hK _ _ ⟨hk6.same _ _ hrb5 (by omega), hk6.same _ _ hbd5 (by omega)⟩ ?_
        clear hK K
        refine shT_x rfl rfl ?_
        intro K hK w' hs
        go_simp
        refine hK _ _ ?_
        clear hK K hs w'
        refine shT_x rfl rfl ?_
        intro K hK w' hs
        go_simp
        refine hK _ _ ?_
        clear hK K hs w'
        refine shT_nil ?_
        go_wp2_with fail
        (try simp only [Exit.inBlock, Exit.then])
        exact bodyPost_ret (parse_res _ _ w.heap.size m1 q3 0 rfl rfl rfl p3) rfl ⟨by rw [HR1.out] <;> rfl, p4.drew⟩
      · have hmb : (m2 != 0) = true := by simpa using hm0
        have HR1 := Lib.hid (show R = (noDc, s, m2) from by rw [HR2.out, if_pos hm0])
        clear hm0
        have c0 := cells3 hbr5
        obtain ⟨x0, x1, x2⟩ := c0
        have hfz : ∀ j, (w5.alloc (.cells #[.bool m1.neg, .string m1.digits, .int .i64 m1.exp] 23)).frozen? ⟨w.heap.size, j, none⟩ = false := Lib.frozen_of_heap hbr5
        go_wp2_with fail
        (try simp only [Exit.inBlock, Exit.then])
        obtain ⟨p3, p4⟩ := put3 (x := .bool false) (y := .string ⟨#[]⟩) (z := .int .i64 0) hkw5 hbr5 (by omega)
        exact bodyPost_ret (parse_res _ _ w.heap.size noDc s m2 rfl rfl rfl p3) rfl ⟨by rw [HR1.out] <;> rfl, p4⟩
end Go.Tm

set_option linter.unusedVariables false
namespace Go.Tm
open Go.RowKit Go.Proofs
theorem fmt_right (d : Dc) (h : decRight d = true) : formatM d = (strN (sgnN d.neg ++ bytesN (formatB d)), 0) := by
  unfold formatM
  rw [if_pos h, strN_app, strN_bytesN]
  congr 2
  cases d.neg <;> rfl
theorem fmt_bounds (d : Dc) (h : decRight d = true) : d.digits.size ≤ 100 ∧ -100 ≤ d.exp ∧ d.exp ≤ 100 := by
  unfold decRight at h
  rw [Bool.or_eq_true] at h
  rcases h with h | h
  · have h := of_decide_eq_true h
    subst h
    decide
  · simp only [Bool.and_eq_true, decide_eq_true_eq, within] at h
    omega
theorem same_grow {w w' : World} {k : Nat} {os : Array Obj} (e : w' = Go.Sort.grow (w.drewN k) os) : Same w w' := by
  subst e
  refine ⟨rfl, rfl, rfl, ?_, fun b o ho _ => ?_⟩
  · show _ ≤ (w.heap ++ os).size
    rw [Array.size_append]; omega
  · have hlt := lt_of_some ho
    show (w.heap ++ os)[b]? = some o
    rw [Array.getElem?_append_left hlt, ho]
set_option maxRecDepth 100000 in
set_option maxHeartbeats 1000000 in
theorem fmt_bad (d : Dc) (w : World) (hs : d.digits.size ≤ 1099511627776) (h : decRight d = false) :
    Calls Tryz.prog 109 #[decV d] w fun e w' => e = .returned (.tuple #[.string (formatM d).1, .int .i64 (formatM d).2]) ∧ Same w w' := by
  have hdr := fun W => decRight_any d W hs
  rw [h] at hdr
  have hR : formatM d = (⟨#[]⟩, 40) := by
    unfold formatM
    rw [h]; rfl
  rw [hR]
  clear hR h
  obtain ⟨neg, dg, ex⟩ := d
  simp only at *
  go_enter Tryz.func109, Tryz.ntmps109
  go_wp2_with fail
  refine (hdr _).mono ?_
  rintro e w1 ⟨rfl, hk1⟩
  have hkw1 : Same w w1 := (by repeat (first | with_reducible exact Keep.refl _ _ | with_reducible refine Keep.alloc ?_ _ | with_reducible refine Keep.drew ?_ | with_reducible refine Keep.drewN ?_ _ | with_reducible refine Keep.trans ?_ (by assumption)))
  go_wp2_with fail
  go_ret2
  exact ⟨rfl, hkw1⟩
set_option maxRecDepth 100000 in
set_option maxHeartbeats 4000000 in
theorem fmt_big (d : Dc) (w : World) (h : decRight d = true) (hw : within d.exp 20 = false) (htab : Lib.TabIs Tryz.prog w "internal/strconv.uint64pow10" .u64 Lib.pow10Tab) (hgl : ∀ W, Same w W → Lib.TabIs Tryz.prog W "internal/strconv.uint64pow10" .u64 Lib.pow10Tab) :
    Calls Tryz.prog 109 #[decV d] w fun e w' => e = .returned (.tuple #[.string (formatM d).1, .int .i64 (formatM d).2]) ∧ Same w w' := by
  obtain ⟨hd1, hd2, hd3⟩ := fmt_bounds d h
  have hdr := fun W => decRight_any d W (by omega)
  rw [h] at hdr
  have hwi := fun W => within_any d.exp 20 W (by decide)
  have hw : within d.exp 20 = false := by first | assumption | (unfold within; simp; omega)
  rw [hw] at hwi
  have hfr := fmt_right d h
  have hfb : formatB d = d.digits ++ ⟨#[101]⟩ ++ ⟨(Lib.itoa d.exp).toArray⟩ := by
    unfold formatB
    simp only [hw, if_true]
  rw [hfb] at hfr
  have hit := fun W (hW : Same w W) => Tryz.strconv_Itoa d.exp (by omega) (by omega) W (hgl W hW)
  have hil := Lib.itoa_length_le d.exp (by omega) (by omega)
  obtain ⟨it, hiq⟩ : ∃ it : ByteArray, (⟨(Lib.itoa d.exp).toArray⟩ : ByteArray) = it := ⟨_, rfl⟩
  have hisz : it.size ≤ 21 := by
    rw [← hiq]
    show (Lib.itoa d.exp).toArray.size ≤ 21
    simpa using hil
  rw [hiq] at hit hfr
  obtain ⟨de, hde⟩ : ∃ de : ByteArray, d.digits ++ ⟨#[101]⟩ = de := ⟨_, rfl⟩
  rw [hde] at hfr
  have hdz : de.size ≤ 101 := by rw [← hde, ByteArray.size_append]; show _ + 1 ≤ _; omega
  have HD := Lib.hid hde
  obtain ⟨tx, htx⟩ : ∃ tx : ByteArray, de ++ it = tx := ⟨_, rfl⟩
  rw [htx] at hfr
  have htz : tx.size ≤ 200 := by rw [← htx, ByteArray.size_append]; omega
  have HT := Lib.hid htx
  have HR := Lib.hid hfr
  clear hiq hil hde htx hfr hfb hw h
  obtain ⟨neg, dg, ex⟩ := d
  simp only at *
  go_enter Tryz.func109, Tryz.ntmps109
  go_wp2_with fail
  refine (hdr _).mono ?_
  rintro e w1 ⟨rfl, hk1⟩
  have hbx1 := hk1.same w.heap.size _ (World.alloc_heap_new w _) trivial
  have hkw1 : Same w w1 := (by repeat (first | with_reducible exact Keep.refl _ _ | with_reducible refine Keep.alloc ?_ _ | with_reducible refine Keep.drew ?_ | with_reducible refine Keep.drewN ?_ _ | with_reducible refine Keep.trans ?_ (by assumption)))
  have hlt1 := lt_of_some hbx1
  have hbx2 := heap_old (o := .cells #[.pointer none, .slice none 0 0] 195) hbx1
  have hB0 : Bld w1.heap.size w1.heap.size [] (w1.alloc (.cells #[.pointer none, .slice none 0 0] 195)) := .inl ⟨Nat.le_refl _, .slice none 0 0, World.alloc_heap_new _ _, World.ownsRow_nil _ _ _ _, by simp [Value.ownBlock]⟩
  have hkw2 : Same w (w1.alloc (.cells #[.pointer none, .slice none 0 0] 195)) := hkw1.alloc _
  have hz2 : w1.heap.size ≤ (w1.alloc (.cells #[.pointer none, .slice none 0 0] 195)).heap.size := by simp
  obtain ⟨bb, hbb⟩ : ∃ bb, w1.heap.size = bb := ⟨_, rfl⟩
  rw [hbb] at hB0 hz2 hlt1
  have hbw : w.heap.size ≤ bb := by have := hkw1.size; omega
  obtain ⟨c0, c1, c2⟩ := cells3 hbx2
  cases neg
  focus
    go_wp2_with fail
    generalize (w1.alloc _) = w3 at hB0 hbx2 hkw2 hz2 c0 c1 c2 ⊢
    have hxl : (sgnN false).length ≤ 1 := by decide
    have hx2 : ∀ x ∈ (sgnN false), x < 256 := by decide
    have hB3 : Bld bb bb (sgnN false) w3 := hB0
    generalize (sgnN false) = xs at hxl hx2 hB3 HR
  rotate_left
  focus
    go_wp2_with fail
    refine (writeByte_any bb bb 45 [] _ hB0 (by decide) hz2).mono ?_
    rintro e w3 ⟨rfl, hB3, hK3⟩
    replace hbx2 := hK3.same _ _ hbx2 ⟨by omega, .inl hlt1⟩
    replace hkw2 : Same w w3 := ⟨hK3.os.trans hkw2.os, hK3.tape.trans hkw2.tape, hK3.output.trans hkw2.output, Nat.le_trans hkw2.size hK3.size, fun b o hb _ => hK3.same b o (hkw2.same b o hb trivial) (by have := lt_of_some hb; exact ⟨by omega, .inl (by omega)⟩)⟩
    replace hz2 := Nat.le_trans hz2 hK3.size
    clear hB0 c0 c1 c2 hK3
    obtain ⟨c0, c1, c2⟩ := cells3 hbx2
    go_wp2_with fail
    have hxl : (sgnN true).length ≤ 1 := by decide
    have hx2 : ∀ x ∈ (sgnN true), x < 256 := by decide
    replace hB3 : Bld bb bb (sgnN true) w3 := hB3
    generalize (sgnN true) = xs at hxl hx2 hB3 HR
  all_goals
    refine (hwi _).mono ?_
    rintro x w4 ⟨rfl, h9⟩
    replace h9 := h9.symm
    subst h9
    go_wp2_with fail
    refine (wpIn_wide (n := 0)).1 ?_
    refine wpIn_region_shut (n := 0) (fun X => X.heap[w.heap.size]? = some _) reads (fun _ => trivial) rfl (by kernel_rfl) (by kernel_rfl) hbx2 ?_
    refine shT_x rfl rfl ?_; intro K hK w' hs; obtain ⟨p0, p1, p2⟩ := cells3 hs; go_simp; refine hK _ _ ?_; clear hK K p0 p1 p2 hs w'
    refine shT_x rfl rfl ?_; intro K hK w' hs; obtain ⟨p0, p1, p2⟩ := cells3 hs; go_simp; refine hK _ _ ?_; clear hK K p0 p1 p2 hs w'
    have hcat1 : ¬ 9223372036854775807 < dg.size + 1 := by omega
    refine shT_x rfl rfl ?_
    intro K hK w' hs
    go_simp
    rw [HD.out]
    refine hK _ _ ?_
    clear hK K hs w'
    refine shT_x rfl rfl ?_; intro K hK w' hs; obtain ⟨p0, p1, p2⟩ := cells3 hs; go_simp; refine hK _ _ ?_; clear hK K p0 p1 p2 hs w'
    refine shT_x rfl rfl ?_; intro K hK w' hs; obtain ⟨p0, p1, p2⟩ := cells3 hs; go_simp; refine hK _ _ ?_; clear hK K p0 p1 p2 hs w'
    refine shT_c rfl rfl ?_
    intro K hK
    go_simp
    refine (callsW (hit _ hkw2.drew)).mono ?_
    rintro x w5 ⟨rfl, ko, oso, hw5⟩
    have hk5 := same_grow hw5
    clear hw5
    have hbx5 := hk5.same _ _ hbx2 trivial
    have hB3d : Bld bb bb xs w3.drew := hB3
    have hB5 := isB_keep hB3d hk5 (fun c f => trivial) (fun g c f _ _ => trivial)
    have hkw5 : Same w w5 := hkw2.drew.trans hk5
    have hz5 : bb ≤ w5.heap.size := Nat.le_trans hz2 hk5.size
    refine hK _ _ hbx5 ?_
    clear hK K
    have hcat2 : ¬ 9223372036854775807 < de.size + it.size := by omega
    refine shT_x rfl rfl ?_
    intro K hK w' hs
    go_simp
    rw [HT.out]
    refine hK _ _ ?_
    clear hK K hs w'
    refine shT_c rfl rfl ?_
    intro K hK
    go_simp
    refine (callsW (writeString_any bb bb tx xs _ hB5 (by omega) hz5)).mono ?_
    rintro x w6 ⟨⟨v6, rfl⟩, hB6, hK6⟩
    have hbx6 := hK6.same _ _ hbx5 ⟨by omega, .inl hlt1⟩
    have hkw6 : Same w w6 := ⟨hK6.os.trans hkw5.os, hK6.tape.trans hkw5.tape, hK6.output.trans hkw5.output, Nat.le_trans hkw5.size hK6.size, fun b o hb _ => hK6.same b o (hkw5.same b o hb trivial) (by have := lt_of_some hb; exact ⟨by omega, .inl (by omega)⟩)⟩
    have hz6 : bb ≤ w6.heap.size := Nat.le_trans hz5 hK6.size
    refine hK _ _ hbx6 ?_
    clear hK K
    refine shT_nil ?_
    go_wp2_with fail
    refine (bldString_any bb bb (xs ++ bytesN tx) w6 hB6 (fun x hx => (List.mem_append.1 hx).elim (hx2 x) (bytesN_lt _ x)) hz6).mono ?_
    rintro x w7 ⟨rfl, hK7⟩
    have hkw7 : Same w w7 := ⟨hK7.os.trans hkw6.os, hK7.tape.trans hkw6.tape, hK7.output.trans hkw6.output, Nat.le_trans hkw6.size hK7.size, fun b o hb _ => hK7.same b o (hkw6.same b o hb trivial) (by have := lt_of_some hb; exact .inl (by omega))⟩
    go_wp2_with fail
    go_ret2
    exact ⟨by rw [HR.out]; rfl, hkw7⟩
set_option maxRecDepth 100000 in
set_option maxHeartbeats 4000000 in
theorem fmt_mid (d : Dc) (w : World) (h : decRight d = true) (h0 : d.exp < 0) (h20 : -20 ≤ d.exp) (hn : 0 < (d.digits.size : Int) + d.exp) :
    Calls Tryz.prog 109 #[decV d] w fun e w' => e = .returned (.tuple #[.string (formatM d).1, .int .i64 (formatM d).2]) ∧ Same w w' := by
  obtain ⟨hd1, hd2, hd3⟩ := fmt_bounds d h
  have hdr := fun W => decRight_any d W (by omega)
  rw [h] at hdr
  have hwi := fun W => within_any d.exp 20 W (by decide)
  have hw : within d.exp 20 = true := by first | assumption | (unfold within; simp; omega)
  rw [hw] at hwi
  have hfr := fmt_right d h
  have hfb : formatB d = d.digits.extract 0 ((d.digits.size : Int) + d.exp).toNat ++ ⟨#[46]⟩ ++ d.digits.extract ((d.digits.size : Int) + d.exp).toNat d.digits.size := by
    unfold formatB
    rw [hw]
    simp only [Bool.true_eq_false, if_false]
    rw [if_neg (by omega), if_pos hn]
  rw [hfb] at hfr
  obtain ⟨x1, hx1⟩ : ∃ x1 : ByteArray, d.digits.extract 0 ((d.digits.size : Int) + d.exp).toNat = x1 := ⟨_, rfl⟩
  obtain ⟨x3, hx3⟩ : ∃ x3 : ByteArray, d.digits.extract ((d.digits.size : Int) + d.exp).toNat d.digits.size = x3 := ⟨_, rfl⟩
  have hz1 : x1.size ≤ 100 := by rw [← hx1, ByteArray.size_extract]; omega
  have hz3 : x3.size ≤ 100 := by rw [← hx3, ByteArray.size_extract]; omega
  rw [hx1, hx3] at hfr
  obtain ⟨x2, hx2'⟩ : ∃ x2 : ByteArray, x1 ++ ⟨#[46]⟩ = x2 := ⟨_, rfl⟩
  have hzz : x2.size ≤ 101 := by rw [← hx2', ByteArray.size_append]; show _ + 1 ≤ _; omega
  rw [hx2'] at hfr
  obtain ⟨tx, htx⟩ : ∃ tx : ByteArray, x2 ++ x3 = tx := ⟨_, rfl⟩
  rw [htx] at hfr
  have htz : tx.size ≤ 300 := by rw [← htx, ByteArray.size_append]; omega
  have H1 := Lib.hid hx1
  have H3 := Lib.hid hx3
  have H2 := Lib.hid hx2'
  have HT := Lib.hid htx
  have HR := Lib.hid hfr
  have hdeg : decide ((0 : Int) ≤ d.exp) = false := decide_eq_false (by omega)
  have hgt : decide ((0 : Int) < (d.digits.size : Int) + d.exp) = true := decide_eq_true hn
  have hin : (0 : Int) ≤ (d.digits.size : Int) + d.exp ∧ (d.digits.size : Int) + d.exp ≤ d.digits.size := by omega
  clear hx1 hx3 hx2' htx hfr hfb hw h
  obtain ⟨neg, dg, ex⟩ := d
  simp only at *
  go_enter Tryz.func109, Tryz.ntmps109
  go_wp2_with fail
  refine (hdr _).mono ?_
  rintro e w1 ⟨rfl, hk1⟩
  have hbx1 := hk1.same w.heap.size _ (World.alloc_heap_new w _) trivial
  have hkw1 : Same w w1 := (by repeat (first | with_reducible exact Keep.refl _ _ | with_reducible refine Keep.alloc ?_ _ | with_reducible refine Keep.drew ?_ | with_reducible refine Keep.drewN ?_ _ | with_reducible refine Keep.trans ?_ (by assumption)))
  have hlt1 := lt_of_some hbx1
  have hbx2 := heap_old (o := .cells #[.pointer none, .slice none 0 0] 195) hbx1
  have hB0 : Bld w1.heap.size w1.heap.size [] (w1.alloc (.cells #[.pointer none, .slice none 0 0] 195)) := .inl ⟨Nat.le_refl _, .slice none 0 0, World.alloc_heap_new _ _, World.ownsRow_nil _ _ _ _, by simp [Value.ownBlock]⟩
  have hkw2 : Same w (w1.alloc (.cells #[.pointer none, .slice none 0 0] 195)) := hkw1.alloc _
  have hz2 : w1.heap.size ≤ (w1.alloc (.cells #[.pointer none, .slice none 0 0] 195)).heap.size := by simp
  obtain ⟨bb, hbb⟩ : ∃ bb, w1.heap.size = bb := ⟨_, rfl⟩
  rw [hbb] at hB0 hz2 hlt1
  have hbw : w.heap.size ≤ bb := by have := hkw1.size; omega
  obtain ⟨c0, c1, c2⟩ := cells3 hbx2
  cases neg
  focus
    go_wp2_with fail
    generalize (w1.alloc _) = w3 at hB0 hbx2 hkw2 hz2 c0 c1 c2 ⊢
    have hxl : (sgnN false).length ≤ 1 := by decide
    have hx2 : ∀ x ∈ (sgnN false), x < 256 := by decide
    have hB3 : Bld bb bb (sgnN false) w3 := hB0
    generalize (sgnN false) = xs at hxl hx2 hB3 HR
  rotate_left
  focus
    go_wp2_with fail
    refine (writeByte_any bb bb 45 [] _ hB0 (by decide) hz2).mono ?_
    rintro e w3 ⟨rfl, hB3, hK3⟩
    replace hbx2 := hK3.same _ _ hbx2 ⟨by omega, .inl hlt1⟩
    replace hkw2 : Same w w3 := ⟨hK3.os.trans hkw2.os, hK3.tape.trans hkw2.tape, hK3.output.trans hkw2.output, Nat.le_trans hkw2.size hK3.size, fun b o hb _ => hK3.same b o (hkw2.same b o hb trivial) (by have := lt_of_some hb; exact ⟨by omega, .inl (by omega)⟩)⟩
    replace hz2 := Nat.le_trans hz2 hK3.size
    clear hB0 c0 c1 c2 hK3
    obtain ⟨c0, c1, c2⟩ := cells3 hbx2
    go_wp2_with fail
    have hxl : (sgnN true).length ≤ 1 := by decide
    have hx2 : ∀ x ∈ (sgnN true), x < 256 := by decide
    replace hB3 : Bld bb bb (sgnN true) w3 := hB3
    generalize (sgnN true) = xs at hxl hx2 hB3 HR
  all_goals
    refine (hwi _).mono ?_
    rintro x w4 ⟨rfl, h9⟩
    replace h9 := h9.symm
    subst h9
    go_wp2_with fail
    refine (wpIn_wide (n := 0)).1 ?_
    refine wpIn_region_shut (n := 0) (fun X => X.heap[w.heap.size]? = some _) reads (fun _ => trivial) rfl (by kernel_rfl) (by kernel_rfl) hbx2 ?_
    refine shT_x rfl rfl ?_; intro K hK w' hs; obtain ⟨p0, p1, p2⟩ := cells3 hs; go_simp; refine hK _ _ ?_; clear hK K p0 p1 p2 hs w'
    refine shT_x rfl rfl ?_; intro K hK w' hs; obtain ⟨p0, p1, p2⟩ := cells3 hs; go_simp; refine hK _ _ ?_; clear hK K p0 p1 p2 hs w'
    refine shT_x rfl rfl ?_; intro K hK w' hs; obtain ⟨p0, p1, p2⟩ := cells3 hs; go_simp; refine hK _ _ ?_; clear hK K p0 p1 p2 hs w'
    refine shT_x rfl rfl ?_
    intro K hK w' hs
    go_simp
    rw [H1.out]
    refine hK _ _ ?_
    clear hK K hs w'
    have hcat1 : ¬ 9223372036854775807 < x1.size + 1 := by omega
    refine shT_x rfl rfl ?_
    intro K hK w' hs
    go_simp
    rw [H2.out]
    refine hK _ _ ?_
    clear hK K hs w'
    refine shT_x rfl rfl ?_; intro K hK w' hs; obtain ⟨p0, p1, p2⟩ := cells3 hs; go_simp; refine hK _ _ ?_; clear hK K p0 p1 p2 hs w'
    refine shT_x rfl rfl ?_; intro K hK w' hs; obtain ⟨p0, p1, p2⟩ := cells3 hs; go_simp; refine hK _ _ ?_; clear hK K p0 p1 p2 hs w'
    refine shT_x rfl rfl ?_; intro K hK w' hs; obtain ⟨p0, p1, p2⟩ := cells3 hs; go_simp; refine hK _ _ ?_; clear hK K p0 p1 p2 hs w'
    refine shT_x rfl rfl ?_
    intro K hK w' hs
    go_simp
    rw [H3.out]
    refine hK _ _ ?_
    clear hK K hs w'
    have hcat2 : ¬ 9223372036854775807 < x2.size + x3.size := by omega
    refine shT_x rfl rfl ?_
    intro K hK w' hs
    go_simp
    rw [HT.out]
    refine hK _ _ ?_
    clear hK K hs w'
    have hbx5 : w3.drew.heap[w.heap.size]? = _ := hbx2
    have hkw5 : Same w w3.drew := hkw2.drew
    have hB5 : Bld bb bb xs w3.drew := hB3
    have hz5 : bb ≤ w3.drew.heap.size := hz2
    refine shT_c rfl rfl ?_
    intro K hK
    go_simp
    refine (callsW (writeString_any bb bb tx xs _ hB5 (by omega) hz5)).mono ?_
    rintro x w6 ⟨⟨v6, rfl⟩, hB6, hK6⟩
    have hbx6 := hK6.same _ _ hbx5 ⟨by omega, .inl hlt1⟩
    have hkw6 : Same w w6 := ⟨hK6.os.trans hkw5.os, hK6.tape.trans hkw5.tape, hK6.output.trans hkw5.output, Nat.le_trans hkw5.size hK6.size, fun b o hb _ => hK6.same b o (hkw5.same b o hb trivial) (by have := lt_of_some hb; exact ⟨by omega, .inl (by omega)⟩)⟩
    have hz6 : bb ≤ w6.heap.size := Nat.le_trans hz5 hK6.size
    refine hK _ _ hbx6 ?_
    clear hK K
    refine shT_nil ?_
    go_wp2_with fail
    refine (bldString_any bb bb (xs ++ bytesN tx) w6 hB6 (fun x hx => (List.mem_append.1 hx).elim (hx2 x) (bytesN_lt _ x)) hz6).mono ?_
    rintro x w7 ⟨rfl, hK7⟩
    have hkw7 : Same w w7 := ⟨hK7.os.trans hkw6.os, hK7.tape.trans hkw6.tape, hK7.output.trans hkw6.output, Nat.le_trans hkw6.size hK7.size, fun b o hb _ => hK7.same b o (hkw6.same b o hb trivial) (by have := lt_of_some hb; exact .inl (by omega))⟩
    go_wp2_with fail
    go_ret2
    exact ⟨by rw [HR.out]; rfl, hkw7⟩
end Go.Tm

set_option linter.unusedVariables false
namespace Go.Tm
open Go.RowKit Go.Proofs
set_option maxRecDepth 100000 in
set_option maxHeartbeats 4000000 in
theorem fmt_low (d : Dc) (w : World) (h : decRight d = true) (h0 : d.exp < 0) (h20 : -20 ≤ d.exp) (hn : (d.digits.size : Int) + d.exp ≤ 0) :
    Calls Tryz.prog 109 #[decV d] w fun e w' => e = .returned (.tuple #[.string (formatM d).1, .int .i64 (formatM d).2]) ∧ Same w w' := by
  obtain ⟨hd1, hd2, hd3⟩ := fmt_bounds d h
  have hdr := fun W => decRight_any d W (by omega)
  rw [h] at hdr
  have hwi := fun W => within_any d.exp 20 W (by decide)
  have hw : within d.exp 20 = true := by first | assumption | (unfold within; simp; omega)
  rw [hw] at hwi
  have hfr := fmt_right d h
  have hfb : formatB d = ⟨#[48, 46]⟩ ++ zerosB (-((d.digits.size : Int) + d.exp)) ++ d.digits := by
    unfold formatB
    rw [hw]
    simp only [Bool.true_eq_false, if_false]
    rw [if_neg (by omega), if_neg (by omega)]
  rw [hfb] at hfr
  have hrep := fun W => repeat0_any (-((d.digits.size : Int) + d.exp)) W (by omega) (by omega)
  obtain ⟨zs, hzs⟩ : ∃ zs : ByteArray, zerosB (-((d.digits.size : Int) + d.exp)) = zs := ⟨_, rfl⟩
  have hzl : zs.size ≤ 20 := by
    rw [← hzs]
    show (List.replicate (-((d.digits.size : Int) + d.exp)).toNat (48 : UInt8)).toArray.size ≤ 20
    simp; omega
  have hzs2 : (⟨(List.replicate (-((d.digits.size : Int) + d.exp)).toNat (48 : UInt8)).toArray⟩ : ByteArray) = zs := hzs
  rw [hzs2] at hrep
  rw [hzs] at hfr
  obtain ⟨x2, hx2'⟩ : ∃ x2 : ByteArray, ⟨#[48, 46]⟩ ++ zs = x2 := ⟨_, rfl⟩
  have hzz : x2.size ≤ 22 := by rw [← hx2', ByteArray.size_append]; show 2 + _ ≤ _; omega
  rw [hx2'] at hfr
  obtain ⟨tx, htx⟩ : ∃ tx : ByteArray, x2 ++ d.digits = tx := ⟨_, rfl⟩
  rw [htx] at hfr
  have htz : tx.size ≤ 300 := by rw [← htx, ByteArray.size_append]; omega
  have H2 := Lib.hid hx2'
  have HT := Lib.hid htx
  have HR := Lib.hid hfr
  have hdeg : decide ((0 : Int) ≤ d.exp) = false := decide_eq_false (by omega)
  have hgt : decide ((0 : Int) < (d.digits.size : Int) + d.exp) = false := decide_eq_false (by omega)
  clear hzs hzs2 hx2' htx hfr hfb hw h
  obtain ⟨neg, dg, ex⟩ := d
  simp only at *
  go_enter Tryz.func109, Tryz.ntmps109
  go_wp2_with fail
  refine (hdr _).mono ?_
  rintro e w1 ⟨rfl, hk1⟩
  have hbx1 := hk1.same w.heap.size _ (World.alloc_heap_new w _) trivial
  have hkw1 : Same w w1 := (by repeat (first | with_reducible exact Keep.refl _ _ | with_reducible refine Keep.alloc ?_ _ | with_reducible refine Keep.drew ?_ | with_reducible refine Keep.drewN ?_ _ | with_reducible refine Keep.trans ?_ (by assumption)))
  have hlt1 := lt_of_some hbx1
  have hbx2 := heap_old (o := .cells #[.pointer none, .slice none 0 0] 195) hbx1
  have hB0 : Bld w1.heap.size w1.heap.size [] (w1.alloc (.cells #[.pointer none, .slice none 0 0] 195)) := .inl ⟨Nat.le_refl _, .slice none 0 0, World.alloc_heap_new _ _, World.ownsRow_nil _ _ _ _, by simp [Value.ownBlock]⟩
  have hkw2 : Same w (w1.alloc (.cells #[.pointer none, .slice none 0 0] 195)) := hkw1.alloc _
  have hz2 : w1.heap.size ≤ (w1.alloc (.cells #[.pointer none, .slice none 0 0] 195)).heap.size := by simp
  obtain ⟨bb, hbb⟩ : ∃ bb, w1.heap.size = bb := ⟨_, rfl⟩
  rw [hbb] at hB0 hz2 hlt1
  have hbw : w.heap.size ≤ bb := by have := hkw1.size; omega
  obtain ⟨c0, c1, c2⟩ := cells3 hbx2
  cases neg
  focus
    go_wp2_with fail
    generalize (w1.alloc _) = w3 at hB0 hbx2 hkw2 hz2 c0 c1 c2 ⊢
    have hxl : (sgnN false).length ≤ 1 := by decide
    have hx2 : ∀ x ∈ (sgnN false), x < 256 := by decide
    have hB3 : Bld bb bb (sgnN false) w3 := hB0
    generalize (sgnN false) = xs at hxl hx2 hB3 HR
  rotate_left
  focus
    go_wp2_with fail
    refine (writeByte_any bb bb 45 [] _ hB0 (by decide) hz2).mono ?_
    rintro e w3 ⟨rfl, hB3, hK3⟩
    replace hbx2 := hK3.same _ _ hbx2 ⟨by omega, .inl hlt1⟩
    replace hkw2 : Same w w3 := ⟨hK3.os.trans hkw2.os, hK3.tape.trans hkw2.tape, hK3.output.trans hkw2.output, Nat.le_trans hkw2.size hK3.size, fun b o hb _ => hK3.same b o (hkw2.same b o hb trivial) (by have := lt_of_some hb; exact ⟨by omega, .inl (by omega)⟩)⟩
    replace hz2 := Nat.le_trans hz2 hK3.size
    clear hB0 c0 c1 c2 hK3
    obtain ⟨c0, c1, c2⟩ := cells3 hbx2
    go_wp2_with fail
    have hxl : (sgnN true).length ≤ 1 := by decide
    have hx2 : ∀ x ∈ (sgnN true), x < 256 := by decide
    replace hB3 : Bld bb bb (sgnN true) w3 := hB3
    generalize (sgnN true) = xs at hxl hx2 hB3 HR
  all_goals
    refine (hwi _).mono ?_
    rintro x w4 ⟨rfl, h9⟩
    replace h9 := h9.symm
    subst h9
    go_wp2_with fail
    refine (wpIn_wide (n := 0)).1 ?_
    refine wpIn_region_shut (n := 0) (fun X => X.heap[w.heap.size]? = some _) reads (fun _ => trivial) rfl (by kernel_rfl) (by kernel_rfl) hbx2 ?_
    refine shT_x rfl rfl ?_; intro K hK w' hs; obtain ⟨p0, p1, p2⟩ := cells3 hs; go_simp; refine hK _ _ ?_; clear hK K p0 p1 p2 hs w'
    refine shT_x rfl rfl ?_; intro K hK w' hs; obtain ⟨p0, p1, p2⟩ := cells3 hs; go_simp; refine hK _ _ ?_; clear hK K p0 p1 p2 hs w'
    refine shT_c rfl rfl ?_
    intro K hK
    go_simp
    rw [show IntKind.i64.wrap (-((dg.size : Int) + ex)) = -((dg.size : Int) + ex) from by rw [IntKind.wrap_i64]; omega]
    refine (callsW (hrep _)).mono ?_
    rintro x w5 ⟨rfl, hk5⟩
    have hbx5 := hk5.same _ _ hbx2 trivial
    have hB3d : Bld bb bb xs w3.drew := hB3
    have hB5 := isB_keep hB3d hk5 (fun c f => trivial) (fun g c f _ _ => trivial)
    have hkw5 : Same w w5 := hkw2.drew.trans hk5
    have hz5 : bb ≤ w5.heap.size := Nat.le_trans hz2 hk5.size
    refine hK _ _ hbx5 ?_
    clear hK K
    obtain ⟨f0, f1, f2⟩ := cells3 hbx5
    have hcat1 : ¬ 9223372036854775807 < 2 + zs.size := by omega
    refine shT_x rfl rfl ?_
    intro K hK w' hs
    go_simp
    rw [H2.out]
    refine hK _ _ ?_
    clear hK K hs w'
    refine shT_x rfl rfl ?_; intro K hK w' hs; obtain ⟨p0, p1, p2⟩ := cells3 hs; go_simp; refine hK _ _ ?_; clear hK K p0 p1 p2 hs w'
    refine shT_x rfl rfl ?_; intro K hK w' hs; obtain ⟨p0, p1, p2⟩ := cells3 hs; go_simp; refine hK _ _ ?_; clear hK K p0 p1 p2 hs w'
    have hcat2 : ¬ 9223372036854775807 < x2.size + dg.size := by omega
    refine shT_x rfl rfl ?_
    intro K hK w' hs
    go_simp
    rw [HT.out]
    refine hK _ _ ?_
    clear hK K hs w'
    refine shT_c rfl rfl ?_
    intro K hK
    go_simp
    refine (callsW (writeString_any bb bb tx xs _ hB5 (by omega) hz5)).mono ?_
    rintro x w6 ⟨⟨v6, rfl⟩, hB6, hK6⟩
    have hbx6 := hK6.same _ _ hbx5 ⟨by omega, .inl hlt1⟩
    have hkw6 : Same w w6 := ⟨hK6.os.trans hkw5.os, hK6.tape.trans hkw5.tape, hK6.output.trans hkw5.output, Nat.le_trans hkw5.size hK6.size, fun b o hb _ => hK6.same b o (hkw5.same b o hb trivial) (by have := lt_of_some hb; exact ⟨by omega, .inl (by omega)⟩)⟩
    have hz6 : bb ≤ w6.heap.size := Nat.le_trans hz5 hK6.size
    refine hK _ _ hbx6 ?_
    clear hK K
    refine shT_nil ?_
    go_wp2_with fail
    refine (bldString_any bb bb (xs ++ bytesN tx) w6 hB6 (fun x hx => (List.mem_append.1 hx).elim (hx2 x) (bytesN_lt _ x)) hz6).mono ?_
    rintro x w7 ⟨rfl, hK7⟩
    have hkw7 : Same w w7 := ⟨hK7.os.trans hkw6.os, hK7.tape.trans hkw6.tape, hK7.output.trans hkw6.output, Nat.le_trans hkw6.size hK7.size, fun b o hb _ => hK7.same b o (hkw6.same b o hb trivial) (by have := lt_of_some hb; exact .inl (by omega))⟩
    go_wp2_with fail
    go_ret2
    exact ⟨by rw [HR.out]; rfl, hkw7⟩
end Go.Tm

set_option linter.unusedVariables false
namespace Go.Tm
open Go.RowKit Go.Proofs
theorem format_any {N : Nat} {E : Errs} (d : Dc) (w : World) (hG : Glob N E w) (hs : d.digits.size ≤ 1099511627776) :
    Calls Tryz.prog 109 #[decV d] w fun e w' => e = .returned (.tuple #[.string (formatM d).1, .int .i64 (formatM d).2]) ∧ Same w w' := by
  cases h : decRight d with
  | false => exact fmt_bad d w hs h
  | true =>
    cases hw : within d.exp 20 with
    | false => exact fmt_big d w h hw hG.pow fun W hW => (hG.same hW).pow
    | true =>
      have hb : -20 ≤ d.exp ∧ d.exp ≤ 20 := by
        unfold within at hw
        simp only [Bool.and_eq_true, decide_eq_true_eq] at hw
        exact hw
      by_cases h0 : 0 ≤ d.exp
      · exact format_int d w hs h h0 hb.2
      · by_cases hn : 0 < (d.digits.size : Int) + d.exp
        · exact fmt_mid d w h (by omega) hb.1 hn
        · exact fmt_low d w h (by omega) hb.1 (by omega)
def extX (h : Hd) : Dc × Bool :=
  if h.u ≠ 100 ∨ (parseM h.s).2.2 ≠ 0 ∨ (parseM h.s).2.1.size ≠ 0 then (noDc, false)
  else if (formatM (parseM h.s).1).2 ≠ 0 ∨ (formatM (parseM h.s).1).1 ≠ h.s then (noDc, false)
  else ((parseM h.s).1, true)
theorem parse_right_dec (s : ByteArray) (h : (parseM s).2.2 = 0) : decRight (parseM s).1 = true := by
  unfold parseM at h ⊢
  split at h
  · cases h
  · rename_i h1
    rw [if_neg h1]
    split at h
    · rename_i h2; exact absurd h h2
    · rename_i h2
      rw [if_neg h2]
      have h3 : (makeO s).2 = 0 := Decidable.not_not.1 h2
      unfold makeO at h3 ⊢
      exact makeB_right _ _ _ h3
theorem extX_right (h : Hd) (hx : (extX h).2 = true) : decRight (extX h).1 = true := by
  unfold extX at hx ⊢
  split at hx
  · cases hx
  · rename_i h1
    rw [if_neg h1]
    split at hx
    · cases hx
    · rename_i h2
      rw [if_neg h2]
      exact parse_right_dec _ (Decidable.not_not.1 fun e => h1 (.inr (.inl e)))
theorem ofExt_res (T : Array Value) (W : World) (bx : Nat) (d : Dc) (e : Bool) (h2 : T.getD 2 undef = .pointer (some ⟨bx, 0, none⟩)) (h3 : T.getD 3 undef = .bool e)
    (hrow : W.heap[bx]? = some (.cells #[.bool d.neg, .string d.digits, .int .i64 d.exp] 23 (0, 0))) : (results Tryz.f59 T).run Tryz.prog W = .ok (decB (d, e)) W := by
  have hld := run_loadVar_row (P := Tryz.prog) W bx 23 23 _ (0, 0) _ hrow Tryz.underlying23 rfl (by kernel_rfl)
  rw [results_cell_tmp rfl, h2, h3]
  simp [asAddr, hld, Result.andThen]
set_option maxRecDepth 100000 in
set_option maxHeartbeats 4000000 in
theorem ofExt_any {N : Nat} {E : Errs} (h : Hd) (a : Option Addr) (n cap : Nat) (w : World) (hG : Glob N E w) (hN : N ≤ w.heap.size) (hs : h.s.size ≤ 274877906944) :
    Calls Tryz.prog 59 #[nodeV h (.slice a n cap)] w fun e w' => e = .returned (decB (extX h)) ∧ Same w w' := by
  have hpa := fun W (hW : Same w W) => parse_any h.s W (hG.same hW) (Nat.le_trans hN hW.size) hs
  have hpd := parse_right_dec h.s
  obtain ⟨R, hR⟩ : ∃ R, extX h = R := ⟨_, rfl⟩
  have hr0 : R = if h.u ≠ 100 ∨ (parseM h.s).2.2 ≠ 0 ∨ (parseM h.s).2.1.size ≠ 0 then (noDc, false) else if (formatM (parseM h.s).1).2 ≠ 0 ∨ (formatM (parseM h.s).1).1 ≠ h.s then (noDc, false) else ((parseM h.s).1, true) := hR.symm
  rw [hR]
  clear hR
  obtain ⟨⟨d, rest, er⟩, hpq⟩ : ∃ r, parseM h.s = r := ⟨_, rfl⟩
  rw [hpq] at hpa hpd hr0
  simp only at hpa hpd hr0
  have hfm := fun W (hW : Same w W) (hdd : er = 0) => format_any (N := N) (E := E) d W (hG.same hW) (Nat.le_trans (fmt_bounds d (hpd hdd)).1 (by decide))
  obtain ⟨⟨fs, fe⟩, hfq⟩ : ∃ r, formatM d = r := ⟨_, rfl⟩
  rw [hfq] at hfm hr0
  simp only at hfm hr0
  clear hpq hfq
  have HR := Lib.hid hr0
  clear hr0
  go_enter Tryz.func59, Tryz.ntmps59
  go_wp2_with fail
  refine (hpa _ (by repeat (first | with_reducible exact Keep.refl _ _ | with_reducible refine Keep.alloc ?_ _ | with_reducible refine Keep.drew ?_ | with_reducible refine Keep.drewN ?_ _ | with_reducible refine Keep.trans ?_ (by assumption)))).mono ?_
  rintro x w1 ⟨rfl, hk1⟩
  have hbn1 := hk1.same w.heap.size _ (show _ = some (.cells #[.int .i64 h.kind, .bool h.b, .bool h.d.neg, .string h.d.digits, .int .i64 h.d.exp, .int .u64 (h.u : Int), .int .i64 h.w, .string h.s, .slice a n cap] 27 (0, 0)) from heap_old (World.alloc_heap_new w _)) trivial
  have hbr1 := hk1.same (w.heap.size + 1) _ (show _ = some (.cells #[.bool false, .string ⟨#[]⟩, .int .i64 0] 23 (0, 0)) from heap_new' (by simp)) trivial
  have hkw1 : Same w w1 := (by repeat (first | with_reducible exact Keep.refl _ _ | with_reducible refine Keep.alloc ?_ _ | with_reducible refine Keep.drew ?_ | with_reducible refine Keep.drewN ?_ _ | with_reducible refine Keep.trans ?_ (by assumption)))
  have hbn2 := heap_old (o := .cells #[.bool d.neg, .string d.digits, .int .i64 d.exp] 23) hbn1
  have hbr2 := heap_old (o := .cells #[.bool d.neg, .string d.digits, .int .i64 d.exp] 23) hbr1
  have hbx2 : (w1.alloc (.cells #[.bool d.neg, .string d.digits, .int .i64 d.exp] 23)).heap[w1.heap.size]? = some (.cells #[.bool d.neg, .string d.digits, .int .i64 d.exp] 23 (0, 0)) := World.alloc_heap_new w1 _
  have hkw2 : Same w (w1.alloc (.cells #[.bool d.neg, .string d.digits, .int .i64 d.exp] 23)) := hkw1.trans ((Keep.refl _ _).alloc _)
  obtain ⟨n0, n1, n2, n3, n4, n5, n6, n7, n8⟩ := cells9 hbn2
  obtain ⟨z0, z1, z2⟩ := cells3 hbr2
  obtain ⟨x0, x1, x2⟩ := cells3 hbx2
  obtain ⟨m0, m1, m2, m3, m4, m5, m6, m7, m8⟩ := cells9 hbn1
  have hfz : ∀ j, (w1.alloc (.cells #[.bool d.neg, .string d.digits, .int .i64 d.exp] 23)).frozen? ⟨w.heap.size + 1, j, none⟩ = false := Lib.frozen_of_heap hbr2
  by_cases hu : h.u = 100
  · have k1 : ((h.u : Int) == 100) = true := by simp [hu]
    have nk1 : ((h.u : Int) != 100) = false := by simp [hu]
    by_cases he : er = 0
    · subst he
      by_cases hre : rest.size = 0
      · have k3 : rest.toList = [] := by
          have : rest = ByteArray.empty := by simpa using hre
          rw [this, ByteArray.toList_eq]; rfl
        have HR2 := Lib.hid (show R = if fe ≠ 0 ∨ fs ≠ h.s then (noDc, false) else (d, true) from by rw [HR.out, if_neg (by rintro (e | e | e); exact e hu; exact e rfl; exact e hre)])
        clear hu HR hre hpd hpa
        go_wp2_with fail
        refine (hfm _ hkw2 trivial).mono ?_
        rintro x w4 ⟨rfl, hk4⟩
        have hbn4 := hk4.same _ _ hbn2 trivial
        have hbr4 := hk4.same _ _ hbr2 trivial
        have hbx4 := hk4.same _ _ hbx2 trivial
        have hkw4 := hkw2.trans hk4
        clear n0 n1 n2 n3 n4 n5 n6 n7 n8 z0 z1 z2 x0 x1 x2 m0 m1 m2 m3 m4 m5 m6 m7 m8 hfz hfm hbn2 hbn1 hbr1 hbr2 hbx2 hk4 hkw2
        obtain ⟨n0, n1, n2, n3, n4, n5, n6, n7, n8⟩ := cells9 hbn4
        obtain ⟨z0, z1, z2⟩ := cells3 hbr4
        obtain ⟨x0, x1, x2⟩ := cells3 hbx4
        have hfz : ∀ j, w4.frozen? ⟨w.heap.size + 1, j, none⟩ = false := Lib.frozen_of_heap hbr4
        by_cases hfe : fe = 0
        · subst hfe
          by_cases hfs : fs = h.s
          · have k4 : (fs.toList == h.s.toList) = true := str_eq hfs
            have nk4 : (fs.toList != h.s.toList) = false := by unfold bne; rw [k4]; rfl
            have HR1 := Lib.hid (show R = (d, true) from by rw [HR2.out, if_neg (by rintro (e | e); exact e rfl; exact e hfs)])
            clear hfs HR2
            go_wp2_with fail
            (try simp only [Exit.inBlock, Exit.then])
            obtain ⟨p3, p4⟩ := put3 (x := .bool d.neg) (y := .string d.digits) (z := .int .i64 d.exp) hkw4 hbr4 (by omega)
            exact bodyPost_ret (ofExt_res _ _ (w.heap.size + 1) d true rfl rfl p3) rfl ⟨by rw [HR1.out] <;> rfl, p4⟩
          · have k4 : (fs.toList == h.s.toList) = false := str_ne hfs
            have nk4 : (fs.toList != h.s.toList) = true := by unfold bne; rw [k4]; rfl
            have HR1 := Lib.hid (show R = (noDc, false) from by rw [HR2.out, if_pos (.inr hfs)])
            clear hfs HR2
            go_wp2_with fail; (try simp only [Exit.inBlock, Exit.then]); obtain ⟨p3, p4⟩ := put3 (x := .bool false) (y := .string ⟨#[]⟩) (z := .int .i64 0) hkw4 hbr4 (by omega); exact bodyPost_ret (ofExt_res _ _ (w.heap.size + 1) noDc false rfl rfl p3) rfl ⟨by rw [HR1.out] <;> rfl, p4⟩
        · have k2 : ((fe : Int) == 0) = false := by simpa using hfe
          have nk2 : ((fe : Int) != 0) = true := by simpa using hfe
          have HR1 := Lib.hid (show R = (noDc, false) from by rw [HR2.out, if_pos (.inl hfe)])
          clear hfe HR2
          go_wp2_with fail; (try simp only [Exit.inBlock, Exit.then]); obtain ⟨p3, p4⟩ := put3 (x := .bool false) (y := .string ⟨#[]⟩) (z := .int .i64 0) hkw4 hbr4 (by omega); exact bodyPost_ret (ofExt_res _ _ (w.heap.size + 1) noDc false rfl rfl p3) rfl ⟨by rw [HR1.out] <;> rfl, p4⟩
      · have k3 : (rest.toList == []) = false := beq_eq_false_iff_ne.2 fun e => hre (by rw [ByteArray.toList_eq] at e; show rest.data.size = 0; rw [← Array.length_toList, e]; rfl)
        have nk3 : (rest.toList != []) = true := by unfold bne; rw [k3]; rfl
        have HR1 := Lib.hid (show R = (noDc, false) from by rw [HR.out, if_pos (.inr (.inr hre))])
        clear hu HR hfm hpd hpa hre
        go_wp2_with fail; (try simp only [Exit.inBlock, Exit.then]); obtain ⟨p3, p4⟩ := put3 (x := .bool false) (y := .string ⟨#[]⟩) (z := .int .i64 0) hkw2 hbr2 (by omega); exact bodyPost_ret (ofExt_res _ _ (w.heap.size + 1) noDc false rfl rfl p3) rfl ⟨by rw [HR1.out] <;> rfl, p4⟩
    · have k2 : ((er : Int) == 0) = false := by simpa using he
      have nk2 : ((er : Int) != 0) = true := by simpa using he
      have HR1 := Lib.hid (show R = (noDc, false) from by rw [HR.out, if_pos (.inr (.inl he))])
      clear hu HR hfm hpd hpa he
      go_wp2_with fail; (try simp only [Exit.inBlock, Exit.then]); obtain ⟨p3, p4⟩ := put3 (x := .bool false) (y := .string ⟨#[]⟩) (z := .int .i64 0) hkw2 hbr2 (by omega); exact bodyPost_ret (ofExt_res _ _ (w.heap.size + 1) noDc false rfl rfl p3) rfl ⟨by rw [HR1.out] <;> rfl, p4⟩
  · have k1 : ((h.u : Int) == 100) = false := by simp; omega
    have nk1 : ((h.u : Int) != 100) = true := by simp; omega
    have HR1 := Lib.hid (show R = (noDc, false) from by rw [HR.out, if_pos (.inl hu)])
    clear hu HR hfm hpd hpa
    go_wp2_with fail; (try simp only [Exit.inBlock, Exit.then]); obtain ⟨p3, p4⟩ := put3 (x := .bool false) (y := .string ⟨#[]⟩) (z := .int .i64 0) hkw2 hbr2 (by omega); exact bodyPost_ret (ofExt_res _ _ (w.heap.size + 1) noDc false rfl rfl p3) rfl ⟨by rw [HR1.out] <;> rfl, p4⟩
end Go.Tm

set_option linter.unusedVariables false
namespace Go.Tm
open Go.RowKit Go.Proofs
theorem ext_all {N : Nat} {E : Errs} {t : Tree} {f : Int} (h : checkT t f = 0) : ∀ x ∈ t.flat, ExtC extX N E x := fun x hx h11 W lv hG hN hr => by
  obtain ⟨a, c, rfl⟩ := hr.is_slice
  exact ofExt_any x.hd a _ c W hG hN (Nat.le_trans (own_s ((checkT_all h).2.2 x hx).1) (by decide))
theorem sameOf' {w W : World} (hk : Keep (fun k _ => k ≠ w.heap.size) w W) : Same w W := ⟨hk.os, hk.tape, hk.output, hk.size, fun k o ho _ => hk.same k o ho (by have := lt_of_some ho; omega)⟩
theorem mem_turn_l {h : Hd} {l : List Tree} {y : Tree} (hy : y ∈ (Tree.node h l).turn.l) : ∃ x ∈ l, y = x.turn := by
  rcases turn_cases h l with ⟨e, _⟩ | ⟨ps, _, rfl, e⟩
  · rw [e] at hy
    obtain ⟨x, hx, rfl⟩ := List.mem_map.1 (by rw [← turnL_map]; exact hy)
    exact ⟨x, hx, rfl⟩
  · rw [e] at hy
    obtain ⟨p, hp, hq⟩ := mem_unpairs.1 hy
    obtain ⟨p', hp', rfl⟩ := List.mem_map.1 (List.mem_reverse.1 hp)
    rcases hq with rfl | rfl
    · exact ⟨p'.1, mem_unpairs.2 ⟨p', hp', .inl rfl⟩, rfl⟩
    · exact ⟨p'.2, mem_unpairs.2 ⟨p', hp', .inr rfl⟩, rfl⟩
theorem turn_lens : ∀ t : Tree, (∀ x ∈ t.flat, x.l.length ≤ 40) → ∀ x ∈ t.turn.flat, x.l.length ≤ 40 := by
  refine Tree.ind fun h l ih hl => ?_
  have hkid := ((flat_all (fun x => x.l.length ≤ 40) (.node h l)).1 hl).2
  refine (flat_all (fun x => x.l.length ≤ 40) _).2 ⟨by rw [turn_len]; exact hl _ (self_flat _), fun y hy => ?_⟩
  obtain ⟨x, hx, rfl⟩ := mem_turn_l hy
  exact ih x hx (hkid x hx)
set_option maxRecDepth 100000 in
set_option maxHeartbeats 8000000 in
theorem ProjTurns.walk_any {E : Errs} (t : Tree) (f : Int) (lv : Value) (w : World) (hG : Glob w.heap.size E w) (hrep : t.RepW w lv) :
    Calls Tryz.prog 4 #[nodeV t.hd lv, .int .i64 f] w fun e w' => e = .returned (.bool true) ∧ Same w w' := by
  obtain ⟨ho, a, cap, rfl, hlen, hL⟩ := repW_node hrep
  have hfew := fun (W : World) (hk : Same w W) => few_any t _ W (hrep.same hk)
  have hsh := fun (W : World) (hk : Same w W) => shown_any (X := extX) extX_right (N := w.heap.size) (E := E) W (hG.same hk) hk.size
  have fok := few_ok ho
  have fde := few_depth t
  have fle := few_lens t
  have fhd := few_hd t
  obtain ⟨T, hT⟩ : ∃ T, fewT t = T := ⟨_, rfl⟩
  rw [hT] at hfew fok fde fle fhd
  rw [← fhd] at hfew
  have hlaw := common_turn extX T f
  have htd := turn_depth T
  have hth := turn_hd T
  have htl := turn_lens T fle
  obtain ⟨n, hn⟩ : ∃ n, t.l.length = n := ⟨_, rfl⟩
  obtain ⟨h, hh⟩ : ∃ h, t.hd = h := ⟨_, rfl⟩
  rw [hn, hh] at hfew
  rw [hn, hh]
  clear hT hn hh fhd hL hrep hlen ho
  have htn := lawTurned_any T fle
  obtain ⟨q, l⟩ := T
  unfold TurnAt TurnOut at htn
  obtain ⟨⟨q', m⟩, hm⟩ : ∃ M, (Tree.node q l).turn = M := ⟨_, rfl⟩
  rw [hm] at hlaw htd hth htl htn
  simp only [Tree.hd_node, Tree.l_node] at hfew fok hth htn
  subst hth
  have hbn : (w.alloc (.cells #[.int .i64 h.kind, .bool h.b, .bool h.d.neg, .string h.d.digits, .int .i64 h.d.exp, .int .u64 (h.u : Int), .int .i64 h.w, .string h.s, .slice a n cap] 27)).heap[w.heap.size]? = some (.cells #[.int .i64 h.kind, .bool h.b, .bool h.d.neg, .string h.d.digits, .int .i64 h.d.exp, .int .u64 (h.u : Int), .int .i64 h.w, .string h.s, .slice a n cap] 27 (0, 0)) := World.alloc_heap_new w _
  have hk0 : Same w (w.alloc (.cells #[.int .i64 h.kind, .bool h.b, .bool h.d.neg, .string h.d.digits, .int .i64 h.d.exp, .int .u64 (h.u : Int), .int .i64 h.w, .string h.s, .slice a n cap] 27)) := (Keep.refl _ _).alloc _
  have hz0 : (w.alloc (.cells #[.int .i64 h.kind, .bool h.b, .bool h.d.neg, .string h.d.digits, .int .i64 h.d.exp, .int .u64 (h.u : Int), .int .i64 h.w, .string h.s, .slice a n cap] 27)).heap.size = w.heap.size + 1 := by simp
  go_enter Tryz.func4, Tryz.ntmps4
  go_wp2_with fail
  refine (hsh _ hk0).mono ?_
  rintro e w1 ⟨rfl, hk1⟩
  have hb1 := hk1.same _ _ hbn trivial
  have hkw1 := hk0.trans hk1
  have hzw := hk1.size
  rw [hz0] at hzw
  clear hk0 hk1 hz0 hbn hsh
  obtain ⟨n0, n1, n2, n3, n4, n5, n6, n7, n8⟩ := cells9 hb1
  go_wp2_with fail
  refine (hfew _ hkw1).mono ?_
  rintro e w2 ⟨lv2, rfl, hr2, hk2⟩
  obtain ⟨a2, c2, rfl⟩ := hr2.is_slice
  have hb2 := hk2.same _ _ hb1 trivial
  have hkw2 := hkw1.trans hk2
  clear n0 n1 n2 n3 n4 n5 n6 n7 n8 hfew
  obtain ⟨n0, n1, n2, n3, n4, n5, n6, n7, n8⟩ := cells9 hb2
  have hfz : ∀ j, w2.frozen? ⟨w.heap.size, j, none⟩ = false := Lib.frozen_of_heap hb2
  obtain ⟨h9, hk9⟩ := put9 hb2 (.int .i64 q'.kind) (.bool q'.b) (.bool q'.d.neg) (.string q'.d.digits) (.int .i64 q'.d.exp) (.int .u64 (q'.u : Int)) (.int .i64 q'.w) (.string q'.s) (.slice a2 l.length c2)
  have hr3 : RepS AnyB ((((((((((w2.setCell ⟨w.heap.size, 0, none⟩ (.int .i64 q'.kind)).setCell ⟨w.heap.size, 1, none⟩ (.bool q'.b)).setCell ⟨w.heap.size, 2, none⟩ (.bool q'.d.neg)).setCell ⟨w.heap.size, 3, none⟩ (.string q'.d.digits)).setCell ⟨w.heap.size, 4, none⟩ (.int .i64 q'.d.exp)).setCell ⟨w.heap.size, 5, none⟩ (.int .u64 (q'.u : Int))).setCell ⟨w.heap.size, 6, none⟩ (.int .i64 q'.w)).setCell ⟨w.heap.size, 7, none⟩ (.string q'.s)).setCell ⟨w.heap.size, 8, none⟩ (.slice a2 l.length c2))) l (.slice a2 l.length c2) := (hr2.keep hk9 fun b (hb : w1.heap.size ≤ b) _ _ => by omega).mono fun _ _ _ => trivial
  have hkw3 : Keep (fun k _ => k ≠ w.heap.size) w ((((((((((w2.setCell ⟨w.heap.size, 0, none⟩ (.int .i64 q'.kind)).setCell ⟨w.heap.size, 1, none⟩ (.bool q'.b)).setCell ⟨w.heap.size, 2, none⟩ (.bool q'.d.neg)).setCell ⟨w.heap.size, 3, none⟩ (.string q'.d.digits)).setCell ⟨w.heap.size, 4, none⟩ (.int .i64 q'.d.exp)).setCell ⟨w.heap.size, 5, none⟩ (.int .u64 (q'.u : Int))).setCell ⟨w.heap.size, 6, none⟩ (.int .i64 q'.w)).setCell ⟨w.heap.size, 7, none⟩ (.string q'.s)).setCell ⟨w.heap.size, 8, none⟩ (.slice a2 l.length c2))) := (Keep.of_same hkw2).trans hk9
  have hz3 : w.heap.size ≤ ((((((((((w2.setCell ⟨w.heap.size, 0, none⟩ (.int .i64 q'.kind)).setCell ⟨w.heap.size, 1, none⟩ (.bool q'.b)).setCell ⟨w.heap.size, 2, none⟩ (.bool q'.d.neg)).setCell ⟨w.heap.size, 3, none⟩ (.string q'.d.digits)).setCell ⟨w.heap.size, 4, none⟩ (.int .i64 q'.d.exp)).setCell ⟨w.heap.size, 5, none⟩ (.int .u64 (q'.u : Int))).setCell ⟨w.heap.size, 6, none⟩ (.int .i64 q'.w)).setCell ⟨w.heap.size, 7, none⟩ (.string q'.s)).setCell ⟨w.heap.size, 8, none⟩ (.slice a2 l.length c2))).heap.size := hkw3.size
  have hcA := fun W lv (hg : Glob w.heap.size E W) (hn : w.heap.size ≤ W.heap.size) hr => common_any extX_right (.node q' l) f AnyB lv W hg hn (by omega) fok hr (fun _ _ => trivial) fle (fun h => ext_all h)
  have hcB := fun W lv (hg : Glob w.heap.size E W) (hn : w.heap.size ≤ W.heap.size) hr => common_any extX_right (.node q' m) f AnyB lv W hg hn (by omega) fok hr (fun _ _ => trivial) htl (fun h => ext_all h)
  rw [hlaw] at hcB
  obtain ⟨⟨ah, al⟩, e1, hA⟩ : ∃ t e, commonM extX (.node q' l) f = (t, e) := ⟨_, _, rfl⟩
  rw [hA] at hcA hcB
  unfold OutC at hcA hcB
  simp only [Tree.hd_node, Tree.l_node] at hcA hcB
  clear hA hlaw fde htd fle htl
  go_wp2_with fail
  clear n0 n1 n2 n3 n4 n5 n6 n7 n8 hfz hk9 hb2 hb1 hr2 hk2 hkw1 hkw2
  generalize ((((((((((w2.setCell ⟨w.heap.size, 0, none⟩ (.int .i64 q'.kind)).setCell ⟨w.heap.size, 1, none⟩ (.bool q'.b)).setCell ⟨w.heap.size, 2, none⟩ (.bool q'.d.neg)).setCell ⟨w.heap.size, 3, none⟩ (.string q'.d.digits)).setCell ⟨w.heap.size, 4, none⟩ (.int .i64 q'.d.exp)).setCell ⟨w.heap.size, 5, none⟩ (.int .u64 (q'.u : Int))).setCell ⟨w.heap.size, 6, none⟩ (.int .i64 q'.w)).setCell ⟨w.heap.size, 7, none⟩ (.string q'.s)).setCell ⟨w.heap.size, 8, none⟩ (.slice a2 l.length c2))) = W3 at h9 hr3 hkw3 hz3 ⊢
  have hG3 : Glob w.heap.size E W3 := hG.keep hkw3 fun k hlt _ => by omega
  refine (hcA _ _ hG3 hz3 hr3).mono ?_
  rintro e w4 ⟨lv3, rfl, hokA, hrA, hk4⟩
  obtain ⟨a3, c3, rfl⟩ := hrA.is_slice
  have hb4 := hk4.same _ _ h9 trivial
  have hkw4 := hkw3.trans (Keep.of_same hk4)
  have hr4 := hr3.same hk4
  clear h9 hk4 hkw3 hz3 hG3 hcA hr3
  have hs45 : Same w4 (w4.alloc (.cells #[.int .i64 ah.kind, .bool ah.b, .bool ah.d.neg, .string ah.d.digits, .int .i64 ah.d.exp, .int .u64 (ah.u : Int), .int .i64 ah.w, .string ah.s, .slice a3 al.length c3] 27)) := (by repeat (first | with_reducible exact Keep.refl _ _ | with_reducible refine Keep.alloc ?_ _ | with_reducible refine Keep.drew ?_ | with_reducible refine Keep.drewN ?_ _ | with_reducible refine Keep.trans ?_ (by assumption)))
  have hb5 := heap_old (o := .cells #[.int .i64 ah.kind, .bool ah.b, .bool ah.d.neg, .string ah.d.digits, .int .i64 ah.d.exp, .int .u64 (ah.u : Int), .int .i64 ah.w, .string ah.s, .slice a3 al.length c3] 27) hb4
  have hba5 : (w4.alloc (.cells #[.int .i64 ah.kind, .bool ah.b, .bool ah.d.neg, .string ah.d.digits, .int .i64 ah.d.exp, .int .u64 (ah.u : Int), .int .i64 ah.w, .string ah.s, .slice a3 al.length c3] 27)).heap[w4.heap.size]? = some (.cells #[.int .i64 ah.kind, .bool ah.b, .bool ah.d.neg, .string ah.d.digits, .int .i64 ah.d.exp, .int .u64 (ah.u : Int), .int .i64 ah.w, .string ah.s, .slice a3 al.length c3] 27 (0, 0)) := World.alloc_heap_new w4 _
  have hkw5 := hkw4.trans (Keep.of_same hs45)
  have hr5 := hr4.same hs45
  have hrA5 := hrA.same hs45
  obtain ⟨n0, n1, n2, n3, n4, n5, n6, n7, n8⟩ := cells9 hb5
  clear hb4 hr4 hrA hs45 hkw4
  go_wp2_with fail
  refine (htn _ _ _ hr5).mono ?_
  rintro e w6 ⟨lv4, rfl, hr6, hk6⟩
  obtain ⟨a4, c4, rfl⟩ := hr6.is_slice
  have hb6 := hk6.same _ _ hb5 trivial
  have hba6 := hk6.same _ _ hba5 trivial
  have hrA6 := hrA5.same hk6
  have hkw6 := hkw5.trans (Keep.of_same hk6)
  clear n0 n1 n2 n3 n4 n5 n6 n7 n8 hb5 hba5 hr5 hrA5 hk6 htn hkw5
  go_wp2_with fail
  refine (hcB _ _ (hG.keep hkw6 fun k hlt _ => by omega) hkw6.size (hr6.mono fun _ _ _ => trivial)).mono ?_
  rintro x w7 ⟨lv5, rfl, hokB, hrB, hk7⟩
  obtain ⟨a5, c5, rfl⟩ := hrB.is_slice
  have hs78 : Same w7 (w7.alloc (.cells #[.int .i64 ah.kind, .bool ah.b, .bool ah.d.neg, .string ah.d.digits, .int .i64 ah.d.exp, .int .u64 (ah.u : Int), .int .i64 ah.w, .string ah.s, .slice a5 al.length c5] 27)) := (Keep.refl _ _).alloc _
  have hkw8 := (hkw6.trans (Keep.of_same hk7)).trans (Keep.of_same hs78)
  have hbB8 : (w7.alloc (.cells #[.int .i64 ah.kind, .bool ah.b, .bool ah.d.neg, .string ah.d.digits, .int .i64 ah.d.exp, .int .u64 (ah.u : Int), .int .i64 ah.w, .string ah.s, .slice a5 al.length c5] 27)).heap[w7.heap.size]? = some (.cells #[.int .i64 ah.kind, .bool ah.b, .bool ah.d.neg, .string ah.d.digits, .int .i64 ah.d.exp, .int .u64 (ah.u : Int), .int .i64 ah.w, .string ah.s, .slice a5 al.length c5] 27 (0, 0)) := World.alloc_heap_new w7 _
  have hbA8 := hs78.same _ _ (hk7.same _ _ hba6 trivial) trivial
  have hrA8 := (hrA6.same hk7).same hs78
  have hrB8 := hrB.same hs78
  clear hcB hb6 hba6 hkw6 hr6 hrA6 hk7 hrB hs78
  obtain ⟨x0, x1, x2, x3, x4, x5, x6, x7, x8⟩ := cells9 hbA8
  obtain ⟨y0, y1, y2, y3, y4, y5, y6, y7, y8⟩ := cells9 hbB8
  have hsm := fun W h1 h2 => refSame_any (.node ah al) (.node ah al) AnyB (.slice a3 al.length c3) (.slice a5 al.length c5) W h1 h2
  rw [(same_iff _ _).2 rfl] at hsm
  simp only [Tree.hd_node, Tree.l_node] at hsm
  have heq : ((e1 : Int) == e1) = true := by simp
  go_wp2_with fail
  refine (hsm _ hrA8 hrB8).mono ?_
  rintro x w9 ⟨rfl, hk9⟩
  go_wp2_with fail
  go_ret
  exact ⟨rfl, sameOf' (hkw8.trans (Keep.of_same hk9))⟩
end Go.Tm
