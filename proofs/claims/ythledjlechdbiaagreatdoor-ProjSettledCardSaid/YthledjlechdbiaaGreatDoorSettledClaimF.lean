/-
  Part 6 of what the claim leans on: contracts of the functions that the law reaches, and plain facts of what they compute (joined by wip/merge.py out of the texts named behind each mark). Conditions: the theorems' own.
-/
import Derived.Shelf.SlLaysF0
import Derived.Shelf.SlSortCmp.WholeK
import Derived.ScopeJumps
import Derived.Laws.CopyRow
import Derived.Laws.IdiomCopy
import Derived.Laws.MakeOwn
import Derived.Test.YthledjlechdbiaaGreatDoorSettledClaimE
set_option linter.unusedVariables false
namespace Go.Tm
open Go.Sort
def narHd (h : Hd) : Hd := { h with w := least (widen h.u h.w).1, u := (narrow (widen h.u h.w).1 (least (widen h.u h.w).1)).1 }
theorem least_narrow (b : Nat) : (narrow b (least b)).2 = true := by
 unfold least
 split
 ·assumption
 ·split
  ·assumption
  ·rfl
theorem shl_lt {x fr : Nat} (hfr : fr ≤ 52) (hx : x < 2 ^ fr) : x <<< (52 - fr) < 4503599627370496 := by
 rw [Nat.shiftLeft_eq]
 have e4 : (4503599627370496 : Nat) = 2 ^ fr * 2 ^ (52 - fr) := by rw [← Nat.pow_add, show fr + (52 - fr) = 52 by omega]
 rw [e4]
 exact Nat.mul_lt_mul_of_pos_right hx (Nat.two_pow_pos _)
theorem widen_lt64 {u : Nat} {w : Int} (hu : u < 18446744073709551616) : (widen u w).1 < 18446744073709551616 := by
 have key : ∀ fr ex wd : Nat, fForm w = some (fr, ex, wd) → fr ≤ 52 → 0 < ex → ex ≤ 11 → (widen u w).1 < 18446744073709551616 := by
  intro fr ex wd hw h1 h0 h2
  have hs : (u >>> (wd - 1) &&& 1) ≤ 1 := by rw [show (1 : Nat) = 2 ^ 1 - 1 from rfl, Nat.and_two_pow_sub_one_eq_mod]; omega
  obtain ⟨s, hsv⟩ : ∃ s, u >>> (wd - 1) &&& 1 = s := ⟨_, rfl⟩
  have he : (u >>> fr &&& onesN ex) < 2 ^ ex := by rw [and_ones]; exact Nat.mod_lt _ (Nat.two_pow_pos _)
  obtain ⟨e, hev⟩ : ∃ e, u >>> fr &&& onesN ex = e := ⟨_, rfl⟩
  have hf : (u &&& onesN fr) < 2 ^ fr := by rw [and_ones]; exact Nat.mod_lt _ (Nat.two_pow_pos _)
  obtain ⟨f, hfv⟩ : ∃ f, u &&& onesN fr = f := ⟨_, rfl⟩
  have hz : ∀ x : Nat, x < 2 ^ fr → ∀ e' : Nat, e' < 2048 → fJoin 52 64 s e' (x <<< (52 - fr)) < 18446744073709551616 := fun x hx e' he' => by
   have := shl_lt h1 hx
   rw [join_mul he' this]; omega
  have hb : ∀ n : Nat, onesN n = 2 ^ n - 1 := fun n => rfl
  have hp : 2 ^ ex = 2 ^ (ex - 1) * 2 := by rw [← Nat.pow_succ]; congr 1; omega
  have hp2 : 2 ^ (ex - 1) ≤ 2 ^ 10 := Nat.pow_le_pow_right (by decide) (by omega)
  have hp3 := Nat.two_pow_pos (ex - 1)
  rw [hsv] at hs
  rw [hev] at he
  rw [hfv] at hf
  unfold widen
  rw [hw]
  simp only [hsv, hev, hfv]
  split
  ·show (0 : Nat) < 18446744073709551616; decide
  ·split
   ·exact hu
   ·split
    ·exact hz f hf 2047 (by decide)
    ·split
     ·have := hz 0 (Nat.two_pow_pos _) 0 (by decide); simpa using this
     ·split
      ·refine hz _ (by rw [and_ones]; exact Nat.mod_lt _ (Nat.two_pow_pos _)) _ (by omega)
      ·refine hz f hf _ ?_
       rw [hb]; omega
 by_cases w16 : w = 16
 ·subst w16; exact key 10 5 16 rfl (by decide) (by decide) (by decide)
 ·by_cases w32 : w = 32
  ·subst w32; exact key 23 8 32 rfl (by decide) (by decide) (by decide)
  ·by_cases w64 : w = 64
   ·subst w64; exact key 52 11 64 rfl (by decide) (by decide) (by decide)
   ·unfold widen fForm
    rw [if_neg w16, if_neg w32, if_neg w64]
    show (0 : Nat) < 18446744073709551616
    decide
theorem nar_widen {h : Hd} (hu : h.u < 18446744073709551616) : widen (narHd h).u (narHd h).w = ((widen h.u h.w).1, 0) := by
 have h1 := least_narrow (widen h.u h.w).1
 exact narrow_widen (widen_lt64 hu) (Prod.ext rfl h1)
abbrev PermP (qs ps : List (Tree × Tree)) : Prop := ps.Perm qs
mutual
def SetR : Tree → Tree → Prop
 | .node h l, r => if h.kind = 4 then r = .node (narHd h) l
  else if h.kind = 8 then ∃ qs ps, SetP l ps ∧ PermP qs ps ∧ r = .node h (unpairs qs)
  else ∃ m, SetL l m ∧ r = .node h m
def SetL : List Tree → List Tree → Prop
 | [], m => m = []
 | x :: l, m => ∃ y k, SetR x y ∧ SetL l k ∧ m = y :: k
def SetP : List Tree → List (Tree × Tree) → Prop
 | k :: x :: l, ps => ∃ y qs, SetR x y ∧ SetP l qs ∧ ps = (k, y) :: qs
 | _, ps => ps = []
end
theorem perm_lift {α β : Type} (f : α → β) : ∀ {a b : List β}, a.Perm b → ∀ l : List α, a = l.map f → ∃ l', l.Perm l' ∧ b = l'.map f := by
 intro a b h
 induction h with
 | nil => intro l e; exact ⟨[], by rw [List.map_eq_nil_iff.1 e.symm], rfl⟩
 | cons x _ ih =>
  intro l e
  obtain ⟨y, l0, rfl, rfl, e2⟩ := List.map_eq_cons_iff.1 e.symm
  obtain ⟨l', hp, rfl⟩ := ih l0 e2.symm
  exact ⟨y :: l', hp.cons y, rfl⟩
 | swap x y l1 =>
  intro l e
  obtain ⟨y', l0, rfl, rfl, e2⟩ := List.map_eq_cons_iff.1 e.symm
  obtain ⟨x', l2, rfl, rfl, e3⟩ := List.map_eq_cons_iff.1 e2
  exact ⟨x' :: y' :: l2, List.Perm.swap _ _ _, by rw [← e3]; rfl⟩
 | trans _ _ h1 h2 =>
  intro l e
  obtain ⟨l1, p1, e1⟩ := h1 l e
  obtain ⟨l2, p2, e2⟩ := h2 l1 e1
  exact ⟨l2, p1.trans p2, e2⟩
abbrev oldP (z : Tree × Tree × Tree) : Tree × Tree := (z.1, z.2.1)
abbrev newP (z : Tree × Tree × Tree) : Tree × Tree := (z.1, z.2.2)
theorem setP_zip : ∀ (l : List Tree) (ps : List (Tree × Tree)), SetP l ps → l.length % 2 = 0 → ∃ zs : List (Tree × Tree × Tree), l = unpairs (zs.map oldP) ∧ ps = zs.map newP ∧ ∀ z ∈ zs, SetR z.2.1 z.2.2
 | [], ps, h, _ => by rw [SetP] at h; subst h; exact ⟨[], rfl, rfl, fun z hz => by cases hz⟩; intro k x l h; cases h
 | [_], ps, h, he => by simp at he
 | k :: x :: l, ps, h, he => by
  rw [SetP] at h
  obtain ⟨y, qs, h1, h2, rfl⟩ := h
  obtain ⟨zs, rfl, rfl, h3⟩ := setP_zip l qs h2 (by simp only [List.length_cons] at he; omega)
  refine ⟨(k, x, y) :: zs, rfl, rfl, fun z hz => ?_⟩
  rcases List.mem_cons.1 hz with rfl | hz
  ·exact h1
  ·exact h3 z hz
theorem setR_map {h : Hd} {l : List Tree} {r : Tree} (h8 : h.kind = 8) (he : l.length % 2 = 0) (hr : SetR (.node h l) r) :
  ∃ zs zs' : List (Tree × Tree × Tree), l = unpairs (zs.map oldP) ∧ zs.Perm zs' ∧ r = .node h (unpairs (zs'.map newP)) ∧ ∀ z ∈ zs, SetR z.2.1 z.2.2 := by
 rw [SetR, if_neg (by omega), if_pos h8] at hr
 obtain ⟨qs, ps, h1, h2, rfl⟩ := hr
 obtain ⟨zs, rfl, rfl, h3⟩ := setP_zip l ps h1 he
 obtain ⟨zs', hp, rfl⟩ := perm_lift newP h2 zs rfl
 exact ⟨zs, zs', rfl, hp, rfl, h3⟩
theorem setR_other {h : Hd} {l : List Tree} {r : Tree} (h4 : h.kind ≠ 4) (h8 : h.kind ≠ 8) (hr : SetR (.node h l) r) : ∃ m, SetL l m ∧ r = .node h m := by
 rwa [SetR, if_neg h4, if_neg h8] at hr
theorem setL_get : ∀ (l m : List Tree), SetL l m → m.length = l.length ∧ ∀ i, SetR (nthT l i) (nthT m i)
 | [], m, h => by
  rw [SetL] at h; subst h
  refine ⟨rfl, fun i => ?_⟩
  show SetR (.node (bareHd 0) []) (.node (bareHd 0) [])
  rw [SetR, if_neg (by decide), if_neg (by decide)]
  exact ⟨[], by rw [SetL], rfl⟩
 | x :: l, m, h => by
  rw [SetL] at h
  obtain ⟨y, k, h1, h2, rfl⟩ := h
  obtain ⟨h3, h4⟩ := setL_get l k h2
  refine ⟨by rw [List.length_cons, List.length_cons, h3], fun i => ?_⟩
  cases i with
  | zero => exact h1
  | succ i => exact h4 i
theorem setR_hd {t r : Tree} (h : SetR t r) : (t.hd.kind ≠ 4 → r.hd = t.hd) ∧ (t.hd.kind = 4 → r.hd = narHd t.hd ∧ r.l = t.l) := by
 obtain ⟨hh, l⟩ := t
 simp only [Tree.hd_node, Tree.l_node]
 rw [SetR] at h
 split at h
 ·rename_i h4
  subst h
  exact ⟨fun h => absurd h4 h, fun _ => ⟨rfl, rfl⟩⟩
 ·rename_i h4
  refine ⟨fun _ => ?_, fun e => absurd e h4⟩
  split at h
  ·obtain ⟨qs, ps, _, _, rfl⟩ := h; rfl
  ·obtain ⟨m, _, rfl⟩ := h; rfl
theorem setR_kind {t r : Tree} (h : SetR t r) : r.hd.kind = t.hd.kind := by
 by_cases h4 : t.hd.kind = 4
 ·rw [((setR_hd h).2 h4).1]; rfl
 ·rw [(setR_hd h).1 h4]
theorem setR_len {t r : Tree} (h : SetR t r) (he : t.hd.kind = 8 → t.l.length % 2 = 0) : r.l.length = t.l.length := by
 obtain ⟨hh, l⟩ := t
 simp only [Tree.hd_node, Tree.l_node] at *
 by_cases h4 : hh.kind = 4
 ·rw [((setR_hd h).2 h4).2]; rfl
 ·by_cases h8 : hh.kind = 8
  ·obtain ⟨zs, zs', rfl, hp, rfl, _⟩ := setR_map h8 (he h8) h
   rw [Tree.l_node, unpairs_len, unpairs_len, List.length_map, List.length_map, hp.length_eq]
  ·obtain ⟨m, hm, rfl⟩ := setR_other h4 h8 h
   exact (setL_get l m hm).1
theorem depthL_perm {a b : List Tree} (h : a.Perm b) : depthL a = depthL b := by
 induction h with
 | nil => rfl
 | cons x _ ih => rw [depthL, depthL, ih]
 | swap x y l => rw [depthL, depthL, depthL, depthL]; omega
 | trans _ _ h1 h2 => rw [h1, h2]
theorem countL_perm' {a b : List Tree} (h : a.Perm b) : countL a = countL b := by
 induction h with
 | nil => rfl
 | cons x _ ih => rw [countL, countL, ih]
 | swap x y l => rw [countL, countL, countL, countL]; omega
 | trans _ _ h1 h2 => rw [h1, h2]
theorem unpairs_perm {a b : List (Tree × Tree)} (h : a.Perm b) : (unpairs a).Perm (unpairs b) := h.flatMap_right _
abbrev EvenM (t : Tree) : Prop := ∀ x ∈ t.flat, x.hd.kind = 8 → x.l.length % 2 = 0
theorem even_kid {h : Hd} {l : List Tree} (ht : EvenM (.node h l)) : (h.kind = 8 → l.length % 2 = 0) ∧ ∀ k ∈ l, EvenM k := (flat_all (fun x => x.hd.kind = 8 → x.l.length % 2 = 0) (.node h l)).1 ht
theorem setL_all {P : Tree → Tree → Prop} : ∀ {l m : List Tree}, SetL l m → (∀ x ∈ l, ∀ y, SetR x y → P x y) → ∀ y ∈ m, ∃ x ∈ l, SetR x y ∧ P x y
 | [], m, h, _, y, hy => by rw [SetL] at h; subst h; cases hy
 | x :: l, m, h, hP, y, hy => by
  rw [SetL] at h
  obtain ⟨z, k, h1, h2, rfl⟩ := h
  rcases List.mem_cons.1 hy with rfl | hy
  ·exact ⟨x, List.mem_cons_self, h1, hP x List.mem_cons_self _ h1⟩
  ·obtain ⟨x', hx', h3⟩ := setL_all h2 (fun a ha => hP a (List.mem_cons_of_mem _ ha)) y hy
   exact ⟨x', List.mem_cons_of_mem _ hx', h3⟩
theorem setR_size : ∀ t : Tree, EvenM t → ∀ r, SetR t r → r.depth = t.depth ∧ r.count = t.count := by
 refine Tree.ind fun h l ih hev r hr => ?_
 obtain ⟨he, hk⟩ := even_kid hev
 by_cases h4 : h.kind = 4
 ·rw [SetR, if_pos h4] at hr
  subst hr
  exact ⟨by rw [Tree.depth, Tree.depth], by rw [Tree.count, Tree.count]⟩
 ·by_cases h8 : h.kind = 8
  ·obtain ⟨zs, zs', rfl, hp, rfl, hz⟩ := setR_map h8 (he h8) hr
   have hpp := unpairs_perm (hp.map newP)
   have e1 : ∀ ys : List (Tree × Tree × Tree), (∀ z ∈ ys, z ∈ zs) → depthL (unpairs (ys.map newP)) = depthL (unpairs (ys.map oldP)) ∧ countL (unpairs (ys.map newP)) = countL (unpairs (ys.map oldP)) := fun ys => by
    induction ys with
    | nil => intro _; exact ⟨rfl, rfl⟩
    | cons z ys ihy =>
     intro hys
     have h1 := ihy fun z' hz' => hys z' (List.mem_cons_of_mem _ hz')
     have hm := hys z List.mem_cons_self
     have h2 := ih z.2.1 (mem_unpairs.2 ⟨oldP z, List.mem_map.2 ⟨z, hm, rfl⟩, .inr rfl⟩) (hk z.2.1 (mem_unpairs.2 ⟨oldP z, List.mem_map.2 ⟨z, hm, rfl⟩, .inr rfl⟩)) z.2.2 (hz z hm)
     rw [List.map_cons, List.map_cons, unpairs_cons, unpairs_cons, depthL, depthL, depthL, depthL, countL, countL, countL, countL, h1.1, h1.2, h2.1, h2.2]
     exact ⟨rfl, rfl⟩
   have h5 := e1 zs fun _ h => h
   rw [Tree.depth, Tree.depth, Tree.count, Tree.count, ← depthL_perm hpp, ← countL_perm' hpp, h5.1, h5.2]
   exact ⟨rfl, rfl⟩
  ·obtain ⟨m, hm, rfl⟩ := setR_other h4 h8 hr
   have e1 : ∀ (l m : List Tree), SetL l m → (∀ x ∈ l, ∀ y, SetR x y → y.depth = x.depth ∧ y.count = x.count) → depthL m = depthL l ∧ countL m = countL l := fun l => by
    induction l with
    | nil => intro m hm _; rw [SetL] at hm; subst hm; exact ⟨rfl, rfl⟩
    | cons x l ihl =>
     intro m hm hx
     rw [SetL] at hm
     obtain ⟨y, k, h1, h2, rfl⟩ := hm
     have h3 := ihl k h2 fun a ha => hx a (List.mem_cons_of_mem _ ha)
     have h4 := hx x List.mem_cons_self y h1
     rw [depthL, depthL, countL, countL, h3.1, h3.2, h4.1, h4.2]
     exact ⟨rfl, rfl⟩
   have h5 := e1 l m hm fun x hx y hy => ih x hx (hk x hx) y hy
   rw [Tree.depth, Tree.depth, Tree.count, Tree.count, h5.1, h5.2]
   exact ⟨rfl, rfl⟩
theorem own_even {t : Tree} (h : ownT t = true) (h8 : t.hd.kind = 8) : t.l.length % 2 = 0 ∧ isTwice (keysOf t.l) = false ∧ t.hd = bareHd 8 := by
 have e : ownT t = (decide (t.hd = bareHd 8) && decide (t.l.length % 2 = 0) && !isTwice (keysOf t.l)) := by
  unfold ownT
  simp only [h8]
  rfl
 rw [e, Bool.and_eq_true, Bool.and_eq_true, Bool.not_eq_true'] at h
 exact ⟨of_decide_eq_true h.1.2, h.2, of_decide_eq_true h.1.1⟩
theorem own_float {t : Tree} (h4 : t.hd.kind = 4) : ownT t = (bareT t { bareHd 4 with u := t.hd.u, w := t.hd.w } && decide ((widen t.hd.u t.hd.w).2 = 0)) := by
 unfold ownT
 simp only [h4]
 rfl
theorem fits_map {t : Tree} (f : Int) (h8 : t.hd.kind = 8) : fitsT f t = ((decide (f = 1) || decide (f = 2) || decide (f = 3) || decide (f = 4)) && (keysOf t.l).all (isKeyT f)) := by
 unfold fitsT
 simp only [h8]
 rfl
theorem even_of_own {t : Tree} (h : ∀ x ∈ t.flat, ownT x = true) : EvenM t := fun x hx h8 => (own_even (h x hx) h8).1
abbrev OwnC (t : Tree) : Prop := ∀ x ∈ t.flat, ownT x = true ∧ fitsT 2 x = true
theorem ownC_kid {h : Hd} {l : List Tree} (ht : OwnC (.node h l)) : (ownT (.node h l) = true ∧ fitsT 2 (.node h l) = true) ∧ ∀ k ∈ l, OwnC k := (flat_all (fun x => ownT x = true ∧ fitsT 2 x = true) (.node h l)).1 ht
theorem ownC_self {t : Tree} (ht : OwnC t) : ownT t = true ∧ fitsT 2 t = true := ((flat_all (fun x => ownT x = true ∧ fitsT 2 x = true) t).1 ht).1
theorem bareT_hd2 {h : Hd} {l : List Tree} {g : Hd} (hb : bareT (.node h l) g = true) : l = [] ∧ h = { g with kind := h.kind } := by
 unfold bareT at hb
 simp only [Bool.and_eq_true, List.isEmpty_iff, Tree.l_node, Tree.hd_node] at hb
 exact ⟨hb.1, of_decide_eq_true hb.2⟩
theorem key_flat {z : Tree} (hk : isKeyT 2 z = true) (ho : ownT z = true) : ∀ x ∈ z.flat, x.hd.kind ≠ 4 := by
 obtain ⟨h, l⟩ := z
 have hkind : h.kind = 5 ∨ h.kind = 3 ∨ h.kind = 6 ∨ h.kind = 2 ∨ h.kind = 1 := by
  unfold isKeyT at hk
  by_cases h5 : (Tree.node h l).hd.kind = 5
  ·exact .inl h5
  ·by_cases h3 : (Tree.node h l).hd.kind = 3
   ·exact .inr (.inl h3)
   ·rw [if_neg h5, if_neg (by decide), if_neg h3] at hk
    rw [Bool.or_eq_true, Bool.or_eq_true] at hk
    rcases hk with (hk | hk) | hk
    ·exact .inr (.inr (.inl (of_decide_eq_true hk)))
    ·exact .inr (.inr (.inr (.inl (of_decide_eq_true hk))))
    ·exact .inr (.inr (.inr (.inr (of_decide_eq_true hk))))
 have hl : l = [] := by
  unfold ownT at ho
  rcases hkind with e | e | e | e | e <;> simp only [Tree.hd_node, e] at ho <;> simp at ho
  ·exact (bareT_hd2 ho.1.1).1
  ·exact (bareT_hd2 ho.1).1
  ·exact (bareT_hd2 ho.1).1
  ·exact (bareT_hd2 ho).1
  ·exact (bareT_hd2 ho).1
 subst hl
 intro x hx
 rw [Tree.flat, flatL, List.mem_singleton] at hx
 subst hx
 simp only [Tree.hd_node]
 omega
theorem isKey_23 (t : Tree) : isKeyT 3 t = isKeyT 2 t := by unfold isKeyT; simp
theorem fits_23 {t : Tree} (h4 : t.hd.kind ≠ 4) (h : fitsT 2 t = true) : fitsT 3 t = true := by
 have hk : isKeyT 3 = isKeyT 2 := funext isKey_23
 unfold fitsT at h ⊢
 rw [if_neg h4] at h ⊢
 by_cases h3 : t.hd.kind = 3
 ·rw [if_pos h3] at h ⊢; simpa using h
 ·rw [if_neg h3] at h ⊢
  by_cases h6 : t.hd.kind = 6
  ·rw [if_pos h6]; rfl
  ·rw [if_neg h6] at h ⊢
   by_cases h9 : t.hd.kind = 9 ∨ t.hd.kind = 10
   ·rw [if_pos h9]; rfl
   ·rw [if_neg h9] at h ⊢
    by_cases h11 : t.hd.kind = 11
    ·rw [if_pos h11] at h; cases h
    ·rw [if_neg h11] at h ⊢
     by_cases h8 : t.hd.kind = 8
     ·rw [if_pos h8] at h ⊢; rw [hk]; exact h
     ·rw [if_neg h8]; rfl
theorem own_list {h : Hd} {l m : List Tree} (h8 : h.kind ≠ 8) (hlen : m.length = l.length) (ho : ownT (.node h l) = true) : ownT (.node h m) = true := by
 have hb : ∀ g, bareT (.node h m) g = bareT (.node h l) g := fun g => by unfold bareT; rw [show (Tree.node h m).l.isEmpty = (Tree.node h l).l.isEmpty from isEmpty_len m l hlen]; rfl
 have k8 : (Tree.node h l).hd.kind ≠ 8 := h8
 have k8' : (Tree.node h m).hd.kind ≠ 8 := h8
 have hl' : (Tree.node h m).l.length = (Tree.node h l).l.length := hlen
 unfold ownT at ho ⊢
 rw [if_neg k8] at ho
 rw [if_neg k8', hl']
 simp only [hb]
 exact ho
theorem fits_same {h : Hd} {l m : List Tree} {f : Int} (h8 : h.kind ≠ 8) (ho : fitsT f (.node h l) = true) : fitsT f (.node h m) = true := by
 have k8 : (Tree.node h l).hd.kind ≠ 8 := h8
 have k8' : (Tree.node h m).hd.kind ≠ 8 := h8
 unfold fitsT at ho ⊢
 rw [if_neg k8] at ho
 rw [if_neg k8']
 exact ho
theorem setR_right : ∀ t : Tree, OwnC t → (∀ x ∈ t.flat, x.hd.u < 18446744073709551616) → ∀ r, SetR t r → ∀ y ∈ r.flat, ownT y = true ∧ fitsT 3 y = true := by
 refine Tree.ind fun h l ih hc hu r hr => ?_
 obtain ⟨⟨ho, hf⟩, hk⟩ := ownC_kid hc
 obtain ⟨hu0, huk⟩ := (flat_all (fun x => x.hd.u < 18446744073709551616) (.node h l)).1 hu
 simp only [Tree.hd_node, Tree.l_node] at hu0 huk
 by_cases h4 : h.kind = 4
 ·rw [SetR, if_pos h4] at hr
  subst hr
  have hb : bareT (.node h l) { bareHd 4 with u := h.u, w := h.w } = true ∧ (widen h.u h.w).2 = 0 := by
   rw [own_float (t := .node h l) h4, Bool.and_eq_true] at ho
   exact ⟨ho.1, of_decide_eq_true ho.2⟩
  obtain ⟨e1, e2⟩ := bareT_hd2 hb.1
  have hw := nar_widen hu0
  refine (flat_all (fun y => ownT y = true ∧ fitsT 3 y = true) _).2 ⟨⟨?_, ?_⟩, fun k hk => ?_⟩
  ·have k4 : (Tree.node (narHd h) l).hd.kind = 4 := h4
   rw [own_float k4, Tree.hd_node, hw, e1]
   have : narHd h = { bareHd 4 with u := (narHd h).u, w := (narHd h).w } := by
    unfold narHd
    rw [e2, h4]
    rfl
   unfold bareT
   rw [Tree.hd_node, Tree.l_node, Bool.and_eq_true, Bool.and_eq_true]
   refine ⟨⟨rfl, decide_eq_true ?_⟩, rfl⟩
   conv => lhs; rw [this]
   rw [show (narHd h).kind = 4 from h4]
   rfl
  ·have k4 : (Tree.node (narHd h) l).hd.kind = 4 := h4
   unfold fitsT
   rw [if_pos k4, Tree.hd_node, hw]
   have : least (widen h.u h.w).1 = (narHd h).w := rfl
   simp [this]
  ·rw [Tree.l_node, e1] at hk; cases hk
 ·by_cases h8 : h.kind = 8
  ·have hev := own_even ho h8
   simp only [Tree.l_node, Tree.hd_node] at hev
   obtain ⟨zs, zs', rfl, hp, rfl, hz⟩ := setR_map h8 hev.1 hr
   have hkeys : keysOf (unpairs (zs'.map newP)) = zs'.map Prod.fst := by rw [keys_unpairs, List.map_map]; rfl
   have hkeys0 : keysOf (unpairs (zs.map oldP)) = zs.map Prod.fst := by rw [keys_unpairs, List.map_map]; rfl
   have hpk : (zs.map Prod.fst).Perm (zs'.map Prod.fst) := hp.map _
   rw [hkeys0] at hev
   have hnd := (twice_iff _).1 hev.2.1
   have hfk : (zs.map Prod.fst).all (isKeyT 2) = true := by
    rw [fits_map (t := .node h (unpairs (zs.map oldP))) 2 h8, Tree.l_node, hkeys0] at hf
    simpa using hf
   have hmem : ∀ z ∈ zs', z.1 ∈ unpairs (zs.map oldP) ∧ z.2.1 ∈ unpairs (zs.map oldP) ∧ SetR z.2.1 z.2.2 := fun z hz' => by
    have hm := hp.mem_iff.2 hz'
    exact ⟨mem_unpairs.2 ⟨oldP z, List.mem_map.2 ⟨z, hm, rfl⟩, .inl rfl⟩, mem_unpairs.2 ⟨oldP z, List.mem_map.2 ⟨z, hm, rfl⟩, .inr rfl⟩, hz z hm⟩
   refine (flat_all (fun y => ownT y = true ∧ fitsT 3 y = true) _).2 ⟨⟨?_, ?_⟩, fun k hk2 => ?_⟩
   ·have e : ownT (.node h (unpairs (zs'.map newP))) = (decide (h = bareHd 8) && decide ((unpairs (zs'.map newP)).length % 2 = 0) && !isTwice (keysOf (unpairs (zs'.map newP)))) := by
     unfold ownT
     simp only [Tree.hd_node, Tree.l_node, h8]
     rfl
    rw [e, hkeys, (twice_iff _).2 (hpk.nodup_iff.1 hnd), unpairs_len, decide_eq_true hev.2.2]
    simp
   ·rw [fits_map (t := .node h (unpairs (zs'.map newP))) 3 h8, Tree.l_node, hkeys]
    have : (zs'.map Prod.fst).all (isKeyT 3) = true := by
     rw [List.all_eq_true] at hfk ⊢
     intro x hx
     rw [isKey_23]
     exact hfk x (hpk.mem_iff.2 hx)
    simp [this]
   ·rw [Tree.l_node] at hk2
    obtain ⟨p, hp', hk3⟩ := mem_unpairs.1 hk2
    obtain ⟨z, hz', rfl⟩ := List.mem_map.1 hp'
    obtain ⟨m1, m2, m3⟩ := hmem z hz'
    rcases hk3 with rfl | rfl
    ·intro x hx
     obtain ⟨o1, f1⟩ := hk z.1 m1 x hx
     refine ⟨o1, fits_23 ?_ f1⟩
     have hkz : isKeyT 2 z.1 = true := List.all_eq_true.1 hfk _ (hpk.mem_iff.2 (List.mem_map.2 ⟨z, hz', rfl⟩))
     have hself := (ownC_self (hk z.1 m1))
     exact key_flat hkz hself.1 x hx
    ·exact ih z.2.1 m2 (hk _ m2) (huk _ m2) z.2.2 m3
  ·obtain ⟨m, hm, rfl⟩ := setR_other h4 h8 hr
   refine (flat_all (fun y => ownT y = true ∧ fitsT 3 y = true) _).2 ⟨⟨own_list h8 (setL_get l m hm).1 ho, fits_same h8 (fits_23 h4 hf)⟩, fun k hk2 => ?_⟩
   obtain ⟨x, hx, _, hall⟩ := setL_all (P := fun x y => ∀ z ∈ y.flat, ownT z = true ∧ fitsT 3 z = true) hm (fun x hx y hy => ih x hx (hk x hx) (huk x hx) y hy) k hk2
   exact hall
variable (X : Hd → Dc × Bool)
theorem whole_congr {h : Hd} {l m : List Tree} (hl : m.length = l.length) (hk : (nthT m 0).hd.kind = (nthT l 0).hd.kind) (hs : (nthT l 0).hd.kind = 6 → (nthT m 0).hd.s = (nthT l 0).hd.s) : wholeM (.node h m) = wholeM (.node h l) := by
 unfold wholeM
 by_cases h3 : h.kind = 3
 ·rw [if_pos (show (Tree.node h m).hd.kind = 3 from h3), if_pos (show (Tree.node h l).hd.kind = 3 from h3)]; rfl
 ·rw [if_neg (show ¬ (Tree.node h m).hd.kind = 3 from h3), if_neg (show ¬ (Tree.node h l).hd.kind = 3 from h3)]
  by_cases hc : h.kind ≠ 9 ∨ (h.u ≠ 2 ∧ h.u ≠ 3) ∨ l.length ≠ 1 ∨ (nthT l 0).hd.kind ≠ 6
  ·rw [if_pos (show (Tree.node h l).hd.kind ≠ 9 ∨ ((Tree.node h l).hd.u ≠ 2 ∧ (Tree.node h l).hd.u ≠ 3) ∨ (Tree.node h l).l.length ≠ 1 ∨ (nthT (Tree.node h l).l 0).hd.kind ≠ 6 from hc)]
   rw [← hl, ← hk] at hc
   rw [if_pos (show (Tree.node h m).hd.kind ≠ 9 ∨ ((Tree.node h m).hd.u ≠ 2 ∧ (Tree.node h m).hd.u ≠ 3) ∨ (Tree.node h m).l.length ≠ 1 ∨ (nthT (Tree.node h m).l 0).hd.kind ≠ 6 from hc)]
  ·have h6 : (nthT l 0).hd.kind = 6 := by
    by_cases h6 : (nthT l 0).hd.kind = 6
    ·exact h6
    ·exact absurd (.inr (.inr (.inr h6))) hc
   rw [if_neg (show ¬ ((Tree.node h l).hd.kind ≠ 9 ∨ ((Tree.node h l).hd.u ≠ 2 ∧ (Tree.node h l).hd.u ≠ 3) ∨ (Tree.node h l).l.length ≠ 1 ∨ (nthT (Tree.node h l).l 0).hd.kind ≠ 6) from hc)]
   rw [← hl, ← hk] at hc
   rw [if_neg (show ¬ ((Tree.node h m).hd.kind ≠ 9 ∨ ((Tree.node h m).hd.u ≠ 2 ∧ (Tree.node h m).hd.u ≠ 3) ∨ (Tree.node h m).l.length ≠ 1 ∨ (nthT (Tree.node h m).l 0).hd.kind ≠ 6) from hc)]
   have e : (nthT (Tree.node h m).l 0).hd.s = (nthT (Tree.node h l).l 0).hd.s := hs h6
   rw [e]
   rfl
theorem whole_set {t r : Tree} (h : SetR t r) (he : t.hd.kind = 9 → t.l.length = r.l.length) : wholeM r = wholeM t := by
 by_cases h3 : t.hd.kind = 3
 ·have := (setR_hd h).1 (by omega)
  unfold wholeM
  rw [this, if_pos h3, if_pos h3]
 ·have hk := setR_kind h
  by_cases h9 : t.hd.kind = 9
  ·have hh := (setR_hd h).1 (by omega)
   obtain ⟨th, tl⟩ := t
   simp only [Tree.hd_node, Tree.l_node] at *
   obtain ⟨m, hm, rfl⟩ := setR_other (by omega) (by omega) h
   obtain ⟨h5, h6⟩ := setL_get tl m hm
   have h7 := h6 0
   exact whole_congr h5 (setR_kind h7) fun e => by rw [(setR_hd h7).1 (by omega)]
  ·unfold wholeM
   rw [hk, if_neg h3, if_neg h3, if_pos (.inl h9), if_pos (.inl h9)]
def tagC (u n : Nat) (k : Int) (n2 : Nat) (k0 : Int) (d0 : Dc) (y : Bool × ByteArray × Bool) : Dc × Bool :=
 if u ≠ 4 ∨ n ≠ 1 ∨ k ≠ 7 ∨ n2 ≠ 2 then (noDc, false)
 else if k0 ≠ 3 ∨ (toInt d0).2.2 = false ∨ y.2.2 = false ∨ 1000 < (toInt d0).2.1 then (noDc, false)
 else
  let r := makeB y.1 y.2.1 (if (toInt d0).1 then -((toInt d0).2.1 : Int) else ((toInt d0).2.1 : Int))
  (r.1, decide (r.2 = 0))
theorem ofTag_eq (t : Tree) : ofTagM t = tagC t.hd.u t.l.length (nthT t.l 0).hd.kind (nthT t.l 0).l.length (nthT (nthT t.l 0).l 0).hd.kind (nthT (nthT t.l 0).l 0).hd.d (wholeM (nthT (nthT t.l 0).l 1)) := rfl
theorem tagC_kind {u n : Nat} {k : Int} {n2 : Nat} {k0 : Int} {d0 : Dc} {y : Bool × ByteArray × Bool} (h : k ≠ 7) : tagC u n k n2 k0 d0 y = (noDc, false) := by
 unfold tagC
 rw [if_pos (.inr (.inr (.inl h)))]
theorem tagC_num {u n : Nat} {k : Int} {n2 : Nat} {k0 : Int} {d0 : Dc} {y : Bool × ByteArray × Bool} (h : k0 ≠ 3) : tagC u n k n2 k0 d0 y = (noDc, false) := by
 unfold tagC
 by_cases hc : u ≠ 4 ∨ n ≠ 1 ∨ k ≠ 7 ∨ n2 ≠ 2
 ·rw [if_pos hc]
 ·rw [if_neg hc, if_pos (.inl h)]
theorem ofTag_set {t r : Tree} (h9 : t.hd.kind = 9) (h : SetR t r) : ofTagM r = ofTagM t := by
 have hh := (setR_hd h).1 (by omega)
 obtain ⟨th, tl⟩ := t
 simp only [Tree.hd_node] at h9 hh
 obtain ⟨m, hm, rfl⟩ := setR_other (by omega) (by omega) h
 obtain ⟨h5, h6⟩ := setL_get tl m hm
 have h7 := h6 0
 rw [ofTag_eq, ofTag_eq]
 simp only [Tree.hd_node, Tree.l_node]
 rw [h5, setR_kind h7]
 by_cases hk7 : (nthT tl 0).hd.kind = 7
 ·obtain ⟨x, hx⟩ : ∃ x, nthT tl 0 = x := ⟨_, rfl⟩
  obtain ⟨y, hy⟩ : ∃ y, nthT m 0 = y := ⟨_, rfl⟩
  rw [hx] at h7 hk7 ⊢
  rw [hy] at h7 ⊢
  obtain ⟨ah, al⟩ := x
  simp only [Tree.hd_node, Tree.l_node] at hk7 ⊢
  obtain ⟨n, hn, rfl⟩ := setR_other (by omega) (by omega) h7
  obtain ⟨g5, g6⟩ := setL_get al n hn
  have g0 := g6 0
  have g1 := g6 1
  have hlen1 : (nthT al 1).hd.kind = 9 → (nthT al 1).l.length = (nthT n 1).l.length := fun e => (setR_len g1 fun e8 => by omega).symm
  rw [Tree.l_node, g5, setR_kind g0, whole_set g1 hlen1]
  by_cases hx3 : (nthT al 0).hd.kind = 3
  ·rw [(setR_hd g0).1 (by omega)]
  ·rw [tagC_num hx3, tagC_num hx3]
 ·rw [tagC_kind hk7, tagC_kind hk7]
theorem decimal_set {t r : Tree} (hu : t.hd.u < 18446744073709551616) (h : SetR t r) (ho : ownT t = true) : decimalM X r = decimalM X t := by
 have hk := setR_kind h
 unfold decimalM
 rw [hk]
 by_cases h4 : t.hd.kind = 4
 ·have h3 : ¬ t.hd.kind = 3 := by omega
  rw [if_neg h3, if_pos h4, if_neg h3, if_pos h4]
  have hw : (widen t.hd.u t.hd.w).2 = 0 := by
   rw [own_float h4, Bool.and_eq_true] at ho
   exact of_decide_eq_true ho.2
  unfold ofFloatM
  rw [((setR_hd h).2 h4).1, nar_widen hu, hw]
 ·rw [(setR_hd h).1 h4]
  by_cases h9 : t.hd.kind = 9
  ·rw [ofTag_set h9 h]
  ·simp only [if_neg h9]
theorem maxN_perm {a b : List Nat} (h : a.Perm b) : maxN a = maxN b := by
 induction h with
 | nil => rfl
 | cons x _ ih => simp only [maxN, List.foldr_cons] at ih ⊢; rw [ih]
 | swap x y l => simp only [maxN, List.foldr_cons]; omega
 | trans _ _ h1 h2 => rw [h1, h2]
theorem goodP_perm {a b : List (Tree × Tree)} (h : (a.map Prod.fst).Perm (b.map Prod.fst)) (hg : GoodP [] a) : GoodP [] b := by
 have e : ∀ l : List (Tree × Tree), l.map keyR = (l.map Prod.fst).map fun k => (renderM k).1 := fun l => by rw [List.map_map]; rfl
 refine ⟨fun p hp => ?_, ?_⟩
 ·obtain ⟨q, hq, e2⟩ := List.mem_map.1 (h.mem_iff.2 (List.mem_map.2 ⟨p, hp, rfl⟩))
  have := hg.1 q hq
  unfold keyR at this ⊢
  rw [e2] at this
  exact this
 ·rw [e]
  have := hg.2
  rw [e] at this
  exact ((h.map fun k => (renderM k).1).nodup_iff).1 this
theorem set_proj : ∀ t : Tree, (∀ x ∈ t.flat, ownT x = true) → (∀ x ∈ t.flat, x.hd.u < 18446744073709551616) → ∀ r, SetR t r → (r.proj X).2 = (t.proj X).2 ∧ ((t.proj X).2 ≠ 2 → (r.proj X).1 = (t.proj X).1) := by
 refine Tree.ind fun h l ih hown hu r hr => ?_
 have hkid : ∀ k ∈ l, ∀ x ∈ k.flat, ownT x = true := ((flat_all (fun x => ownT x = true) (.node h l)).1 hown).2
 have hself : ownT (.node h l) = true := ((flat_all (fun x => ownT x = true) (.node h l)).1 hown).1
 obtain ⟨hu0, huk⟩ := (flat_all (fun x => x.hd.u < 18446744073709551616) (.node h l)).1 hu
 simp only [Tree.hd_node, Tree.l_node] at hu0 huk
 have hdec := decimal_set X (t := .node h l) hu0 hr hself
 have IH := fun k hk => ih k hk (hkid k hk) (huk k hk)
 by_cases h8 : h.kind = 8
 ·have hev := (own_even hself h8).1
  obtain ⟨zs, zs', rfl, hp, rfl, hz⟩ := setR_map h8 hev hr
  have hd0 : decimalM X (.node h (unpairs (zs.map oldP))) = (noDc, false) := by unfold decimalM; simp [h8]
  rw [hd0] at hdec
  rw [Tree.proj, Tree.proj, hdec, hd0]
  simp only [h8]
  simp only [Bool.false_eq_true, if_false, or_self, show ((8 : Int) = 2) = False by decide, show ((8 : Int) = 5) = False by decide, show ((8 : Int) = 6) = False by decide, show ((8 : Int) = 11) = False by decide, show ((8 : Int) = 9) = False by decide, show ((8 : Int) = 7) = False by decide, if_true]
  have hpk : ((zs.map oldP).map Prod.fst).Perm ((zs'.map newP).map Prod.fst) := by
   rw [List.map_map, List.map_map]
   exact hp.map Prod.fst
  have hmem : ∀ z ∈ zs, z.2.1 ∈ unpairs (zs.map oldP) := fun z hm => mem_unpairs.2 ⟨oldP z, List.mem_map.2 ⟨z, hm, rfl⟩, .inr rfl⟩
  have hpr : ∀ z ∈ zs, (z.2.2.proj X).2 = (z.2.1.proj X).2 ∧ ((z.2.1.proj X).2 ≠ 2 → (z.2.2.proj X).1 = (z.2.1.proj X).1) := fun z hm => IH z.2.1 (hmem z hm) z.2.2 (hz z hm)
  by_cases hg : GoodP [] (zs.map oldP)
  ·have hg' := goodP_perm hpk hg
   rw [projP_good X _ [] hg, projP_good X _ [] hg']
   have e1 : ((zs'.map newP).map fun p => (p.2.proj X).2).Perm ((zs.map oldP).map fun p => (p.2.proj X).2) := by
    rw [List.map_map, List.map_map]
    exact (hp.symm.map _).trans (List.Perm.of_eq (List.map_congr_left fun z hm => (hpr z hm).1))
   refine ⟨maxN_perm e1, fun hne => ?_⟩
   have e2 : ((zs'.map newP).map (pairP X)).Perm ((zs.map oldP).map (pairP X)) := by
    rw [List.map_map, List.map_map]
    refine (hp.symm.map _).trans (List.Perm.of_eq (List.map_congr_left fun z hm => ?_))
    show (keyR (newP z), (z.2.2.proj X).1) = (keyR (oldP z), (z.2.1.proj X).1)
    rw [(hpr z hm).2 (fun e => hne ?_)]
    ·rfl
    ·have h1 := le_maxN (a := (zs.map oldP).map fun p => (p.2.proj X).2) (List.mem_map.2 ⟨oldP z, List.mem_map.2 ⟨z, hm, rfl⟩, rfl⟩)
     have h2 := projP_le X (unpairs (zs.map oldP)) []
     rw [projP_good X _ [] hg] at h2
     simp only at h1 h2 ⊢
     omega
   simp only
   congr 1
   refine sortM_perm ?_ e2
   rw [List.pairwise_map]
   exact (List.pairwise_map.1 (List.nodup_iff_pairwise_ne.1 hg.2)).imp fun h => h
  ·have h1 := projP_bad X _ [] hg
   have h2 := projP_bad X _ [] (fun h => hg (goodP_perm hpk.symm h))
   rw [h1, h2]
   exact ⟨rfl, fun h => absurd rfl h⟩
 ·by_cases h4 : h.kind = 4
  ·rw [SetR, if_pos h4] at hr
   subst hr
   have k4 : (narHd h).kind = 4 := h4
   rw [Tree.proj, Tree.proj, hdec, k4, h4]
   cases hok : (decimalM X (.node h l)).2 with
   | true => exact ⟨rfl, fun _ => rfl⟩
   | false => exact ⟨rfl, fun _ => rfl⟩
  ·obtain ⟨m, hm, rfl⟩ := setR_other h4 h8 hr
   rw [Tree.proj, Tree.proj, hdec]
   cases hok : (decimalM X (.node h l)).2 with
   | true => exact ⟨rfl, fun _ => rfl⟩
   | false =>
    simp only [Bool.false_eq_true, if_false]
    by_cases h2 : h.kind = 2 ∨ h.kind = 5
    ·rw [if_pos h2, if_pos h2]
     have hl : l = [] := by
      unfold ownT at hself
      rcases h2 with e | e
      ·simp only [Tree.hd_node, e] at hself
       simp at hself
       exact (bareT_hd hself).2
      ·simp only [Tree.hd_node, e] at hself
       simp at hself
       exact (bareT_hd hself.1.1).2
     subst hl
     rw [SetL] at hm
     subst hm
     exact ⟨rfl, fun _ => rfl⟩
    ·rw [if_neg h2, if_neg h2]
     by_cases h6 : h.kind = 6
     ·rw [if_pos h6, if_pos h6]; exact ⟨rfl, fun _ => rfl⟩
     ·rw [if_neg h6, if_neg h6]
      by_cases h11 : h.kind = 11
      ·rw [if_pos h11, if_pos h11]; exact ⟨rfl, fun _ => rfl⟩
      ·rw [if_neg h11, if_neg h11]
       by_cases h9 : h.kind = 9
       ·rw [if_pos h9, if_pos h9]
        cases l with
        | nil => rw [SetL] at hm; subst hm; exact ⟨rfl, fun _ => rfl⟩
        | cons x l =>
         rw [SetL] at hm
         obtain ⟨y, k, h1, h2, rfl⟩ := hm
         rw [projT, projT]; exact IH x (by simp) y h1
       ·rw [if_neg h9, if_neg h9]
        by_cases h7 : h.kind = 7
        ·rw [if_pos h7, if_pos h7]
         have : ∀ a b : List Tree, SetL a b → (∀ k ∈ a, k ∈ l) → (projL X b).2 = (projL X a).2 ∧ ((projL X a).2 ≠ 2 → (projL X b).1 = (projL X a).1) := by
          intro a
          induction a with
          | nil => intro b hb _; rw [SetL] at hb; subst hb; exact ⟨rfl, fun _ => rfl⟩
          | cons x a iha =>
           intro b hb ha
           rw [SetL] at hb
           obtain ⟨y, k, h1, h2, rfl⟩ := hb
           have g1 := IH x (ha x (by simp)) y h1
           have g2 := iha k h2 fun z hz => ha z (by simp [hz])
           have l1 := Tree.proj_le X x
           have l2 := projL_le X a
           rw [projL, projL]
           simp only
           refine ⟨by rw [g1.1, g2.1], fun hne => ?_⟩
           rw [g1.2 (by omega), g2.2 (by omega)]
         have := this l m hm fun k hk => hk
         exact ⟨this.1, fun hne => by simp only at hne ⊢; rw [this.2 hne]⟩
        ·rw [if_neg h7, if_neg h7, if_neg h8, if_neg h8]; exact ⟨rfl, fun _ => rfl⟩
theorem common_set {t r : Tree} (hc : checkT t 2 = 0) (hu : ∀ x ∈ t.flat, x.hd.u < 18446744073709551616) (h : SetR t r) : commonM X r 3 = commonM X t 2 := by
 have hall := checkT_all hc
 have hown := fun x hx => (hall.2.2 x hx).1
 have hsz := setR_size t (even_of_own hown) r h
 have hr := setR_right t hall.2.2 hu r h
 have hc3 : checkT r 3 = 0 := by
  unfold checkT
  rw [if_neg (by unfold cnt64; rw [hsz.1, hsz.2]; have := hall.1; have := hall.2.1; unfold cnt64 at this; omega), check_from, if_pos, if_pos]
  ·exact List.all_eq_true.2 fun y hy => (hr y hy).2
  ·exact List.all_eq_true.2 fun y hy => (hr y hy).1
 have hp := set_proj X t hown hu r h
 unfold commonM
 rw [hc, hc3, hp.1]
 have h0 : ¬ ((0 : Int) ≠ 0) := fun h => h rfl
 rw [if_neg h0, if_neg h0]
 by_cases he : (t.proj X).2 = 0
 ·rw [hp.2 (by omega)]
 ·rw [if_pos he, if_pos he]
end Go.Tm
namespace Go.Tm
theorem setR_lens : ∀ t : Tree, EvenM t → (∀ x ∈ t.flat, x.l.length ≤ 40) → ∀ r, SetR t r → ∀ x ∈ r.flat, x.l.length ≤ 40 := by
 refine Tree.ind fun h l ih hev hl r hr => ?_
 obtain ⟨he, hk⟩ := even_kid hev
 obtain ⟨hl0, hlk⟩ := (flat_all (fun x => x.l.length ≤ 40) (.node h l)).1 hl
 have hlen := setR_len hr (fun h8 => he h8)
 refine (flat_all (fun x => x.l.length ≤ 40) r).2 ⟨by rw [hlen]; exact hl0, fun y hy => ?_⟩
 simp only [Tree.l_node] at hlk
 by_cases h4 : h.kind = 4
 ·have h1 := ((setR_hd hr).2 h4).2
  rw [h1] at hy
  exact hlk y hy
 ·by_cases h8 : h.kind = 8
  ·obtain ⟨zs, zs', hz, hp, rfl, hs⟩ := setR_map h8 (he h8) hr
   obtain ⟨p, hp', hq⟩ := mem_unpairs.1 hy
   obtain ⟨z, hzm, rfl⟩ := List.mem_map.1 hp'
   have hzz := hp.mem_iff.2 hzm
   have ho : oldP z ∈ zs.map oldP := List.mem_map.2 ⟨z, hzz, rfl⟩
   rcases hq with rfl | rfl
   ·have hm : z.1 ∈ l := by rw [hz]; exact mem_unpairs.2 ⟨oldP z, ho, .inl rfl⟩
    exact hlk z.1 hm
   ·have hm : z.2.1 ∈ l := by rw [hz]; exact mem_unpairs.2 ⟨oldP z, ho, .inr rfl⟩
    exact ih z.2.1 hm (hk _ hm) (hlk _ hm) z.2.2 (hs z hzz)
  ·obtain ⟨m, hm, rfl⟩ := setR_other h4 h8 hr
   obtain ⟨x, hx, hxy, _⟩ := setL_all (P := fun _ _ => True) hm (fun _ _ _ _ => trivial) y hy
   exact ih x hx (hk _ hx) (hlk _ hx) y hxy
end Go.Tm
namespace Go.Tm
open Go.RowKit Go.Proofs
set_option maxRecDepth 100000 in
set_option maxHeartbeats 2000000 in
theorem narrowed_any (h : Hd) (a : Option Addr) (n cap : Nat) (w : World) (hu : h.u < 18446744073709551616) :
  Calls Tryz.prog 54 #[nodeV h (.slice a n cap)] w fun e w' => e = .returned (nodeV (narHd h) (.slice a n cap)) ∧ Same w w' := by
 have hwd := fun W => widen_any h.u h.w W hu
 have hlt := widen_lt64 (w := h.w) hu
 obtain ⟨⟨wd, we⟩, hw0⟩ : ∃ q, widen h.u h.w = q := ⟨_, rfl⟩
 have hn : narHd h = { h with w := least wd, u := (narrow wd (least wd)).1 } := by unfold narHd; rw [hw0]
 rw [hn]
 rw [hw0] at hwd hlt
 clear hn hw0
 have hle := fun W => least_any wd W hlt
 have hna := fun W => narrow_any wd (least wd) W hlt
 obtain ⟨lw, hlw⟩ : ∃ q, least wd = q := ⟨_, rfl⟩
 rw [hlw] at hle hna ⊢
 obtain ⟨⟨nu, no⟩, hnu⟩ : ∃ q, narrow wd lw = q := ⟨_, rfl⟩
 rw [hnu] at hna ⊢
 clear hlw hnu
 simp only at hwd hna ⊢
 go_enter Tryz.func54, Tryz.ntmps54
 go_wp2_with fail
 refine (hwd _).mono ?_
 rintro e w1 ⟨rfl, hk1⟩
 have hb1 := hk1.same w.heap.size _ (show _ = some (.cells #[.int .i64 h.kind, .bool h.b, .bool h.d.neg, .string h.d.digits, .int .i64 h.d.exp, .int .u64 (h.u : Int), .int .i64 h.w, .string h.s, .slice a n cap] 27 (0, 0)) from heap_old (World.alloc_heap_new w _)) trivial
 have hr1 := hk1.same (w.heap.size + 1) _ (show _ = some (.cells #[.int .i64 0, .bool false, .bool false, .string ⟨#[]⟩, .int .i64 0, .int .u64 0, .int .i64 0, .string ⟨#[]⟩, .slice none 0 0] 27 (0, 0)) from heap_new' (by simp)) trivial
 have hkw1 : Same w w1 := (by repeat with_reducible first | exact Keep.refl _ _ | refine Keep.alloc ?_ _ | refine Keep.drew ?_ | refine Keep.drewN ?_ _ | refine Keep.trans ?_ (by assumption))
 clear hk1 hwd
 go_wp2_with fail
 refine (hle _).mono ?_
 rintro e w2 ⟨rfl, hk2⟩
 have hb2 := hk2.same _ _ hb1 trivial
 have hr2 := hk2.same _ _ hr1 trivial
 have hkw2 := hkw1.trans hk2
 clear hk2 hle hb1 hr1 hkw1
 obtain ⟨n0, n1, n2, n3, n4, n5, n6, n7, n8⟩ := cells9 hb2
 have hfb : ∀ j, w2.frozen? ⟨w.heap.size, j, none⟩ = false := Lib.frozen_of_heap hb2
 go_wp2_with fail
 have hb3 : (w2.setCell ⟨w.heap.size, 6, none⟩ (.int .i64 lw)).heap[w.heap.size]? = some (.cells #[.int .i64 h.kind, .bool h.b, .bool h.d.neg, .string h.d.digits, .int .i64 h.d.exp, .int .u64 (h.u : Int), .int .i64 lw, .string h.s, .slice a n cap] 27 (0, 0)) := setCell_heap hb2 6 _
 have hr3 : (w2.setCell ⟨w.heap.size, 6, none⟩ (.int .i64 lw)).heap[w.heap.size + 1]? = some (.cells #[.int .i64 0, .bool false, .bool false, .string ⟨#[]⟩, .int .i64 0, .int .u64 0, .int .i64 0, .string ⟨#[]⟩, .slice none 0 0] 27 (0, 0)) := by
  have hks : Keep (fun b _ => b ≠ w.heap.size) w2 (w2.setCell ⟨w.heap.size, 6, none⟩ (.int .i64 lw)) := (Keep.refl _ _).setCell _ fun o _ hs _ => hs rfl
  exact hks.same _ _ hr2 (by omega)
 have hkw3 : Same w (w2.setCell ⟨w.heap.size, 6, none⟩ (.int .i64 lw)) := hkw2.setCell _ fun o _ _ h => by simp at h
 generalize w2.setCell ⟨w.heap.size, 6, none⟩ (.int .i64 lw) = w3 at hb3 hr3 hkw3 ⊢
 refine (hna _).mono ?_
 rintro e w4 ⟨rfl, hk4⟩
 have hb4 := hk4.same _ _ hb3 trivial
 have hr4 := hk4.same _ _ hr3 trivial
 have hkw4 := hkw3.trans hk4
 clear hk4 hna hb3 hr3 hkw3 hb2 hr2 hkw2 n0 n1 n2 n3 n4 n5 n6 n7 n8 hfb
 obtain ⟨n0, n1, n2, n3, n4, n5, n6, n7, n8⟩ := cells9 hb4
 have hfb : ∀ j, w4.frozen? ⟨w.heap.size, j, none⟩ = false := Lib.frozen_of_heap hb4
 obtain ⟨m0, m1, m2, m3, m4, m5, m6, m7, m8⟩ := cells9 hr4
 have hfr : ∀ j, w4.frozen? ⟨w.heap.size + 1, j, none⟩ = false := Lib.frozen_of_heap hr4
 go_wp2_with fail
 have hb5 : (w4.setCell ⟨w.heap.size, 5, none⟩ (.int .u64 (nu : Int))).heap[w.heap.size]? = some (.cells #[.int .i64 h.kind, .bool h.b, .bool h.d.neg, .string h.d.digits, .int .i64 h.d.exp, .int .u64 (nu : Int), .int .i64 lw, .string h.s, .slice a n cap] 27 (0, 0)) := setCell_heap hb4 5 _
 have hks : Keep (fun b _ => b ≠ w.heap.size) w4 (w4.setCell ⟨w.heap.size, 5, none⟩ (.int .u64 (nu : Int))) := (Keep.refl _ _).setCell _ fun o _ hs _ => hs rfl
 have hr5 := hks.same _ _ hr4 (by omega)
 have hkw5 : Same w (w4.setCell ⟨w.heap.size, 5, none⟩ (.int .u64 (nu : Int))) := hkw4.setCell _ fun o _ _ h => by simp at h
 generalize w4.setCell ⟨w.heap.size, 5, none⟩ (.int .u64 (nu : Int)) = w5 at hb5 hr5 hkw5 ⊢
 obtain ⟨h9, hk9⟩ := put9 hr5 (.int .i64 h.kind) (.bool h.b) (.bool h.d.neg) (.string h.d.digits) (.int .i64 h.d.exp) (.int .u64 (nu : Int)) (.int .i64 lw) (.string h.s) (.slice a n cap)
 refine bodyPost_ret (results_cell_row rfl _ _ (w.heap.size + 1) 27 _ (0, 0) _ rfl h9 Tryz.underlying27 rfl (by kernel_rfl)) rfl ⟨rfl, ?_⟩
 exact ⟨hk9.os.trans hkw5.os, hk9.tape.trans hkw5.tape, hk9.output.trans hkw5.output, Nat.le_trans hkw5.size hk9.size, fun y o hy _ => hk9.same y o (hkw5.same y o hy trivial) (by have := lt_of_some hy; omega)⟩
end Go.Tm
namespace Go.Tm
open Go.RowKit Go.Proofs Go.Sort Go.Shelf Go.Lib
def prRen : Ren := ⟨fun | 6 => 99 | 14 => 139 | 15 => 140 | 20 => 182 | 21 => 183 | 22 => 184 | 23 => 185 | 24 => 186 | 25 => 187 | 26 => 188 | 27 => 189 | 28 => 190 | 29 => 126 | 46 => 223 | 47 => 224 | 48 => 225 | 49 => 226 | 50 => 227 | 57 => 262 | n => n, fun | 24 => 121 | 0 => 0 | 3 => 3 | 4 => 4 | 5 => 5 | 9 => 9 | 22 => 112 | 25 => 123 | 39 => 147 | 45 => 217 | 46 => 218 | 50 => 191 | 53 => 176 | 55 => 24 | 66 => 261 | 70 => 265 | 76 => 299 | 77 => 145 | n => n, fun n => n⟩
set_option maxRecDepth 100000 in
theorem prLays : SlLaysF0.n6 Tryz.prog prRen := {
 mixed := by kernel_rfl
 f6 := ⟨"slices.SortFunc[[]targum/det.pair,targum/det.pair]", of_decide_eq_true (by kernel_rfl), Tryz.func99.trans (congrArg some (by kernel_rfl))⟩
 f14 := ⟨"slices.pdqsortCmpFunc[targum/det.pair]", of_decide_eq_true (by kernel_rfl), Tryz.func139.trans (congrArg some (by kernel_rfl))⟩
 f15 := Tryz.func140.trans (congrArg some (by kernel_rfl))
 f20 := ⟨"slices.insertionSortCmpFunc[targum/det.pair]", of_decide_eq_true (by kernel_rfl), Tryz.func182.trans (congrArg some (by kernel_rfl))⟩
 f21 := ⟨"slices.heapSortCmpFunc[targum/det.pair]", of_decide_eq_true (by kernel_rfl), Tryz.func183.trans (congrArg some (by kernel_rfl))⟩
 f22 := ⟨"slices.breakPatternsCmpFunc[targum/det.pair]", of_decide_eq_true (by kernel_rfl), Tryz.func184.trans (congrArg some (by kernel_rfl))⟩
 f23 := ⟨"slices.choosePivotCmpFunc[targum/det.pair]", of_decide_eq_true (by kernel_rfl), Tryz.func185.trans (congrArg some (by kernel_rfl))⟩
 f24 := ⟨"slices.reverseRangeCmpFunc[targum/det.pair]", of_decide_eq_true (by kernel_rfl), Tryz.func186.trans (congrArg some (by kernel_rfl))⟩
 f25 := ⟨"slices.partialInsertionSortCmpFunc[targum/det.pair]", of_decide_eq_true (by kernel_rfl), Tryz.func187.trans (congrArg some (by kernel_rfl))⟩
 f26 := ⟨"slices.partitionEqualCmpFunc[targum/det.pair]", of_decide_eq_true (by kernel_rfl), Tryz.func188.trans (congrArg some (by kernel_rfl))⟩
 f27 := ⟨"slices.partitionCmpFunc[targum/det.pair]", of_decide_eq_true (by kernel_rfl), Tryz.func189.trans (congrArg some (by kernel_rfl))⟩
 f28 := Tryz.func190.trans (congrArg some (by kernel_rfl))
 f29 := Tryz.func126.trans (congrArg some (by kernel_rfl))
 f46 := ⟨"slices.siftDownCmpFunc[targum/det.pair]", of_decide_eq_true (by kernel_rfl), Tryz.func223.trans (congrArg some (by kernel_rfl))⟩
 f47 := Tryz.func224.trans (congrArg some (by kernel_rfl))
 f48 := Tryz.func225.trans (congrArg some (by kernel_rfl))
 f49 := ⟨"slices.medianAdjacentCmpFunc[targum/det.pair]", of_decide_eq_true (by kernel_rfl), Tryz.func226.trans (congrArg some (by kernel_rfl))⟩
 f50 := ⟨"slices.medianCmpFunc[targum/det.pair]", of_decide_eq_true (by kernel_rfl), Tryz.func227.trans (congrArg some (by kernel_rfl))⟩
 f57 := ⟨"slices.order2CmpFunc[targum/det.pair]", of_decide_eq_true (by kernel_rfl), Tryz.func262.trans (congrArg some (by kernel_rfl))⟩
 t0 := Tryz.underlying0
 a0 := Tryz.isAgg0
 z0 := Tryz.sizeOf0
 v0 := Tryz.zeroValue0
 t3 := Tryz.underlying3
 a3 := Tryz.isAgg3
 z3 := Tryz.sizeOf3
 v3 := Tryz.zeroValue3
 t4 := Tryz.underlying4
 a4 := Tryz.isAgg4
 z4 := Tryz.sizeOf4
 v4 := Tryz.zeroValue4
 t5 := Tryz.underlying5
 a5 := Tryz.isAgg5
 z5 := Tryz.sizeOf5
 v5 := Tryz.zeroValue5
 t9 := Tryz.underlying9
 a9 := Tryz.isAgg9
 z9 := Tryz.sizeOf9
 v9 := Tryz.zeroValue9
 t22 := Tryz.underlying112
 a22 := Tryz.isAgg112
 z22 := Tryz.sizeOf112
 v22 := Tryz.zeroValue112
 t25 := Tryz.underlying123
 a25 := Tryz.isAgg123
 z25 := Tryz.sizeOf123
 v25 := Tryz.zeroValue123
 t39 := Tryz.underlying147
 a39 := Tryz.isAgg147
 z39 := Tryz.sizeOf147
 v39 := Tryz.zeroValue147
 t45 := Tryz.underlying217
 a45 := Tryz.isAgg217
 z45 := Tryz.sizeOf217
 v45 := Tryz.zeroValue217
 t46 := Tryz.underlying218
 a46 := Tryz.isAgg218
 z46 := Tryz.sizeOf218
 v46 := Tryz.zeroValue218
 t50 := Tryz.underlying191
 a50 := Tryz.isAgg191
 z50 := Tryz.sizeOf191
 v50 := Tryz.zeroValue191
 t53 := Tryz.underlying176
 a53 := Tryz.isAgg176
 z53 := Tryz.sizeOf176
 v53 := Tryz.zeroValue176
 t55 := Tryz.underlying24
 a55 := Tryz.isAgg24
 z55 := Tryz.sizeOf24
 v55 := Tryz.zeroValue24
 t66 := Tryz.underlying261
 a66 := Tryz.isAgg261
 z66 := Tryz.sizeOf261
 v66 := Tryz.zeroValue261
 t70 := Tryz.underlying265
 a70 := Tryz.isAgg265
 z70 := Tryz.sizeOf265
 v70 := Tryz.zeroValue265
 t76 := Tryz.underlying299
 a76 := Tryz.isAgg299
 z76 := Tryz.sizeOf299
 v76 := Tryz.zeroValue299
 t77 := Tryz.underlying145
 a77 := Tryz.isAgg145
 z77 := Tryz.sizeOf145
 v77 := Tryz.zeroValue145 }
end Go.Tm
namespace Go.Tm
open Go.RowKit Go.Proofs Go.Sort Go.Shelf Go.Lib
structure Prr where
 k : Hd
 ka : Option Addr
 kn : Nat
 kc : Nat
 s : ByteArray
 g : Hd
 ga : Option Addr
 gn : Nat
 gc : Nat
 kl : List Tree
 gl : List Tree
instance : Inhabited Prr := ⟨⟨bareHd 0, none, 0, 0, ⟨#[]⟩, bareHd 0, none, 0, 0, [], []⟩⟩
def Prr.cs (m : Prr) : List Value := nodeCs m.k (.slice m.ka m.kn m.kc) ++ [.string m.s] ++ nodeCs m.g (.slice m.ga m.gn m.gc)
def Prr.pair (m : Prr) : Tree × Tree := (.node m.k m.kl, .node m.g m.gl)
theorem Prr.cs_len (m : Prr) : m.cs.length = 19 := rfl
theorem Prr.cs_one (m : Prr) : ∀ v ∈ m.cs, v.oneCell' = true := by
 intro v hv
 simp [Prr.cs] at hv
 rcases hv with rfl | rfl | rfl | rfl | rfl | rfl | rfl | rfl | rfl | rfl | rfl | rfl | rfl | rfl | rfl | rfl | rfl | rfl | rfl <;> rfl
def prCf (x y : Prr) : Int := cmpB x.s y.s
theorem swo_pr : SWO (ltOf prCf) where
 irrefl x := swo_ltB.irrefl x.s
 trans x y z := swo_ltB.trans x.s y.s z.s
 ntrans x y z := swo_ltB.ntrans x.s y.s z.s
set_option maxRecDepth 100000 in
set_option maxHeartbeats 2000000 in
theorem prCmp_any (x y : Prr) (W : World) : Calls Tryz.prog 100 #[.agg x.cs.toArray, .agg y.cs.toArray] W fun e w' => e = .returned (.int .i64 (prCf x y)) ∧ ∃ q os', w' = grow (W.drewN q) os' := by
 have hc := fun W' => cmp_any x.s y.s W'
 unfold prCf
 generalize cmpB x.s y.s = r at hc ⊢
 obtain ⟨k1, ka1, kn1, kc1, s1, g1, ga1, gn1, gc1, kl1, gl1⟩ := x
 obtain ⟨k2, ka2, kn2, kc2, s2, g2, ga2, gn2, gc2, kl2, gl2⟩ := y
 simp only [Prr.cs] at hc ⊢
 go_enter Tryz.func100, Tryz.ntmps100
 go_wp2_with (go_at_call 114; refine (hc _).mono ?_; rintro e w1 ⟨rfl, h9⟩; replace h9 := h9.symm; subst h9)
 go_ret
 exact ⟨rfl, 0, _, by rw [alloc_eq_grow, alloc_eq_grow, grow_grow]; rfl⟩
set_option maxRecDepth 100000 in
theorem chunks_any (a : Option Addr) (n cap : Nat) (z : Int) (w : World) :
  Calls Tryz.prog 97 #[.slice a n cap, .int .i64 z] w fun e w' => e = .returned (.func (.func 137) #[] #[.pointer (some ⟨w.heap.size, 0, none⟩), .pointer (some ⟨w.heap.size + 1, 0, none⟩)]) ∧ w' = (w.alloc (.cells #[.slice a n cap] 25)).alloc (.cells #[.int .i64 z] 3) := by
 go_enter Tryz.func97, Tryz.ntmps97
 go_wp2
 go_ret
 exact ⟨rfl, rfl⟩
end Go.Tm
namespace Go.Tm
open Go.RowKit Go.Proofs
def GivesC (S : Nat → Prop) (l : List Tree) (i : Nat) (v : Array Value) (A : World) : Prop := ∃ (h0 : 2 * i < l.length) (h1 : 2 * i + 1 < l.length) (b o : Nat) (lv mv : Value), v = #[.slice (some ⟨b, o, none⟩) 2 2] ∧ S b ∧ (∃ cur f, A.heap[b]? = some (.cells cur 27 f)) ∧ A.rangeAt b o (nodeCs (l[2 * i]).hd lv) ∧ A.rangeAt b (o + 9) (nodeCs (l[2 * i + 1]).hd mv) ∧ RepS S A (l[2 * i]).l lv ∧ RepS S A (l[2 * i + 1]).l mv ∧ (l[2 * i]).hd.ok ∧ (l[2 * i + 1]).hd.ok
set_option maxRecDepth 100000 in
set_option maxHeartbeats 800000 in
theorem chunks1_iter (S : Nat → Prop) (l : List Tree) (lv : Value) (bx bz : Nat) (Sb Si : Nat → Obj → Prop) (W : World) (hr : RepS S W l lv) (hev : l.length % 2 = 0) (hbx : Boxed W bx 25 lv) (hbz : Boxed W bz 3 (.int .i64 2)) (hSb1 : ∀ c f, Sb bx (.cells c 25 f)) (hSb3 : ∀ c f, Sb bz (.cells c 3 f)) (hSb2 : ∀ b c f, Sb b (.cells c 27 f)) (hSi : ∀ b o, Si b o → b ≠ bx ∨ ∀ c f, o ≠ .cells c 25 f) :
  IterAt Tryz.prog 137 #[.pointer (some ⟨bx, 0, none⟩), .pointer (some ⟨bz, 0, none⟩)] (l.length / 2) (GivesC S l) Sb Si (fun _ => True) (fun _ _ => True) W := by
 rintro lp J Jx hlp hJ hJx hY h0
 obtain ⟨r, hl⟩ := hlp 0 W h0
 have hne := cell_ne_loop hbx.cell hl
 have hne2 := cell_ne_loop hbz.cell hl
 have hnz : bx ≠ bz := by rintro rfl; have h1 : W.heap[bx]? = _ := hbx; have h2 : W.heap[bx]? = _ := hbz; rw [h1] at h2; cases h2
 obtain ⟨hlen, a, cap, rfl, hcap, hi⟩ := hr.shape
 have hi2 : ∀ k, 2 * k < l.length → ∃ b off, a = some ⟨b, off, none⟩ := fun k h => by obtain ⟨b, off, _, e, _⟩ := hi _ h; exact ⟨b, off, e⟩
 refine callsIn_of_wp Tryz.func137 rfl trivial ?_ rfl
 simp only [Tryz.ntmps137, List.size_toArray, List.length_cons, List.length_nil, Nat.reduceAdd, Nat.reduceSub, Array.replicate_succ, Array.replicate_zero, List.push_toArray, List.append_toArray, List.nil_append, List.cons_append]
 gi_wp2
 gi_loopw [4] (fun _ wr => ∃ k : Nat, k ≤ l.length / 2 ∧ J k wr ∧ (∃ a' c', Boxed wr bx 25 (.slice a' (l.length - 2 * k) c') ∧ (2 * k < l.length → l.length - 2 * k ≤ c' ∧ ∀ b off, a = some ⟨b, off, none⟩ → a' = some ⟨b, off + 18 * k, none⟩)) ∧ Boxed wr bz 3 (.int .i64 2) ∧ Keep (fun b o => ∃ c f, o = .cells c 27 f) W wr)
  (fun _ wr => match wr.heap[bx]? with | some (.cells #[.slice _ n _] _ _) => n | _ => 0)
 case atStart => exact ⟨0, Nat.zero_le _, h0, ⟨a, cap, hbx, fun _ => ⟨hcap, fun b off e => by rw [e]; rfl⟩⟩, hbz, Keep.refl _ _⟩
 case round =>
  obtain ⟨k, hk, hj, ⟨a', c', hc0, hc1⟩, hz0, hkk⟩ := hrel
  obtain ⟨r1, hl1⟩ := hlp k wr hj
  by_cases hlt : k < l.length / 2
  ·have i0 : 2 * k < l.length := by omega
   have i1 : 2 * k + 1 < l.length := by omega
   obtain ⟨hcc, ha'⟩ := hc1 i0
   obtain ⟨b, off, lv0, rfl, hS0, hb0, hr0, hok0, hra0⟩ := hi (2 * k) i0
   obtain ⟨b', off', lv1, e1, hS1, hb1, hr1, hok1, hra1⟩ := hi (2 * k + 1) i1
   cases e1
   have ha2 := ha' b off rfl
   subst ha2
   obtain ⟨cur, fz, hbk⟩ := hb0
   have hK : ∀ o, W.heap[b]? = some o → ∃ c f, o = .cells c 27 f := fun o ho => by rw [hbk] at ho; cases ho; exact ⟨_, _, rfl⟩
   have ra0 := rangeAt_keep hkk hK hra0
   have ra1 := rangeAt_keep hkk hK hra1
   have hr0' := hr0.keep hkk fun _ _ c f => ⟨c, f, rfl⟩
   have hr1' := hr1.keep hkk fun _ _ c f => ⟨c, f, rfl⟩
   have hbk2 := hkk.same _ _ hbk ⟨_, _, rfl⟩
   obtain ⟨fn, tmps, assign, body, hy, hR⟩ := hY k _ wr hlt hj ⟨i0, i1, b, off + 18 * k, lv0, lv1, rfl, hS0, ⟨_, _, hbk2⟩, by rw [show off + 18 * k = off + 2 * k * 9 by omega]; exact ra0, by rw [show off + 18 * k + 9 = off + (2 * k + 1) * 9 by omega]; exact ra1, hr0', hr1', hok0, hok1⟩
   obtain ⟨m, hm⟩ : ∃ m, l.length - 2 * k = m := ⟨_, rfl⟩
   obtain ⟨q, hq⟩ : ∃ q, off + 18 * k = q := ⟨_, rfl⟩
   rw [hm] at hc0 hcc
   rw [hq] at hc0 hy
   have hm2 : 2 ≤ m := by omega
   have hc := hc0.cell
   have hz := hz0.cell
   have hfz : ∀ j, wr.frozen? ⟨bx, j, none⟩ = false := Lib.frozen_of_heap hc0
   clear ra0 ra1 hra0 hra1 hr0 hr1 hr0' hr1' hi hi2 hr hbx hbz hY
   have HM := Lib.hid hm
   have HQ := Lib.hid hq
   clear hm hq
   have g1 : (2 : Int) ≤ (m : Int) := by omega
   have g2 : (2 : Int) ≤ (c' : Int) := by omega
   gi_wp2
   refine hR.mono ?_
   rintro e W3 ⟨hkp, hcase⟩
   have hc3b := hkp.boxed hc0 ⟨hne, hSb1 _ _⟩
   have hz3b := hkp.boxed hz0 ⟨hne2, hSb3 _ _⟩
   have hc3 := hc3b.cell
   have hz3 := hz3b.cell
   have hfz3 : ∀ j, W3.frozen? ⟨bx, j, none⟩ = false := Lib.frozen_of_heap hc3b
   have hk3 : Keep (fun b o => ∃ c f, o = .cells c 27 f) W W3 := by
    refine hkk.trans (hkp.mono ?_)
    rintro k2 o hb2 ⟨c, f, rfl⟩
    refine ⟨?_, hSb2 _ _ _⟩
    rintro rfl
    rw [hb2] at hl1; cases hl1
   clear hc hz hfz
   rcases hcase with ⟨rfl, hj3⟩ | ⟨rfl, hj3⟩
   ·clear hl1 hl h0 hj hkk hK hbk hbk2 hR hy g1 g2 hS0 hS1 hb1 hok0 hok1 hc1 ha' hcap
    by_cases h2 : c' = 2
    ·obtain rfl : m = 2 := by omega
     subst h2
     gi_wp2
     have hset := hc3b.set (.slice (some ⟨b, q, none⟩) 0 0)
     have hks : Keep (fun b _ => b ≠ bx) W3 (W3.setCell ⟨bx, 0, none⟩ (.slice (some ⟨b, q, none⟩) 0 0)) := (Keep.refl _ _).setCell _ fun o _ hs _ => hs rfl
     have hj4 : J (k + 1) (W3.setCell ⟨bx, 0, none⟩ (.slice (some ⟨b, q, none⟩) 0 0)) := hJ _ _ _ hj3 ((Keep.refl _ _).setCell _ fun o ho hs _ => by
      have hs2 := hSi _ _ hs
      have h3' : W3.heap[bx]? = some (.cells #[_] 25 (0, 0)) := hc3b
      rw [show (⟨bx, 0, none⟩ : Addr).block = bx from rfl, h3'] at ho
      cases ho
      rcases hs2 with h | h
      ·exact h rfl
      ·exact h _ _ rfl)
     have hk4 : Keep (fun b o => ∃ c f, o = .cells c 27 f) W (W3.setCell ⟨bx, 0, none⟩ (.slice (some ⟨b, q, none⟩) 0 0)) := hk3.trans ((Keep.refl _ _).setCell _ fun o ho hs _ => by
      have h3' : W3.heap[bx]? = some (.cells #[_] 25 (0, 0)) := hc3b
      rw [show (⟨bx, 0, none⟩ : Addr).block = bx from rfl, h3'] at ho
      obtain ⟨c, f, rfl⟩ := hs
      cases ho)
     have hz4 := hks.boxed hz3b (fun e => hnz e.symm)
     refine ⟨?_, ?_⟩
     ·(repeat apply Exists.intro)
      refine ⟨?_, rfl⟩
      exact ⟨k + 1, by omega, hj4, ⟨_, _, by rw [show l.length - 2 * (k + 1) = 0 by have := HM.out; omega]; exact hset, fun h => absurd h (by have := HM.out; omega)⟩, hz4, hk4⟩
     ·have h1' : wr.heap[bx]? = some (.cells #[.slice (some ⟨b, q, none⟩) 2 2] 25 (0, 0)) := hc0
      have h2' : (W3.setCell ⟨bx, 0, none⟩ (.slice (some ⟨b, q, none⟩) 0 0)).heap[bx]? = some (.cells #[.slice (some ⟨b, q, none⟩) 0 0] 25 (0, 0)) := hset
      rw [h1', h2']
      show 0 < 2
      omega
    ·have g1 : (2 : Int) ≤ (m : Int) := by omega
     gi_wp2
     have hset := hc3b.set (.slice (some ⟨b, q + 18, none⟩) (m - 2) (c' - 2))
     have hks : Keep (fun b _ => b ≠ bx) W3 (W3.setCell ⟨bx, 0, none⟩ (.slice (some ⟨b, q + 18, none⟩) (m - 2) (c' - 2))) := (Keep.refl _ _).setCell _ fun o _ hs _ => hs rfl
     have hj4 : J (k + 1) (W3.setCell ⟨bx, 0, none⟩ (.slice (some ⟨b, q + 18, none⟩) (m - 2) (c' - 2))) := hJ _ _ _ hj3 ((Keep.refl _ _).setCell _ fun o ho hs _ => by
      have hs2 := hSi _ _ hs
      have h3' : W3.heap[bx]? = some (.cells #[_] 25 (0, 0)) := hc3b
      rw [show (⟨bx, 0, none⟩ : Addr).block = bx from rfl, h3'] at ho
      cases ho
      rcases hs2 with h | h
      ·exact h rfl
      ·exact h _ _ rfl)
     have hk4 : Keep (fun b o => ∃ c f, o = .cells c 27 f) W (W3.setCell ⟨bx, 0, none⟩ (.slice (some ⟨b, q + 18, none⟩) (m - 2) (c' - 2))) := hk3.trans ((Keep.refl _ _).setCell _ fun o ho hs _ => by
      have h3' : W3.heap[bx]? = some (.cells #[_] 25 (0, 0)) := hc3b
      rw [show (⟨bx, 0, none⟩ : Addr).block = bx from rfl, h3'] at ho
      obtain ⟨c, f, rfl⟩ := hs
      cases ho)
     have hz4 := hks.boxed hz3b (fun e => hnz e.symm)
     refine ⟨?_, ?_⟩
     ·(repeat apply Exists.intro)
      refine ⟨?_, rfl⟩
      exact ⟨k + 1, by omega, hj4, ⟨_, _, by rw [show l.length - 2 * (k + 1) = m - 2 by have := HM.out; omega]; exact hset, fun h => ⟨by have := HM.out; omega, fun b1 o1 e => by cases e; have := HQ.out; congr 2; omega⟩⟩, hz4, hk4⟩
     ·have h1' : wr.heap[bx]? = some (.cells #[.slice (some ⟨b, q, none⟩) m c'] 25 (0, 0)) := hc0
      have h2' : (W3.setCell ⟨bx, 0, none⟩ (.slice (some ⟨b, q + 18, none⟩) (m - 2) (c' - 2))).heap[bx]? = some (.cells #[.slice (some ⟨b, q + 18, none⟩) (m - 2) (c' - 2)] 25 (0, 0)) := hset
      rw [h1', h2']
      show m - 2 < m
      omega
   ·gi_wp2
    refine bodyPost_ret (results_none rfl _ _ _) rfl ?_
    exact ⟨⟨_, rfl⟩, .inr ⟨k, hlt, hj3, trivial⟩⟩
  ·obtain rfl : k = l.length / 2 := by omega
   have hz1 : l.length - 2 * (l.length / 2) = 0 := by omega
   rw [hz1] at hc0
   have hc := hc0.cell
   have hz := hz0.cell
   gi_wp2
   go_end0
   exact ⟨⟨_, rfl⟩, .inl ⟨hj, trivial⟩⟩
end Go.Tm
namespace Go.Tm
open Go.RowKit Go.Proofs Go.Sort Go.Shelf Go.Lib
theorem prSort_any (blk cap : Nat) (d : Array Prr) (w : World) (hH : HoldsK Prr.cs 19 w blk 0 d) (hblk : blk < w.heap.size) (hsz : d.size < 4611686018427387904) :
  Calls Tryz.prog 99 #[.slice (some ⟨blk, 0, none⟩) d.size cap, .func (.func 100) #[] #[]] w fun e w' =>
   e = .returned (.tuple #[]) ∧ ∃ d', PermIn 0 d.size d d' ∧ SWK Prr.cs 19 w blk 0 d' w' := by
 refine (AnyQ.slices_SortFunc prLays 19 Tryz.isAgg121 Tryz.sizeOf121 Prr.cs (fun _ => rfl) Prr.cs_one prCf swo_pr 100 #[] blk 0 cap d w (enters_of Tryz.func100 (by kernel_rfl) rfl) ?_ hH hblk hsz).mono ?_
 ·intro m os dk _ x y
  exact prCmp_any x y _
 ·rintro e w' ⟨rfl, d', n, os, h1, _, h3⟩
  exact ⟨rfl, d', h1, n, os, h3⟩
set_option maxRecDepth 100000 in
set_option maxHeartbeats 2000000 in
theorem prIns_nil (w : World) : Calls Tryz.prog 182 #[.slice none 0 0, .int .i64 0, .int .i64 0, .func (.func 100) #[] #[]] w fun e w' => e = .returned (.tuple #[]) ∧ Same w w' := by
 go_enter Tryz.func182, Tryz.ntmps182
 go_wp2
 refine wp_loop_rounds 1 ?_
 rw [rounds_succ]
 go_wp2
 go_end0
 exact ⟨rfl, (by repeat with_reducible first | exact Keep.refl _ _ | refine Keep.alloc ?_ _ | refine Keep.drew ?_ | refine Keep.drewN ?_ _ | refine Keep.trans ?_ (by assumption))⟩
end Go.Tm
namespace Go.Tm
open Go.RowKit Go.Proofs
def formsW (b : Nat) : Array MapEntry := #[{ key := .int .i64 1, val := .func (.func 251) #[.pointer (some ⟨b, 0, none⟩)] #[], born := 0 }, { key := .int .i64 2, val := .func (.func 252) #[.pointer (some ⟨b, 0, none⟩)] #[], born := 1 }, { key := .int .i64 3, val := .func (.func 253) #[.pointer (some ⟨b, 0, none⟩)] #[], born := 2 }, { key := .int .i64 4, val := .func (.func 254) #[.pointer (some ⟨b, 0, none⟩)] #[], born := 3 }, { key := .int .i64 5, val := .func (.func 255) #[.pointer (some ⟨b, 0, none⟩)] #[], born := 4 }, { key := .int .i64 6, val := .func (.func 256) #[.pointer (some ⟨b, 0, none⟩)] #[], born := 5 }, { key := .int .i64 7, val := .func (.func 257) #[.pointer (some ⟨b, 0, none⟩)] #[], born := 6 }, { key := .int .i64 8, val := .func (.func 258) #[.pointer (some ⟨b, 0, none⟩)] #[], born := 7 }, { key := .int .i64 9, val := .func (.func 259) #[.pointer (some ⟨b, 0, none⟩)] #[], born := 8 }, { key := .int .i64 10, val := .func (.func 260) #[.pointer (some ⟨b, 0, none⟩)] #[], born := 9 }]
def writeV (b : Nat) (k : Int) : Value := if k = 1 then .func (.func 251) #[.pointer (some ⟨b, 0, none⟩)] #[] else if k = 2 then .func (.func 252) #[.pointer (some ⟨b, 0, none⟩)] #[] else if k = 3 then .func (.func 253) #[.pointer (some ⟨b, 0, none⟩)] #[] else if k = 4 then .func (.func 254) #[.pointer (some ⟨b, 0, none⟩)] #[] else if k = 5 then .func (.func 255) #[.pointer (some ⟨b, 0, none⟩)] #[] else if k = 6 then .func (.func 256) #[.pointer (some ⟨b, 0, none⟩)] #[] else if k = 7 then .func (.func 257) #[.pointer (some ⟨b, 0, none⟩)] #[] else if k = 8 then .func (.func 258) #[.pointer (some ⟨b, 0, none⟩)] #[] else if k = 9 then .func (.func 259) #[.pointer (some ⟨b, 0, none⟩)] #[] else if k = 10 then .func (.func 260) #[.pointer (some ⟨b, 0, none⟩)] #[] else .nilFunc
set_option maxRecDepth 100000 in
set_option maxHeartbeats 4000000 in
theorem wforms_any (b : Nat) (w : World) : Calls Tryz.prog 221 #[.pointer (some ⟨b, 0, none⟩)] w fun e w' => ∃ m, e = .returned (.map (some m)) ∧ w'.heap[m]? = some (.map (formsW b) 10) ∧ Same w w' := by
 go_enter Tryz.func221, Tryz.ntmps221
 go_wp2
 rw [run_makeMap]
 obtain ⟨X, hX⟩ : ∃ X, w.alloc (.map #[] 0) = X := ⟨_, rfl⟩
 have hs : Same w X := by rw [← hX]; exact (by repeat with_reducible first | exact Keep.refl _ _ | refine Keep.alloc ?_ _ | refine Keep.drew ?_ | refine Keep.drewN ?_ _ | refine Keep.trans ?_ (by assumption))
 have hm : X.heap[w.heap.size]? = some (.map ((formsW b).extract 0 0) 0) := by rw [← hX]; exact World.alloc_heap_new w _
 rw [hX]
 clear hX
 go_wp2
 rw [run_mapUpdate_new (d := .int .i64) (.int .i64 1) (.func (.func 251) #[.pointer (some ⟨b, 0, none⟩)] #[]) Tryz.underlying256 Tryz.underlying3 rfl hm (by rfl)]
 generalize hX : World.putObj _ _ _ = X; replace hs : Same w X := by rw [← hX]; exact hs.putObj _ fun o _ _ h => by omega
 replace hm : X.heap[w.heap.size]? = some (.map ((formsW b).extract 0 1) 1) := by rw [← hX]; exact World.putObj_heap_same (lt_of_some hm)
 clear hX
 go_wp2
 rw [run_mapUpdate_new (d := .int .i64) (.int .i64 2) (.func (.func 252) #[.pointer (some ⟨b, 0, none⟩)] #[]) Tryz.underlying256 Tryz.underlying3 rfl hm (by rfl)]
 generalize hX : World.putObj _ _ _ = X; replace hs : Same w X := by rw [← hX]; exact hs.putObj _ fun o _ _ h => by omega
 replace hm : X.heap[w.heap.size]? = some (.map ((formsW b).extract 0 2) 2) := by rw [← hX]; exact World.putObj_heap_same (lt_of_some hm)
 clear hX
 go_wp2
 rw [run_mapUpdate_new (d := .int .i64) (.int .i64 3) (.func (.func 253) #[.pointer (some ⟨b, 0, none⟩)] #[]) Tryz.underlying256 Tryz.underlying3 rfl hm (by rfl)]
 generalize hX : World.putObj _ _ _ = X; replace hs : Same w X := by rw [← hX]; exact hs.putObj _ fun o _ _ h => by omega
 replace hm : X.heap[w.heap.size]? = some (.map ((formsW b).extract 0 3) 3) := by rw [← hX]; exact World.putObj_heap_same (lt_of_some hm)
 clear hX
 go_wp2
 rw [run_mapUpdate_new (d := .int .i64) (.int .i64 4) (.func (.func 254) #[.pointer (some ⟨b, 0, none⟩)] #[]) Tryz.underlying256 Tryz.underlying3 rfl hm (by rfl)]
 generalize hX : World.putObj _ _ _ = X; replace hs : Same w X := by rw [← hX]; exact hs.putObj _ fun o _ _ h => by omega
 replace hm : X.heap[w.heap.size]? = some (.map ((formsW b).extract 0 4) 4) := by rw [← hX]; exact World.putObj_heap_same (lt_of_some hm)
 clear hX
 go_wp2
 rw [run_mapUpdate_new (d := .int .i64) (.int .i64 5) (.func (.func 255) #[.pointer (some ⟨b, 0, none⟩)] #[]) Tryz.underlying256 Tryz.underlying3 rfl hm (by rfl)]
 generalize hX : World.putObj _ _ _ = X; replace hs : Same w X := by rw [← hX]; exact hs.putObj _ fun o _ _ h => by omega
 replace hm : X.heap[w.heap.size]? = some (.map ((formsW b).extract 0 5) 5) := by rw [← hX]; exact World.putObj_heap_same (lt_of_some hm)
 clear hX
 go_wp2
 rw [run_mapUpdate_new (d := .int .i64) (.int .i64 6) (.func (.func 256) #[.pointer (some ⟨b, 0, none⟩)] #[]) Tryz.underlying256 Tryz.underlying3 rfl hm (by rfl)]
 generalize hX : World.putObj _ _ _ = X; replace hs : Same w X := by rw [← hX]; exact hs.putObj _ fun o _ _ h => by omega
 replace hm : X.heap[w.heap.size]? = some (.map ((formsW b).extract 0 6) 6) := by rw [← hX]; exact World.putObj_heap_same (lt_of_some hm)
 clear hX
 go_wp2
 rw [run_mapUpdate_new (d := .int .i64) (.int .i64 7) (.func (.func 257) #[.pointer (some ⟨b, 0, none⟩)] #[]) Tryz.underlying256 Tryz.underlying3 rfl hm (by rfl)]
 generalize hX : World.putObj _ _ _ = X; replace hs : Same w X := by rw [← hX]; exact hs.putObj _ fun o _ _ h => by omega
 replace hm : X.heap[w.heap.size]? = some (.map ((formsW b).extract 0 7) 7) := by rw [← hX]; exact World.putObj_heap_same (lt_of_some hm)
 clear hX
 go_wp2
 rw [run_mapUpdate_new (d := .int .i64) (.int .i64 8) (.func (.func 258) #[.pointer (some ⟨b, 0, none⟩)] #[]) Tryz.underlying256 Tryz.underlying3 rfl hm (by rfl)]
 generalize hX : World.putObj _ _ _ = X; replace hs : Same w X := by rw [← hX]; exact hs.putObj _ fun o _ _ h => by omega
 replace hm : X.heap[w.heap.size]? = some (.map ((formsW b).extract 0 8) 8) := by rw [← hX]; exact World.putObj_heap_same (lt_of_some hm)
 clear hX
 go_wp2
 rw [run_mapUpdate_new (d := .int .i64) (.int .i64 9) (.func (.func 259) #[.pointer (some ⟨b, 0, none⟩)] #[]) Tryz.underlying256 Tryz.underlying3 rfl hm (by rfl)]
 generalize hX : World.putObj _ _ _ = X; replace hs : Same w X := by rw [← hX]; exact hs.putObj _ fun o _ _ h => by omega
 replace hm : X.heap[w.heap.size]? = some (.map ((formsW b).extract 0 9) 9) := by rw [← hX]; exact World.putObj_heap_same (lt_of_some hm)
 clear hX
 go_wp2
 rw [run_mapUpdate_new (d := .int .i64) (.int .i64 10) (.func (.func 260) #[.pointer (some ⟨b, 0, none⟩)] #[]) Tryz.underlying256 Tryz.underlying3 rfl hm (by rfl)]
 generalize hX : World.putObj _ _ _ = X; replace hs : Same w X := by rw [← hX]; exact hs.putObj _ fun o _ _ h => by omega
 replace hm : X.heap[w.heap.size]? = some (.map ((formsW b).extract 0 10) 10) := by rw [← hX]; exact World.putObj_heap_same (lt_of_some hm)
 clear hX
 go_wp2
 go_ret
 exact ⟨_, rfl, hm, hs⟩
theorem lookup_writes (A : World) (b mb : Nat) (k : Int) (hm : A.heap[mb]? = some (.map (formsW b) 10)) (hk : k = 1 ∨ k = 2 ∨ k = 3 ∨ k = 5 ∨ k = 6) :
  (Instr.lookup 256 (.map (some mb)) (.int .i64 k) true).run Tryz.prog A = .ok (.tuple #[writeV b k, .bool true]) A := by
 rcases hk with rfl | rfl | rfl | rfl | rfl
 ·exact run_lookup_ok (d := .int .i64) (i := 0) (v := writeV b 1) (.int .i64 1) Tryz.underlying256 Tryz.underlying3 rfl hm (by rfl) true
 ·exact run_lookup_ok (d := .int .i64) (i := 1) (v := writeV b 2) (.int .i64 2) Tryz.underlying256 Tryz.underlying3 rfl hm (by rfl) true
 ·exact run_lookup_ok (d := .int .i64) (i := 2) (v := writeV b 3) (.int .i64 3) Tryz.underlying256 Tryz.underlying3 rfl hm (by rfl) true
 ·exact run_lookup_ok (d := .int .i64) (i := 4) (v := writeV b 5) (.int .i64 5) Tryz.underlying256 Tryz.underlying3 rfl hm (by rfl) true
 ·exact run_lookup_ok (d := .int .i64) (i := 5) (v := writeV b 6) (.int .i64 6) Tryz.underlying256 Tryz.underlying3 rfl hm (by rfl) true
theorem wnodes_any (p : Value) (a : Option Addr) (n cap : Nat) (w : World) :
  Calls Tryz.prog 222 #[p, .slice a n cap] w fun e w' => e = .returned (.func (.func 261) #[] #[.pointer (some ⟨w.heap.size, 0, none⟩)]) ∧ w' = w.alloc (.cells #[.slice a n cap] 25) := by
 go_enter Tryz.func222, Tryz.ntmps222
 go_wp2
 go_ret
 exact ⟨rfl, rfl⟩
def GivesL (S : Nat → Prop) (l : List Tree) (i : Nat) (v : Array Value) (A : World) : Prop := ∃ (h0 : i < l.length) (lv : Value), v = #[nodeV (l[i]).hd lv] ∧ RepS S A (l[i]).l lv ∧ (l[i]).hd.ok
set_option maxRecDepth 100000 in
set_option maxHeartbeats 4000000 in
theorem wnodes1_iter (S : Nat → Prop) (l : List Tree) (lv : Value) (bx : Nat) (Sb Si : Nat → Obj → Prop) (W : World) (hr : RepS S W l lv) (hbx : Boxed W bx 25 lv) (hSb1 : ∀ c f, Sb bx (.cells c 25 f)) (hSb2 : ∀ b c f, Sb b (.cells c 27 f)) :
  IterAt Tryz.prog 261 #[.pointer (some ⟨bx, 0, none⟩)] l.length (GivesL S l) Sb Si (fun _ => True) (fun _ _ => True) W := by
 rintro lp J Jx hlp hJ hJx hY h0
 obtain ⟨r, hl⟩ := hlp 0 W h0
 have hne := cell_ne_loop hbx.cell hl
 obtain ⟨hlen, a, cap, rfl, hcap, hi⟩ := hr.shape
 have hc0 := hbx.cell
 refine callsIn_of_wp Tryz.func261 rfl trivial ?_ rfl
 simp only [Tryz.ntmps261, List.size_toArray, List.length_cons, List.length_nil, Nat.reduceAdd, Nat.reduceSub, Array.replicate_succ, Array.replicate_zero, List.push_toArray, List.append_toArray, List.nil_append, List.cons_append]
 gi_wp2
 gi_loopw [7] (fun i wr => ∃ k : Nat, k ≤ l.length ∧ i = .int .i64 (k : Int) ∧ J k wr ∧ Keep (fun b o => ∃ c f, o = .cells c 27 f) W wr) (fun i _ => l.length - (RowKit.intOf i).toNat)
 case atStart => exact ⟨0, Nat.zero_le _, rfl, h0, Keep.refl _ _⟩
 case round =>
  obtain ⟨k, hk, rfl, hj, hkk⟩ := hrel
  obtain ⟨r1, hl1⟩ := hlp k wr hj
  clear hc0
  by_cases hlt : k < l.length
  ·obtain ⟨b, off, lv0, rfl, hS0, hb0, hr0, hok0, hra0⟩ := hi k hlt
   obtain ⟨cur, fz, hbk⟩ := hb0
   have ra0 := rangeAt_keep hkk (fun o ho => by rw [hbk] at ho; cases ho; exact ⟨_, _, rfl⟩) hra0
   have hr0' := hr0.keep hkk fun _ _ c f => ⟨c, f, rfl⟩
   obtain ⟨a0, cp0, rfl⟩ := hr0.is_slice
   have hdr : Same wr (wr.alloc (.cells (nodeCs (l[k]).hd (.slice a0 (l[k]).l.length cp0)).toArray 27)) := (Keep.refl _ _).alloc _
   obtain ⟨fn, tmps, assign, body, hy, hR⟩ := hY k _ _ hlt (hJ _ _ _ hj (Keep.of_same hdr)) ⟨hlt, _, rfl, hr0'.same hdr, hok0⟩
   generalize (l[k]).hd = hd0 at ra0 hy hdr hR
   generalize (l[k]).l.length = n0 at ra0 hy hdr hR
   obtain ⟨c0, c1, c2, c3, c4, c5, c6, c7, c8⟩ := nodeAt_of ra0
   have hbn : (wr.alloc (.cells (nodeCs hd0 (.slice a0 n0 cp0)).toArray 27)).heap[wr.heap.size]? = some (.cells (nodeCs hd0 (.slice a0 n0 cp0)).toArray 27 (0, 0)) := World.alloc_heap_new wr _
   obtain ⟨n0, n1, n2, n3, n4, n5, n6, n7, n8⟩ := cells9 hbn
   clear hi hr hbx hr0 hr0' hJ hJx hY
   gi_wp2
   refine hR.mono ?_
   rintro e W3 ⟨hkp, hcase⟩
   have hk3 : Keep (fun b o => ∃ c f, o = .cells c 27 f) W W3 := by
    refine hkk.trans ⟨hkp.os.trans hdr.os, hkp.tape.trans hdr.tape, hkp.output.trans hdr.output, Nat.le_trans hdr.size hkp.size, ?_⟩
    rintro k2 o hb2 ⟨c, f, rfl⟩
    refine hkp.same k2 _ (hdr.same _ _ hb2 trivial) ⟨?_, hSb2 _ _ _⟩
    rintro rfl
    rw [hb2] at hl1; cases hl1
   clear n0 n1 n2 n3 n4 n5 n6 n7 n8 hbn c0 c1 c2 c3 c4 c5 c6 c7 c8 hy hdr hkp
   rcases hcase with ⟨rfl, hj3⟩ | ⟨rfl, hj3⟩
   ·gi_wp2
    exact ⟨⟨k + 1, by omega, by push_cast; rfl, hj3, hk3⟩, by simp [RowKit.intOf]; omega⟩
   ·gi_wp2
    refine bodyPost_ret (results_none rfl _ _ _) rfl ?_
    exact ⟨⟨_, rfl⟩, .inr ⟨k, hlt, hj3, trivial⟩⟩
  ·obtain rfl : k = l.length := by omega
   gi_wp2
   go_end0
   exact ⟨⟨_, rfl⟩, .inl ⟨hj, trivial⟩⟩
end Go.Tm
namespace Go.Tm
open Go.RowKit Go.Proofs
abbrev BldT (T : TypeId) (B b : Nat) (xs : List Nat) (w : World) : Prop := Lib.IsBuilder T 5 B b (byteVals xs) w
def LiesB (T : TypeId) : Prop := T ≠ 5 ∧ liesAt Tryz.prog Tryz.prog.depth T (2 / Tryz.prog.cellsOf T) 0 195 1 = true
set_option maxRecDepth 100000 in
set_option maxHeartbeats 400000 in
theorem copyCheckT_fresh {T : TypeId} (hT : LiesB T) (b : Nat) (w : World) (h0 : w.cell? ⟨b, 0, none⟩ = some (.pointer none)) (hsh : w.shape? b = some (T, 2)) (hfz : w.frozen? ⟨b, 0, none⟩ = false) :
  Calls Tryz.prog 208 #[.pointer (some ⟨b, 0, none⟩)] w fun e w' => e = .returned (.tuple #[]) ∧ w' = w.setCell ⟨b, 0, none⟩ (.pointer (some ⟨b, 0, none⟩)) := by
 obtain ⟨j, hj, hjs⟩ := Option.map_eq_some_iff.1 bld_info
 go_enter Tryz.func208, Tryz.ntmps208
 go_wp2
 rw [Lib.run_to_unsafe w ⟨b, 0, none⟩ Tryz.underlying193 Tryz.underlying281 hj (by rw [hjs]; decide) hsh (Nat.zero_lt_succ 1)]
 simp only [Result.andThen]
 rw [Oper.upon_value]
 go_wp2
 rw [run_callFunc_extern Tryz.func239 (by kernel_rfl) (by kernel_rfl) (by kernel_rfl) (e := Extern.AbiNoEscape.same) (by kernel_rfl)]
 rw [Lib.run_noEscape]
 simp only [Result.andThen]
 rw [Oper.upon_value]
 go_wp2
 rw [Lib.run_from_unsafe w ⟨b, 0, none⟩ Tryz.underlying281 Tryz.underlying193 hj hsh hT.2]
 simp only [Result.andThen]
 rw [Oper.upon_value]
 go_wp2
 go_end0
 exact ⟨rfl, rfl⟩
theorem copyCheckT_any {T : TypeId} (hT : LiesB T) (B b : Nat) (xs : List Nat) (w : World) (h : BldT T B b xs w) :
  Calls Tryz.prog 208 #[.pointer (some ⟨b, 0, none⟩)] w fun e w' => e = .returned (.tuple #[]) ∧ Lib.BuilderAt T 5 B b (.pointer (some ⟨b, 0, none⟩)) (byteVals xs) w' ∧ Keep (fun k _ => k ≠ b) w w' := by
 rcases h with h | h
 ·refine (copyCheckT_fresh hT b w h.cell0 h.shape h.frozen0).mono ?_
  rintro e w' ⟨rfl, rfl⟩
  exact ⟨rfl, h.used _, (Keep.refl _ w).setCell _ fun o _ h _ => h rfl⟩
 ·refine (copyCheck_used b w h.cell0).mono ?_
  rintro e w' ⟨rfl, rfl⟩
  exact ⟨rfl, h, Keep.refl _ _⟩
set_option maxRecDepth 100000 in
set_option maxHeartbeats 800000 in
theorem writeByteT_any {T : TypeId} (hT : LiesB T) (B b c : Nat) (xs : List Nat) (w : World) (h : BldT T B b xs w) (hlen : xs.length + 1 ≤ 140737488355328) (hBw : B ≤ w.heap.size) :
  Calls Tryz.prog 159 #[.pointer (some ⟨b, 0, none⟩), .int .u8 c] w fun e w' => e = .returned .nilIface ∧ BldT T B b (xs ++ [c]) w' ∧ Keep (BldS B b) w w' := by
 obtain ⟨i0, hi, hz0, hz1, hz2⟩ := info_parts byte_info
 go_enter Tryz.func159, Tryz.ntmps159
 go_wp2_with (go_at_call 208; refine (copyCheckT_any hT B b xs _ h).mono ?_)
 rintro e w1 ⟨rfl, h1, hk1⟩
 obtain ⟨hB, v, hbk, hown, hne⟩ := h1
 have c0 : w1.cell? ⟨b, 0, none⟩ = some (.pointer (some ⟨b, 0, none⟩)) := by rw [Lib.cell_of_heap hbk]; rfl
 have c1 : w1.cell? ⟨b, 1, none⟩ = some v := by rw [Lib.cell_of_heap hbk]; rfl
 go_wp2_with (at_builtin; refine wpList_append_own _ rfl _ _ 138 rfl B 5 i0 (.int .u8 0) 1 1 Tryz.underlying138 hi hz0 hz1 hz2 rfl (by decide) _ _ _ rfl (hown.alloc _) ⟨w1.heap.size, 0, none⟩ 1 1 [.int .u8 c] rfl rfl ?c1 ?c2 ?c3 ?c4 ?c5 ?_)
 case c1 =>
  intro j u hj
  match j, hj with
  | 0, hj => simp at hj; subst hj; simp [Addr.add]
 case c2 => intro u hu; simp at hu; subst hu; rfl
 case c3 => have := byteVals_length xs; unfold maxLen; omega
 case c4 => have := byteVals_length xs; omega
 case c5 => have := hk1.size; simp; omega
 intro v' w2 hown' hgrow _
 have hlt : b < w1.heap.size := lt_of_some hbk
 have hb2 : w2.heap[b]? = some (.cells #[.pointer (some ⟨b, 0, none⟩), v] T (0, 0)) := by
  rw [hgrow.block b (by simp; omega) (fun e => hne e.symm), Lib.alloc_old w1 _ b hlt]
  exact hbk
 have d0 : w2.cell? ⟨b, 0, none⟩ = some (.pointer (some ⟨b, 0, none⟩)) := by rw [Lib.cell_of_heap hb2]; rfl
 have d1 : w2.cell? ⟨b, 1, none⟩ = some v := by rw [Lib.cell_of_heap hb2]; rfl
 have f1 : w2.frozen? ⟨b, 1, none⟩ = false := Lib.frozen_of_heap hb2 1
 obtain ⟨g, cap, rfl⟩ : ∃ g cap, v' = .slice (some ⟨g, 0, none⟩) ((byteVals xs).length + 1) cap := by
  rcases hown'.2 with ⟨_, h0⟩ | ⟨g, cap, cur, hv, _⟩
  ·omega
  ·exact ⟨g, cap, hv⟩
 go_wp2
 go_ret
 refine ⟨rfl, .inr ?_, ?_⟩
 ·rw [byteVals_snoc]
  exact Lib.BuilderAt.put (T := T) (e := 5) hB hb2 (bs' := byteVals xs ++ [.int .u8 c]) (by simpa using hown') hT.1
 ·exact bld_kept hk1 hgrow hown
set_option maxRecDepth 100000 in
set_option maxHeartbeats 800000 in
theorem writeStringT_any {T : TypeId} (hT : LiesB T) (B b : Nat) (s : ByteArray) (xs : List Nat) (w : World) (h : BldT T B b xs w) (hlen : xs.length + s.size ≤ 140737488355328) (hBw : B ≤ w.heap.size) :
  Calls Tryz.prog 160 #[.pointer (some ⟨b, 0, none⟩), .string s] w fun e w' => (∃ v, e = .returned v) ∧ BldT T B b (xs ++ bytesN s) w' ∧ Keep (BldS B b) w w' := by
 obtain ⟨i0, hi, hz0, hz1, hz2⟩ := info_parts byte_info
 have hbl := byteVals_length xs
 go_enter Tryz.func160, Tryz.ntmps160
 go_wp2_with (go_at_call 208; refine (copyCheckT_any hT B b xs _ h).mono ?_)
 rintro e w1 ⟨rfl, h1, hk1⟩
 obtain ⟨hB, v, hbk, hown, hne⟩ := h1
 have c0 : w1.cell? ⟨b, 0, none⟩ = some (.pointer (some ⟨b, 0, none⟩)) := by rw [Lib.cell_of_heap hbk]; rfl
 have c1 : w1.cell? ⟨b, 1, none⟩ = some v := by rw [Lib.cell_of_heap hbk]; rfl
 go_wp2_with (at_builtin; refine Lib.wpList_append_own_string _ rfl _ _ 138 9 rfl B 5 i0 Tryz.underlying138 Tryz.underlying9 hi hz0 hz1 hz2 _ _ _ rfl hown s rfl ?c3 ?c4 ?c5 ?_)
 case c3 => unfold maxLen; omega
 case c4 => omega
 case c5 => have := hk1.size; omega
 intro v' w2 hown' hgrow _
 have hlt : b < w1.heap.size := lt_of_some hbk
 have hb2 : w2.heap[b]? = some (.cells #[.pointer (some ⟨b, 0, none⟩), v] T (0, 0)) := by
  rw [hgrow.block b hlt (fun e => hne e.symm)]
  exact hbk
 have d0 : w2.cell? ⟨b, 0, none⟩ = some (.pointer (some ⟨b, 0, none⟩)) := by rw [Lib.cell_of_heap hb2]; rfl
 have d1 : w2.cell? ⟨b, 1, none⟩ = some v := by rw [Lib.cell_of_heap hb2]; rfl
 have f1 : w2.frozen? ⟨b, 1, none⟩ = false := Lib.frozen_of_heap hb2 1
 obtain ⟨ao, n', cap, rfl⟩ : ∃ ao n' cap, v' = .slice ao n' cap := by
  rcases hown'.2 with ⟨hv, _⟩ | ⟨g, cap, cur, hv, _⟩
  ·exact ⟨_, _, _, hv⟩
  ·exact ⟨_, _, _, hv⟩
 go_wp2
 go_ret2
 refine ⟨⟨_, rfl⟩, .inr ?_, ?_⟩
 ·rw [byteVals_append, ← strCells_bytes]
  exact Lib.BuilderAt.put (T := T) (e := 5) hB hb2 (bs' := byteVals xs ++ Lib.strCells s) (by simpa [Lib.strCells_length, hbl] using hown') hT.1
 ·exact bld_keptS hk1 hgrow hown
set_option maxRecDepth 100000 in
set_option maxHeartbeats 1000000 in
theorem bldStringT_any (T : TypeId) (B b : Nat) (xs : List Nat) (w : World) (h : BldT T B b xs w) (hx : ∀ x ∈ xs, x < 256) (h0 : xs ≠ []) :
  Calls Tryz.prog 162 #[.pointer (some ⟨b, 0, none⟩)] w fun e w' => e = .returned (.string (strN xs)) ∧ Keep (fun k o => k < B ∨ (k ≠ b ∧ ∀ c f, o ≠ .cells c 5 f)) w w' := by
 obtain ⟨p, hAt⟩ : ∃ p, Lib.BuilderAt T 5 B b p (byteVals xs) w := by
  rcases h with h | h
  ·exact ⟨_, h⟩
  ·exact ⟨_, h⟩
 obtain ⟨hB, v, hbk, hown, hne⟩ := hAt
 have hl0 : xs.length ≠ 0 := by simpa using h0
 have hbl := byteVals_length xs
 rw [hbl] at hown
 obtain ⟨g, cap, cur, rfl, hbg, hg, hnc, hcm, hcs, htake⟩ : ∃ g cap cur, v = .slice (some ⟨g, 0, none⟩) xs.length cap ∧ B ≤ g ∧ w.heap[g]? = some (.cells cur 5 (0, 0)) ∧ xs.length ≤ cap ∧ cap ≤ maxLen ∧ cur.size = cap * 1 ∧ cur.toList.take (xs.length * 1) = byteVals xs := by
  rcases hown.2 with ⟨_, hz⟩ | ⟨g, cap, cur, hv, r⟩
  ·exact absurd hz hl0
  ·exact ⟨g, cap, cur, hv, r⟩
 have c1 : w.drew.cell? ⟨b, 1, none⟩ = some (.slice (some ⟨g, 0, none⟩) xs.length cap) := by
  have : w.drew.heap[b]? = some (.cells #[p, .slice (some ⟨g, 0, none⟩) xs.length cap] T (0, 0)) := hbk
  rw [Lib.cell_of_heap this]; rfl
 have hll : (xs.map UInt8.ofNat).length = xs.length := List.length_map _
 have hSD : (Builtin.unsafeSliceData_ #[138] 242 #[.slice (some ⟨g, 0, none⟩) xs.length cap]).run Tryz.prog w.drew = .ok (.pointer (some ⟨g, 0, none⟩)) w.drew :=
  Lib.run_unsafeSliceData_row _ _ _ _ _ _ (by omega)
 have hUS : (Builtin.unsafeString_ #[242, 3] 9 #[.pointer (some ⟨g, 0, none⟩), .int .i64 xs.length]).run Tryz.prog w.drew = .ok (.string (strN xs)) (w.drew.freeze ⟨g, 0, none⟩ xs.length) := by
  have := Lib.run_unsafeString_row w.drew 242 3 9 5 Tryz.underlying242 (by kernel_rfl) g cur.size (by have hg' : w.drew.heap[g]? = some (.cells cur 5 (0, 0)) := hg; simp [World.shape?, hg']) (xs.map UInt8.ofNat) (by simpa using h0) (by rw [hll]; omega) (by rw [hll]; unfold maxLen at hcm; omega) (by
   intro j x hxj
   have := hown.cells (g := g) rfl j (.int .u8 x.toNat) (by rw [byteVals_cells xs hx]; unfold Lib.byteCells; rw [List.getElem?_map, hxj]; rfl)
   exact this)
  rw [hll] at this
  exact this
 have hfr : Keep (fun k o => k < B ∨ (k ≠ b ∧ ∀ c f, o ≠ .cells c 5 f)) w (w.drew.freeze ⟨g, 0, none⟩ xs.length) := by
  have h1 := Lib.below_freeze (Below.drew (Below.refl B w)) (p := ⟨g, 0, none⟩) hbg xs.length
  have h2 := ((Lib.OthersKept.refl 5 (some b) w).drew).freeze ⟨g, 0, none⟩ xs.length ⟨cur, _, hg⟩
  refine ⟨h1.os, h1.tape, h1.output, h1.size, fun k o hk hs => ?_⟩
  rcases hs with hs | ⟨h3, h4⟩
  ·exact (h1.block k hs).trans hk
  ·exact h2 k o hk (by simpa using h3) h4
 clear hg hcs htake hown hbk
 have mixed : Tryz.prog.follows .mixedOrders = true := by kernel_rfl
 go_enter Tryz.func162, Tryz.ntmps162
 go_wp2
 go_region_o
 all_goals (go_wp2; go_ret; exact ⟨rfl, hfr⟩)
end Go.Tm
namespace Go.Tm
open Go.RowKit Go.Proofs
def z4 (i : Nat) : Nat × Nat := if i = 0 then (24, 1) else if i = 1 then (25, 2) else if i = 2 then (26, 4) else (27, 8)
abbrev sizeC (f : Nat × Nat) : Array Value := #[.int .i64 f.1, .int .i64 f.2]
abbrev sizesV : Value := .agg #[.int .i64 24, .int .i64 1, .int .i64 25, .int .i64 2, .int .i64 26, .int .i64 4, .int .i64 27, .int .i64 8]
def fitAt (a : Nat) : Nat := if a < 256 then 0 else if a < 65536 then 1 else if a < 4294967296 then 2 else 3
def leastZ (a : Nat) : Nat × Nat := if a < 24 then (a, 0) else z4 (fitAt a)
set_option maxRecDepth 100000 in
theorem sizes_any (w : World) : Calls Tryz.prog 299 #[] w fun e w' => e = .returned sizesV ∧ Same w w' := by
 go_enter Tryz.func299, Tryz.ntmps299
 go_wp2
 refine bodyPost_ret (results_cell_row rfl _ _ w.heap.size 339 _ (0, 0) _ rfl (heap_alloc_last _ _) Tryz.underlying339 rfl (by kernel_rfl)) rfl ⟨rfl, (by repeat with_reducible first | exact Keep.refl _ _ | refine Keep.alloc ?_ _ | refine Keep.drew ?_ | refine Keep.drewN ?_ _ | refine Keep.trans ?_ (by assumption))⟩
theorem zdx0 (w : World) : (Instr.index 339 sizesV (.int .i64 0)).run Tryz.prog w = .ok (.agg #[.int .i64 24, .int .i64 1]) w := by kernel_rfl
theorem zdx1 (w : World) : (Instr.index 339 sizesV (.int .i64 1)).run Tryz.prog w = .ok (.agg #[.int .i64 25, .int .i64 2]) w := by kernel_rfl
theorem zdx2 (w : World) : (Instr.index 339 sizesV (.int .i64 2)).run Tryz.prog w = .ok (.agg #[.int .i64 26, .int .i64 4]) w := by kernel_rfl
theorem zdx3 (w : World) : (Instr.index 339 sizesV (.int .i64 3)).run Tryz.prog w = .ok (.agg #[.int .i64 27, .int .i64 8]) w := by kernel_rfl
theorem zdx (i : Nat) (hi : i < 4) (w : World) : (Instr.index 339 sizesV (.int .i64 (i : Int))).run Tryz.prog w = .ok (.agg (sizeC (z4 i))) w := by
 obtain rfl | rfl | rfl | rfl : i = 0 ∨ i = 1 ∨ i = 2 ∨ i = 3 := by omega
 ·exact zdx0 w
 ·exact zdx1 w
 ·exact zdx2 w
 ·exact zdx3 w
set_option maxRecDepth 100000 in
set_option maxHeartbeats 2000000 in
theorem fitting1_iter (a bx : Nat) (Sb Si : Nat → Obj → Prop) (W : World) (ha : a < 18446744073709551616) (hbx : Boxed W bx 24 (.int .u64 a)) (hSb : ∀ c f, Sb bx (.cells c 24 f)) :
  IterAt Tryz.prog 298 #[.pointer (some ⟨bx, 0, none⟩)] (4 - fitAt a) (fun i v _ => v = #[.agg (sizeC (z4 (fitAt a + i)))]) Sb Si (fun _ => True) (fun _ _ => True) W := by
 rintro l J Jx hlp hJ hJx hY h0
 obtain ⟨r, hl⟩ := hlp 0 W h0
 have hne := cell_ne_loop hbx.cell hl
 have hzdx := zdx
 have hfa : fitAt a ≤ 3 := by unfold fitAt; repeat' (split <;> try omega)
 refine callsIn_of_wp Tryz.func298 rfl trivial ?_ rfl
 simp only [Tryz.ntmps298, List.size_toArray, List.length_cons, List.length_nil, Nat.reduceAdd, Nat.reduceSub, Array.replicate_succ, Array.replicate_zero, List.push_toArray, List.append_toArray, List.nil_append, List.cons_append]
 gi_wp2_with (gi_at_call 299; refine (callsW (sizes_any _)).mono ?_; rintro e w1 ⟨rfl, hk1⟩)
 gi_loopw [6] (fun iv wr => ∃ k : Nat, k ≤ 4 ∧ iv = .int .i64 (k : Int) ∧ J (k - fitAt a) wr ∧ Boxed wr bx 24 (.int .u64 a)) (fun iv _ => 4 - (RowKit.intOf iv).toNat)
 case atStart => exact ⟨0, by omega, rfl, by rw [Nat.zero_sub]; exact hJ _ _ _ h0 (Keep.of_same hk1), hk1.boxed hbx trivial⟩
 case round =>
  obtain ⟨k, hk, rfl, hj, hb⟩ := hrel
  by_cases hlt : k < 4
  ·have hi := hzdx k hlt
   have hbn : Boxed (wr.alloc (.cells (sizeC (z4 k)) 331)) bx 24 (.int .u64 a) := heap_old hb
   have c0 := hbn.cell
   have hbz : (wr.alloc (.cells (sizeC (z4 k)) 331)).heap[wr.heap.size]? = some (.cells (sizeC (z4 k)) 331 (0, 0)) := World.alloc_heap_new wr _
   have hja : J (k - fitAt a) (wr.alloc (.cells (sizeC (z4 k)) 331)) := hJ _ _ _ hj (Keep.of_same ((Keep.refl _ _).alloc _))
   obtain ⟨⟨zi, zb⟩, hz⟩ : ∃ z, z4 k = z := ⟨_, rfl⟩
   have hfit : k < fitAt a ↔ (zb < 8 ∧ a >>> (8 * zb) ≠ 0) := by
    rw [Nat.shiftRight_eq_div_pow]
    obtain rfl | rfl | rfl | rfl : k = 0 ∨ k = 1 ∨ k = 2 ∨ k = 3 := by omega
    all_goals
     cases hz
     unfold fitAt
     simp only [Nat.reduceMul, Nat.reducePow]
     repeat' split
     all_goals omega
   have hzb : zb ≤ 8 := by
    obtain rfl | rfl | rfl | rfl : k = 0 ∨ k = 1 ∨ k = 2 ∨ k = 3 := by omega
    all_goals
     cases hz
     decide
   have HZ := Lib.hid hz
   have HF := Lib.hid hfit
   rw [hz] at hi hbn c0 hbz hja
   replace hi : ∀ w : World, (Instr.index 339 sizesV (.int .i64 (k : Int))).run Tryz.prog w = .ok (.agg #[.int .i64 (zi : Int), .int .i64 (zb : Int)]) w := hi
   replace hbz : (wr.alloc (.cells #[.int .i64 (zi : Int), .int .i64 (zb : Int)] 331)).heap[wr.heap.size]? = some (.cells #[.int .i64 (zi : Int), .int .i64 (zb : Int)] 331 (0, 0)) := hbz
   replace c0 : (wr.alloc (.cells #[.int .i64 (zi : Int), .int .i64 (zb : Int)] 331)).cell? ⟨bx, 0, none⟩ = some (.int .u64 (a : Int)) := c0
   clear hzdx
   clear hz hfit
   obtain ⟨e0, e1⟩ := cells2 hbz
   have e5 : ((a : Int) / 2 ^ (8 * zb)) = ((a >>> (8 * zb) : Nat) : Int) := shr_nat a (8 * zb)
   obtain ⟨sv, hsv⟩ : ∃ sv, a >>> (8 * zb) = sv := ⟨_, rfl⟩
   rw [hsv] at e5 HF
   have hc0 : ((0 : Int) ≤ (k : Int)) := by omega
   by_cases hkf : k < fitAt a
   ·obtain ⟨h8, hsh⟩ := HF.out.1 hkf
    have h9 : ((zb : Nat) : Int) < 8 := by omega
    have hj2 : J (k + 1 - fitAt a) (wr.alloc (.cells #[.int .i64 (zi : Int), .int .i64 (zb : Int)] 331)) := by rw [show k + 1 - fitAt a = k - fitAt a by omega]; exact hja
    have hb2 : Boxed (wr.alloc (.cells #[.int .i64 (zi : Int), .int .i64 (zb : Int)] 331)) bx 24 (.int .u64 a) := hbn
    have e6 : ((sv : Int) != 0) = true := by simp; omega
    rw [← e5] at e6
    clear HF HZ hY hJ hJx hlp e5 hsv hbn hja
    gi_wp2
    exact ⟨⟨k + 1, by omega, by push_cast; rfl, hj2, hb2⟩, by simp [RowKit.intOf]; omega⟩
   ·have hY2 := hY (k - fitAt a) #[.agg (sizeC (zi, zb))] (wr.alloc (.cells (sizeC (zi, zb)) 331)) (by omega) hja (by rw [show fitAt a + (k - fitAt a) = k by omega, HZ.out])
    have hnz : ¬ (zb < 8 ∧ sv ≠ 0) := fun h => hkf (HF.out.2 h)
    have hb2 : Boxed (wr.alloc (.cells #[.int .i64 (zi : Int), .int .i64 (zb : Int)] 331)) bx 24 (.int .u64 a) := hbn
    have hlt2 : k - fitAt a < 4 - fitAt a := by omega
    have hsb := hSb
    obtain ⟨fn, tmps, assign, body, hy, hR⟩ := hY2
    have hkk : k + 1 - fitAt a = k - fitAt a + 1 := by omega
    have fin : ∀ W3, J (k - fitAt a + 1) W3 → J (k + 1 - fitAt a) W3 := fun W3 h => by rw [hkk]; exact h
    by_cases h8 : zb < 8
    ·have hsv0 : sv = 0 := by
      by_cases h0 : sv = 0
      ·exact h0
      ·exact absurd ⟨h8, h0⟩ hnz
     have h9 : ((zb : Nat) : Int) < 8 := by omega
     have e6 : ((sv : Int) != 0) = false := by simp; omega
     rw [← e5] at e6
     clear HF HZ hY e5 hsv hbn hkk hnz
     gi_wp2
     refine hR.mono ?_
     rintro e W3 ⟨hkp, (⟨rfl, hj3⟩ | ⟨rfl, hj3⟩)⟩
     ·have hb3 := hkp.boxed hb2 ⟨hne, hsb _ _⟩
      gi_wp2
      exact ⟨⟨k + 1, by omega, by push_cast; rfl, fin _ hj3, hb3⟩, by simp [RowKit.intOf]; omega⟩
     ·gi_wp2
      refine bodyPost_ret (results_none rfl _ _ _) rfl ?_
      exact ⟨⟨_, rfl⟩, .inr ⟨k - fitAt a, hlt2, hj3, trivial⟩⟩
    ·have h9 : ¬ (((zb : Nat) : Int) < 8) := by omega
     clear HF HZ hY e5 hsv hbn hkk hnz
     gi_wp2
     refine hR.mono ?_
     rintro e W3 ⟨hkp, (⟨rfl, hj3⟩ | ⟨rfl, hj3⟩)⟩
     ·have hb3 := hkp.boxed hb2 ⟨hne, hsb _ _⟩
      gi_wp2
      exact ⟨⟨k + 1, by omega, by push_cast; rfl, fin _ hj3, hb3⟩, by simp [RowKit.intOf]; omega⟩
     ·gi_wp2
      refine bodyPost_ret (results_none rfl _ _ _) rfl ?_
      exact ⟨⟨_, rfl⟩, .inr ⟨k - fitAt a, hlt2, hj3, trivial⟩⟩
  ·obtain rfl : k = 4 := by omega
   gi_wp2
   go_end0
   exact ⟨⟨_, rfl⟩, .inl ⟨hj, trivial⟩⟩
set_option maxRecDepth 100000 in
theorem fitting_any (a : Nat) (w : World) : Calls Tryz.prog 297 #[.int .u64 a] w fun e w' => e = .returned (.func (.func 298) #[] #[.pointer (some ⟨w.heap.size, 0, none⟩)]) ∧ w' = w.alloc (.cells #[.int .u64 a] 24) := by
 go_enter Tryz.func297, Tryz.ntmps297
 go_wp2
 go_ret
 exact ⟨rfl, rfl⟩
end Go.Tm
namespace Go.Tm
open Go.RowKit Go.Proofs
theorem z4_cases (i : Nat) : z4 i = (24, 1) ∨ z4 i = (25, 2) ∨ z4 i = (26, 4) ∨ z4 i = (27, 8) := by
 unfold z4
 by_cases h0 : i = 0
 ·rw [if_pos h0]; exact .inl rfl
 ·by_cases h1 : i = 1
  ·rw [if_neg h0, if_pos h1]; exact .inr (.inl rfl)
  ·by_cases h2 : i = 2
   ·rw [if_neg h0, if_neg h1, if_pos h2]; exact .inr (.inr (.inl rfl))
   ·rw [if_neg h0, if_neg h1, if_neg h2]; exact .inr (.inr (.inr rfl))
set_option maxRecDepth 100000 in
set_option maxHeartbeats 2000000 in
theorem leastZ_any (a : Nat) (w : World) (ha : a < 18446744073709551616) : Calls Tryz.prog 294 #[.int .u64 a] w fun e w' => e = .returned (.agg (sizeC (leastZ a))) ∧ Same w w' := by
 by_cases h24 : a < 24
 ·have hz : leastZ a = (a, 0) := by unfold leastZ; rw [if_pos h24]
  rw [hz]
  have h1 : (a : Int) < 24 := by omega
  refine (callsIn_wide (n := 0)).1 ?_
  refine callsIn_of_wp Tryz.func294 rfl trivial ?_ rfl
  simp only [Tryz.ntmps294, List.size_toArray, List.length_cons, List.length_nil, Nat.reduceAdd, Nat.reduceSub, Array.replicate_succ, Array.replicate_zero, List.push_toArray, List.append_toArray, List.nil_append, List.cons_append]
  gi_wp2
  refine wpIn_scope ?_
  gi_wp2
  (try simp only [Exit.noGoto])
  refine bodyPost_ret (results_cell_row rfl _ _ w.heap.size 331 _ (0, 0) _ rfl (heap_old (World.alloc_heap_new w _)) Tryz.underlying331 rfl (by kernel_rfl)) rfl ⟨rfl, (by repeat with_reducible first | exact Keep.refl _ _ | refine Keep.alloc ?_ _ | refine Keep.drew ?_ | refine Keep.drewN ?_ _ | refine Keep.trans ?_ (by assumption))⟩
 ·have h1 : ¬ ((a : Int) < 24) := by omega
  have hz : leastZ a = z4 (fitAt a) := by unfold leastZ; rw [if_neg h24]
  obtain ⟨⟨zi, zb⟩, hf⟩ : ∃ f, z4 (fitAt a) = f := ⟨_, rfl⟩
  rw [hz, hf]
  have HF := Lib.hid hf
  clear hf hz
  have hfa : fitAt a ≤ 3 := by unfold fitAt; repeat' (split <;> try omega)
  refine (callsIn_wide (n := 0)).1 ?_
  refine callsIn_of_wp_marks Tryz.func294 rfl trivial ?_ rfl
  simp only [Tryz.ntmps294, List.size_toArray, List.length_cons, List.length_nil, Nat.reduceAdd, Nat.reduceSub, Array.replicate_succ, Array.replicate_zero, List.push_toArray, List.append_toArray, List.nil_append, List.cons_append]
  gi_wp2
  refine wpIn_scope ?_
  gi_wp2
  refine wpIn_label ?_
  gi_wp2_with (gi_at_call 297; refine (callsW (fitting_any a _)).mono ?_; rintro e w' ⟨rfl, h9⟩; replace h9 := h9.symm; subst h9)
  obtain ⟨wa, hwa⟩ : ∃ wa, wrap64 (a : Int) = wa := ⟨_, rfl⟩
  rw [show decide ((a : Int) < 24) = false from decide_eq_false (by omega), hwa]
  clear hwa
  generalize hW1 : World.alloc _ (.cells #[.int .u64 (a : Int)] 24) = W1
  have hz1 : W1.heap.size = w.heap.size + 3 := by rw [← hW1]; simp
  have hk1 : Same w W1 := by rw [← hW1]; exact (by repeat with_reducible first | exact Keep.refl _ _ | refine Keep.alloc ?_ _ | refine Keep.drew ?_ | refine Keep.drewN ?_ _ | refine Keep.trans ?_ (by assumption))
  have b0 : W1.heap[w.heap.size]? = some (.cells #[.int .i64 0, .int .i64 0] 331 (0, 0)) := by rw [← hW1]; exact heap_old (heap_old (World.alloc_heap_new w _))
  have b1 : W1.heap[w.heap.size + 1]? = some (.cells #[.int .i64 wa, .int .i64 0] 331 (0, 0)) := by rw [← hW1]; exact heap_old (heap_new' (by simp))
  have b2 : Boxed W1 (w.heap.size + 1 + 1) 24 (.int .u64 a) := by rw [← hW1]; exact heap_new' (by simp)
  clear hW1
  refine wp_range (gf := 298) (lb := #[.pointer (some ⟨w.heap.size + 1 + 1, 0, none⟩)])
   rfl (enters_of Tryz.func298 (by kernel_rfl) rfl) (4 - fitAt a) (fun i v _ => v = #[.agg (sizeC (z4 (fitAt a + i)))]) (fun b o => b ≠ w.heap.size + 1) (fun _ _ => True)
   (fun _ => True) (fun _ _ => True) (fun W2 hs2 _ => fitting1_iter a _ _ _ W2 ha (hs2.boxed b2 trivial) (fun c f => by omega)) ?hSb (fun _ _ _ _ _ => trivial)
   (fun i A => i = 0 ∧ A.heap[w.heap.size]? = some (.cells #[.int .i64 0, .int .i64 0] 331 (0, 0)) ∧ A.heap[w.heap.size + 1]? = some (.cells #[.int .i64 wa, .int .i64 0] 331 (0, 0)))
   (fun i c A => c = .exit 0 ∧ A.heap[w.heap.size]? = some (.cells #[.int .i64 0, .int .i64 0] 331 (0, 0)) ∧ A.heap[w.heap.size + 1]? = some (.cells (sizeC (zi, zb)) 331 (0, 0)))
   ?hI ?hIx (fun _ _ _ _ h _ => h) (fun _ _ _ _ => trivial) (fun _ _ _ _ _ => trivial) (fun i v A h => by rw [h]; rfl) ⟨rfl, b0, b1⟩
   (fun i v a' A => ∃ bx, A.heap[bx]? = some (.cells (sizeC (z4 (fitAt a + i))) 331 (0, 0)) ∧ a' = { tmps := #[.int .u64 a, undef, .pointer (some ⟨w.heap.size, 0, none⟩), .pointer (some ⟨w.heap.size + 1, 0, none⟩), .pointer (some ⟨bx, 0, none⟩), .int .u64 a, .int .i64 wa, .agg #[.int .i64 wa, .int .i64 0], .int .u64 a, .bool false, undef, .int .u64 a, .func (.func 298) #[] #[.pointer (some ⟨w.heap.size + 1 + 1, 0, none⟩)], .agg (sizeC (z4 (fitAt a + i))), undef, undef], defers := [] }) ?hAx ?hassign ?hbody ?hdone ?hstop
  case hSb => exact fun b o hb ho => by omega
  case hI =>
   rintro i A B ⟨h1, h2, h3⟩ hk
   exact ⟨h1, hk.same _ _ h2 ⟨.inr rfl, trivial⟩, hk.same _ _ h3 ⟨.inr rfl, trivial⟩⟩
  case hIx =>
   rintro i c A B ⟨h0, h1, h3⟩ hk
   exact ⟨h0, hk.same _ _ h1 ⟨.inr rfl, trivial⟩, hk.same _ _ h3 ⟨.inr rfl, trivial⟩⟩
  case hAx =>
   rintro i v a' A B ⟨bx, h1, h2⟩ hk
   exact ⟨bx, hk.same _ _ h1 (.inr rfl), h2⟩
  case hassign =>
   intro l i v A K hi hI' hE' hK
   subst hE'
   obtain ⟨f, hf⟩ : ∃ f, z4 (fitAt a + i) = f := ⟨_, rfl⟩
   rw [hf] at hK ⊢
   gi_wp2
   refine hK _ _ ((Keep.refl _ _).alloc _) ?_ trivial ⟨A.heap.size, World.alloc_heap_new A _, rfl⟩
   obtain ⟨h1, h2, h3⟩ := hI'
   exact ⟨h1, heap_old h2, heap_old h3⟩
  case hbody =>
   rintro l i v a' A hl _ hi ⟨rfl, h2, h3⟩ hv ⟨bx, hbx, rfl⟩
   have hz0 : z4 (fitAt a + 0) = (zi, zb) := HF.out
   rw [hz0] at hbx ⊢
   obtain ⟨e0, e1⟩ := cells2 hbx
   obtain ⟨d0, d1⟩ := cells2 h3
   have hfz : ∀ j, A.frozen? ⟨w.heap.size + 1, j, none⟩ = false := Lib.frozen_of_heap h3
   gi_wp2
   have k1 : Keep (fun b _ => b ≠ w.heap.size + 1) A ((A.setCell ⟨w.heap.size + 1, 0, none⟩ (.int .i64 (zi : Int))).setCell ⟨w.heap.size + 1, 1, none⟩ (.int .i64 (zb : Int))) := ((Keep.refl _ A).setCell _ fun o _ hs _ => hs rfl).setCell _ fun o _ hs _ => hs rfl
   exact ⟨k1, rfl, k1.same _ _ h2 (by omega), setCell_heap (setCell_heap h3 0 _) 1 _⟩
  case hdone =>
   rintro D A hD ⟨h1, h2, h3⟩ _ hk hDB
   omega
  case hstop =>
   rintro D i c A hD hi ⟨rfl, h2, h3⟩ _ hk hDB
   have hkA : Same w A := ⟨hk.os.trans hk1.os, hk.tape.trans hk1.tape, hk.output.trans hk1.output, Nat.le_trans hk1.size hk.size, fun b o hb _ => hk.same b o (hk1.same b o hb trivial) ⟨by have := lt_of_some hb; omega, trivial⟩⟩
   obtain ⟨e0, e1⟩ := cells2 h3
   obtain ⟨d0, d1⟩ := cells2 h2
   have hfz : ∀ j, A.frozen? ⟨w.heap.size, j, none⟩ = false := Lib.frozen_of_heap h2
   gi_wp2
   have k1 : Keep (fun b _ => b ≠ w.heap.size) A ((A.setCell ⟨w.heap.size, 0, none⟩ (.int .i64 (zi : Int))).setCell ⟨w.heap.size, 1, none⟩ (.int .i64 (zb : Int))) := ((Keep.refl _ A).setCell _ fun o _ hs _ => hs rfl).setCell _ fun o _ hs _ => hs rfl
   have r1 : ((A.setCell ⟨w.heap.size, 0, none⟩ (.int .i64 (zi : Int))).setCell ⟨w.heap.size, 1, none⟩ (.int .i64 (zb : Int))).heap[w.heap.size]? = some (.cells (sizeC (zi, zb)) 331 (0, 0)) := setCell_heap (setCell_heap h2 0 _) 1 _
   generalize ((A.setCell ⟨w.heap.size, 0, none⟩ (.int .i64 (zi : Int))).setCell ⟨w.heap.size, 1, none⟩ (.int .i64 (zb : Int))) = A2 at k1 r1 ⊢
   have hD2 := k1.same _ _ hDB (by omega)
   refine ⟨by simp, .inl ⟨_, _, rfl, run_takeDeferred hD2, ?_⟩⟩
   have hrow := (World.putObj_heap_other (o := .deferred none) (by omega : w.heap.size ≠ D)).trans r1
   refine ⟨_, results_cell_row rfl _ _ w.heap.size 331 _ (0, 0) _ rfl hrow Tryz.underlying331 rfl (by kernel_rfl), rfl, ?_⟩
   have hkB : Same w A2 := ⟨k1.os.trans hkA.os, k1.tape.trans hkA.tape, k1.output.trans hkA.output, Nat.le_trans hkA.size k1.size, fun b o hb _ => k1.same b o (hkA.same b o hb trivial) (by have := lt_of_some hb; omega)⟩
   exact hkB.putObj _ fun o _ _ h => by omega
end Go.Tm
namespace Go.Tm
open Go.RowKit Go.Proofs
def beTo (a : Nat) : Nat → List Nat
 | 0 => []
 | n + 1 => a >>> (8 * n) % 256 :: beTo a n
def headN (major a : Nat) : List Nat := (32 * major + (leastZ a).1) :: beTo a (leastZ a).2
theorem beTo_lt (a : Nat) : ∀ n, ∀ x ∈ beTo a n, x < 256
 | 0, x, h => by cases h
 | n + 1, x, h => by
  rw [beTo] at h
  rcases List.mem_cons.1 h with rfl | h
  ·exact Nat.mod_lt _ (by decide)
  ·exact beTo_lt a n x h
theorem leastZ_lt (a : Nat) : (leastZ a).1 < 32 ∧ (leastZ a).2 ≤ 8 := by
 unfold leastZ
 split
 ·constructor <;> simp only <;> omega
 ·rcases z4_cases (fitAt a) with h | h | h | h <;> rw [h] <;> decide
theorem headN_lt {m a : Nat} (hm : m ≤ 7) : ∀ x ∈ headN m a, x < 256 := by
 intro x hx
 have := leastZ_lt a
 unfold headN at hx
 rcases List.mem_cons.1 hx with rfl | h
 ·omega
 ·exact beTo_lt a _ x h
theorem or32 : ∀ m < 8, ∀ z < 32, bits BinOp.or IntKind.i64 ((m : Nat) * 32 : Int) (z : Nat) = ((32 * m + z : Nat) : Int) := by decide +kernel
set_option maxRecDepth 100000 in
theorem headBytes_any (xs : List Nat) (v : Value) (B n : Nat) (w : World) (h : w.ownsRow B 5 1 v n (byteVals xs)) (hx : ∀ x ∈ xs, x < 256) :
  Calls Tryz.prog 295 #[v] w fun e w' => e = .returned (.string (strN xs)) ∧ Same w w' := by
 have hc := row_string h hx
 obtain ⟨a, c, rfl⟩ := row_slice h
 go_enter Tryz.func295, Tryz.ntmps295
 go_wp2
 go_ret
 exact ⟨rfl, (by repeat with_reducible first | exact Keep.refl _ _ | refine Keep.alloc ?_ _ | refine Keep.drew ?_ | refine Keep.drewN ?_ _ | refine Keep.trans ?_ (by assumption))⟩
set_option maxRecDepth 100000 in
set_option maxHeartbeats 2000000 in
theorem headMake_any (m a : Nat) (w : World) (hm : m ≤ 7) (ha : a < 18446744073709551616) : Calls Tryz.prog 291 #[.int .i64 m, .int .u64 a] w fun e w' => e = .returned (.tuple #[.string (strN (headN m a)), .int .i64 0]) ∧ Same w w' := by
 have hl := leastZ_any a
 have hlt := leastZ_lt a
 unfold headN
 obtain ⟨⟨zi, zb⟩, hz⟩ : ∃ z, leastZ a = z := ⟨_, rfl⟩
 rw [hz] at hl hlt ⊢
 simp only at hl hlt ⊢
 clear hz
 have m0 : ¬ ((m : Int) < 0) := by omega
 have m7 : ¬ (7 < (m : Int)) := by omega
 obtain ⟨i0, hi0, hz0, hz1, hz2⟩ := info_parts byte_info
 go_enter Tryz.func291, Tryz.ntmps291
 go_wp2_with (go_at_call 294; refine (hl _ ha).mono ?_; rintro e w1 ⟨rfl, hk1⟩)
 have hor : bits BinOp.or IntKind.i64 ((m : Int) * 32) (zi : Int) % 256 = ((32 * m + zi : Nat) : Int) := by rw [or32 m (by omega) zi hlt.1]; omega
 rw [hor]
 clear hor
 obtain ⟨fb, hfb⟩ : ∃ fb, 32 * m + zi = fb := ⟨_, rfl⟩
 have hfb2 : fb < 256 := by omega
 rw [hfb]
 have hs2 : Same w ((w1.alloc (.cells #[.int .i64 (zi : Int), .int .i64 (zb : Int)] 331)).alloc (.cells #[.int .u8 (fb : Int)] 5)) := (hk1.alloc _).alloc _
 have hrow : ((w1.alloc (.cells #[.int .i64 (zi : Int), .int .i64 (zb : Int)] 331)).alloc (.cells #[.int .u8 (fb : Int)] 5)).ownsRow w.heap.size 5 1 (.slice (some ⟨w1.heap.size + 1, 0, none⟩) 1 1) 1 (byteVals [fb]) :=
  ⟨rfl, .inr ⟨w1.heap.size + 1, 1, _, rfl, by have := hk1.size; omega, heap_new' (by simp), Nat.le_refl _, by decide, rfl, rfl⟩⟩
 generalize ((w1.alloc (.cells #[.int .i64 (zi : Int), .int .i64 (zb : Int)] 331)).alloc (.cells #[.int .u8 (fb : Int)] 5)) = W1 at hs2 hrow ⊢
 have HFB := Lib.hid hfb
 clear hl hk1 hfb
 go_loopw [7, 8] (fun v iv wr => ∃ (k : Nat) (pre : List Nat), k ≤ zb ∧ iv = .int .i64 ((k : Int) - 1) ∧ beTo a zb = pre ++ beTo a k ∧ pre.length + k = zb ∧ wr.ownsRow w.heap.size 5 1 v (pre.length + 1) (byteVals (fb :: pre)) ∧ Same w wr) (fun v iv _ => (RowKit.intOf iv + 1).toNat)
 case atStart => exact ⟨zb, [], Nat.le_refl _, rfl, rfl, by simp, hrow, hs2⟩
 case round =>
  obtain ⟨k, pre, hk, rfl, hbe, hpl, hr, hsm⟩ := hrel
  obtain ⟨va, vc, rfl⟩ := row_slice hr
  cases k with
  | zero =>
   have HBE := Lib.hid hbe
   rw [show ((0 : Nat) : Int) - 1 = -1 by decide]
   have hhb := fun W (hs : Same wr W) => headBytes_any (fb :: pre) (.slice va (pre.length + 1) vc) w.heap.size (pre.length + 1) W (own_same hr hs) (fun x hx => by
    rcases List.mem_cons.1 hx with rfl | hx
    ·exact hfb2
    ·exact beTo_lt a zb x (by rw [HBE.out]; exact List.mem_append_left _ hx))
   obtain ⟨n1, hn1⟩ : ∃ n1, pre.length + 1 = n1 := ⟨_, rfl⟩
   rw [hn1] at hr hhb ⊢
   clear hbe hpl hn1
   go_wp2_with (go_at_call 295; refine (hhb _ (Keep.refl _ _)).mono ?_; rintro e w5 ⟨rfl, hk5⟩)
   refine bodyPost_ret (results_tmp2 rfl _ _ _) rfl ⟨?_, hsm.trans hk5⟩
   rw [HBE.out, HFB.out]
   simp [beTo]
  | succ k =>
   rw [show ((k + 1 : Nat) : Int) - 1 = (k : Int) by omega]
   rw [beTo] at hbe
   have HBE := Lib.hid hbe
   obtain ⟨n1, hn1⟩ : ∃ n1, pre.length + 1 = n1 := ⟨_, rfl⟩
   rw [hn1] at hr ⊢
   have hk0 : (0 : Int) ≤ (k : Int) := by omega
   have hk8 : (k : Int) ≤ 8 := by omega
   clear hbe
   have hd : ((a : Int) / 2 ^ (8 * k)) % 256 = ((a >>> (8 * k) % 256 : Nat) : Int) := by rw [shr_nat]; omega
   obtain ⟨bv, hbv⟩ : ∃ bv, a >>> (8 * k) % 256 = bv := ⟨_, rfl⟩
   rw [hbv] at hd HBE
   clear hbv
   have hzr := hsm.size
   go_wp2_with (at_builtin; refine wpList_append_own _ rfl _ _ 138 rfl w.heap.size 5 i0 (.int .u8 0) 1 1 Tryz.underlying138 hi0 hz0 hz1 hz2 rfl (by decide) _ _ _ rfl (hr.alloc _) ⟨wr.heap.size, 0, none⟩ 1 1 [.int .u8 (bv : Int)] rfl rfl ?c1 ?c2 ?c3 ?c4 ?c5 ?_)
   case c1 => exact fun j u hu => cells_new _ _ _ j u hu
   case c2 => intro u hu; simp at hu; subst hu; rfl
   case c3 => unfold maxLen; omega
   case c4 => omega
   case c5 => simp; omega
   intro v' w5 hown' hgrow _
   obtain ⟨a5, c5, rfl⟩ := row_slice hown'
   have hs5 : Same w w5 := (hsm.alloc _).grown hgrow fun r hr2 o ho _ hlt => by have := (hr.lt r hr2).1; omega
   rw [← byteVals_snoc] at hown'
   go_wp2
   refine ⟨?_, by simp [RowKit.intOf]⟩
   refine ⟨k, pre ++ [bv], by omega, rfl, by rw [HBE.out, List.append_assoc]; rfl, by rw [List.length_append]; simp; omega, ?_, hs5⟩
   have : (pre ++ [bv]).length + 1 = n1 + 1 := by rw [List.length_append]; simp; omega
   rw [this]
   exact hown'
end Go.Tm
namespace Go.Tm
open Go.RowKit Go.Proofs
abbrev Wr (B b : Nat) (xs : List Nat) (w : World) : Prop := BldT 214 B b xs w
theorem wr_lies : LiesB 214 := ⟨by decide, by kernel_rfl⟩
theorem isBT_same {T : TypeId} {B b : Nat} {xs : List Nat} {w w' : World} (h : BldT T B b xs w) (hk : Same w w') : BldT T B b xs w' := by
 have key : ∀ p, Lib.BuilderAt T 5 B b p (byteVals xs) w → Lib.BuilderAt T 5 B b p (byteVals xs) w' := by
  rintro p ⟨hB, v, hb, hown, hne⟩
  refine ⟨hB, v, hk.same _ _ hb trivial, ⟨hown.1, ?_⟩, hne⟩
  rcases hown.2 with h | ⟨g, cap, cur, hv, hg, hgg, rest⟩
  ·exact .inl h
  ·exact .inr ⟨g, cap, cur, hv, hg, hk.same _ _ hgg trivial, rest⟩
 rcases h with h | h
 ·exact .inl (key _ h)
 ·exact .inr (key _ h)
theorem bld_leT {T : TypeId} {B b : Nat} {xs : List Nat} {w : World} (h : BldT T B b xs w) : B ≤ b ∧ b < w.heap.size := by
 rcases h with h | h <;> exact ⟨h.1, h.lt⟩
theorem beTo_len (a : Nat) : ∀ n, (beTo a n).length = n
 | 0 => rfl
 | n + 1 => by rw [beTo, List.length_cons, beTo_len a n]
theorem headN_len (m a : Nat) : (headN m a).length ≤ 9 := by
 have := leastZ_lt a
 unfold headN
 rw [List.length_cons, beTo_len]; omega
set_option maxRecDepth 100000 in
set_option maxHeartbeats 1000000 in
theorem wrHead_any (B b m a : Nat) (xs : List Nat) (w : World) (h : Wr B b xs w) (hm : m ≤ 7) (ha : a < 18446744073709551616) (hlen : xs.length ≤ 1000000) (hBw : B ≤ w.heap.size) :
  Calls Tryz.prog 281 #[.pointer (some ⟨b, 0, none⟩), .int .i64 m, .int .u64 a] w fun e w' => (∃ v, e = .returned v) ∧ Wr B b (xs ++ headN m a) w' ∧ Keep (BldS B b) w w' := by
 have hmk := headMake_any m a w hm ha
 have hbs : bytesN (strN (headN m a)) = headN m a := bytesN_strN _ (headN_lt hm)
 have hsz : (strN (headN m a)).size ≤ 9 := by rw [strN_size]; exact headN_len m a
 have hws := fun W (hs : Same w W) => writeStringT_any wr_lies B b (strN (headN m a)) xs W (isBT_same h hs) (by omega) (Nat.le_trans hBw hs.size)
 rw [hbs] at hws
 obtain ⟨s, hs⟩ : ∃ s, strN (headN m a) = s := ⟨_, rfl⟩
 rw [hs] at hmk hws
 clear hs hbs h
 go_enter Tryz.func281, Tryz.ntmps281
 go_wp2_with fail
 refine hmk.mono ?_
 rintro e w1 ⟨rfl, hk1⟩
 go_wp2_with fail
 refine (hws w1 hk1).mono ?_
 rintro e w2 ⟨⟨v, rfl⟩, hb2, hk2⟩
 go_wp2_with fail
 go_end0
 exact ⟨⟨_, rfl⟩, hb2, (Keep.of_same hk1).trans hk2⟩
end Go.Tm
namespace Go.Tm
open Go.RowKit Go.Proofs
set_option maxRecDepth 100000 in
set_option maxHeartbeats 1000000 in
theorem wrBytes_one (B b c g : Nat) (xs : List Nat) (w : World) (h : Wr B b xs w) (hg : w.heap[g]? = some (.cells #[.int .u8 (c : Int)] 5 (0, 0))) (hgB : g < B ∨ ∀ B', B' = B → g ≠ b) (hlen : xs.length ≤ 1000000) (hBw : B ≤ w.heap.size) :
  Calls Tryz.prog 280 #[.pointer (some ⟨b, 0, none⟩), .slice (some ⟨g, 0, none⟩) 1 1] w fun e w' => (∃ v, e = .returned v) ∧ Wr B b (xs ++ [c]) w' ∧ Keep (BldS B b) w w' := by
 have hwb := writeByteT_any wr_lies B b c xs w h (by omega) hBw
 have c0 : w.cell? ⟨g, 0, none⟩ = some (.int .u8 (c : Int)) := cells1 hg
 go_enter Tryz.func280, Tryz.ntmps280
 go_wp2
 refine wp_loop_rounds 2 ?_
 rw [rounds_succ]
 go_wp2_with fail
 refine hwb.mono ?_
 rintro e w2 ⟨rfl, hb2, hk2⟩
 go_wp2_with fail
 rw [rounds_succ]
 go_wp2
 go_end0
 exact ⟨⟨_, rfl⟩, hb2, hk2⟩
set_option maxRecDepth 100000 in
set_option maxHeartbeats 1000000 in
theorem wrText_any (B b : Nat) (h : Hd) (a : Option Addr) (n cap : Nat) (xs : List Nat) (w : World) (hb : Wr B b xs w) (hs : h.s.size ≤ 400) (hlen : xs.length ≤ 1000) (hBw : B ≤ w.heap.size) :
  Calls Tryz.prog 255 #[.pointer (some ⟨b, 0, none⟩), nodeV h (.slice a n cap)] w fun e w' => (∃ v, e = .returned v) ∧ Wr B b (xs ++ headN 3 h.s.size ++ bytesN h.s) w' ∧ Keep (BldS B b) w w' := by
 have hbn : (w.alloc (.cells #[.int .i64 h.kind, .bool h.b, .bool h.d.neg, .string h.d.digits, .int .i64 h.d.exp, .int .u64 (h.u : Int), .int .i64 h.w, .string h.s, .slice a n cap] 27)).heap[w.heap.size]? = some (.cells #[.int .i64 h.kind, .bool h.b, .bool h.d.neg, .string h.d.digits, .int .i64 h.d.exp, .int .u64 (h.u : Int), .int .i64 h.w, .string h.s, .slice a n cap] 27 (0, 0)) := World.alloc_heap_new w _
 have hk0 : Same w (w.alloc (.cells #[.int .i64 h.kind, .bool h.b, .bool h.d.neg, .string h.d.digits, .int .i64 h.d.exp, .int .u64 (h.u : Int), .int .i64 h.w, .string h.s, .slice a n cap] 27)) := (Keep.refl _ _).alloc _
 have hble := bld_leT hb
 have hhd := wrHead_any B b 3 h.s.size xs _ (isBT_same hb hk0) (by decide) (by omega) (by omega) (Nat.le_trans hBw hk0.size)
 obtain ⟨n0, n1, n2, n3, n4, n5, n6, n7, n8⟩ := cells9 hbn
 have hsz : (h.s.size : Int) ≤ 400 := by omega
 obtain ⟨ys, hys⟩ : ∃ ys, xs ++ headN 3 h.s.size = ys := ⟨_, rfl⟩
 rw [hys]
 go_enter Tryz.func255, Tryz.ntmps255
 go_wp2_with fail
 refine hhd.mono ?_
 rintro e w1 ⟨⟨v, rfl⟩, hb1, hk1⟩
 have hbn1 := hk1.same _ _ hbn ⟨by omega, .inr fun c f e => by cases e⟩
 have hkw1 : Keep (BldS B b) w w1 := (Keep.of_same hk0).trans hk1
 have hl9 := headN_len 3 h.s.size
 have hz1 := hk1.size
 have hz0 := hk0.size
 have hws := fun W (hs2 : Same w1 W) => writeStringT_any wr_lies B b h.s (xs ++ headN 3 h.s.size) W (isBT_same hb1 hs2) (by rw [List.length_append]; omega) (Nat.le_trans hBw (Nat.le_trans hz0 (Nat.le_trans hz1 hs2.size)))
 rw [hys] at hws
 clear n0 n1 n2 n3 n4 n5 n6 n7 n8 hhd hb1 hk1 hbn hk0 hl9 hb hys
 obtain ⟨n0, n1, n2, n3, n4, n5, n6, n7, n8⟩ := cells9 hbn1
 go_wp2
 refine (wpIn_wide (n := 0)).1 ?_
 refine wpIn_region_tailA (n := 0) (fun Z => Z.heap[w.heap.size]? = some (.cells #[.int .i64 h.kind, .bool h.b, .bool h.d.neg, .string h.d.digits, .int .i64 h.d.exp, .int .u64 (h.u : Int), .int .i64 h.w, .string h.s, .slice a n cap] 27 (0, 0))) reads (fun _ => trivial) rfl (by kernel_rfl) rfl (by kernel_rfl) (by kernel_rfl) hbn1 ?_
 simp only [initL]
 iterate 5 (refine shT_x rfl rfl ?_; intro K hK w' hs; obtain ⟨p0, p1, p2, p3, p4, p5, p6, p7, p8⟩ := cells9 hs; go_simp; refine hK _ _ ?_; clear hK K p0 p1 p2 p3 p4 p5 p6 p7 p8 hs w')
 refine shT_tail (tail_last rfl ?_)
 go_simp
 refine (callsW (hws _ (by repeat with_reducible first | exact Keep.refl _ _ | refine Keep.alloc ?_ _ | refine Keep.drew ?_ | refine Keep.drewN ?_ _ | refine Keep.trans ?_ (by assumption)))).mono ?_
 rintro e w2 ⟨⟨v, rfl⟩, hb2, hk2⟩
 clear n0 n1 n2 n3 n4 n5 n6 n7 n8 hws
 go_wp2
 go_end0
 exact ⟨⟨_, rfl⟩, hb2, hkw1.trans ⟨hk2.os, hk2.tape, hk2.output, hk2.size, hk2.same⟩⟩
set_option maxRecDepth 100000 in
set_option maxHeartbeats 1000000 in
theorem wrRaw_any (B b : Nat) (h : Hd) (a : Option Addr) (n cap : Nat) (xs : List Nat) (w : World) (hb : Wr B b xs w) (hs : h.s.size ≤ 400) (hlen : xs.length ≤ 1000) (hBw : B ≤ w.heap.size) :
  Calls Tryz.prog 256 #[.pointer (some ⟨b, 0, none⟩), nodeV h (.slice a n cap)] w fun e w' => (∃ v, e = .returned v) ∧ Wr B b (xs ++ headN 2 h.s.size ++ bytesN h.s) w' ∧ Keep (BldS B b) w w' := by
 have hbn : (w.alloc (.cells #[.int .i64 h.kind, .bool h.b, .bool h.d.neg, .string h.d.digits, .int .i64 h.d.exp, .int .u64 (h.u : Int), .int .i64 h.w, .string h.s, .slice a n cap] 27)).heap[w.heap.size]? = some (.cells #[.int .i64 h.kind, .bool h.b, .bool h.d.neg, .string h.d.digits, .int .i64 h.d.exp, .int .u64 (h.u : Int), .int .i64 h.w, .string h.s, .slice a n cap] 27 (0, 0)) := World.alloc_heap_new w _
 have hk0 : Same w (w.alloc (.cells #[.int .i64 h.kind, .bool h.b, .bool h.d.neg, .string h.d.digits, .int .i64 h.d.exp, .int .u64 (h.u : Int), .int .i64 h.w, .string h.s, .slice a n cap] 27)) := (Keep.refl _ _).alloc _
 have hble := bld_leT hb
 have hhd := wrHead_any B b 2 h.s.size xs _ (isBT_same hb hk0) (by decide) (by omega) (by omega) (Nat.le_trans hBw hk0.size)
 obtain ⟨n0, n1, n2, n3, n4, n5, n6, n7, n8⟩ := cells9 hbn
 have hsz : (h.s.size : Int) ≤ 400 := by omega
 obtain ⟨ys, hys⟩ : ∃ ys, xs ++ headN 2 h.s.size = ys := ⟨_, rfl⟩
 rw [hys]
 go_enter Tryz.func256, Tryz.ntmps256
 go_wp2_with fail
 refine hhd.mono ?_
 rintro e w1 ⟨⟨v, rfl⟩, hb1, hk1⟩
 have hbn1 := hk1.same _ _ hbn ⟨by omega, .inr fun c f e => by cases e⟩
 have hkw1 : Keep (BldS B b) w w1 := (Keep.of_same hk0).trans hk1
 have hl9 := headN_len 2 h.s.size
 have hz1 := hk1.size
 have hz0 := hk0.size
 have hws := fun W (hs2 : Same w1 W) => writeStringT_any wr_lies B b h.s (xs ++ headN 2 h.s.size) W (isBT_same hb1 hs2) (by rw [List.length_append]; omega) (Nat.le_trans hBw (Nat.le_trans hz0 (Nat.le_trans hz1 hs2.size)))
 rw [hys] at hws
 clear n0 n1 n2 n3 n4 n5 n6 n7 n8 hhd hb1 hk1 hbn hk0 hl9 hb hys
 obtain ⟨n0, n1, n2, n3, n4, n5, n6, n7, n8⟩ := cells9 hbn1
 go_wp2
 refine (wpIn_wide (n := 0)).1 ?_
 refine wpIn_region_tailA (n := 0) (fun Z => Z.heap[w.heap.size]? = some (.cells #[.int .i64 h.kind, .bool h.b, .bool h.d.neg, .string h.d.digits, .int .i64 h.d.exp, .int .u64 (h.u : Int), .int .i64 h.w, .string h.s, .slice a n cap] 27 (0, 0))) reads (fun _ => trivial) rfl (by kernel_rfl) rfl (by kernel_rfl) (by kernel_rfl) hbn1 ?_
 simp only [initL]
 iterate 5 (refine shT_x rfl rfl ?_; intro K hK w' hs; obtain ⟨p0, p1, p2, p3, p4, p5, p6, p7, p8⟩ := cells9 hs; go_simp; refine hK _ _ ?_; clear hK K p0 p1 p2 p3 p4 p5 p6 p7 p8 hs w')
 refine shT_tail (tail_last rfl ?_)
 go_simp
 refine (callsW (hws _ (by repeat with_reducible first | exact Keep.refl _ _ | refine Keep.alloc ?_ _ | refine Keep.drew ?_ | refine Keep.drewN ?_ _ | refine Keep.trans ?_ (by assumption)))).mono ?_
 rintro e w2 ⟨⟨v, rfl⟩, hb2, hk2⟩
 clear n0 n1 n2 n3 n4 n5 n6 n7 n8 hws
 go_wp2
 go_end0
 exact ⟨⟨_, rfl⟩, hb2, hkw1.trans ⟨hk2.os, hk2.tape, hk2.output, hk2.size, hk2.same⟩⟩
def keyN (h : Hd) : List Nat :=
 if h.kind = 1 then [246]
 else if h.kind = 2 then (if h.b then [245] else [244])
 else if h.kind = 3 then (if (toInt h.d).1 then headN 1 (((toInt h.d).2.1 + 18446744073709551615) % 18446744073709551616) else headN 0 (toInt h.d).2.1)
 else if h.kind = 5 then headN 3 h.s.size ++ bytesN h.s
 else if h.kind = 6 then headN 2 h.s.size ++ bytesN h.s
 else []
theorem toIntW_lt (d : Dc) : (toInt d).2.1 < 18446744073709551616 := by
 unfold toInt
 split
 ·decide
 ·show (natTo _).1 < _
  unfold natTo
  split
  ·rename_i h
   rw [Bool.and_eq_true] at h
   exact of_decide_eq_true h.2
  ·decide
set_option maxRecDepth 100000 in
set_option maxHeartbeats 1000000 in
theorem wrNull_any (B b : Nat) (h : Hd) (a : Option Addr) (n cap : Nat) (xs : List Nat) (w : World) (hb : Wr B b xs w) (hlen : xs.length ≤ 1000) (hBw : B ≤ w.heap.size) :
  Calls Tryz.prog 251 #[.pointer (some ⟨b, 0, none⟩), nodeV h (.slice a n cap)] w fun e w' => (∃ v, e = .returned v) ∧ Wr B b (xs ++ [246]) w' ∧ Keep (BldS B b) w w' := by
 have hk0 : Same w ((w.alloc (.cells #[.int .i64 h.kind, .bool h.b, .bool h.d.neg, .string h.d.digits, .int .i64 h.d.exp, .int .u64 (h.u : Int), .int .i64 h.w, .string h.s, .slice a n cap] 27)).alloc (.cells #[.int .u8 (246 : Nat)] 5)) := (by repeat with_reducible first | exact Keep.refl _ _ | refine Keep.alloc ?_ _ | refine Keep.drew ?_ | refine Keep.drewN ?_ _ | refine Keep.trans ?_ (by assumption))
 have hg : ((w.alloc (.cells #[.int .i64 h.kind, .bool h.b, .bool h.d.neg, .string h.d.digits, .int .i64 h.d.exp, .int .u64 (h.u : Int), .int .i64 h.w, .string h.s, .slice a n cap] 27)).alloc (.cells #[.int .u8 (246 : Nat)] 5)).heap[w.heap.size + 1]? = some (.cells #[.int .u8 (246 : Nat)] 5 (0, 0)) := heap_new' (by simp)
 have hble := bld_leT hb
 have hc := wrBytes_one B b 246 (w.heap.size + 1) xs _ (isBT_same hb hk0) hg (.inr fun _ _ => by omega) (by omega) (Nat.le_trans hBw hk0.size)
 go_enter Tryz.func251, Tryz.ntmps251
 go_wp2_with fail
 refine hc.mono ?_
 rintro e w1 ⟨⟨v, rfl⟩, hb1, hk1⟩
 clear hc
 go_wp2_with fail
 go_end0
 exact ⟨⟨_, rfl⟩, hb1, (Keep.of_same hk0).trans hk1⟩
set_option maxRecDepth 100000 in
set_option maxHeartbeats 1000000 in
theorem wrTruth_any (B b : Nat) (h : Hd) (a : Option Addr) (n cap : Nat) (xs : List Nat) (w : World) (hb : Wr B b xs w) (hlen : xs.length ≤ 1000) (hBw : B ≤ w.heap.size) :
  Calls Tryz.prog 252 #[.pointer (some ⟨b, 0, none⟩), nodeV h (.slice a n cap)] w fun e w' => (∃ v, e = .returned v) ∧ Wr B b (xs ++ if h.b then [245] else [244]) w' ∧ Keep (BldS B b) w w' := by
 have hble := bld_leT hb
 have hbn : (w.alloc (.cells #[.int .i64 h.kind, .bool h.b, .bool h.d.neg, .string h.d.digits, .int .i64 h.d.exp, .int .u64 (h.u : Int), .int .i64 h.w, .string h.s, .slice a n cap] 27)).heap[w.heap.size]? = some (.cells #[.int .i64 h.kind, .bool h.b, .bool h.d.neg, .string h.d.digits, .int .i64 h.d.exp, .int .u64 (h.u : Int), .int .i64 h.w, .string h.s, .slice a n cap] 27 (0, 0)) := World.alloc_heap_new w _
 obtain ⟨n0, n1, n2, n3, n4, n5, n6, n7, n8⟩ := cells9 hbn
 have hk0 : ∀ c : Nat, Same w ((w.alloc (.cells #[.int .i64 h.kind, .bool h.b, .bool h.d.neg, .string h.d.digits, .int .i64 h.d.exp, .int .u64 (h.u : Int), .int .i64 h.w, .string h.s, .slice a n cap] 27)).alloc (.cells #[.int .u8 (c : Int)] 5)) := fun c => (by repeat with_reducible first | exact Keep.refl _ _ | refine Keep.alloc ?_ _ | refine Keep.drew ?_ | refine Keep.drewN ?_ _ | refine Keep.trans ?_ (by assumption))
 have hg : ∀ c : Nat, ((w.alloc (.cells #[.int .i64 h.kind, .bool h.b, .bool h.d.neg, .string h.d.digits, .int .i64 h.d.exp, .int .u64 (h.u : Int), .int .i64 h.w, .string h.s, .slice a n cap] 27)).alloc (.cells #[.int .u8 (c : Int)] 5)).heap[w.heap.size + 1]? = some (.cells #[.int .u8 (c : Int)] 5 (0, 0)) := fun c => heap_new' (by simp)
 have hc := fun c => wrBytes_one B b c (w.heap.size + 1) xs _ (isBT_same hb (hk0 c)) (hg c) (.inr fun _ _ => by omega) (by omega) (Nat.le_trans hBw (hk0 c).size)
 obtain ⟨hB, hhB⟩ : ∃ hB, h.b = hB := ⟨_, rfl⟩
 cases hB with
 | true =>
  rw [hhB, if_pos rfl]
  have hc1 := hc 245
  have hk1' := hk0 245
  rw [hhB] at hc1 hk1'
  clear hc hg hbn n0 n2 n3 n4 n5 n6 n7 n8
  go_enter Tryz.func252, Tryz.ntmps252
  go_wp2_with fail
  refine hc1.mono ?_
  rintro e w1 ⟨⟨v, rfl⟩, hb1, hk1⟩
  clear hc1 n1
  go_wp2_with fail
  refine bodyPost_ret (results_none rfl _ _ _) rfl ?_
  exact ⟨⟨_, rfl⟩, hb1, (Keep.of_same hk1').trans hk1⟩
 | false =>
  rw [hhB, if_neg (by decide)]
  have hc1 := hc 244
  have hk1' := hk0 244
  rw [hhB] at hc1 hk1'
  clear hc hg hbn n0 n2 n3 n4 n5 n6 n7 n8
  go_enter Tryz.func252, Tryz.ntmps252
  go_wp2_with fail
  refine hc1.mono ?_
  rintro e w1 ⟨⟨v, rfl⟩, hb1, hk1⟩
  clear hc1 n1
  go_wp2_with fail
  go_end0
  exact ⟨⟨_, rfl⟩, hb1, (Keep.of_same hk1').trans hk1⟩
set_option maxRecDepth 100000 in
set_option maxHeartbeats 1000000 in
theorem wrNum_any {N : Nat} {E : Errs} (B b : Nat) (h : Hd) (a : Option Addr) (n cap : Nat) (xs : List Nat) (w : World) (hG : Glob N E w) (hs : h.d.digits.size ≤ 1099511627776) (hb : Wr B b xs w) (hlen : xs.length ≤ 1000) (hBw : B ≤ w.heap.size) :
  Calls Tryz.prog 253 #[.pointer (some ⟨b, 0, none⟩), nodeV h (.slice a n cap)] w fun e w' => (∃ v, e = .returned v) ∧ Wr B b (xs ++ if (toInt h.d).1 then headN 1 (((toInt h.d).2.1 + 18446744073709551615) % 18446744073709551616) else headN 0 (toInt h.d).2.1) w' ∧ Keep (BldS B b) w w' := by
 have hbn : (w.alloc (.cells #[.int .i64 h.kind, .bool h.b, .bool h.d.neg, .string h.d.digits, .int .i64 h.d.exp, .int .u64 (h.u : Int), .int .i64 h.w, .string h.s, .slice a n cap] 27)).heap[w.heap.size]? = some (.cells #[.int .i64 h.kind, .bool h.b, .bool h.d.neg, .string h.d.digits, .int .i64 h.d.exp, .int .u64 (h.u : Int), .int .i64 h.w, .string h.s, .slice a n cap] 27 (0, 0)) := World.alloc_heap_new w _
 have hk0 : Same w (w.alloc (.cells #[.int .i64 h.kind, .bool h.b, .bool h.d.neg, .string h.d.digits, .int .i64 h.d.exp, .int .u64 (h.u : Int), .int .i64 h.w, .string h.s, .slice a n cap] 27)) := (Keep.refl _ _).alloc _
 obtain ⟨n0, n1, n2, n3, n4, n5, n6, n7, n8⟩ := cells9 hbn
 have hti := toInt_any h.d _ (hG.same hk0) hs
 have hlt := toIntW_lt h.d
 obtain ⟨⟨neg, k, ok⟩, hr⟩ : ∃ r, toInt h.d = r := ⟨_, rfl⟩
 rw [hr] at hti hlt ⊢
 simp only at hti hlt ⊢
 have hhd := fun (m v : Nat) W (hs : Same w W) (hm : m ≤ 7) (hv : v < 18446744073709551616) => wrHead_any B b m v xs W (isBT_same hb hs) hm hv (by omega) (Nat.le_trans hBw hs.size)
 cases neg with
 | true =>
  rw [if_pos rfl]
  have hw : IntKind.u64.wrap ((k : Int) - 1) = (((k + 18446744073709551615) % 18446744073709551616 : Nat) : Int) := by
   simp only [IntKind.wrap, IntKind.bits, IntKind.signed]
   simp
   omega
  obtain ⟨q, hq⟩ : ∃ q, (k + 18446744073709551615) % 18446744073709551616 = q := ⟨_, rfl⟩
  have hq2 : q < 18446744073709551616 := by omega
  rw [hq] at hw ⊢
  clear hq hr hb
  go_enter Tryz.func253, Tryz.ntmps253
  go_wp2_with fail
  refine hti.mono ?_
  rintro e w1 ⟨rfl, hk1⟩
  clear hti n0 n1 n2 n3 n4 n5 n6 n7 n8
  go_wp2_with fail
  refine (hhd 1 q w1 (hk0.trans hk1) (by decide) hq2).mono ?_
  rintro e w2 ⟨⟨v, rfl⟩, hb2, hk2⟩
  clear hhd
  go_wp2_with fail
  refine bodyPost_ret (results_none rfl _ _ _) rfl ?_
  exact ⟨⟨_, rfl⟩, hb2, (Keep.of_same (hk0.trans hk1)).trans hk2⟩
 | false =>
  rw [if_neg (by decide)]
  clear hr hb
  go_enter Tryz.func253, Tryz.ntmps253
  go_wp2_with fail
  refine hti.mono ?_
  rintro e w1 ⟨rfl, hk1⟩
  clear hti n0 n1 n2 n3 n4 n5 n6 n7 n8
  go_wp2_with fail
  refine (hhd 0 k w1 (hk0.trans hk1) (by decide) hlt).mono ?_
  rintro e w2 ⟨⟨v, rfl⟩, hb2, hk2⟩
  clear hhd
  go_wp2_with fail
  go_end0
  exact ⟨⟨_, rfl⟩, hb2, (Keep.of_same (hk0.trans hk1)).trans hk2⟩
end Go.Tm
namespace Go.Tm
open Go.RowKit Go.Proofs
theorem isBT_keep {K : Nat → Obj → Prop} {T : TypeId} {B b : Nat} {xs : List Nat} {w w' : World} (h : BldT T B b xs w) (hk : Keep K w w') (hK : ∀ k c t f, K k (.cells c t f)) : BldT T B b xs w' := by
 have key : ∀ p, Lib.BuilderAt T 5 B b p (byteVals xs) w → Lib.BuilderAt T 5 B b p (byteVals xs) w' := by
  rintro p ⟨hB, v, hb, hown, hne⟩
  refine ⟨hB, v, hk.same _ _ hb (hK _ _ _ _), ⟨hown.1, ?_⟩, hne⟩
  rcases hown.2 with h | ⟨g, cap, cur, hv, hg, hgg, rest⟩
  ·exact .inl h
  ·exact .inr ⟨g, cap, cur, hv, hg, hk.same _ _ hgg (hK _ _ _ _), rest⟩
 rcases h with h | h
 ·exact .inl (key _ h)
 ·exact .inr (key _ h)
theorem bldT_cell {T : TypeId} {B b : Nat} {xs : List Nat} {w : World} (h : BldT T B b xs w) : ∃ c, w.heap[b]? = some (.cells c T (0, 0)) := by
 rcases h with ⟨_, v, hb, _⟩ | ⟨_, v, hb, _⟩ <;> exact ⟨_, hb⟩
def keyK (k : Int) : Prop := k = 1 ∨ k = 2 ∨ k = 3 ∨ k = 5 ∨ k = 6
theorem wrOne_any {N : Nat} {E : Errs} (B b : Nat) (h : Hd) (hk : keyK h.kind) (hs : h.s.size ≤ 400) (hd : h.d.digits.size ≤ 1099511627776) (hNB : N ≤ B) :
  ∃ g, writeV b h.kind = .func (.func g) #[.pointer (some ⟨b, 0, none⟩)] #[] ∧ (∀ args w, (callFunc g args).run Tryz.prog w = .ok (.enter g args) w) ∧
  ∀ (a : Option Addr) (n cap : Nat) (W : World), Glob N E W → Wr B b [] W → B ≤ W.heap.size → Calls Tryz.prog g #[.pointer (some ⟨b, 0, none⟩), nodeV h (.slice a n cap)] W fun e w' => (∃ v, e = .returned v) ∧ Wr B b (keyN h) w' ∧ Keep (BldS B b) W w' := by
 obtain ⟨k, hk0⟩ : ∃ k, h.kind = k := ⟨_, rfl⟩
 rw [hk0] at hk
 rcases hk with rfl | rfl | rfl | rfl | rfl
 ·refine ⟨_, by rw [hk0]; rfl, enters_of Tryz.func251 (by kernel_rfl) rfl, fun a n cap W hG hb hB => ?_⟩
  have := wrNull_any B b h a n cap [] W hb (by simp) hB
  rwa [show keyN h = [] ++ [246] by unfold keyN; rw [hk0]; rfl]
 ·refine ⟨_, by rw [hk0]; rfl, enters_of Tryz.func252 (by kernel_rfl) rfl, fun a n cap W hG hb hB => ?_⟩
  have := wrTruth_any B b h a n cap [] W hb (by simp) hB
  rwa [show keyN h = [] ++ (if h.b then [245] else [244]) by unfold keyN; rw [hk0]; rfl]
 ·refine ⟨_, by rw [hk0]; rfl, enters_of Tryz.func253 (by kernel_rfl) rfl, fun a n cap W hG hb hB => ?_⟩
  have := wrNum_any B b h a n cap [] W hG hd hb (by simp) hB
  rwa [show keyN h = [] ++ (if (toInt h.d).1 then headN 1 (((toInt h.d).2.1 + 18446744073709551615) % 18446744073709551616) else headN 0 (toInt h.d).2.1) by unfold keyN; rw [hk0]; rfl]
 ·refine ⟨_, by rw [hk0]; rfl, enters_of Tryz.func255 (by kernel_rfl) rfl, fun a n cap W hG hb hB => ?_⟩
  have := wrText_any B b h a n cap [] W hb hs (by simp) hB
  rwa [show keyN h = [] ++ headN 3 h.s.size ++ bytesN h.s by unfold keyN; rw [hk0]; rfl]
 ·refine ⟨_, by rw [hk0]; rfl, enters_of Tryz.func256 (by kernel_rfl) rfl, fun a n cap W hG hb hB => ?_⟩
  have := wrRaw_any B b h a n cap [] W hb hs (by simp) hB
  rwa [show keyN h = [] ++ headN 2 h.s.size ++ bytesN h.s by unfold keyN; rw [hk0]; rfl]
def SbW (B b : Nat) : Nat → Obj → Prop := fun k o => (∃ c f, o = .cells c 27 f) ∨ BldS B b k o
set_option maxRecDepth 100000 in
set_option maxHeartbeats 4000000 in
theorem wrAll_key {N : Nat} {E : Errs} (B b : Nat) (S : Nat → Prop) (h : Hd) (tl : List Tree) (lv : Value) (w : World) (hG : Glob N E w) (hNB : N ≤ B) (hb : Wr B b [] w) (hr : RepS S w [Tree.node h tl] lv) (hk : keyK h.kind) (hs : h.s.size ≤ 400) (hd : h.d.digits.size ≤ 1099511627776) (hBw : B ≤ w.heap.size) :
  Calls Tryz.prog 181 #[.pointer (some ⟨b, 0, none⟩), lv] w fun e w' => (∃ v, e = .returned v) ∧ Wr B b (keyN h) w' ∧ Keep (BldS B b) w w' := by
 obtain ⟨g, hg, eg, hwr⟩ := wrOne_any (N := N) (E := E) B b h hk hs hd hNB
 obtain ⟨a, cap, rfl⟩ := hr.is_slice
 have hble := bld_leT hb
 refine (callsIn_wide (n := 0)).1 ?_
 refine callsIn_of_wp_marks Tryz.func181 rfl trivial ?_ rfl
 simp only [Tryz.ntmps181, List.size_toArray, List.length_cons, List.length_nil, Nat.reduceAdd, Nat.reduceSub, Array.replicate_succ, Array.replicate_zero, List.push_toArray, List.append_toArray, List.nil_append, List.cons_append]
 gi_wp2
 refine wpIn_scope ?_
 gi_wp2_with (gi_at_call 221; refine (callsW (wforms_any b _)).mono ?_; rintro e w1 ⟨mb, rfl, hm1, hk1⟩)
 refine wpIn_label ?_
 gi_wp2_with (gi_at_call 222; refine (callsW (wnodes_any _ _ _ _ _)).mono ?_; rintro e w2 ⟨rfl, h9⟩; replace h9 := h9.symm; subst h9)
 generalize hW1 : World.alloc _ (.cells #[.slice a 1 cap] 25) = W1
 have hz1 : W1.heap.size = w1.heap.size + 2 := by rw [← hW1]; simp
 have hkA : Same w1 W1 := by rw [← hW1]; exact (by repeat with_reducible first | exact Keep.refl _ _ | refine Keep.alloc ?_ _ | refine Keep.drew ?_ | refine Keep.drewN ?_ _ | refine Keep.trans ?_ (by assumption))
 have hkw : Same w W1 := hk1.trans hkA
 have b1 : Boxed W1 w1.heap.size 256 (.map (some mb)) := by rw [← hW1]; exact heap_old (World.alloc_heap_new w1 _)
 have b2 : Boxed W1 (w1.heap.size + 1) 25 (.slice a 1 cap) := by rw [← hW1]; exact heap_new' (by simp)
 have hm2 := hkA.same _ _ hm1 trivial
 have hmz := lt_of_some hm2
 have hr1 := hr.same hkw
 have hb1 : Wr B b [] W1 := isBT_same hb hkw
 have hz0 := hk1.size
 have hz2 := hkw.size
 clear hW1 hm1 hb hr
 refine wp_range (gf := 261) (lb := #[.pointer (some ⟨w1.heap.size + 1, 0, none⟩)])
  rfl (enters_of Tryz.func261 (by kernel_rfl) rfl) 1 (GivesL S [Tree.node h tl])
  (SbW B b) (fun _ _ => True) (fun _ => True) (fun _ _ => True) ?hit ?hSb (fun _ _ _ _ _ => trivial)
  (fun i A => Wr B b (if i = 0 then [] else keyN h) A ∧ Glob N E A ∧ Boxed A w1.heap.size 256 (.map (some mb)) ∧ A.heap[mb]? = some (.map (formsW b) 10) ∧ W1.heap.size ≤ A.heap.size) (fun _ _ _ => False) ?hI ?hIx ?hE (fun _ _ _ _ => trivial) (fun _ _ _ _ _ => trivial) ?hEs ⟨hb1, hG.same hkw, b1, hm2, Nat.le_refl _⟩
  (fun i v a' A => ∃ b2 lv, v = #[nodeV h lv] ∧ A.heap[b2]? = some (.cells (nodeCs h lv).toArray 27 (0, 0)) ∧ a' = { tmps := #[.pointer (some ⟨b, 0, none⟩), .slice a 1 cap, undef, undef, .pointer (some ⟨w1.heap.size, 0, none⟩), .pointer (some ⟨b2, 0, none⟩), undef, undef, .pointer (some ⟨b, 0, none⟩), .map (some mb), .pointer (some ⟨b, 0, none⟩), .slice a 1 cap, .func (.func 261) #[] #[.pointer (some ⟨w1.heap.size + 1, 0, none⟩)], nodeV h lv, undef, undef, undef, undef, undef, undef, undef, undef, undef, undef, undef, undef], defers := [] }) ?hAx ?hassign ?hbody ?hdone ?hstop
 case hit =>
  intro W2 hk2 hz2
  exact wnodes1_iter S _ _ _ _ _ W2 (hr1.same hk2) (hk2.boxed b2 trivial) (fun c f => .inr ⟨by omega, .inr fun c f e => by cases e⟩) (fun k c f => .inl ⟨c, f, rfl⟩)
 case hSb => exact fun k o hk ho => .inr ⟨by omega, .inr fun c f e => by subst e; cases ho⟩
 case hI =>
  rintro i A B2 ⟨h1, h2, h3, h4, h5⟩ hk
  refine ⟨isBT_keep h1 hk fun _ _ _ _ => ⟨.inr rfl, trivial⟩, h2.keep hk fun k hlt o => ⟨.inl (by omega), trivial⟩, hk.same _ _ h3 ⟨.inr rfl, trivial⟩, hk.same _ _ h4 ⟨.inl hmz, trivial⟩, Nat.le_trans h5 hk.size⟩
 case hIx => rintro _ _ _ _ h; exact h.elim
 case hE =>
  rintro i v A B2 ⟨h0, lv, e, r0, o0⟩ hk
  exact ⟨h0, lv, e, r0.keep hk fun _ _ _ _ => .inr rfl, o0⟩
 case hEs =>
  rintro i v A ⟨h0, lv, e, _⟩
  rw [e]; rfl
 case hAx =>
  rintro i v a' A B2 ⟨b2, lv, e, h1, h2⟩ hk
  exact ⟨b2, lv, e, hk.same _ _ h1 (.inr rfl), h2⟩
 case hassign =>
  rintro lp i v A K hi ⟨h1, h2, h3, h4, h5⟩ hE' hK
  have hE2 := hE'
  obtain ⟨h0, lv, rfl, r0, o0⟩ := hE'
  obtain rfl : i = 0 := by omega
  obtain ⟨a0, c0, rfl⟩ := r0.is_slice
  simp only [List.getElem_cons_zero, Tree.hd_node, Tree.l_node] at hK hE2 r0 ⊢
  obtain ⟨n0, hn0⟩ : ∃ n, tl.length = n := ⟨_, rfl⟩
  rw [hn0] at hK hE2 ⊢
  gi_wp2
  refine hK _ _ ((Keep.refl _ _).alloc _) ?_ ?_ ⟨A.heap.size, _, rfl, World.alloc_heap_new A _, rfl⟩
  ·have hs : Same A _ := (Keep.refl All A).alloc (.cells (nodeCs h (.slice a0 n0 c0)).toArray 27)
   exact ⟨isBT_same h1 hs, h2.same hs, hs.boxed h3 trivial, hs.same _ _ h4 trivial, Nat.le_trans h5 hs.size⟩
  ·obtain ⟨h0, lv, e, r0, o0⟩ := hE2
   exact ⟨h0, lv, e, r0.same ((Keep.refl _ _).alloc _), o0⟩
 case hbody =>
  rintro lp i v a' A hlp ⟨rr, hrl⟩ hi2 ⟨h1, h2, h3, h4, h5⟩ hE' ⟨b2, lv, rfl, hb2, rfl⟩
  obtain rfl : i = 0 := by omega
  obtain ⟨h0, lv', e, r0, o0⟩ := hE'
  obtain ⟨a0, c0, rfl⟩ := r0.is_slice
  simp only [List.getElem_cons_zero, Tree.hd_node, Tree.l_node] at e r0
  have hlv : ∃ n, lv = .slice a0 n c0 := by
   have h9 := congrArg (fun (x : Array Value) => match x[0]? with | some (.agg cs) => cs[8]? | _ => none) e
   simp [nodeV] at h9
   exact ⟨_, h9⟩
  obtain ⟨n, rfl⟩ := hlv
  rw [if_pos rfl] at h1
  have L := lookup_writes A b mb h.kind h4 hk
  rw [hg] at L
  have hcall := hwr a0 n c0 A h2 h1 (by omega)
  have k0 := h3.cell
  obtain ⟨n0, n1, n2, n3, n4, n5, n6, n7, n8⟩ := cells9 hb2
  clear e r0 o0 hwr hr1 b1 hb1
  gi_wp2
  refine (callsW hcall).mono ?_
  rintro e w2 ⟨⟨v, rfl⟩, hb3, hk3⟩
  have hz3 := hk3.size
  clear n0 n1 n2 n3 n4 n5 n6 n7 n8 k0 L hcall
  gi_wp2
  have hbc := bldT_cell h1
  have hks : Keep (SbW B b) A w2 := ⟨hk3.os, hk3.tape, hk3.output, hk3.size, fun k o ho hs => hk3.same k o ho (by
   rcases hs with ⟨c, f, rfl⟩ | hs
   ·refine ⟨?_, .inr fun c f e => by cases e⟩
    rintro rfl
    obtain ⟨c2, hc2⟩ := hbc
    rw [ho] at hc2
    cases hc2
   ·exact hs)⟩
  refine ⟨hks, hb3, h2.keep hk3 fun k hlt o => ⟨by omega, .inl (by omega)⟩, ?_, ?_, by omega⟩
  ·exact hk3.same _ _ h3 ⟨(by rintro rfl; obtain ⟨c2, hc2⟩ := hbc; rw [show A.heap[w1.heap.size]? = _ from h3] at hc2; cases hc2), .inr fun c f e => by cases e⟩
  ·exact hk3.same _ _ h4 ⟨(by rintro rfl; obtain ⟨c2, hc2⟩ := hbc; rw [h4] at hc2; cases hc2), .inr fun c f e => by cases e⟩
 case hdone =>
  rintro D A hD ⟨h1, h2, h3, h4, h5⟩ _ hk hDB
  rw [if_neg (by decide)] at h1
  have hkB : Keep (BldS B b) w A := ⟨hk.os.trans hkw.os, hk.tape.trans hkw.tape, hk.output.trans hkw.output, Nat.le_trans hkw.size hk.size, fun k o ho hs => hk.same k o (hkw.same k o ho trivial) ⟨.inr hs, trivial⟩⟩
  gi_wp2
  refine ⟨by simp, .inl ⟨_, _, rfl, run_takeDeferred hDB, ?_⟩⟩
  have hkD : Keep (fun _ o => o.isCells = true) A (A.putObj D (.deferred none)) := (Keep.refl _ A).putObj _ fun o ho hs h => by rw [hDB] at ho; cases ho; cases hs
  have hkw2 : Keep (BldS B b) w (A.putObj D (.deferred none)) := hkB.putObj _ fun o _ _ h => by omega
  exact ⟨_, results_none rfl _ _ _, ⟨_, rfl⟩, isBT_keep h1 hkD (fun _ _ _ _ => rfl), hkw2⟩
 case hstop =>
  rintro D i c A hD hi h
  exact h.elim
end Go.Tm
namespace Go.Tm
open Go.RowKit Go.Proofs
theorem keyN_lt (h : Hd) : ∀ x ∈ keyN h, x < 256 := by
 intro x hx
 unfold keyN at hx
 repeat' split at hx
 all_goals first
  | exact headN_lt (by decide) x hx
  | exact (List.mem_append.1 hx).elim (headN_lt (by decide) x) (bytesN_lt _ x)
  | (simp at hx; done)
  | (simp at hx; omega)
theorem keyN_ne (h : Hd) (hk : keyK h.kind) : keyN h ≠ [] := by
 unfold keyN headN
 obtain ⟨k, hk0⟩ : ∃ k, h.kind = k := ⟨_, rfl⟩
 rw [hk0] at hk ⊢
 rcases hk with rfl | rfl | rfl | rfl | rfl
 all_goals (repeat' split) <;> simp_all
set_option maxRecDepth 100000 in
set_option maxHeartbeats 2000000 in
theorem written_key {N : Nat} {E : Errs} (S : Nat → Prop) (h : Hd) (tl : List Tree) (lv : Value) (w : World) (hG : Glob N E w) (hNw : N ≤ w.heap.size) (hr : RepS S w [Tree.node h tl] lv) (hk : keyK h.kind) (hs : h.s.size ≤ 400) (hd : h.d.digits.size ≤ 1099511627776) :
  Calls Tryz.prog 138 #[lv] w fun e w' => e = .returned (.string (strN (keyN h))) ∧ Same w w' := by
 obtain ⟨a, cap, rfl⟩ := hr.is_slice
 have hn := keyN_ne h hk
 have hx := keyN_lt h
 obtain ⟨ks, hks⟩ : ∃ ks, keyN h = ks := ⟨_, rfl⟩
 rw [hks] at hn hx ⊢
 have hs0 : Same w (w.alloc (.cells #[.pointer none, .slice none 0 0] 214)) := (Keep.refl _ _).alloc _
 have hb0 : Wr w.heap.size w.heap.size [] (w.alloc (.cells #[.pointer none, .slice none 0 0] 214)) := .inl ⟨Nat.le_refl _, .slice none 0 0, World.alloc_heap_new _ _, World.ownsRow_nil _ _ _ _, by simp [Value.ownBlock]⟩
 have hall := wrAll_key w.heap.size w.heap.size S h tl _ _ (hG.same hs0) hNw hb0 (hr.same hs0) hk hs hd hs0.size
 rw [hks] at hall
 clear hr hb0
 go_enter Tryz.func138, Tryz.ntmps138
 go_wp2_with fail
 refine hall.mono ?_
 rintro e w1 ⟨⟨v, rfl⟩, hb1, hk1⟩
 obtain ⟨cs, hcs⟩ := bldT_cell hb1
 have hst := bldStringT_any _ _ _ ks w1 hb1 hx hn
 clear hall
 go_wp2_with fail
 refine hst.mono ?_
 rintro e w2 ⟨rfl, hk2⟩
 have hz1 := hk1.size
 have hz2 := hk2.size
 have hz0 := hs0.size
 go_wp2
 go_ret
 refine ⟨rfl, hk2.os.trans (hk1.os.trans hs0.os), hk2.tape.trans (hk1.tape.trans hs0.tape), hk2.output.trans (hk1.output.trans hs0.output), by omega, fun k o ho _ => ?_⟩
 have hlt := lt_of_some ho
 exact hk2.same _ _ (hk1.same _ _ (hs0.same _ _ ho trivial) ⟨by omega, .inl hlt⟩) (.inl hlt)
end Go.Tm
namespace Go.Tm
open Go.RowKit Go.Proofs
theorem key_kind {t : Tree} (h : isKeyT 2 t = true) : keyK t.hd.kind := by
 unfold isKeyT at h
 unfold keyK
 split at h
 ·omega
 ·rw [if_neg (by decide)] at h
  split at h
  ·omega
  ·simp only [Bool.or_eq_true, decide_eq_true_eq] at h
   omega
theorem keyN_len {h : Hd} (hs : h.s.size ≤ 400) : (keyN h).length ≤ 409 := by
 have h1 := fun m a => headN_len m a
 unfold keyN
 repeat' split
 all_goals first
  | exact Nat.le_trans (h1 _ _) (by decide)
  | (rw [List.length_append, bytesN_length]; exact Nat.le_trans (Nat.add_le_add (h1 _ _) hs) (by decide))
  | simp
set_option maxRecDepth 100000 in
set_option maxHeartbeats 4000000 in
theorem key_any {N : Nat} {E : Errs} (t : Tree) (lv : Value) (w : World) (hG : Glob N E w) (hNw : N ≤ w.heap.size) (ho : t.hd.ok) (hr : RepS AnyB w t.l lv) (hd : t.depth ≤ 1000000) :
  Calls Tryz.prog 98 #[nodeV t.hd lv] w fun e w' => ∃ s r, e = .returned (.tuple #[.string s, .int .i64 r]) ∧ s.size ≤ 1000 ∧ Same w w' := by
 have hod := owner_depth t
 obtain ⟨a, cap, rfl⟩ := hr.is_slice
 have hrow : ∀ W b, Same w W → W.heap[b]? = some (.cells (nodeCs t.hd (.slice a t.l.length cap) ++ nodeCs (bareHd 1) (.slice none 0 0)).toArray 27 (0, 0)) → RepS AnyB W [t, .node (bareHd 1) []] (.slice (some ⟨b, 0, none⟩) 2 2) := by
  intro W b hs hb
  refine repS_row (l := [t, .node (bareHd 1) []]) hb trivial ?_ (by simp) (by simp)
  show RepL AnyB W [t, .node (bareHd 1) []] (nodeCs t.hd (.slice a t.l.length cap) ++ nodeCs (bareHd 1) (.slice none 0 0))
  rw [RepL]
  refine ⟨_, _, rfl, ?_, repL_one ?_⟩
  ·rw [← Tree.eta t, rep_node]
   exact ⟨ho, _, rfl, (hr.mono fun _ _ _ => trivial).same hs⟩
  ·rw [rep_node]
   exact ⟨bare_ok 1 (by decide), _, rfl, RepS.nil _ _⟩
 have hrow1 : ∀ W b, Same w W → W.heap[b]? = some (.cells (nodeCs t.hd (.slice a t.l.length cap)).toArray 27 (0, 0)) → RepS AnyB W [.node t.hd t.l] (.slice (some ⟨b, 0, none⟩) 1 1) := by
  intro W b hs hb
  refine repS_row (l := [.node t.hd t.l]) hb trivial ?_ (by simp) (by simp)
  show RepL AnyB W [.node t.hd t.l] (nodeCs t.hd (.slice a t.l.length cap))
  refine repL_one ?_
  rw [rep_node]
  exact ⟨ho, _, rfl, hr.same hs⟩
 have hck := fun W (hs : Same w W) hg hrr => check_any (N := N) (E := E) 2 (ownerT t) (.slice (some ⟨w.heap.size + 1, 0, none⟩) 2 2) W hg (by omega) hrr (bare_ok 8 (by decide))
 have hown := @owner_ok t
 have hs4 := @own_s t
 obtain ⟨c, hc⟩ : ∃ c, checkT (ownerT t) 2 = c := ⟨_, rfl⟩
 rw [hc] at hck hown
 have hkk := @key_kind t
 obtain ⟨h, l⟩ := t
 simp only [Tree.hd_node, Tree.l_node] at *
 clear hc hod hr
 go_enter Tryz.func98, Tryz.ntmps98
 go_wp2
 by_cases hc0 : c = 0
 ·subst hc0
  obtain ⟨hown1, hkey⟩ := hown rfl
  have hss := hs4 hown1
  have hkind := hkk hkey
  refine wp_scope_straight ?_
  go_wp2_with fail
  refine (hck _ (by repeat with_reducible first | exact Keep.refl _ _ | refine Keep.alloc ?_ _ | refine Keep.drew ?_ | refine Keep.drewN ?_ _ | refine Keep.trans ?_ (by assumption)) (hG.same (by repeat with_reducible first | exact Keep.refl _ _ | refine Keep.alloc ?_ _ | refine Keep.drew ?_ | refine Keep.drewN ?_ _ | refine Keep.trans ?_ (by assumption))) (hrow _ _ (by repeat with_reducible first | exact Keep.refl _ _ | refine Keep.alloc ?_ _ | refine Keep.drew ?_ | refine Keep.drewN ?_ _ | refine Keep.trans ?_ (by assumption)) (heap_old (heap_new' (by simp))))).mono ?_
  rintro x w1 ⟨rfl, hk1⟩
  have hbn := hk1.same w.heap.size _ (heap_old (heap_old (World.alloc_heap_new w _))) trivial
  have hk1w : Same w w1 := (by repeat with_reducible first | exact Keep.refl _ _ | refine Keep.alloc ?_ _ | refine Keep.drew ?_ | refine Keep.drewN ?_ _ | refine Keep.trans ?_ (by assumption))
  have hz1 := hk1w.size
  have hwr := fun (hs : h.s.size ≤ 400) => written_key (N := N) (E := E) AnyB h l (.slice (some ⟨w1.heap.size, 0, none⟩) 1 1) (w1.alloc (.cells (nodeCs h (.slice a l.length cap)).toArray 27)) (hG.same (hk1w.trans ((Keep.refl _ _).alloc _))) (by simp; omega) (hrow1 _ _ (hk1w.trans ((Keep.refl _ _).alloc _)) (World.alloc_heap_new _ _)) hkind hs ho.2.2.2.2.1
  clear hk1 hck hrow hown hs4 hkk hrow1
  obtain ⟨n0, n1, n2, n3, n4, n5, n6, n7, n8⟩ := cells9 hbn
  go_wp2_with fail
  refine (hwr hss).mono ?_
  rintro x w2 ⟨rfl, hk2⟩
  go_wp2
  (try simp only [Exit.noGoto])
  go_ret2
  exact ⟨_, _, rfl, by rw [strN_size]; exact Nat.le_trans (keyN_len hss) (by decide), hk1w.trans (((Keep.refl _ _).alloc _).trans hk2)⟩
 ·clear hown hs4 hkk hrow1
  have hc1 : (c == 0) = false := by rw [beq_eq_false_iff_ne]; exact hc0
  refine wp_scope_jumps (rest := ?rest) 0 (fun a w' => a.tmps.size = 15 ∧ a.defers = [] ∧ Same w w') (fun _ _ => 0) ?hf ?_ ?_
  case hf => rfl
  ·go_wp2_with fail
   refine (hck _ (by repeat with_reducible first | exact Keep.refl _ _ | refine Keep.alloc ?_ _ | refine Keep.drew ?_ | refine Keep.drewN ?_ _ | refine Keep.trans ?_ (by assumption)) (hG.same (by repeat with_reducible first | exact Keep.refl _ _ | refine Keep.alloc ?_ _ | refine Keep.drew ?_ | refine Keep.drewN ?_ _ | refine Keep.trans ?_ (by assumption))) (hrow _ _ (by repeat with_reducible first | exact Keep.refl _ _ | refine Keep.alloc ?_ _ | refine Keep.drew ?_ | refine Keep.drewN ?_ _ | refine Keep.trans ?_ (by assumption)) (heap_old (heap_new' (by simp))))).mono ?_
   rintro x w1 ⟨rfl, hk1⟩
   have hk1w : Same w w1 := (by repeat with_reducible first | exact Keep.refl _ _ | refine Keep.alloc ?_ _ | refine Keep.drew ?_ | refine Keep.drewN ?_ _ | refine Keep.trans ?_ (by assumption))
   clear hck hrow
   go_wp2
   refine wp_goto ?_
   exact ⟨rfl, rfl, rfl, hk1w⟩
  ·rintro a1 w1 ⟨h1, h2, h3⟩
   go_wp2
   simp only [Exit.jump]
   go_ret2
   exact ⟨⟨#[]⟩, 61, by simp [Array.getD, h1], Nat.zero_le _, h3⟩
end Go.Tm
namespace Go.Tm
open Go.RowKit Go.Proofs
theorem narHd_lt {h : Hd} (hu : h.u < 18446744073709551616) : (narHd h).u < 18446744073709551616 := by
 have hw := nar_widen hu
 obtain ⟨z, hz⟩ : ∃ z, (widen h.u h.w).1 = z := ⟨_, rfl⟩
 rw [hz] at hw
 obtain ⟨u, hu0⟩ : ∃ u, (narHd h).u = u := ⟨_, rfl⟩
 obtain ⟨w, hw0⟩ : ∃ w, (narHd h).w = w := ⟨_, rfl⟩
 rw [hu0, hw0] at hw
 rw [hu0]
 have hwd : ∀ p, fForm w = some p → p.2.2 ≤ 64 := by
  intro p hp
  unfold fForm at hp
  split at hp
  ·cases hp; decide
  ·split at hp
   ·cases hp; decide
   ·split at hp
    ·cases hp; decide
    ·cases hp
 unfold widen at hw
 split at hw
 ·cases hw
 ·rename_i fr ex wd hf
  split at hw
  ·cases hw
  ·rename_i hb
   have h64 := hwd _ hf
   simp only at h64
   by_cases h2 : u < 18446744073709551616
   ·exact h2
   ·exfalso
    have : 64 < bitLen u := by
     unfold bitLen
     rw [if_neg (by omega)]
     have := (Nat.le_log2 (n := u) (k := 64) (by omega)).2 (by omega)
     omega
    omega
theorem narHd_ok {h : Hd} (ho : h.ok) : (narHd h).ok := by
 obtain ⟨h1, h2, h3, h4, h5, h6⟩ := ho
 refine ⟨h1, h2, ?_, narHd_lt h4, h5, h6⟩
 show -9223372036854775808 ≤ least (widen h.u h.w).1 ∧ least (widen h.u h.w).1 ≤ 9223372036854775807
 unfold least
 split
 ·decide
 ·split <;> decide
end Go.Tm
namespace Go.Tm
open Go.RowKit Go.Proofs
theorem oper_append1 {F : Fence} {n : Nat} {w w' : World} {o : Oper} {a : Act} {K : Act → World → Prop} {Q : Exit → Act → World → Prop} {t : TypeId} {v v' vx : Value} (s x : Operand)
  (ho : o.op = .call { callee := .builtin .append, args := #[s, x], argTypes := #[t, t] }) (hs : a.eval s = v) (hx : a.eval x = vx)
  (hrun : (Builtin.append_ #[t, t] o.type #[v, vx]).run Tryz.prog w = .ok v' w') (hK : K (a.put o.dst v') w') : o.wpIn F n Tryz.prog a w K Q := by
 unfold Oper.wpIn
 refine ⟨?_, ?_⟩
 ·simp [Oper.about, ho, resolve, Target.leads, Sem.run_pure]
 ·rw [Oper.semAt_plain F _ _ (by rw [ho]; intro c hc'; cases hc')]
  simp [execOp, ho, resolve, invoke, builtin, hs, hx, hrun, Result.andThen]
  exact hK
theorem OwnL.none {S : Nat → Prop} {w : World} {B n c : Nat} {l : List Tree} (h : OwnL S w B (.slice none n c) l) : l = [] ∧ n = 0 ∧ c = 0 := by
 obtain ⟨xs, h, hr⟩ := h
 rcases h.2 with ⟨e, h0⟩ | ⟨g, cap, cur, e, _⟩
 ·cases e
  exact ⟨List.length_eq_zero_iff.1 h0, rfl, rfl⟩
 ·cases e
theorem repL_cells {S : Nat → Prop} {w : World} : ∀ {l : List Tree} {xs : List Value}, RepL S w l xs → ∀ u ∈ xs, u.oneCell' = true
 | [], xs, h, u, hu => by rw [RepL] at h; subst h; cases hu
 | .node h k :: l, xs, hh, u, hu => by
  rw [RepL] at hh
  obtain ⟨cs, rest, rfl, h1, h2⟩ := hh
  rcases List.mem_append.1 hu with hu | hu
  ·obtain ⟨_, lv, rfl, h3⟩ := rep_node.1 h1
   obtain ⟨a, c, rfl⟩ := h3.is_slice
   exact node_one _ _ _ _ u hu
  ·exact repL_cells h2 u hu
end Go.Tm
namespace Go.Tm
open Go.RowKit Go.Proofs
theorem RepS.row {S : Nat → Prop} {w : World} {l : List Tree} {lv : Value} (h : RepS S w l lv) : (lv = .slice none 0 0 ∧ l = []) ∨ ∃ ad c xs, lv = .slice (some ad) l.length c ∧ RepL S w l xs ∧ ∀ j u, xs[j]? = some u → w.cell? (ad.add j) = some u := by
 obtain ⟨xs, ⟨hn, h | ⟨b, off, cap, cur, f, e, hS, hb, hc, h1, h2⟩⟩, hl⟩ := h
 ·exact .inl ⟨h.1, List.length_eq_zero_iff.1 h.2.1⟩
 ·refine .inr ⟨⟨b, off, none⟩, cap, xs, e, hl, fun j u hj => ?_⟩
  rw [Lib.add_plain]
  rw [h2] at hj
  have hj9 : j < 9 * l.length := by
   have := (List.getElem?_eq_some_iff.1 hj).1
   simp only [List.length_take] at this; omega
  rw [List.getElem?_take_of_lt hj9, List.getElem?_drop] at hj
  unfold World.cell?
  simp only [hb]
  simpa using hj
end Go.Tm
namespace Go.Tm
open Go.RowKit Go.Proofs
theorem RepL.set {S : Nat → Prop} {w : World} {t : Tree} {cs : List Value} (ht : t.Rep S w cs) : ∀ {l : List Tree} {xs : List Value} (i : Nat), i < l.length → RepL S w l xs → RepL S w (l.set i t) (xs.take (9 * i) ++ cs ++ xs.drop (9 * (i + 1)))
 | x :: l, xs, 0, _, h => by
  rw [RepL] at h
  obtain ⟨c0, rest, rfl, h1, h2⟩ := h
  have h9 := Rep.length h1
  rw [List.set_cons_zero, RepL]
  refine ⟨cs, rest, ?_, ht, h2⟩
  rw [Nat.mul_zero, List.take_zero, List.nil_append, show 9 * (0 + 1) = c0.length by omega, List.drop_left]
 | x :: l, xs, i + 1, hi, h => by
  rw [RepL] at h
  obtain ⟨c0, rest, rfl, h1, h2⟩ := h
  have h9 := Rep.length h1
  have ih := RepL.set ht i (by simpa using hi) h2
  rw [List.set_cons_succ, RepL]
  refine ⟨c0, rest.take (9 * i) ++ cs ++ rest.drop (9 * (i + 1)), ?_, h1, ih⟩
  have e1 : (c0 ++ rest).take (9 * (i + 1)) = c0 ++ rest.take (9 * i) := by
   rw [show 9 * (i + 1) = c0.length + 9 * i by omega]; exact List.take_length_add_append _
  have e2 : (c0 ++ rest).drop (9 * (i + 1 + 1)) = rest.drop (9 * (i + 1)) := by
   rw [show 9 * (i + 1 + 1) = c0.length + 9 * (i + 1) by omega]; exact List.drop_length_add_append _
  rw [e1, e2, List.append_assoc, List.append_assoc, List.append_assoc]
def setMany (L : List Value) (o : Nat) : List Value → List Value
 | [] => L
 | c :: cs => setMany (L.set o c) (o + 1) cs
theorem setMany_eq : ∀ (cs : List Value) (o : Nat) (L : List Value), o + cs.length ≤ L.length → setMany L o cs = L.take o ++ cs ++ L.drop (o + cs.length)
 | [], o, L, h => by simp [setMany]
 | c :: cs, o, L, h => by
  simp only [List.length_cons] at h
  rw [setMany, setMany_eq cs (o + 1) (L.set o c) (by rw [List.length_set]; omega)]
  have h1 : (L.set o c).take (o + 1) = L.take o ++ [c] := by
   rw [List.set_eq_take_append_cons_drop, if_pos (by omega)]
   have : (L.take o).length = o := by rw [List.length_take]; omega
   conv => lhs; rw [show o + 1 = (L.take o).length + 1 by omega]
   rw [List.take_length_add_append]
   simp
  have h2 : (L.set o c).drop (o + 1 + cs.length) = L.drop (o + (c :: cs).length) := by
   rw [List.drop_set_of_lt (by omega), List.length_cons]
   congr 1; omega
  rw [h1, h2]
  simp
theorem setMany_len : ∀ (cs : List Value) (o : Nat) (L : List Value), (setMany L o cs).length = L.length
 | [], _, _ => rfl
 | c :: cs, o, L => by rw [setMany, setMany_len cs, List.length_set]
def World.set9 (w : World) (g o : Nat) (a0 a1 a2 a3 a4 a5 a6 a7 a8 : Value) : World :=
 (((((((((w.setCell ⟨g, o, none⟩ a0).setCell ⟨g, o + 1, none⟩ a1).setCell ⟨g, o + 2, none⟩ a2).setCell ⟨g, o + 3, none⟩ a3).setCell ⟨g, o + 4, none⟩ a4).setCell ⟨g, o + 5, none⟩ a5).setCell ⟨g, o + 6, none⟩ a6).setCell ⟨g, o + 7, none⟩ a7).setCell ⟨g, o + 8, none⟩ a8)
theorem set9_keep (w : World) (g o : Nat) (a0 a1 a2 a3 a4 a5 a6 a7 a8 : Value) : Keep (fun k _ => k ≠ g) w (World.set9 w g o a0 a1 a2 a3 a4 a5 a6 a7 a8) := by
 unfold World.set9
 repeat (first | with_reducible exact Keep.refl _ _ | with_reducible refine Keep.setCell ?_ _ ?_ | exact fun o _ h _ => h rfl)
theorem set9_heap {w : World} {g o : Nat} {cur : Array Value} {t : TypeId} {f : Nat × Nat} (h : w.heap[g]? = some (.cells cur t f)) (a0 a1 a2 a3 a4 a5 a6 a7 a8 : Value) :
  ∃ cur', (World.set9 w g o a0 a1 a2 a3 a4 a5 a6 a7 a8).heap[g]? = some (.cells cur' t f) ∧ cur'.toList = setMany cur.toList o [a0, a1, a2, a3, a4, a5, a6, a7, a8] :=
 ⟨_, setCell_heap (setCell_heap (setCell_heap (setCell_heap (setCell_heap (setCell_heap (setCell_heap (setCell_heap (setCell_heap h o a0) (o + 1) a1) (o + 2) a2) (o + 3) a3) (o + 4) a4) (o + 5) a5) (o + 6) a6) (o + 7) a7) (o + 8) a8, by simp [setMany]⟩
theorem OwnL.set {S : Nat → Prop} {w : World} {B g n cap : Nat} {l : List Tree} (h : OwnL S w B (.slice (some ⟨g, 0, .none⟩) n cap) l) (i : Nat) (hi : i < l.length) (q : Hd) (m : List Tree) (mv : Value) (hq : q.ok) (hm : RepS (fun b => S b ∧ b ≠ g) w m mv) :
  OwnL S (World.set9 w g (9 * i) (.int .i64 q.kind) (.bool q.b) (.bool q.d.neg) (.string q.d.digits) (.int .i64 q.d.exp) (.int .u64 q.u) (.int .i64 q.w) (.string q.s) mv) B (.slice (some ⟨g, 0, .none⟩) n cap) (l.set i (.node q m)) := by
 obtain ⟨xs, ⟨hx, hr⟩, hrep⟩ := h
 rcases hr with ⟨e, _⟩ | ⟨g', cap', cur, e, hb, hg, hnc, hcm, hcs, htk⟩
 ·cases e
 ·cases e
  obtain ⟨cur', hg', hcl⟩ := set9_heap (o := 9 * i) hg (.int .i64 q.kind) (.bool q.b) (.bool q.d.neg) (.string q.d.digits) (.int .i64 q.d.exp) (.int .u64 q.u) (.int .i64 q.w) (.string q.s) mv
  have hk := set9_keep w g (9 * i) (.int .i64 q.kind) (.bool q.b) (.bool q.d.neg) (.string q.d.digits) (.int .i64 q.d.exp) (.int .u64 q.u) (.int .i64 q.w) (.string q.s) mv
  have hset : RepL (fun b => S b ∧ (Value.slice (some ⟨g, 0, .none⟩) l.length cap).ownBlock ≠ some b) w (l.set i (.node q m)) (xs.take (9 * i) ++ nodeCs q mv ++ xs.drop (9 * (i + 1))) :=
   RepL.set (rep_node.2 ⟨hq, mv, rfl, hm.mono fun b _ hh => ⟨hh.1, by simp [Value.ownBlock]; exact fun e => hh.2 e.symm⟩⟩) i hi hrep
  have hlen : cur.toList.length = cap * 9 := by rw [Array.length_toList, hcs]
  have hmany := setMany_eq (nodeCs q mv) (9 * i) cur.toList (by simp only [List.length_cons, List.length_nil]; omega)
  refine ⟨xs.take (9 * i) ++ nodeCs q mv ++ xs.drop (9 * (i + 1)), ⟨?_, .inr ⟨g, cap, cur', ?_, hb, hg', ?_, hcm, ?_, ?_⟩⟩, ?_⟩
  ·rw [List.length_set]
   simp only [List.length_append, List.length_take, List.length_drop, List.length_cons, List.length_nil]
   omega
  ·rw [List.length_set]
  ·rw [List.length_set]; omega
  ·rw [← Array.length_toList, hcl, setMany_len, hlen]
  ·rw [List.length_set, hcl]
   rw [show ([.int .i64 q.kind, .bool q.b, .bool q.d.neg, .string q.d.digits, .int .i64 q.d.exp, .int .u64 q.u, .int .i64 q.w, .string q.s, mv] : List Value) = nodeCs q mv from rfl, hmany, ← htk]
   have hA : (cur.toList.take (9 * i)).length = 9 * i := by rw [List.length_take]; omega
   rw [List.take_take, Nat.min_eq_left (by omega), List.drop_take, List.append_assoc, List.append_assoc]
   obtain ⟨R, hR⟩ : ∃ R, l.length * 9 = (cur.toList.take (9 * i)).length + ((nodeCs q mv).length + R) := ⟨l.length * 9 - 9 * i - 9, by rw [hA]; simp only [List.length_cons, List.length_nil]; omega⟩
   have hR2 : l.length * 9 - 9 * (i + 1) = R := by rw [hR, hA]; simp only [List.length_cons, List.length_nil]; omega
   rw [hR2, hR, List.take_length_add_append, List.take_length_add_append]
   rw [show 9 * i + (nodeCs q mv).length = 9 * (i + 1) from rfl]
  ·exact hset.keep hk fun b hh c f => by
    intro e
    exact hh.2 (by rw [e]; rfl)
end Go.Tm
namespace Go.Tm
open Go.RowKit Go.Proofs
theorem run_copy_nodes (w : World) (ty : TypeId) (g n c sc : Nat) (a : Addr) (cur : Array Value) (cs : List Value) (hg : w.heap[g]? = some (.cells cur 27 (0, 0))) (hn : cs.length = n * 9)
  (hsrc : ∀ j v, cs[j]? = some v → w.cell? (a.add j) = some v) (hfit : cs.length ≤ cur.size) (h1 : ∀ v ∈ cs, v.oneCell' = true) :
  (Builtin.copy_ #[25, 25] ty #[.slice (some ⟨g, 0, none⟩) n c, .slice (some a) n sc]).run Tryz.prog w = .ok (goInt n) (w.setRow g (cs ++ cur.toList.drop cs.length).toArray) := by
 have hl := run_loadCells_list (P := Tryz.prog) w a cs hsrc
 have hst := run_storeCells_at Tryz.prog g 0 27 cs 0 cur w hg (by simpa using hfit) h1
 obtain ⟨i, hi, hp⟩ := Option.map_eq_some_iff.1 node_info
 have h9 : i.size = 9 := congrArg (fun x => x.2.1) hp
 simp only [Nat.zero_add, List.take_zero, List.nil_append] at hst
 simp [Builtin.copy_, run_underlying Tryz.underlying25, Builtin.lenOf, Builtin.firstCells, sizeOf, typeInfo, hi, h9, ← hn, hl, hst]
theorem run_copy_nodes0 (w : World) (ty : TypeId) (g c sc : Nat) (a : Option Addr) :
  (Builtin.copy_ #[25, 25] ty #[.slice (some ⟨g, 0, none⟩) 0 c, .slice a 0 sc]).run Tryz.prog w = .ok (goInt (0 : Nat)) w := by
 obtain ⟨i, hi, hp⟩ := Option.map_eq_some_iff.1 node_info
 have h9 : i.size = 9 := congrArg (fun x => x.2.1) hp
 have hl : ∀ (x : Addr), (loadCells x 0).run Tryz.prog w = .ok #[] w := fun x => by simpa using run_loadCells_list (P := Tryz.prog) w x [] (by simp)
 cases a <;> simp [Builtin.copy_, run_underlying Tryz.underlying25, Builtin.lenOf, Builtin.firstCells, sizeOf, typeInfo, hi, storeCells, hl]
theorem make_nodes (w : World) (n : Nat) (hn : n ≤ 1000) : ∃ z : Array Value, z.size = n * 9 ∧ (Instr.makeSlice 25 (.int .i64 (n : Int)) (.int .i64 (n : Int))).run Tryz.prog w = .ok (.slice (some ⟨w.heap.size, 0, none⟩) n n) (w.alloc (.cells z 27)) := by
 obtain ⟨i, hi, hp⟩ := Option.map_eq_some_iff.1 node_info
 have h0 : i.zero = some (nodeV ⟨0, false, noDc, 0, 0, ⟨#[]⟩⟩ (.slice none 0 0)) := congrArg (fun x => x.1) hp
 have h9 : i.size = 9 := congrArg (fun x => x.2.1) hp
 have h104 : i.bytes = 104 := congrArg (fun x => x.2.2) hp
 have hrun := run_makeSlice (P := Tryz.prog) w 25 27 i _ Tryz.underlying25 hi h0 .i64 .i64 n n (by omega) (by omega) (by rw [h9]; omega) (by rw [h104]; omega) (by omega)
 exact ⟨_, by rw [size_madeCells, h9, Int.toNat_natCast], hrun⟩
theorem copy_own {S : Nat → Prop} {w : World} {l : List Tree} {a : Option Addr} {cap : Nat} (ty : TypeId) (z : Array Value) (hr : RepS (fun b => S b ∧ b < w.heap.size) w l (.slice a l.length cap)) (hz : z.size = l.length * 9) :
  ∃ w', (Builtin.copy_ #[25, 25] ty #[.slice (some ⟨w.heap.size, 0, none⟩) l.length l.length, .slice a l.length cap]).run Tryz.prog (w.alloc (.cells z 27)) = .ok (goInt l.length) w' ∧ OwnL S w' w.heap.size (.slice (some ⟨w.heap.size, 0, none⟩) l.length l.length) l ∧ Same w w' := by
 have hg : (w.alloc (.cells z 27)).heap[w.heap.size]? = some (.cells z 27 (0, 0)) := World.alloc_heap_new w _
 have hs : Same w (w.alloc (.cells z 27)) := (Keep.refl _ _).alloc _
 obtain ⟨xs, hsl, hl⟩ := hr
 have hxl := hl.length
 have hone := repL_cells hl
 have fin : ∀ W, W.heap[w.heap.size]? = some (.cells xs.toArray 27 (0, 0)) → Same w W → l.length ≤ 1099511627776 → OwnL S W w.heap.size (.slice (some ⟨w.heap.size, 0, none⟩) l.length l.length) l := by
  intro W hW hsW hn
  refine ⟨xs, ⟨by omega, .inr ⟨w.heap.size, l.length, xs.toArray, rfl, Nat.le_refl _, hW, Nat.le_refl _, by unfold maxLen; omega, by simp; omega, ?_⟩⟩, ?_⟩
  ·show _ = _
   rw [show l.length * 9 = xs.length by omega, List.take_length]
  ·exact (hl.mono fun b _ hh => ⟨hh.1, by simp [Value.ownBlock]; omega⟩).same hsW
 obtain ⟨hn, h | ⟨b, off, cap', cur, f, e, hS, hb, hc, h1, h2⟩⟩ := hsl
 ·obtain ⟨e, h0, hx⟩ := h
  simp only [Value.slice.injEq] at e
  obtain ⟨rfl, _, rfl⟩ := e
  have hz0 : z = #[] := Array.eq_empty_of_size_eq_zero (by omega)
  have := run_copy_nodes0 (w.alloc (.cells z 27)) ty w.heap.size l.length 0 none
  rw [h0]
  rw [h0] at this
  refine ⟨_, this, ?_, hs⟩
  have hf := fin _ (by rw [hg, hx, hz0]) hs hn
  rw [h0] at hf
  exact hf
 ·cases e
  have hsrc : ∀ j v, xs[j]? = some v → (w.alloc (.cells z 27)).cell? ((⟨b, off, none⟩ : Addr).add j) = some v := by
   intro j v hj
   have hadd : (⟨b, off, none⟩ : Addr).add j = ⟨b, off + j, none⟩ := by unfold Addr.add; split <;> simp_all
   have hb2 := hs.same _ _ hb trivial
   rw [hadd]
   unfold World.cell?
   rw [hb2]
   subst h2
   rw [List.getElem?_take] at hj
   split at hj
   ·rw [List.getElem?_drop] at hj
    simpa using hj
   ·cases hj
  have hrun := run_copy_nodes (w.alloc (.cells z 27)) ty w.heap.size l.length l.length cap ⟨b, off, none⟩ z xs hg (by omega) hsrc (by omega) hone
  have hd : xs ++ z.toList.drop xs.length = xs := by rw [List.drop_of_length_le (by rw [Array.length_toList]; omega), List.append_nil]
  rw [hd] at hrun
  have hsW : Same w ((w.alloc (.cells z 27)).setRow w.heap.size xs.toArray) := by
   refine ⟨rfl, rfl, rfl, by simp [World.setRow], fun k o ho _ => ?_⟩
   have hlt := lt_of_some ho
   rw [setRow_other _ _ _ _ (by omega)]
   exact hs.same _ _ ho trivial
  exact ⟨_, hrun, fin _ (setRow_heap _ _ _ _ _ _ hg) hsW hn, hsW⟩
end Go.Tm
namespace Go.Tm
open Go.Sort
def pairsM : List Tree → List (ByteArray × Tree)
 | k :: x :: l => (k.hd.s, x) :: pairsM l
 | _ => []
end Go.Tm
namespace Go.Tm
open Go.RowKit Go.Proofs Go.Sort Go.Shelf
structure CInv (S : Nat → Prop) (w : World) (l : List Tree) (i : Nat) (ms : List Mem) (lv : Value) (A : World) : Prop where
 len : ms.length = i
 prs : ms.map Mem.pair = (pairsM l).take i
 good : ∀ m ∈ ms, m.good S A
 sb : Boxed A w.heap.size 68 lv
 row : A.ownsRow (w.heap.size + 1) 71 18 lv i (flatM ms)
 fr : Same w A
 sz : w.heap.size + 1 ≤ A.heap.size
theorem CInv.keep {K : Nat → Obj → Prop} {S : Nat → Prop} {w : World} {l : List Tree} {i : Nat} {ms : List Mem} {lv : Value} {A B : World} (h : CInv S w l i ms lv A) (hk : Keep K A B) (hK : ∀ k o, k < w.heap.size + 1 ∨ o.isCells = true → K k o) : CInv S w l i ms lv B where
 len := h.len
 prs := h.prs
 good m hm := ⟨(h.good m hm).1, (h.good m hm).2.1, (h.good m hm).2.2.1.keep hk fun k _ c f => hK _ _ (.inr rfl), (h.good m hm).2.2.2.keep hk fun k _ c f => hK _ _ (.inr rfl)⟩
 sb := hk.boxed h.sb (hK _ _ (.inr rfl))
 row := own_keep h.row hk fun _ _ _ _ => hK _ _ (.inr rfl)
 fr := ⟨hk.os.trans h.fr.os, hk.tape.trans h.fr.tape, hk.output.trans h.fr.output, Nat.le_trans h.fr.size hk.size, fun k o hko _ => hk.same k o (h.fr.same k o hko trivial) (hK _ _ (.inl (by have := lt_of_some hko; omega)))⟩
 sz := Nat.le_trans h.sz hk.size
theorem CInv.own {S : Nat → Prop} {w : World} {l : List Tree} {i : Nat} {ms : List Mem} {lv : Value} {A : World} (h : CInv S w l i ms lv A) (k : Nat) (hk : lv.ownBlock = some k) : w.heap.size + 1 ≤ k ∧ ∃ c, A.heap[k]? = some (.cells c 71 (0, 0)) := by
 rcases h.row.2 with ⟨rfl, _⟩ | ⟨g, cap, cur, rfl, hg, hgg, _⟩
 ·cases hk
 ·simp only [Value.ownBlock, Option.some.injEq] at hk
  subst hk
  exact ⟨hg, cur, hgg⟩
end Go.Tm
namespace Go.Tm
open Go.RowKit Go.Proofs Go.Sort Go.Shelf
theorem OwnL.block {S : Nat → Prop} {w : World} {B n c : Nat} {a : Option Addr} {l : List Tree} (h : OwnL S w B (.slice a n c) l) (h0 : 0 < l.length) : ∃ g cur, a = some ⟨g, 0, .none⟩ ∧ B ≤ g ∧ w.heap[g]? = some (.cells cur 27 (0, 0)) := by
 obtain ⟨xs, ⟨hx, ⟨_, h1⟩ | ⟨g, cap, cur, e, hb, hg, _⟩⟩, _⟩ := h
 ·omega
 ·cases e; exact ⟨g, cur, rfl, hb, hg⟩
theorem OwnL.get {S : Nat → Prop} {w : World} {B g n c : Nat} {l : List Tree} (h : OwnL S w B (.slice (some ⟨g, 0, .none⟩) n c) l) (i : Nat) (hi : i < l.length) :
  ∃ lv, (l[i]).hd.ok ∧ RepS (fun b => S b ∧ b ≠ g) w (l[i]).l lv ∧ w.rangeAt g (i * 9) (nodeCs (l[i]).hd lv) := by
 obtain ⟨xs, hrow, hr⟩ := h
 have hcl := hrow.cells (g := g) rfl
 have hg := hr.get i hi
 have hx : l[i] = .node (l[i]).hd (l[i]).l := (Tree.eta _).symm
 rw [hx, rep_node] at hg
 obtain ⟨ho, lv, e, hr2⟩ := hg
 refine ⟨lv, ho, hr2.mono fun b _ hh => ⟨hh.1, fun e => hh.2 (by rw [e]; rfl)⟩, fun j v hj => ?_⟩
 rw [← e] at hj
 have hj9 : j < 9 := by
  have := (List.getElem?_eq_some_iff.1 hj).1
  simp only [List.length_take] at this; omega
 rw [List.getElem?_take_of_lt hj9, List.getElem?_drop] at hj
 have := hcl _ _ hj
 rw [Lib.add_plain] at this
 simpa [Nat.mul_comm] using this
theorem same_two {w a b c : World} {x y : Nat} (h : Same w a) (h1 : Keep (fun k _ => k ≠ x) a b) (h2 : Keep (fun k _ => k ≠ y) b c) (hx : w.heap.size ≤ x) (hy : w.heap.size ≤ y) : Same w c :=
 ⟨h2.os.trans (h1.os.trans h.os), h2.tape.trans (h1.tape.trans h.tape), h2.output.trans (h1.output.trans h.output), Nat.le_trans h.size (Nat.le_trans h1.size h2.size), fun k o hk _ => h2.same k o (h1.same k o (h.same k o hk trivial) (by have := lt_of_some hk; omega)) (by have := lt_of_some hk; omega)⟩
end Go.Tm
namespace Go.Tm
open Go.RowKit Go.Proofs
def SettOut (S : Nat → Prop) (t : Tree) (w : World) (e : Ending) (w' : World) : Prop := ∃ (r : Tree) (lv' : Value), e = .returned (nodeV r.hd lv') ∧ SetR t r ∧ r.hd.ok ∧ RepS S w' r.l lv' ∧ Same w w'
def SettAt (N : Nat) (E : Errs) (t : Tree) : Prop := ∀ (S : Nat → Prop) (lv : Value) (w : World), Glob N E w → N ≤ w.heap.size → (∀ b, w.heap.size ≤ b → S b) → t.hd.ok → RepS S w t.l lv → Calls Tryz.prog 37 #[nodeV t.hd lv] w (SettOut S t w)
set_option maxRecDepth 100000 in
set_option maxHeartbeats 2000000 in
theorem set_float {N : Nat} {E : Errs} (h : Hd) (l : List Tree) (h4 : h.kind = 4) : SettAt N E (.node h l) := by
 intro S lv w hG hN hS hok hr
 simp only [Tree.hd_node, Tree.l_node] at hok hr ⊢
 have hk : SetR (.node h l) (.node (narHd h) l) := by rw [SetR, if_pos h4]
 have hno := narHd_ok hok
 obtain ⟨a, cap, rfl⟩ := hr.is_slice
 obtain ⟨n, hn⟩ : ∃ n, l.length = n := ⟨_, rfl⟩
 rw [hn] at hr ⊢
 have hna := fun W => narrowed_any h a n cap W hok.2.2.2.1
 have k4 : (h.kind == 4) = true := by simpa using h4
 obtain ⟨g, hg⟩ : ∃ g, narHd h = g := ⟨_, rfl⟩
 rw [hg] at hk hno hna
 clear h4 hg
 go_enter Tryz.func37, Tryz.ntmps37
 go_wp2_with fail
 refine (hna _).mono ?_
 rintro e w1 ⟨rfl, hk1⟩
 have hr1 := hk1.same (w.heap.size + 1) _ (show _ = some (.cells #[.int .i64 0, .bool false, .bool false, .string ⟨#[]⟩, .int .i64 0, .int .u64 0, .int .i64 0, .string ⟨#[]⟩, .slice none 0 0] 27 (0, 0)) from heap_new' (by simp)) trivial
 have hkw1 : Same w w1 := (by repeat with_reducible first | exact Keep.refl _ _ | refine Keep.alloc ?_ _ | refine Keep.drew ?_ | refine Keep.drewN ?_ _ | refine Keep.trans ?_ (by assumption))
 clear hk1 hna
 obtain ⟨m0, m1, m2, m3, m4, m5, m6, m7, m8⟩ := cells9 hr1
 have hfr : ∀ j, w1.frozen? ⟨w.heap.size + 1, j, none⟩ = false := Lib.frozen_of_heap hr1
 go_wp2_with fail
 (try simp only [Exit.inBlock, Exit.then])
 obtain ⟨h9, hk9⟩ := put9 hr1 (.int .i64 g.kind) (.bool g.b) (.bool g.d.neg) (.string g.d.digits) (.int .i64 g.d.exp) (.int .u64 g.u) (.int .i64 g.w) (.string g.s) (.slice a n cap)
 have hsm : Same w _ := ⟨hk9.os.trans hkw1.os, hk9.tape.trans hkw1.tape, hk9.output.trans hkw1.output, Nat.le_trans hkw1.size hk9.size, fun y o hy _ => hk9.same y o (hkw1.same y o hy trivial) (by have := lt_of_some hy; omega)⟩
 refine bodyPost_ret (results_cell_row rfl _ _ (w.heap.size + 1) 27 _ (0, 0) _ rfl h9 Tryz.underlying27 rfl (by kernel_rfl)) rfl ⟨.node g l, _, rfl, hk, hno, ?_, hsm⟩
 rw [Tree.l_node]
 exact hr.same hsm
theorem OwnL.has_block {S : Nat → Prop} {w : World} {B n c : Nat} {a : Addr} {l : List Tree} (h : OwnL S w B (.slice (some a) n c) l) : a.block < w.heap.size := by
 obtain ⟨xs, ⟨hx, ⟨e, _⟩ | ⟨g, cap, cur, e, hb, hg, _⟩⟩, _⟩ := h
 ·cases e
 ·cases e; exact lt_of_some hg
theorem setL_snoc {x y : Tree} (h : SetR x y) : ∀ {l m : List Tree}, SetL l m → SetL (l ++ [x]) (m ++ [y])
 | [], m, hm => by
  rw [SetL] at hm
  subst hm
  show SetL [x] [y]
  rw [SetL]
  exact ⟨y, [], h, by rw [SetL], rfl⟩
 | z :: l, m, hm => by
  rw [SetL] at hm
  obtain ⟨u, k, h1, h2, rfl⟩ := hm
  show SetL (z :: (l ++ [x])) _
  rw [SetL]
  exact ⟨u, k ++ [y], h1, setL_snoc h h2, rfl⟩
theorem set_next {l m : List Tree} {k : Nat} (hk : k < l.length) (hm : m.length = k) (y : Tree) : (m ++ l.drop k).set k y = (m ++ [y]) ++ l.drop (k + 1) := by
 subst hm
 rw [List.set_append_right _ _ (Nat.le_refl _), Nat.sub_self, List.drop_eq_getElem_cons hk, List.set_cons_zero, List.append_assoc]
 rfl
theorem set_here {l m : List Tree} {k : Nat} (hk : k < l.length) (hm : m.length = k) (h : k < (m ++ l.drop k).length) : (m ++ l.drop k)[k] = l[k] := by
 subst hm
 rw [List.getElem_append_right (Nat.le_refl _)]
 simp
set_option maxRecDepth 100000 in
set_option maxHeartbeats 2000000 in
theorem set_plain {N : Nat} {E : Errs} (h : Hd) (l : List Tree) (ih : ∀ x ∈ l, SettAt N E x) (hl : l.length ≤ 1000) (h4 : h.kind ≠ 4) (h8 : h.kind ≠ 8) : SettAt N E (.node h l) := by
 intro S lv w hG hN hS hok hr
 simp only [Tree.hd_node, Tree.l_node] at hok hr ⊢
 obtain ⟨a, cap, rfl⟩ := hr.is_slice
 have k4 : (h.kind == 4) = false := by simpa using h4
 have k8 : (h.kind == 8) = false := by simpa using h8
 obtain ⟨n, hn⟩ : ∃ n, l.length = n := ⟨_, rfl⟩
 have hn1 : (n : Int) ≤ 1000 := by omega
 rw [hn]
 go_enter Tryz.func37, Tryz.ntmps37
 go_wp2_with fail
 have hb0 : ((w.alloc (.cells #[.int .i64 h.kind, .bool h.b, .bool h.d.neg, .string h.d.digits, .int .i64 h.d.exp, .int .u64 (h.u : Int), .int .i64 h.w, .string h.s, .slice a n cap] 27)).alloc (.cells #[.int .i64 0, .bool false, .bool false, .string ⟨#[]⟩, .int .i64 0, .int .u64 0, .int .i64 0, .string ⟨#[]⟩, .slice none 0 0] 27)).heap[w.heap.size]? = some (.cells #[.int .i64 h.kind, .bool h.b, .bool h.d.neg, .string h.d.digits, .int .i64 h.d.exp, .int .u64 (h.u : Int), .int .i64 h.w, .string h.s, .slice a n cap] 27 (0, 0)) := (by repeat (first | with_reducible exact heap_new' (by simp) | with_reducible refine heap_old ?_ | with_reducible refine heap_drew ?_))
 have hz0 : ((w.alloc (.cells #[.int .i64 h.kind, .bool h.b, .bool h.d.neg, .string h.d.digits, .int .i64 h.d.exp, .int .u64 (h.u : Int), .int .i64 h.w, .string h.s, .slice a n cap] 27)).alloc (.cells #[.int .i64 0, .bool false, .bool false, .string ⟨#[]⟩, .int .i64 0, .int .u64 0, .int .i64 0, .string ⟨#[]⟩, .slice none 0 0] 27)).heap[w.heap.size + 1]? = some (.cells #[.int .i64 0, .bool false, .bool false, .string ⟨#[]⟩, .int .i64 0, .int .u64 0, .int .i64 0, .string ⟨#[]⟩, .slice none 0 0] 27 (0, 0)) := (by repeat (first | with_reducible exact heap_new' (by simp) | with_reducible refine heap_old ?_ | with_reducible refine heap_drew ?_))
 have hs1 : ((w.alloc (.cells #[.int .i64 h.kind, .bool h.b, .bool h.d.neg, .string h.d.digits, .int .i64 h.d.exp, .int .u64 (h.u : Int), .int .i64 h.w, .string h.s, .slice a n cap] 27)).alloc (.cells #[.int .i64 0, .bool false, .bool false, .string ⟨#[]⟩, .int .i64 0, .int .u64 0, .int .i64 0, .string ⟨#[]⟩, .slice none 0 0] 27)).heap.size = w.heap.size + 2 := by simp
 have hk1 : Same w ((w.alloc (.cells #[.int .i64 h.kind, .bool h.b, .bool h.d.neg, .string h.d.digits, .int .i64 h.d.exp, .int .u64 (h.u : Int), .int .i64 h.w, .string h.s, .slice a n cap] 27)).alloc (.cells #[.int .i64 0, .bool false, .bool false, .string ⟨#[]⟩, .int .i64 0, .int .u64 0, .int .i64 0, .string ⟨#[]⟩, .slice none 0 0] 27)) := (by repeat with_reducible first | exact Keep.refl _ _ | refine Keep.alloc ?_ _ | refine Keep.drew ?_ | refine Keep.drewN ?_ _ | refine Keep.trans ?_ (by assumption))
 generalize ((w.alloc (.cells #[.int .i64 h.kind, .bool h.b, .bool h.d.neg, .string h.d.digits, .int .i64 h.d.exp, .int .u64 (h.u : Int), .int .i64 h.w, .string h.s, .slice a n cap] 27)).alloc (.cells #[.int .i64 0, .bool false, .bool false, .string ⟨#[]⟩, .int .i64 0, .int .u64 0, .int .i64 0, .string ⟨#[]⟩, .slice none 0 0] 27)) = W1 at hb0 hz0 hs1 hk1 ⊢
 obtain ⟨z, hzs, hmk⟩ := make_nodes W1 n (by omega)
 rw [hmk]
 obtain ⟨S0, hS0e⟩ : ∃ S0, S0 = (fun b => S b ∧ b ≠ w.heap.size ∧ b ≠ w.heap.size + 1) := ⟨_, rfl⟩
 have hSm : ∀ b, S0 b → S b := fun b hb => by rw [hS0e] at hb; exact hb.1
 have hSne : ∀ b, S0 b → b ≠ w.heap.size ∧ b ≠ w.heap.size + 1 := fun b hb => by rw [hS0e] at hb; exact hb.2
 have hSn : ∀ b, w.heap.size + 2 ≤ b → S0 b := fun b hb => by rw [hS0e]; exact ⟨hS b (by omega), by omega, by omega⟩
 have hrk : RepS (fun b => S0 b ∧ b < W1.heap.size) W1 l (.slice a l.length cap) := (hr.mono fun b hb hh => ⟨by rw [hS0e]; exact ⟨hh, by omega, by omega⟩, by omega⟩).same hk1
 clear hS0e
 obtain ⟨W3, hcp, hown, hk3⟩ := copy_own (a := a) (cap := cap) 3 z hrk (by omega)
 rw [hn, hs1] at hcp hown
 have hk2 : Same W1 (W1.alloc (.cells z 27)) := (Keep.refl _ _).alloc _
 have hb2 := hk2.same _ _ hb0 trivial
 obtain ⟨n0, n1, n2, n3, n4, n5, n6, n7, n8⟩ := cells9 hb2
 go_wp2_with fail
 have hb3 := hk3.same _ _ hb0 trivial
 have hz3 := hk3.same _ _ hz0 trivial
 have hkw3 := hk1.trans hk3
 have hs3 : w.heap.size + 3 ≤ W3.heap.size := by
  have h9 : w.heap.size + 2 < W3.heap.size := hown.has_block
  omega
 clear hcp hmk hb2 hb0 hz0 hk2 hk3 hk1 hrk hzs n0 n1 n2 n3 n4 n5 n6 n7 n8
 go_loopw [29] (fun iv wr => ∃ k : Nat, k ≤ n ∧ iv = .int .i64 (k : Int) ∧ wr.heap[w.heap.size]? = some (.cells #[.int .i64 h.kind, .bool h.b, .bool h.d.neg, .string h.d.digits, .int .i64 h.d.exp, .int .u64 (h.u : Int), .int .i64 h.w, .string h.s, .slice a n cap] 27 (0, 0)) ∧ wr.heap[w.heap.size + 1]? = some (.cells #[.int .i64 0, .bool false, .bool false, .string ⟨#[]⟩, .int .i64 0, .int .u64 0, .int .i64 0, .string ⟨#[]⟩, .slice none 0 0] 27 (0, 0)) ∧
  (∃ m, SetL (l.take k) m ∧ m.length = k ∧ OwnL S0 wr (w.heap.size + 2) (.slice (some ⟨w.heap.size + 2, 0, none⟩) n n) (m ++ l.drop k)) ∧ Same w wr ∧ w.heap.size + 3 ≤ wr.heap.size) (fun iv _ => n - (RowKit.intOf iv).toNat)
 case atStart => exact ⟨0, Nat.zero_le _, rfl, hb3, hz3, ⟨[], by rw [List.take_zero, SetL], rfl, by simpa using hown⟩, hkw3, hs3⟩
 case round =>
  obtain ⟨k, hkn, rfl, hb, hz, ⟨m, hml, hmk, hown⟩, hsm, hsz⟩ := hrel
  clear hb3 hz3 hkw3 hs3
  by_cases hlt : k < n
  ·have hkl : k < l.length := by omega
   have hlen : k < (m ++ l.drop k).length := by rw [List.length_append, hmk, List.length_drop]; omega
   obtain ⟨xlv, hxo, hxr, hxa⟩ := hown.get k hlen
   obtain ⟨_, cur, e9, _, hgc⟩ := hown.block (by omega)
   cases e9
   rw [set_here hkl hmk hlen] at hxo hxr hxa
   have hihx := ih l[k] (List.getElem_mem hkl)
   have hcall := fun W (hs : Same wr W) => hihx (fun b => S0 b ∧ b ≠ w.heap.size + 2) xlv W ((hG.same hsm).same hs) (by have := hs.size; omega) (fun b hb => ⟨hSn b (by have := hs.size; omega), by have := hs.size; omega⟩) hxo (hxr.same hs)
   unfold SettOut at hcall
   have hnx := fun y => set_next (m := m) hkl hmk y
   have htk : l.take (k + 1) = l.take k ++ [l[k]] := by rw [List.take_add_one, List.getElem?_eq_getElem hkl]; rfl
   have hsn := fun y (hy : SetR l[k] y) => setL_snoc hy hml
   rw [← htk] at hsn
   generalize l[k] = xt at hxo hxr hxa hcall hsn
   obtain ⟨q, xl⟩ := xt
   simp only [Tree.hd_node, Tree.l_node] at hxo hxr hxa hcall
   obtain ⟨xa, xc, rfl⟩ := hxr.is_slice
   obtain ⟨c0, c1, c2, c3, c4, c5, c6, c7, c8⟩ := nodeAt_of hxa
   clear hihx htk hxr ih hml
   go_wp2_with fail
   have hk5 : Same wr (wr.alloc (.cells #[.int .i64 q.kind, .bool q.b, .bool q.d.neg, .string q.d.digits, .int .i64 q.d.exp, .int .u64 (q.u : Int), .int .i64 q.w, .string q.s, .slice xa xl.length xc] 27)) := (Keep.refl _ _).alloc _
   refine (hcall _ hk5).mono ?_
   rintro e w6 ⟨r, lv6, rfl, hsr, hro, hr6, hk6⟩
   have hkr6 := hk5.trans hk6
   have hb6 := hkr6.same _ _ hb trivial
   have hz6 := hkr6.same _ _ hz trivial
   have hown6 := hown.same hkr6
   have hsm6 := hsm.trans hkr6
   have hs6 := hkr6.size
   have hst := hsn r hsr
   have hny := hnx r
   obtain ⟨ylv, _, _, hya⟩ := hown6.get k hlen
   obtain ⟨_, cur6, e9, _, hgc6⟩ := hown6.block (by omega)
   cases e9
   have hfz : ∀ j, w6.frozen? ⟨w.heap.size + 2, j, none⟩ = false := Lib.frozen_of_heap hgc6
   obtain ⟨u, ul⟩ := r
   simp only [Tree.hd_node, Tree.l_node] at hro hr6
   obtain ⟨a6, cc6, rfl⟩ := hr6.is_slice
   clear c0 c1 c2 c3 c4 c5 c6 c7 c8 hcall hsn hnx hxa hxo hb hz hown hsm hk5 hk6 hkr6 hgc
   obtain ⟨c0, c1, c2, c3, c4, c5, c6, c7, c8⟩ := nodeAt_of hya
   have hset := hown6.set k hlen u ul (.slice a6 ul.length cc6) hro hr6
   rw [Nat.mul_comm 9 k] at hset
   have hk67 := set9_keep w6 (w.heap.size + 2) (k * 9) (.int .i64 u.kind) (.bool u.b) (.bool u.d.neg) (.string u.d.digits) (.int .i64 u.d.exp) (.int .u64 u.u) (.int .i64 u.w) (.string u.s) (.slice a6 ul.length cc6)
   rw [hny] at hset
   obtain ⟨w7, hw7⟩ : ∃ w7, World.set9 w6 (w.heap.size + 2) (k * 9) (.int .i64 u.kind) (.bool u.b) (.bool u.d.neg) (.string u.d.digits) (.int .i64 u.d.exp) (.int .u64 u.u) (.int .i64 u.w) (.string u.s) (.slice a6 ul.length cc6) = w7 := ⟨_, rfl⟩
   rw [hw7] at hset hk67
   unfold World.set9 at hw7
   have hb7 := hk67.same _ _ hb6 (by omega)
   have hz7 := hk67.same _ _ hz6 (by omega)
   have hsm7 : Same w w7 := ⟨hk67.os.trans hsm6.os, hk67.tape.trans hsm6.tape, hk67.output.trans hsm6.output, Nat.le_trans hsm6.size hk67.size, fun y o hy _ => hk67.same y o (hsm6.same y o hy trivial) (by have := lt_of_some hy; omega)⟩
   have hs7 := hk67.size
   have HW := Lib.hid hw7
   clear hw7 hgc6 hown6 hsm6 hr6 hz6 hb6 hk67 hya
   go_wp2_with fail
   rw [HW.out]
   exact ⟨⟨k + 1, by omega, by go_num, hb7, hz7, ⟨m ++ [.node u ul], hst, by rw [List.length_append, hmk]; rfl, hset⟩, hsm7, by omega⟩, by simp [RowKit.intOf]; omega⟩
  ·obtain rfl : k = n := by omega
   have hdr : l.drop k = [] := List.drop_of_length_le (by omega)
   have htk : l.take k = l := List.take_of_length_le (by omega)
   rw [hdr, List.append_nil] at hown
   rw [htk] at hml
   have hres : SetR (.node h l) (.node h m) := by rw [SetR, if_neg h4, if_neg h8]; exact ⟨m, hml, rfl⟩
   have hrep := hown.rep hSn (by omega)
   obtain ⟨n0, n1, n2, n3, n4, n5, n6, n7, n8⟩ := cells9 hb
   obtain ⟨q0, q1, q2, q3, q4, q5, q6, q7, q8⟩ := cells9 hz
   have hfb : ∀ j, wr.frozen? ⟨w.heap.size, j, none⟩ = false := Lib.frozen_of_heap hb
   have hfz : ∀ j, wr.frozen? ⟨w.heap.size + 1, j, none⟩ = false := Lib.frozen_of_heap hz
   have hkA : Keep (fun b _ => b ≠ w.heap.size) wr (wr.setCell ⟨w.heap.size, 8, none⟩ (.slice (some ⟨w.heap.size + 2, 0, none⟩) k k)) := (Keep.refl _ wr).setCell _ fun o _ hs _ => hs rfl
   have hzA := hkA.same _ _ hz (by omega)
   clear hdr htk hml hown ih h4 h8
   go_wp2_with fail
   (try simp only [Exit.inBlock, Exit.then])
   generalize (wr.setCell ⟨w.heap.size, 8, none⟩ (.slice (some ⟨w.heap.size + 2, 0, none⟩) k k)) = wA at hkA hzA ⊢
   obtain ⟨h9, hkB⟩ := put9 hzA (.int .i64 h.kind) (.bool h.b) (.bool h.d.neg) (.string h.d.digits) (.int .i64 h.d.exp) (.int .u64 h.u) (.int .i64 h.w) (.string h.s) (.slice (some ⟨w.heap.size + 2, 0, none⟩) k k)
   have hfin := ((hrep.keep hkA fun y hy _ _ => (hSne y hy).1).keep hkB fun y hy _ _ => (hSne y hy).2).mono fun y _ hy => hSm y hy
   have hsB := same_two hsm hkA hkB (by omega) (by omega)
   exact bodyPost_ret (results_cell_row rfl _ _ (w.heap.size + 1) 27 _ (0, 0) _ rfl h9 Tryz.underlying27 rfl (by kernel_rfl)) rfl ⟨.node h m, _, rfl, hres, hok, hfin, hsB⟩
end Go.Tm
namespace Go.Tm
open Go.RowKit Go.Proofs Go.Sort Go.Shelf Go.Lib
def flatPr (l : List Prr) : List Value := l.flatMap Prr.cs
theorem flatPr_cons (m : Prr) (l : List Prr) : flatPr (m :: l) = m.cs ++ flatPr l := by simp [flatPr]
theorem flatPr_append (l k : List Prr) : flatPr (l ++ k) = flatPr l ++ flatPr k := by simp [flatPr]
theorem flatPr_get : ∀ (l : List Prr) (i j : Nat) (hi : i < l.length), j < 19 → (flatPr l)[i * 19 + j]? = (l[i].cs)[j]?
 | m :: l, 0, j, _, hj => by
  rw [flatPr_cons, Nat.zero_mul, Nat.zero_add, List.getElem?_append_left (by rw [Prr.cs_len]; exact hj)]; rfl
 | m :: l, i + 1, j, hi, hj => by
  have := flatPr_get l i j (by simpa using hi) hj
  rw [flatPr_cons, List.getElem?_append_right (by rw [Prr.cs_len]; omega), Prr.cs_len, show (i + 1) * 19 + j - 19 = i * 19 + j by omega, this]; rfl
theorem holdsK_of_ownPr {w : World} {B g cap : Nat} {l : List Prr} (h : w.ownsRow B 121 19 (.slice (some ⟨g, 0, none⟩) l.length cap) l.length (flatPr l)) : HoldsK Prr.cs 19 w g 0 l.toArray := by
 rcases h.2 with ⟨h0, _⟩ | ⟨g', cap', cur, e, hb, hg, h1, _, h3, h4⟩
 ·cases h0
 cases e
 intro j hj
 have hj' : j < l.length * 19 := by simpa using hj
 refine ⟨?_, Lib.frozen_of_heap hg _⟩
 have hi : j / 19 < l.length := by omega
 have hm : j % 19 < 19 := Nat.mod_lt _ (by decide)
 have hfl := flatPr_get l (j / 19) (j % 19) hi hm
 rw [show j / 19 * 19 + j % 19 = j by omega, ← h4, List.getElem?_take_of_lt hj'] at hfl
 show w.cell? ⟨g, 0 + j, none⟩ = some (flatK Prr.cs 19 l.toArray)[j]!
 rw [get_flatK _ _ _ _ (by simpa using hj'), Nat.zero_add]
 unfold World.cell?
 simp only [hg]
 have e1 : l.toArray[j / 19]! = l[j / 19] := by rw [getElem!_pos _ _ (by simpa using hi)]; simp
 rw [e1]
 have hl : j % 19 < (l[j / 19].cs).length := by rw [Prr.cs_len]; exact hm
 have e2 : (l[j / 19].cs)[j % 19]! = (l[j / 19].cs)[j % 19] := getElem!_pos (l[j / 19].cs) (j % 19) hl
 rw [e2, ← List.getElem?_eq_getElem hl, ← hfl]
 simp
theorem keep_swkPr {w w' : World} {blk : Nat} {d : Array Prr} (h : SWK Prr.cs 19 w blk 0 d w') : Keep (fun b _ => b ≠ blk) w w' := by
 obtain ⟨n, os, rfl⟩ := h
 refine ⟨rfl, rfl, rfl, ?_, ?_⟩
 ·show w.heap.size ≤ ((w.heap.modify blk _) ++ os).size
  simp
 ·intro b o hb hne
  show ((w.heap.modify blk _) ++ os)[b]? = some o
  rw [Array.getElem?_append_left (by simpa using lt_of_some hb), Array.getElem?_modify, if_neg (Ne.symm hne)]
  exact hb
theorem range_of_holdsPr {w : World} {g : Nat} {d : Array Prr} (h : HoldsK Prr.cs 19 w g 0 d) (i : Nat) (hi : i < d.size) : w.rangeAt g (i * 19) d[i].cs := by
 intro j v hj
 have hj19 : j < 19 := by
  have := (List.getElem?_eq_some_iff.1 hj).1
  rwa [Prr.cs_len] at this
 have hlt : i * 19 + j < d.size * 19 := by omega
 have := (h (i * 19 + j) (by simpa using hlt)).1
 rw [Nat.zero_add] at this
 rw [this]
 show some (flatK Prr.cs 19 d)[i * 19 + j]! = some v
 rw [get_flatK _ _ _ _ hlt, show (i * 19 + j) / 19 = i by omega, show (i * 19 + j) % 19 = j by omega, getElem!_pos d i hi]
 have hl : j < (d[i].cs).length := by rw [Prr.cs_len]; exact hj19
 have e2 : (d[i].cs)[j]! = (d[i].cs)[j] := getElem!_pos (d[i].cs) j hl
 rw [e2, ← List.getElem?_eq_getElem hl, hj]
theorem pr_info : (Tryz.prog.info? 121).map (fun i => (i.zero, i.size, i.bytes)) = some (some (.agg (Prr.cs ⟨bareHd 0, none, 0, 0, ⟨#[]⟩, bareHd 0, none, 0, 0, [], []⟩).toArray), 19, 224) := by kernel_rfl
theorem pr_append {w : World} {B i g : Nat} {lv : Value} {ms : List Prr} (ty : TypeId) (M : Prr) (hrow : w.ownsRow B 121 19 lv i (flatPr ms)) (hB : B ≤ w.heap.size) (hi : i ≤ 1000) (hg : w.rangeAt g 0 M.cs) :
  ∃ v' w', (Builtin.append_ #[112, 112] ty #[lv, .slice (some ⟨g, 0, none⟩) 1 1]).run Tryz.prog w = .ok v' w' ∧ w'.ownsRow B 121 19 v' (i + 1) (flatPr (ms ++ [M])) ∧ w.grownBy w' lv.ownBlock := by
 obtain ⟨i0, hi0, hz0, hz1, hz2⟩ := info_parts pr_info
 obtain ⟨v', w', h1, h2, h3, _⟩ := run_append_own w B 112 ty 121 i0 _ 19 224 Tryz.underlying112 hi0 hz0 hz1 hz2 rfl (by decide) lv i (flatPr ms) hrow ⟨g, 0, none⟩ 1 1 M.cs rfl (fun j u hj => by
  have hadd : (⟨g, 0, none⟩ : Addr).add j = ⟨g, 0 + j, none⟩ := by unfold Addr.add; split <;> simp_all
  rw [hadd]
  exact hg j u hj) (Prr.cs_one M) (by unfold maxLen; omega) (by omega) hB
 exact ⟨v', w', h1, by rw [flatPr_append, flatPr_cons]; simpa [flatPr] using h2, h3⟩
theorem setP_nil : SetP [] [] := by rw [SetP]; intro k x l h; cases h
theorem setP_snoc {k x y : Tree} (h : SetR x y) : ∀ {l : List Tree} {ps : List (Tree × Tree)}, l.length % 2 = 0 → SetP l ps → SetP (l ++ [k, x]) (ps ++ [(k, y)])
 | [], ps, _, hp => by
  have h0 : ps = [] := by rw [SetP] at hp; exact hp; intro k x l h; cases h
  subst h0
  show SetP [k, x] [(k, y)]
  rw [SetP]
  exact ⟨y, [], h, setP_nil, rfl⟩
 | [z], ps, he, _ => by simp at he
 | z :: u :: l, ps, he, hp => by
  rw [SetP] at hp
  obtain ⟨v, qs, h1, h2, rfl⟩ := hp
  show SetP (z :: u :: (l ++ [k, x])) _
  rw [SetP]
  exact ⟨v, qs ++ [(k, y)], h1, setP_snoc h (by simp only [List.length_cons] at he; omega) h2, rfl⟩
def Prr.good (S : Nat → Prop) (w : World) (m : Prr) : Prop := m.k.ok ∧ m.g.ok ∧ RepS S w m.kl (.slice m.ka m.kn m.kc) ∧ RepS S w m.gl (.slice m.ga m.gn m.gc)
theorem Prr.good.keep {K : Nat → Obj → Prop} {S : Nat → Prop} {w w' : World} {m : Prr} (h : m.good S w) (hk : Keep K w w') (hK : ∀ b, S b → ∀ c f, K b (.cells c 27 f)) : m.good S w' := ⟨h.1, h.2.1, h.2.2.1.keep hk hK, h.2.2.2.keep hk hK⟩
structure DInv (S : Nat → Prop) (w : World) (l : List Tree) (i : Nat) (ms : List Prr) (lv : Value) (A : World) : Prop where
 len : ms.length = i
 prs : SetP (l.take (2 * i)) (ms.map Prr.pair)
 good : ∀ m ∈ ms, m.good S A
 sb : Boxed A w.heap.size 112 lv
 row : A.ownsRow (w.heap.size + 1) 121 19 lv i (flatPr ms)
 fr : Same w A
 sz : w.heap.size + 1 ≤ A.heap.size
theorem DInv.keep {K : Nat → Obj → Prop} {S : Nat → Prop} {w : World} {l : List Tree} {i : Nat} {ms : List Prr} {lv : Value} {A B : World} (h : DInv S w l i ms lv A) (hk : Keep K A B) (hK : ∀ k o, k < w.heap.size + 1 ∨ (o.isCells = true ∧ ∀ c f, o ≠ .cells c 25 f) → K k o) : DInv S w l i ms lv B where
 len := h.len
 prs := h.prs
 good m hm := (h.good m hm).keep hk fun k _ c f => hK _ _ (.inr ⟨rfl, fun c f e => by cases e⟩)
 sb := hk.boxed h.sb (hK _ _ (.inl (by omega)))
 row := own_keep h.row hk fun _ _ _ _ => hK _ _ (.inr ⟨rfl, fun c f e => by cases e⟩)
 fr := ⟨hk.os.trans h.fr.os, hk.tape.trans h.fr.tape, hk.output.trans h.fr.output, Nat.le_trans h.fr.size hk.size, fun k o hko _ => hk.same k o (h.fr.same k o hko trivial) (hK _ _ (.inl (by have := lt_of_some hko; omega)))⟩
 sz := Nat.le_trans h.sz hk.size
theorem DInv.own {S : Nat → Prop} {w : World} {l : List Tree} {i : Nat} {ms : List Prr} {lv : Value} {A : World} (h : DInv S w l i ms lv A) (k : Nat) (hk : lv.ownBlock = some k) : w.heap.size + 1 ≤ k ∧ ∃ c, A.heap[k]? = some (.cells c 121 (0, 0)) := by
 rcases h.row.2 with ⟨rfl, _⟩ | ⟨g, cap, cur, rfl, hg, hgg, _⟩
 ·cases hk
 ·simp only [Value.ownBlock, Option.some.injEq] at hk
  subst hk
  exact ⟨hg, cur, hgg⟩
end Go.Tm
namespace Go.Tm
open Go.RowKit Go.Proofs Go.Sort Go.Shelf Go.Lib
set_option maxRecDepth 100000 in
set_option maxHeartbeats 2000000 in
theorem prPdq_nil (w : World) : Calls Tryz.prog 139 #[.slice none 0 0, .int .i64 0, .int .i64 0, .int .i64 0, .func (.func 100) #[] #[]] w fun e w' => e = .returned (.tuple #[]) ∧ Same w w' := by
 go_enter Tryz.func139, Tryz.ntmps139
 go_wp2
 refine wp_loop_rounds 1 ?_
 rw [rounds_succ]
 go_wp2_with (go_at_call 182; refine (prIns_nil _).mono ?_; rintro e w1 ⟨rfl, hk1⟩)
 exact bodyPost_ret (results_none rfl _ _ _) rfl ⟨rfl, hk1⟩
set_option maxRecDepth 100000 in
set_option maxHeartbeats 2000000 in
theorem prSort_nil (w : World) : Calls Tryz.prog 99 #[.slice none 0 0, .func (.func 100) #[] #[]] w fun e w' => e = .returned (.tuple #[]) ∧ Same w w' := by
 go_enter Tryz.func99, Tryz.ntmps99
 go_wp2_with (first
  | (go_at_call 140; refine (Tryz.bits_Len 0 _ (by decide) (by decide)).mono ?_; rintro e w1 ⟨rfl, h9⟩; replace h9 := h9.symm; subst h9)
  | (go_at_call 139; refine (prPdq_nil _).mono ?_; rintro e w1 ⟨rfl, hk1⟩))
 go_end0
 exact ⟨rfl, (by repeat with_reducible first | exact Keep.refl _ _ | refine Keep.alloc ?_ _ | refine Keep.drew ?_ | refine Keep.drewN ?_ _ | refine Keep.trans ?_ (by assumption))⟩
end Go.Tm
namespace Go.Tm
open Go.RowKit Go.Proofs Go.Sort Go.Shelf Go.Lib
def DetK (w : World) : Nat → Obj → Prop := fun k o => (∃ c f, o = .cells c 27 f) ∨ (k ≠ w.heap.size ∧ (k < w.heap.size + 1 ∨ ∀ c f, o ≠ .cells c 121 f))
set_option maxRecDepth 100000 in
set_option maxHeartbeats 4000000 in
theorem detSorted_any {N : Nat} {E : Errs} (S : Nat → Prop) (l : List Tree) (ih : ∀ x ∈ l, SettAt N E x) (hdep : ∀ x ∈ l, x.depth ≤ 1000000) (lv : Value) (w : World) (hG : Glob N E w) (hN : N ≤ w.heap.size) (hS : ∀ b, w.heap.size ≤ b → S b) (hr : RepS S w l lv) (hev : l.length % 2 = 0) (hl : l.length ≤ 1000) :
  Calls Tryz.prog 55 #[lv] w fun e w' => ∃ qs ps v', e = .returned v' ∧ SetP l ps ∧ PermP qs ps ∧ RepS S w' (unpairs qs) v' ∧ Same w w' := by
 obtain ⟨a, cap, rfl⟩ := hr.is_slice
 obtain ⟨n, hn⟩ : ∃ n, l.length = n := ⟨_, rfl⟩
 rw [hn] at hr hev hl ⊢
 refine (callsIn_wide (n := 0)).1 ?_
 refine callsIn_of_wp_marks Tryz.func55 rfl trivial ?_ rfl
 simp only [Tryz.ntmps55, List.size_toArray, List.length_cons, List.length_nil, Nat.reduceAdd, Nat.reduceSub, Array.replicate_succ, Array.replicate_zero, List.push_toArray, List.append_toArray, List.nil_append, List.cons_append]
 gi_wp2_with (gi_at_call 97; refine (callsW (chunks_any _ _ _ _ _)).mono ?_; rintro e w2 ⟨rfl, h9⟩; replace h9 := h9.symm; subst h9)
 generalize hW1 : World.alloc _ (.cells #[.int .i64 2] 3) = W1
 have hz1 : W1.heap.size = w.heap.size + 3 := by rw [← hW1]; simp
 have hk1 : Same w W1 := by rw [← hW1]; exact (by repeat with_reducible first | exact Keep.refl _ _ | refine Keep.alloc ?_ _ | refine Keep.drew ?_ | refine Keep.drewN ?_ _ | refine Keep.trans ?_ (by assumption))
 have b0 : Boxed W1 w.heap.size 112 (.slice none 0 0) := by rw [← hW1]; exact heap_old (heap_old (World.alloc_heap_new w _))
 have b1 : Boxed W1 (w.heap.size + 1) 25 (.slice a n cap) := by rw [← hW1]; exact heap_old (heap_new' (by simp))
 have b2 : Boxed W1 (w.heap.size + 1 + 1) 3 (.int .i64 2) := by rw [← hW1]; exact heap_new' (by simp)
 clear hW1
 have hI0 : DInv S w l 0 [] (.slice none 0 0) W1 := {
  len := rfl
  prs := by rw [Nat.mul_zero, List.take_zero]; exact setP_nil
  good := fun m hm => by cases hm
  sb := b0
  row := World.ownsRow_nil _ _ _ _
  fr := hk1
  sz := by omega }
 refine wp_range (gf := 137) (lb := #[.pointer (some ⟨w.heap.size + 1, 0, none⟩), .pointer (some ⟨w.heap.size + 1 + 1, 0, none⟩)])
  rfl (enters_of Tryz.func137 (by kernel_rfl) rfl) (l.length / 2) (GivesC S l)
  (DetK w) (fun b o => b ≠ w.heap.size + 1 ∨ ∀ c f, o ≠ .cells c 25 f) (fun _ => True) (fun _ _ => True) ?hit ?hSb (fun _ _ _ _ ho => .inr fun c f e => by subst e; cases ho)
  (fun i A => (∃ ms lv, DInv S w l i ms lv A) ∧ W1.heap.size ≤ A.heap.size) (fun _ _ _ => False) ?hI ?hIx ?hE (fun _ _ _ _ => trivial) (fun _ _ _ _ _ => trivial) ?hEs ⟨⟨[], .slice none 0 0, hI0⟩, Nat.le_refl _⟩
  (fun i v a' A => ∃ sl, v = #[sl] ∧ a' = { tmps := #[.slice a n cap, undef, .slice none 0 0, .pointer (some ⟨w.heap.size, 0, none⟩), sl, undef, undef, undef, undef, undef, .slice a n cap, .func (.func 137) #[] #[.pointer (some ⟨w.heap.size + 1, 0, none⟩), .pointer (some ⟨w.heap.size + 1 + 1, 0, none⟩)], sl, undef, undef, undef, undef, undef, undef, undef, undef, undef, undef, undef, undef, undef, undef, undef, undef, undef, undef, undef, undef, undef, undef, undef, undef, undef, undef, undef, undef, undef, undef, undef, undef, undef, undef, undef, undef, undef, undef], defers := [] }) ?hAx ?hassign ?hbody ?hdone ?hstop
 case hit =>
  intro W2 hk2 hz2
  have hr2 := (hr.same hk1).same hk2
  rw [← hn] at hr2
  have e := chunks1_iter S l _ (w.heap.size + 1) (w.heap.size + 1 + 1) (DetK w) (fun b o => b ≠ w.heap.size + 1 ∨ ∀ c f, o ≠ .cells c 25 f) W2 hr2 (by rw [hn]; exact hev) (hk2.boxed (by rw [hn]; exact b1) trivial) (hk2.boxed b2 trivial) (fun c f => .inr ⟨by omega, .inr fun c f e => by cases e⟩) (fun c f => .inr ⟨by omega, .inr fun c f e => by cases e⟩) (fun k c f => .inl ⟨c, f, rfl⟩) (fun b o h => h)
  exact e
 case hSb => exact fun k o hk ho => .inr ⟨by omega, .inr fun c f e => by subst e; cases ho⟩
 case hI =>
  rintro i A B ⟨⟨ms, lv, h2⟩, h3⟩ hk
  exact ⟨⟨ms, lv, h2.keep hk fun k o h => by
   rcases h with h | ⟨h, h'⟩
   ·exact ⟨.inl (by omega), .inl (by omega)⟩
   ·exact ⟨.inr h, .inr h'⟩⟩, Nat.le_trans h3 hk.size⟩
 case hIx => rintro _ _ _ _ h; exact h.elim
 case hE =>
  rintro i v A B ⟨h0, h1, b, o, lv, mv, e, hSb, ⟨cur, f, hb⟩, ra, rb, r0, r1, o0, o1⟩ hk
  have hK : ∀ q, A.heap[b]? = some q → b < W1.heap.size ∨ q.isCells = true := fun q hq => by rw [hb] at hq; cases hq; exact .inr rfl
  exact ⟨h0, h1, b, o, lv, mv, e, hSb, ⟨cur, f, hk.same _ _ hb (.inr rfl)⟩, rangeAt_keep hk hK ra, rangeAt_keep hk hK rb, r0.keep hk fun _ _ _ _ => .inr rfl, r1.keep hk fun _ _ _ _ => .inr rfl, o0, o1⟩
 case hEs =>
  rintro i v A ⟨h0, h1, b, o, lv, mv, e, _⟩
  rw [e]; rfl
 case hAx => exact fun i v a' A B h hk => h
 case hassign =>
  rintro lp i v A K hi hI hE' hK
  have hE2 := hE'
  obtain ⟨h0, h1, b, o, lv, mv, rfl, _⟩ := hE'
  gi_wp2
  exact hK _ _ (Keep.refl _ _) hI hE2 ⟨_, rfl, rfl⟩
 case hbody =>
  rintro lp i v a' A hlp ⟨rr, hrl⟩ hi2 ⟨⟨ms, lv2, hp1⟩, hzA⟩ ⟨h0, h1, b, o, klv, glv, hv, hSb, ⟨cur, f, hb⟩, ra, rb, r0, r1, o0, o1⟩ ⟨sl, hv2, rfl⟩
  rw [hv] at hv2
  have hsl : sl = .slice (some ⟨b, o, none⟩) 2 2 := by
   have := congrArg (fun x : Array Value => x[0]?) hv2
   simpa using this.symm
  subst hsl
  have hGA := hG.same hp1.fr
  have hzw := hp1.fr.size
  have hkey := key_any (N := N) (E := E) l[2 * i] klv A hGA (by omega) o0 (r0.mono fun _ _ _ => trivial) (hdep _ (List.getElem_mem h0))
  have hcall := fun W (hs : Same A W) => ih l[2 * i + 1] (List.getElem_mem h1) S glv W (hGA.same hs) (by have := hs.size; omega) (fun y hy => hS y (by have := hs.size; omega)) o1 (r1.same hs)
  unfold SettOut at hcall
  have htake : l.take (2 * (i + 1)) = l.take (2 * i) ++ [l[2 * i], l[2 * i + 1]] := by
   rw [show 2 * (i + 1) = 2 * i + 1 + 1 by omega, List.take_add_one, List.take_add_one, List.getElem?_eq_getElem h0, List.getElem?_eq_getElem h1, List.append_assoc]; rfl
  have hsn := fun y (hy : SetR l[2 * i + 1] y) => setP_snoc (k := l[2 * i]) hy (by rw [List.length_take]; omega) hp1.prs
  rw [← htake] at hsn
  generalize l[2 * i] = kt at ra r0 o0 hkey hsn
  generalize l[2 * i + 1] = gt at rb r1 o1 hcall hsn
  obtain ⟨kh, kl⟩ := kt
  obtain ⟨gh, gl⟩ := gt
  simp only [Tree.hd_node, Tree.l_node] at ra rb r0 r1 o0 o1 hkey hcall
  obtain ⟨ka, kc, rfl⟩ := r0.is_slice
  obtain ⟨ga, gc, rfl⟩ := r1.is_slice
  obtain ⟨kn, hkn⟩ : ∃ kn, kl.length = kn := ⟨_, rfl⟩
  obtain ⟨gn, hgn⟩ : ∃ gn, gl.length = gn := ⟨_, rfl⟩
  rw [hkn] at ra r0 hkey
  rw [hgn] at rb r1 hcall
  obtain ⟨c0, c1, c2, c3, c4, c5, c6, c7, c8⟩ := nodeAt_of ra
  clear hv hv2 htake ih hr b0 b1 b2 hI0 hkn hgn
  gi_wp2_with fail
  refine (callsW hkey).mono ?_
  rintro e A2 ⟨s, rs, rfl, hss, hk2⟩
  clear hkey c0 c1 c2 c3 c4 c5 c6 c7 c8
  have hp2 := hp1.keep hk2 fun _ _ _ => trivial
  have hb2 := hk2.same _ _ hb trivial
  have ra2 := rangeAt_same hk2 ra
  have rb2 := rangeAt_same hk2 rb
  gi_wp2_with fail
  obtain ⟨la, lc, rfl⟩ : ∃ a c, lv2 = .slice a i c := by
   rcases hp1.row.2 with ⟨rfl, h0⟩ | ⟨g, cap, cur, rfl, _⟩
   ·exact ⟨none, 0, by rw [h0]⟩
   ·exact ⟨_, _, rfl⟩
  have y0 := hp2.sb.cell
  obtain ⟨c0, c1, c2, c3, c4, c5, c6, c7, c8⟩ := nodeAt_of ra2
  obtain ⟨d0, d1, d2, d3, d4, d5, d6, d7, d8⟩ := nodeAt_of rb2
  refine wpIn_region_tailA (fun Z => Boxed Z w.heap.size 112 (.slice la i lc) ∧ Z.rangeAt b o (nodeCs kh (.slice ka kn kc)) ∧ Z.rangeAt b (o + 9) (nodeCs gh (.slice ga gn gc))) reads (fun _ => trivial) rfl (by kernel_rfl) rfl (by kernel_rfl) (by kernel_rfl) ⟨hp2.sb, ra2, rb2⟩ ?_
  simp only [initL]
  iterate 9 (refine shT_x rfl rfl ?_; intro K hK w' hs; have y9 := hs.1.cell; obtain ⟨p0, p1, p2, p3, p4, p5, p6, p7, p8⟩ := nodeAt_of hs.2.1; obtain ⟨q0, q1, q2, q3, q4, q5, q6, q7, q8⟩ := nodeAt_of hs.2.2; go_simp; refine hK _ _ ?_; clear hK K p0 p1 p2 p3 p4 p5 p6 p7 p8 q0 q1 q2 q3 q4 q5 q6 q7 q8 y9 hs w')
  refine shT_c rfl rfl ?_
  intro K hK
  go_simp
  refine (callsW (hcall _ (hk2.drew))).mono ?_
  rintro e A4 ⟨r, rlv, rfl, hsr, hro, hrr, hk4⟩
  have hps := hsn r hsr
  obtain ⟨rh, rl⟩ := r
  simp only [Tree.hd_node, Tree.l_node] at hro hrr
  obtain ⟨rpa, rc, rfl⟩ := hrr.is_slice
  obtain ⟨rn, hrn⟩ : ∃ rn, rl.length = rn := ⟨_, rfl⟩
  rw [hrn] at hrr ⊢
  have hk24 : Same A2 A4 := (Keep.refl _ A2).drew.trans hk4
  have hp4 := hp2.keep hk24 fun _ _ _ => trivial
  have ra4 := rangeAt_same hk24 ra2
  have rb4 := rangeAt_same hk24 rb2
  refine hK _ _ ⟨hp4.sb, ra4, rb4⟩ ?_
  clear hK K hcall hsn c0 c1 c2 c3 c4 c5 c6 c7 c8 d0 d1 d2 d3 d4 d5 d6 d7 d8 y0
  have y0 := hp4.sb.cell
  obtain ⟨M, hM⟩ : ∃ M : Prr, M = ⟨kh, ka, kn, kc, s, rh, rpa, rn, rc, kl, rl⟩ := ⟨_, rfl⟩
  refine shT_x rfl rfl ?_; intro K hK w' hs; have y9 := hs.1.cell; obtain ⟨p0, p1, p2, p3, p4, p5, p6, p7, p8⟩ := nodeAt_of hs.2.1; obtain ⟨q0, q1, q2, q3, q4, q5, q6, q7, q8⟩ := nodeAt_of hs.2.2; go_simp; refine hK _ _ ?_; clear hK K p0 p1 p2 p3 p4 p5 p6 p7 p8 q0 q1 q2 q3 q4 q5 q6 q7 q8 y9 hs w'
  refine shT_c rfl rfl ?_
  intro K hK
  go_simp
  show K _ (A4.alloc (.cells (Prr.cs ⟨kh, ka, kn, kc, s, rh, rpa, rn, rc, kl, rl⟩).toArray 121))
  rw [← hM]
  have hg5 : (A4.alloc (.cells M.cs.toArray 121)).rangeAt A4.heap.size 0 M.cs := fun j v hj => by
   rw [Nat.zero_add, cell_of_row _ _ j _ _ _ (World.alloc_heap_new A4 _)]
   simpa using hj
  have hs5 : Same A4 (A4.alloc (.cells M.cs.toArray 121)) := (Keep.refl _ _).alloc _
  generalize A4.alloc (.cells M.cs.toArray 121) = A5 at hg5 hs5 ⊢
  have hp5 := hp4.keep hs5 fun _ _ _ => trivial
  have hb5 := (hk24.trans hs5).same _ _ hb2 trivial
  have ra5 := rangeAt_same hs5 ra4
  have rb5 := rangeAt_same hs5 rb4
  have hz5 := hp5.sz
  refine hK _ _ ⟨hp5.sb, ra5, rb5⟩ ?_
  clear hK K y0
  obtain ⟨v9, A9, hrun, hrow9, hgrow⟩ := pr_append 112 M hp5.row hz5 (by omega) hg5
  obtain ⟨va, vc, rfl⟩ : ∃ a c, v9 = .slice a (i + 1) c := by
   rcases hrow9.2 with ⟨_, h0⟩ | ⟨g, cap, cur, rfl, _⟩
   ·omega
   ·exact ⟨_, _, rfl⟩
  have hone2 : ∀ k, k < w.heap.size + 1 → (Value.slice la i lc).ownBlock ≠ some k := fun k hlt e => by have := (hp5.own k e).1; omega
  have hnb : (Value.slice la i lc).ownBlock ≠ some b := fun e => by obtain ⟨_, c', hc⟩ := hp5.own b e; rw [hb5] at hc; cases hc
  have hk10 : Keep (fun k _ => (Value.slice la i lc).ownBlock ≠ some k) A5 A9 := (Keep.refl _ A5).grown hgrow fun r hr o _ hs _ => hs hr
  have hsb9 : Boxed A9 w.heap.size 112 (.slice la i lc) := hk10.boxed hp5.sb (hone2 _ (by omega))
  have ra9 := rangeAt_keep hk10 (fun _ _ => hnb) ra5
  have rb9 := rangeAt_keep hk10 (fun _ _ => hnb) rb5
  refine shT_c rfl rfl ?_
  intro K hK
  refine oper_append1 _ _ rfl rfl rfl hrun ?_
  refine hK _ _ ⟨hsb9, ra9, rb9⟩ ?_
  clear hK K hrun
  refine shT_tail (tail_last rfl ?_)
  have y0 := hsb9.cell
  have fz9 := hsb9.frozen
  go_simp
  have hk11 : Keep (fun k _ => k ≠ w.heap.size) A9 (A9.setCell ⟨w.heap.size, 0, none⟩ (.slice va (i + 1) vc)) := (Keep.refl _ A9).setCell _ fun o _ hs _ => hs rfl
  have hlb11 : Boxed (A9.setCell ⟨w.heap.size, 0, none⟩ (.slice va (i + 1) vc)) w.heap.size 112 (.slice va (i + 1) vc) := hsb9.set _
  show (Keep _ A (A9.setCell ⟨w.heap.size, 0, none⟩ (.slice va (i + 1) vc))) ∧ _
  generalize (A9.setCell ⟨w.heap.size, 0, none⟩ (.slice va (i + 1) vc)) = A11 at hk11 hlb11
  have hkall : Keep (fun k _ => k ≠ w.heap.size ∧ (Value.slice la i lc).ownBlock ≠ some k) A5 A11 :=
   ⟨hk11.os.trans hk10.os, hk11.tape.trans hk10.tape, hk11.output.trans hk10.output, Nat.le_trans hk10.size hk11.size, fun k o ho hK => hk11.same k o (hk10.same k o ho hK.2) hK.1⟩
  have hkn : Keep (DetK w) A5 A11 := hkall.mono fun k o ho hK => by
   rcases hK with ⟨c, f, rfl⟩ | ⟨h1, h2⟩
   ·refine ⟨?_, ?_⟩
    ·rintro rfl; have := hp5.sb; unfold Boxed at this; rw [this] at ho; cases ho
    ·intro e; obtain ⟨_, c', hc⟩ := hp5.own k e; rw [hc] at ho; cases ho
   ·refine ⟨h1, fun e => ?_⟩
    obtain ⟨h3, c', hc⟩ := hp5.own k e
    rw [hc] at ho; cases ho
    rcases h2 with h2 | h2
    ·omega
    ·exact h2 _ _ rfl
  have hsA5 : Same A A5 := hk2.trans (hk24.trans hs5)
  have hgM : M.good S A11 := by
   have r05 := (r0.same hsA5).keep hkn fun _ _ c f => .inl ⟨c, f, rfl⟩
   have rr5 := (hrr.same hs5).keep hkn fun _ _ c f => .inl ⟨c, f, rfl⟩
   subst hM
   exact ⟨o0, hro, r05, rr5⟩
  have hpair : M.pair = (.node kh kl, .node rh rl) := by subst hM; rfl
  refine ⟨(Keep.of_same hsA5).trans hkn, ⟨ms ++ [M], .slice va (i + 1) vc, ?_⟩, by have := hsA5.size; have := hkn.size; omega⟩
  exact {
   len := by rw [List.length_append, hp1.len]; rfl
   prs := by rw [List.map_append, List.map_cons, List.map_nil, hpair]; exact hps
   good := fun m hm => by
    rcases List.mem_append.1 hm with h | h
    ·exact (hp5.good m h).keep hkn fun _ _ c f => .inl ⟨c, f, rfl⟩
    ·rw [List.mem_singleton.1 h]; exact hgM
   sb := hlb11
   row := own_keep hrow9 hk11 fun g _ hg _ => (by omega : g ≠ w.heap.size)
   fr := ⟨hkall.os.trans hp5.fr.os, hkall.tape.trans hp5.fr.tape, hkall.output.trans hp5.fr.output, Nat.le_trans hp5.fr.size hkall.size, fun k o hko _ => hkall.same k o (hp5.fr.same k o hko trivial) (by have := lt_of_some hko; exact ⟨by omega, hone2 _ (by omega)⟩)⟩
   sz := Nat.le_trans hp5.sz hkall.size }
 case hdone =>
  rintro D A hD ⟨⟨ms, lv2, hp⟩, hz⟩ _ hkD hDB
  have hall := hp.prs
  rw [List.take_of_length_le (by omega)] at hall
  have hml := hp.len
  have hrow := hp.row
  rw [← hml] at hrow
  have hgood := hp.good
  have hsA := hp.fr
  have hsb := hp.sb
  have cl := hsb.cell
  clear hr hI0 b0 b1 b2 ih hdep hp
  rcases hrow.2 with ⟨rfl, h0⟩ | ⟨g, cp, cur, rfl, hgB, hgc, hrest⟩
  ·have hms : ms = [] := List.eq_nil_of_length_eq_zero h0
   subst hms
   gi_wp2_with (gi_at_call 99; refine (callsW (prSort_nil _)).mono ?_; rintro e A3 ⟨rfl, hk3⟩; have sb3 := hk3.boxed hsb trivial; have cl3 := sb3.cell)
   refine (wpIn_wide (n := 0)).2 ?_
   refine wp_loop_rounds 1 ?_
   rw [rounds_succ]
   go_wp2
   have hDB3 := hk3.same _ _ hDB trivial
   gi_wp2
   refine ⟨by simp, .inl ⟨_, _, rfl, run_takeDeferred hDB3, ?_⟩⟩
   exact ⟨_, results_tmp rfl _ _ _, [], [], _, rfl, hall, List.Perm.nil, RepS.nil _ _, (hsA.trans hk3).putObj _ fun o _ _ h => by omega⟩
  ·have hH := holdsK_of_ownPr hrow
   have hgl := lt_of_some hgc
   have hss := prSort_any g cp ms.toArray A hH hgl (by simp; omega)
   rw [List.size_toArray] at hss
   rw [hml, hn] at hss
   gi_wp2_with fail
   refine (callsW hss).mono ?_
   rintro e A3 ⟨rfl, d, hpm, hW⟩
   have hk3 := keep_swkPr hW
   have hsz : d.size = ms.length := by have := hpm.1; simpa using this
   have hHd := hW.holds hgl hH (by simpa using hsz)
   have hperm : d.toList.Perm ms := by
    obtain ⟨_, _, hq⟩ := hpm
    have e1 : d.extract 0 (n / 2) = d := by rw [← hn, ← hml, ← hsz]; exact Array.extract_size
    have e2 : ms.toArray.extract 0 (n / 2) = ms.toArray := by have := @Array.extract_size _ ms.toArray; rwa [List.size_toArray, hml, hn] at this
    rw [e1, e2] at hq
    simpa using hq
   have hk3n : Keep (fun b o => ∃ c f, o = .cells c 27 f) A A3 := hk3.mono fun k o ho hs => by
    obtain ⟨c, f, rfl⟩ := hs
    rintro rfl
    rw [hgc] at ho; cases ho
   have hgd : ∀ m ∈ d.toList, m.good S A3 := fun m hm => (hgood m (hperm.mem_iff.1 hm)).keep hk3n fun _ _ c f => ⟨c, f, rfl⟩
   have sb3 := hk3.boxed hsb (by omega)
   have hsA3 : Same w A3 := ⟨hk3.os.trans hsA.os, hk3.tape.trans hsA.tape, hk3.output.trans hsA.output, Nat.le_trans hsA.size hk3.size, fun b o hb _ => hk3.same b o (hsA.same b o hb trivial) (by have := lt_of_some hb; omega)⟩
   have hDB3 := hk3.same _ _ hDB (by rintro rfl; rw [hDB] at hgc; cases hgc)
   obtain ⟨dl, hdl⟩ : ∃ dl, d.toList = dl := ⟨_, rfl⟩
   have hll : dl.length = n / 2 := by rw [← hdl, Array.length_toList, hsz, hml, hn]
   have hra : ∀ i (hi : i < dl.length), A3.rangeAt g (i * 19) dl[i].cs := by
    intro i hi
    have := range_of_holdsPr hHd i (by rw [hsz, hml, hn]; omega)
    subst hdl
    simpa using this
   rw [hdl] at hgd hperm
   have hz3 := hsA3.size
   have hzA3 := hk3.size
   have cl3 := sb3.cell
   clear hpm hW hHd hsz hk3n hdl hss hH hk3 hsb cl hgood hrest hgc hrow
   have hSn : ∀ b, A3.heap.size ≤ b → S b := fun b hb => hS b (by omega)
   have hl5 : dl.length ≤ 500 := by omega
   gi_wp2
   refine (wpIn_wide (n := 0)).2 ?_
   go_loopw [7, 37] (fun v iv wr => ∃ i : Nat, i ≤ dl.length ∧ iv = .int .i64 (i : Int) ∧ OwnL S wr A3.heap.size v (unpairs ((dl.take i).map Prr.pair)) ∧ Same A3 wr)
    (fun _ iv _ => dl.length - (RowKit.intOf iv).toNat)
   case atStart => exact ⟨0, by omega, rfl, by simpa [unpairs] using OwnL.nil S A3 A3.heap.size, Keep.refl _ _⟩
   case round =>
    obtain ⟨i, hi, rfl, hown, hsm⟩ := hrel
    have hfl : (unpairs ((dl.take i).map Prr.pair)).length = 2 * i := by
     rw [unpairs_len, List.length_map, List.length_take, Nat.min_eq_left hi]
    by_cases hlt : i < dl.length
    ·have hga := hgd dl[i] (List.getElem_mem hlt)
     have hrr := rangeAt_same hsm (hra i hlt)
     have htf : unpairs ((dl.take i).map Prr.pair) ++ [dl[i].pair.1, dl[i].pair.2] = unpairs ((dl.take (i + 1)).map Prr.pair) := by
      rw [List.take_succ_eq_append_getElem hlt, List.map_append, unpairs_append]; rfl
     obtain ⟨m, hm⟩ : ∃ m, dl[i] = m := ⟨_, rfl⟩
     rw [hm] at hga hrr htf
     obtain ⟨tl, htl⟩ : ∃ tl, unpairs ((dl.take i).map Prr.pair) = tl := ⟨_, rfl⟩
     rw [htl] at htf hown hfl
     have HTF := Lib.hid htf
     obtain ⟨a0, cp0, hv⟩ := hown.is_slice
     subst hv
     clear htf hm htl
     obtain ⟨k, ka, kn, kc, s, gg, ga, gn, gc, kl, gl⟩ := m
     obtain ⟨hg1, hg2, hg3, hg4⟩ := hga
     simp only at hg1 hg2 hg3 hg4
     have hcs : (Prr.cs ⟨k, ka, kn, kc, s, gg, ga, gn, gc, kl, gl⟩) = nodeCs k (.slice ka kn kc) ++ [.string s] ++ nodeCs gg (.slice ga gn gc) := rfl
     have hln : (Prr.cs ⟨k, ka, kn, kc, s, gg, ga, gn, gc, kl, gl⟩).length = 19 := rfl
     have hone := Prr.cs_one ⟨k, ka, kn, kc, s, gg, ga, gn, gc, kl, gl⟩
     obtain ⟨MC, hMC⟩ : ∃ MC, Prr.cs ⟨k, ka, kn, kc, s, gg, ga, gn, gc, kl, gl⟩ = MC := ⟨_, rfl⟩
     rw [hMC] at hrr hcs hln hone
     have hall2 : MC.toArray.all (·.oneCell') = true := by rw [List.all_toArray]; exact List.all_eq_true.2 hone
     have hi19 : (Tryz.prog.info? 121).map (·.size) = some MC.toArray.size := by rw [List.size_toArray, hln]; kernel_rfl
     have hi19b : (Tryz.prog.info? 121).map (·.size) = some MC.length := by rw [hln]; kernel_rfl
     have h19s : MC.toArray.size = 19 := by rw [List.size_toArray, hln]
     have HCS := Lib.hid hcs
     have htl2 : tl.length ≤ 1000 := by omega
     clear hfl hMC hcs
     have hk4 : Same wr (wr.alloc (.cells MC.toArray 121)) := (Keep.refl _ _).alloc _
     have hz4 : (wr.alloc (.cells MC.toArray 121)).heap.size = wr.heap.size + 1 := by simp
     have hr4 : (wr.alloc (.cells MC.toArray 121)).rangeAt wr.heap.size 0 MC := fun j v hj => by
      rw [Nat.zero_add, cell_of_row _ _ j MC.toArray 121 (0, 0) (World.alloc_heap_new wr _)]
      simpa using hj
     obtain ⟨W3, hW3⟩ : ∃ W3, wr.alloc (.cells MC.toArray 121) = W3 := ⟨_, rfl⟩
     rw [hW3] at hk4 hz4 hr4
     have hr40 : W3.rangeAt wr.heap.size 0 (nodeCs k (.slice ka kn kc)) := fun j v hj => hr4 j v (by rw [HCS.out, List.append_assoc, List.getElem?_append_left (List.getElem?_eq_some_iff.1 hj).1]; exact hj)
     have hr41 : W3.rangeAt wr.heap.size 10 (nodeCs gg (.slice ga gn gc)) := fun j v hj => by
      have := hr4 (10 + j) v (by rw [HCS.out, List.getElem?_append_right (by simp)]; simpa using hj)
      rwa [Nat.zero_add] at this
     have hown3 := hown.same hk4
     clear hr4
     have hlt2 : (i : Int) < (dl.length : Int) := by omega
     have hlt3 : (i : Int) < ((n : Int) / 2) := by omega
     go_wp2_with (first
      | (refine wpList_load_mid rfl 121 _ rfl g (i * 19) rfl MC _ hrr Tryz.underlying121 rfl hi19b ?_)
      | (refine wpList_store_row rfl 121 _ _ rfl wr.heap.size MC.toArray rfl rfl 121 _ (heap_alloc_last _ _) hi19 (by rw [h19s]; rfl) hall2 ?_; rw [World.setRow_alloc_new, hW3]; clear hW3 hi19 hi19b hall2 h19s hone hln)
      | (refine wpList_load_mid rfl 27 _ rfl wr.heap.size 0 rfl (nodeCs k (.slice ka kn kc)) _ hr40 Tryz.underlying27 rfl (by kernel_rfl) ?_)
      | (refine wpList_load_mid rfl 27 _ rfl wr.heap.size 10 rfl (nodeCs gg (.slice ga gn gc)) _ hr41 Tryz.underlying27 rfl (by kernel_rfl) ?_)
      | (at_builtin; refine wpList_append_trees (v := .slice a0 tl.length cp0) (ts := [.node k kl, .node gg gl]) (news := nodeCs k (.slice ka kn kc) ++ nodeCs gg (.slice ga gn gc)) rfl _ _ rfl rfl rfl (hown3.same ((Keep.refl _ _).alloc _)) rfl ?d2 ?d3 ?d6 ?d4 ?d5 ?_))
     case d2 =>
      rw [RepL]
      refine ⟨nodeCs k (.slice ka kn kc), nodeCs gg (.slice ga gn gc), rfl, ?_, repL_one ?_⟩
      ·rw [rep_node]; exact ⟨hg1, _, rfl, (((hg3.mono (fun b hb h => (⟨h, hown.apart hb⟩ : _ ∧ _))).same hsm).same hk4).same ((Keep.refl _ _).alloc _)⟩
      ·rw [rep_node]; exact ⟨hg2, _, rfl, (((hg4.mono (fun b hb h => (⟨h, hown.apart hb⟩ : _ ∧ _))).same hsm).same hk4).same ((Keep.refl _ _).alloc _)⟩
     case d6 => exact fun u hu => (List.mem_append.1 hu).elim (node_one _ _ _ _ u) (node_one _ _ _ _ u)
     case d3 => exact fun j u h => by rw [← hz4]; exact cells_new W3 _ _ _ _ h
     case d4 => first | omega | (simp only [List.length_cons, List.length_nil]; omega)
     case d5 => have := hsm.size; simp; omega
     intro v' w3 hown' hg
     have hsm1 : Same A3 w3 := same_grown ((hsm.trans hk4).alloc _) (Nat.le_refl _) (hown3.same ((Keep.refl _ _).alloc _)) hg
     obtain ⟨a1, cp1, hv1⟩ := hown'.is_slice
     subst hv1
     rw [show tl ++ [Tree.node k kl, .node gg gl] = unpairs ((dl.take (i + 1)).map Prr.pair) from HTF.out] at hown' ⊢
     go_wp2
     exact ⟨⟨i + 1, by omega, by go_num, hown', hsm1⟩, by simp [RowKit.intOf]; omega⟩
    ·have hie : i = dl.length := by omega
     subst hie
     rw [List.take_length] at hown hfl
     obtain ⟨a0, cp0, rfl⟩ := hown.is_slice
     have hrep := hown.rep hSn (by omega)
     rw [hfl, hll] at hrep
     have hDBr := hsm.same _ _ hDB3 trivial
     have hge : ¬ ((dl.length : Int) < (n : Int) / 2) := by omega
     have hpp : PermP (dl.map Prr.pair) (ms.map Prr.pair) := (hperm.map _).symm
     have hwr := hsA3.trans hsm
     clear hown hra hgd
     go_wp2
     gi_wp2
     refine ⟨by simp, .inl ⟨_, _, rfl, run_takeDeferred hDBr, ?_⟩⟩
     have hkD : Same w _ := hwr.putObj (.deferred none) (r := D) fun o _ _ h => by omega
     have hkp := (Keep.refl (fun k o => k ≠ D ∨ o.isCells = true) _).putObj (r := D) (.deferred none) fun o ho hs _ => by rw [hDBr] at ho; cases ho; rcases hs with h | h; exact h rfl; cases h
     exact ⟨_, results_tmp rfl _ _ _, _, _, .slice a0 (2 * (n / 2)) cp0, rfl, hall, hpp, hrep.keep hkp (fun _ _ _ _ => .inr rfl), hkD⟩
 case hstop => rintro D i c A _ _ h; exact h.elim
end Go.Tm
namespace Go.Tm
open Go.RowKit Go.Proofs
set_option maxRecDepth 100000 in
set_option maxHeartbeats 2000000 in
theorem set_map {N : Nat} {E : Errs} (h : Hd) (l : List Tree) (ih : ∀ x ∈ l, SettAt N E x) (hdep : ∀ x ∈ l, x.depth ≤ 1000000) (hev : l.length % 2 = 0) (hl : l.length ≤ 1000) (h8 : h.kind = 8) : SettAt N E (.node h l) := by
 intro S lv w hG hN hS hok hr
 simp only [Tree.hd_node, Tree.l_node] at hok hr ⊢
 obtain ⟨a, cap, rfl⟩ := hr.is_slice
 have k4 : (h.kind == 4) = false := by simp; omega
 have k8 : (h.kind == 8) = true := by simpa using h8
 have n4 : ¬ h.kind = 4 := by omega
 have hso := fun W (hs : Same w W) (hz : w.heap.size + 2 ≤ W.heap.size) => detSorted_any (N := N) (E := E) (fun b => S b ∧ b ≠ w.heap.size ∧ b ≠ w.heap.size + 1) l ih hdep (.slice a l.length cap) W (hG.same hs) (Nat.le_trans hN hs.size) (fun b hb => ⟨hS b (by omega), by omega, by omega⟩) ((hr.mono (S' := fun b => S b ∧ b ≠ w.heap.size ∧ b ≠ w.heap.size + 1) fun b hb hh => ⟨hh, by omega, by omega⟩).same hs) hev hl
 obtain ⟨n, hn⟩ : ∃ n, l.length = n := ⟨_, rfl⟩
 rw [hn] at hso ⊢
 have hres : ∀ qs ps, SetP l ps → PermP qs ps → SetR (.node h l) (.node h (unpairs qs)) := fun qs ps h1 h2 => by rw [SetR, if_neg n4, if_pos h8]; exact ⟨qs, ps, h1, h2, rfl⟩
 clear h8 n4 ih hdep
 go_enter Tryz.func37, Tryz.ntmps37
 go_wp2_with fail
 refine (hso _ (by repeat with_reducible first | exact Keep.refl _ _ | refine Keep.alloc ?_ _ | refine Keep.drew ?_ | refine Keep.drewN ?_ _ | refine Keep.trans ?_ (by assumption)) (by simp)).mono ?_
 rintro e w1 ⟨qs, ps, v', rfl, hp1, hp2, hrq, hk1⟩
 have hR := hres qs ps hp1 hp2
 have hb1 := hk1.same w.heap.size _ (show _ = some (.cells #[.int .i64 h.kind, .bool h.b, .bool h.d.neg, .string h.d.digits, .int .i64 h.d.exp, .int .u64 (h.u : Int), .int .i64 h.w, .string h.s, .slice a n cap] 27 (0, 0)) from heap_old (World.alloc_heap_new w _)) trivial
 have hz1 := hk1.same (w.heap.size + 1) _ (show _ = some (.cells #[.int .i64 0, .bool false, .bool false, .string ⟨#[]⟩, .int .i64 0, .int .u64 0, .int .i64 0, .string ⟨#[]⟩, .slice none 0 0] 27 (0, 0)) from heap_new' (by simp)) trivial
 have hkw1 : Same w w1 := (by repeat with_reducible first | exact Keep.refl _ _ | refine Keep.alloc ?_ _ | refine Keep.drew ?_ | refine Keep.drewN ?_ _ | refine Keep.trans ?_ (by assumption))
 obtain ⟨va, vc, rfl⟩ := hrq.is_slice
 clear hso hres hp1 hp2 hk1 hr
 obtain ⟨m, hm⟩ : ∃ m, (unpairs qs).length = m := ⟨_, rfl⟩
 rw [hm] at hrq ⊢
 obtain ⟨n0, n1, n2, n3, n4, n5, n6, n7, n8⟩ := cells9 hb1
 obtain ⟨q0, q1, q2, q3, q4, q5, q6, q7, q8⟩ := cells9 hz1
 have hfb : ∀ j, w1.frozen? ⟨w.heap.size, j, none⟩ = false := Lib.frozen_of_heap hb1
 have hfz : ∀ j, w1.frozen? ⟨w.heap.size + 1, j, none⟩ = false := Lib.frozen_of_heap hz1
 have hkA : Keep (fun b _ => b ≠ w.heap.size) w1 (w1.setCell ⟨w.heap.size, 8, none⟩ (.slice va m vc)) := (Keep.refl _ w1).setCell _ fun o _ hs _ => hs rfl
 have hzA := hkA.same _ _ hz1 (by omega)
 go_wp2_with fail
 (try simp only [Exit.inBlock, Exit.then])
 generalize (w1.setCell ⟨w.heap.size, 8, none⟩ (.slice va m vc)) = wA at hkA hzA ⊢
 obtain ⟨h9, hkB⟩ := put9 hzA (.int .i64 h.kind) (.bool h.b) (.bool h.d.neg) (.string h.d.digits) (.int .i64 h.d.exp) (.int .u64 h.u) (.int .i64 h.w) (.string h.s) (.slice va m vc)
 have hfin := ((hrq.keep hkA fun y hy _ _ => hy.2.1).keep hkB fun y hy _ _ => hy.2.2).mono fun y _ hy => hy.1
 have hsB := same_two hkw1 hkA hkB (by omega) (by omega)
 exact bodyPost_ret (results_cell_row rfl _ _ (w.heap.size + 1) 27 _ (0, 0) _ rfl h9 Tryz.underlying27 rfl (by kernel_rfl)) rfl ⟨.node h (unpairs qs), _, rfl, hR, hok, hfin, hsB⟩
theorem settled_all {N : Nat} {E : Errs} : ∀ t : Tree, t.depth ≤ 1000000 → (∀ x ∈ t.flat, (x.hd.kind = 8 → x.l.length % 2 = 0) ∧ x.l.length ≤ 1000) → SettAt N E t := by
 refine Tree.ind fun h l ih hd hf => ?_
 obtain ⟨h0, hk⟩ := (flat_all (fun x => (x.hd.kind = 8 → x.l.length % 2 = 0) ∧ x.l.length ≤ 1000) (.node h l)).1 hf
 simp only [Tree.hd_node, Tree.l_node] at h0 hk
 have hdk : ∀ x ∈ l, x.depth ≤ 1000000 := fun x hx => by
  have := depthL_mem hx
  rw [Tree.depth] at hd
  omega
 have ih' : ∀ x ∈ l, SettAt N E x := fun x hx => ih x hx (hdk x hx) (hk x hx)
 by_cases h4 : h.kind = 4
 ·exact set_float h l h4
 ·by_cases h8 : h.kind = 8
  ·exact set_map h l ih' hdk (h0.1 h8) h0.2 h8
  ·exact set_plain h l ih' h0.2 h4 h8
end Go.Tm
namespace Go.Tm
open Go.RowKit Go.Proofs
set_option maxRecDepth 100000 in
theorem settle_res (T : Array Value) (W : World) (bx : Nat) (h : Hd) (lv : Value) (e : Int) (h2 : T.getD 2 undef = .pointer (some ⟨bx, 0, none⟩)) (h3 : T.getD 3 undef = .int .i64 e)
  (hrow : W.heap[bx]? = some (.cells #[.int .i64 h.kind, .bool h.b, .bool h.d.neg, .string h.d.digits, .int .i64 h.d.exp, .int .u64 (h.u : Int), .int .i64 h.w, .string h.s, lv] 27 (0, 0))) : (results Tryz.f23 T).run Tryz.prog W = .ok (.tuple #[nodeV h lv, .int .i64 e]) W := by
 have hld := run_loadVar_row (P := Tryz.prog) W bx 27 27 _ (0, 0) _ hrow Tryz.underlying27 rfl (by kernel_rfl)
 rw [results_cell_tmp rfl, h2, h3]
 simp [asAddr, hld, Result.andThen]
def SettleOut (S : Nat → Prop) (t : Tree) (w : World) (e : Ending) (w' : World) : Prop := ∃ (r : Tree) (lv' : Value), e = .returned (.tuple #[nodeV r.hd lv', .int .i64 (checkT t 2)]) ∧ (checkT t 2 = 0 → SetR t r) ∧ r.hd.ok ∧ RepS S w' r.l lv' ∧ Same w w'
set_option maxRecDepth 100000 in
set_option maxHeartbeats 2000000 in
theorem settle_any {N : Nat} {E : Errs} (S : Nat → Prop) (t : Tree) (lv : Value) (w : World) (hG : Glob N E w) (hN : N ≤ w.heap.size) (hS : ∀ b, w.heap.size ≤ b → S b) (hok : t.hd.ok) (hd : t.depth ≤ 1000000) (hr : RepS S w t.l lv) (hset : checkT t 2 = 0 → SettAt N E t) :
  Calls Tryz.prog 23 #[nodeV t.hd lv] w (SettleOut S t w) := by
 obtain ⟨a, cap, rfl⟩ := hr.is_slice
 have hck := fun W (hs : Same w W) => check_any (N := N) (E := E) 2 t (.slice a t.l.length cap) W (hG.same hs) (by omega) ((hr.mono fun _ _ _ => trivial).same hs) hok
 unfold SettleOut
 obtain ⟨c, hc⟩ : ∃ c, checkT t 2 = c := ⟨_, rfl⟩
 rw [hc] at hck hset ⊢
 have hcall := fun (h0 : c = 0) W (hs : Same w W) (hz : w.heap.size + 2 ≤ W.heap.size) => hset h0 (fun b => S b ∧ b ≠ w.heap.size ∧ b ≠ w.heap.size + 1) (.slice a t.l.length cap) W (hG.same hs) (Nat.le_trans hN hs.size) (fun b hb => ⟨hS b (by omega), by omega, by omega⟩) hok ((hr.mono (S' := fun b => S b ∧ b ≠ w.heap.size ∧ b ≠ w.heap.size + 1) fun b hb hh => ⟨hh, by omega, by omega⟩).same hs)
 unfold SettOut at hcall
 obtain ⟨h, l⟩ := t
 simp only [Tree.hd_node, Tree.l_node] at hck hcall hok hr ⊢
 obtain ⟨n, hn⟩ : ∃ n, l.length = n := ⟨_, rfl⟩
 rw [hn] at hck hcall hr ⊢
 clear hset hc hd
 go_enter Tryz.func23, Tryz.ntmps23
 go_wp2_with fail
 refine (hck _ (by repeat with_reducible first | exact Keep.refl _ _ | refine Keep.alloc ?_ _ | refine Keep.drew ?_ | refine Keep.drewN ?_ _ | refine Keep.trans ?_ (by assumption))).mono ?_
 rintro e w1 ⟨rfl, hk1⟩
 have hb1 := hk1.same w.heap.size _ (show _ = some (.cells #[.int .i64 h.kind, .bool h.b, .bool h.d.neg, .string h.d.digits, .int .i64 h.d.exp, .int .u64 (h.u : Int), .int .i64 h.w, .string h.s, .slice a n cap] 27 (0, 0)) from heap_old (World.alloc_heap_new w _)) trivial
 have hz1 := hk1.same (w.heap.size + 1) _ (show _ = some (.cells #[.int .i64 0, .bool false, .bool false, .string ⟨#[]⟩, .int .i64 0, .int .u64 0, .int .i64 0, .string ⟨#[]⟩, .slice none 0 0] 27 (0, 0)) from heap_new' (by simp)) trivial
 have hzs : w.heap.size + 2 ≤ w1.heap.size := by have := hk1.size; simp at this; omega
 have hkw1 : Same w w1 := (by repeat with_reducible first | exact Keep.refl _ _ | refine Keep.alloc ?_ _ | refine Keep.drew ?_ | refine Keep.drewN ?_ _ | refine Keep.trans ?_ (by assumption))
 clear hk1 hck
 obtain ⟨n0, n1, n2, n3, n4, n5, n6, n7, n8⟩ := cells9 hb1
 obtain ⟨q0, q1, q2, q3, q4, q5, q6, q7, q8⟩ := cells9 hz1
 have hfz : ∀ j, w1.frozen? ⟨w.heap.size + 1, j, none⟩ = false := Lib.frozen_of_heap hz1
 by_cases hc0 : c = 0
 ·subst hc0
  have hcl := hcall rfl w1 hkw1 hzs
  clear hcall
  go_wp2_with fail
  refine hcl.mono ?_
  rintro e w2 ⟨r, lv', rfl, hsr, hro, hrr, hk2⟩
  have hz2 := hk2.same _ _ hz1 trivial
  have hkw2 := hkw1.trans hk2
  obtain ⟨rh, rl⟩ := r
  simp only [Tree.hd_node, Tree.l_node] at hro hrr
  obtain ⟨ra, rc, rfl⟩ := hrr.is_slice
  obtain ⟨m, hm⟩ : ∃ m, rl.length = m := ⟨_, rfl⟩
  rw [hm] at hrr ⊢
  clear hcl hk2 n0 n1 n2 n3 n4 n5 n6 n7 n8 q0 q1 q2 q3 q4 q5 q6 q7 q8 hfz hb1 hz1
  obtain ⟨q0, q1, q2, q3, q4, q5, q6, q7, q8⟩ := cells9 hz2
  have hfz : ∀ j, w2.frozen? ⟨w.heap.size + 1, j, none⟩ = false := Lib.frozen_of_heap hz2
  go_wp2_with fail
  obtain ⟨h9, hk9⟩ := put9 hz2 (.int .i64 rh.kind) (.bool rh.b) (.bool rh.d.neg) (.string rh.d.digits) (.int .i64 rh.d.exp) (.int .u64 rh.u) (.int .i64 rh.w) (.string rh.s) (.slice ra m rc)
  have hsm : Same w _ := ⟨hk9.os.trans hkw2.os, hk9.tape.trans hkw2.tape, hk9.output.trans hkw2.output, Nat.le_trans hkw2.size hk9.size, fun y o hy _ => hk9.same y o (hkw2.same y o hy trivial) (by have := lt_of_some hy; omega)⟩
  exact bodyPost_ret (settle_res _ _ (w.heap.size + 1) rh (.slice ra m rc) 0 rfl rfl h9) rfl ⟨.node rh rl, _, rfl, hsr, hro, (hrr.keep hk9 fun y hy _ _ => hy.2.2).mono fun y _ hy => hy.1, hsm⟩
 ·have hcb : (c != 0) = true := by simpa using hc0
  clear hcall
  go_wp2_with fail
  obtain ⟨h9, hk9⟩ := put9 hz1 (.int .i64 0) (.bool false) (.bool false) (.string ⟨#[]⟩) (.int .i64 0) (.int .u64 0) (.int .i64 0) (.string ⟨#[]⟩) (.slice none 0 0)
  have hsm : Same w _ := ⟨hk9.os.trans hkw1.os, hk9.tape.trans hkw1.tape, hk9.output.trans hkw1.output, Nat.le_trans hkw1.size hk9.size, fun y o hy _ => hk9.same y o (hkw1.same y o hy trivial) (by have := lt_of_some hy; omega)⟩
  exact bodyPost_ret (settle_res _ _ (w.heap.size + 1) (bareHd 0) (.slice none 0 0) c rfl rfl h9) rfl ⟨.node (bareHd 0) [], _, rfl, fun h => absurd h hc0, bare_ok 0 (by decide), RepS.nil _ _, hsm⟩
end Go.Tm
namespace Go.Tm
open Go.RowKit Go.Proofs
set_option maxRecDepth 100000 in
set_option maxHeartbeats 1000000 in
theorem refCount_any : ∀ t : Tree, ∀ (S : Nat → Prop) (lv : Value) (w : World), RepS S w t.l lv → Calls Tryz.prog 16 #[nodeV t.hd lv] w fun e w' => e = .returned (.int .i64 (cnt64 t)) ∧ Same w w' := by
 refine Tree.ind fun h l ih => ?_
 intro S lv w hl
 simp only [Tree.hd_node, Tree.l_node] at hl ⊢
 obtain ⟨hlen, a, cap, rfl, hcap, hi⟩ := hl.shape
 have hcn : cnt64 (.node h l) = wrap64 ((1 + countL l : Nat) : Int) := by unfold cnt64; simp only [Tree.count]
 rw [hcn]
 clear hcn
 go_enter Tryz.func16, Tryz.ntmps16
 go_wp2
 go_loopw [3, 4] (fun v i wr => ∃ k : Nat, k ≤ l.length ∧ i = .int .i64 k ∧ v = .int .i64 (wrap64 ((1 + countL (l.take k) : Nat) : Int)) ∧ Same w wr ∧ wr.heap[w.heap.size]? = some (.cells #[.int .i64 h.kind, .bool h.b, .bool h.d.neg, .string h.d.digits, .int .i64 h.d.exp, .int .u64 h.u, .int .i64 h.w, .string h.s, .slice a l.length cap] 27 (0, 0)))
  (fun _ i _ => l.length - (RowKit.intOf i).toNat)
 case atStart => exact ⟨0, Nat.zero_le _, rfl, by rw [List.take_zero, show ((1 + countL [] : Nat) : Int) = 1 from rfl, IntWalk.wrap64_in (1 : Int) (by omega)], (Keep.refl _ _).alloc _, World.alloc_heap_new w _⟩
 case round =>
  obtain ⟨k, hk, rfl, rfl, hsm, hbx⟩ := hrel
  obtain ⟨n0, n1, n2, n3, n4, n5, n6, n7, n8⟩ := cells9 hbx
  obtain ⟨q, hq⟩ : ∃ q, wrap64 ((1 + countL (l.take k) : Nat) : Int) = q := ⟨_, rfl⟩
  by_cases hlt : k < l.length
  ·obtain ⟨b, off, lv', rfl, hS, hb, hr, hok, hra⟩ := hi k hlt
   obtain ⟨a', cap', rfl⟩ := hr.is_slice
   obtain ⟨c0, c1, c2, c3, c4, c5, c6, c7, c8⟩ := nodeAt_of (rangeAt_same hsm hra)
   have hst := countL_take l k hlt
   obtain ⟨cc, hcc⟩ : ∃ q, cnt64 (l[k]) = q := ⟨_, rfl⟩
   have hq2 : wrap64 ((1 + countL (l.take (k + 1)) : Nat) : Int) = wrap64 (q + cc) := by
    rw [← hq, ← hcc, hst]; unfold cnt64; rw [wrap64_add]; congr 1; push_cast; omega
   have HQ2 := Lib.hid hq2
   have ihc := fun (W : World) (hr2 : RepS S W (l[k]).l (.slice a' (l[k]).l.length cap')) => ih _ (List.getElem_mem hlt) S _ W hr2
   rw [hcc] at ihc
   rw [hq]
   clear hst hq2 hq hcc
   go_wp2_with (first | (go_at_call 16; refine (ihc _ (hr.same hsm)).mono ?_; rintro e w' ⟨rfl, hk'⟩))
   go_roundw
   case rel => exact ⟨k + 1, by omega, by go_num, by rw [HQ2.out], hsm.trans hk', hk'.same _ _ hbx trivial⟩
   case measure => simp [RowKit.intOf]; omega
  ·obtain rfl : k = l.length := by omega
   rw [List.take_length] at hq
   rw [List.take_length, hq]
   go_wp2
   go_ret
   exact ⟨by rw [hq]; rfl, hsm⟩
end Go.Tm
namespace Go.Tm
open Go.RowKit Go.Proofs
def fewT (t : Tree) : Tree := if 400 < cnt64 (t.cut 17) then .node (cutHd t.hd) [] else t.cut 17
theorem few_hd (t : Tree) : (fewT t).hd = cutHd t.hd := by unfold fewT; split; rfl; exact cut_hd 17 t
set_option maxRecDepth 100000 in
set_option maxHeartbeats 4000000 in
theorem few_any (t : Tree) (lv : Value) (w : World) (hrep : t.RepW w lv) :
  Calls Tryz.prog 10 #[nodeV t.hd lv] w fun e w' => ∃ lv', e = .returned (nodeV (cutHd t.hd) lv') ∧ RepS (fun b => w.heap.size ≤ b) w' (fewT t).l lv' ∧ Same w w' := by
 obtain ⟨ho, a, cap, rfl, hlen, hL⟩ := repW_node hrep
 have hcut := fun (W : World) (hk : Same w W) => cut_any 17 t _ W (by omega) (hrep.same hk)
 obtain ⟨n, hn⟩ : ∃ n, t.l.length = n := ⟨_, rfl⟩
 rw [hn] at hcut ⊢
 obtain ⟨h, hh⟩ : ∃ h, t.hd = h := ⟨_, rfl⟩
 rw [hh] at hcut ⊢
 obtain ⟨q, hq⟩ : ∃ q, cutHd h = q := ⟨_, rfl⟩
 rw [hq] at hcut ⊢
 have hct : t.cut 17 = .node q (t.cut 17).l := by rw [← hq, ← hh, ← cut_hd 17]; exact (Tree.eta _).symm
 obtain ⟨cl, hcl⟩ : ∃ cl, (t.cut 17).l = cl := ⟨_, rfl⟩
 rw [hcl] at hcut hct
 have hfew : (fewT t).l = if 400 < cnt64 (.node q cl) then [] else cl := by unfold fewT; rw [hct]; split <;> rfl
 rw [hfew]
 obtain ⟨cc, hcc⟩ : ∃ cc, cnt64 (.node q cl) = cc := ⟨_, rfl⟩
 rw [hcc]
 have hcnt := fun (W : World) (lv2 : Value) (hr : RepS AnyB W cl lv2) => refCount_any (.node q cl) AnyB lv2 W hr
 rw [hcc] at hcnt
 simp only [Tree.hd_node] at hcnt
 clear hcc hfew hct hcl hh hq hn hrep hL ho
 go_enter Tryz.func10, Tryz.ntmps10
 by_cases hbig : 400 < cc
 ·rw [if_pos hbig]
  go_wp2_with (first
   | (go_at_call 25; refine (hcut _ (by repeat with_reducible first | exact Keep.refl _ _ | refine Keep.alloc ?_ _ | refine Keep.drew ?_ | refine Keep.drewN ?_ _ | refine Keep.trans ?_ (by assumption))).mono ?_; rintro e w1 ⟨lv2, rfl, hr2, hk2⟩; obtain ⟨a2, c2, rfl⟩ := hr2.is_slice; have hb := hk2.same w.heap.size _ (show _ = some (.cells #[.int .i64 h.kind, .bool h.b, .bool h.d.neg, .string h.d.digits, .int .i64 h.d.exp, .int .u64 h.u, .int .i64 h.w, .string h.s, .slice a n cap] 27 (0, 0)) from (by repeat (first | with_reducible exact heap_new' (by simp) | with_reducible refine heap_old ?_ | with_reducible refine heap_drew ?_))) trivial; have hr := hk2.same (w.heap.size + 1) _ (show _ = some (.cells #[.int .i64 0, .bool false, .bool false, .string ⟨#[]⟩, .int .i64 0, .int .u64 0, .int .i64 0, .string ⟨#[]⟩, .slice none 0 0] 27 (0, 0)) from (by repeat (first | with_reducible exact heap_new' (by simp) | with_reducible refine heap_old ?_ | with_reducible refine heap_drew ?_))) trivial; obtain ⟨n0, n1, n2, n3, n4, n5, n6, n7, n8⟩ := cells9 hb; obtain ⟨m0, m1, m2, m3, m4, m5, m6, m7, m8⟩ := cells9 hr; have hfb : ∀ j, w1.frozen? ⟨w.heap.size, j, none⟩ = false := Lib.frozen_of_heap hb; have hfr : ∀ j, w1.frozen? ⟨w.heap.size + 1, j, none⟩ = false := Lib.frozen_of_heap hr)
   | (go_at_call 16; fail))
  obtain ⟨h9, hk9⟩ := put9 hb (.int .i64 q.kind) (.bool q.b) (.bool q.d.neg) (.string q.d.digits) (.int .i64 q.d.exp) (.int .u64 q.u) (.int .i64 q.w) (.string q.s) (.slice a2 cl.length c2)
  have hrX := hk9.same _ _ hr (by omega)
  have hr3 : RepS (fun b => w.heap.size + 2 ≤ b) w1 cl (.slice a2 cl.length c2) := hr2.mono fun b _ (hb : _ ≤ b) => by simpa using hb
  have hrp := hr3.keep hk9 fun b (hb : w.heap.size + 2 ≤ b) _ _ => by omega
  have hkX : Same w _ := (⟨hk9.os.trans hk2.os, hk9.tape.trans hk2.tape, hk9.output.trans hk2.output, Nat.le_trans (by have := hk2.size; simp at this; omega) hk9.size, fun k o hk _ => hk9.same k o (hk2.same k o (heap_old (heap_old hk)) trivial) (by have := lt_of_some hk; omega)⟩ : Same w _)
  clear n0 n1 n2 n3 n4 n5 n6 n7 n8 m0 m1 m2 m3 m4 m5 m6 m7 m8 hfb hfr hk9 hr3 hr2 hr hb hk2
  generalize ((((((((((w1.setCell ⟨w.heap.size, 0, none⟩ (.int .i64 q.kind)).setCell ⟨w.heap.size, 1, none⟩ (.bool q.b)).setCell ⟨w.heap.size, 2, none⟩ (.bool q.d.neg)).setCell ⟨w.heap.size, 3, none⟩ (.string q.d.digits)).setCell ⟨w.heap.size, 4, none⟩ (.int .i64 q.d.exp)).setCell ⟨w.heap.size, 5, none⟩ (.int .u64 q.u)).setCell ⟨w.heap.size, 6, none⟩ (.int .i64 q.w)).setCell ⟨w.heap.size, 7, none⟩ (.string q.s)).setCell ⟨w.heap.size, 8, none⟩ (.slice a2 cl.length c2))) = X at h9 hrX hrp hkX ⊢
  refine (hcnt X _ (hrp.mono fun _ _ _ => trivial)).mono ?_
  rintro e w3 ⟨rfl, hk3⟩
  have hbc := hk3.same _ _ h9 trivial
  have hrc := hk3.same _ _ hrX trivial
  have hrp3 := hrp.same hk3
  have hkw3 : Same w w3 := hkX.trans hk3
  obtain ⟨n0, n1, n2, n3, n4, n5, n6, n7, n8⟩ := cells9 hbc
  obtain ⟨m0, m1, m2, m3, m4, m5, m6, m7, m8⟩ := cells9 hrc
  have hfb : ∀ j, w3.frozen? ⟨w.heap.size, j, none⟩ = false := Lib.frozen_of_heap hbc
  have hfr : ∀ j, w3.frozen? ⟨w.heap.size + 1, j, none⟩ = false := Lib.frozen_of_heap hrc
  have hkeep : ∀ (X : World) (p : Addr) (v : Value) (b : Nat), p.block ≠ b → (X.setCell p v).heap[b]? = X.heap[b]? := fun X p v b h => Below.heap_setCell X p v b (fun e => h e.symm)
  clear h9 hrX hrp hkX hk3
  go_wp2
  have hX : (w3.setCell ⟨w.heap.size, 8, none⟩ (.slice none 0 0)).heap[w.heap.size + 1]? = some (.cells #[.int .i64 0, .bool false, .bool false, .string ⟨#[]⟩, .int .i64 0, .int .u64 0, .int .i64 0, .string ⟨#[]⟩, .slice none 0 0] 27 (0, 0)) := by rw [hkeep _ _ _ _ (by show w.heap.size ≠ w.heap.size + 1; omega)]; exact hrc
  obtain ⟨h9, hk9⟩ := put9 hX (.int .i64 q.kind) (.bool q.b) (.bool q.d.neg) (.string q.d.digits) (.int .i64 q.d.exp) (.int .u64 q.u) (.int .i64 q.w) (.string q.s) (.slice none 0 0)
  refine bodyPost_ret (results_cell_row rfl _ _ (w.heap.size + 1) 27 _ (0, 0) _ rfl h9 Tryz.underlying27 rfl (by kernel_rfl)) rfl ⟨_, rfl, RepS.nil _ _, ?_⟩
  have hk8 : Same w (w3.setCell ⟨w.heap.size, 8, none⟩ (.slice none 0 0)) := hkw3.setCell (p := ⟨w.heap.size, 8, none⟩) _ (fun o _ _ h => absurd h (Nat.lt_irrefl _))
  exact ⟨hk9.os.trans hk8.os, hk9.tape.trans hk8.tape, hk9.output.trans hk8.output, Nat.le_trans hk8.size hk9.size, fun k o hk _ => hk9.same k o (hk8.same k o hk trivial) (by have := lt_of_some hk; omega)⟩
 ·rw [if_neg hbig]
  go_wp2_with (first
   | (go_at_call 25; refine (hcut _ (by repeat with_reducible first | exact Keep.refl _ _ | refine Keep.alloc ?_ _ | refine Keep.drew ?_ | refine Keep.drewN ?_ _ | refine Keep.trans ?_ (by assumption))).mono ?_; rintro e w1 ⟨lv2, rfl, hr2, hk2⟩; obtain ⟨a2, c2, rfl⟩ := hr2.is_slice; have hb := hk2.same w.heap.size _ (show _ = some (.cells #[.int .i64 h.kind, .bool h.b, .bool h.d.neg, .string h.d.digits, .int .i64 h.d.exp, .int .u64 h.u, .int .i64 h.w, .string h.s, .slice a n cap] 27 (0, 0)) from (by repeat (first | with_reducible exact heap_new' (by simp) | with_reducible refine heap_old ?_ | with_reducible refine heap_drew ?_))) trivial; have hr := hk2.same (w.heap.size + 1) _ (show _ = some (.cells #[.int .i64 0, .bool false, .bool false, .string ⟨#[]⟩, .int .i64 0, .int .u64 0, .int .i64 0, .string ⟨#[]⟩, .slice none 0 0] 27 (0, 0)) from (by repeat (first | with_reducible exact heap_new' (by simp) | with_reducible refine heap_old ?_ | with_reducible refine heap_drew ?_))) trivial; obtain ⟨n0, n1, n2, n3, n4, n5, n6, n7, n8⟩ := cells9 hb; obtain ⟨m0, m1, m2, m3, m4, m5, m6, m7, m8⟩ := cells9 hr; have hfb : ∀ j, w1.frozen? ⟨w.heap.size, j, none⟩ = false := Lib.frozen_of_heap hb; have hfr : ∀ j, w1.frozen? ⟨w.heap.size + 1, j, none⟩ = false := Lib.frozen_of_heap hr)
   | (go_at_call 16; fail))
  obtain ⟨h9, hk9⟩ := put9 hb (.int .i64 q.kind) (.bool q.b) (.bool q.d.neg) (.string q.d.digits) (.int .i64 q.d.exp) (.int .u64 q.u) (.int .i64 q.w) (.string q.s) (.slice a2 cl.length c2)
  have hrX := hk9.same _ _ hr (by omega)
  have hr3 : RepS (fun b => w.heap.size + 2 ≤ b) w1 cl (.slice a2 cl.length c2) := hr2.mono fun b _ (hb : _ ≤ b) => by simpa using hb
  have hrp := hr3.keep hk9 fun b (hb : w.heap.size + 2 ≤ b) _ _ => by omega
  have hkX : Same w _ := (⟨hk9.os.trans hk2.os, hk9.tape.trans hk2.tape, hk9.output.trans hk2.output, Nat.le_trans (by have := hk2.size; simp at this; omega) hk9.size, fun k o hk _ => hk9.same k o (hk2.same k o (heap_old (heap_old hk)) trivial) (by have := lt_of_some hk; omega)⟩ : Same w _)
  clear n0 n1 n2 n3 n4 n5 n6 n7 n8 m0 m1 m2 m3 m4 m5 m6 m7 m8 hfb hfr hk9 hr3 hr2 hr hb hk2
  generalize ((((((((((w1.setCell ⟨w.heap.size, 0, none⟩ (.int .i64 q.kind)).setCell ⟨w.heap.size, 1, none⟩ (.bool q.b)).setCell ⟨w.heap.size, 2, none⟩ (.bool q.d.neg)).setCell ⟨w.heap.size, 3, none⟩ (.string q.d.digits)).setCell ⟨w.heap.size, 4, none⟩ (.int .i64 q.d.exp)).setCell ⟨w.heap.size, 5, none⟩ (.int .u64 q.u)).setCell ⟨w.heap.size, 6, none⟩ (.int .i64 q.w)).setCell ⟨w.heap.size, 7, none⟩ (.string q.s)).setCell ⟨w.heap.size, 8, none⟩ (.slice a2 cl.length c2))) = X at h9 hrX hrp hkX ⊢
  refine (hcnt X _ (hrp.mono fun _ _ _ => trivial)).mono ?_
  rintro e w3 ⟨rfl, hk3⟩
  have hbc := hk3.same _ _ h9 trivial
  have hrc := hk3.same _ _ hrX trivial
  have hrp3 := hrp.same hk3
  have hkw3 : Same w w3 := hkX.trans hk3
  obtain ⟨n0, n1, n2, n3, n4, n5, n6, n7, n8⟩ := cells9 hbc
  obtain ⟨m0, m1, m2, m3, m4, m5, m6, m7, m8⟩ := cells9 hrc
  have hfb : ∀ j, w3.frozen? ⟨w.heap.size, j, none⟩ = false := Lib.frozen_of_heap hbc
  have hfr : ∀ j, w3.frozen? ⟨w.heap.size + 1, j, none⟩ = false := Lib.frozen_of_heap hrc
  have hkeep : ∀ (X : World) (p : Addr) (v : Value) (b : Nat), p.block ≠ b → (X.setCell p v).heap[b]? = X.heap[b]? := fun X p v b h => Below.heap_setCell X p v b (fun e => h e.symm)
  clear h9 hrX hrp hkX hk3
  go_wp2
  obtain ⟨h9, hk9⟩ := put9 hrc (.int .i64 q.kind) (.bool q.b) (.bool q.d.neg) (.string q.d.digits) (.int .i64 q.d.exp) (.int .u64 q.u) (.int .i64 q.w) (.string q.s) (.slice a2 cl.length c2)
  refine bodyPost_ret (results_cell_row rfl _ _ (w.heap.size + 1) 27 _ (0, 0) _ rfl h9 Tryz.underlying27 rfl (by kernel_rfl)) rfl ⟨_, rfl, ?_, ?_⟩
  ·refine RepS.mono (fun b _ (hb : w.heap.size + 2 ≤ b) => (by omega : w.heap.size ≤ b)) ?_
   exact hrp3.keep hk9 fun b (hb : w.heap.size + 2 ≤ b) _ _ => by omega
  ·exact ⟨hk9.os.trans hkw3.os, hk9.tape.trans hkw3.tape, hk9.output.trans hkw3.output, Nat.le_trans hkw3.size hk9.size, fun k o hk _ => hk9.same k o (hkw3.same k o hk trivial) (by have := lt_of_some hk; omega)⟩
end Go.Tm
namespace Go.Tm
theorem mem_flatL' {x : Tree} : ∀ {l : List Tree}, x ∈ flatL l → ∃ k ∈ l, x ∈ k.flat
 | [], h => by rw [flatL] at h; cases h
 | y :: l, h => by
  rw [flatL] at h
  rcases List.mem_append.1 h with h | h
  ·exact ⟨y, List.mem_cons_self, h⟩
  ·obtain ⟨k, hk, hx⟩ := mem_flatL' h
   exact ⟨k, List.mem_cons_of_mem _ hk, hx⟩
theorem flat_node {x : Tree} {h : Hd} {l : List Tree} (hx : x ∈ (Tree.node h l).flat) : x = .node h l ∨ ∃ k ∈ l, x ∈ k.flat := by
 rw [Tree.flat] at hx
 rcases List.mem_cons.1 hx with h | h
 ·exact .inl h
 ·exact .inr (mem_flatL' h)
theorem cut_depth : ∀ (d : Nat) (t : Tree), (t.cut d).depth ≤ d + 1
 | 0, t => by rw [Tree.cut, leaf_depth]; exact Nat.le_refl _
 | d + 1, t => by
  rw [Tree.cut, Tree.depth]
  have : depthL ((t.l.take 40).map (Tree.cut d)) ≤ d + 1 := depthL_all fun x hx => by
   obtain ⟨y, _, rfl⟩ := List.mem_map.1 hx
   exact cut_depth d y
  omega
theorem cut_lens : ∀ (d : Nat) (t x : Tree), x ∈ (t.cut d).flat → x.l.length ≤ 40
 | 0, t, x, hx => by
  rw [Tree.cut] at hx
  rcases flat_node hx with rfl | ⟨k, hk, _⟩
  ·exact Nat.zero_le _
  ·cases hk
 | d + 1, t, x, hx => by
  have h0 := cut_len (d + 1) t
  rw [Tree.cut] at hx h0
  rcases flat_node hx with rfl | ⟨k, hk, hxk⟩
  ·exact h0
  ·obtain ⟨y, _, rfl⟩ := List.mem_map.1 hk
   exact cut_lens d y x hxk
theorem few_depth (t : Tree) : (fewT t).depth ≤ 18 := by
 unfold fewT
 split
 ·rw [leaf_depth]; decide
 ·exact cut_depth 17 t
theorem few_lens (t x : Tree) (hx : x ∈ (fewT t).flat) : x.l.length ≤ 40 := by
 unfold fewT at hx
 split at hx
 ·rcases flat_node hx with rfl | ⟨k, hk, _⟩
  ·exact Nat.zero_le _
  ·cases hk
 ·exact cut_lens 17 t x hx
theorem few_ok {t : Tree} (h : t.hd.okW) : (fewT t).hd.ok := by rw [few_hd]; exact cutHd_ok h
end Go.Tm
