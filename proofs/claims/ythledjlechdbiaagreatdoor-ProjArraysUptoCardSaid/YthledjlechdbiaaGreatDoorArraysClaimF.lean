/-
  Part 6 of what the claim leans on: contracts of the functions that the law reaches, and plain facts of what they compute (joined by wip/merge.py out of the texts named behind each mark). Conditions: the theorems' own.
-/
import Derived.MapKept
import Derived.Lib.ItoaLen
import Derived.Test.YthledjlechdbiaaGreatDoorArraysClaimE
import Derived.Test.YthledjlechdbiaaGreatDoorRows

set_option linter.unusedVariables false
namespace Go.Tm
open Go.Sort
def revP : List Tree → List Tree
  | k :: x :: l => revP l ++ [k, x]
  | _ => []
mutual
def Tree.turn : Tree → Tree
  | .node h l => .node h (if h.kind = 8 ∧ l.length % 2 = 0 then revP (turnL l) else turnL l)
def turnL : List Tree → List Tree
  | [] => []
  | x :: l => x.turn :: turnL l
end
theorem countL_append : ∀ a b : List Tree, countL (a ++ b) = countL a + countL b
  | [], b => by simp [countL]
  | x :: a, b => by simp only [List.cons_append, countL, countL_append a b]; omega
theorem mem_flatL {x : Tree} : ∀ {l : List Tree}, x ∈ flatL l ↔ ∃ k ∈ l, x ∈ k.flat
  | [] => by simp [flatL]
  | y :: l => by rw [flatL, List.mem_append, mem_flatL (l := l)]; simp
variable (X : Hd → Dc × Bool)
end Go.Tm

set_option linter.unusedVariables false
namespace Go.Tm
open Go.Sort
def flatP (ps : List (ByteArray × Tree)) : List Tree := ps.flatMap fun x => [.node (textHd x.1) [], x.2]
theorem sortM_flatP (ps : List (ByteArray × Tree)) : sortM ps = flatP (ps.mergeSort leB) := rfl
theorem told_ne (k : Nat) (h : k ≠ 0) : toldN k ≠ 0 := by
  unfold toldN
  repeat' split
  all_goals first | decide | omega
end Go.Tm

set_option linter.unusedVariables false
namespace Go.Tm
open Go.RowKit
variable (X : Hd → Dc × Bool)
theorem count_pos (t : Tree) : 1 ≤ t.count := Tree.count_pos t
theorem leaf_count (h : Hd) : (Tree.node h []).count = 1 := by rw [Tree.count, countL]
theorem countL_perm {a b : List Tree} (h : a.Perm b) : countL a = countL b := by
  induction h with
  | nil => rfl
  | cons x _ ih => rw [countL, countL, ih]
  | swap x y l => rw [countL, countL, countL, countL]; omega
  | trans _ _ h1 h2 => rw [h1, h2]
theorem sortM_count (ps : List (ByteArray × Tree)) : countL (sortM ps) = countL (flatP ps) := by
  rw [sortM_flatP]
  exact countL_perm ((List.mergeSort_perm ps leB).flatMap_right _)
mutual
theorem Tree.proj_count : ∀ t : Tree, (t.proj X).1.count ≤ t.count
  | .node h l => by
    have hp := count_pos (.node h l)
    have h1 := projT_count l
    have h2 := projL_count l
    have h3 := projP_count l []
    rw [Tree.proj]
    split
    · exact Nat.le_trans (Nat.le_of_eq (leaf_count _)) hp
    · split
      · exact Nat.le_refl _
      · split
        · exact Nat.le_trans (Nat.le_of_eq (leaf_count _)) hp
        · split
          · exact Nat.le_trans (Nat.le_of_eq (leaf_count _)) hp
          · split
            · rw [Tree.count]; omega
            · split
              · rw [Tree.count, Tree.count]; show 1 + countL (projL X l).1 ≤ _; omega
              · split
                · rw [Tree.count, Tree.count]
                  show 1 + countL (sortM (projP X l []).1) ≤ _
                  rw [sortM_count]; omega
                · exact Nat.le_trans (Nat.le_of_eq (leaf_count _)) hp
theorem projT_count : ∀ l : List Tree, (projT X l).1.count ≤ countL l + 1
  | [] => by rw [projT, leaf_count]; omega
  | x :: l => by
    have := Tree.proj_count x
    rw [projT, countL]; omega
theorem projL_count : ∀ l : List Tree, countL (projL X l).1 ≤ countL l
  | [] => by rw [projL]; exact Nat.le_refl _
  | x :: l => by
    have h1 := Tree.proj_count x
    have h2 := projL_count l
    rw [projL]
    show countL (_ :: _) ≤ _
    rw [countL, countL]; omega
theorem projP_count : ∀ (l : List Tree) (seen : List ByteArray), countL (flatP (projP X l seen).1) ≤ countL l
  | [], seen => by rw [projP]; exact Nat.zero_le _; intro k x l h; cases h
  | [_], seen => by rw [projP]; exact Nat.zero_le _; intro k x l h; cases h
  | k :: x :: l, seen => by
    have h1 := Tree.proj_count x
    have h2 := projP_count l ((renderM k).1 :: seen)
    have h3 := count_pos k
    rw [projP, countL, countL]
    split
    · exact Nat.zero_le _
    · show countL (_ :: _ :: flatP _) ≤ _
      rw [countL, countL, leaf_count]
      show 1 + ((x.proj X).1.count + _) ≤ _
      omega
end
def arrT (l : List Tree) : Tree := .node (bareHd 7) l
theorem arr_flat (l : List Tree) : (arrT l).flat = arrT l :: flatL l := by rw [arrT, Tree.flat]
theorem arr_own (l : List Tree) : ownT (arrT l) = true := by
  unfold ownT arrT
  simp [bareHd]
theorem arr_fits (l : List Tree) {f : Int} (hf : 1 ≤ f ∧ f ≤ 4) : fitsT f (arrT l) = true := by
  have : f = 1 ∨ f = 2 ∨ f = 3 ∨ f = 4 := by omega
  rcases this with rfl | rfl | rfl | rfl <;> rfl
theorem arr_proj (l : List Tree) : (arrT l).proj X = (arrT (projL X l).1, (projL X l).2) := by
  have hd : decimalM X (arrT l) = (noDc, false) := by unfold decimalM arrT; simp [bareHd]
  unfold arrT at hd ⊢
  rw [Tree.proj, hd]
  simp [bareHd]
theorem projL_ok : ∀ l : List Tree, (∀ x ∈ l, (x.proj X).2 = 0) → projL X l = (l.map fun x => (x.proj X).1, 0)
  | [], _ => by rw [projL]; rfl
  | x :: l, h => by
    rw [projL, projL_ok l fun y hy => h y (List.mem_cons_of_mem _ hy), h x List.mem_cons_self]
    rfl
theorem common_ok {x : Tree} {f : Int} (h : (commonM X x f).2 = 0) : checkT x f = 0 ∧ (x.proj X).2 = 0 ∧ checkT (x.proj X).1 2 ≠ 60 ∧ (commonM X x f).1 = (x.proj X).1 := by
  unfold commonM at h ⊢
  by_cases c1 : checkT x f = 0
  · by_cases c2 : (x.proj X).2 = 0
    · by_cases c3 : checkT (x.proj X).1 2 = 60
      · rw [if_neg (fun e => e c1), if_neg (fun e => e c2), if_pos c3] at h; cases h
      · rw [if_neg (fun e => e c1), if_neg (fun e => e c2), if_neg c3]
        exact ⟨c1, c2, c3, rfl⟩
    · rw [if_neg (fun e => e c1), if_pos c2] at h; exact absurd h (told_ne _ c2)
  · rw [if_pos c1] at h; exact absurd h c1
theorem own_of_check {t : Tree} {f : Int} (h : checkT t f ≠ 60) : ∀ x ∈ t.flat, ownT x = true := by
  unfold checkT at h
  split at h
  · exact absurd rfl h
  · rw [check_from] at h
    split at h
    · rename_i ha; exact List.all_eq_true.1 ha
    · exact absurd rfl h
theorem cnt_small {t : Tree} (h : t.count ≤ 9223372036854775807) : cnt64 t = (t.count : Int) := by
  unfold cnt64
  exact IntWalk.wrap64_in _ (by omega)
theorem arrays_law (xs : List Tree) (f : Int) (hf : 1 ≤ f ∧ f ≤ 4) (hc : countL xs ≤ 1152921504606846976) (hx : ∀ x ∈ xs, (commonM X x f).2 = 0) :
    (((commonM X (arrT xs) f).2 = 60 ∧ (300 < cnt64 (arrT xs) ∨ 16 < (arrT xs).depth))) ∨
    commonM X (arrT xs) f = (arrT (xs.map fun x => (commonM X x f).1), 0) := by
  by_cases h1 : 16 < (arrT xs).depth ∨ 300 < cnt64 (arrT xs)
  · have c1 : checkT (arrT xs) f = 60 := by unfold checkT; rw [if_pos h1]
    exact .inl ⟨by unfold commonM; rw [c1]; rfl, h1.symm⟩
  · refine .inr ?_
    have hok := fun x hx' => common_ok X (hx x hx')
    have c1 : checkT (arrT xs) f = 0 := by
      unfold checkT
      rw [if_neg h1, check_from, if_pos, if_pos]
      · rw [arr_flat, List.all_cons, arr_fits xs hf, Bool.true_and]
        refine List.all_eq_true.2 fun y hy => ?_
        obtain ⟨k, hk, hyk⟩ := mem_flatL.1 hy
        exact ((checkT_all (hok k hk).1).2.2 y hyk).2
      · rw [arr_flat, List.all_cons, arr_own, Bool.true_and]
        refine List.all_eq_true.2 fun y hy => ?_
        obtain ⟨k, hk, hyk⟩ := mem_flatL.1 hy
        exact ((checkT_all (hok k hk).1).2.2 y hyk).1
    have hp := arr_proj X xs
    have hl := projL_ok X xs fun x hx' => (hok x hx').2.1
    have hcn := projL_count X xs
    rw [hl] at hp hcn
    have hdep := Tree.proj_depth X (arrT xs)
    rw [hp] at hdep
    have hmap : (xs.map fun x => (commonM X x f).1) = xs.map fun x => (x.proj X).1 := List.map_congr_left fun x hx' => (hok x hx').2.2.2
    have e1 : (arrT xs).count = 1 + countL xs := by rw [arrT, Tree.count]
    have e2 : (arrT (xs.map fun x => (x.proj X).1)).count = 1 + countL (xs.map fun x => (x.proj X).1) := by rw [arrT, Tree.count]
    have w2 : cnt64 (arrT (xs.map fun x => (x.proj X).1)) ≤ 300 := by
      simp only at hcn
      have w1 := cnt_small (t := arrT xs) (by rw [e1]; clear h1 hdep; omega)
      rw [w1] at h1
      rw [cnt_small (by rw [e2]; clear h1 w1 hdep; omega), e2]
      rw [e1] at h1
      clear w1 hdep
      omega
    have c2 : checkT (arrT (xs.map fun x => (x.proj X).1)) 2 ≠ 60 := by
      have hdd : (arrT (xs.map fun x => (x.proj X).1)).depth ≤ 16 := Nat.le_trans hdep (Nat.le_of_not_lt fun h => h1 (.inl h))
      have hnn : ¬ (16 < (arrT (xs.map fun x => (x.proj X).1)).depth ∨ 300 < cnt64 (arrT (xs.map fun x => (x.proj X).1))) := fun h => h.elim (fun h => Nat.not_lt_of_le hdd h) (fun h => Int.not_lt.2 w2 h)
      unfold checkT
      rw [if_neg hnn, check_from, if_pos]
      · split <;> decide
      · rw [arr_flat, List.all_cons, arr_own, Bool.true_and]
        refine List.all_eq_true.2 fun y hy => ?_
        obtain ⟨k, hk, hyk⟩ := mem_flatL.1 hy
        obtain ⟨x, hx', rfl⟩ := List.mem_map.1 hk
        exact own_of_check (hok x hx').2.2.1 y hyk
    rw [hmap]
    unfold commonM
    rw [c1, hp, if_neg (by decide), if_neg (fun e => e rfl), if_neg c2]
end Go.Tm

set_option linter.unusedVariables false
namespace Go.Tm
open Go.RowKit Go.Proofs
set_option maxRecDepth 100000 in
set_option maxHeartbeats 1000000 in
theorem refCount_any : ∀ t : Tree, ∀ (S : Nat → Prop) (lv : Value) (w : World), RepS S w t.l lv → Calls Tryz.prog 16 #[nodeV t.hd lv] w fun e w' => e = .returned (.int .i64 (cnt64 t)) ∧ Same w w' := by
  refine Tree.ind fun h l ih => ?_
  intro S lv w hl
  simp only [Tree.hd_node, Tree.l_node] at hl ⊢
  obtain ⟨hlen, a, cap, rfl, hcap, hi⟩ := hl.shape
  have hcn : cnt64 (.node h l) = wrap64 ((1 + countL l : Nat) : Int) := by unfold cnt64; simp only [Tree.count]
  rw [hcn]
  clear hcn
  go_enter Tryz.func16, Tryz.ntmps16
  go_wp2
  go_loopw [3, 4] (fun v i wr => ∃ k : Nat, k ≤ l.length ∧ i = .int .i64 k ∧ v = .int .i64 (wrap64 ((1 + countL (l.take k) : Nat) : Int)) ∧ Same w wr ∧ wr.heap[w.heap.size]? = some (.cells #[.int .i64 h.kind, .bool h.b, .bool h.d.neg, .string h.d.digits, .int .i64 h.d.exp, .int .u64 h.u, .int .i64 h.w, .string h.s, .slice a l.length cap] 27 (0, 0)))
    (fun _ i _ => l.length - (RowKit.intOf i).toNat)
  case atStart => exact ⟨0, Nat.zero_le _, rfl, by rw [List.take_zero, show ((1 + countL [] : Nat) : Int) = 1 from rfl, IntWalk.wrap64_in (1 : Int) (by omega)], (Keep.refl _ _).alloc _, World.alloc_heap_new w _⟩
  case round =>
    obtain ⟨k, hk, rfl, rfl, hsm, hbx⟩ := hrel
    obtain ⟨n0, n1, n2, n3, n4, n5, n6, n7, n8⟩ := cells9 hbx
    obtain ⟨q, hq⟩ : ∃ q, wrap64 ((1 + countL (l.take k) : Nat) : Int) = q := ⟨_, rfl⟩
    by_cases hlt : k < l.length
    · obtain ⟨b, off, lv', rfl, hS, hb, hr, hok, hra⟩ := hi k hlt
      obtain ⟨a', cap', rfl⟩ := hr.is_slice
      obtain ⟨c0, c1, c2, c3, c4, c5, c6, c7, c8⟩ := nodeAt_of (rangeAt_same hsm hra)
      have hst := countL_take l k hlt
      obtain ⟨cc, hcc⟩ : ∃ q, cnt64 (l[k]) = q := ⟨_, rfl⟩
      have hq2 : wrap64 ((1 + countL (l.take (k + 1)) : Nat) : Int) = wrap64 (q + cc) := by
        rw [← hq, ← hcc, hst]; unfold cnt64; rw [wrap64_add]; congr 1; push_cast; omega
      have HQ2 := Lib.hid hq2
      have ihc := fun (W : World) (hr2 : RepS S W (l[k]).l (.slice a' (l[k]).l.length cap')) => ih _ (List.getElem_mem hlt) S _ W hr2
      rw [hcc] at ihc
      rw [hq]
      clear hst hq2 hq hcc
      go_wp2_with (first | (go_at_call 16; refine (ihc _ (hr.same hsm)).mono ?_; rintro e w' ⟨rfl, hk'⟩))
      go_roundw
      case rel => exact ⟨k + 1, by omega, by go_num, by rw [HQ2.out], hsm.trans hk', hk'.same _ _ hbx trivial⟩
      case measure => simp [RowKit.intOf]; omega
    · obtain rfl : k = l.length := by omega
      rw [List.take_length] at hq
      rw [List.take_length, hq]
      go_wp2
      go_ret
      exact ⟨by rw [hq]; rfl, hsm⟩
end Go.Tm

set_option linter.unusedVariables false
namespace Go.Tm
open Go.RowKit Go.Proofs
def fewT (t : Tree) : Tree := if 400 < cnt64 (t.cut 17) then .node (cutHd t.hd) [] else t.cut 17
theorem few_hd (t : Tree) : (fewT t).hd = cutHd t.hd := by unfold fewT; split; rfl; exact cut_hd 17 t
set_option maxRecDepth 100000 in
set_option maxHeartbeats 4000000 in
theorem few_any (t : Tree) (lv : Value) (w : World) (hrep : t.RepW w lv) :
    Calls Tryz.prog 10 #[nodeV t.hd lv] w fun e w' => ∃ lv', e = .returned (nodeV (cutHd t.hd) lv') ∧ RepS (fun b => w.heap.size ≤ b) w' (fewT t).l lv' ∧ Same w w' := by
  obtain ⟨ho, a, cap, rfl, hlen, hL⟩ := repW_node hrep
  have hcut := fun (W : World) (hk : Same w W) => cut_any 17 t _ W (by omega) (hrep.same hk)
  obtain ⟨n, hn⟩ : ∃ n, t.l.length = n := ⟨_, rfl⟩
  rw [hn] at hcut ⊢
  obtain ⟨h, hh⟩ : ∃ h, t.hd = h := ⟨_, rfl⟩
  rw [hh] at hcut ⊢
  obtain ⟨q, hq⟩ : ∃ q, cutHd h = q := ⟨_, rfl⟩
  rw [hq] at hcut ⊢
  have hct : t.cut 17 = .node q (t.cut 17).l := by rw [← hq, ← hh, ← cut_hd 17]; exact (Tree.eta _).symm
  obtain ⟨cl, hcl⟩ : ∃ cl, (t.cut 17).l = cl := ⟨_, rfl⟩
  rw [hcl] at hcut hct
  have hfew : (fewT t).l = if 400 < cnt64 (.node q cl) then [] else cl := by unfold fewT; rw [hct]; split <;> rfl
  rw [hfew]
  obtain ⟨cc, hcc⟩ : ∃ cc, cnt64 (.node q cl) = cc := ⟨_, rfl⟩
  rw [hcc]
  have hcnt := fun (W : World) (lv2 : Value) (hr : RepS AnyB W cl lv2) => refCount_any (.node q cl) AnyB lv2 W hr
  rw [hcc] at hcnt
  simp only [Tree.hd_node] at hcnt
  clear hcc hfew hct hcl hh hq hn hrep hL ho
  go_enter Tryz.func10, Tryz.ntmps10
  by_cases hbig : 400 < cc
  · rw [if_pos hbig]
    go_wp2_with (first
      | (go_at_call 25; refine (hcut _ (by repeat (first | with_reducible exact Keep.refl _ _ | with_reducible refine Keep.alloc ?_ _ | with_reducible refine Keep.drew ?_ | with_reducible refine Keep.drewN ?_ _ | with_reducible refine Keep.trans ?_ (by assumption)))).mono ?_; rintro e w1 ⟨lv2, rfl, hr2, hk2⟩; obtain ⟨a2, c2, rfl⟩ := hr2.is_slice; have hb := hk2.same w.heap.size _ (show _ = some (.cells #[.int .i64 h.kind, .bool h.b, .bool h.d.neg, .string h.d.digits, .int .i64 h.d.exp, .int .u64 h.u, .int .i64 h.w, .string h.s, .slice a n cap] 27 (0, 0)) from (by repeat (first | with_reducible exact heap_new' (by simp) | with_reducible refine heap_old ?_ | with_reducible refine heap_drew ?_))) trivial; have hr := hk2.same (w.heap.size + 1) _ (show _ = some (.cells #[.int .i64 0, .bool false, .bool false, .string ⟨#[]⟩, .int .i64 0, .int .u64 0, .int .i64 0, .string ⟨#[]⟩, .slice none 0 0] 27 (0, 0)) from (by repeat (first | with_reducible exact heap_new' (by simp) | with_reducible refine heap_old ?_ | with_reducible refine heap_drew ?_))) trivial; obtain ⟨n0, n1, n2, n3, n4, n5, n6, n7, n8⟩ := cells9 hb; obtain ⟨m0, m1, m2, m3, m4, m5, m6, m7, m8⟩ := cells9 hr; have hfb : ∀ j, w1.frozen? ⟨w.heap.size, j, none⟩ = false := Lib.frozen_of_heap hb; have hfr : ∀ j, w1.frozen? ⟨w.heap.size + 1, j, none⟩ = false := Lib.frozen_of_heap hr)
      | (go_at_call 16; fail))
    obtain ⟨h9, hk9⟩ := put9 hb (.int .i64 q.kind) (.bool q.b) (.bool q.d.neg) (.string q.d.digits) (.int .i64 q.d.exp) (.int .u64 q.u) (.int .i64 q.w) (.string q.s) (.slice a2 cl.length c2)
    have hrX := hk9.same _ _ hr (by omega)
    have hr3 : RepS (fun b => w.heap.size + 2 ≤ b) w1 cl (.slice a2 cl.length c2) := hr2.mono fun b _ (hb : _ ≤ b) => by simpa using hb
    have hrp := hr3.keep hk9 fun b (hb : w.heap.size + 2 ≤ b) _ _ => by omega
    have hkX : Same w _ := (⟨hk9.os.trans hk2.os, hk9.tape.trans hk2.tape, hk9.output.trans hk2.output, Nat.le_trans (by have := hk2.size; simp at this; omega) hk9.size, fun k o hk _ => hk9.same k o (hk2.same k o (heap_old (heap_old hk)) trivial) (by have := lt_of_some hk; omega)⟩ : Same w _)
    clear n0 n1 n2 n3 n4 n5 n6 n7 n8 m0 m1 m2 m3 m4 m5 m6 m7 m8 hfb hfr hk9 hr3 hr2 hr hb hk2
    generalize ((((((((((w1.setCell ⟨w.heap.size, 0, none⟩ (.int .i64 q.kind)).setCell ⟨w.heap.size, 1, none⟩ (.bool q.b)).setCell ⟨w.heap.size, 2, none⟩ (.bool q.d.neg)).setCell ⟨w.heap.size, 3, none⟩ (.string q.d.digits)).setCell ⟨w.heap.size, 4, none⟩ (.int .i64 q.d.exp)).setCell ⟨w.heap.size, 5, none⟩ (.int .u64 q.u)).setCell ⟨w.heap.size, 6, none⟩ (.int .i64 q.w)).setCell ⟨w.heap.size, 7, none⟩ (.string q.s)).setCell ⟨w.heap.size, 8, none⟩ (.slice a2 cl.length c2))) = X at h9 hrX hrp hkX ⊢
    refine (hcnt X _ (hrp.mono fun _ _ _ => trivial)).mono ?_
    rintro e w3 ⟨rfl, hk3⟩
    have hbc := hk3.same _ _ h9 trivial
    have hrc := hk3.same _ _ hrX trivial
    have hrp3 := hrp.same hk3
    have hkw3 : Same w w3 := hkX.trans hk3
    obtain ⟨n0, n1, n2, n3, n4, n5, n6, n7, n8⟩ := cells9 hbc
    obtain ⟨m0, m1, m2, m3, m4, m5, m6, m7, m8⟩ := cells9 hrc
    have hfb : ∀ j, w3.frozen? ⟨w.heap.size, j, none⟩ = false := Lib.frozen_of_heap hbc
    have hfr : ∀ j, w3.frozen? ⟨w.heap.size + 1, j, none⟩ = false := Lib.frozen_of_heap hrc
    have hkeep : ∀ (X : World) (p : Addr) (v : Value) (b : Nat), p.block ≠ b → (X.setCell p v).heap[b]? = X.heap[b]? := fun X p v b h => Below.heap_setCell X p v b (fun e => h e.symm)
    clear h9 hrX hrp hkX hk3
    go_wp2
    have hX : (w3.setCell ⟨w.heap.size, 8, none⟩ (.slice none 0 0)).heap[w.heap.size + 1]? = some (.cells #[.int .i64 0, .bool false, .bool false, .string ⟨#[]⟩, .int .i64 0, .int .u64 0, .int .i64 0, .string ⟨#[]⟩, .slice none 0 0] 27 (0, 0)) := by rw [hkeep _ _ _ _ (by show w.heap.size ≠ w.heap.size + 1; omega)]; exact hrc
    obtain ⟨h9, hk9⟩ := put9 hX (.int .i64 q.kind) (.bool q.b) (.bool q.d.neg) (.string q.d.digits) (.int .i64 q.d.exp) (.int .u64 q.u) (.int .i64 q.w) (.string q.s) (.slice none 0 0)
    refine bodyPost_ret (results_cell_row rfl _ _ (w.heap.size + 1) 27 _ (0, 0) _ rfl h9 Tryz.underlying27 rfl (by kernel_rfl)) rfl ⟨_, rfl, RepS.nil _ _, ?_⟩
    have hk8 : Same w (w3.setCell ⟨w.heap.size, 8, none⟩ (.slice none 0 0)) := hkw3.setCell (p := ⟨w.heap.size, 8, none⟩) _ (fun o _ _ h => absurd h (Nat.lt_irrefl _))
    exact ⟨hk9.os.trans hk8.os, hk9.tape.trans hk8.tape, hk9.output.trans hk8.output, Nat.le_trans hk8.size hk9.size, fun k o hk _ => hk9.same k o (hk8.same k o hk trivial) (by have := lt_of_some hk; omega)⟩
  · rw [if_neg hbig]
    go_wp2_with (first
      | (go_at_call 25; refine (hcut _ (by repeat (first | with_reducible exact Keep.refl _ _ | with_reducible refine Keep.alloc ?_ _ | with_reducible refine Keep.drew ?_ | with_reducible refine Keep.drewN ?_ _ | with_reducible refine Keep.trans ?_ (by assumption)))).mono ?_; rintro e w1 ⟨lv2, rfl, hr2, hk2⟩; obtain ⟨a2, c2, rfl⟩ := hr2.is_slice; have hb := hk2.same w.heap.size _ (show _ = some (.cells #[.int .i64 h.kind, .bool h.b, .bool h.d.neg, .string h.d.digits, .int .i64 h.d.exp, .int .u64 h.u, .int .i64 h.w, .string h.s, .slice a n cap] 27 (0, 0)) from (by repeat (first | with_reducible exact heap_new' (by simp) | with_reducible refine heap_old ?_ | with_reducible refine heap_drew ?_))) trivial; have hr := hk2.same (w.heap.size + 1) _ (show _ = some (.cells #[.int .i64 0, .bool false, .bool false, .string ⟨#[]⟩, .int .i64 0, .int .u64 0, .int .i64 0, .string ⟨#[]⟩, .slice none 0 0] 27 (0, 0)) from (by repeat (first | with_reducible exact heap_new' (by simp) | with_reducible refine heap_old ?_ | with_reducible refine heap_drew ?_))) trivial; obtain ⟨n0, n1, n2, n3, n4, n5, n6, n7, n8⟩ := cells9 hb; obtain ⟨m0, m1, m2, m3, m4, m5, m6, m7, m8⟩ := cells9 hr; have hfb : ∀ j, w1.frozen? ⟨w.heap.size, j, none⟩ = false := Lib.frozen_of_heap hb; have hfr : ∀ j, w1.frozen? ⟨w.heap.size + 1, j, none⟩ = false := Lib.frozen_of_heap hr)
      | (go_at_call 16; fail))
    obtain ⟨h9, hk9⟩ := put9 hb (.int .i64 q.kind) (.bool q.b) (.bool q.d.neg) (.string q.d.digits) (.int .i64 q.d.exp) (.int .u64 q.u) (.int .i64 q.w) (.string q.s) (.slice a2 cl.length c2)
    have hrX := hk9.same _ _ hr (by omega)
    have hr3 : RepS (fun b => w.heap.size + 2 ≤ b) w1 cl (.slice a2 cl.length c2) := hr2.mono fun b _ (hb : _ ≤ b) => by simpa using hb
    have hrp := hr3.keep hk9 fun b (hb : w.heap.size + 2 ≤ b) _ _ => by omega
    have hkX : Same w _ := (⟨hk9.os.trans hk2.os, hk9.tape.trans hk2.tape, hk9.output.trans hk2.output, Nat.le_trans (by have := hk2.size; simp at this; omega) hk9.size, fun k o hk _ => hk9.same k o (hk2.same k o (heap_old (heap_old hk)) trivial) (by have := lt_of_some hk; omega)⟩ : Same w _)
    clear n0 n1 n2 n3 n4 n5 n6 n7 n8 m0 m1 m2 m3 m4 m5 m6 m7 m8 hfb hfr hk9 hr3 hr2 hr hb hk2
    generalize ((((((((((w1.setCell ⟨w.heap.size, 0, none⟩ (.int .i64 q.kind)).setCell ⟨w.heap.size, 1, none⟩ (.bool q.b)).setCell ⟨w.heap.size, 2, none⟩ (.bool q.d.neg)).setCell ⟨w.heap.size, 3, none⟩ (.string q.d.digits)).setCell ⟨w.heap.size, 4, none⟩ (.int .i64 q.d.exp)).setCell ⟨w.heap.size, 5, none⟩ (.int .u64 q.u)).setCell ⟨w.heap.size, 6, none⟩ (.int .i64 q.w)).setCell ⟨w.heap.size, 7, none⟩ (.string q.s)).setCell ⟨w.heap.size, 8, none⟩ (.slice a2 cl.length c2))) = X at h9 hrX hrp hkX ⊢
    refine (hcnt X _ (hrp.mono fun _ _ _ => trivial)).mono ?_
    rintro e w3 ⟨rfl, hk3⟩
    have hbc := hk3.same _ _ h9 trivial
    have hrc := hk3.same _ _ hrX trivial
    have hrp3 := hrp.same hk3
    have hkw3 : Same w w3 := hkX.trans hk3
    obtain ⟨n0, n1, n2, n3, n4, n5, n6, n7, n8⟩ := cells9 hbc
    obtain ⟨m0, m1, m2, m3, m4, m5, m6, m7, m8⟩ := cells9 hrc
    have hfb : ∀ j, w3.frozen? ⟨w.heap.size, j, none⟩ = false := Lib.frozen_of_heap hbc
    have hfr : ∀ j, w3.frozen? ⟨w.heap.size + 1, j, none⟩ = false := Lib.frozen_of_heap hrc
    have hkeep : ∀ (X : World) (p : Addr) (v : Value) (b : Nat), p.block ≠ b → (X.setCell p v).heap[b]? = X.heap[b]? := fun X p v b h => Below.heap_setCell X p v b (fun e => h e.symm)
    clear h9 hrX hrp hkX hk3
    go_wp2
    obtain ⟨h9, hk9⟩ := put9 hrc (.int .i64 q.kind) (.bool q.b) (.bool q.d.neg) (.string q.d.digits) (.int .i64 q.d.exp) (.int .u64 q.u) (.int .i64 q.w) (.string q.s) (.slice a2 cl.length c2)
    refine bodyPost_ret (results_cell_row rfl _ _ (w.heap.size + 1) 27 _ (0, 0) _ rfl h9 Tryz.underlying27 rfl (by kernel_rfl)) rfl ⟨_, rfl, ?_, ?_⟩
    · refine RepS.mono (fun b _ (hb : w.heap.size + 2 ≤ b) => (by omega : w.heap.size ≤ b)) ?_
      exact hrp3.keep hk9 fun b (hb : w.heap.size + 2 ≤ b) _ _ => by omega
    · exact ⟨hk9.os.trans hkw3.os, hk9.tape.trans hkw3.tape, hk9.output.trans hkw3.output, Nat.le_trans hkw3.size hk9.size, fun k o hk _ => hk9.same k o (hkw3.same k o hk trivial) (by have := lt_of_some hk; omega)⟩
end Go.Tm

set_option linter.unusedVariables false
namespace Go.Tm
theorem mem_flatL' {x : Tree} : ∀ {l : List Tree}, x ∈ flatL l → ∃ k ∈ l, x ∈ k.flat
  | [], h => by rw [flatL] at h; cases h
  | y :: l, h => by
    rw [flatL] at h
    rcases List.mem_append.1 h with h | h
    · exact ⟨y, List.mem_cons_self, h⟩
    · obtain ⟨k, hk, hx⟩ := mem_flatL' h
      exact ⟨k, List.mem_cons_of_mem _ hk, hx⟩
theorem flat_node {x : Tree} {h : Hd} {l : List Tree} (hx : x ∈ (Tree.node h l).flat) : x = .node h l ∨ ∃ k ∈ l, x ∈ k.flat := by
  rw [Tree.flat] at hx
  rcases List.mem_cons.1 hx with h | h
  · exact .inl h
  · exact .inr (mem_flatL' h)
theorem cut_depth : ∀ (d : Nat) (t : Tree), (t.cut d).depth ≤ d + 1
  | 0, t => by rw [Tree.cut, leaf_depth]; exact Nat.le_refl _
  | d + 1, t => by
    rw [Tree.cut, Tree.depth]
    have : depthL ((t.l.take 40).map (Tree.cut d)) ≤ d + 1 := depthL_all fun x hx => by
      obtain ⟨y, _, rfl⟩ := List.mem_map.1 hx
      exact cut_depth d y
    omega
theorem cut_lens : ∀ (d : Nat) (t x : Tree), x ∈ (t.cut d).flat → x.l.length ≤ 40
  | 0, t, x, hx => by
    rw [Tree.cut] at hx
    rcases flat_node hx with rfl | ⟨k, hk, _⟩
    · exact Nat.zero_le _
    · cases hk
  | d + 1, t, x, hx => by
    have h0 := cut_len (d + 1) t
    rw [Tree.cut] at hx h0
    rcases flat_node hx with rfl | ⟨k, hk, hxk⟩
    · exact h0
    · obtain ⟨y, _, rfl⟩ := List.mem_map.1 hk
      exact cut_lens d y x hxk
theorem few_depth (t : Tree) : (fewT t).depth ≤ 18 := by
  unfold fewT
  split
  · rw [leaf_depth]; decide
  · exact cut_depth 17 t
theorem few_lens (t x : Tree) (hx : x ∈ (fewT t).flat) : x.l.length ≤ 40 := by
  unfold fewT at hx
  split at hx
  · rcases flat_node hx with rfl | ⟨k, hk, _⟩
    · exact Nat.zero_le _
    · cases hk
  · exact cut_lens 17 t x hx
theorem few_ok {t : Tree} (h : t.hd.okW) : (fewT t).hd.ok := by rw [few_hd]; exact cutHd_ok h
end Go.Tm

set_option linter.unusedVariables false
namespace Go.Tm
open Go.RowKit Go.Proofs
set_option maxRecDepth 100000 in
set_option maxHeartbeats 1000000 in
theorem refDepth_any : ∀ t : Tree, ∀ (S : Nat → Prop) (lv : Value) (w : World), t.depth ≤ 1099511627776 → RepS S w t.l lv → Calls Tryz.prog 17 #[nodeV t.hd lv] w fun e w' => e = .returned (.int .i64 t.depth) ∧ Same w w' := by
  refine Tree.ind fun h l ih => ?_
  intro S lv w hc hl
  simp only [Tree.hd_node, Tree.l_node] at hl ⊢
  obtain ⟨hlen, a, cap, rfl, hcap, hi⟩ := hl.shape
  go_enter Tryz.func17, Tryz.ntmps17
  go_wp2
  go_loopw [3, 4] (fun v i wr => ∃ k : Nat, k ≤ l.length ∧ i = .int .i64 k ∧ v = .int .i64 (depthL (l.take k)) ∧ Same w wr ∧ wr.heap[w.heap.size]? = some (.cells #[.int .i64 h.kind, .bool h.b, .bool h.d.neg, .string h.d.digits, .int .i64 h.d.exp, .int .u64 h.u, .int .i64 h.w, .string h.s, .slice a l.length cap] 27 (0, 0)))
    (fun _ i _ => l.length - (RowKit.intOf i).toNat)
  case atStart => exact ⟨0, Nat.zero_le _, rfl, by simp [depthL], (Keep.refl _ _).alloc _, World.alloc_heap_new w _⟩
  case round =>
    obtain ⟨k, hk, rfl, rfl, hsm, hbx⟩ := hrel
    obtain ⟨n0, n1, n2, n3, n4, n5, n6, n7, n8⟩ := cells9 hbx
    by_cases hlt : k < l.length
    · obtain ⟨b, off, lv', rfl, hS, hb, hr, hok, hra⟩ := hi k hlt
      obtain ⟨a', cap', rfl⟩ := hr.is_slice
      obtain ⟨c0, c1, c2, c3, c4, c5, c6, c7, c8⟩ := nodeAt_of (rangeAt_same hsm hra)
      go_wp2_with (first | (go_at_call 17; refine (ih _ (List.getElem_mem hlt) S _ _ ?hc (hr.same hsm)).mono ?_; (case hc => (have := depthL_get l k hlt; simp only [Tree.depth] at hc; omega)); rintro e w' ⟨rfl, hk'⟩))
      go_roundw
      case rel => exact ⟨k + 1, by omega, by go_num, by rw [depthL_take l k hlt]; congr 1; (try split) <;> omega, hsm.trans hk', hk'.same _ _ hbx trivial⟩
      case measure => simp [RowKit.intOf]; omega
    · obtain rfl : k = l.length := by omega
      have hw : wrap64 ((depthL l : Int) + 1) = ((depthL l + 1 : Nat) : Int) := by rw [IntWalk.wrap64_in _ (by simp only [Tree.depth] at hc; omega)]; rfl
      go_wp2
      go_ret
      exact ⟨by simp [Tree.depth, hw], hsm⟩
end Go.Tm

set_option linter.unusedVariables false
namespace Go.Tm
open Go.RowKit Go.Proofs
theorem keep_iterAt' (w : World) (k : Nat) (s : ByteArray) (pos : Nat) : Keep (fun b _ => b ≠ k) w (w.iterAt k s pos) :=
  ⟨rfl, rfl, rfl, by rw [Lib.iterAt_size]; exact Nat.le_refl _, fun b o hb hn => (Lib.iterAt_other w k b s pos hn).trans hb⟩
def digN (l : List Nat) : Nat := (l.takeWhile isDig).length
theorem digN_le (l : List Nat) : digN l ≤ l.length := (List.takeWhile_prefix isDig).length_le
theorem digN_lt : ∀ (l : List Nat) (k : Nat), k < l.length → (∀ j, j < k → isDig (nth l j) = true) → isDig (nth l k) = true → k < digN l
  | x :: l, 0, _, _, h => by
    have h0 : isDig x = true := h
    unfold digN
    rw [List.takeWhile_cons_of_pos h0]; simp
  | x :: l, k + 1, h, hp, hk => by
    have h0 : isDig x = true := hp 0 (by omega)
    have := digN_lt l k (by simpa using h) (fun j hj => hp (j + 1) (by omega)) hk
    unfold digN at this ⊢
    rw [List.takeWhile_cons_of_pos h0]
    simp only [List.length_cons]; omega
theorem digN_stop : ∀ (l : List Nat) (k : Nat), k < l.length → (∀ j, j < k → isDig (nth l j) = true) → isDig (nth l k) = false → digN l = k
  | x :: l, 0, _, _, h => by
    have h0 : isDig x = false := h
    unfold digN
    rw [List.takeWhile_cons_of_neg (by simp [h0])]; rfl
  | x :: l, k + 1, h, hp, hk => by
    have h0 : isDig x = true := hp 0 (by omega)
    have := digN_stop l k (by simpa using h) (fun j hj => hp (j + 1) (by omega)) hk
    unfold digN at this ⊢
    rw [List.takeWhile_cons_of_pos h0]
    simp only [List.length_cons]; omega
theorem digN_end : ∀ (l : List Nat), (∀ j, j < l.length → isDig (nth l j) = true) → digN l = l.length
  | [], _ => rfl
  | x :: l, hp => by
    have h0 : isDig x = true := hp 0 (by simp)
    have := digN_end l (fun j hj => hp (j + 1) (by simpa using hj))
    unfold digN at this ⊢
    rw [List.takeWhile_cons_of_pos h0]
    simp only [List.length_cons]; omega
set_option maxRecDepth 100000 in
set_option maxHeartbeats 1000000 in
theorem runes1_iter (s : ByteArray) (bs : Nat) (Sb Si : Nat → Obj → Prop) (W : World)
    (hs : s.size ≤ 9223372036854775807) (hbs : Boxed W bs 9 (.string s)) (hSb : ∀ c f, Sb bs (.cells c 9 f)) (hSb2 : ∀ b o, W.heap.size ≤ b → o.isCells = false → Sb b o)
    (hSi : ∀ b o, Si b o → b < W.heap.size ∨ o.isCells = true) :
    IterAt Tryz.prog 272 #[.pointer (some ⟨bs, 0, none⟩)] (digN (bytesN s)) (fun i v _ => v = #[.int .i32 (nth (bytesN s) i)]) Sb Si (fun _ => True) (fun _ _ => True) W := by
  rintro l J Jx hlp hJ hJx hY h0
  obtain ⟨r, hl⟩ := hlp 0 W h0
  have n1 := cell_ne_loop hbs.cell hl
  have zl := lt_of_some hl
  have z1 := lt_of_some hbs
  have cs0 := hbs.cell
  have hsz := bytesN_length s
  refine callsIn_of_wp Tryz.func272 rfl trivial ?_ rfl
  simp only [Tryz.ntmps272, List.size_toArray, List.length_cons, List.length_nil, Nat.reduceAdd, Nat.reduceSub, Array.replicate_succ, Array.replicate_zero, List.push_toArray, List.append_toArray, List.nil_append, List.cons_append]
  have Hsz := Lib.hid hsz
  clear hsz
  refine wpIn_scope ?_
  gi_wp2
  refine wpIn_label ?_
  gi_wp2
  have hk0 : Same W (W.iter s 0) := (Keep.refl _ W).alloc _
  gi_loopw [4] (fun _ wr => ∃ k : Nat, k ≤ s.size ∧ (∀ j, j < k → isDig (nth (bytesN s) j) = true) ∧ wr.heap[W.heap.size]? = some (.stringIter s k) ∧ J k wr ∧ Boxed wr bs 9 (.string s))
    (fun _ wr => s.size - wr.iterPos W.heap.size)
  case atStart => exact ⟨0, Nat.zero_le _, fun j hj => absurd hj (Nat.not_lt_zero j), World.iter_heap W s 0, hJ _ _ _ h0 (Keep.of_same hk0), hk0.boxed hbs trivial⟩
  case round =>
    obtain ⟨k, hk, hp, hit, hj, cb1⟩ := hrel
    have c1 := cb1.cell
    have Hp := Lib.hid hp
    clear hp
    have hpos : wr.iterPos W.heap.size = k := by simp [World.iterPos, hit]
    have Hpos := Lib.hid hpos
    clear hpos
    by_cases hlt : k < s.size
    · obtain ⟨W1, hW1⟩ : ∃ W1, wr.iterAt W.heap.size s (k + (Utf8.decode s k).2) = W1 := ⟨_, rfl⟩
      have hnx := fun ty => Lib.run_next_any_at (P := Tryz.prog) wr W.heap.size s k ty hit hlt
      rw [hW1] at hnx
      have hkk : Keep (fun b _ => b ≠ W.heap.size) wr W1 := by rw [← hW1]; exact keep_iterAt' wr _ s _
      have hit1 : W1.heap[W.heap.size]? = some (.stringIter s (k + (Utf8.decode s k).2)) := by rw [← hW1]; exact Lib.iterAt_heap wr _ s k _ hit
      have Hit1 := Lib.hid hit1
      clear hW1 hit1
      have db1 := hkk.boxed cb1 (by omega)
      have d1 := db1.cell
      have hj2 : J k W1 := hJ _ _ _ hj (hkk.mono fun b o hb h => by
        rintro rfl
        rw [hit] at hb; cases hb
        rcases hSi _ _ h with h | h
        · omega
        · cases h)
      have hby := nth_bytes s hlt
      have Hby := Lib.hid hby
      clear hby
      by_cases hg : isDig (nth (bytesN s) k) = true
      · have hb128 : nth (bytesN s) k < 128 := by
          simp [isDig] at hg; omega
        have hdec := decode_ascii s k hlt (by rw [← Hby.out]; exact hb128)
        rw [← Hby.out] at hdec
        rw [hdec] at hnx
        have hit2 : W1.heap[W.heap.size]? = some (.stringIter s (k + 1)) := by have := Hit1.out; rw [hdec] at this; exact this
        have Hit2 := Lib.hid hit2
        clear hit2 hdec
        have hlg := digN_lt (bytesN s) k (by rw [Hsz.out]; exact hlt) Hp.out hg
        obtain ⟨fn, tmps, assign, body, hy', hR⟩ := hY k _ _ hlg hj2 rfl
        have hcall := fun W => isDigit_any (nth (bytesN s) k) W
        rw [hg] at hcall
        have Hg := Lib.hid hg
        clear hg
        gi_wp2_with (gi_at_call 151; refine (callsW (hcall _)).mono ?_; rintro e w' ⟨rfl, rfl⟩)
        refine hR.mono ?_
        rintro e W3 ⟨hk3, hj4⟩
        have c14 := hk3.boxed db1 ⟨n1, hSb _ _⟩
        have c14c := c14.cell
        have hit4 : W3.heap[W.heap.size]? = some (.stringIter s (k + 1)) := hk3.same _ _ Hit2.out ⟨by omega, hSb2 _ _ (Nat.le_refl _) rfl⟩
        have hpos4 : W3.iterPos W.heap.size = k + 1 := by simp [World.iterPos, hit4]
        have Hpos4 := Lib.hid hpos4
        clear hpos4 hR hy' hnx hj2 hcall
        rcases hj4 with ⟨rfl, hj4⟩ | ⟨rfl, hj4⟩
        · gi_wp2
          go_roundw
          case rel =>
            refine ⟨k + 1, by omega, fun j hj => ?_, hit4, hj4, c14⟩
            by_cases e : j = k
            · subst e; exact Hg.out
            · exact Hp.out j (by omega)
          case measure => rw [Hpos.out, Hpos4.out]; omega
        · gi_wp2
          simp only [Exit.noGoto]
          refine bodyPost_end (results_none rfl _ _ _) rfl ?_
          exact ⟨⟨_, rfl⟩, .inr ⟨k, hlg, hj4, trivial⟩⟩
      · have hfalse : isDig (nth (bytesN s) k) = false := by simpa using hg
        have hidx : isDig (Utf8.decode s k).1 = false := by
          by_cases h : nth (bytesN s) k < 128
          · have := decode_ascii s k hlt (by rw [← Hby.out]; exact h)
            rw [this]; rw [← Hby.out]; exact hfalse
          · have := (decode_high s k hlt (by rw [← Hby.out]; omega)).1
            simp [isDig]; omega
        have e1 := digN_stop (bytesN s) k (by rw [Hsz.out]; exact hlt) Hp.out hfalse
        have hcall := fun W => isDigit_any (Utf8.decode s k).1 W
        rw [hidx] at hcall
        have E1 := Lib.hid e1
        clear hidx e1 hg hfalse
        gi_wp2_with (gi_at_call 151; refine (callsW (hcall _)).mono ?_; rintro e w' ⟨rfl, rfl⟩)
        simp only [Exit.noGoto]
        refine bodyPost_end (results_none rfl _ _ _) rfl ?_
        exact ⟨⟨_, rfl⟩, .inl ⟨by rw [E1.out]; exact hj2, trivial⟩⟩
    · have hnx := fun ty => Lib.run_next_end_at (P := Tryz.prog) wr W.heap.size s k ty hit hlt
      have hks : k = s.size := by omega
      have e1 := digN_end (bytesN s) fun j hj => Hp.out j (by rw [Hsz.out] at hj; omega)
      rw [Hsz.out, ← hks] at e1
      have E1 := Lib.hid e1
      clear e1
      subst hks
      gi_wp2
      simp only [Exit.noGoto]
      refine bodyPost_end (results_none rfl _ _ _) rfl ?_
      exact ⟨⟨_, rfl⟩, .inl ⟨by rw [E1.out]; exact hj, trivial⟩⟩
end Go.Tm

set_option linter.unusedVariables false
namespace Go.Tm
open Go.RowKit Go.Proofs
def nextB (s : ByteArray) (cs : List Nat) : Bool := decide (0 < s.size) && cs.contains (nth (bytesN s) 0)
def tailB (s : ByteArray) : ByteArray := s.extract 1 s.size
def digsB (s : ByteArray) : ByteArray := s.extract 0 (digN (bytesN s))
def restD (s : ByteArray) : ByteArray := s.extract (digN (bytesN s)) s.size
def wholeR (s : ByteArray) : ByteArray × ByteArray := if nextB s [48] then (⟨#[48]⟩, tailB s) else (digsB s, restD s)
def partR (s : ByteArray) : ByteArray × ByteArray := if nextB s [46] = true ∧ (digsB (tailB s)).size ≠ 0 then (digsB (tailB s), restD (tailB s)) else (⟨#[]⟩, s)
abbrev RB (rb : Nat) (s : ByteArray) (w : World) : Prop := w.heap[rb]? = some (.cells #[.string s] 188 (0, 0))
def NextOut (rb : Nat) (s : ByteArray) (b : Bool) (w : World) (e : Ending) (w' : World) : Prop := e = .returned (.bool b) ∧ RB rb (if b then tailB s else s) w' ∧ Keep (fun k _ => k ≠ rb) w w'
set_option maxRecDepth 100000 in
set_option maxHeartbeats 1000000 in
theorem isNext_any (rb lb : Nat) (s : ByteArray) (cs : List Nat) (w : World) (hrb : RB rb s w) (hlb : ∀ j, j < cs.length → w.cell? ⟨lb, j, none⟩ = some (.int .u8 (nth cs j))) (hl : cs.length ≤ 10) (hs : s.size ≤ 1099511627776) :
    Calls Tryz.prog 155 #[.pointer (some ⟨rb, 0, none⟩), .slice (some ⟨lb, 0, none⟩) cs.length cs.length] w (NextOut rb s (nextB s cs) w) := by
  have c0 := cells1 hrb
  have hfz : ∀ j, w.frozen? ⟨rb, j, none⟩ = false := Lib.frozen_of_heap hrb
  have HLB := Lib.hid hlb
  clear hlb
  go_enter Tryz.func155, Tryz.ntmps155
  go_wp2
  go_loop [6, 9] (fun _ i => ∃ k : Nat, k ≤ cs.length ∧ i = .int .i64 (k : Int) ∧ nextB s cs = nextB s (cs.drop k)) (fun _ i => cs.length - (RowKit.intOf i).toNat)
  case atStart => exact ⟨0, Nat.zero_le _, rfl, rfl⟩
  case round =>
    obtain ⟨k, hk, rfl, hn⟩ := hrel
    by_cases hlt : k < cs.length
    · have hck := HLB.out k hlt
      have hdr : cs.drop k = nth cs k :: cs.drop (k + 1) := by
        rw [List.drop_eq_getElem_cons hlt]; congr 1; simp [nth, hlt]
      rw [hdr] at hn
      by_cases h0 : s.size = 0
      · have e1 : s.toList = [] := by
          have : s = ByteArray.empty := by simpa using h0
          rw [this, ByteArray.toList_eq]; rfl
        have hn2 : nextB s cs = nextB s (cs.drop (k + 1)) := by
          rw [hn]; unfold nextB; simp [h0]
        have HN := Lib.hid hn2
        clear hn hn2 hdr h0
        go_wp2_with fail
        go_round
        case rel => exact ⟨k + 1, by omega, by go_num, HN.out⟩
        case measure => simp [RowKit.intOf]; omega
      · have hpos : 0 < s.size := by omega
        have hb := nth_bytes s hpos
        have e1 : s.toList.isEmpty = false := by
          rw [ByteArray.toList_eq]
          cases h : s.data.toList with
          | nil => have : s.data.toList.length = s.size := by simp
                   rw [h] at this; simp at this; omega
          | cons x l => rfl
        have e2 : (s.toList == []) = false := by cases h : s.toList with
          | nil => rw [h] at e1; cases e1
          | cons x l => rfl
        clear e1
        by_cases hc : nth (bytesN s) 0 = nth cs k
        · have hn2 : nextB s cs = true := by
            rw [hn]; unfold nextB; simp [hpos, hc]
          have hcb : ((s[0]).toNat : Int) = (nth cs k : Int) := by rw [← hb, hc]
          have HN := Lib.hid hn2
          rw [hb] at hc
          rw [← hc] at hck
          clear hn hn2 hdr h0 hcb hb hc
          go_wp2_with fail
          go_ret
          rw [HN.out]
          exact ⟨rfl, setCell_heap hrb 0 _, (Keep.refl _ _).setCell _ fun o _ h _ => h rfl⟩
        · have hn2 : nextB s cs = nextB s (cs.drop (k + 1)) := by
            rw [hn]; unfold nextB; simp [hc]
          have hcb : (((s[0]).toNat : Int) == (nth cs k : Int)) = false := by rw [hb] at hc; simp; omega
          have HN := Lib.hid hn2
          clear hn hn2 hdr h0 hb hc
          go_wp2_with fail
          go_round
          case rel => exact ⟨k + 1, by omega, by go_num, HN.out⟩
          case measure => simp [RowKit.intOf]; omega
    · obtain rfl : k = cs.length := by omega
      have hf : nextB s cs = false := by rw [hn, List.drop_length]; unfold nextB; simp
      have HF := Lib.hid hf
      clear hn hf
      go_wp2_with fail
      go_ret
      rw [HF.out]
      exact ⟨rfl, hrb, Keep.refl _ _⟩
set_option maxRecDepth 100000 in
theorem runes_any (s : ByteArray) (w : World) : Calls Tryz.prog 237 #[.string s] w fun e w' => e = .returned (.func (.func 272) #[] #[.pointer (some ⟨w.heap.size, 0, none⟩)]) ∧ w' = w.alloc (.cells #[.string s] 9) := by
  go_enter Tryz.func237, Tryz.ntmps237
  go_wp2
  go_ret
  exact ⟨rfl, rfl⟩
def ReadOut (rb : Nat) (r : ByteArray × ByteArray) (w : World) (e : Ending) (w' : World) : Prop := e = .returned (.string r.1) ∧ RB rb r.2 w' ∧ Keep (fun k _ => k ≠ rb) w w'
set_option maxRecDepth 100000 in
set_option maxHeartbeats 2000000 in
theorem digits_any (rb : Nat) (s : ByteArray) (w : World) (hrb : RB rb s w) (hs : s.size ≤ 1099511627776) :
    Calls Tryz.prog 206 #[.pointer (some ⟨rb, 0, none⟩)] w (ReadOut rb (digsB s, restD s) w) := by
  have hdn := digN_le (bytesN s)
  rw [bytesN_length] at hdn
  have hblt := lt_of_some hrb
  obtain ⟨d, hd⟩ : ∃ d, digN (bytesN s) = d := ⟨_, rfl⟩
  rw [hd] at hdn
  have HD := Lib.hid hd
  refine (callsIn_wide (n := 0)).1 ?_
  refine callsIn_of_wp_marks Tryz.func206 rfl trivial ?_ rfl
  simp only [Tryz.ntmps206, List.size_toArray, List.length_cons, List.length_nil, Nat.reduceAdd, Nat.reduceSub, Array.replicate_succ, Array.replicate_zero, List.push_toArray, List.append_toArray, List.nil_append, List.cons_append]
  have c0 := alloc_cell (cells1 hrb)
  gi_wp2_with (first
    | (gi_at_call 237; refine (callsW (runes_any _ _)).mono ?_; rintro e w' ⟨rfl, rfl⟩))
  clear c0
  generalize hW1 : World.alloc _ (.cells #[.string s] 9) = W1
  have hz : W1.heap.size = w.heap.size + 2 := by rw [← hW1]; simp
  have hk1 : Same w W1 := by rw [← hW1]; exact (((Keep.refl _ w).alloc _).alloc _)
  have b1 : Boxed W1 w.heap.size 3 (.int .i64 ((0 : Nat) : Int)) := by rw [← hW1]; repeat (first | exact heap_new' (by simp) | refine heap_old ?_)
  have b2 : Boxed W1 (w.heap.size + 1) 9 (.string s) := by rw [← hW1]; repeat (first | exact heap_new' (by simp) | refine heap_old ?_)
  clear hW1
  have hrb1 := hk1.same _ _ hrb trivial
  refine wp_rangeS (gf := 272) (lb := #[.pointer (some ⟨w.heap.size + 1, 0, none⟩)])
    rfl (enters_of Tryz.func272 (by kernel_rfl) rfl) d (fun i v _ => v = #[.int .i32 (nth (bytesN s) i)]) (fun b o => b ≠ w.heap.size ∨ ∀ c f, o ≠ .cells c 3 f) (fun b o => b < w.heap.size + 4 ∨ o.isCells = true)
    (fun _ => True) (fun _ _ => True) ?hit ?hSb ?hSi (fun i A => Boxed A w.heap.size 3 (.int .i64 (i : Int))) (fun _ _ _ => False) ?hI (fun _ _ _ _ h _ => h) ?hE (fun _ _ _ _ => trivial) (fun _ _ _ _ _ => trivial) ?hEs b1 ?hround ?hdone (fun _ _ _ _ _ _ h => h.elim)
  case hit =>
    intro W2 hk2 hz2
    have := runes1_iter s (w.heap.size + 1) (fun b o => b ≠ w.heap.size ∨ ∀ c f, o ≠ .cells c 3 f) (fun b o => b < w.heap.size + 4 ∨ o.isCells = true) W2 (by omega) (hk2.boxed b2 trivial) (fun c f => .inr (by simp)) (fun b o _ ho => .inr fun c f e => by subst e; cases ho) (fun b o h => by rw [hz2, hz]; exact h)
    rw [HD.out] at this
    exact this
  case hSb => exact fun b o hb ho => .inr fun c f e => by subst e; cases ho
  case hSi => exact fun b o _ h _ => .inl (by omega)
  case hI => exact fun i A B h hk => hk.boxed h ⟨.inr rfl, .inr rfl⟩
  case hE => exact fun i v A B h _ => h
  case hEs => rintro i v A rfl; rfl
  case hround =>
    intro i v hv
    obtain ⟨x, rfl⟩ := size_one rfl hv
    apply Exists.intro
    apply And.intro
    · intro l2 A K hK
      gi_wp2
      exact hK
    · rintro l2 A hl2 _ hi h1 _
      have c0 := h1.cell
      have f0 := h1.frozen
      gi_wp2
      refine ⟨(Keep.refl _ A).setCell _ fun o ho hs _ => ?_, by have := h1.set (.int .i64 ((i : Int) + 1)); simpa using this⟩
      have h1' : A.heap[w.heap.size]? = some (.cells #[.int .i64 (i : Int)] 3 (0, 0)) := h1
      rw [show (⟨w.heap.size, 0, none⟩ : Addr).block = w.heap.size from rfl, h1'] at ho
      cases ho
      rcases hs with hs | hs
      · exact hs rfl
      · exact hs _ _ rfl
  case hdone =>
    rintro D A hD h1 _ hk hDB
    have hrbA : RB rb s A := hk.same _ _ hrb1 ⟨.inl (by omega), .inl (by omega)⟩
    have c0 := cells1 hrbA
    have c1 := h1.cell
    have hkA : Same w A := ⟨hk.os.trans hk1.os, hk.tape.trans hk1.tape, hk.output.trans hk1.output, Nat.le_trans hk1.size hk.size, fun b o hb _ => hk.same b o (hk1.same b o hb trivial) ⟨.inl (by have := lt_of_some hb; omega), .inl (by have := lt_of_some hb; omega)⟩⟩
    gi_wp2_with fail
    refine wpIn_region_shut (fun Z => RB rb s Z ∧ Boxed Z w.heap.size 3 (.int .i64 (d : Int))) reads (fun _ => trivial) rfl (by kernel_rfl) (by kernel_rfl) ⟨hrbA, h1⟩ ?_
    refine shT_x rfl rfl ?_; intro K hK w' hs; have z0 := cells1 hs.1; have z1 := hs.2.cell; go_simp; refine hK _ _ ?_; clear hK K z0 z1 hs w'
    refine shT_x rfl rfl ?_; intro K hK w' hs; have z0 := cells1 hs.1; have z1 := hs.2.cell; go_simp; refine hK _ _ ?_; clear hK K z0 z1 hs w'
    refine shT_x rfl rfl ?_; intro K hK w' hs; have z0 := cells1 hs.1; have z1 := hs.2.cell; go_simp; refine hK _ _ ?_; clear hK K z0 z1 hs w'
    refine shT_x rfl rfl ?_; intro K hK w' hs; have z0 := cells1 hs.1; have z1 := hs.2.cell; go_simp; refine hK _ _ ?_; clear hK K z0 z1 hs w'
    refine shT_x rfl rfl ?_; intro K hK w' hs; have z0 := cells1 hs.1; have z1 := hs.2.cell; go_simp; refine hK _ _ ?_; clear hK K z0 z1 hs w'
    refine shT_x rfl rfl ?_; intro K hK w' hs; have z0 := cells1 hs.1; have z1 := hs.2.cell; go_simp; refine hK _ _ ?_; clear hK K z0 z1 hs w'
    refine shT_x rfl rfl ?_; intro K hK w' hs; have z0 := cells1 hs.1; have z1 := hs.2.cell; go_simp; refine hK _ _ ?_; clear hK K z0 z1 hs w'
    refine shT_x rfl rfl ?_; intro K hK w' hs; have z0 := cells1 hs.1; have z1 := hs.2.cell; go_simp; refine hK _ _ ?_; clear hK K z0 z1 hs w'
    refine shT_nil ?_
    gi_wp2_with fail
    refine wpIn_region_tailA (fun Z => RB rb s Z ∧ Boxed Z w.heap.size 3 (.int .i64 (d : Int))) reads (fun _ => trivial) rfl (by kernel_rfl) rfl (by kernel_rfl) (by kernel_rfl) ⟨hrbA, h1⟩ ?_
    simp only [initL]
    refine shT_x rfl rfl ?_; intro K hK w' hs; have z0 := cells1 hs.1; have z1 := hs.2.cell; go_simp; refine hK _ _ ?_; clear hK K z0 z1 hs w'
    refine shT_x rfl rfl ?_; intro K hK w' hs; have z0 := cells1 hs.1; have z1 := hs.2.cell; go_simp; refine hK _ _ ?_; clear hK K z0 z1 hs w'
    refine shT_x rfl rfl ?_; intro K hK w' hs; have z0 := cells1 hs.1; have z1 := hs.2.cell; go_simp; refine hK _ _ ?_; clear hK K z0 z1 hs w'
    refine shT_x rfl rfl ?_; intro K hK w' hs; have z0 := cells1 hs.1; have z1 := hs.2.cell; go_simp; refine hK _ _ ?_; clear hK K z0 z1 hs w'
    refine shT_x rfl rfl ?_; intro K hK w' hs; have z0 := cells1 hs.1; have z1 := hs.2.cell; go_simp; refine hK _ _ ?_; clear hK K z0 z1 hs w'
    refine shT_x rfl rfl ?_; intro K hK w' hs; have z0 := cells1 hs.1; have z1 := hs.2.cell; go_simp; refine hK _ _ ?_; clear hK K z0 z1 hs w'
    refine shT_x rfl rfl ?_; intro K hK w' hs; have z0 := cells1 hs.1; have z1 := hs.2.cell; go_simp; refine hK _ _ ?_; clear hK K z0 z1 hs w'
    refine shT_x rfl rfl ?_; intro K hK w' hs; have z0 := cells1 hs.1; have z1 := hs.2.cell; go_simp; refine hK _ _ ?_; clear hK K z0 z1 hs w'
    refine shT_x rfl rfl ?_; intro K hK w' hs; have z0 := cells1 hs.1; have z1 := hs.2.cell; go_simp; refine hK _ _ ?_; clear hK K z0 z1 hs w'
    refine shT_x rfl rfl ?_; intro K hK w' hs; have z0 := cells1 hs.1; have z1 := hs.2.cell; go_simp; refine hK _ _ ?_; clear hK K z0 z1 hs w'
    refine shT_x rfl rfl ?_; intro K hK w' hs; have z0 := cells1 hs.1; have z1 := hs.2.cell; go_simp; refine hK _ _ ?_; clear hK K z0 z1 hs w'
    refine shT_tail (tail_last rfl ?_)
    have hfz : ∀ j, A.frozen? ⟨rb, j, none⟩ = false := Lib.frozen_of_heap hrbA
    go_simp
    gi_wp2
    have hk9 : Keep (fun k _ => k ≠ rb) A (A.setCell ⟨rb, 0, none⟩ (.string (s.extract d s.size))).drew.drew := (((Keep.refl _ _).setCell _ fun o _ h _ => h rfl).drew).drew
    have hD9 := hk9.same _ _ hDB (by omega)
    have hrb9 : RB rb (s.extract d s.size) (A.setCell ⟨rb, 0, none⟩ (.string (s.extract d s.size))).drew.drew := setCell_heap hrbA 0 _
    generalize (A.setCell ⟨rb, 0, none⟩ (.string (s.extract d s.size))).drew.drew = B at hk9 hD9 hrb9 ⊢
    refine ⟨by simp, .inl ⟨_, _, rfl, run_takeDeferred hD9, ?_⟩⟩
    have hkp := (Keep.refl (fun k o => k ≠ D ∨ o.isCells = true) B).putObj (r := D) (.deferred none) fun o ho hs _ => by rw [hD9] at ho; cases ho; rcases hs with h | h; exact h rfl; cases h
    refine ⟨_, results_tmp rfl _ _ _, ⟨?_, ?_, ?_⟩⟩
    · unfold digsB; rw [HD.out]; rfl
    · show RB rb (restD s) _
      unfold restD; rw [HD.out]
      exact hkp.same _ _ hrb9 (.inr rfl)
    · exact ⟨hkp.os.trans (hk9.os.trans hkA.os), hkp.tape.trans (hk9.tape.trans hkA.tape), hkp.output.trans (hk9.output.trans hkA.output), Nat.le_trans hkA.size (Nat.le_trans hk9.size hkp.size), fun y o hy hyb => hkp.same y o (hk9.same y o (hkA.same y o hy trivial) hyb) (.inl (by have := lt_of_some hy; omega))⟩
end Go.Tm

set_option linter.unusedVariables false
namespace Go.Tm
open Go.RowKit Go.Proofs
theorem tail_size (s : ByteArray) : (tailB s).size ≤ s.size := by unfold tailB; rw [ByteArray.size_extract]; omega
theorem digsB_size (s : ByteArray) : (digsB s).size ≤ s.size := by unfold digsB; rw [ByteArray.size_extract]; omega
theorem restD_size (s : ByteArray) : (restD s).size ≤ s.size := by unfold restD; rw [ByteArray.size_extract]; omega
theorem isNext1 (rb : Nat) (s : ByteArray) (c : Nat) (w : World) (hrb : RB rb s w) (hs : s.size ≤ 1099511627776) :
    Calls Tryz.prog 155 #[.pointer (some ⟨rb, 0, none⟩), .slice (some ⟨w.heap.size, 0, none⟩) 1 1] (w.alloc (.cells #[.int .u8 (c : Int)] 5)) (NextOut rb s (nextB s [c]) (w.alloc (.cells #[.int .u8 (c : Int)] 5))) :=
  isNext_any rb w.heap.size s [c] _ (heap_old hrb) (fun j hj => by
    obtain rfl : j = 0 := by simpa using hj
    exact cells1 (World.alloc_heap_new w _)) (by simp) hs
theorem isNext2 (rb : Nat) (s : ByteArray) (c d : Nat) (w : World) (hrb : RB rb s w) (hs : s.size ≤ 1099511627776) :
    Calls Tryz.prog 155 #[.pointer (some ⟨rb, 0, none⟩), .slice (some ⟨w.heap.size, 0, none⟩) 2 2] (w.alloc (.cells #[.int .u8 (c : Int), .int .u8 (d : Int)] 5)) (NextOut rb s (nextB s [c, d]) (w.alloc (.cells #[.int .u8 (c : Int), .int .u8 (d : Int)] 5))) :=
  isNext_any rb w.heap.size s [c, d] _ (heap_old hrb) (fun j hj => by
    have : j = 0 ∨ j = 1 := by simp at hj; omega
    rcases this with rfl | rfl
    · exact (cells2 (World.alloc_heap_new w _)).1
    · exact (cells2 (World.alloc_heap_new w _)).2) (by simp) hs
theorem keep_new {rb : Nat} {w w' : World} {o : Obj} (h : Keep (fun k _ => k ≠ rb) (w.alloc o) w') : Keep (fun k _ => k ≠ rb) w w' := ((Keep.refl _ w).alloc o).trans h
set_option maxRecDepth 100000 in
set_option maxHeartbeats 1000000 in
theorem whole_rd (rb : Nat) (s : ByteArray) (w : World) (hrb : RB rb s w) (hs : s.size ≤ 1099511627776) :
    Calls Tryz.prog 156 #[.pointer (some ⟨rb, 0, none⟩)] w (ReadOut rb (wholeR s) w) := by
  have hnx := isNext1 rb s 48 w hrb hs
  obtain ⟨b, hb⟩ : ∃ b, nextB s [48] = b := ⟨_, rfl⟩
  have hw : wholeR s = if b then (⟨#[48]⟩, tailB s) else (digsB s, restD s) := by unfold wholeR; rw [hb]
  rw [hb] at hnx
  have HW := Lib.hid hw
  clear hw hb
  go_enter Tryz.func156, Tryz.ntmps156
  go_wp2_with fail
  refine hnx.mono ?_
  rintro e w1 ⟨rfl, hr1, hk1⟩
  have hkw := keep_new hk1
  clear hnx
  cases b with
  | true =>
    go_wp2_with fail
    go_ret
    rw [HW.out]
    exact ⟨rfl, hr1, hkw⟩
  | false =>
    have hdg := digits_any rb s w1 hr1 hs
    go_wp2_with fail
    refine hdg.mono ?_
    rintro e w2 ⟨rfl, hr2, hk2⟩
    go_wp2_with fail
    go_ret
    rw [HW.out]
    exact ⟨rfl, hr2, hkw.trans hk2⟩
set_option maxRecDepth 100000 in
set_option maxHeartbeats 1000000 in
theorem part_rd (rb : Nat) (s : ByteArray) (w : World) (hrb : RB rb s w) (hs : s.size ≤ 1099511627776) :
    Calls Tryz.prog 157 #[.pointer (some ⟨rb, 0, none⟩)] w (ReadOut rb (partR s) w) := by
  have hnx := isNext1 rb s 46 w hrb hs
  obtain ⟨b, hb⟩ : ∃ b, nextB s [46] = b := ⟨_, rfl⟩
  have hw : partR s = if b = true ∧ (digsB (tailB s)).size ≠ 0 then (digsB (tailB s), restD (tailB s)) else (⟨#[]⟩, s) := by unfold partR; rw [hb]
  rw [hb] at hnx
  have HW := Lib.hid hw
  clear hw hb
  have c0 := cells1 hrb
  go_enter Tryz.func157, Tryz.ntmps157
  go_wp2_with fail
  refine hnx.mono ?_
  rintro e w1 ⟨rfl, hr1, hk1⟩
  have hkw := keep_new hk1
  clear hnx c0
  cases b with
  | true =>
    have hdg := digits_any rb (tailB s) w1 hr1 (Nat.le_trans (tail_size s) hs)
    obtain ⟨D, hD⟩ : ∃ D, digsB (tailB s) = D := ⟨_, rfl⟩
    rw [hD] at hdg HW
    obtain ⟨R, hR⟩ : ∃ R, restD (tailB s) = R := ⟨_, rfl⟩
    rw [hR] at hdg HW
    clear hD hR
    go_wp2_with fail
    refine hdg.mono ?_
    rintro e w2 ⟨rfl, hr2, hk2⟩
    by_cases h0 : D.size = 0
    · have e1 : D.toList = [] := by
        have : D = ByteArray.empty := by simpa using h0
        rw [this, ByteArray.toList_eq]; rfl
      have HW2 := Lib.hid (show partR s = (⟨#[]⟩, s) from by rw [HW.out]; simp [h0])
      have c2 := cells1 hr2
      have hfz : ∀ j, w2.frozen? ⟨rb, j, none⟩ = false := Lib.frozen_of_heap hr2
      clear h0 hdg
      go_wp2_with fail
      go_ret
      rw [HW2.out]
      exact ⟨rfl, setCell_heap hr2 0 _, (hkw.trans hk2).setCell _ fun o _ h _ => h rfl⟩
    · have e1 : (D.toList == []) = false := by
        cases h : D.toList with
        | nil =>
          have : D.toList.length = D.size := by rw [ByteArray.toList_eq]; simp
          rw [h] at this; simp at this; omega
        | cons x l => rfl
      have HW2 := Lib.hid (show partR s = (D, R) from by rw [HW.out]; simp [h0])
      clear h0 hdg
      go_wp2_with fail
      go_ret
      rw [HW2.out]
      exact ⟨rfl, hr2, hkw.trans hk2⟩
  | false =>
    have HW2 := Lib.hid (show partR s = (⟨#[]⟩, s) from by rw [HW.out]; simp)
    have c2 := cells1 hr1
    have hfz : ∀ j, w1.frozen? ⟨rb, j, none⟩ = false := Lib.frozen_of_heap hr1
    go_wp2_with fail
    go_ret
    rw [HW2.out]
    exact ⟨rfl, setCell_heap hr1 0 _, hkw.setCell _ fun o _ h _ => h rfl⟩
def signR (s : ByteArray) : Int × ByteArray := if nextB s [45] then (-1, tailB s) else (1, if nextB s [43] then tailB s else s)
def atoiV (d : ByteArray) : Int := match Lib.atoiAll d.data.toList with
  | .ok v => v
  | .range => Lib.atoiSat d.data.toList
  | _ => 0
def atoiOk (d : ByteArray) : Bool := match Lib.atoiAll d.data.toList with
  | .ok _ => true
  | _ => false
def powerR (s : ByteArray) : (Int × Bool) × ByteArray :=
  if nextB s [101, 69] = true ∧ (digsB (signR (tailB s)).2).size ≠ 0 then
    ((wrap64 ((signR (tailB s)).1 * atoiV (digsB (signR (tailB s)).2)), atoiOk (digsB (signR (tailB s)).2) && decide ((digsB (signR (tailB s)).2).size ≤ 4)), restD (signR (tailB s)).2)
  else ((0, true), s)
def AtoiErr (b : Bool) (ev : Value) : Prop := if b then ev = .nilIface else ∃ t p, ev = .iface t (.pointer (some p))
theorem atoi_any {N : Nat} {E : Errs} (d : ByteArray) (w : World) (hG : Glob N E w) (hs : d.size ≤ 1099511627776) :
    Calls Tryz.prog 207 #[.string d] w fun e w' => ∃ ev, e = .returned (.tuple #[.int .i64 (atoiV d), ev]) ∧ AtoiErr (atoiOk d) ev ∧ Same w w' := by
  unfold atoiV atoiOk
  cases h : Lib.atoiAll d.data.toList with
  | ok v =>
    refine (Tryz.strconv_Atoi_ok d (by omega) v h w).mono ?_
    rintro e w' ⟨rfl, hk⟩
    refine ⟨_, rfl, rfl, ?_⟩
    rcases hk with rfl | ⟨t, rfl⟩
    · exact Keep.refl _ _
    · exact Keep.of_below (Lib.bytesWorld_below _ _ _)
  | range =>
    obtain ⟨tp, p, hv⟩ := hG.range
    refine (Tryz.strconv_Atoi_range_var d (by omega) h tp p w hv).mono ?_
    rintro e w' ⟨n, rfl, _, _, hb⟩
    exact ⟨_, rfl, ⟨_, _, rfl⟩, Keep.of_below hb⟩
  | _ =>
    obtain ⟨tp, p, hv⟩ := hG.syn
    refine (Tryz.strconv_Atoi_syntax_var d (by omega) h tp p w hv).mono ?_
    rintro e w' ⟨n, rfl, _, _, hb⟩
    exact ⟨_, rfl, ⟨_, _, rfl⟩, Keep.of_below hb⟩
def PowOut (rb : Nat) (r : (Int × Bool) × ByteArray) (w : World) (e : Ending) (w' : World) : Prop := e = .returned (.tuple #[.int .i64 r.1.1, .bool r.1.2]) ∧ RB rb r.2 w' ∧ Keep (fun k _ => k ≠ rb) w w'
theorem AtoiErr.is_iface {b : Bool} {ev : Value} (h : AtoiErr b ev) : ev = .nilIface ∨ ∃ t p, ev = .iface t (.pointer (some p)) := by
  cases b with
  | true => exact .inl h
  | false => exact .inr h
theorem atoi_bd (d : ByteArray) : -9223372036854775808 ≤ atoiV d ∧ atoiV d ≤ 9223372036854775807 := by
  unfold atoiV
  cases h : Lib.atoiAll d.data.toList with
  | range => simp only [Lib.atoiSat]; split <;> simp
  | ok v =>
    simp only
    unfold Lib.atoiAll at h
    split at h
    · cases h
    · dsimp only at h
      split at h
      · cases h
      · cases h
      · split at h
        · cases h
        · split at h
          · cases h
          · rename_i h1 h2
            injection h with h
            subst h
            split <;> omega
  | _ => simp
set_option maxRecDepth 100000 in
set_option maxHeartbeats 2000000 in
theorem power_rd {N : Nat} {E : Errs} (rb : Nat) (s : ByteArray) (w : World) (hG : Glob N E w) (hN : N ≤ rb) (hrb : RB rb s w) (hs : s.size ≤ 1099511627776) :
    Calls Tryz.prog 158 #[.pointer (some ⟨rb, 0, none⟩)] w (PowOut rb (powerR s) w) := by
  have hnx := isNext2 rb s 101 69 w hrb hs
  have hts := Nat.le_trans (tail_size s) hs
  have htt := Nat.le_trans (tail_size (tailB s)) hts
  obtain ⟨b1, hb1⟩ : ∃ b, nextB s [101, 69] = b := ⟨_, rfl⟩
  rw [hb1] at hnx
  have HB1 := Lib.hid hb1
  clear hb1
  have c0 := cells1 hrb
  go_enter Tryz.func158, Tryz.ntmps158
  go_wp2_with fail
  refine hnx.mono ?_
  rintro e w1 ⟨rfl, hr1, hk1⟩
  have hkw := keep_new hk1
  clear hnx c0
  cases b1 with
  | false =>
    have HW2 := Lib.hid (show powerR s = ((0, true), s) from by unfold powerR; rw [HB1.out]; simp)
    have c2 := cells1 hr1
    have hfz : ∀ j, w1.frozen? ⟨rb, j, none⟩ = false := Lib.frozen_of_heap hr1
    go_wp2_with fail
    go_ret2
    rw [HW2.out]
    exact ⟨rfl, setCell_heap hr1 0 _, hkw.setCell _ fun o _ h _ => h rfl⟩
  | true =>
    simp only [if_true] at hr1
    have hnx2 := isNext1 rb (tailB s) 45 w1 hr1 hts
    obtain ⟨b2, hb2⟩ : ∃ b, nextB (tailB s) [45] = b := ⟨_, rfl⟩
    rw [hb2] at hnx2
    have HB2 := Lib.hid hb2
    clear hb2
    go_wp2_with fail
    refine hnx2.mono ?_
    rintro e w2 ⟨rfl, hr2, hk2⟩
    have hkw2 := hkw.trans (keep_new hk2)
    clear hnx2 hk2 hk1
    cases b2 with
    | true =>
      simp only [if_true] at hr2
      have hdg := digits_any rb (tailB (tailB s)) w2 hr2 htt
      obtain ⟨D, hD⟩ : ∃ D, digsB (tailB (tailB s)) = D := ⟨_, rfl⟩
      obtain ⟨R, hR⟩ : ∃ R, restD (tailB (tailB s)) = R := ⟨_, rfl⟩
      have hDz : D.size ≤ 1099511627776 := by rw [← hD]; exact Nat.le_trans (digsB_size _) htt
      have hpw : powerR s = if D.size ≠ 0 then ((wrap64 (-1 * atoiV D), atoiOk D && decide (D.size ≤ 4)), R) else ((0, true), s) := by
        unfold powerR
        rw [HB1.out]
        have hsg : signR (tailB s) = (-1, (tailB (tailB s))) := by unfold signR; simp [HB2.out]
        rw [hsg]
        simp only [hD, hR, true_and]
      rw [hD, hR] at hdg
      have HPW := Lib.hid hpw
      clear hpw hD hR
      go_wp2_with fail
      refine hdg.mono ?_
      rintro e w7 ⟨rfl, hr7, hk7⟩
      have hkw7 := hkw2.trans hk7
      have hat := atoi_any D w7 (hG.keep hkw7 fun k hlt _ => by omega) hDz
      have hbd := atoi_bd D
      obtain ⟨av, hav⟩ : ∃ v, atoiV D = v := ⟨_, rfl⟩
      obtain ⟨ao, hao⟩ : ∃ v, atoiOk D = v := ⟨_, rfl⟩
      rw [hav] at hat HPW hbd
      rw [hao] at hat HPW
      clear hav hao hdg
      go_wp2_with fail
      refine hat.mono ?_
      rintro e w8 ⟨ev, rfl, hev, hk8⟩
      have hr8 := hk8.same _ _ hr7 trivial
      have hkw8 := hkw7.trans (Keep.of_same hk8)
      clear hat
      by_cases h0 : D.size = 0
      · have e1 : D.toList = [] := by
          have : D = ByteArray.empty := by simpa using h0
          rw [this, ByteArray.toList_eq]; rfl
        have HW2 := Lib.hid (show powerR s = ((0, true), s) from by rw [HPW.out]; simp [h0])
        have c2 := cells1 hr8
        have hfz : ∀ j, w8.frozen? ⟨rb, j, none⟩ = false := Lib.frozen_of_heap hr8
        have hev1 := hev.is_iface
        clear h0
        go_wp2_with fail
        go_ret2
        rw [HW2.out]
        exact ⟨rfl, setCell_heap hr8 0 _, hkw8.setCell _ fun o _ h _ => h rfl⟩
      · have e1 : (D.toList == []) = false := by
          cases h : D.toList with
          | nil =>
            have : D.toList.length = D.size := by rw [ByteArray.toList_eq]; simp
            rw [h] at this; simp at this; omega
          | cons x l => rfl
        have HW2 := Lib.hid (show powerR s = ((wrap64 (-1 * av), ao && decide (D.size ≤ 4)), R) from by rw [HPW.out]; simp [h0])
        clear h0
        cases ao with
        | true =>
          have hev2 : ev = .nilIface := hev
          subst hev2
          by_cases h4 : D.size ≤ 4
          · have h4b : decide ((D.size : Int) ≤ 4) = true := by simp; omega
            go_wp2_with fail
            go_ret2
            rw [HW2.out]
            exact ⟨by simp [h4] <;> (unfold wrap64; omega), hr8, hkw8⟩
          · have h4b : decide ((D.size : Int) ≤ 4) = false := by simp; omega
            go_wp2_with fail
            go_ret2
            rw [HW2.out]
            exact ⟨by simp [h4] <;> (unfold wrap64; omega), hr8, hkw8⟩
        | false =>
          obtain ⟨tt, pp, rfl⟩ : ∃ t p, ev = .iface t (.pointer (some p)) := hev
          go_wp2_with fail
          go_ret2
          rw [HW2.out]
          exact ⟨by simp <;> (unfold wrap64; omega), hr8, hkw8⟩
    | false =>
      simp only [Bool.false_eq_true, if_false] at hr2
      have hnx3 := isNext1 rb (tailB s) 43 w2 hr2 hts
      obtain ⟨b3, hb3⟩ : ∃ b, nextB (tailB s) [43] = b := ⟨_, rfl⟩
      rw [hb3] at hnx3
      have HB3 := Lib.hid hb3
      clear hb3
      go_wp2_with fail
      refine hnx3.mono ?_
      rintro e w3 ⟨rfl, hr3, hk3⟩
      have hkw3 := hkw2.trans (keep_new hk3)
      clear hnx3 hk3
      cases b3 with
      | true =>
        simp only [if_true] at hr3
        have hdg := digits_any rb (tailB (tailB s)) w3 hr3 htt
        obtain ⟨D, hD⟩ : ∃ D, digsB (tailB (tailB s)) = D := ⟨_, rfl⟩
        obtain ⟨R, hR⟩ : ∃ R, restD (tailB (tailB s)) = R := ⟨_, rfl⟩
        have hDz : D.size ≤ 1099511627776 := by rw [← hD]; exact Nat.le_trans (digsB_size _) htt
        have hpw : powerR s = if D.size ≠ 0 then ((wrap64 (1 * atoiV D), atoiOk D && decide (D.size ≤ 4)), R) else ((0, true), s) := by
          unfold powerR
          rw [HB1.out]
          have hsg : signR (tailB s) = (1, (tailB (tailB s))) := by unfold signR; simp [HB2.out, HB3.out]
          rw [hsg]
          simp only [hD, hR, true_and]
        rw [hD, hR] at hdg
        have HPW := Lib.hid hpw
        clear hpw hD hR
        go_wp2_with fail
        refine hdg.mono ?_
        rintro e w7 ⟨rfl, hr7, hk7⟩
        have hkw7 := hkw3.trans hk7
        have hat := atoi_any D w7 (hG.keep hkw7 fun k hlt _ => by omega) hDz
        have hbd := atoi_bd D
        obtain ⟨av, hav⟩ : ∃ v, atoiV D = v := ⟨_, rfl⟩
        obtain ⟨ao, hao⟩ : ∃ v, atoiOk D = v := ⟨_, rfl⟩
        rw [hav] at hat HPW hbd
        rw [hao] at hat HPW
        clear hav hao hdg
        go_wp2_with fail
        refine hat.mono ?_
        rintro e w8 ⟨ev, rfl, hev, hk8⟩
        have hr8 := hk8.same _ _ hr7 trivial
        have hkw8 := hkw7.trans (Keep.of_same hk8)
        clear hat
        by_cases h0 : D.size = 0
        · have e1 : D.toList = [] := by
            have : D = ByteArray.empty := by simpa using h0
            rw [this, ByteArray.toList_eq]; rfl
          have HW2 := Lib.hid (show powerR s = ((0, true), s) from by rw [HPW.out]; simp [h0])
          have c2 := cells1 hr8
          have hfz : ∀ j, w8.frozen? ⟨rb, j, none⟩ = false := Lib.frozen_of_heap hr8
          have hev1 := hev.is_iface
          clear h0
          go_wp2_with fail
          go_ret2
          rw [HW2.out]
          exact ⟨rfl, setCell_heap hr8 0 _, hkw8.setCell _ fun o _ h _ => h rfl⟩
        · have e1 : (D.toList == []) = false := by
            cases h : D.toList with
            | nil =>
              have : D.toList.length = D.size := by rw [ByteArray.toList_eq]; simp
              rw [h] at this; simp at this; omega
            | cons x l => rfl
          have HW2 := Lib.hid (show powerR s = ((wrap64 (1 * av), ao && decide (D.size ≤ 4)), R) from by rw [HPW.out]; simp [h0])
          clear h0
          cases ao with
          | true =>
            have hev2 : ev = .nilIface := hev
            subst hev2
            by_cases h4 : D.size ≤ 4
            · have h4b : decide ((D.size : Int) ≤ 4) = true := by simp; omega
              go_wp2_with fail
              go_ret2
              rw [HW2.out]
              exact ⟨by simp [h4] <;> (unfold wrap64; omega), hr8, hkw8⟩
            · have h4b : decide ((D.size : Int) ≤ 4) = false := by simp; omega
              go_wp2_with fail
              go_ret2
              rw [HW2.out]
              exact ⟨by simp [h4] <;> (unfold wrap64; omega), hr8, hkw8⟩
          | false =>
            obtain ⟨tt, pp, rfl⟩ : ∃ t p, ev = .iface t (.pointer (some p)) := hev
            go_wp2_with fail
            go_ret2
            rw [HW2.out]
            exact ⟨by simp <;> (unfold wrap64; omega), hr8, hkw8⟩
      | false =>
        simp only [Bool.false_eq_true, if_false] at hr3
        have hdg := digits_any rb (tailB s) w3 hr3 hts
        obtain ⟨D, hD⟩ : ∃ D, digsB (tailB s) = D := ⟨_, rfl⟩
        obtain ⟨R, hR⟩ : ∃ R, restD (tailB s) = R := ⟨_, rfl⟩
        have hDz : D.size ≤ 1099511627776 := by rw [← hD]; exact Nat.le_trans (digsB_size _) hts
        have hpw : powerR s = if D.size ≠ 0 then ((wrap64 (1 * atoiV D), atoiOk D && decide (D.size ≤ 4)), R) else ((0, true), s) := by
          unfold powerR
          rw [HB1.out]
          have hsg : signR (tailB s) = (1, (tailB s)) := by unfold signR; simp [HB2.out, HB3.out]
          rw [hsg]
          simp only [hD, hR, true_and]
        rw [hD, hR] at hdg
        have HPW := Lib.hid hpw
        clear hpw hD hR
        go_wp2_with fail
        refine hdg.mono ?_
        rintro e w7 ⟨rfl, hr7, hk7⟩
        have hkw7 := hkw3.trans hk7
        have hat := atoi_any D w7 (hG.keep hkw7 fun k hlt _ => by omega) hDz
        have hbd := atoi_bd D
        obtain ⟨av, hav⟩ : ∃ v, atoiV D = v := ⟨_, rfl⟩
        obtain ⟨ao, hao⟩ : ∃ v, atoiOk D = v := ⟨_, rfl⟩
        rw [hav] at hat HPW hbd
        rw [hao] at hat HPW
        clear hav hao hdg
        go_wp2_with fail
        refine hat.mono ?_
        rintro e w8 ⟨ev, rfl, hev, hk8⟩
        have hr8 := hk8.same _ _ hr7 trivial
        have hkw8 := hkw7.trans (Keep.of_same hk8)
        clear hat
        by_cases h0 : D.size = 0
        · have e1 : D.toList = [] := by
            have : D = ByteArray.empty := by simpa using h0
            rw [this, ByteArray.toList_eq]; rfl
          have HW2 := Lib.hid (show powerR s = ((0, true), s) from by rw [HPW.out]; simp [h0])
          have c2 := cells1 hr8
          have hfz : ∀ j, w8.frozen? ⟨rb, j, none⟩ = false := Lib.frozen_of_heap hr8
          have hev1 := hev.is_iface
          clear h0
          go_wp2_with fail
          go_ret2
          rw [HW2.out]
          exact ⟨rfl, setCell_heap hr8 0 _, hkw8.setCell _ fun o _ h _ => h rfl⟩
        · have e1 : (D.toList == []) = false := by
            cases h : D.toList with
            | nil =>
              have : D.toList.length = D.size := by rw [ByteArray.toList_eq]; simp
              rw [h] at this; simp at this; omega
            | cons x l => rfl
          have HW2 := Lib.hid (show powerR s = ((wrap64 (1 * av), ao && decide (D.size ≤ 4)), R) from by rw [HPW.out]; simp [h0])
          clear h0
          cases ao with
          | true =>
            have hev2 : ev = .nilIface := hev
            subst hev2
            by_cases h4 : D.size ≤ 4
            · have h4b : decide ((D.size : Int) ≤ 4) = true := by simp; omega
              go_wp2_with fail
              go_ret2
              rw [HW2.out]
              exact ⟨by simp [h4] <;> (unfold wrap64; omega), hr8, hkw8⟩
            · have h4b : decide ((D.size : Int) ≤ 4) = false := by simp; omega
              go_wp2_with fail
              go_ret2
              rw [HW2.out]
              exact ⟨by simp [h4] <;> (unfold wrap64; omega), hr8, hkw8⟩
          | false =>
            obtain ⟨tt, pp, rfl⟩ : ∃ t p, ev = .iface t (.pointer (some p)) := hev
            go_wp2_with fail
            go_ret2
            rw [HW2.out]
            exact ⟨by simp <;> (unfold wrap64; omega), hr8, hkw8⟩
def wholeO (s : ByteArray) : ByteArray × ByteArray := wholeR (if nextB s [45] then tailB s else s)
def partO (s : ByteArray) : ByteArray × ByteArray := partR (wholeO s).2
def powerO (s : ByteArray) : (Int × Bool) × ByteArray := powerR (partO s).2
def makeO (s : ByteArray) : Dc × Int := makeB (nextB s [45]) ((wholeO s).1 ++ (partO s).1) (wrap64 ((powerO s).1.1 - ((partO s).1.size : Int)))
def parseM (s : ByteArray) : Dc × ByteArray × Int :=
  if (wholeO s).1.size = 0 ∨ (powerO s).1.2 = false then (noDc, s, 40)
  else if (makeO s).2 ≠ 0 then (noDc, s, (makeO s).2) else ((makeO s).1, (powerO s).2, 0)
theorem wholeR_size (s : ByteArray) : (wholeR s).1.size ≤ s.size + 1 ∧ (wholeR s).2.size ≤ s.size := by
  unfold wholeR
  split
  · exact ⟨by show 1 ≤ _; omega, tail_size s⟩
  · exact ⟨Nat.le_succ_of_le (digsB_size s), restD_size s⟩
theorem partR_size (s : ByteArray) : (partR s).1.size ≤ s.size ∧ (partR s).2.size ≤ s.size := by
  unfold partR
  split
  · exact ⟨Nat.le_trans (digsB_size _) (tail_size s), Nat.le_trans (restD_size _) (tail_size s)⟩
  · exact ⟨Nat.zero_le _, Nat.le_refl _⟩
theorem parse_res (T : Array Value) (W : World) (bx : Nat) (d : Dc) (r : ByteArray) (e : Int) (h2 : T.getD 2 undef = .pointer (some ⟨bx, 0, none⟩)) (h3 : T.getD 3 undef = .string r) (h4 : T.getD 4 undef = .int .i64 e)
    (hrow : W.heap[bx]? = some (.cells #[.bool d.neg, .string d.digits, .int .i64 d.exp] 23 (0, 0))) : (results Tryz.f108 T).run Tryz.prog W = .ok (.tuple #[decV d, .string r, .int .i64 e]) W := by
  have hld := run_loadVar_row (P := Tryz.prog) W bx 23 23 _ (0, 0) _ hrow Tryz.underlying23 rfl (by kernel_rfl)
  have e1 : Tryz.f108.results = #[.cell 2 23, .tmp 3, .tmp 4] := rfl
  unfold results
  rw [e1]
  simp [-Array.getD_eq_getD_getElem?, h2, h3, h4, asAddr, hld, Result.andThen]
set_option maxRecDepth 100000 in
set_option maxHeartbeats 4000000 in
theorem parse_any {N : Nat} {E : Errs} (s : ByteArray) (w : World) (hG : Glob N E w) (hN : N ≤ w.heap.size) (hs : s.size ≤ 274877906944) :
    Calls Tryz.prog 108 #[.string s] w fun e w' => e = .returned (.tuple #[decV (parseM s).1, .string (parseM s).2.1, .int .i64 (parseM s).2.2]) ∧ Same w w' := by
  have h1 : (if nextB s [45] then tailB s else s).size ≤ s.size := by
    split
    · exact tail_size s
    · exact Nat.le_refl _
  have h2 := wholeR_size (if nextB s [45] then tailB s else s)
  have h3 := partR_size (wholeO s).2
  have h2' : (wholeO s).1.size ≤ s.size + 1 ∧ (wholeO s).2.size ≤ s.size := by unfold wholeO; omega
  have hpm : parseM s = if (wholeO s).1.size = 0 ∨ (powerO s).1.2 = false then (noDc, s, 40) else if (makeO s).2 ≠ 0 then (noDc, s, (makeO s).2) else ((makeO s).1, (powerO s).2, 0) := rfl
  obtain ⟨R, hR⟩ : ∃ R, parseM s = R := ⟨_, rfl⟩
  rw [hR] at hpm ⊢
  have HR := Lib.hid hpm
  clear hpm hR
  have hnx := fun W (hr : RB (w.heap.size + 1) s W) => isNext1 (w.heap.size + 1) s 45 W hr (by omega)
  have hwh := fun W hr => whole_rd (w.heap.size + 1) (if nextB s [45] then tailB s else s) W hr (by omega)
  have hpt := fun W hr => part_rd (w.heap.size + 1) (wholeO s).2 W hr (by omega)
  have hpw := fun W hg hr => power_rd (N := N) (E := E) (w.heap.size + 1) (partO s).2 W hg (by omega) hr (by have : (partO s).2.size ≤ _ := h3.2; omega)
  have hp1 : (partO s).1.size ≤ s.size := by have : (partO s).1.size ≤ _ := h3.1; omega
  have hmk := fun W => make_any (nextB s [45]) ((wholeO s).1 ++ (partO s).1) (wrap64 ((powerO s).1.1 - ((partO s).1.size : Int))) W (by rw [ByteArray.size_append]; omega) (by unfold wrap64; omega)
  have hw0 : wholeR (if nextB s [45] then tailB s else s) = wholeO s := rfl
  have hp0 : partR (wholeO s).2 = partO s := rfl
  have hq0 : powerR (partO s).2 = powerO s := rfl
  have hm0 : makeB (nextB s [45]) ((wholeO s).1 ++ (partO s).1) (wrap64 ((powerO s).1.1 - ((partO s).1.size : Int))) = makeO s := rfl
  rw [hw0] at hwh
  rw [hp0] at hpt
  rw [hq0] at hpw
  rw [hm0] at hmk
  clear hw0 hp0 hq0 hm0 h1 h2 h3
  obtain ⟨⟨m1, m2⟩, hm⟩ : ∃ r, makeO s = r := ⟨_, rfl⟩
  obtain ⟨⟨⟨q1, q2⟩, q3⟩, hq⟩ : ∃ r, powerO s = r := ⟨_, rfl⟩
  obtain ⟨⟨p1, p2⟩, hp⟩ : ∃ r, partO s = r := ⟨_, rfl⟩
  obtain ⟨⟨v1, v2⟩, hv⟩ : ∃ r, wholeO s = r := ⟨_, rfl⟩
  rw [hm] at hmk HR
  rw [hq] at hpw hmk HR
  rw [hp] at hpt hpw hmk hp1
  rw [hv] at hwh hpt hmk HR h2'
  clear hm hq hp hv
  simp only at hwh hpt hpw hmk HR h2' hp1
  obtain ⟨b, hb⟩ : ∃ b, nextB s [45] = b := ⟨_, rfl⟩
  rw [hb] at hnx hwh hmk
  clear hb
  unfold NextOut at hnx
  obtain ⟨s1, hs1⟩ : ∃ s1, (if b = true then tailB s else s) = s1 := ⟨_, rfl⟩
  rw [hs1] at hwh
  simp only [hs1] at hnx
  clear hs1
  go_enter Tryz.func108, Tryz.ntmps108
  go_wp2_with fail
  have hrb0 : RB (w.heap.size + 1) s ((w.alloc (.cells #[.bool false, .string ⟨#[]⟩, .int .i64 0] 23)).alloc (.cells #[.string s] 188)) := heap_new' (by simp)
  have hbr0 : ((w.alloc (.cells #[.bool false, .string ⟨#[]⟩, .int .i64 0] 23)).alloc (.cells #[.string s] 188)).heap[w.heap.size]? = some (.cells #[.bool false, .string ⟨#[]⟩, .int .i64 0] 23 (0, 0)) := heap_old (World.alloc_heap_new w _)
  have hk0 : Same w ((w.alloc (.cells #[.bool false, .string ⟨#[]⟩, .int .i64 0] 23)).alloc (.cells #[.string s] 188)) := (by repeat (first | with_reducible exact Keep.refl _ _ | with_reducible refine Keep.alloc ?_ _ | with_reducible refine Keep.drew ?_ | with_reducible refine Keep.drewN ?_ _ | with_reducible refine Keep.trans ?_ (by assumption)))
  have hz0 : ((w.alloc (.cells #[.bool false, .string ⟨#[]⟩, .int .i64 0] 23)).alloc (.cells #[.string s] 188)).heap.size = w.heap.size + 1 + 1 := by simp
  have hnx0 := hnx _ hrb0
  generalize ((w.alloc (.cells #[.bool false, .string ⟨#[]⟩, .int .i64 0] 23)).alloc (.cells #[.string s] 188)) = W0 at hrb0 hbr0 hk0 hz0 hnx0 ⊢
  rw [hz0] at hnx0
  clear hz0
  refine hnx0.mono ?_
  rintro e w1 ⟨rfl, hr1, hk1⟩
  have hkw1 := (Keep.of_same hk0).trans (keep_new hk1)
  have hbr1 := (keep_new hk1).same _ _ hbr0 (by omega)
  clear hnx hnx0 hk1 hbr0 hrb0 hk0
  go_wp2_with fail
  refine (hwh _ hr1).mono ?_
  rintro e w2 ⟨rfl, hr2, hk2⟩
  have hkw2 := hkw1.trans hk2
  have hbr2 := hk2.same _ _ hbr1 (by omega)
  clear hwh hk2 hkw1 hbr1 hr1
  go_wp2_with fail
  refine (hpt _ hr2).mono ?_
  rintro e w3 ⟨rfl, hr3, hk3⟩
  have hkw3 := hkw2.trans hk3
  have hbr3 := hk3.same _ _ hbr2 (by omega)
  clear hpt hk3 hkw2 hbr2 hr2
  go_wp2_with fail
  refine (hpw _ (hG.keep hkw3 fun k hlt _ => by omega) hr3).mono ?_
  rintro e w4 ⟨rfl, hr4, hk4⟩
  have hkw4' := hkw3.trans hk4
  have hbr4 := hk4.same _ _ hbr3 (by omega)
  have hkw4 : Same w w4 := ⟨hkw4'.os, hkw4'.tape, hkw4'.output, hkw4'.size, fun k o ho _ => hkw4'.same k o ho (by have := lt_of_some ho; omega)⟩
  clear hpw hk4 hkw3 hbr3 hr3 hkw4'
  simp only at hr4
  by_cases h0 : v1.size = 0
  · have e1 : v1.toList = [] := by
      have : v1 = ByteArray.empty := by simpa using h0
      rw [this, ByteArray.toList_eq]; rfl
    have HR1 := Lib.hid (show R = (noDc, s, 40) from by rw [HR.out, if_pos (.inl h0)])
    clear h0 hmk
    have c0 := cells3 hbr4
    obtain ⟨x0, x1, x2⟩ := c0
    have hfz : ∀ j, w4.frozen? ⟨w.heap.size, j, none⟩ = false := Lib.frozen_of_heap hbr4
    go_wp2_with fail
    (try simp only [Exit.inBlock, Exit.then])
    obtain ⟨p3, p4⟩ := put3 (x := .bool false) (y := .string ⟨#[]⟩) (z := .int .i64 0) hkw4 hbr4 (by omega)
    exact bodyPost_ret (parse_res _ _ w.heap.size noDc s 40 rfl rfl rfl p3) rfl ⟨by rw [HR1.out] <;> rfl, p4⟩
  · have e1 : (v1.toList == []) = false := by
      cases h : v1.toList with
      | nil =>
        have : v1.toList.length = v1.size := by rw [ByteArray.toList_eq]; simp
        rw [h] at this; simp at this; omega
      | cons x l => rfl
    cases q2 with
    | false =>
      have HR1 := Lib.hid (show R = (noDc, s, 40) from by rw [HR.out, if_pos (.inr rfl)])
      clear h0 hmk
      have c0 := cells3 hbr4
      obtain ⟨x0, x1, x2⟩ := c0
      have hfz : ∀ j, w4.frozen? ⟨w.heap.size, j, none⟩ = false := Lib.frozen_of_heap hbr4
      go_wp2_with fail
      (try simp only [Exit.inBlock, Exit.then])
      obtain ⟨p3, p4⟩ := put3 (x := .bool false) (y := .string ⟨#[]⟩) (z := .int .i64 0) hkw4 hbr4 (by omega)
      exact bodyPost_ret (parse_res _ _ w.heap.size noDc s 40 rfl rfl rfl p3) rfl ⟨by rw [HR1.out] <;> rfl, p4⟩
    | true =>
      have hR2 : R = if m2 ≠ 0 then (noDc, s, m2) else (m1, q3, 0) := by rw [HR.out, if_neg (by rintro (h | h); exact h0 h; cases h)]
      have HR2 := Lib.hid hR2
      clear hR2 h0
      obtain ⟨ex, hex⟩ : ∃ ex, wrap64 (q1 - (p1.size : Int)) = ex := ⟨_, rfl⟩
      rw [hex] at hmk
      go_wp2_with fail
      rw [hex]
      refine (hmk _).mono ?_
      rintro e w5 ⟨rfl, hk5⟩
      have hbr5 := heap_old (o := .cells #[.bool m1.neg, .string m1.digits, .int .i64 m1.exp] 23) (hk5.same _ _ hbr4 trivial)
      have hrb5 : RB (w.heap.size + 1) q3 (w5.alloc (.cells #[.bool m1.neg, .string m1.digits, .int .i64 m1.exp] 23)) := heap_old (hk5.same _ _ hr4 trivial)
      have hbd5 : (w5.alloc (.cells #[.bool m1.neg, .string m1.digits, .int .i64 m1.exp] 23)).heap[w5.heap.size]? = some (.cells #[.bool m1.neg, .string m1.digits, .int .i64 m1.exp] 23 (0, 0)) := World.alloc_heap_new w5 _
      have hkw5 : Same w (w5.alloc (.cells #[.bool m1.neg, .string m1.digits, .int .i64 m1.exp] 23)) := (hkw4.trans hk5).alloc _
      have hdb : w.heap.size + 1 < w5.heap.size := lt_of_some (hk5.same _ _ hr4 trivial)
      clear hmk hkw4 hk5 hbr4 hr4 hex
      by_cases hm0 : m2 = 0
      · subst hm0
        have HR1 := Lib.hid (show R = (m1, q3, 0) from by rw [HR2.out]; simp)
        go_wp2_with fail
        generalize (w5.alloc (.cells #[.bool m1.neg, .string m1.digits, .int .i64 m1.exp] 23)) = w6 at hbr5 hrb5 hbd5 hkw5 ⊢
        generalize w5.heap.size = db at hbd5 hdb ⊢
        have z0 := cells1 hrb5
        obtain ⟨z1, z2, z3⟩ := cells3 hbd5
        obtain ⟨x0, x1, x2⟩ := cells3 hbr5
        have hfz : ∀ j, w6.frozen? ⟨w.heap.size, j, none⟩ = false := Lib.frozen_of_heap hbr5
        refine (wpIn_wide (n := 0)).1 ?_
        refine wpIn_region_shut (n := 0) (fun Z => RB (w.heap.size + 1) q3 Z ∧ Z.heap[db]? = some (.cells #[.bool m1.neg, .string m1.digits, .int .i64 m1.exp] 23 (0, 0))) reads (fun _ => trivial) rfl (by kernel_rfl) (by kernel_rfl) ⟨hrb5, hbd5⟩ ?_
        refine shT_x rfl rfl ?_; intro K hK w' hs; have z0 := cells1 hs.1; obtain ⟨z1, z2, z3⟩ := cells3 hs.2; go_simp; refine hK _ _ ?_; clear hK K z0 z1 z2 z3 hs w'
        refine shT_x rfl rfl ?_; intro K hK w' hs; have z0 := cells1 hs.1; obtain ⟨z1, z2, z3⟩ := cells3 hs.2; go_simp; refine hK _ _ ?_; clear hK K z0 z1 z2 z3 hs w'
        refine shT_x rfl rfl ?_; intro K hK w' hs; have z0 := cells1 hs.1; obtain ⟨z1, z2, z3⟩ := cells3 hs.2; go_simp; refine hK _ _ ?_; clear hK K z0 z1 z2 z3 hs w'
        refine shT_x rfl rfl ?_; intro K hK w' hs; have z0 := cells1 hs.1; obtain ⟨z1, z2, z3⟩ := cells3 hs.2; go_simp; refine hK _ _ ?_; clear hK K z0 z1 z2 z3 hs w'
        refine shT_x rfl rfl ?_; intro K hK w' hs; have z0 := cells1 hs.1; obtain ⟨z1, z2, z3⟩ := cells3 hs.2; go_simp; refine hK _ _ ?_; clear hK K z0 z1 z2 z3 hs w'
        refine shT_x rfl rfl ?_; intro K hK w' hs; have z0 := cells1 hs.1; obtain ⟨z1, z2, z3⟩ := cells3 hs.2; go_simp; refine hK _ _ ?_; clear hK K z0 z1 z2 z3 hs w'
        refine shT_c rfl rfl ?_
        intro K hK
        go_simp
        obtain ⟨p3, p4⟩ := put3 (x := .bool m1.neg) (y := .string m1.digits) (z := .int .i64 m1.exp) hkw5 hbr5 (by omega)
        have hk6 : Keep (fun k _ => k ≠ w.heap.size) w6 (((w6.setCell ⟨w.heap.size, 0, none⟩ (.bool m1.neg)).setCell ⟨w.heap.size, 1, none⟩ (.string m1.digits)).setCell ⟨w.heap.size, 2, none⟩ (.int .i64 m1.exp)) := (((Keep.refl _ w6).setCell _ fun o _ h _ => h rfl).setCell _ fun o _ h _ => h rfl).setCell _ fun o _ h _ => h rfl
        refine hK _ _ ⟨hk6.same _ _ hrb5 (by omega), hk6.same _ _ hbd5 (by omega)⟩ ?_
        clear hK K
        refine shT_x rfl rfl ?_
        intro K hK w' hs
        go_simp
        refine hK _ _ ?_
        clear hK K hs w'
        refine shT_x rfl rfl ?_
        intro K hK w' hs
        go_simp
        refine hK _ _ ?_
        clear hK K hs w'
        refine shT_nil ?_
        go_wp2_with fail
        (try simp only [Exit.inBlock, Exit.then])
        exact bodyPost_ret (parse_res _ _ w.heap.size m1 q3 0 rfl rfl rfl p3) rfl ⟨by rw [HR1.out] <;> rfl, p4.drew⟩
      · have hmb : (m2 != 0) = true := by simpa using hm0
        have HR1 := Lib.hid (show R = (noDc, s, m2) from by rw [HR2.out, if_pos hm0])
        clear hm0
        have c0 := cells3 hbr5
        obtain ⟨x0, x1, x2⟩ := c0
        have hfz : ∀ j, (w5.alloc (.cells #[.bool m1.neg, .string m1.digits, .int .i64 m1.exp] 23)).frozen? ⟨w.heap.size, j, none⟩ = false := Lib.frozen_of_heap hbr5
        go_wp2_with fail
        (try simp only [Exit.inBlock, Exit.then])
        obtain ⟨p3, p4⟩ := put3 (x := .bool false) (y := .string ⟨#[]⟩) (z := .int .i64 0) hkw5 hbr5 (by omega)
        exact bodyPost_ret (parse_res _ _ w.heap.size noDc s m2 rfl rfl rfl p3) rfl ⟨by rw [HR1.out] <;> rfl, p4⟩
end Go.Tm

set_option linter.unusedVariables false
namespace Go.Tm
open Go.RowKit Go.Proofs
theorem fmt_right (d : Dc) (h : decRight d = true) : formatM d = (strN (sgnN d.neg ++ bytesN (formatB d)), 0) := by
  unfold formatM
  rw [if_pos h, strN_app, strN_bytesN]
  congr 2
  cases d.neg <;> rfl
theorem fmt_bounds (d : Dc) (h : decRight d = true) : d.digits.size ≤ 100 ∧ -100 ≤ d.exp ∧ d.exp ≤ 100 := by
  unfold decRight at h
  rw [Bool.or_eq_true] at h
  rcases h with h | h
  · have h := of_decide_eq_true h
    subst h
    decide
  · simp only [Bool.and_eq_true, decide_eq_true_eq, within] at h
    omega
theorem same_grow {w w' : World} {k : Nat} {os : Array Obj} (e : w' = Go.Sort.grow (w.drewN k) os) : Same w w' := by
  subst e
  refine ⟨rfl, rfl, rfl, ?_, fun b o ho _ => ?_⟩
  · show _ ≤ (w.heap ++ os).size
    rw [Array.size_append]; omega
  · have hlt := lt_of_some ho
    show (w.heap ++ os)[b]? = some o
    rw [Array.getElem?_append_left hlt, ho]
set_option maxRecDepth 100000 in
set_option maxHeartbeats 1000000 in
theorem fmt_bad (d : Dc) (w : World) (hs : d.digits.size ≤ 1099511627776) (h : decRight d = false) :
    Calls Tryz.prog 109 #[decV d] w fun e w' => e = .returned (.tuple #[.string (formatM d).1, .int .i64 (formatM d).2]) ∧ Same w w' := by
  have hdr := fun W => decRight_any d W hs
  rw [h] at hdr
  have hR : formatM d = (⟨#[]⟩, 40) := by
    unfold formatM
    rw [h]; rfl
  rw [hR]
  clear hR h
  obtain ⟨neg, dg, ex⟩ := d
  simp only at *
  go_enter Tryz.func109, Tryz.ntmps109
  go_wp2_with fail
  refine (hdr _).mono ?_
  rintro e w1 ⟨rfl, hk1⟩
  have hkw1 : Same w w1 := (by repeat (first | with_reducible exact Keep.refl _ _ | with_reducible refine Keep.alloc ?_ _ | with_reducible refine Keep.drew ?_ | with_reducible refine Keep.drewN ?_ _ | with_reducible refine Keep.trans ?_ (by assumption)))
  go_wp2_with fail
  go_ret2
  exact ⟨rfl, hkw1⟩
set_option maxRecDepth 100000 in
set_option maxHeartbeats 4000000 in
theorem fmt_big (d : Dc) (w : World) (h : decRight d = true) (hw : within d.exp 20 = false) (htab : Lib.TabIs Tryz.prog w "internal/strconv.uint64pow10" .u64 Lib.pow10Tab) (hgl : ∀ W, Same w W → Lib.TabIs Tryz.prog W "internal/strconv.uint64pow10" .u64 Lib.pow10Tab) :
    Calls Tryz.prog 109 #[decV d] w fun e w' => e = .returned (.tuple #[.string (formatM d).1, .int .i64 (formatM d).2]) ∧ Same w w' := by
  obtain ⟨hd1, hd2, hd3⟩ := fmt_bounds d h
  have hdr := fun W => decRight_any d W (by omega)
  rw [h] at hdr
  have hwi := fun W => within_any d.exp 20 W (by decide)
  have hw : within d.exp 20 = false := by first | assumption | (unfold within; simp; omega)
  rw [hw] at hwi
  have hfr := fmt_right d h
  have hfb : formatB d = d.digits ++ ⟨#[101]⟩ ++ ⟨(Lib.itoa d.exp).toArray⟩ := by
    unfold formatB
    simp only [hw, if_true]
  rw [hfb] at hfr
  have hit := fun W (hW : Same w W) => Tryz.strconv_Itoa d.exp (by omega) (by omega) W (hgl W hW)
  have hil := Lib.itoa_length_le d.exp (by omega) (by omega)
  obtain ⟨it, hiq⟩ : ∃ it : ByteArray, (⟨(Lib.itoa d.exp).toArray⟩ : ByteArray) = it := ⟨_, rfl⟩
  have hisz : it.size ≤ 21 := by
    rw [← hiq]
    show (Lib.itoa d.exp).toArray.size ≤ 21
    simpa using hil
  rw [hiq] at hit hfr
  obtain ⟨de, hde⟩ : ∃ de : ByteArray, d.digits ++ ⟨#[101]⟩ = de := ⟨_, rfl⟩
  rw [hde] at hfr
  have hdz : de.size ≤ 101 := by rw [← hde, ByteArray.size_append]; show _ + 1 ≤ _; omega
  have HD := Lib.hid hde
  obtain ⟨tx, htx⟩ : ∃ tx : ByteArray, de ++ it = tx := ⟨_, rfl⟩
  rw [htx] at hfr
  have htz : tx.size ≤ 200 := by rw [← htx, ByteArray.size_append]; omega
  have HT := Lib.hid htx
  have HR := Lib.hid hfr
  clear hiq hil hde htx hfr hfb hw h
  obtain ⟨neg, dg, ex⟩ := d
  simp only at *
  go_enter Tryz.func109, Tryz.ntmps109
  go_wp2_with fail
  refine (hdr _).mono ?_
  rintro e w1 ⟨rfl, hk1⟩
  have hbx1 := hk1.same w.heap.size _ (World.alloc_heap_new w _) trivial
  have hkw1 : Same w w1 := (by repeat (first | with_reducible exact Keep.refl _ _ | with_reducible refine Keep.alloc ?_ _ | with_reducible refine Keep.drew ?_ | with_reducible refine Keep.drewN ?_ _ | with_reducible refine Keep.trans ?_ (by assumption)))
  have hlt1 := lt_of_some hbx1
  have hbx2 := heap_old (o := .cells #[.pointer none, .slice none 0 0] 195) hbx1
  have hB0 : Bld w1.heap.size w1.heap.size [] (w1.alloc (.cells #[.pointer none, .slice none 0 0] 195)) := .inl ⟨Nat.le_refl _, .slice none 0 0, World.alloc_heap_new _ _, World.ownsRow_nil _ _ _ _, by simp [Value.ownBlock]⟩
  have hkw2 : Same w (w1.alloc (.cells #[.pointer none, .slice none 0 0] 195)) := hkw1.alloc _
  have hz2 : w1.heap.size ≤ (w1.alloc (.cells #[.pointer none, .slice none 0 0] 195)).heap.size := by simp
  obtain ⟨bb, hbb⟩ : ∃ bb, w1.heap.size = bb := ⟨_, rfl⟩
  rw [hbb] at hB0 hz2 hlt1
  have hbw : w.heap.size ≤ bb := by have := hkw1.size; omega
  obtain ⟨c0, c1, c2⟩ := cells3 hbx2
  cases neg
  focus
    go_wp2_with fail
    generalize (w1.alloc _) = w3 at hB0 hbx2 hkw2 hz2 c0 c1 c2 ⊢
    have hxl : (sgnN false).length ≤ 1 := by decide
    have hx2 : ∀ x ∈ (sgnN false), x < 256 := by decide
    have hB3 : Bld bb bb (sgnN false) w3 := hB0
    generalize (sgnN false) = xs at hxl hx2 hB3 HR
  rotate_left
  focus
    go_wp2_with fail
    refine (writeByte_any bb bb 45 [] _ hB0 (by decide) hz2).mono ?_
    rintro e w3 ⟨rfl, hB3, hK3⟩
    replace hbx2 := hK3.same _ _ hbx2 ⟨by omega, .inl hlt1⟩
    replace hkw2 : Same w w3 := ⟨hK3.os.trans hkw2.os, hK3.tape.trans hkw2.tape, hK3.output.trans hkw2.output, Nat.le_trans hkw2.size hK3.size, fun b o hb _ => hK3.same b o (hkw2.same b o hb trivial) (by have := lt_of_some hb; exact ⟨by omega, .inl (by omega)⟩)⟩
    replace hz2 := Nat.le_trans hz2 hK3.size
    clear hB0 c0 c1 c2 hK3
    obtain ⟨c0, c1, c2⟩ := cells3 hbx2
    go_wp2_with fail
    have hxl : (sgnN true).length ≤ 1 := by decide
    have hx2 : ∀ x ∈ (sgnN true), x < 256 := by decide
    replace hB3 : Bld bb bb (sgnN true) w3 := hB3
    generalize (sgnN true) = xs at hxl hx2 hB3 HR
  all_goals
    refine (hwi _).mono ?_
    rintro x w4 ⟨rfl, h9⟩
    replace h9 := h9.symm
    subst h9
    go_wp2_with fail
    refine (wpIn_wide (n := 0)).1 ?_
    refine wpIn_region_shut (n := 0) (fun X => X.heap[w.heap.size]? = some _) reads (fun _ => trivial) rfl (by kernel_rfl) (by kernel_rfl) hbx2 ?_
    refine shT_x rfl rfl ?_; intro K hK w' hs; obtain ⟨p0, p1, p2⟩ := cells3 hs; go_simp; refine hK _ _ ?_; clear hK K p0 p1 p2 hs w'
    refine shT_x rfl rfl ?_; intro K hK w' hs; obtain ⟨p0, p1, p2⟩ := cells3 hs; go_simp; refine hK _ _ ?_; clear hK K p0 p1 p2 hs w'
    have hcat1 : ¬ 9223372036854775807 < dg.size + 1 := by omega
    refine shT_x rfl rfl ?_
    intro K hK w' hs
    go_simp
    rw [HD.out]
    refine hK _ _ ?_
    clear hK K hs w'
    refine shT_x rfl rfl ?_; intro K hK w' hs; obtain ⟨p0, p1, p2⟩ := cells3 hs; go_simp; refine hK _ _ ?_; clear hK K p0 p1 p2 hs w'
    refine shT_x rfl rfl ?_; intro K hK w' hs; obtain ⟨p0, p1, p2⟩ := cells3 hs; go_simp; refine hK _ _ ?_; clear hK K p0 p1 p2 hs w'
    refine shT_c rfl rfl ?_
    intro K hK
    go_simp
    refine (callsW (hit _ hkw2.drew)).mono ?_
    rintro x w5 ⟨rfl, ko, oso, hw5⟩
    have hk5 := same_grow hw5
    clear hw5
    have hbx5 := hk5.same _ _ hbx2 trivial
    have hB3d : Bld bb bb xs w3.drew := hB3
    have hB5 := isB_keep hB3d hk5 (fun c f => trivial) (fun g c f _ _ => trivial)
    have hkw5 : Same w w5 := hkw2.drew.trans hk5
    have hz5 : bb ≤ w5.heap.size := Nat.le_trans hz2 hk5.size
    refine hK _ _ hbx5 ?_
    clear hK K
    have hcat2 : ¬ 9223372036854775807 < de.size + it.size := by omega
    refine shT_x rfl rfl ?_
    intro K hK w' hs
    go_simp
    rw [HT.out]
    refine hK _ _ ?_
    clear hK K hs w'
    refine shT_c rfl rfl ?_
    intro K hK
    go_simp
    refine (callsW (writeString_any bb bb tx xs _ hB5 (by omega) hz5)).mono ?_
    rintro x w6 ⟨⟨v6, rfl⟩, hB6, hK6⟩
    have hbx6 := hK6.same _ _ hbx5 ⟨by omega, .inl hlt1⟩
    have hkw6 : Same w w6 := ⟨hK6.os.trans hkw5.os, hK6.tape.trans hkw5.tape, hK6.output.trans hkw5.output, Nat.le_trans hkw5.size hK6.size, fun b o hb _ => hK6.same b o (hkw5.same b o hb trivial) (by have := lt_of_some hb; exact ⟨by omega, .inl (by omega)⟩)⟩
    have hz6 : bb ≤ w6.heap.size := Nat.le_trans hz5 hK6.size
    refine hK _ _ hbx6 ?_
    clear hK K
    refine shT_nil ?_
    go_wp2_with fail
    refine (bldString_any bb bb (xs ++ bytesN tx) w6 hB6 (fun x hx => (List.mem_append.1 hx).elim (hx2 x) (bytesN_lt _ x)) hz6).mono ?_
    rintro x w7 ⟨rfl, hK7⟩
    have hkw7 : Same w w7 := ⟨hK7.os.trans hkw6.os, hK7.tape.trans hkw6.tape, hK7.output.trans hkw6.output, Nat.le_trans hkw6.size hK7.size, fun b o hb _ => hK7.same b o (hkw6.same b o hb trivial) (by have := lt_of_some hb; exact .inl (by omega))⟩
    go_wp2_with fail
    go_ret2
    exact ⟨by rw [HR.out]; rfl, hkw7⟩
set_option maxRecDepth 100000 in
set_option maxHeartbeats 4000000 in
theorem fmt_mid (d : Dc) (w : World) (h : decRight d = true) (h0 : d.exp < 0) (h20 : -20 ≤ d.exp) (hn : 0 < (d.digits.size : Int) + d.exp) :
    Calls Tryz.prog 109 #[decV d] w fun e w' => e = .returned (.tuple #[.string (formatM d).1, .int .i64 (formatM d).2]) ∧ Same w w' := by
  obtain ⟨hd1, hd2, hd3⟩ := fmt_bounds d h
  have hdr := fun W => decRight_any d W (by omega)
  rw [h] at hdr
  have hwi := fun W => within_any d.exp 20 W (by decide)
  have hw : within d.exp 20 = true := by first | assumption | (unfold within; simp; omega)
  rw [hw] at hwi
  have hfr := fmt_right d h
  have hfb : formatB d = d.digits.extract 0 ((d.digits.size : Int) + d.exp).toNat ++ ⟨#[46]⟩ ++ d.digits.extract ((d.digits.size : Int) + d.exp).toNat d.digits.size := by
    unfold formatB
    rw [hw]
    simp only [Bool.true_eq_false, if_false]
    rw [if_neg (by omega), if_pos hn]
  rw [hfb] at hfr
  obtain ⟨x1, hx1⟩ : ∃ x1 : ByteArray, d.digits.extract 0 ((d.digits.size : Int) + d.exp).toNat = x1 := ⟨_, rfl⟩
  obtain ⟨x3, hx3⟩ : ∃ x3 : ByteArray, d.digits.extract ((d.digits.size : Int) + d.exp).toNat d.digits.size = x3 := ⟨_, rfl⟩
  have hz1 : x1.size ≤ 100 := by rw [← hx1, ByteArray.size_extract]; omega
  have hz3 : x3.size ≤ 100 := by rw [← hx3, ByteArray.size_extract]; omega
  rw [hx1, hx3] at hfr
  obtain ⟨x2, hx2'⟩ : ∃ x2 : ByteArray, x1 ++ ⟨#[46]⟩ = x2 := ⟨_, rfl⟩
  have hzz : x2.size ≤ 101 := by rw [← hx2', ByteArray.size_append]; show _ + 1 ≤ _; omega
  rw [hx2'] at hfr
  obtain ⟨tx, htx⟩ : ∃ tx : ByteArray, x2 ++ x3 = tx := ⟨_, rfl⟩
  rw [htx] at hfr
  have htz : tx.size ≤ 300 := by rw [← htx, ByteArray.size_append]; omega
  have H1 := Lib.hid hx1
  have H3 := Lib.hid hx3
  have H2 := Lib.hid hx2'
  have HT := Lib.hid htx
  have HR := Lib.hid hfr
  have hdeg : decide ((0 : Int) ≤ d.exp) = false := decide_eq_false (by omega)
  have hgt : decide ((0 : Int) < (d.digits.size : Int) + d.exp) = true := decide_eq_true hn
  have hin : (0 : Int) ≤ (d.digits.size : Int) + d.exp ∧ (d.digits.size : Int) + d.exp ≤ d.digits.size := by omega
  clear hx1 hx3 hx2' htx hfr hfb hw h
  obtain ⟨neg, dg, ex⟩ := d
  simp only at *
  go_enter Tryz.func109, Tryz.ntmps109
  go_wp2_with fail
  refine (hdr _).mono ?_
  rintro e w1 ⟨rfl, hk1⟩
  have hbx1 := hk1.same w.heap.size _ (World.alloc_heap_new w _) trivial
  have hkw1 : Same w w1 := (by repeat (first | with_reducible exact Keep.refl _ _ | with_reducible refine Keep.alloc ?_ _ | with_reducible refine Keep.drew ?_ | with_reducible refine Keep.drewN ?_ _ | with_reducible refine Keep.trans ?_ (by assumption)))
  have hlt1 := lt_of_some hbx1
  have hbx2 := heap_old (o := .cells #[.pointer none, .slice none 0 0] 195) hbx1
  have hB0 : Bld w1.heap.size w1.heap.size [] (w1.alloc (.cells #[.pointer none, .slice none 0 0] 195)) := .inl ⟨Nat.le_refl _, .slice none 0 0, World.alloc_heap_new _ _, World.ownsRow_nil _ _ _ _, by simp [Value.ownBlock]⟩
  have hkw2 : Same w (w1.alloc (.cells #[.pointer none, .slice none 0 0] 195)) := hkw1.alloc _
  have hz2 : w1.heap.size ≤ (w1.alloc (.cells #[.pointer none, .slice none 0 0] 195)).heap.size := by simp
  obtain ⟨bb, hbb⟩ : ∃ bb, w1.heap.size = bb := ⟨_, rfl⟩
  rw [hbb] at hB0 hz2 hlt1
  have hbw : w.heap.size ≤ bb := by have := hkw1.size; omega
  obtain ⟨c0, c1, c2⟩ := cells3 hbx2
  cases neg
  focus
    go_wp2_with fail
    generalize (w1.alloc _) = w3 at hB0 hbx2 hkw2 hz2 c0 c1 c2 ⊢
    have hxl : (sgnN false).length ≤ 1 := by decide
    have hx2 : ∀ x ∈ (sgnN false), x < 256 := by decide
    have hB3 : Bld bb bb (sgnN false) w3 := hB0
    generalize (sgnN false) = xs at hxl hx2 hB3 HR
  rotate_left
  focus
    go_wp2_with fail
    refine (writeByte_any bb bb 45 [] _ hB0 (by decide) hz2).mono ?_
    rintro e w3 ⟨rfl, hB3, hK3⟩
    replace hbx2 := hK3.same _ _ hbx2 ⟨by omega, .inl hlt1⟩
    replace hkw2 : Same w w3 := ⟨hK3.os.trans hkw2.os, hK3.tape.trans hkw2.tape, hK3.output.trans hkw2.output, Nat.le_trans hkw2.size hK3.size, fun b o hb _ => hK3.same b o (hkw2.same b o hb trivial) (by have := lt_of_some hb; exact ⟨by omega, .inl (by omega)⟩)⟩
    replace hz2 := Nat.le_trans hz2 hK3.size
    clear hB0 c0 c1 c2 hK3
    obtain ⟨c0, c1, c2⟩ := cells3 hbx2
    go_wp2_with fail
    have hxl : (sgnN true).length ≤ 1 := by decide
    have hx2 : ∀ x ∈ (sgnN true), x < 256 := by decide
    replace hB3 : Bld bb bb (sgnN true) w3 := hB3
    generalize (sgnN true) = xs at hxl hx2 hB3 HR
  all_goals
    refine (hwi _).mono ?_
    rintro x w4 ⟨rfl, h9⟩
    replace h9 := h9.symm
    subst h9
    go_wp2_with fail
    refine (wpIn_wide (n := 0)).1 ?_
    refine wpIn_region_shut (n := 0) (fun X => X.heap[w.heap.size]? = some _) reads (fun _ => trivial) rfl (by kernel_rfl) (by kernel_rfl) hbx2 ?_
    refine shT_x rfl rfl ?_; intro K hK w' hs; obtain ⟨p0, p1, p2⟩ := cells3 hs; go_simp; refine hK _ _ ?_; clear hK K p0 p1 p2 hs w'
    refine shT_x rfl rfl ?_; intro K hK w' hs; obtain ⟨p0, p1, p2⟩ := cells3 hs; go_simp; refine hK _ _ ?_; clear hK K p0 p1 p2 hs w'
    refine shT_x rfl rfl ?_; intro K hK w' hs; obtain ⟨p0, p1, p2⟩ := cells3 hs; go_simp; refine hK _ _ ?_; clear hK K p0 p1 p2 hs w'
    refine shT_x rfl rfl ?_
    intro K hK w' hs
    go_simp
    rw [H1.out]
    refine hK _ _ ?_
    clear hK K hs w'
    have hcat1 : ¬ 9223372036854775807 < x1.size + 1 := by omega
    refine shT_x rfl rfl ?_
    intro K hK w' hs
    go_simp
    rw [H2.out]
    refine hK _ _ ?_
    clear hK K hs w'
    refine shT_x rfl rfl ?_; intro K hK w' hs; obtain ⟨p0, p1, p2⟩ := cells3 hs; go_simp; refine hK _ _ ?_; clear hK K p0 p1 p2 hs w'
    refine shT_x rfl rfl ?_; intro K hK w' hs; obtain ⟨p0, p1, p2⟩ := cells3 hs; go_simp; refine hK _ _ ?_; clear hK K p0 p1 p2 hs w'
    refine shT_x rfl rfl ?_; intro K hK w' hs; obtain ⟨p0, p1, p2⟩ := cells3 hs; go_simp; refine hK _ _ ?_; clear hK K p0 p1 p2 hs w'
    refine shT_x rfl rfl ?_
    intro K hK w' hs
    go_simp
    rw [H3.out]
    refine hK _ _ ?_
    clear hK K hs w'
    have hcat2 : ¬ 9223372036854775807 < x2.size + x3.size := by omega
    refine shT_x rfl rfl ?_
    intro K hK w' hs
    go_simp
    rw [HT.out]
    refine hK _ _ ?_
    clear hK K hs w'
    have hbx5 : w3.drew.heap[w.heap.size]? = _ := hbx2
    have hkw5 : Same w w3.drew := hkw2.drew
    have hB5 : Bld bb bb xs w3.drew := hB3
    have hz5 : bb ≤ w3.drew.heap.size := hz2
    refine shT_c rfl rfl ?_
    intro K hK
    go_simp
    refine (callsW (writeString_any bb bb tx xs _ hB5 (by omega) hz5)).mono ?_
    rintro x w6 ⟨⟨v6, rfl⟩, hB6, hK6⟩
    have hbx6 := hK6.same _ _ hbx5 ⟨by omega, .inl hlt1⟩
    have hkw6 : Same w w6 := ⟨hK6.os.trans hkw5.os, hK6.tape.trans hkw5.tape, hK6.output.trans hkw5.output, Nat.le_trans hkw5.size hK6.size, fun b o hb _ => hK6.same b o (hkw5.same b o hb trivial) (by have := lt_of_some hb; exact ⟨by omega, .inl (by omega)⟩)⟩
    have hz6 : bb ≤ w6.heap.size := Nat.le_trans hz5 hK6.size
    refine hK _ _ hbx6 ?_
    clear hK K
    refine shT_nil ?_
    go_wp2_with fail
    refine (bldString_any bb bb (xs ++ bytesN tx) w6 hB6 (fun x hx => (List.mem_append.1 hx).elim (hx2 x) (bytesN_lt _ x)) hz6).mono ?_
    rintro x w7 ⟨rfl, hK7⟩
    have hkw7 : Same w w7 := ⟨hK7.os.trans hkw6.os, hK7.tape.trans hkw6.tape, hK7.output.trans hkw6.output, Nat.le_trans hkw6.size hK7.size, fun b o hb _ => hK7.same b o (hkw6.same b o hb trivial) (by have := lt_of_some hb; exact .inl (by omega))⟩
    go_wp2_with fail
    go_ret2
    exact ⟨by rw [HR.out]; rfl, hkw7⟩
end Go.Tm

set_option linter.unusedVariables false
namespace Go.Tm
open Go.RowKit Go.Proofs
set_option maxRecDepth 100000 in
set_option maxHeartbeats 4000000 in
theorem fmt_low (d : Dc) (w : World) (h : decRight d = true) (h0 : d.exp < 0) (h20 : -20 ≤ d.exp) (hn : (d.digits.size : Int) + d.exp ≤ 0) :
    Calls Tryz.prog 109 #[decV d] w fun e w' => e = .returned (.tuple #[.string (formatM d).1, .int .i64 (formatM d).2]) ∧ Same w w' := by
  obtain ⟨hd1, hd2, hd3⟩ := fmt_bounds d h
  have hdr := fun W => decRight_any d W (by omega)
  rw [h] at hdr
  have hwi := fun W => within_any d.exp 20 W (by decide)
  have hw : within d.exp 20 = true := by first | assumption | (unfold within; simp; omega)
  rw [hw] at hwi
  have hfr := fmt_right d h
  have hfb : formatB d = ⟨#[48, 46]⟩ ++ zerosB (-((d.digits.size : Int) + d.exp)) ++ d.digits := by
    unfold formatB
    rw [hw]
    simp only [Bool.true_eq_false, if_false]
    rw [if_neg (by omega), if_neg (by omega)]
  rw [hfb] at hfr
  have hrep := fun W => repeat0_any (-((d.digits.size : Int) + d.exp)) W (by omega) (by omega)
  obtain ⟨zs, hzs⟩ : ∃ zs : ByteArray, zerosB (-((d.digits.size : Int) + d.exp)) = zs := ⟨_, rfl⟩
  have hzl : zs.size ≤ 20 := by
    rw [← hzs]
    show (List.replicate (-((d.digits.size : Int) + d.exp)).toNat (48 : UInt8)).toArray.size ≤ 20
    simp; omega
  have hzs2 : (⟨(List.replicate (-((d.digits.size : Int) + d.exp)).toNat (48 : UInt8)).toArray⟩ : ByteArray) = zs := hzs
  rw [hzs2] at hrep
  rw [hzs] at hfr
  obtain ⟨x2, hx2'⟩ : ∃ x2 : ByteArray, ⟨#[48, 46]⟩ ++ zs = x2 := ⟨_, rfl⟩
  have hzz : x2.size ≤ 22 := by rw [← hx2', ByteArray.size_append]; show 2 + _ ≤ _; omega
  rw [hx2'] at hfr
  obtain ⟨tx, htx⟩ : ∃ tx : ByteArray, x2 ++ d.digits = tx := ⟨_, rfl⟩
  rw [htx] at hfr
  have htz : tx.size ≤ 300 := by rw [← htx, ByteArray.size_append]; omega
  have H2 := Lib.hid hx2'
  have HT := Lib.hid htx
  have HR := Lib.hid hfr
  have hdeg : decide ((0 : Int) ≤ d.exp) = false := decide_eq_false (by omega)
  have hgt : decide ((0 : Int) < (d.digits.size : Int) + d.exp) = false := decide_eq_false (by omega)
  clear hzs hzs2 hx2' htx hfr hfb hw h
  obtain ⟨neg, dg, ex⟩ := d
  simp only at *
  go_enter Tryz.func109, Tryz.ntmps109
  go_wp2_with fail
  refine (hdr _).mono ?_
  rintro e w1 ⟨rfl, hk1⟩
  have hbx1 := hk1.same w.heap.size _ (World.alloc_heap_new w _) trivial
  have hkw1 : Same w w1 := (by repeat (first | with_reducible exact Keep.refl _ _ | with_reducible refine Keep.alloc ?_ _ | with_reducible refine Keep.drew ?_ | with_reducible refine Keep.drewN ?_ _ | with_reducible refine Keep.trans ?_ (by assumption)))
  have hlt1 := lt_of_some hbx1
  have hbx2 := heap_old (o := .cells #[.pointer none, .slice none 0 0] 195) hbx1
  have hB0 : Bld w1.heap.size w1.heap.size [] (w1.alloc (.cells #[.pointer none, .slice none 0 0] 195)) := .inl ⟨Nat.le_refl _, .slice none 0 0, World.alloc_heap_new _ _, World.ownsRow_nil _ _ _ _, by simp [Value.ownBlock]⟩
  have hkw2 : Same w (w1.alloc (.cells #[.pointer none, .slice none 0 0] 195)) := hkw1.alloc _
  have hz2 : w1.heap.size ≤ (w1.alloc (.cells #[.pointer none, .slice none 0 0] 195)).heap.size := by simp
  obtain ⟨bb, hbb⟩ : ∃ bb, w1.heap.size = bb := ⟨_, rfl⟩
  rw [hbb] at hB0 hz2 hlt1
  have hbw : w.heap.size ≤ bb := by have := hkw1.size; omega
  obtain ⟨c0, c1, c2⟩ := cells3 hbx2
  cases neg
  focus
    go_wp2_with fail
    generalize (w1.alloc _) = w3 at hB0 hbx2 hkw2 hz2 c0 c1 c2 ⊢
    have hxl : (sgnN false).length ≤ 1 := by decide
    have hx2 : ∀ x ∈ (sgnN false), x < 256 := by decide
    have hB3 : Bld bb bb (sgnN false) w3 := hB0
    generalize (sgnN false) = xs at hxl hx2 hB3 HR
  rotate_left
  focus
    go_wp2_with fail
    refine (writeByte_any bb bb 45 [] _ hB0 (by decide) hz2).mono ?_
    rintro e w3 ⟨rfl, hB3, hK3⟩
    replace hbx2 := hK3.same _ _ hbx2 ⟨by omega, .inl hlt1⟩
    replace hkw2 : Same w w3 := ⟨hK3.os.trans hkw2.os, hK3.tape.trans hkw2.tape, hK3.output.trans hkw2.output, Nat.le_trans hkw2.size hK3.size, fun b o hb _ => hK3.same b o (hkw2.same b o hb trivial) (by have := lt_of_some hb; exact ⟨by omega, .inl (by omega)⟩)⟩
    replace hz2 := Nat.le_trans hz2 hK3.size
    clear hB0 c0 c1 c2 hK3
    obtain ⟨c0, c1, c2⟩ := cells3 hbx2
    go_wp2_with fail
    have hxl : (sgnN true).length ≤ 1 := by decide
    have hx2 : ∀ x ∈ (sgnN true), x < 256 := by decide
    replace hB3 : Bld bb bb (sgnN true) w3 := hB3
    generalize (sgnN true) = xs at hxl hx2 hB3 HR
  all_goals
    refine (hwi _).mono ?_
    rintro x w4 ⟨rfl, h9⟩
    replace h9 := h9.symm
    subst h9
    go_wp2_with fail
    refine (wpIn_wide (n := 0)).1 ?_
    refine wpIn_region_shut (n := 0) (fun X => X.heap[w.heap.size]? = some _) reads (fun _ => trivial) rfl (by kernel_rfl) (by kernel_rfl) hbx2 ?_
    refine shT_x rfl rfl ?_; intro K hK w' hs; obtain ⟨p0, p1, p2⟩ := cells3 hs; go_simp; refine hK _ _ ?_; clear hK K p0 p1 p2 hs w'
    refine shT_x rfl rfl ?_; intro K hK w' hs; obtain ⟨p0, p1, p2⟩ := cells3 hs; go_simp; refine hK _ _ ?_; clear hK K p0 p1 p2 hs w'
    refine shT_c rfl rfl ?_
    intro K hK
    go_simp
    rw [show IntKind.i64.wrap (-((dg.size : Int) + ex)) = -((dg.size : Int) + ex) from by rw [IntKind.wrap_i64]; omega]
    refine (callsW (hrep _)).mono ?_
    rintro x w5 ⟨rfl, hk5⟩
    have hbx5 := hk5.same _ _ hbx2 trivial
    have hB3d : Bld bb bb xs w3.drew := hB3
    have hB5 := isB_keep hB3d hk5 (fun c f => trivial) (fun g c f _ _ => trivial)
    have hkw5 : Same w w5 := hkw2.drew.trans hk5
    have hz5 : bb ≤ w5.heap.size := Nat.le_trans hz2 hk5.size
    refine hK _ _ hbx5 ?_
    clear hK K
    obtain ⟨f0, f1, f2⟩ := cells3 hbx5
    have hcat1 : ¬ 9223372036854775807 < 2 + zs.size := by omega
    refine shT_x rfl rfl ?_
    intro K hK w' hs
    go_simp
    rw [H2.out]
    refine hK _ _ ?_
    clear hK K hs w'
    refine shT_x rfl rfl ?_; intro K hK w' hs; obtain ⟨p0, p1, p2⟩ := cells3 hs; go_simp; refine hK _ _ ?_; clear hK K p0 p1 p2 hs w'
    refine shT_x rfl rfl ?_; intro K hK w' hs; obtain ⟨p0, p1, p2⟩ := cells3 hs; go_simp; refine hK _ _ ?_; clear hK K p0 p1 p2 hs w'
    have hcat2 : ¬ 9223372036854775807 < x2.size + dg.size := by omega
    refine shT_x rfl rfl ?_
    intro K hK w' hs
    go_simp
    rw [HT.out]
    refine hK _ _ ?_
    clear hK K hs w'
    refine shT_c rfl rfl ?_
    intro K hK
    go_simp
    refine (callsW (writeString_any bb bb tx xs _ hB5 (by omega) hz5)).mono ?_
    rintro x w6 ⟨⟨v6, rfl⟩, hB6, hK6⟩
    have hbx6 := hK6.same _ _ hbx5 ⟨by omega, .inl hlt1⟩
    have hkw6 : Same w w6 := ⟨hK6.os.trans hkw5.os, hK6.tape.trans hkw5.tape, hK6.output.trans hkw5.output, Nat.le_trans hkw5.size hK6.size, fun b o hb _ => hK6.same b o (hkw5.same b o hb trivial) (by have := lt_of_some hb; exact ⟨by omega, .inl (by omega)⟩)⟩
    have hz6 : bb ≤ w6.heap.size := Nat.le_trans hz5 hK6.size
    refine hK _ _ hbx6 ?_
    clear hK K
    refine shT_nil ?_
    go_wp2_with fail
    refine (bldString_any bb bb (xs ++ bytesN tx) w6 hB6 (fun x hx => (List.mem_append.1 hx).elim (hx2 x) (bytesN_lt _ x)) hz6).mono ?_
    rintro x w7 ⟨rfl, hK7⟩
    have hkw7 : Same w w7 := ⟨hK7.os.trans hkw6.os, hK7.tape.trans hkw6.tape, hK7.output.trans hkw6.output, Nat.le_trans hkw6.size hK7.size, fun b o hb _ => hK7.same b o (hkw6.same b o hb trivial) (by have := lt_of_some hb; exact .inl (by omega))⟩
    go_wp2_with fail
    go_ret2
    exact ⟨by rw [HR.out]; rfl, hkw7⟩
end Go.Tm

set_option linter.unusedVariables false
namespace Go.Tm
open Go.RowKit Go.Proofs
theorem format_any {N : Nat} {E : Errs} (d : Dc) (w : World) (hG : Glob N E w) (hs : d.digits.size ≤ 1099511627776) :
    Calls Tryz.prog 109 #[decV d] w fun e w' => e = .returned (.tuple #[.string (formatM d).1, .int .i64 (formatM d).2]) ∧ Same w w' := by
  cases h : decRight d with
  | false => exact fmt_bad d w hs h
  | true =>
    cases hw : within d.exp 20 with
    | false => exact fmt_big d w h hw hG.pow fun W hW => (hG.same hW).pow
    | true =>
      have hb : -20 ≤ d.exp ∧ d.exp ≤ 20 := by
        unfold within at hw
        simp only [Bool.and_eq_true, decide_eq_true_eq] at hw
        exact hw
      by_cases h0 : 0 ≤ d.exp
      · exact format_int d w hs h h0 hb.2
      · by_cases hn : 0 < (d.digits.size : Int) + d.exp
        · exact fmt_mid d w h (by omega) hb.1 hn
        · exact fmt_low d w h (by omega) hb.1 (by omega)
def extX (h : Hd) : Dc × Bool :=
  if h.u ≠ 100 ∨ (parseM h.s).2.2 ≠ 0 ∨ (parseM h.s).2.1.size ≠ 0 then (noDc, false)
  else if (formatM (parseM h.s).1).2 ≠ 0 ∨ (formatM (parseM h.s).1).1 ≠ h.s then (noDc, false)
  else ((parseM h.s).1, true)
theorem parse_right_dec (s : ByteArray) (h : (parseM s).2.2 = 0) : decRight (parseM s).1 = true := by
  unfold parseM at h ⊢
  split at h
  · cases h
  · rename_i h1
    rw [if_neg h1]
    split at h
    · rename_i h2; exact absurd h h2
    · rename_i h2
      rw [if_neg h2]
      have h3 : (makeO s).2 = 0 := Decidable.not_not.1 h2
      unfold makeO at h3 ⊢
      exact makeB_right _ _ _ h3
theorem extX_right (h : Hd) (hx : (extX h).2 = true) : decRight (extX h).1 = true := by
  unfold extX at hx ⊢
  split at hx
  · cases hx
  · rename_i h1
    rw [if_neg h1]
    split at hx
    · cases hx
    · rename_i h2
      rw [if_neg h2]
      exact parse_right_dec _ (Decidable.not_not.1 fun e => h1 (.inr (.inl e)))
theorem ofExt_res (T : Array Value) (W : World) (bx : Nat) (d : Dc) (e : Bool) (h2 : T.getD 2 undef = .pointer (some ⟨bx, 0, none⟩)) (h3 : T.getD 3 undef = .bool e)
    (hrow : W.heap[bx]? = some (.cells #[.bool d.neg, .string d.digits, .int .i64 d.exp] 23 (0, 0))) : (results Tryz.f59 T).run Tryz.prog W = .ok (decB (d, e)) W := by
  have hld := run_loadVar_row (P := Tryz.prog) W bx 23 23 _ (0, 0) _ hrow Tryz.underlying23 rfl (by kernel_rfl)
  rw [results_cell_tmp rfl, h2, h3]
  simp [asAddr, hld, Result.andThen]
set_option maxRecDepth 100000 in
set_option maxHeartbeats 4000000 in
theorem ofExt_any {N : Nat} {E : Errs} (h : Hd) (a : Option Addr) (n cap : Nat) (w : World) (hG : Glob N E w) (hN : N ≤ w.heap.size) (hs : h.s.size ≤ 274877906944) :
    Calls Tryz.prog 59 #[nodeV h (.slice a n cap)] w fun e w' => e = .returned (decB (extX h)) ∧ Same w w' := by
  have hpa := fun W (hW : Same w W) => parse_any h.s W (hG.same hW) (Nat.le_trans hN hW.size) hs
  have hpd := parse_right_dec h.s
  obtain ⟨R, hR⟩ : ∃ R, extX h = R := ⟨_, rfl⟩
  have hr0 : R = if h.u ≠ 100 ∨ (parseM h.s).2.2 ≠ 0 ∨ (parseM h.s).2.1.size ≠ 0 then (noDc, false) else if (formatM (parseM h.s).1).2 ≠ 0 ∨ (formatM (parseM h.s).1).1 ≠ h.s then (noDc, false) else ((parseM h.s).1, true) := hR.symm
  rw [hR]
  clear hR
  obtain ⟨⟨d, rest, er⟩, hpq⟩ : ∃ r, parseM h.s = r := ⟨_, rfl⟩
  rw [hpq] at hpa hpd hr0
  simp only at hpa hpd hr0
  have hfm := fun W (hW : Same w W) (hdd : er = 0) => format_any (N := N) (E := E) d W (hG.same hW) (Nat.le_trans (fmt_bounds d (hpd hdd)).1 (by decide))
  obtain ⟨⟨fs, fe⟩, hfq⟩ : ∃ r, formatM d = r := ⟨_, rfl⟩
  rw [hfq] at hfm hr0
  simp only at hfm hr0
  clear hpq hfq
  have HR := Lib.hid hr0
  clear hr0
  go_enter Tryz.func59, Tryz.ntmps59
  go_wp2_with fail
  refine (hpa _ (by repeat (first | with_reducible exact Keep.refl _ _ | with_reducible refine Keep.alloc ?_ _ | with_reducible refine Keep.drew ?_ | with_reducible refine Keep.drewN ?_ _ | with_reducible refine Keep.trans ?_ (by assumption)))).mono ?_
  rintro x w1 ⟨rfl, hk1⟩
  have hbn1 := hk1.same w.heap.size _ (show _ = some (.cells #[.int .i64 h.kind, .bool h.b, .bool h.d.neg, .string h.d.digits, .int .i64 h.d.exp, .int .u64 (h.u : Int), .int .i64 h.w, .string h.s, .slice a n cap] 27 (0, 0)) from heap_old (World.alloc_heap_new w _)) trivial
  have hbr1 := hk1.same (w.heap.size + 1) _ (show _ = some (.cells #[.bool false, .string ⟨#[]⟩, .int .i64 0] 23 (0, 0)) from heap_new' (by simp)) trivial
  have hkw1 : Same w w1 := (by repeat (first | with_reducible exact Keep.refl _ _ | with_reducible refine Keep.alloc ?_ _ | with_reducible refine Keep.drew ?_ | with_reducible refine Keep.drewN ?_ _ | with_reducible refine Keep.trans ?_ (by assumption)))
  have hbn2 := heap_old (o := .cells #[.bool d.neg, .string d.digits, .int .i64 d.exp] 23) hbn1
  have hbr2 := heap_old (o := .cells #[.bool d.neg, .string d.digits, .int .i64 d.exp] 23) hbr1
  have hbx2 : (w1.alloc (.cells #[.bool d.neg, .string d.digits, .int .i64 d.exp] 23)).heap[w1.heap.size]? = some (.cells #[.bool d.neg, .string d.digits, .int .i64 d.exp] 23 (0, 0)) := World.alloc_heap_new w1 _
  have hkw2 : Same w (w1.alloc (.cells #[.bool d.neg, .string d.digits, .int .i64 d.exp] 23)) := hkw1.trans ((Keep.refl _ _).alloc _)
  obtain ⟨n0, n1, n2, n3, n4, n5, n6, n7, n8⟩ := cells9 hbn2
  obtain ⟨z0, z1, z2⟩ := cells3 hbr2
  obtain ⟨x0, x1, x2⟩ := cells3 hbx2
  obtain ⟨m0, m1, m2, m3, m4, m5, m6, m7, m8⟩ := cells9 hbn1
  have hfz : ∀ j, (w1.alloc (.cells #[.bool d.neg, .string d.digits, .int .i64 d.exp] 23)).frozen? ⟨w.heap.size + 1, j, none⟩ = false := Lib.frozen_of_heap hbr2
  by_cases hu : h.u = 100
  · have k1 : ((h.u : Int) == 100) = true := by simp [hu]
    have nk1 : ((h.u : Int) != 100) = false := by simp [hu]
    by_cases he : er = 0
    · subst he
      by_cases hre : rest.size = 0
      · have k3 : rest.toList = [] := by
          have : rest = ByteArray.empty := by simpa using hre
          rw [this, ByteArray.toList_eq]; rfl
        have HR2 := Lib.hid (show R = if fe ≠ 0 ∨ fs ≠ h.s then (noDc, false) else (d, true) from by rw [HR.out, if_neg (by rintro (e | e | e); exact e hu; exact e rfl; exact e hre)])
        clear hu HR hre hpd hpa
        go_wp2_with fail
        refine (hfm _ hkw2 trivial).mono ?_
        rintro x w4 ⟨rfl, hk4⟩
        have hbn4 := hk4.same _ _ hbn2 trivial
        have hbr4 := hk4.same _ _ hbr2 trivial
        have hbx4 := hk4.same _ _ hbx2 trivial
        have hkw4 := hkw2.trans hk4
        clear n0 n1 n2 n3 n4 n5 n6 n7 n8 z0 z1 z2 x0 x1 x2 m0 m1 m2 m3 m4 m5 m6 m7 m8 hfz hfm hbn2 hbn1 hbr1 hbr2 hbx2 hk4 hkw2
        obtain ⟨n0, n1, n2, n3, n4, n5, n6, n7, n8⟩ := cells9 hbn4
        obtain ⟨z0, z1, z2⟩ := cells3 hbr4
        obtain ⟨x0, x1, x2⟩ := cells3 hbx4
        have hfz : ∀ j, w4.frozen? ⟨w.heap.size + 1, j, none⟩ = false := Lib.frozen_of_heap hbr4
        by_cases hfe : fe = 0
        · subst hfe
          by_cases hfs : fs = h.s
          · have k4 : (fs.toList == h.s.toList) = true := str_eq hfs
            have nk4 : (fs.toList != h.s.toList) = false := by unfold bne; rw [k4]; rfl
            have HR1 := Lib.hid (show R = (d, true) from by rw [HR2.out, if_neg (by rintro (e | e); exact e rfl; exact e hfs)])
            clear hfs HR2
            go_wp2_with fail
            (try simp only [Exit.inBlock, Exit.then])
            obtain ⟨p3, p4⟩ := put3 (x := .bool d.neg) (y := .string d.digits) (z := .int .i64 d.exp) hkw4 hbr4 (by omega)
            exact bodyPost_ret (ofExt_res _ _ (w.heap.size + 1) d true rfl rfl p3) rfl ⟨by rw [HR1.out] <;> rfl, p4⟩
          · have k4 : (fs.toList == h.s.toList) = false := str_ne hfs
            have nk4 : (fs.toList != h.s.toList) = true := by unfold bne; rw [k4]; rfl
            have HR1 := Lib.hid (show R = (noDc, false) from by rw [HR2.out, if_pos (.inr hfs)])
            clear hfs HR2
            go_wp2_with fail; (try simp only [Exit.inBlock, Exit.then]); obtain ⟨p3, p4⟩ := put3 (x := .bool false) (y := .string ⟨#[]⟩) (z := .int .i64 0) hkw4 hbr4 (by omega); exact bodyPost_ret (ofExt_res _ _ (w.heap.size + 1) noDc false rfl rfl p3) rfl ⟨by rw [HR1.out] <;> rfl, p4⟩
        · have k2 : ((fe : Int) == 0) = false := by simpa using hfe
          have nk2 : ((fe : Int) != 0) = true := by simpa using hfe
          have HR1 := Lib.hid (show R = (noDc, false) from by rw [HR2.out, if_pos (.inl hfe)])
          clear hfe HR2
          go_wp2_with fail; (try simp only [Exit.inBlock, Exit.then]); obtain ⟨p3, p4⟩ := put3 (x := .bool false) (y := .string ⟨#[]⟩) (z := .int .i64 0) hkw4 hbr4 (by omega); exact bodyPost_ret (ofExt_res _ _ (w.heap.size + 1) noDc false rfl rfl p3) rfl ⟨by rw [HR1.out] <;> rfl, p4⟩
      · have k3 : (rest.toList == []) = false := beq_eq_false_iff_ne.2 fun e => hre (by rw [ByteArray.toList_eq] at e; show rest.data.size = 0; rw [← Array.length_toList, e]; rfl)
        have nk3 : (rest.toList != []) = true := by unfold bne; rw [k3]; rfl
        have HR1 := Lib.hid (show R = (noDc, false) from by rw [HR.out, if_pos (.inr (.inr hre))])
        clear hu HR hfm hpd hpa hre
        go_wp2_with fail; (try simp only [Exit.inBlock, Exit.then]); obtain ⟨p3, p4⟩ := put3 (x := .bool false) (y := .string ⟨#[]⟩) (z := .int .i64 0) hkw2 hbr2 (by omega); exact bodyPost_ret (ofExt_res _ _ (w.heap.size + 1) noDc false rfl rfl p3) rfl ⟨by rw [HR1.out] <;> rfl, p4⟩
    · have k2 : ((er : Int) == 0) = false := by simpa using he
      have nk2 : ((er : Int) != 0) = true := by simpa using he
      have HR1 := Lib.hid (show R = (noDc, false) from by rw [HR.out, if_pos (.inr (.inl he))])
      clear hu HR hfm hpd hpa he
      go_wp2_with fail; (try simp only [Exit.inBlock, Exit.then]); obtain ⟨p3, p4⟩ := put3 (x := .bool false) (y := .string ⟨#[]⟩) (z := .int .i64 0) hkw2 hbr2 (by omega); exact bodyPost_ret (ofExt_res _ _ (w.heap.size + 1) noDc false rfl rfl p3) rfl ⟨by rw [HR1.out] <;> rfl, p4⟩
  · have k1 : ((h.u : Int) == 100) = false := by simp; omega
    have nk1 : ((h.u : Int) != 100) = true := by simp; omega
    have HR1 := Lib.hid (show R = (noDc, false) from by rw [HR.out, if_pos (.inl hu)])
    clear hu HR hfm hpd hpa
    go_wp2_with fail; (try simp only [Exit.inBlock, Exit.then]); obtain ⟨p3, p4⟩ := put3 (x := .bool false) (y := .string ⟨#[]⟩) (z := .int .i64 0) hkw2 hbr2 (by omega); exact bodyPost_ret (ofExt_res _ _ (w.heap.size + 1) noDc false rfl rfl p3) rfl ⟨by rw [HR1.out] <;> rfl, p4⟩
end Go.Tm

set_option linter.unusedVariables false
namespace Go.Tm
open Go.RowKit Go.Proofs
def okL (f : Int) (l : List Tree) : List Tree := (l.map fewT).filter fun x => decide ((commonM extX x f).2 = 0)
abbrev comL (f : Int) (l : List Tree) : List Tree := l.map fun x => (commonM extX x f).1
theorem okL_succ (f : Int) (l : List Tree) (k : Nat) (h : k < l.length) : okL f (l.take (k + 1)) = if (commonM extX (fewT l[k]) f).2 = 0 then okL f (l.take k) ++ [fewT l[k]] else okL f (l.take k) := by
  unfold okL
  rw [List.take_succ_eq_append_getElem h, List.map_append, List.filter_append]
  by_cases h0 : (commonM extX (fewT l[k]) f).2 = 0
  · rw [if_pos h0]; simp [h0]
  · rw [if_neg h0]; simp [h0]
theorem okL_len (f : Int) (l : List Tree) (k : Nat) : (okL f (l.take k)).length ≤ k := by
  unfold okL
  refine Nat.le_trans (List.length_filter_le _ _) ?_
  rw [List.length_map, List.length_take]; omega
theorem okL_mem {f : Int} {l : List Tree} {x : Tree} (h : x ∈ okL f l) : (∃ t ∈ l, x = fewT t) ∧ (commonM extX x f).2 = 0 := by
  unfold okL at h
  rw [List.mem_filter, List.mem_map] at h
  obtain ⟨⟨t, ht, rfl⟩, h0⟩ := h
  exact ⟨⟨t, ht, rfl⟩, of_decide_eq_true h0⟩
theorem cut_count : ∀ (d : Nat) (t : Tree), (t.cut d).count ≤ t.count
  | 0, t => by rw [Tree.cut, leaf_count]; exact count_pos t
  | d + 1, .node h l => by
    rw [Tree.cut, Tree.count, Tree.count]
    have : ∀ m : List Tree, countL (m.map (Tree.cut d)) ≤ countL m := fun m => by
      induction m with
      | nil => exact Nat.le_refl _
      | cons x m ih => rw [List.map_cons, countL, countL]; have := cut_count d x; omega
    have h2 : ∀ (k : Nat) (m : List Tree), countL (m.take k) ≤ countL m := fun k m => by
      conv => rhs; rw [← List.take_append_drop k m]
      rw [countL_append]; omega
    have h3 := this (l.take 40)
    have h4 := h2 40 l
    rw [Tree.l_node]
    omega
theorem few_count (t : Tree) : (fewT t).count ≤ t.count := by
  unfold fewT
  split
  · rw [leaf_count]; exact count_pos t
  · exact cut_count 17 t
theorem okL_count (f : Int) : ∀ l : List Tree, countL (okL f l) ≤ countL l
  | [] => Nat.le_refl _
  | t :: l => by
    have h1 := okL_count f l
    have h2 := few_count t
    unfold okL at h1 ⊢
    rw [List.map_cons, List.filter_cons, countL]
    split
    · rw [countL]; omega
    · omega
structure AInv (w : World) (N : Nat) (l : List Tree) (f : Int) (k : Nat) (nv wv : Value) (A : World) : Prop where
  own1 : OwnL (fun b => b ≠ N ∧ b ≠ N + 1 ∧ wv.ownBlock ≠ some b) A (N + 2) nv (okL f (l.take k))
  own2 : OwnL (fun b => b ≠ N ∧ b ≠ N + 1 ∧ nv.ownBlock ≠ some b) A (N + 2) wv (comL f (okL f (l.take k)))
  ap : ∀ g, nv.ownBlock = some g → wv.ownBlock ≠ some g
  hn : A.heap[N]? = some (.cells #[.int .i64 7, .bool false, .bool false, .string ⟨#[]⟩, .int .i64 0, .int .u64 0, .int .i64 0, .string ⟨#[]⟩, nv] 27 (0, 0))
  hm : A.heap[N + 1]? = some (.cells #[.int .i64 7, .bool false, .bool false, .string ⟨#[]⟩, .int .i64 0, .int .u64 0, .int .i64 0, .string ⟨#[]⟩, wv] 27 (0, 0))
  fr : Same w A
  sz : N + 2 ≤ A.heap.size
theorem AInv.same {w : World} {N : Nat} {l : List Tree} {f : Int} {k : Nat} {nv wv : Value} {A B : World} (h : AInv w N l f k nv wv A) (hk : Same A B) : AInv w N l f k nv wv B :=
  ⟨h.own1.same hk, h.own2.same hk, h.ap, hk.same _ _ h.hn trivial, hk.same _ _ h.hm trivial, h.fr.trans hk, Nat.le_trans h.sz hk.size⟩
theorem beside {W w6 : World} {N B : Nat} {v v' u : Value} {o : Obj} {M : List Tree} (own2 : OwnL (fun b => b ≠ N ∧ b ≠ N + 1 ∧ v.ownBlock ≠ some b) W B u M) (hap : ∀ g, v.ownBlock = some g → u.ownBlock ≠ some g)
    (hg : (W.alloc o).grownBy w6 v.ownBlock) (hw : v'.ownBlock = v.ownBlock ∨ v'.ownBlock = some (W.heap.size + 1)) :
    OwnL (fun b => b ≠ N ∧ b ≠ N + 1 ∧ v'.ownBlock ≠ some b) w6 B u M ∧ (∀ g, v'.ownBlock = some g → u.ownBlock ≠ some g) ∧ Keep (fun b _ => v.ownBlock ≠ some b) W w6 := by
  have hk : Keep (fun b _ => v.ownBlock ≠ some b) W w6 := ((Keep.refl _ W).alloc o).grown hg fun r hr o _ hs _ => hs hr
  have hne : ∀ b, b < W.heap.size → v.ownBlock ≠ some b → v'.ownBlock ≠ some b := fun b hb h => by
    rcases hw with e | e
    · rw [e]; exact h
    · rw [e]; intro e2; cases e2; omega
  have h2 : OwnL (fun b => (b ≠ N ∧ b ≠ N + 1 ∧ v'.ownBlock ≠ some b) ∧ v.ownBlock ≠ some b) W B u M := own2.monoS fun b hb h => ⟨⟨h.1, h.2.1, hne b hb h.2.2⟩, h.2.2⟩
  refine ⟨(h2.keep2 hk (fun b hb _ _ => hb.2) fun g hg2 _ _ e => hap g e hg2).monoS fun b _ h => h.1, fun g hg2 e => ?_, hk⟩
  have hlt := (own2.own_ge e).2
  exact hne g hlt (fun e2 => hap g e2 e) hg2
theorem box_set {S : Nat → Prop} {w : World} {B x : Nat} {u z : Value} {M : List Tree} (h : OwnL S w B u M) (hS : ∀ b, S b → b ≠ x) (hx : x < B) : OwnL S (w.setCell ⟨x, 8, none⟩ z) B u M :=
  h.keep (K := fun b _ => b ≠ x) ((Keep.refl _ w).setCell _ fun o _ hs _ => hs rfl) fun b hb _ _ => by
    rcases hb with hb | hb
    · exact hS b hb
    · omega
theorem ext_allA {N : Nat} {E : Errs} {t : Tree} {f : Int} (h : checkT t f = 0) : ∀ x ∈ t.flat, ExtC extX N E x := fun x hx h11 W lv hG hN hr => by
  obtain ⟨a, c, rfl⟩ := hr.is_slice
  exact ofExt_any x.hd a _ c W hG hN (Nat.le_trans (own_s ((checkT_all h).2.2 x hx).1) (by decide))
set_option maxRecDepth 100000 in
set_option maxHeartbeats 8000000 in
theorem ProjArrays.walk_any {E : Errs} (l : List Tree) (f : Int) (lv : Value) (w : World) (hG : Glob w.heap.size E w) (hrep : ∃ a cap, lv = .slice a l.length cap ∧ l.length ≤ 9223372036854775807 ∧ RepWL w a 0 l) (hc : countL l ≤ 1152921504606846976) :
    Calls Tryz.prog 5 #[lv, .int .i64 f] w fun e w' => e = .returned (.bool true) ∧ Same w w' := by
  obtain ⟨a, cap, rfl, hlen, hL⟩ := hrep
  have hsh := fun (W : World) (hk : Same w W) => shown_any (X := extX) extX_right (N := w.heap.size) (E := E) W (hG.same hk) hk.size
  have hsuc := okL_succ f l
  have hget := fun k hk => repWL_get hL k hk
  have hlenk := okL_len f l
  obtain ⟨n, hn⟩ : ∃ n, l.length = n := ⟨_, rfl⟩
  rw [hn] at hlen ⊢
  go_enter Tryz.func5, Tryz.ntmps5
  go_wp2_with fail
  refine (hsh _ (Keep.refl _ _)).mono ?_
  rintro e w1 ⟨rfl, hk1⟩
  clear hsh
  by_cases hf : 1 ≤ f ∧ f ≤ 4
  · have hf1 : ¬ (f < 1) := by omega
    have hf2 : ¬ (4 < f) := by omega
    have hI0 : AInv w w1.heap.size l f 0 (.slice none 0 0) (.slice none 0 0) ((w1.alloc (.cells #[.int .i64 7, .bool false, .bool false, .string ⟨#[]⟩, .int .i64 0, .int .u64 0, .int .i64 0, .string ⟨#[]⟩, .slice none 0 0] 27)).alloc (.cells #[.int .i64 7, .bool false, .bool false, .string ⟨#[]⟩, .int .i64 0, .int .u64 0, .int .i64 0, .string ⟨#[]⟩, .slice none 0 0] 27)) :=
      ⟨OwnL.nil _ _ _, OwnL.nil _ _ _, (fun g hg => by cases hg), heap_old (World.alloc_heap_new w1 _), heap_new' (by simp), hk1.trans (by repeat (first | with_reducible exact Keep.refl _ _ | with_reducible refine Keep.alloc ?_ _ | with_reducible refine Keep.drew ?_ | with_reducible refine Keep.drewN ?_ _ | with_reducible refine Keep.trans ?_ (by assumption))), by simp⟩
    have hwz := hk1.size
    go_wp2_with fail
    generalize ((w1.alloc (.cells #[.int .i64 7, .bool false, .bool false, .string ⟨#[]⟩, .int .i64 0, .int .u64 0, .int .i64 0, .string ⟨#[]⟩, .slice none 0 0] 27)).alloc (.cells #[.int .i64 7, .bool false, .bool false, .string ⟨#[]⟩, .int .i64 0, .int .u64 0, .int .i64 0, .string ⟨#[]⟩, .slice none 0 0] 27)) = W1 at hI0 ⊢
    obtain ⟨N, hN⟩ : ∃ N, w1.heap.size = N := ⟨_, rfl⟩
    rw [hN] at hI0 hwz ⊢
    clear hN hk1
    have hN5 : ∀ k : Nat, (k : Int) < (n : Int) ↔ k < n := fun k => by omega
    go_loopw [8] (fun iv wr => ∃ (k : Nat) (nv wv : Value), k ≤ n ∧ k ≤ 5 ∧ iv = .int .i64 (k : Int) ∧ AInv w N l f k nv wv wr) (fun iv _ => n - (RowKit.intOf iv).toNat)
    case atStart => exact ⟨0, _, _, Nat.zero_le _, by omega, rfl, hI0⟩
    case round =>
      obtain ⟨k, nv, wv, hkn, hk5, rfl, hI⟩ := hrel
      by_cases hlt : k < n ∧ k < 5
      · obtain ⟨hl1, hl2⟩ := hlt
        have i1 : (k : Int) < (n : Int) := by omega
        have i2 : (k : Int) < 5 := by omega
        obtain ⟨b, off, xlv, hab, hra, hxr⟩ := hget k (by omega)
        subst hab
        rw [Nat.zero_add] at hra
        have hra2 := rangeAt_same hI.fr hra
        have hsk := hsuc k (by omega)
        have hfew := fun W (hs : Same w W) => few_any l[k] xlv W (hxr.same hs)
        obtain ⟨hxo, xa0, xc0, rfl, _, _⟩ := repW_node hxr
        have fok := few_ok hxo
        have fde := few_depth l[k]
        have fle := few_lens l[k]
        have fhd := few_hd l[k]
        obtain ⟨h0, hh0⟩ : ∃ h, (l[k]).hd = h := ⟨_, rfl⟩
        obtain ⟨x0, hx0⟩ : ∃ n, (l[k]).l.length = n := ⟨_, rfl⟩
        obtain ⟨T, hT⟩ : ∃ T, fewT l[k] = T := ⟨_, rfl⟩
        rw [hT] at hsk hfew fok fde fle fhd
        rw [hh0, hx0] at hfew hra2
        rw [hh0] at fhd
        rw [← fhd] at hfew
        obtain ⟨q, xl⟩ := T
        simp only [Tree.hd_node, Tree.l_node] at hfew fok
        have HSK := Lib.hid hsk
        have hIz := hI.sz
        clear hsk hra hxr hxo hT fhd hh0 hx0
        obtain ⟨c0, c1, c2, c3, c4, c5, c6, c7, c8⟩ := nodeAt_of hra2
        go_wp2_with fail
        refine (hfew _ hI.fr).mono ?_
        rintro e w2 ⟨xlv2, rfl, hr2, hk2⟩
        obtain ⟨xa, xc, rfl⟩ := hr2.is_slice
        have hI3 := (hI.same hk2).same (show Same w2 (w2.alloc (.cells #[.int .i64 q.kind, .bool q.b, .bool q.d.neg, .string q.d.digits, .int .i64 q.d.exp, .int .u64 (q.u : Int), .int .i64 q.w, .string q.s, .slice xa xl.length xc] 27)) from (Keep.refl _ _).alloc _)
        have hr3 := hr2.same (show Same w2 (w2.alloc (.cells #[.int .i64 q.kind, .bool q.b, .bool q.d.neg, .string q.d.digits, .int .i64 q.d.exp, .int .u64 (q.u : Int), .int .i64 q.w, .string q.s, .slice xa xl.length xc] 27)) from (Keep.refl _ _).alloc _)
        have hx3 : (w2.alloc (.cells #[.int .i64 q.kind, .bool q.b, .bool q.d.neg, .string q.d.digits, .int .i64 q.d.exp, .int .u64 (q.u : Int), .int .i64 q.w, .string q.s, .slice xa xl.length xc] 27)).heap[w2.heap.size]? = some (.cells #[.int .i64 q.kind, .bool q.b, .bool q.d.neg, .string q.d.digits, .int .i64 q.d.exp, .int .u64 (q.u : Int), .int .i64 q.w, .string q.s, .slice xa xl.length xc] 27 (0, 0)) := World.alloc_heap_new w2 _
        have hz3 : wr.heap.size ≤ w2.heap.size := hk2.size
        clear hra2 hfew hr2 c0 c1 c2 c3 c4 c5 c6 c7 c8
        obtain ⟨c0, c1, c2, c3, c4, c5, c6, c7, c8⟩ := cells9 hx3
        go_wp2_with fail
        generalize (w2.alloc (.cells #[.int .i64 q.kind, .bool q.b, .bool q.d.neg, .string q.d.digits, .int .i64 q.d.exp, .int .u64 (q.u : Int), .int .i64 q.w, .string q.s, .slice xa xl.length xc] 27)) = w3 at hI3 hr3 hx3 c0 c1 c2 c3 c4 c5 c6 c7 c8 ⊢
        obtain ⟨X0, hX0⟩ : ∃ X0, w2.heap.size = X0 := ⟨_, rfl⟩
        rw [hX0] at hx3 hz3 c0 c1 c2 c3 c4 c5 c6 c7 c8 ⊢
        have hz33 : X0 < w3.heap.size := lt_of_some hx3
        have hcA := common_any extX_right (.node q xl) f (fun b => wr.heap.size ≤ b) (.slice xa xl.length xc) w3 (hG.same hI3.fr) hI3.fr.size (by omega) fok hr3 (fun b hb => by have := lt_of_some hx3; omega) fle (fun h => ext_allA h)
        obtain ⟨⟨ch, cl⟩, e1, hA⟩ : ∃ t e, commonM extX (.node q xl) f = (t, e) := ⟨_, _, rfl⟩
        have HA := Lib.hid hA
        rw [hA] at hcA
        unfold OutC at hcA
        simp only [Tree.hd_node, Tree.l_node] at hcA
        clear hA fde fle
        refine hcA.mono ?_
        rintro e w4 ⟨clv, rfl, hokc, hrc, hk4⟩
        obtain ⟨ca, cc, rfl⟩ := hrc.is_slice
        have hs45 : Same w4 (w4.alloc (.cells #[.int .i64 ch.kind, .bool ch.b, .bool ch.d.neg, .string ch.d.digits, .int .i64 ch.d.exp, .int .u64 (ch.u : Int), .int .i64 ch.w, .string ch.s, .slice ca cl.length cc] 27)) := (Keep.refl _ _).alloc _
        have hI5 := (hI3.same hk4).same hs45
        have hr5 := (hr3.same hk4).same hs45
        have hrc5 := hrc.same hs45
        have hx5 := hs45.same _ _ (hk4.same _ _ hx3 trivial) trivial
        have hc5 : (w4.alloc (.cells #[.int .i64 ch.kind, .bool ch.b, .bool ch.d.neg, .string ch.d.digits, .int .i64 ch.d.exp, .int .u64 (ch.u : Int), .int .i64 ch.w, .string ch.s, .slice ca cl.length cc] 27)).heap[w4.heap.size]? = some (.cells #[.int .i64 ch.kind, .bool ch.b, .bool ch.d.neg, .string ch.d.digits, .int .i64 ch.d.exp, .int .u64 (ch.u : Int), .int .i64 ch.w, .string ch.s, .slice ca cl.length cc] 27 (0, 0)) := World.alloc_heap_new w4 _
        have hz4 := hk4.size
        clear c0 c1 c2 c3 c4 c5 c6 c7 c8 hcA hr3 hrc hx3 hI3 hs45 hk4 hk2
        by_cases he : e1 = 0
        · subst he
          have hsk1 : okL f (l.take (k + 1)) = okL f (l.take k) ++ [.node q xl] := by rw [HSK.out, HA.out]; rfl
          have hcm : (commonM extX (.node q xl) f).1 = .node ch cl := by rw [HA.out]
          have HK := Lib.hid hsk1
          have HM := Lib.hid hcm
          clear hsk1 hcm HSK
          have hlk := hlenk k
          obtain ⟨XS, hXS⟩ : ∃ XS, okL f (l.take k) = XS := ⟨_, rfl⟩
          have own1 := hI5.own1
          have own2 := hI5.own2
          rw [hXS] at own1 own2 HK hlk
          obtain ⟨na, nc, rfl⟩ := own1.is_slice
          obtain ⟨wa, wc, rfl⟩ := own2.is_slice
          have hml : (comL f XS).length = XS.length := List.length_map _
          rw [hml] at hI5 own1 own2 hI
          have o1lt : ∀ b : Nat, wr.heap.size ≤ b → (Value.slice na XS.length nc).ownBlock ≠ some b := fun b hb e => by have := (hI.own1.own_ge e).2; omega
          have o2lt : ∀ b : Nat, wr.heap.size ≤ b → (Value.slice wa XS.length wc).ownBlock ≠ some b := fun b hb e => by have := (hI.own2.own_ge e).2; omega
          obtain ⟨m, hm⟩ : ∃ m, XS.length = m := ⟨_, rfl⟩
          rw [hm] at hI5 own1 own2 o1lt o2lt hlk
          have hap := hI5.ap
          obtain ⟨n0, n1, n2, n3, n4, n5, n6, n7, n8⟩ := cells9 hI5.hn
          obtain ⟨c0, c1, c2, c3, c4, c5, c6, c7, c8⟩ := cells9 hx5
          have hsz5 := hI5.sz
          have hz5 : (w4.alloc (.cells #[.int .i64 ch.kind, .bool ch.b, .bool ch.d.neg, .string ch.d.digits, .int .i64 ch.d.exp, .int .u64 (ch.u : Int), .int .i64 ch.w, .string ch.s, .slice ca cl.length cc] 27)).heap.size = w4.heap.size + 1 := by simp
          clear hI hXS
          go_wp2_with (at_builtin; refine wpList_append_trees' (v := .slice na m nc) (ts := [.node q xl]) (news := nodeCs q (.slice xa xl.length xc)) rfl _ _ rfl rfl rfl (own1.same ((Keep.refl _ _).alloc _)) rfl ?d2 ?d3 ?d6 ?d4 ?d5 ?_)
          case d2 => exact repL_one (rep_node.2 ⟨fok, _, rfl, (hr5.mono (S' := fun b => (b ≠ N ∧ b ≠ N + 1 ∧ (Value.slice wa m wc).ownBlock ≠ some b) ∧ (Value.slice na m nc).ownBlock ≠ some b) fun b hb (hh : wr.heap.size ≤ b) => ⟨⟨by omega, by omega, o2lt b hh⟩, o1lt b hh⟩).same ((Keep.refl _ _).alloc _)⟩)
          case d3 => intro j u hj; have := cells_new (w4.alloc (.cells #[.int .i64 ch.kind, .bool ch.b, .bool ch.d.neg, .string ch.d.digits, .int .i64 ch.d.exp, .int .u64 (ch.u : Int), .int .i64 ch.w, .string ch.s, .slice ca cl.length cc] 27)) (nodeCs q (.slice xa xl.length xc)).toArray 27 j u hj; rw [hz5] at this; exact this
          case d6 => exact node_one _ _ _ _
          case d4 => simp only [List.length_cons, List.length_nil]; omega
          case d5 => simp; omega
          intro v6 w6 hown6 hg6 hwh6
          obtain ⟨na6, nc6, rfl⟩ := hown6.is_slice
          have hx1 : (XS ++ [Tree.node q xl]).length = m + 1 := by rw [List.length_append, hm]; rfl
          rw [hx1] at hown6 hwh6 ⊢
          obtain ⟨own26, hap6, hk56⟩ := beside (v' := .slice na6 (m + 1) nc6) own2 hap hg6 (by rw [hz5]; exact hwh6)
          have hsm6 : Same w w6 := same_grown (hI5.fr.alloc _) (by omega) (own1.same ((Keep.refl _ _).alloc _)) hg6
          have hn6 := hk56.same _ _ hI5.hn (own1.apart (by omega))
          have hm6 := hk56.same _ _ hI5.hm (own1.apart (by omega))
          have hx6 := hk56.same _ _ hx5 (o1lt _ (by omega))
          have hc6 := hk56.same _ _ hc5 (o1lt _ (by omega))
          have hrc6 := (hrc5.mono (S' := fun b => wr.heap.size ≤ b ∧ b < w4.heap.size + 1) fun b hb hh => ⟨hh, by rw [hz5] at hb; exact hb⟩).keep hk56 fun b hb _ _ => o1lt b hb.1
          have hcw : ∀ b, wr.heap.size ≤ b → b < w4.heap.size + 1 → (Value.slice na6 (m + 1) nc6).ownBlock ≠ some b := fun b h1 h2 e => by
            rcases hwh6 with e2 | e2
            · rw [e2] at e; exact o1lt b h1 e
            · rw [e2] at e; cases e; omega
          have hz6 := hk56.size
          clear own1 own2 hap hg6 hwh6 hk56 hI5 hx5 hc5 hrc5 hr5 n0 n1 n2 n3 n4 n5 n6 n7 n8 c0 c1 c2 c3 c4 c5 c6 c7 c8
          obtain ⟨n0, n1, n2, n3, n4, n5, n6, n7, n8⟩ := cells9 hn6
          have hfz : w6.frozen? ⟨N, 8, none⟩ = false := Lib.frozen_of_heap hn6 8
          have hn7 := setCell_heap hn6 8 (.slice na6 (m + 1) nc6)
          have hk67 : Keep (fun b _ => b ≠ N) w6 (w6.setCell ⟨N, 8, none⟩ (.slice na6 (m + 1) nc6)) := (Keep.refl _ w6).setCell _ fun o _ hs _ => hs rfl
          have hm7 := hk67.same _ _ hm6 (by omega)
          have hc7 := hk67.same _ _ hc6 (by omega)
          have own17 := box_set (z := .slice na6 (m + 1) nc6) hown6 (fun b hb => hb.1) (by omega : N < N + 2)
          have own27 := box_set (z := .slice na6 (m + 1) nc6) own26 (fun b hb => hb.1) (by omega : N < N + 2)
          have hrc7 := hrc6.keep hk67 fun b hb _ _ => (by have := hb.1; omega : b ≠ N)
          have hsm7 : Same w (w6.setCell ⟨N, 8, none⟩ (.slice na6 (m + 1) nc6)) := ⟨hk67.os.trans hsm6.os, hk67.tape.trans hsm6.tape, hk67.output.trans hsm6.output, Nat.le_trans hsm6.size hk67.size, fun y o hy _ => hk67.same y o (hsm6.same y o hy trivial) (by have := lt_of_some hy; omega)⟩
          have hz7 := hk67.size
          obtain ⟨m0, m1, m2, m3, m4, m5, m6, m7, m8⟩ := cells9 hm7
          obtain ⟨c0, c1, c2, c3, c4, c5, c6, c7, c8⟩ := cells9 hc7
          have o17lt : ∀ b : Nat, w6.heap.size ≤ b → (Value.slice na6 (m + 1) nc6).ownBlock ≠ some b := fun b hb e => by have := (hown6.own_ge e).2; omega
          have hz7e : (w6.setCell ⟨N, 8, none⟩ (.slice na6 (m + 1) nc6)).heap.size = w6.heap.size := by simp [World.setCell]
          go_wp2_with (at_builtin; refine wpList_append_trees' (v := .slice wa m wc) (ts := [.node ch cl]) (news := nodeCs ch (.slice ca cl.length cc)) rfl _ _ rfl rfl rfl (own27.same ((Keep.refl _ _).alloc _)) (by rfl) ?d2 ?d3 ?d6 ?d4 ?d5 ?_)
          case d2 => exact repL_one (rep_node.2 ⟨hokc, _, rfl, (hrc7.mono (S' := fun b => (b ≠ N ∧ b ≠ N + 1 ∧ (Value.slice na6 (m + 1) nc6).ownBlock ≠ some b) ∧ (Value.slice wa m wc).ownBlock ≠ some b) fun b hb hh => ⟨⟨by have := hh.1; omega, by have := hh.1; omega, hcw b hh.1 hh.2⟩, o2lt b hh.1⟩).same ((Keep.refl _ _).alloc _)⟩)
          case d3 => intro j u hj; have := cells_new (w6.setCell ⟨N, 8, none⟩ (.slice na6 (m + 1) nc6)) (nodeCs ch (.slice ca cl.length cc)).toArray 27 j u hj; rw [hz7e] at this; exact this
          case d6 => exact node_one _ _ _ _
          case d4 => simp only [List.length_cons, List.length_nil]; omega
          case d5 => simp; omega
          intro v9 w9 hown9 hg9 hwh9
          obtain ⟨wa9, wc9, rfl⟩ := hown9.is_slice
          have hx2 : (comL f XS ++ [Tree.node ch cl]).length = m + 1 := by rw [List.length_append, hml, hm]; rfl
          rw [hx2] at hown9 hwh9 ⊢
          obtain ⟨own19, hap9, hk79⟩ := beside (v' := .slice wa9 (m + 1) wc9) own17 (fun g h1 h2 => hap6 g h2 h1) hg9 (by rw [hz7e]; simpa using hwh9)
          have hsm9 : Same w w9 := same_grown (hsm7.alloc _) (by omega) (own27.same ((Keep.refl _ _).alloc _)) hg9
          have hn9 := hk79.same _ _ hn7 (own27.apart (by omega))
          have hm9 := hk79.same _ _ hm7 (own27.apart (by omega))
          have hz9 := hk79.size
          clear own17 own27 hap6 hg9 hwh9 hk79 hn7 hm7 hc7 hrc7 n0 n1 n2 n3 n4 n5 n6 n7 n8 c0 c1 c2 c3 c4 c5 c6 c7 c8 m0 m1 m2 m3 m4 m5 m6 m7 m8 hfz
          generalize (w6.setCell ⟨N, 8, none⟩ (.slice na6 (m + 1) nc6)) = w7 at *
          obtain ⟨m0, m1, m2, m3, m4, m5, m6, m7, m8⟩ := cells9 hm9
          have hfz : w9.frozen? ⟨N + 1, 8, none⟩ = false := Lib.frozen_of_heap hm9 8
          have hmA := setCell_heap hm9 8 (.slice wa9 (m + 1) wc9)
          have hk9A : Keep (fun b _ => b ≠ N + 1) w9 (w9.setCell ⟨N + 1, 8, none⟩ (.slice wa9 (m + 1) wc9)) := (Keep.refl _ w9).setCell _ fun o _ hs _ => hs rfl
          have hnA := hk9A.same _ _ hn9 (by omega)
          have own1A := box_set (z := .slice wa9 (m + 1) wc9) own19 (fun b hb => hb.2.1) (by omega : N + 1 < N + 2)
          have own2A := box_set (z := .slice wa9 (m + 1) wc9) hown9 (fun b hb => hb.2.1) (by omega : N + 1 < N + 2)
          have hsmA : Same w (w9.setCell ⟨N + 1, 8, none⟩ (.slice wa9 (m + 1) wc9)) := ⟨hk9A.os.trans hsm9.os, hk9A.tape.trans hsm9.tape, hk9A.output.trans hsm9.output, Nat.le_trans hsm9.size hk9A.size, fun y o hy _ => hk9A.same y o (hsm9.same y o hy trivial) (by have := lt_of_some hy; omega)⟩
          have hzA := hk9A.size
          go_wp2_with fail
          refine ⟨⟨k + 1, .slice na6 (m + 1) nc6, .slice wa9 (m + 1) wc9, by omega, by omega, by push_cast; rfl, ?_⟩, by simp [RowKit.intOf]; omega⟩
          refine ⟨by rw [HK.out]; exact own1A, ?_, fun g h1 h2 => hap9 g h2 h1, hnA, hmA, hsmA, by omega⟩
          rw [HK.out]
          have : comL f (XS ++ [Tree.node q xl]) = comL f XS ++ [Tree.node ch cl] := by rw [comL, List.map_append, List.map_cons, List.map_nil, HM.out]
          rw [this]
          exact own2A
        · have heb : ((e1 : Int) == 0) = false := by simpa using he
          have hsk1 : okL f (l.take (k + 1)) = okL f (l.take k) := by rw [HSK.out, HA.out, if_neg he]
          have HK := Lib.hid hsk1
          clear hsk1 HSK HA
          go_wp2_with fail
          refine ⟨⟨k + 1, nv, wv, by omega, by omega, by push_cast; rfl, ?_⟩, by simp [RowKit.intOf]; omega⟩
          exact ⟨by rw [HK.out]; exact hI5.own1, by rw [HK.out]; exact hI5.own2, hI5.ap, hI5.hn, hI5.hm, hI5.fr, hI5.sz⟩
      · have hkind : (k : Int) = (n : Int) ∨ (k : Int) = 5 := by omega
        have hcnt : countL (okL f (l.take k)) ≤ 1152921504606846976 := by
          have h1 := okL_count f (l.take k)
          have h2 : countL (l.take k) ≤ countL l := by
            conv => rhs; rw [← List.take_append_drop k l]
            rw [countL_append]; omega
          omega
        have hmem := fun x hx => okL_mem (f := f) (l := l.take k) (x := x) hx
        have hlaw := arrays_law extX (okL f (l.take k)) f hf hcnt fun x hx => (hmem x hx).2
        have hlk := hlenk k
        have own1 := hI.own1
        have own2 := hI.own2
        have hdep : (arrT (okL f (l.take k))).depth ≤ 19 := by
          rw [arrT, Tree.depth]
          have : depthL (okL f (l.take k)) ≤ 18 := depthL_all fun x hx => by
            obtain ⟨⟨t, _, rfl⟩, _⟩ := hmem x hx
            exact few_depth t
          omega
        have hlens : ∀ x ∈ (arrT (okL f (l.take k))).flat, x.l.length ≤ 40 := fun x hx => by
          rw [arr_flat] at hx
          rcases List.mem_cons.1 hx with rfl | hx
          · show (okL f (l.take k)).length ≤ 40; omega
          · obtain ⟨y, hy, hxy⟩ := mem_flatL.1 hx
            obtain ⟨⟨t, _, rfl⟩, _⟩ := hmem y hy
            exact few_lens t x hxy
        obtain ⟨XS, hXS⟩ : ∃ XS, okL f (l.take k) = XS := ⟨_, rfl⟩
        rw [hXS] at own1 own2 hlaw hdep hlens hlk
        have hml : (comL f XS).length = XS.length := List.length_map _
        obtain ⟨na, nc, rfl⟩ := own1.is_slice
        obtain ⟨wa, wc, rfl⟩ := own2.is_slice
        rw [hml] at hI own2
        have hr1 := (own1.monoS (S' := AnyB) fun _ _ _ => trivial).rep (fun _ _ => trivial) (by omega)
        have hr2 := (own2.monoS (S' := AnyB) fun _ _ _ => trivial).rep (fun _ _ => trivial) (by omega)
        have hcA := common_any extX_right (arrT XS) f AnyB (.slice na XS.length nc) wr (hG.same hI.fr) hI.fr.size (by omega) (bare_ok 7 (by decide)) hr1 (fun _ _ => trivial) hlens (fun h => ext_allA h)
        have hcnt2 := fun W (hs : Same wr W) => refCount_any (arrT XS) AnyB (.slice na XS.length nc) W (hr1.same hs)
        have hdep2 := fun W (hs : Same wr W) => refDepth_any (arrT XS) AnyB (.slice na XS.length nc) W (by omega) (hr1.same hs)
        have hsame := fun W lv' h1 (hs : Same wr W) => refSame_any (arrT (comL f XS)) (arrT (comL f XS)) AnyB lv' (.slice wa XS.length wc) W h1 (hr2.same hs)
        rw [(same_iff _ _).2 rfl] at hsame
        have hx : ¬ ((k : Int) < (n : Int)) ∨ ((k : Int) < (n : Int) ∧ ¬ ((k : Int) < 5)) := by omega
        obtain ⟨n0, n1, n2, n3, n4, n5, n6, n7, n8⟩ := cells9 hI.hn
        have hn0 := hI.hn
        have hm0 := hI.hm
        have hfr := hI.fr
        have hsz := hI.sz
        obtain ⟨m, hm⟩ : ∃ m, XS.length = m := ⟨_, rfl⟩
        obtain ⟨dd, hdd⟩ : ∃ dd, (arrT XS).depth = dd := ⟨_, rfl⟩
        obtain ⟨cn, hcn⟩ : ∃ cn, cnt64 (arrT XS) = cn := ⟨_, rfl⟩
        rw [hdd] at hlaw hdep2
        rw [hcn] at hlaw hcnt2
        have hlm : (comL f XS).length = m := hml.trans hm
        obtain ⟨CL, hCL⟩ : ∃ CL, comL f XS = CL := ⟨_, rfl⟩
        have hlaw2 : ((commonM extX (arrT XS) f).2 = 60 ∧ (300 < cn ∨ 16 < dd)) ∨ commonM extX (arrT XS) f = (arrT CL, 0) := by rw [← hCL]; exact hlaw
        rw [hCL] at hsame hlm
        rw [hm] at hcA hcnt2 hdep2 hsame n8 hn0 hm0
        clear hI own1 own2 hr1 hr2 hlens hmem hcnt hget hsuc hlenk hXS hkind hlt hlaw hCL hdd hcn hml hdep
        unfold OutC at hcA
        simp only [arrT, Tree.hd_node, Tree.l_node, bareHd, noDc] at hcA hcnt2 hdep2 hsame
        rcases hlaw2 with ⟨he60, hbig⟩ | heq
        · obtain ⟨⟨gh, gl⟩, e1, hA⟩ : ∃ t e, commonM extX (.node ⟨7, false, ⟨false, ⟨#[]⟩, 0⟩, 0, 0, ⟨#[]⟩⟩ XS) f = (t, e) := ⟨_, _, rfl⟩
          have he61 : e1 = 60 := by have := congrArg Prod.snd hA; exact this.symm.trans he60
          subst he61
          rw [hA] at hcA
          simp only [Tree.hd_node, Tree.l_node] at hcA
          clear he60 hA hsame
          by_cases h300 : 300 < cn
          · rcases hx with hx | ⟨hx, hx5⟩
            all_goals
              go_wp2_with fail
              refine hcA.mono ?_
              rintro e w2 ⟨glv, rfl, hokg, hrg, hk2⟩
              obtain ⟨ga, gc, rfl⟩ := hrg.is_slice
              have hs23 : Same w2 (w2.alloc (.cells #[.int .i64 gh.kind, .bool gh.b, .bool gh.d.neg, .string gh.d.digits, .int .i64 gh.d.exp, .int .u64 (gh.u : Int), .int .i64 gh.w, .string gh.s, .slice ga gl.length gc] 27)) := (Keep.refl _ _).alloc _
              have hn3 := hs23.same _ _ (hk2.same _ _ hn0 trivial) trivial
              have hct := hcnt2 _ (hk2.trans hs23)
              obtain ⟨m0, m1, m2, m3, m4, m5, m6, m7, m8⟩ := cells9 hn3
              clear hcA hcnt2 hdep2
              go_wp2_with fail
              refine hct.mono ?_
              rintro e w4 ⟨rfl, hk4⟩
              clear hct m0 m1 m2 m3 m4 m5 m6 m7 m8 n0 n1 n2 n3 n4 n5 n6 n7 n8
              go_wp2_with fail
              go_ret
              exact ⟨rfl, ((hfr.trans hk2).trans hs23).trans hk4⟩
          · have h16 : (16 : Int) < (dd : Int) := by rcases hbig with h | h; exact absurd h h300; omega
            clear hbig
            rcases hx with hx | ⟨hx, hx5⟩
            all_goals
              go_wp2_with fail
              refine hcA.mono ?_
              rintro e w2 ⟨glv, rfl, hokg, hrg, hk2⟩
              obtain ⟨ga, gc, rfl⟩ := hrg.is_slice
              have hs23 : Same w2 (w2.alloc (.cells #[.int .i64 gh.kind, .bool gh.b, .bool gh.d.neg, .string gh.d.digits, .int .i64 gh.d.exp, .int .u64 (gh.u : Int), .int .i64 gh.w, .string gh.s, .slice ga gl.length gc] 27)) := (Keep.refl _ _).alloc _
              have hn3 := hs23.same _ _ (hk2.same _ _ hn0 trivial) trivial
              have hct := hcnt2 _ (hk2.trans hs23)
              have hdt := fun W hs => hdep2 W ((hk2.trans hs23).trans hs)
              obtain ⟨m0, m1, m2, m3, m4, m5, m6, m7, m8⟩ := cells9 hn3
              clear hcA hcnt2 hdep2
              go_wp2_with fail
              refine hct.mono ?_
              rintro e w4 ⟨rfl, hk4⟩
              have hn4 := hk4.same _ _ hn3 trivial
              have hdt4 := hdt _ hk4
              clear hct hdt m0 m1 m2 m3 m4 m5 m6 m7 m8 n0 n1 n2 n3 n4 n5 n6 n7 n8
              obtain ⟨m0, m1, m2, m3, m4, m5, m6, m7, m8⟩ := cells9 hn4
              go_wp2_with fail
              refine hdt4.mono ?_
              rintro e w6 ⟨rfl, hk6⟩
              clear hdt4 m0 m1 m2 m3 m4 m5 m6 m7 m8
              go_wp2_with fail
              go_ret
              exact ⟨rfl, (((hfr.trans hk2).trans hs23).trans hk4).trans hk6⟩
        · have hA : commonM extX (.node ⟨7, false, ⟨false, ⟨#[]⟩, 0⟩, 0, 0, ⟨#[]⟩⟩ XS) f = (.node ⟨7, false, ⟨false, ⟨#[]⟩, 0⟩, 0, 0, ⟨#[]⟩⟩ CL, 0) := heq
          rw [hA] at hcA
          simp only [Tree.hd_node, Tree.l_node] at hcA
          clear heq hA hcnt2 hdep2
          rcases hx with hx | ⟨hx, hx5⟩
          all_goals
            go_wp2_with fail
            refine hcA.mono ?_
            rintro e w2 ⟨glv, rfl, hokg, hrg, hk2⟩
            obtain ⟨ga, gc, rfl⟩ := hrg.is_slice
            rw [hlm] at hrg ⊢
            have hs23 : Same w2 (w2.alloc (.cells #[.int .i64 7, .bool false, .bool false, .string ⟨#[]⟩, .int .i64 0, .int .u64 0, .int .i64 0, .string ⟨#[]⟩, .slice ga m gc] 27)) := (Keep.refl _ _).alloc _
            have hg3 : (w2.alloc (.cells #[.int .i64 7, .bool false, .bool false, .string ⟨#[]⟩, .int .i64 0, .int .u64 0, .int .i64 0, .string ⟨#[]⟩, .slice ga m gc] 27)).heap[w2.heap.size]? = some (.cells #[.int .i64 7, .bool false, .bool false, .string ⟨#[]⟩, .int .i64 0, .int .u64 0, .int .i64 0, .string ⟨#[]⟩, .slice ga m gc] 27 (0, 0)) := World.alloc_heap_new w2 _
            obtain ⟨g0, g1, g2, g3, g4, g5, g6, g7, g8⟩ := cells9 hg3
            have hm3 := hs23.same _ _ (hk2.same _ _ hm0 trivial) trivial
            have hsm3 := hk2.trans hs23
            have hs3 := hsame _ _ (hrg.same hs23) hsm3
            obtain ⟨m0, m1, m2, m3, m4, m5, m6, m7, m8⟩ := cells9 hm3
            clear hsame hcA
            go_wp2_with fail
            refine hs3.mono ?_
            rintro e w4 ⟨rfl, hk4⟩
            clear hs3 g0 g1 g2 g3 g4 g5 g6 g7 g8 m0 m1 m2 m3 m4 m5 m6 m7 m8 n0 n1 n2 n3 n4 n5 n6 n7 n8
            go_wp2_with fail
            go_ret
            exact ⟨rfl, (hfr.trans hsm3).trans hk4⟩
  · have hfo : f < 1 ∨ 4 < f := by omega
    rcases hfo with hfo | hfo
    · go_wp2_with fail
      go_ret
      exact ⟨rfl, hk1⟩
    · have hf1 : ¬ (f < 1) := by omega
      go_wp2_with fail
      go_ret
      exact ⟨rfl, hk1⟩
end Go.Tm

set_option linter.unusedVariables false
namespace Go.Tm
open Go.Proofs.YthledjlechdbiaaGreatDoor
theorem bulkAll_sum {H : Type} : ∀ l : List (DataW H), (l.map Rows.uptoBulk).sum = Rows.uptoBulkAll l
  | [] => by rw [Rows.uptoBulkAll]; rfl
  | d :: l => by rw [Rows.uptoBulkAll, List.map_cons, List.sum_cons, bulkAll_sum l]
theorem bulk_like {H : Type} : BulkLike (Rows.uptoBulk (H := H)) :=
  ⟨fun parts => by rw [bulkAll_sum, Rows.uptoBulk]; exact Nat.le_refl _, fun e s => by rw [bulkAll_sum, Rows.uptoBulk]; omega⟩
theorem bulk_first {H : Type} {d : DataW H} {l : List (DataW H)} (h : Rows.uptoSmall H (d :: l) = true) : Rows.uptoBulk d ≤ 1048576 := by
  have h1 := of_decide_eq_true h
  rw [Rows.uptoBulkAll] at h1
  omega
end Go.Tm
