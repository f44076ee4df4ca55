/-
  Part 6 of what the claim leans on: contracts of the functions that the law reaches, and plain facts of what they compute (joined by wip/merge.py out of the texts named behind each mark). Conditions: the theorems' own.
-/
import Derived.Lib.ItoaLen
import Derived.Test.YthledjlechdbiaaGreatDoorTwiceClaimE

set_option linter.unusedVariables false
namespace Go.Tm
open Go.Sort
def pairsM : List Tree → List (ByteArray × Tree)
  | k :: x :: l => (k.hd.s, x) :: pairsM l
  | _ => []
mutual
def Tree.ord : Tree → Tree
  | .node h l => .node h (if h.kind = 8 then sortM (pairsM (ordL l)) else ordL l)
def ordL : List Tree → List Tree
  | [] => []
  | x :: l => x.ord :: ordL l
end
theorem ordL_map : ∀ l : List Tree, ordL l = l.map Tree.ord
  | [] => by rw [ordL]; rfl
  | x :: l => by rw [ordL, ordL_map l]; rfl
theorem ord_hd (t : Tree) : t.ord.hd = t.hd := by cases t; rw [Tree.ord]; rfl
theorem ord_leaf (h : Hd) : (Tree.node h []).ord = .node h [] := by
  rw [Tree.ord, ordL]
  split
  · rw [show pairsM [] = [] from rfl]; simp [sortM]
  · rfl
theorem leB_trans (a b c : ByteArray × Tree) (h1 : leB a b = true) (h2 : leB b c = true) : leB a c = true := by
  have h1' : ltB b.1 a.1 = false := by simpa [leB, ltB] using h1
  have h2' : ltB c.1 b.1 = false := by simpa [leB, ltB] using h2
  show (!ltB c.1 a.1) = true
  rw [swo_ltB.ntrans _ _ _ h2' h1']; rfl
theorem leB_total (a b : ByteArray × Tree) : (leB a b || leB b a) = true := by
  show ((!ltB b.1 a.1) || (!ltB a.1 b.1)) = true
  cases h : ltB b.1 a.1 with
  | false => rfl
  | true => rw [swo_ltB.asymmA h]; rfl
def flatP (ps : List (ByteArray × Tree)) : List Tree := ps.flatMap fun x => [.node (textHd x.1) [], x.2]
theorem pairsM_flatP : ∀ ps : List (ByteArray × Tree), pairsM (flatP ps) = ps
  | [] => rfl
  | p :: ps => by
    show pairsM (.node (textHd p.1) [] :: p.2 :: flatP ps) = _
    rw [pairsM, pairsM_flatP ps]
    rfl
theorem sortM_flatP (ps : List (ByteArray × Tree)) : sortM ps = flatP (ps.mergeSort leB) := rfl
theorem sortM_again (ps : List (ByteArray × Tree)) : sortM (pairsM (sortM ps)) = sortM ps := by
  rw [sortM_flatP ps, pairsM_flatP, sortM_flatP, List.mergeSort_of_pairwise (List.pairwise_mergeSort leB_trans leB_total ps)]
theorem ordL_flatP : ∀ ps : List (ByteArray × Tree), (∀ p ∈ ps, p.2.ord = p.2) → ordL (flatP ps) = flatP ps
  | [], _ => by rw [show flatP [] = [] from rfl, ordL]
  | p :: ps, h => by
    show ordL (.node (textHd p.1) [] :: p.2 :: flatP ps) = .node (textHd p.1) [] :: p.2 :: flatP ps
    rw [ordL, ordL, ord_leaf, h p (by simp), ordL_flatP ps fun q hq => h q (by simp [hq])]
theorem ord_map (h : Hd) (h8 : h.kind = 8) (ps : List (ByteArray × Tree)) (hp : ∀ p ∈ ps, p.2.ord = p.2) : (Tree.node h (sortM ps)).ord = .node h (sortM ps) := by
  rw [Tree.ord, if_pos h8]
  rw [show ordL (sortM ps) = sortM ps from ordL_flatP _ fun p hq => hp p (List.mem_mergeSort.1 hq), sortM_again]
mutual
theorem Tree.proj_ord (X : Hd → Dc × Bool) : ∀ t : Tree, (∀ x ∈ t.flat, ownT x = true) → (t.proj X).1.ord = (t.proj X).1
  | .node h l, hown => by
    have hself : ownT (.node h l) = true := ((flat_all (fun x => ownT x = true) (.node h l)).1 hown).1
    have hkid : ∀ k ∈ l, ∀ x ∈ k.flat, ownT x = true := ((flat_all (fun x => ownT x = true) (.node h l)).1 hown).2
    have h1 := projT_ord X l hkid
    have h2 := projL_ord X l hkid
    have h3 := projP_ord X l [] hkid
    rw [Tree.proj]
    split
    · exact ord_leaf _
    · split
      · rename_i h25
        have hl : l = [] := by
          unfold ownT at hself
          rcases h25 with e | e
          · simp only [Tree.hd_node, e] at hself
            simp at hself
            exact (bareT_hd hself).2
          · simp only [Tree.hd_node, e] at hself
            simp at hself
            exact (bareT_hd hself.1.1).2
        subst hl
        exact ord_leaf _
      · split
        · exact ord_leaf _
        · split
          · exact ord_leaf _
          · split
            · exact h1
            · split
              · rw [Tree.ord, if_neg (by decide), h2]
              · split
                · exact ord_map _ rfl _ h3
                · exact ord_leaf _
theorem projT_ord (X : Hd → Dc × Bool) : ∀ l : List Tree, (∀ k ∈ l, ∀ x ∈ k.flat, ownT x = true) → (projT X l).1.ord = (projT X l).1
  | [], _ => by rw [projT]; exact ord_leaf _
  | x :: l, h => by rw [projT]; exact Tree.proj_ord X x (h x (by simp))
theorem projL_ord (X : Hd → Dc × Bool) : ∀ l : List Tree, (∀ k ∈ l, ∀ x ∈ k.flat, ownT x = true) → ordL (projL X l).1 = (projL X l).1
  | [], _ => by rw [projL, ordL]
  | x :: l, h => by
    rw [projL]
    show ordL (_ :: _) = _
    rw [ordL, Tree.proj_ord X x (h x (by simp)), projL_ord X l fun k hk => h k (by simp [hk])]
theorem projP_ord (X : Hd → Dc × Bool) : ∀ (l : List Tree) (seen : List ByteArray), (∀ k ∈ l, ∀ x ∈ k.flat, ownT x = true) → ∀ p ∈ (projP X l seen).1, p.2.ord = p.2
  | [], seen, _, p, hp => by rw [projP] at hp; cases hp; intro k x l h; cases h
  | [_], seen, _, p, hp => by rw [projP] at hp; cases hp; intro k x l h; cases h
  | k :: x :: l, seen, h, p, hp => by
    have h1 := Tree.proj_ord X x (h x (by simp))
    have h2 := projP_ord X l ((renderM k).1 :: seen) (fun k hk => h k (by simp [hk])) p
    rw [projP] at hp
    split at hp
    · cases hp
    · rcases List.mem_cons.1 hp with rfl | hp
      · exact h1
      · exact h2 hp
end
abbrev FitJ (t : Tree) : Prop := ∀ y ∈ t.flat, fitsT 1 y = true
theorem fitJ_node {h : Hd} {l : List Tree} (h0 : fitsT 1 (.node h l) = true) (hl : ∀ k ∈ l, FitJ k) : FitJ (.node h l) := (flat_all (fun y => fitsT 1 y = true) (.node h l)).2 ⟨h0, hl⟩
theorem fitJ_leaf (h : Hd) (h0 : fitsT 1 (.node h []) = true) : FitJ (.node h []) := fitJ_node h0 fun k hk => by cases hk
theorem keysOf_flatP : ∀ ps : List (ByteArray × Tree), keysOf (flatP ps) = ps.map fun p => .node (textHd p.1) []
  | [] => rfl
  | p :: ps => by
    show keysOf (.node (textHd p.1) [] :: p.2 :: flatP ps) = _
    rw [keysOf, keysOf_flatP ps]
    rfl
theorem fitJ_text (s : ByteArray) : FitJ (.node (textHd s) []) := fitJ_leaf _ rfl
theorem fitJ_map (ps : List (ByteArray × Tree)) (hp : ∀ p ∈ ps, FitJ p.2) : FitJ (.node (bareHd 8) (sortM ps)) := by
  refine fitJ_node ?_ fun k hk => ?_
  · have : (keysOf (sortM ps)).all (isKeyT 1) = true := by
      rw [sortM_flatP, keysOf_flatP, List.all_eq_true]
      intro k hk
      obtain ⟨p, _, rfl⟩ := List.mem_map.1 hk
      rfl
    unfold fitsT
    simp only [Tree.hd_node, Tree.l_node, this]
    rfl
  · unfold sortM at hk
    obtain ⟨p, hq, hk⟩ := List.mem_flatMap.1 hk
    rcases List.mem_cons.1 hk with rfl | hk
    · exact fitJ_text _
    · rw [List.mem_singleton.1 hk]; exact hp p (List.mem_mergeSort.1 hq)
mutual
theorem Tree.proj_fitJ (X : Hd → Dc × Bool) : ∀ t : Tree, (∀ x ∈ t.flat, ownT x = true) → (t.proj X).2 = 0 → FitJ (t.proj X).1
  | .node h l, hown, h0 => by
    have hself : ownT (.node h l) = true := ((flat_all (fun x => ownT x = true) (.node h l)).1 hown).1
    have hkid : ∀ k ∈ l, ∀ x ∈ k.flat, ownT x = true := ((flat_all (fun x => ownT x = true) (.node h l)).1 hown).2
    have h1 := projT_fitJ X l hkid
    have h2 := projL_fitJ X l hkid
    have h3 := projP_fitJ X l [] hkid
    rw [Tree.proj] at h0 ⊢
    split
    · exact fitJ_leaf _ rfl
    · rename_i c1
      rw [if_neg c1] at h0
      split
      · rename_i h25
        have hl : l = [] := by
          unfold ownT at hself
          rcases h25 with e | e
          · simp only [Tree.hd_node, e] at hself
            simp at hself
            exact (bareT_hd hself).2
          · simp only [Tree.hd_node, e] at hself
            simp at hself
            exact (bareT_hd hself.1.1).2
        subst hl
        refine fitJ_leaf _ ?_
        unfold fitsT
        rcases h25 with e | e <;> simp [e]
      · rename_i c2
        rw [if_neg c2] at h0
        split
        · exact fitJ_text _
        · rename_i c3
          rw [if_neg c3] at h0
          split
          · exact fitJ_text _
          · rename_i c4
            rw [if_neg c4] at h0
            split
            · rename_i c5
              rw [if_pos c5] at h0
              have hl1 : l.length = 1 := by
                unfold ownT at hself
                simp only [Tree.hd_node, Tree.l_node, c5] at hself
                simp at hself
                exact of_decide_eq_true hself.2
              exact h1 (by omega) h0
            · rename_i c5
              rw [if_neg c5] at h0
              split
              · rename_i c6
                rw [if_pos c6] at h0
                exact fitJ_node rfl (h2 h0)
              · rename_i c6
                rw [if_neg c6] at h0
                split
                · rename_i c7
                  rw [if_pos c7] at h0
                  exact fitJ_map _ (h3 h0)
                · exact fitJ_leaf _ rfl
theorem projT_fitJ (X : Hd → Dc × Bool) : ∀ l : List Tree, (∀ k ∈ l, ∀ x ∈ k.flat, ownT x = true) → 0 < l.length → (projT X l).2 = 0 → FitJ (projT X l).1
  | [], _, h, _ => by cases h
  | x :: l, h, _, h0 => by rw [projT] at h0 ⊢; exact Tree.proj_fitJ X x (h x (by simp)) h0
theorem projL_fitJ (X : Hd → Dc × Bool) : ∀ l : List Tree, (∀ k ∈ l, ∀ x ∈ k.flat, ownT x = true) → (projL X l).2 = 0 → ∀ k ∈ (projL X l).1, FitJ k
  | [], _, _, k, hk => by rw [projL] at hk; cases hk
  | x :: l, h, h0, k, hk => by
    rw [projL] at h0 hk
    simp only at h0 hk
    rcases List.mem_cons.1 hk with rfl | hk
    · exact Tree.proj_fitJ X x (h x (by simp)) (by omega)
    · exact projL_fitJ X l (fun k hk => h k (by simp [hk])) (by omega) k hk
theorem projP_fitJ (X : Hd → Dc × Bool) : ∀ (l : List Tree) (seen : List ByteArray), (∀ k ∈ l, ∀ x ∈ k.flat, ownT x = true) → (projP X l seen).2 = 0 → ∀ p ∈ (projP X l seen).1, FitJ p.2
  | [], seen, _, _, p, hp => by rw [projP] at hp; cases hp; intro k x l h; cases h
  | [_], seen, _, _, p, hp => by rw [projP] at hp; cases hp; intro k x l h; cases h
  | k :: x :: l, seen, h, h0, p, hp => by
    rw [projP] at hp h0
    split at hp
    · cases hp
    · rename_i c
      rw [if_neg c] at h0
      simp only at h0
      rcases List.mem_cons.1 hp with rfl | hp
      · exact Tree.proj_fitJ X x (h x (by simp)) (by omega)
      · exact projP_fitJ X l _ (fun k hk => h k (by simp [hk])) (by omega) p hp
end
def srtT (t : Tree) : Prop := t.hd.kind = 8 → sortM (pairsM t.l) = t.l
abbrev SrtJ (t : Tree) : Prop := ∀ y ∈ t.flat, srtT y
theorem srtJ_node {h : Hd} {l : List Tree} (h0 : srtT (.node h l)) (hl : ∀ k ∈ l, SrtJ k) : SrtJ (.node h l) := (flat_all srtT (.node h l)).2 ⟨h0, hl⟩
theorem srtJ_leaf (h : Hd) : SrtJ (.node h []) := srtJ_node (fun _ => by rw [Tree.l_node, show pairsM [] = [] from rfl]; simp [sortM]) fun k hk => by cases hk
theorem srtJ_text (s : ByteArray) : SrtJ (.node (textHd s) []) := srtJ_leaf _
theorem srtJ_map (ps : List (ByteArray × Tree)) (hp : ∀ p ∈ ps, SrtJ p.2) : SrtJ (.node (bareHd 8) (sortM ps)) := by
  refine srtJ_node (fun _ => sortM_again ps) fun k hk => ?_
  unfold sortM at hk
  obtain ⟨p, hq, hk⟩ := List.mem_flatMap.1 hk
  rcases List.mem_cons.1 hk with rfl | hk
  · exact srtJ_text _
  · rw [List.mem_singleton.1 hk]; exact hp p (List.mem_mergeSort.1 hq)
mutual
theorem Tree.proj_srtJ (X : Hd → Dc × Bool) : ∀ t : Tree, (∀ x ∈ t.flat, ownT x = true) → (t.proj X).2 = 0 → SrtJ (t.proj X).1
  | .node h l, hown, h0 => by
    have hself : ownT (.node h l) = true := ((flat_all (fun x => ownT x = true) (.node h l)).1 hown).1
    have hkid : ∀ k ∈ l, ∀ x ∈ k.flat, ownT x = true := ((flat_all (fun x => ownT x = true) (.node h l)).1 hown).2
    have h1 := projT_srtJ X l hkid
    have h2 := projL_srtJ X l hkid
    have h3 := projP_srtJ X l [] hkid
    rw [Tree.proj] at h0 ⊢
    split
    · exact srtJ_leaf _
    · rename_i c1
      rw [if_neg c1] at h0
      split
      · rename_i h25
        have hl : l = [] := by
          unfold ownT at hself
          rcases h25 with e | e
          · simp only [Tree.hd_node, e] at hself
            simp at hself
            exact (bareT_hd hself).2
          · simp only [Tree.hd_node, e] at hself
            simp at hself
            exact (bareT_hd hself.1.1).2
        subst hl
        exact srtJ_leaf _
      · rename_i c2
        rw [if_neg c2] at h0
        split
        · exact srtJ_text _
        · rename_i c3
          rw [if_neg c3] at h0
          split
          · exact srtJ_text _
          · rename_i c4
            rw [if_neg c4] at h0
            split
            · rename_i c5
              rw [if_pos c5] at h0
              have hl1 : l.length = 1 := by
                unfold ownT at hself
                simp only [Tree.hd_node, Tree.l_node, c5] at hself
                simp at hself
                exact of_decide_eq_true hself.2
              exact h1 (by omega) h0
            · rename_i c5
              rw [if_neg c5] at h0
              split
              · rename_i c6
                rw [if_pos c6] at h0
                exact srtJ_node (fun e => by cases e) (h2 h0)
              · rename_i c6
                rw [if_neg c6] at h0
                split
                · rename_i c7
                  rw [if_pos c7] at h0
                  exact srtJ_map _ (h3 h0)
                · exact srtJ_leaf _
theorem projT_srtJ (X : Hd → Dc × Bool) : ∀ l : List Tree, (∀ k ∈ l, ∀ x ∈ k.flat, ownT x = true) → 0 < l.length → (projT X l).2 = 0 → SrtJ (projT X l).1
  | [], _, h, _ => by cases h
  | x :: l, h, _, h0 => by rw [projT] at h0 ⊢; exact Tree.proj_srtJ X x (h x (by simp)) h0
theorem projL_srtJ (X : Hd → Dc × Bool) : ∀ l : List Tree, (∀ k ∈ l, ∀ x ∈ k.flat, ownT x = true) → (projL X l).2 = 0 → ∀ k ∈ (projL X l).1, SrtJ k
  | [], _, _, k, hk => by rw [projL] at hk; cases hk
  | x :: l, h, h0, k, hk => by
    rw [projL] at h0 hk
    simp only at h0 hk
    rcases List.mem_cons.1 hk with rfl | hk
    · exact Tree.proj_srtJ X x (h x (by simp)) (by omega)
    · exact projL_srtJ X l (fun k hk => h k (by simp [hk])) (by omega) k hk
theorem projP_srtJ (X : Hd → Dc × Bool) : ∀ (l : List Tree) (seen : List ByteArray), (∀ k ∈ l, ∀ x ∈ k.flat, ownT x = true) → (projP X l seen).2 = 0 → ∀ p ∈ (projP X l seen).1, SrtJ p.2
  | [], seen, _, _, p, hp => by rw [projP] at hp; cases hp; intro k x l h; cases h
  | [_], seen, _, _, p, hp => by rw [projP] at hp; cases hp; intro k x l h; cases h
  | k :: x :: l, seen, h, h0, p, hp => by
    rw [projP] at hp h0
    split at hp
    · cases hp
    · rename_i c
      rw [if_neg c] at h0
      simp only at h0
      rcases List.mem_cons.1 hp with rfl | hp
      · exact Tree.proj_srtJ X x (h x (by simp)) (by omega)
      · exact projP_srtJ X l _ (fun k hk => h k (by simp [hk])) (by omega) p hp
end
theorem told_ne (k : Nat) (h : k ≠ 0) : toldN k ≠ 0 := by
  unfold toldN
  repeat' split
  all_goals first | decide | omega
theorem common_fits (X : Hd → Dc × Bool) {t : Tree} {f : Int} (h : (commonM X t f).2 = 0) : checkT (commonM X t f).1 1 = 0 ∧ (commonM X t f).1.ord = (commonM X t f).1 := by
  by_cases c1 : checkT t f = 0
  · by_cases c2 : (t.proj X).2 = 0
    · by_cases c3 : checkT (t.proj X).1 2 = 60
      · unfold commonM at h
        rw [if_neg (fun e => e c1), if_neg (fun e => e c2), if_pos c3] at h
        cases h
      · have e : commonM X t f = ((t.proj X).1, 0) := by
          unfold commonM
          rw [if_neg (fun e => e c1), if_neg (fun e => e c2), if_neg c3]
        have hown := fun x hx => ((checkT_all c1).2.2 x hx).1
        rw [e]
        refine ⟨?_, Tree.proj_ord X t hown⟩
        have hfit := Tree.proj_fitJ X t hown c2
        unfold checkT at c3 ⊢
        by_cases hd : 16 < (t.proj X).1.depth ∨ 300 < cnt64 (t.proj X).1
        · rw [if_pos hd] at c3; exact absurd rfl c3
        · rw [if_neg hd] at c3 ⊢
          rw [check_from] at c3 ⊢
          by_cases ha : (t.proj X).1.flat.all ownT = true
          · rw [if_pos ha, if_pos (List.all_eq_true.2 hfit)]
          · rw [if_neg ha] at c3; exact absurd rfl c3
    · unfold commonM at h
      rw [if_neg (fun e => e c1), if_pos c2] at h
      exact absurd h (told_ne _ c2)
  · unfold commonM at h
    rw [if_pos c1] at h
    exact absurd h c1
theorem render_text (h : Hd) (h5 : h.kind = 5) (ho : ownT (.node h []) = true) : renderM (.node h []) = (h.s, true) := by
  have hsz := own_s ho
  have hk : keyText h = h.s := by unfold keyText; simp [h5]
  have hfit : fitsT 2 (.node h []) = true := by unfold fitsT; simp [h5]
  have hc : checkT (ownerT (.node h [])) 2 = 0 := by
    have hdp : (ownerT (.node h [])).depth = 2 := by unfold ownerT; simp [Tree.depth, depthL]
    have hct : cnt64 (ownerT (.node h [])) = 3 := by unfold cnt64 ownerT; simp [Tree.count, countL]; exact IntWalk.wrap64_in (3 : Int) (by omega)
    have hfl : (ownerT (.node h [])).flat = [ownerT (.node h []), .node h [], .node (bareHd 1) []] := by unfold ownerT; simp [Tree.flat, flatL]
    have ho1 : ownT (ownerT (.node h [])) = true := by unfold ownerT ownT; simp [bareHd, keysOf, isTwice, twiceAt]
    have hf1 : fitsT 2 (ownerT (.node h [])) = true := by unfold ownerT fitsT; simp [bareHd, keysOf, isKeyT, h5]
    unfold checkT
    rw [hdp, hct, if_neg (by omega), check_from, hfl]
    simp [ho, ho1, hf1, hfit]
    first | done | decide | (constructor <;> decide)
  rw [render_of hc h.s hk, if_neg (by show ¬ 400 < h.s.size; have : h.s.size ≤ 400 := hsz; omega)]
theorem bareT_eq {h : Hd} {l : List Tree} {g : Hd} (hb : bareT (.node h l) g = true) : l = [] ∧ h = { g with kind := h.kind } := by
  unfold bareT at hb
  simp only [Bool.and_eq_true, List.isEmpty_iff, Tree.l_node, Tree.hd_node] at hb
  exact ⟨hb.1, of_decide_eq_true hb.2⟩
theorem projP_self (X : Hd → Dc × Bool) : ∀ (ps : List (ByteArray × Tree)) (seen : List ByteArray), (∀ p ∈ ps, p.2.proj X = (p.2, 0) ∧ ownT (.node (textHd p.1) []) = true ∧ p.1 ∉ seen) → (ps.map Prod.fst).Nodup → projP X (flatP ps) seen = (ps, 0)
  | [], seen, _, _ => by
    rw [show flatP [] = [] from rfl, projP]
    intro k x l h; cases h
  | p :: ps, seen, h, hn => by
    have hp := h p (by simp)
    rw [List.map_cons, List.nodup_cons] at hn
    have ih := projP_self X ps (p.1 :: seen) (fun q hq => ⟨(h q (by simp [hq])).1, (h q (by simp [hq])).2.1, fun hm => by
      rcases List.mem_cons.1 hm with e | hm
      · exact hn.1 (List.mem_map.2 ⟨q, hq, e⟩)
      · exact (h q (by simp [hq])).2.2 hm⟩) hn.2
    show projP X (.node (textHd p.1) [] :: p.2 :: flatP ps) seen = _
    have hr := render_text (textHd p.1) rfl hp.2.1
    rw [projP, hr, if_neg (by rintro (e | e); cases e; exact hp.2.2 ((contB' _ _).1 e))]
    rw [show (textHd p.1).s = p.1 from rfl, ih, hp.1]
    rfl
end Go.Tm

set_option linter.unusedVariables false
namespace Go.Tm
theorem projL_self (X : Hd → Dc × Bool) : ∀ l : List Tree, (∀ x ∈ l, x.proj X = (x, 0)) → projL X l = (l, 0)
  | [], _ => by rw [projL]
  | x :: l, h => by rw [projL, h x (by simp), projL_self X l fun y hy => h y (by simp [hy])]; rfl
theorem proj_self (X : Hd → Dc × Bool) : ∀ y : Tree, (∀ x ∈ y.flat, ownT x = true) → FitJ y → SrtJ y → y.proj X = (y, 0) := by
  refine Tree.ind fun h l ih hown hfit hsrt => ?_
  have o0 := (flat_all (fun x => ownT x = true) (.node h l)).1 hown
  have f0 := (flat_all (fun y => fitsT 1 y = true) (.node h l)).1 hfit
  have s0 := (flat_all srtT (.node h l)).1 hsrt
  have IH := fun x hx => ih x hx (o0.2 x hx) (f0.2 x hx) (s0.2 x hx)
  have ho := o0.1
  have hf := f0.1
  by_cases h7 : h.kind = 7
  · unfold ownT at ho
    simp only [Tree.hd_node, h7] at ho
    simp at ho
    have e := of_decide_eq_true ho
    subst e
    rw [Tree.proj, projL_self X l IH]
    simp [decimalM, bareHd]
  · by_cases h8 : h.kind = 8
    · have hs := s0.1 h8
      simp only [Tree.l_node] at hs
      obtain ⟨ps, hps⟩ : ∃ ps, (pairsM l).mergeSort leB = ps := ⟨_, rfl⟩
      have hl : l = flatP ps := by rw [← hps, ← sortM_flatP]; exact hs.symm
      have hso : sortM ps = l := by rw [hl] at hs ⊢; rw [pairsM_flatP] at hs; exact hs
      unfold ownT at ho
      simp only [Tree.hd_node, Tree.l_node, h8] at ho
      simp at ho
      have eh : h = bareHd 8 := of_decide_eq_true ho.1.1
      have hnd := (twice_iff (keysOf l)).1 ho.2
      rw [hl, keysOf_flatP] at hnd
      have hnd2 : (ps.map Prod.fst).Nodup := by
        have e : (ps.map fun p => (Tree.node (textHd p.1) [] : Tree)) = (ps.map Prod.fst).map fun s => Tree.node (textHd s) [] := by rw [List.map_map]; rfl
        rw [e] at hnd
        exact List.Pairwise.imp (fun h e => h (by rw [e])) (List.pairwise_map.1 hnd)
      have hmem : ∀ p ∈ ps, (Tree.node (textHd p.1) [] : Tree) ∈ l ∧ p.2 ∈ l := fun p hp => by
        rw [hl]; unfold flatP
        exact ⟨List.mem_flatMap.2 ⟨p, hp, by simp⟩, List.mem_flatMap.2 ⟨p, hp, by simp⟩⟩
      have hpr := projP_self X ps [] (fun p hp => ⟨IH _ (hmem p hp).2, o0.2 _ (hmem p hp).1 _ (self_flat _), by simp⟩) hnd2
      rw [← hl] at hpr
      have hd : decimalM X (.node h l) = (noDc, false) := by unfold decimalM; simp [h8]
      rw [Tree.proj, hd, hpr, hso, eh]
      simp [bareHd]
    · by_cases h3 : h.kind = 3
      · unfold ownT at ho
        simp only [Tree.hd_node, h3] at ho
        simp at ho
        obtain ⟨e1, e2⟩ := bareT_eq ho.1
        subst e1
        rw [Tree.proj]
        have hd : decimalM X (.node h []) = (h.d, true) := by unfold decimalM; simp [h3, ho.2]
        rw [hd]
        have : numT h.d = .node h [] := by unfold numT; rw [h3] at e2; rw [Tree.node.injEq]; exact ⟨e2.symm, rfl⟩
        simp [this]
      · by_cases h25 : h.kind = 2 ∨ h.kind = 5
        · have hd : decimalM X (.node h l) = (noDc, false) := by unfold decimalM; rcases h25 with e | e <;> simp [e]
          rw [Tree.proj, hd, if_neg (by decide), if_pos h25]
        · by_cases h1 : h.kind = 1
          · unfold ownT at ho
            simp only [Tree.hd_node, h1] at ho
            simp at ho
            obtain ⟨e1, e2⟩ := bareT_eq ho
            subst e1
            have hd : decimalM X (.node h []) = (noDc, false) := by unfold decimalM; simp [h1]
            rw [Tree.proj, hd]
            have : h = bareHd 1 := by rw [h1] at e2; exact e2
            simp [this, bareHd]
          · exfalso
            unfold fitsT at hf
            unfold ownT at ho
            simp only [Tree.hd_node] at hf ho
            have n2 : ¬ h.kind = 2 := fun e => h25 (.inl e)
            have n5 : ¬ h.kind = 5 := fun e => h25 (.inr e)
            by_cases e4 : h.kind = 4
            · simp [e4] at hf
            · by_cases e6 : h.kind = 6
              · simp [e6] at hf
              · by_cases e9 : h.kind = 9
                · simp [e9] at hf
                · by_cases e10 : h.kind = 10
                  · simp [e10] at hf
                  · by_cases e11 : h.kind = 11
                    · simp [e11] at hf
                    · simp [h1, n2, h3, e4, n5, e6, h7, h8, e9, e10, e11] at ho
theorem common_twice (X : Hd → Dc × Bool) {t : Tree} {f : Int} (h : (commonM X t f).2 = 0) : commonM X (commonM X t f).1 1 = ((commonM X t f).1, 0) := by
  have hfit := (common_fits X h).1
  by_cases c1 : checkT t f = 0
  · by_cases c2 : (t.proj X).2 = 0
    · by_cases c3 : checkT (t.proj X).1 2 = 60
      · unfold commonM at h
        rw [if_neg (fun e => e c1), if_neg (fun e => e c2), if_pos c3] at h
        cases h
      · have e : commonM X t f = ((t.proj X).1, 0) := by
          unfold commonM
          rw [if_neg (fun e => e c1), if_neg (fun e => e c2), if_neg c3]
        rw [e] at hfit ⊢
        have hown := fun x hx => ((checkT_all c1).2.2 x hx).1
        have hself := proj_self X (t.proj X).1 (fun x hx => ((checkT_all hfit).2.2 x hx).1) (Tree.proj_fitJ X t hown c2) (Tree.proj_srtJ X t hown c2)
        show commonM X (t.proj X).1 1 = ((t.proj X).1, 0)
        unfold commonM
        rw [if_neg (fun e => e hfit), hself, if_neg (fun e => e rfl), if_neg c3]
    · unfold commonM at h
      rw [if_neg (fun e => e c1), if_pos c2] at h
      exact absurd h (told_ne _ c2)
  · unfold commonM at h
    rw [if_pos c1] at h
    exact absurd h c1
end Go.Tm

set_option linter.unusedVariables false
namespace Go.Tm
open Go.RowKit Go.Proofs Go.Sort Go.Shelf
def KeyTexts (l : List Tree) : Prop := ∀ i (h : 2 * i + 1 < l.length), l[2 * i].hd = textHd l[2 * i].hd.s ∧ l[2 * i].l = []
theorem pairsM_len : ∀ l : List Tree, (pairsM l).length = l.length / 2
  | [] => rfl
  | [_] => by rw [pairsM]; simp; intro k x l h; cases h
  | k :: x :: l => by rw [pairsM, List.length_cons, pairsM_len l, List.length_cons, List.length_cons]; omega
theorem pairsM_get : ∀ (l : List Tree) (i : Nat) (h : 2 * i + 1 < l.length), (pairsM l)[i]'(by rw [pairsM_len]; omega) = (l[2 * i].hd.s, l[2 * i + 1])
  | k :: x :: l, 0, _ => rfl
  | k :: x :: l, i + 1, h => by
    have := pairsM_get l i (by simp only [List.length_cons] at h; omega)
    simpa [pairsM, Nat.mul_add] using this
  | [_], i, h => by simp at h
theorem fold_get : ∀ (L : List Value) (k : Nat) (z : Array Value) (i : Nat), k + L.length ≤ z.size → ((L.zipIdx k).foldl (fun (cs : Array Value) x => cs.setIfInBounds x.snd x.fst) z)[i]? = if k ≤ i ∧ i < k + L.length then L[i - k]? else z[i]?
  | [], k, z, i, _ => by rw [List.zipIdx_nil, List.foldl_nil, if_neg (by simp)]
  | v :: L, k, z, i, h => by
    simp only [List.length_cons] at h
    rw [List.zipIdx_cons, List.foldl_cons, fold_get L (k + 1) _ i (by rw [Array.size_setIfInBounds]; omega)]
    simp only [List.length_cons]
    by_cases h1 : k + 1 ≤ i ∧ i < k + 1 + L.length
    · rw [if_pos h1, if_pos (by omega), show i - k = (i - (k + 1)) + 1 by omega, List.getElem?_cons_succ]
    · rw [if_neg h1, Array.getElem?_setIfInBounds]
      by_cases h2 : k = i
      · subst h2
        rw [if_pos rfl, if_pos (by omega), if_pos (by omega), Nat.sub_self]; rfl
      · rw [if_neg h2, if_neg (by omega)]
theorem fold_set (L : List Value) (z : Array Value) (h : L.length = z.size) (j : Nat) : ((L.zipIdx.foldl (fun (cs : Array Value) x => cs.setIfInBounds x.snd x.fst) z).toList)[j]? = L[j]? := by
  rw [Array.getElem?_toList, fold_get L 0 z j (by omega)]
  by_cases hj : j < L.length
  · rw [if_pos (by omega)]; rfl
  · rw [if_neg (by omega), List.getElem?_eq_none (by omega), Array.getElem?_eq_none (by omega)]
structure CInv (S : Nat → Prop) (w : World) (l : List Tree) (i : Nat) (ms : List Mem) (lv : Value) (A : World) : Prop where
  len : ms.length = i
  prs : ms.map Mem.pair = (pairsM l).take i
  good : ∀ m ∈ ms, m.good S A
  sb : Boxed A w.heap.size 68 lv
  row : A.ownsRow (w.heap.size + 1) 71 18 lv i (flatM ms)
  fr : Same w A
  sz : w.heap.size + 1 ≤ A.heap.size
theorem CInv.keep {K : Nat → Obj → Prop} {S : Nat → Prop} {w : World} {l : List Tree} {i : Nat} {ms : List Mem} {lv : Value} {A B : World} (h : CInv S w l i ms lv A) (hk : Keep K A B) (hK : ∀ k o, k < w.heap.size + 1 ∨ o.isCells = true → K k o) : CInv S w l i ms lv B where
  len := h.len
  prs := h.prs
  good m hm := ⟨(h.good m hm).1, (h.good m hm).2.1, (h.good m hm).2.2.1.keep hk fun k _ c f => hK _ _ (.inr rfl), (h.good m hm).2.2.2.keep hk fun k _ c f => hK _ _ (.inr rfl)⟩
  sb := hk.boxed h.sb (hK _ _ (.inr rfl))
  row := own_keep h.row hk fun _ _ _ _ => hK _ _ (.inr rfl)
  fr := ⟨hk.os.trans h.fr.os, hk.tape.trans h.fr.tape, hk.output.trans h.fr.output, Nat.le_trans h.fr.size hk.size, fun k o hko _ => hk.same k o (h.fr.same k o hko trivial) (hK _ _ (.inl (by have := lt_of_some hko; omega)))⟩
  sz := Nat.le_trans h.sz hk.size
def SeqK (w : World) : Nat → Obj → Prop := fun k o => (∃ c f, o = .cells c 27 f) ∨ (k ≠ w.heap.size ∧ (k < w.heap.size + 1 ∨ ∀ c f, o ≠ .cells c 71 f))
theorem CInv.own {S : Nat → Prop} {w : World} {l : List Tree} {i : Nat} {ms : List Mem} {lv : Value} {A : World} (h : CInv S w l i ms lv A) (k : Nat) (hk : lv.ownBlock = some k) : w.heap.size + 1 ≤ k ∧ ∃ c, A.heap[k]? = some (.cells c 71 (0, 0)) := by
  rcases h.row.2 with ⟨rfl, _⟩ | ⟨g, cap, cur, rfl, hg, hgg, _⟩
  · cases hk
  · simp only [Value.ownBlock, Option.some.injEq] at hk
    subst hk
    exact ⟨hg, cur, hgg⟩
set_option maxRecDepth 100000 in
set_option maxHeartbeats 8000000 in
theorem appendSeq_any (S : Nat → Prop) (l : List Tree) (lv : Value) (bx : Nat) (w : World) (hr : RepS S w l lv) (hbx : Boxed w bx 25 lv) (hl40 : l.length ≤ 40) (hkt : KeyTexts l) (hok : ∀ x ∈ l, x.hd.s.size ≤ 1099511627776) :
    Calls Tryz.prog 69 #[.slice none 0 0, .func (.func 70) #[] #[.pointer (some ⟨bx, 0, none⟩)]] w fun e w' => ∃ ms v', e = .returned v' ∧ ms.map Mem.pair = pairsM l ∧ (∀ m ∈ ms, m.good S w') ∧ w'.ownsRow (w.heap.size + 1) 71 18 v' ms.length (flatM ms) ∧ Same w w' := by
  have hi18 : (Tryz.prog.info? 71).map (·.size) = some 18 := by kernel_rfl
  have hbl : bx < w.heap.size := lt_of_some hbx
  refine (callsIn_wide (n := 0)).1 ?_
  refine callsIn_of_wp_marks Tryz.func69 rfl trivial ?_ rfl
  simp only [Tryz.ntmps69, List.size_toArray, List.length_cons, List.length_nil, Nat.reduceAdd, Nat.reduceSub, Array.replicate_succ, Array.replicate_zero, List.push_toArray, List.append_toArray, List.nil_append, List.cons_append]
  gi_wp2
  obtain ⟨W1, hW1⟩ : ∃ W1, w.alloc (.cells #[.slice none 0 0] 68) = W1 := ⟨_, rfl⟩
  rw [hW1]
  have hk1 : Same w W1 := by rw [← hW1]; exact (Keep.refl _ _).alloc _
  have hz1 : W1.heap.size = w.heap.size + 1 := by rw [← hW1]; simp
  have hI0 : CInv S w l 0 [] (.slice none 0 0) W1 := {
    len := rfl
    prs := by simp
    good := fun m hm => by cases hm
    sb := by rw [← hW1]; exact World.alloc_heap_new w _
    row := World.ownsRow_nil _ _ _ _
    fr := hk1
    sz := by omega }
  clear hW1
  refine wp_range (gf := 70) (lb := #[.pointer (some ⟨bx, 0, none⟩)])
    rfl (enters_of Tryz.func70 (by kernel_rfl) rfl) (l.length / 2) (GivesM S l)
    (SeqK w) (fun _ _ => True) (fun _ => True) (fun _ _ => True) ?hit ?hSb (fun _ _ _ _ _ => trivial)
    (fun i A => ∃ ms lv, CInv S w l i ms lv A) (fun _ _ _ => False) ?hI ?hIx ?hE (fun _ _ _ _ => trivial) (fun _ _ _ _ _ => trivial) ?hEs ⟨[], .slice none 0 0, hI0⟩
    (fun i v a' A => ∃ b2 cs, v = #[.agg cs] ∧ A.heap[b2]? = some (.cells cs 71 (0, 0)) ∧ w.heap.size + 1 ≤ b2 ∧ a' = { tmps := #[.slice none 0 0, .func (.func 70) #[] #[.pointer (some ⟨bx, 0, none⟩)], .pointer (some ⟨w.heap.size, 0, none⟩), undef, .slice none 0 0, .pointer (some ⟨b2, 0, none⟩), .func (.func 70) #[] #[.pointer (some ⟨bx, 0, none⟩)], .agg cs, undef, undef, undef, undef, undef], defers := [] }) ?hAx ?hassign ?hbody ?hdone ?hstop
  case hit =>
    intro W2 hk2 hz2
    exact members1_iter S l _ _ _ _ W2 ((hr.same hk1).same hk2) (hk2.boxed (hk1.boxed hbx trivial) trivial) (fun c f => .inr ⟨by omega, .inl (by omega)⟩) (fun k c f => .inl ⟨c, f, rfl⟩)
  case hSb => exact fun k o hk ho => .inr ⟨by omega, .inr fun c f e => by subst e; cases ho⟩
  case hI =>
    rintro i A B ⟨ms, lv, h2⟩ hk
    exact ⟨ms, lv, h2.keep hk fun k o h => ⟨h.imp_left fun h => by omega, trivial⟩⟩
  case hIx => rintro _ _ _ _ h; exact h.elim
  case hE =>
    rintro i v A B ⟨h0, h1, lv, mv, e, r0, r1, o0, o1⟩ hk
    exact ⟨h0, h1, lv, mv, e, r0.keep hk fun _ _ _ _ => .inr rfl, r1.keep hk fun _ _ _ _ => .inr rfl, o0, o1⟩
  case hEs =>
    rintro i v A ⟨h0, h1, lv, mv, e, _⟩
    rw [e]; rfl
  case hAx =>
    rintro i v a' A B ⟨b2, cs, e, h1, h2, h3⟩ hk
    exact ⟨b2, cs, e, hk.same _ _ h1 (.inr rfl), h2, h3⟩
  case hassign =>
    rintro lp i v A K hi ⟨ms, lv2, hp1⟩ hE' hK
    have hE2 := hE'
    obtain ⟨h0, h1, klv, glv, rfl, r0, r1, o0, o1⟩ := hE'
    obtain ⟨k0, hk0⟩ : ∃ k0, (l[2 * i]).hd = k0 := ⟨_, rfl⟩
    obtain ⟨g0, hg0⟩ : ∃ g0, (l[2 * i + 1]).hd = g0 := ⟨_, rfl⟩
    obtain ⟨ka, kc, rfl⟩ := r0.is_slice
    obtain ⟨ga, gc, rfl⟩ := r1.is_slice
    rw [hk0, hg0] at hK hE2 ⊢
    obtain ⟨kn, hkn⟩ : ∃ n, (l[2 * i]).l.length = n := ⟨_, rfl⟩
    obtain ⟨gn, hgn⟩ : ∃ n, (l[2 * i + 1]).l.length = n := ⟨_, rfl⟩
    rw [hkn, hgn] at hK hE2 ⊢
    clear r0 r1 o0 o1 hk0 hg0 hkn hgn h0 h1 hr
    refine wpIn_region_lit ?_
    refine wpListIn_plain rfl fun K2 hK2 => ?_
    go_simp
    refine hK2 _ _ ?_
    clear hK2 K2
    refine wpListIn_store_row rfl 71 _ _ rfl A.heap.size (memCs k0 g0 (.slice ka kn kc) (.slice ga gn gc)).toArray rfl rfl 71 _ (heap_alloc_last _ _) hi18 rfl (memCs_all _ _ _ _ _ _ _ _) ?_
    rw [World.setRow_alloc_new]
    refine wpListIn_nil ?_
    refine hK _ _ ((Keep.refl _ _).alloc _) ⟨ms, lv2, hp1.keep ((Keep.refl All _).alloc _) fun _ _ _ => trivial⟩ ?_ ⟨A.heap.size, _, rfl, World.alloc_heap_new A _, hp1.sz, rfl⟩
    obtain ⟨h0, h1, lv, mv, e, r0, r1, o0, o1⟩ := hE2
    exact ⟨h0, h1, lv, mv, e, r0.same ((Keep.refl _ _).alloc _), r1.same ((Keep.refl _ _).alloc _), o0, o1⟩
  case hbody =>
    rintro lp i v a' A hlp ⟨rr, hrl⟩ hi2 ⟨ms, lv2, hp1⟩ ⟨h0, h1, klv, glv, hv, r0, r1, o0, o1⟩ ⟨b2, cs, rfl, hb2, hb2z, rfl⟩
    have hpg := pairsM_get l i h1
    have hkt1 := hkt i h1
    have hks := hok l[2 * i] (List.getElem_mem h0)
    have htake : (pairsM l).take (i + 1) = (pairsM l).take i ++ [(l[2 * i].hd.s, l[2 * i + 1])] := by
      rw [List.take_succ_eq_append_getElem (by rw [pairsM_len]; omega), hpg]
    obtain ⟨kt, hkt'⟩ : ∃ t, l[2 * i] = t := ⟨_, rfl⟩
    obtain ⟨gt, hgt⟩ : ∃ t, l[2 * i + 1] = t := ⟨_, rfl⟩
    rw [hkt'] at hkt1 hks htake r0 o0 hv
    rw [hgt] at htake r1 o1 hv
    obtain ⟨kh, kl⟩ := kt
    obtain ⟨hkh, rfl⟩ := hkt1
    obtain ⟨gh, gl⟩ := gt
    simp only [Tree.hd_node, Tree.l_node] at hkh hks htake r0 r1 o0 o1 hv
    obtain ⟨ka, kc, rfl⟩ := r0.is_slice
    obtain ⟨ga, gc, rfl⟩ := r1.is_slice
    have hcs : cs = (Mem.cs ⟨kh.s, gh, ga, gl.length, gc, gl, ka, kc⟩).toArray := by
      have := congrArg (fun v : Array Value => v[0]?) hv
      simp only [List.getElem?_toArray] at this
      injection (Option.some.inj this) with e
      rw [e, Mem.cs]
      show _ = (memCs (textHd kh.s) gh _ _).toArray
      rw [← hkh]
      rfl
    have hcsm : (Mem.cs ⟨kh.s, gh, ga, gl.length, gc, gl, ka, kc⟩).length = 18 := rfl
    obtain ⟨M, hM⟩ : ∃ M : Mem, M = ⟨kh.s, gh, ga, gl.length, gc, gl, ka, kc⟩ := ⟨_, rfl⟩
    rw [← hM] at hcs hcsm
    have hgood : ∀ B, Same A B → M.good S B := fun B hs => by subst hM; exact ⟨hks, o1, r1.same hs, r0.same hs⟩
    have hpair : M.pair = (kh.s, .node gh gl) := by subst hM; rfl
    have hone := Mem.cs_one M
    obtain ⟨L, hL⟩ : ∃ L, M.cs = L := ⟨_, rfl⟩
    rw [hL] at hcs hcsm hone
    subst hcs
    have hra : A.rangeAt b2 0 L := fun j v hj => by
      rw [Nat.zero_add, cell_of_row _ _ j _ _ _ hb2]
      simpa using hj
    have hi18b : (Tryz.prog.info? 71).map (·.size) = some L.length := by rw [hcsm]; exact hi18
    have cs7 := hp1.sb.cell
    have fs7 := hp1.sb.frozen
    obtain ⟨la, lc, rfl⟩ : ∃ a c, lv2 = .slice a i c := by
      rcases hp1.row.2 with ⟨rfl, h0⟩ | ⟨g, cap, cur, rfl, _⟩
      · exact ⟨none, 0, by rw [h0]⟩
      · exact ⟨_, _, rfl⟩
    obtain ⟨m0, hm0, hmz0, hmz1, hmz2⟩ := info_parts mem_info
    have hz7 := hp1.sz
    have HT := Lib.hid htake
    have HG := Lib.hid hgood
    clear hv hkh hM r0 r1 o0 o1 htake hgood hb2 hr hbx hrl hkt' hgt hpg
    gi_wp2_with (first
      | (refine wpListIn_load_mid rfl 71 _ rfl b2 0 rfl L _ hra Tryz.underlying71 rfl hi18b ?_)
      | (gi_at_builtin; refine wpListIn_append_own _ rfl _ _ 68 rfl (w.heap.size + 1) 71 m0 (memV (bareHd 0) (bareHd 0) (.slice none 0 0) (.slice none 0 0)) 18 208 Tryz.underlying68 hm0 hmz0 hmz1 hmz2 rfl (by decide) _ _ _ rfl (hp1.row.alloc _) ⟨A.heap.size, 0, none⟩ 1 1 L rfl hcsm ?c1 ?c2 ?c3 ?c4 ?c5 ?_))
    case c1 => exact fun j u hu => cells_new _ _ _ j u (by rw [fold_set L _ (by rw [hcsm]; rfl)]; exact hu)
    case c2 => exact hone
    case c3 => unfold maxLen; omega
    case c4 => omega
    case c5 => simp; omega
    intro v' A10 hown' hgrow _
    obtain ⟨va, vc, rfl⟩ : ∃ a c, v' = .slice a (i + 1) c := by
      rcases hown'.2 with ⟨_, h0⟩ | ⟨g, cap, cur, rfl, _⟩
      · omega
      · exact ⟨_, _, rfl⟩
    have hone2 : ∀ k, k < w.heap.size + 1 → (Value.slice la i lc).ownBlock ≠ some k := fun k hlt e => by have := (hp1.own k e).1; omega
    have hk10 : Keep (fun k _ => (Value.slice la i lc).ownBlock ≠ some k) A A10 := ((Keep.refl _ A).alloc _).grown hgrow fun r hr o _ hs _ => hs hr
    have hlb10 : Boxed A10 w.heap.size 68 (.slice la i lc) := hk10.boxed hp1.sb (hone2 _ (by omega))
    have cl10 := hlb10.cell
    have fz10 := hlb10.frozen
    clear hgrow hra
    gi_wp2
    have hk11 : Keep (fun k _ => k ≠ w.heap.size) A10 (A10.setCell ⟨w.heap.size, 0, none⟩ (.slice va (i + 1) vc)) := (Keep.refl _ A10).setCell _ fun o _ hs _ => hs rfl
    have hlb11 : Boxed (A10.setCell ⟨w.heap.size, 0, none⟩ (.slice va (i + 1) vc)) w.heap.size 68 (.slice va (i + 1) vc) := hlb10.set _
    show (Keep _ A (A10.setCell ⟨w.heap.size, 0, none⟩ (.slice va (i + 1) vc))) ∧ _
    generalize (A10.setCell ⟨w.heap.size, 0, none⟩ (.slice va (i + 1) vc)) = A11 at hk11 hlb11
    have hkall : Keep (fun k _ => k ≠ w.heap.size ∧ (Value.slice la i lc).ownBlock ≠ some k) A A11 :=
      ⟨hk11.os.trans hk10.os, hk11.tape.trans hk10.tape, hk11.output.trans hk10.output, Nat.le_trans hk10.size hk11.size, fun k o ho hK => hk11.same k o (hk10.same k o ho hK.2) hK.1⟩
    have hkn : Keep (SeqK w) A A11 := hkall.mono fun k o ho hK => by
      rcases hK with ⟨c, f, rfl⟩ | ⟨h1, h2⟩
      · refine ⟨?_, ?_⟩
        · rintro rfl; have := hp1.sb; unfold Boxed at this; rw [this] at ho; cases ho
        · intro e; obtain ⟨_, c', hc⟩ := hp1.own k e; rw [hc] at ho; cases ho
      · refine ⟨h1, fun e => ?_⟩
        obtain ⟨h3, c', hc⟩ := hp1.own k e
        rw [hc] at ho; cases ho
        rcases h2 with h2 | h2
        · omega
        · exact h2 _ _ rfl
    have hsm : ∀ m : Mem, m.good S A → m.good S A11 := fun m hm => ⟨hm.1, hm.2.1, hm.2.2.1.keep hkn fun _ _ c f => .inl ⟨c, f, rfl⟩, hm.2.2.2.keep hkn fun _ _ c f => .inl ⟨c, f, rfl⟩⟩
    refine ⟨hkn, ms ++ [M], .slice va (i + 1) vc, ?_⟩
    exact {
      len := by rw [List.length_append, hp1.len]; rfl
      prs := by rw [HT.out, List.map_append, hp1.prs, List.map_cons, List.map_nil, hpair]
      good := fun m hm => by
        rcases List.mem_append.1 hm with h | h
        · exact hsm m (hp1.good m h)
        · rw [List.mem_singleton.1 h]; exact hsm _ (HG.out A (Keep.refl _ _))
      sb := hlb11
      row := by
        rw [flatM_append]
        have := own_keep hown' hk11 fun g _ hg _ => (by omega : g ≠ w.heap.size)
        simpa [flatM, hL] using this
      fr := ⟨hkall.os.trans hp1.fr.os, hkall.tape.trans hp1.fr.tape, hkall.output.trans hp1.fr.output, Nat.le_trans hp1.fr.size hkall.size, fun k o hko _ => hkall.same k o (hp1.fr.same k o hko trivial) (by have := lt_of_some hko; exact ⟨by omega, hone2 _ (by omega)⟩)⟩
      sz := Nat.le_trans hp1.sz hkall.size }
  case hdone =>
    rintro D A hD ⟨ms, lv2, hp⟩ _ hkD hDB
    have hlenp := pairsM_len l
    have hall : ms.map Mem.pair = pairsM l := by rw [hp.prs, ← hlenp, List.take_length]
    have HALL := Lib.hid hall
    obtain ⟨la, ln, lc, rfl⟩ : ∃ a n c, lv2 = .slice a n c := by
      rcases hp.row.2 with ⟨rfl, _⟩ | ⟨g, cap, cur, rfl, _⟩
      · exact ⟨_, _, _, rfl⟩
      · exact ⟨_, _, _, rfl⟩
    have cl := hp.sb.cell
    clear hall hr hI0 hkt hok hlenp
    gi_wp2
    have hkp := (Keep.refl (fun k o => k ≠ D ∨ o.isCells = true) A).putObj (r := D) (.deferred none) fun o ho hs _ => by rw [hDB] at ho; cases ho; rcases hs with h | h; exact h rfl; cases h
    refine ⟨by simp, .inl ⟨_, _, rfl, run_takeDeferred hDB, ?_⟩⟩
    refine ⟨_, results_tmp rfl _ _ _, ms, _, rfl, HALL.out, fun m hm => ?_, ?_, ?_⟩
    · have := hp.good m hm
      exact ⟨this.1, this.2.1, this.2.2.1.keep hkp fun _ _ _ _ => .inr rfl, this.2.2.2.keep hkp fun _ _ _ _ => .inr rfl⟩
    · rw [hp.len]
      exact own_keep hp.row hkp fun _ _ _ _ => .inr rfl
    · exact ⟨hkp.os.trans hp.fr.os, hkp.tape.trans hp.fr.tape, hkp.output.trans hp.fr.output, Nat.le_trans hp.fr.size hkp.size, fun k o hko _ => hkp.same k o (hp.fr.same k o hko trivial) (.inl (by have := lt_of_some hko; omega))⟩
  case hstop => rintro D i c A _ _ h; exact h.elim
set_option maxRecDepth 100000 in
set_option maxHeartbeats 2000000 in
theorem collect_any (S : Nat → Prop) (l : List Tree) (lv : Value) (bx : Nat) (w : World) (hr : RepS S w l lv) (hbx : Boxed w bx 25 lv) (hl40 : l.length ≤ 40) (hkt : KeyTexts l) (hok : ∀ x ∈ l, x.hd.s.size ≤ 1099511627776) :
    Calls Tryz.prog 44 #[.func (.func 70) #[] #[.pointer (some ⟨bx, 0, none⟩)]] w fun e w' => ∃ ms v', e = .returned v' ∧ ms.map Mem.pair = pairsM l ∧ (∀ m ∈ ms, m.good S w') ∧ w'.ownsRow (w.heap.size + 1) 71 18 v' ms.length (flatM ms) ∧ Same w w' := by
  have ha := appendSeq_any S l lv bx w hr hbx hl40 hkt hok
  clear hr hbx hkt hok
  go_enter Tryz.func44, Tryz.ntmps44
  go_wp2_with (go_at_call 69; refine ha.mono ?_; rintro e w1 ⟨ms, v', rfl, h1, h2, h3, h4⟩)
  go_ret
  exact ⟨ms, _, rfl, h1, h2, h3, h4⟩
end Go.Tm

set_option linter.unusedVariables false
namespace Go.Tm
open Go.Sort
abbrev OwnJ (t : Tree) : Prop := ∀ x ∈ t.flat, ownT x = true ∧ fitsT 1 x = true
theorem ownJ_kid {h : Hd} {l : List Tree} (ho : OwnJ (.node h l)) {x : Tree} (hx : x ∈ l) : OwnJ x := ((flat_all (fun x => ownT x = true ∧ fitsT 1 x = true) (.node h l)).1 ho).2 x hx
theorem ownJ_self {t : Tree} (ho : OwnJ t) : ownT t = true ∧ fitsT 1 t = true := ((flat_all (fun x => ownT x = true ∧ fitsT 1 x = true) t).1 ho).1
theorem text_node {t : Tree} (h5 : t.hd.kind = 5) (ho : ownT t = true) : t.hd = textHd t.hd.s ∧ t.l = [] := by
  obtain ⟨h, l⟩ := t
  simp only [Tree.hd_node, Tree.l_node] at h5 ⊢
  have hb : bareT (.node h l) { bareHd 5 with s := h.s } = true := by
    have e : ownT (.node h l) = (bareT (.node h l) { bareHd 5 with s := h.s } && decide (h.s.size ≤ 400) && utfRight h.s) := by
      unfold ownT
      simp only [Tree.hd_node, h5]
      rfl
    rw [e, Bool.and_eq_true, Bool.and_eq_true] at ho
    exact ho.1.1
  obtain ⟨e1, e2⟩ := bareT_eq hb
  refine ⟨?_, e1⟩
  rw [e2, h5]
  rfl
theorem pairsM_unpairs : ∀ ps : List (Tree × Tree), pairsM (unpairs ps) = ps.map fun p => (p.1.hd.s, p.2)
  | [] => rfl
  | p :: ps => by rw [unpairs_cons, pairsM, pairsM_unpairs ps]; rfl
theorem ordL_unpairs (ps : List (Tree × Tree)) : ordL (unpairs ps) = unpairs (ps.map fun p => (p.1.ord, p.2.ord)) := by
  rw [ordL_map]
  unfold unpairs
  rw [List.map_flatMap, List.flatMap_map]
  rfl
theorem keyTexts_unpairs : ∀ ps : List (Tree × Tree), (∀ p ∈ ps, p.1.hd = textHd p.1.hd.s ∧ p.1.l = []) → KeyTexts (unpairs ps)
  | [], _, i, h => absurd h (by simp [unpairs])
  | p :: ps, hp, 0, h => hp p List.mem_cons_self
  | p :: ps, hp, i + 1, h => by
    have := keyTexts_unpairs ps (fun q hq => hp q (List.mem_cons_of_mem _ hq)) i (by simp only [unpairs_cons, List.length_cons] at h; omega)
    simpa [unpairs_cons, Nat.mul_add] using this
theorem ord_keys {h : Hd} {l : List Tree} (h8 : h.kind = 8) (ho : OwnJ (.node h l)) : KeyTexts (ordL l) ∧ (pairsM (ordL l)).Pairwise fun x y => x.1 ≠ y.1 := by
  obtain ⟨o1, f1⟩ := ownJ_self ho
  have ho8 : l.length % 2 = 0 ∧ isTwice (keysOf l) = false := by
    have e : ownT (.node h l) = (decide (h = bareHd 8) && decide (l.length % 2 = 0) && !isTwice (keysOf l)) := by
      unfold ownT
      simp only [Tree.hd_node, Tree.l_node, h8]
      rfl
    rw [e, Bool.and_eq_true, Bool.and_eq_true, Bool.not_eq_true'] at o1
    exact ⟨of_decide_eq_true o1.1.2, o1.2⟩
  have hf8 : (keysOf l).all (isKeyT 1) = true := by
    have e : fitsT 1 (.node h l) = (true && (keysOf l).all (isKeyT 1)) := by
      unfold fitsT
      simp only [Tree.hd_node, Tree.l_node, h8]
      rfl
    rw [e, Bool.true_and] at f1
    exact f1
  obtain ⟨ps, rfl⟩ := even_pairs l ho8.1
  have hkid : ∀ p ∈ ps, OwnJ p.1 ∧ OwnJ p.2 := fun p hp => ⟨ownJ_kid ho (mem_unpairs.2 ⟨p, hp, .inl rfl⟩), ownJ_kid ho (mem_unpairs.2 ⟨p, hp, .inr rfl⟩)⟩
  have hnd := (twice_iff _).1 ho8.2
  rw [keys_unpairs] at hnd hf8
  have hkt : ∀ p ∈ ps, p.1.hd = textHd p.1.hd.s ∧ p.1.l = [] := fun p hp => by
    have hk := List.all_eq_true.1 hf8 p.1 (List.mem_map.2 ⟨p, hp, rfl⟩)
    refine text_node ?_ (ownJ_self (hkid p hp).1).1
    unfold isKeyT at hk
    by_cases h5 : p.1.hd.kind = 5
    · exact h5
    · rw [if_neg h5, if_pos rfl] at hk; cases hk
  have hord : ∀ p ∈ ps, p.1.ord = p.1 := fun p hp => by
    rw [← Tree.eta p.1, (hkt p hp).2]; exact ord_leaf _
  rw [ordL_unpairs]
  refine ⟨keyTexts_unpairs _ ?_, ?_⟩
  · intro q hq
    obtain ⟨p, hp, rfl⟩ := List.mem_map.1 hq
    rw [hord p hp]; exact hkt p hp
  · rw [pairsM_unpairs, List.map_map, List.pairwise_map]
    refine (List.Pairwise.and_mem.1 (List.pairwise_map.1 hnd)).imp fun {a b} hab e => hab.2.2 ?_
    simp only [Function.comp_apply] at e
    rw [hord a hab.1, hord b hab.2.1] at e
    rw [← Tree.eta a.1, ← Tree.eta b.1, (hkt a hab.1).1, (hkt b hab.2.1).1, (hkt a hab.1).2, (hkt b hab.2.1).2, e]
theorem ordL_len (l : List Tree) : (ordL l).length = l.length := by rw [ordL_map, List.length_map]
def ordTo (l : List Tree) (k : Nat) : List Tree := ordL (l.take k) ++ l.drop k
theorem ordTo_zero (l : List Tree) : ordTo l 0 = l := by simp [ordTo, ordL]
theorem ordTo_all (l : List Tree) : ordTo l l.length = ordL l := by simp [ordTo]
theorem ordTo_len (l : List Tree) (k : Nat) : (ordTo l k).length = l.length := by
  unfold ordTo
  rw [List.length_append, ordL_len, List.length_take, List.length_drop]; omega
theorem ordTo_get (l : List Tree) (k : Nat) (h : k < l.length) : (ordTo l k)[k]'(by rw [ordTo_len]; exact h) = l[k] := by
  unfold ordTo
  rw [List.getElem_append_right (by rw [ordL_len, List.length_take]; omega)]
  simp only [ordL_len, List.length_take, List.getElem_drop]
  congr 1; omega
theorem ordTo_next (l : List Tree) (k : Nat) (h : k < l.length) : (ordTo l k).set k l[k].ord = ordTo l (k + 1) := by
  unfold ordTo
  have e1 : (ordL (l.take k)).length = k := by rw [ordL_len, List.length_take]; omega
  rw [List.set_append_right _ _ (by omega), e1, Nat.sub_self, List.drop_eq_getElem_cons h, List.set_cons_zero, List.take_succ_eq_append_getElem h, ordL_map, ordL_map, List.map_append]
  simp
end Go.Tm

set_option linter.unusedVariables false
namespace Go.Tm
open Go.RowKit Go.Proofs
theorem OwnL.none {S : Nat → Prop} {w : World} {B n c : Nat} {l : List Tree} (h : OwnL S w B (.slice none n c) l) : l = [] ∧ n = 0 ∧ c = 0 := by
  obtain ⟨xs, h, hr⟩ := h
  rcases h.2 with ⟨e, h0⟩ | ⟨g, cap, cur, e, _⟩
  · cases e
    exact ⟨List.length_eq_zero_iff.1 h0, rfl, rfl⟩
  · cases e
theorem repL_cells {S : Nat → Prop} {w : World} : ∀ {l : List Tree} {xs : List Value}, RepL S w l xs → ∀ u ∈ xs, u.oneCell' = true
  | [], xs, h, u, hu => by rw [RepL] at h; subst h; cases hu
  | .node h k :: l, xs, hh, u, hu => by
    rw [RepL] at hh
    obtain ⟨cs, rest, rfl, h1, h2⟩ := hh
    rcases List.mem_append.1 hu with hu | hu
    · obtain ⟨_, lv, rfl, h3⟩ := rep_node.1 h1
      obtain ⟨a, c, rfl⟩ := h3.is_slice
      exact node_one _ _ _ _ u hu
    · exact repL_cells h2 u hu
end Go.Tm

set_option linter.unusedVariables false
namespace Go.Tm
open Go.RowKit Go.Proofs
theorem RepS.row {S : Nat → Prop} {w : World} {l : List Tree} {lv : Value} (h : RepS S w l lv) : (lv = .slice none 0 0 ∧ l = []) ∨ ∃ ad c xs, lv = .slice (some ad) l.length c ∧ RepL S w l xs ∧ ∀ j u, xs[j]? = some u → w.cell? (ad.add j) = some u := by
  obtain ⟨xs, ⟨hn, h | ⟨b, off, cap, cur, f, e, hS, hb, hc, h1, h2⟩⟩, hl⟩ := h
  · exact .inl ⟨h.1, List.length_eq_zero_iff.1 h.2.1⟩
  · refine .inr ⟨⟨b, off, none⟩, cap, xs, e, hl, fun j u hj => ?_⟩
    rw [Lib.add_plain]
    rw [h2] at hj
    have hj9 : j < 9 * l.length := by
      have := (List.getElem?_eq_some_iff.1 hj).1
      simp only [List.length_take] at this; omega
    rw [List.getElem?_take_of_lt hj9, List.getElem?_drop] at hj
    unfold World.cell?
    simp only [hb]
    simpa using hj
set_option maxRecDepth 100000 in
set_option maxHeartbeats 2000000 in
theorem cloneN_any (l : List Tree) (S : Nat → Prop) (lv : Value) (w : World) (hl : RepS S w l lv) (hlen : l.length ≤ 1000) :
    Calls Tryz.prog 42 #[lv] w fun e w' => ∃ v', e = .returned v' ∧ OwnL S w' w.heap.size v' l ∧ Same w w' := by
  have hnil : ∀ (W : World) (a : Option Addr) (n c : Nat), (binOp .eql 25 (.slice a n c) (.slice none 0 0)).run Tryz.prog W = .ok (.bool a.isNone) W := fun W a n c => Lib.run_eql_slice_nil W _ _ a n c 0 0 Tryz.underlying25
  rcases hl.row with ⟨rfl, rfl⟩ | ⟨ad, c, xs, rfl, hrep, hcells⟩
  · go_enter Tryz.func42, Tryz.ntmps42
    go_wp2
    go_ret
    exact ⟨_, rfl, OwnL.nil _ _ _, (by repeat (first | with_reducible exact Keep.refl _ _ | with_reducible refine Keep.alloc ?_ _ | with_reducible refine Keep.drew ?_ | with_reducible refine Keep.drewN ?_ _ | with_reducible refine Keep.trans ?_ (by assumption)))⟩
  · have hown0 : OwnL S (w.alloc (.cells #[] 27)) w.heap.size (.slice (some ⟨w.heap.size, 0, none⟩) 0 0) [] := ⟨[], World.ownsRow_made w #[] 0 (Nat.le_refl _) (by decide) rfl, by rw [RepL]⟩
    have hs : Same w (w.alloc (.cells #[] 27)) := (Keep.refl _ _).alloc _
    have hn : RepL (fun b => S b ∧ (Value.slice (some ⟨w.heap.size, 0, none⟩) 0 0).ownBlock ≠ some b) (w.alloc (.cells #[] 27)) l xs := (hrep.mono fun b hb h => ⟨h, by simp [Value.ownBlock]; omega⟩).keep hs fun _ _ _ _ => trivial
    go_enter Tryz.func42, Tryz.ntmps42
    go_wp2_with (at_builtin; refine wpList_append_trees (v := .slice (some ⟨w.heap.size, 0, none⟩) 0 0) (ts := l) (news := xs) (ad := ad) (c := c) (m := l.length) rfl _ _ rfl rfl rfl hown0 rfl hn ?c3 (repL_cells hrep) ?c4 ?c5 ?_)
    case c3 => exact fun j u hu => hs.cell (hcells j u hu) fun _ _ => trivial
    case c4 => simp only [List.length_nil]; omega
    case c5 => simp
    intro v' w1 hown hg
    have hk1 : Same w w1 := hs.grown hg fun r hr o ho _ hlt => by simp [Value.ownBlock] at hr; omega
    go_wp2
    go_ret
    exact ⟨_, rfl, by simpa using hown, hk1⟩
end Go.Tm

set_option linter.unusedVariables false
namespace Go.Tm
open Go.RowKit Go.Proofs
theorem RepL.set {S : Nat → Prop} {w : World} {t : Tree} {cs : List Value} (ht : t.Rep S w cs) : ∀ {l : List Tree} {xs : List Value} (i : Nat), i < l.length → RepL S w l xs → RepL S w (l.set i t) (xs.take (9 * i) ++ cs ++ xs.drop (9 * (i + 1)))
  | x :: l, xs, 0, _, h => by
    rw [RepL] at h
    obtain ⟨c0, rest, rfl, h1, h2⟩ := h
    have h9 := Rep.length h1
    rw [List.set_cons_zero, RepL]
    refine ⟨cs, rest, ?_, ht, h2⟩
    rw [Nat.mul_zero, List.take_zero, List.nil_append, show 9 * (0 + 1) = c0.length by omega, List.drop_left]
  | x :: l, xs, i + 1, hi, h => by
    rw [RepL] at h
    obtain ⟨c0, rest, rfl, h1, h2⟩ := h
    have h9 := Rep.length h1
    have ih := RepL.set ht i (by simpa using hi) h2
    rw [List.set_cons_succ, RepL]
    refine ⟨c0, rest.take (9 * i) ++ cs ++ rest.drop (9 * (i + 1)), ?_, h1, ih⟩
    have e1 : (c0 ++ rest).take (9 * (i + 1)) = c0 ++ rest.take (9 * i) := by
      rw [show 9 * (i + 1) = c0.length + 9 * i by omega]; exact List.take_length_add_append _
    have e2 : (c0 ++ rest).drop (9 * (i + 1 + 1)) = rest.drop (9 * (i + 1)) := by
      rw [show 9 * (i + 1 + 1) = c0.length + 9 * (i + 1) by omega]; exact List.drop_length_add_append _
    rw [e1, e2, List.append_assoc, List.append_assoc, List.append_assoc]
def setMany (L : List Value) (o : Nat) : List Value → List Value
  | [] => L
  | c :: cs => setMany (L.set o c) (o + 1) cs
theorem setMany_eq : ∀ (cs : List Value) (o : Nat) (L : List Value), o + cs.length ≤ L.length → setMany L o cs = L.take o ++ cs ++ L.drop (o + cs.length)
  | [], o, L, h => by simp [setMany]
  | c :: cs, o, L, h => by
    simp only [List.length_cons] at h
    rw [setMany, setMany_eq cs (o + 1) (L.set o c) (by rw [List.length_set]; omega)]
    have h1 : (L.set o c).take (o + 1) = L.take o ++ [c] := by
      rw [List.set_eq_take_append_cons_drop, if_pos (by omega)]
      have : (L.take o).length = o := by rw [List.length_take]; omega
      conv => lhs; rw [show o + 1 = (L.take o).length + 1 by omega]
      rw [List.take_length_add_append]
      simp
    have h2 : (L.set o c).drop (o + 1 + cs.length) = L.drop (o + (c :: cs).length) := by
      rw [List.drop_set_of_lt (by omega), List.length_cons]
      congr 1; omega
    rw [h1, h2]
    simp
theorem setMany_len : ∀ (cs : List Value) (o : Nat) (L : List Value), (setMany L o cs).length = L.length
  | [], _, _ => rfl
  | c :: cs, o, L => by rw [setMany, setMany_len cs, List.length_set]
def World.set9 (w : World) (g o : Nat) (a0 a1 a2 a3 a4 a5 a6 a7 a8 : Value) : World :=
  (((((((((w.setCell ⟨g, o, none⟩ a0).setCell ⟨g, o + 1, none⟩ a1).setCell ⟨g, o + 2, none⟩ a2).setCell ⟨g, o + 3, none⟩ a3).setCell ⟨g, o + 4, none⟩ a4).setCell ⟨g, o + 5, none⟩ a5).setCell ⟨g, o + 6, none⟩ a6).setCell ⟨g, o + 7, none⟩ a7).setCell ⟨g, o + 8, none⟩ a8)
theorem set9_keep (w : World) (g o : Nat) (a0 a1 a2 a3 a4 a5 a6 a7 a8 : Value) : Keep (fun k _ => k ≠ g) w (World.set9 w g o a0 a1 a2 a3 a4 a5 a6 a7 a8) := by
  unfold World.set9
  repeat (first | with_reducible exact Keep.refl _ _ | with_reducible refine Keep.setCell ?_ _ ?_ | exact fun o _ h _ => h rfl)
theorem set9_heap {w : World} {g o : Nat} {cur : Array Value} {t : TypeId} {f : Nat × Nat} (h : w.heap[g]? = some (.cells cur t f)) (a0 a1 a2 a3 a4 a5 a6 a7 a8 : Value) :
    ∃ cur', (World.set9 w g o a0 a1 a2 a3 a4 a5 a6 a7 a8).heap[g]? = some (.cells cur' t f) ∧ cur'.toList = setMany cur.toList o [a0, a1, a2, a3, a4, a5, a6, a7, a8] :=
  ⟨_, setCell_heap (setCell_heap (setCell_heap (setCell_heap (setCell_heap (setCell_heap (setCell_heap (setCell_heap (setCell_heap h o a0) (o + 1) a1) (o + 2) a2) (o + 3) a3) (o + 4) a4) (o + 5) a5) (o + 6) a6) (o + 7) a7) (o + 8) a8, by simp [setMany]⟩
theorem OwnL.set {S : Nat → Prop} {w : World} {B g n cap : Nat} {l : List Tree} (h : OwnL S w B (.slice (some ⟨g, 0, .none⟩) n cap) l) (i : Nat) (hi : i < l.length) (q : Hd) (m : List Tree) (mv : Value) (hq : q.ok) (hm : RepS (fun b => S b ∧ b ≠ g) w m mv) :
    OwnL S (World.set9 w g (9 * i) (.int .i64 q.kind) (.bool q.b) (.bool q.d.neg) (.string q.d.digits) (.int .i64 q.d.exp) (.int .u64 q.u) (.int .i64 q.w) (.string q.s) mv) B (.slice (some ⟨g, 0, .none⟩) n cap) (l.set i (.node q m)) := by
  obtain ⟨xs, ⟨hx, hr⟩, hrep⟩ := h
  rcases hr with ⟨e, _⟩ | ⟨g', cap', cur, e, hb, hg, hnc, hcm, hcs, htk⟩
  · cases e
  · cases e
    obtain ⟨cur', hg', hcl⟩ := set9_heap (o := 9 * i) hg (.int .i64 q.kind) (.bool q.b) (.bool q.d.neg) (.string q.d.digits) (.int .i64 q.d.exp) (.int .u64 q.u) (.int .i64 q.w) (.string q.s) mv
    have hk := set9_keep w g (9 * i) (.int .i64 q.kind) (.bool q.b) (.bool q.d.neg) (.string q.d.digits) (.int .i64 q.d.exp) (.int .u64 q.u) (.int .i64 q.w) (.string q.s) mv
    have hset : RepL (fun b => S b ∧ (Value.slice (some ⟨g, 0, .none⟩) l.length cap).ownBlock ≠ some b) w (l.set i (.node q m)) (xs.take (9 * i) ++ nodeCs q mv ++ xs.drop (9 * (i + 1))) :=
      RepL.set (rep_node.2 ⟨hq, mv, rfl, hm.mono fun b _ hh => ⟨hh.1, by simp [Value.ownBlock]; exact fun e => hh.2 e.symm⟩⟩) i hi hrep
    have hlen : cur.toList.length = cap * 9 := by rw [Array.length_toList, hcs]
    have hmany := setMany_eq (nodeCs q mv) (9 * i) cur.toList (by simp only [List.length_cons, List.length_nil]; omega)
    refine ⟨xs.take (9 * i) ++ nodeCs q mv ++ xs.drop (9 * (i + 1)), ⟨?_, .inr ⟨g, cap, cur', ?_, hb, hg', ?_, hcm, ?_, ?_⟩⟩, ?_⟩
    · rw [List.length_set]
      simp only [List.length_append, List.length_take, List.length_drop, List.length_cons, List.length_nil]
      omega
    · rw [List.length_set]
    · rw [List.length_set]; omega
    · rw [← Array.length_toList, hcl, setMany_len, hlen]
    · rw [List.length_set, hcl]
      rw [show ([.int .i64 q.kind, .bool q.b, .bool q.d.neg, .string q.d.digits, .int .i64 q.d.exp, .int .u64 q.u, .int .i64 q.w, .string q.s, mv] : List Value) = nodeCs q mv from rfl, hmany, ← htk]
      have hA : (cur.toList.take (9 * i)).length = 9 * i := by rw [List.length_take]; omega
      rw [List.take_take, Nat.min_eq_left (by omega), List.drop_take, List.append_assoc, List.append_assoc]
      obtain ⟨R, hR⟩ : ∃ R, l.length * 9 = (cur.toList.take (9 * i)).length + ((nodeCs q mv).length + R) := ⟨l.length * 9 - 9 * i - 9, by rw [hA]; simp only [List.length_cons, List.length_nil]; omega⟩
      have hR2 : l.length * 9 - 9 * (i + 1) = R := by rw [hR, hA]; simp only [List.length_cons, List.length_nil]; omega
      rw [hR2, hR, List.take_length_add_append, List.take_length_add_append]
      rw [show 9 * i + (nodeCs q mv).length = 9 * (i + 1) from rfl]
    · exact hset.keep hk fun b hh c f => by
        intro e
        exact hh.2 (by rw [e]; rfl)
end Go.Tm

set_option linter.unusedVariables false
namespace Go.Tm
open Go.RowKit Go.Proofs Go.Sort Go.Shelf
def OrdOut (S : Nat → Prop) (t : Tree) (w : World) : Ending → World → Prop := fun e w' => ∃ lv', e = .returned (nodeV t.hd lv') ∧ RepS S w' t.ord.l lv' ∧ Same w w'
def OrdAt (t : Tree) : Prop := ∀ (S : Nat → Prop) (lv : Value) (w : World), t.hd.ok → RepS S w t.l lv → (∀ k, w.heap.size ≤ k → S k) → Calls Tryz.prog 31 #[nodeV t.hd lv] w (OrdOut S t w)
theorem OwnL.block {S : Nat → Prop} {w : World} {B n c : Nat} {a : Option Addr} {l : List Tree} (h : OwnL S w B (.slice a n c) l) (h0 : 0 < l.length) : ∃ g cur, a = some ⟨g, 0, .none⟩ ∧ B ≤ g ∧ w.heap[g]? = some (.cells cur 27 (0, 0)) := by
  obtain ⟨xs, ⟨hx, ⟨_, h1⟩ | ⟨g, cap, cur, e, hb, hg, _⟩⟩, _⟩ := h
  · omega
  · cases e; exact ⟨g, cur, rfl, hb, hg⟩
theorem OwnL.get {S : Nat → Prop} {w : World} {B g n c : Nat} {l : List Tree} (h : OwnL S w B (.slice (some ⟨g, 0, .none⟩) n c) l) (i : Nat) (hi : i < l.length) :
    ∃ lv, (l[i]).hd.ok ∧ RepS (fun b => S b ∧ b ≠ g) w (l[i]).l lv ∧ w.rangeAt g (i * 9) (nodeCs (l[i]).hd lv) := by
  obtain ⟨xs, hrow, hr⟩ := h
  have hcl := hrow.cells (g := g) rfl
  have hg := hr.get i hi
  have hx : l[i] = .node (l[i]).hd (l[i]).l := (Tree.eta _).symm
  rw [hx, rep_node] at hg
  obtain ⟨ho, lv, e, hr2⟩ := hg
  refine ⟨lv, ho, hr2.mono fun b _ hh => ⟨hh.1, fun e => hh.2 (by rw [e]; rfl)⟩, fun j v hj => ?_⟩
  rw [← e] at hj
  have hj9 : j < 9 := by
    have := (List.getElem?_eq_some_iff.1 hj).1
    simp only [List.length_take] at this; omega
  rw [List.getElem?_take_of_lt hj9, List.getElem?_drop] at hj
  have := hcl _ _ hj
  rw [Lib.add_plain] at this
  simpa [Nat.mul_comm] using this
theorem same_two {w a b c : World} {x y : Nat} (h : Same w a) (h1 : Keep (fun k _ => k ≠ x) a b) (h2 : Keep (fun k _ => k ≠ y) b c) (hx : w.heap.size ≤ x) (hy : w.heap.size ≤ y) : Same w c :=
  ⟨h2.os.trans (h1.os.trans h.os), h2.tape.trans (h1.tape.trans h.tape), h2.output.trans (h1.output.trans h.output), Nat.le_trans h.size (Nat.le_trans h1.size h2.size), fun k o hk _ => h2.same k o (h1.same k o (h.same k o hk trivial) (by have := lt_of_some hk; omega)) (by have := lt_of_some hk; omega)⟩
set_option maxRecDepth 100000 in
set_option maxHeartbeats 1000000 in
theorem inOrder_step (h : Hd) (l : List Tree) (ih : ∀ x ∈ l, OrdAt x) (hl40 : l.length ≤ 40) (hoj : OwnJ (.node h l)) : OrdAt (.node h l) := by
  intro S lv w ho hr hS
  simp only [Tree.hd_node, Tree.l_node] at ho hr
  have hord : (Tree.node h l).ord.l = if h.kind = 8 then sortM (pairsM (ordL l)) else ordL l := by rw [Tree.ord]; rfl
  have hkeys := fun h8 => ord_keys (h := h) (l := l) h8 hoj
  unfold OrdOut
  rw [hord]
  simp only [Tree.hd_node]
  have hr0 : RepS (fun x => S x ∧ (x < w.heap.size ∨ w.heap.size + 2 ≤ x)) w l lv := hr.mono fun b hb hh => ⟨hh, .inl hb⟩
  have hS0 : ∀ k, w.heap.size + 2 ≤ k → S k ∧ (k < w.heap.size ∨ w.heap.size + 2 ≤ k) := fun k hk => ⟨hS k (by omega), .inr hk⟩
  obtain ⟨S0, hSS⟩ : ∃ S0 : Nat → Prop, S0 = (fun x => S x ∧ (x < w.heap.size ∨ w.heap.size + 2 ≤ x)) := ⟨_, rfl⟩
  have hSm : ∀ b, S0 b → S b := fun b hb => by rw [hSS] at hb; exact hb.1
  have hSne : ∀ b, S0 b → b ≠ w.heap.size ∧ b ≠ w.heap.size + 1 := fun b hb => by rw [hSS] at hb; have := hb.2; omega
  replace hS0 : ∀ k, w.heap.size + 2 ≤ k → S0 k := fun k hk => by rw [hSS]; exact hS0 k hk
  rw [← hSS] at hr0
  clear hSS hr hoj hord hS
  have hcl := fun W (hs : Same w W) => cloneN_any l S0 lv W (hr0.same hs) (by omega)
  have hz0 := ordTo_zero l
  have hza := ordTo_all l
  have hzl := ordTo_len l
  obtain ⟨a, cap, rfl⟩ := hr0.is_slice
  obtain ⟨n, hn⟩ : ∃ n, l.length = n := ⟨_, rfl⟩
  rw [hn] at hcl hl40 hza hzl ⊢
  have hbn : ((w.alloc (.cells #[.int .i64 h.kind, .bool h.b, .bool h.d.neg, .string h.d.digits, .int .i64 h.d.exp, .int .u64 (h.u : Int), .int .i64 h.w, .string h.s, .slice a n cap] 27)).alloc (.cells #[.int .i64 0, .bool false, .bool false, .string ⟨#[]⟩, .int .i64 0, .int .u64 0, .int .i64 0, .string ⟨#[]⟩, .slice none 0 0] 27)).heap[w.heap.size]? = some (.cells #[.int .i64 h.kind, .bool h.b, .bool h.d.neg, .string h.d.digits, .int .i64 h.d.exp, .int .u64 (h.u : Int), .int .i64 h.w, .string h.s, .slice a n cap] 27 (0, 0)) := heap_old (World.alloc_heap_new w _)
  have hbr : ((w.alloc (.cells #[.int .i64 h.kind, .bool h.b, .bool h.d.neg, .string h.d.digits, .int .i64 h.d.exp, .int .u64 (h.u : Int), .int .i64 h.w, .string h.s, .slice a n cap] 27)).alloc (.cells #[.int .i64 0, .bool false, .bool false, .string ⟨#[]⟩, .int .i64 0, .int .u64 0, .int .i64 0, .string ⟨#[]⟩, .slice none 0 0] 27)).heap[w.heap.size + 1]? = some (.cells #[.int .i64 0, .bool false, .bool false, .string ⟨#[]⟩, .int .i64 0, .int .u64 0, .int .i64 0, .string ⟨#[]⟩, .slice none 0 0] 27 (0, 0)) := heap_new' (by simp)
  have hk1 : Same w ((w.alloc (.cells #[.int .i64 h.kind, .bool h.b, .bool h.d.neg, .string h.d.digits, .int .i64 h.d.exp, .int .u64 (h.u : Int), .int .i64 h.w, .string h.s, .slice a n cap] 27)).alloc (.cells #[.int .i64 0, .bool false, .bool false, .string ⟨#[]⟩, .int .i64 0, .int .u64 0, .int .i64 0, .string ⟨#[]⟩, .slice none 0 0] 27)) := (by repeat (first | with_reducible exact Keep.refl _ _ | with_reducible refine Keep.alloc ?_ _ | with_reducible refine Keep.drew ?_ | with_reducible refine Keep.drewN ?_ _ | with_reducible refine Keep.trans ?_ (by assumption)))
  have hz1 : ((w.alloc (.cells #[.int .i64 h.kind, .bool h.b, .bool h.d.neg, .string h.d.digits, .int .i64 h.d.exp, .int .u64 (h.u : Int), .int .i64 h.w, .string h.s, .slice a n cap] 27)).alloc (.cells #[.int .i64 0, .bool false, .bool false, .string ⟨#[]⟩, .int .i64 0, .int .u64 0, .int .i64 0, .string ⟨#[]⟩, .slice none 0 0] 27)).heap.size = w.heap.size + 2 := by simp
  replace hcl := hcl _ hk1
  clear hr0
  obtain ⟨R, hR⟩ : ∃ R, (if h.kind = 8 then sortM (pairsM (ordL l)) else ordL l) = R := ⟨_, rfl⟩
  rw [hR]
  have HR := Lib.hid hR
  clear hR
  go_enter Tryz.func31, Tryz.ntmps31
  go_wp2_with fail
  refine hcl.mono ?_
  rintro e w3 ⟨v', rfl, hown, hk3⟩
  rw [hz1] at hown
  obtain ⟨va, vc, rfl⟩ := hown.is_slice
  rw [hn] at hown
  have hbn3 := hk3.same _ _ hbn trivial
  have hbr3 := hk3.same _ _ hbr trivial
  have hkw3 := hk1.trans hk3
  have hz3 : w.heap.size + 2 ≤ w3.heap.size := by have := hk3.size; omega
  obtain ⟨n0, n1, n2, n3, n4, n5, n6, n7, n8⟩ := cells9 hbn3
  have hfz : w3.frozen? ⟨w.heap.size, 8, none⟩ = false := Lib.frozen_of_heap hbn3 8
  clear hk3 hk1 hz1 hbn hbr hcl
  have hk4 : Keep (fun b _ => b ≠ w.heap.size) w3 (w3.setCell ⟨w.heap.size, 8, none⟩ (.slice va n vc)) := (Keep.refl _ w3).setCell _ fun o _ hs _ => hs rfl
  have hbn4 : (w3.setCell ⟨w.heap.size, 8, none⟩ (.slice va n vc)).heap[w.heap.size]? = some (.cells #[.int .i64 h.kind, .bool h.b, .bool h.d.neg, .string h.d.digits, .int .i64 h.d.exp, .int .u64 (h.u : Int), .int .i64 h.w, .string h.s, .slice va n vc] 27 (0, 0)) := setCell_heap hbn3 8 (.slice va n vc)
  go_wp2_with fail
  generalize (w3.setCell ⟨w.heap.size, 8, none⟩ (.slice va n vc)) = w4 at hk4 hbn4 ⊢
  have hbr4 := hk4.same _ _ hbr3 (by omega)
  have hkw4 : Same w w4 := ⟨hk4.os.trans hkw3.os, hk4.tape.trans hkw3.tape, hk4.output.trans hkw3.output, Nat.le_trans hkw3.size hk4.size, fun k o hk _ => hk4.same k o (hkw3.same k o hk trivial) (by have := lt_of_some hk; omega)⟩
  have hown4 : OwnL S0 w4 (w.heap.size + 2) (.slice va n vc) l := hown.keep hk4 fun b hb c f => by
    rcases hb with hb | hb
    · exact (hSne b hb).1
    · omega
  have hz4 : w.heap.size + 2 ≤ w4.heap.size := Nat.le_trans hz3 hk4.size
  clear hk4 hbn3 hbr3 hkw3 hown n0 n1 n2 n3 n4 n5 n6 n7 n8 hfz hz3
  obtain ⟨n0, n1, n2, n3, n4, n5, n6, n7, n8⟩ := cells9 hbn4
  go_wp2_with fail
  go_loopw [12] (fun iv wr => ∃ k : Nat, k ≤ n ∧ iv = .int .i64 (k : Int) ∧ wr.heap[w.heap.size]? = some (.cells #[.int .i64 h.kind, .bool h.b, .bool h.d.neg, .string h.d.digits, .int .i64 h.d.exp, .int .u64 (h.u : Int), .int .i64 h.w, .string h.s, .slice va n vc] 27 (0, 0)) ∧ wr.heap[w.heap.size + 1]? = some (.cells #[.int .i64 0, .bool false, .bool false, .string ⟨#[]⟩, .int .i64 0, .int .u64 0, .int .i64 0, .string ⟨#[]⟩, .slice none 0 0] 27 (0, 0)) ∧
    OwnL S0 wr (w.heap.size + 2) (.slice va n vc) (ordTo l k) ∧ Same w wr ∧ w.heap.size + 2 ≤ wr.heap.size) (fun iv _ => n - (RowKit.intOf iv).toNat)
  case atStart => exact ⟨0, Nat.zero_le _, rfl, hbn4, hbr4, by rw [hz0]; exact hown4, hkw4, hz4⟩
  case round =>
    obtain ⟨k, hkn, rfl, hb, hz, hown, hsm, hsz⟩ := hrel
    clear n0 n1 n2 n3 n4 n5 n6 n7 n8 hbn4 hbr4 hown4 hkw4 hz4
    by_cases hlt : k < n
    · have hkl : k < l.length := by omega
      obtain ⟨g, cur, rfl, hBg, hgc⟩ := hown.block (by rw [hzl]; omega)
      have hget := ordTo_get l k hkl
      have hnext := ordTo_next l k hkl
      obtain ⟨xlv, hxo, hxr, hxa⟩ := hown.get k (by rw [hzl]; exact hlt)
      have hihx := ih l[k] (List.getElem_mem hkl)
      rw [hget] at hxo hxr hxa
      have hxh : l[k].ord = .node l[k].hd l[k].ord.l := by rw [← ord_hd]; exact (Tree.eta _).symm
      rw [hxh] at hnext
      obtain ⟨xt, hxt⟩ : ∃ xt, l[k] = xt := ⟨_, rfl⟩
      rw [hxt] at hxo hxr hxa hihx hnext
      obtain ⟨ol, hol⟩ : ∃ ol, xt.ord.l = ol := ⟨_, rfl⟩
      have hcall := fun W (hs : Same wr W) => hihx (fun b => S0 b ∧ b ≠ g) xlv W hxo (hxr.same hs) (fun b hb => ⟨hS0 b (by have := hs.size; omega), by have := hs.size; have := lt_of_some hgc; omega⟩)
      unfold OrdOut at hcall
      rw [hol] at hnext hcall
      obtain ⟨q, xl⟩ := xt
      simp only [Tree.hd_node, Tree.l_node] at hxo hxr hxa hcall hnext
      obtain ⟨xa, xc, rfl⟩ := hxr.is_slice
      have HN := Lib.hid hnext
      obtain ⟨L, hL⟩ : ∃ L, ordTo l k = L := ⟨_, rfl⟩
      have hlL : k < L.length := by rw [← hL, hzl]; exact hlt
      rw [hL] at hown HN
      clear hnext hget hihx hxh hxt hol ih hL hxr
      obtain ⟨c0, c1, c2, c3, c4, c5, c6, c7, c8⟩ := nodeAt_of hxa
      go_wp2_with fail
      have hbx5 : (wr.alloc (.cells #[.int .i64 q.kind, .bool q.b, .bool q.d.neg, .string q.d.digits, .int .i64 q.d.exp, .int .u64 (q.u : Int), .int .i64 q.w, .string q.s, .slice xa xl.length xc] 27)).heap[wr.heap.size]? = some (.cells #[.int .i64 q.kind, .bool q.b, .bool q.d.neg, .string q.d.digits, .int .i64 q.d.exp, .int .u64 (q.u : Int), .int .i64 q.w, .string q.s, .slice xa xl.length xc] 27 (0, 0)) := World.alloc_heap_new wr _
      have hk5 : Same wr (wr.alloc (.cells #[.int .i64 q.kind, .bool q.b, .bool q.d.neg, .string q.d.digits, .int .i64 q.d.exp, .int .u64 (q.u : Int), .int .i64 q.w, .string q.s, .slice xa xl.length xc] 27)) := (Keep.refl _ _).alloc _
      have hz5 : (wr.alloc (.cells #[.int .i64 q.kind, .bool q.b, .bool q.d.neg, .string q.d.digits, .int .i64 q.d.exp, .int .u64 (q.u : Int), .int .i64 q.w, .string q.s, .slice xa xl.length xc] 27)).heap.size = wr.heap.size + 1 := by simp
      generalize (wr.alloc (.cells #[.int .i64 q.kind, .bool q.b, .bool q.d.neg, .string q.d.digits, .int .i64 q.d.exp, .int .u64 (q.u : Int), .int .i64 q.w, .string q.s, .slice xa xl.length xc] 27)) = W5 at hbx5 hk5 hz5 ⊢
      have hb5 := hk5.same _ _ hb trivial
      have hzr5 := hk5.same _ _ hz trivial
      have hown5 := hown.same hk5
      have hsm5 := hsm.trans hk5
      clear c0 c1 c2 c3 c4 c5 c6 c7 c8 hxa hb hz hown
      obtain ⟨n0, n1, n2, n3, n4, n5, n6, n7, n8⟩ := cells9 hb5
      obtain ⟨m0, m1, m2, m3, m4, m5, m6, m7, m8⟩ := cells9 hbx5
      refine (wpIn_wide (n := 0)).1 ?_
      refine wpIn_region_tailA (n := 0) (fun Z => Z.heap[w.heap.size]? = some (.cells #[.int .i64 h.kind, .bool h.b, .bool h.d.neg, .string h.d.digits, .int .i64 h.d.exp, .int .u64 (h.u : Int), .int .i64 h.w, .string h.s, .slice (some ⟨g, 0, none⟩) n vc] 27 (0, 0)) ∧ Z.heap[wr.heap.size]? = some (.cells #[.int .i64 q.kind, .bool q.b, .bool q.d.neg, .string q.d.digits, .int .i64 q.d.exp, .int .u64 (q.u : Int), .int .i64 q.w, .string q.s, .slice xa xl.length xc] 27 (0, 0))) reads (fun _ => trivial) rfl (by kernel_rfl) rfl (by kernel_rfl) (by kernel_rfl) ⟨hb5, hbx5⟩ ?_
      simp only [initL]
      refine shT_x rfl rfl ?_; intro K hK w' hs; obtain ⟨q0, q1, q2, q3, q4, q5, q6, q7, q8⟩ := cells9 hs.1; obtain ⟨p0, p1, p2, p3, p4, p5, p6, p7, p8⟩ := cells9 hs.2; go_simp; refine hK _ _ ?_; clear hK K p0 p1 p2 p3 p4 p5 p6 p7 p8 q0 q1 q2 q3 q4 q5 q6 q7 q8 hs w'
      refine shT_x rfl rfl ?_; intro K hK w' hs; obtain ⟨q0, q1, q2, q3, q4, q5, q6, q7, q8⟩ := cells9 hs.1; obtain ⟨p0, p1, p2, p3, p4, p5, p6, p7, p8⟩ := cells9 hs.2; go_simp; refine hK _ _ ?_; clear hK K p0 p1 p2 p3 p4 p5 p6 p7 p8 q0 q1 q2 q3 q4 q5 q6 q7 q8 hs w'
      refine shT_x rfl rfl ?_; intro K hK w' hs; obtain ⟨q0, q1, q2, q3, q4, q5, q6, q7, q8⟩ := cells9 hs.1; obtain ⟨p0, p1, p2, p3, p4, p5, p6, p7, p8⟩ := cells9 hs.2; go_simp; refine hK _ _ ?_; clear hK K p0 p1 p2 p3 p4 p5 p6 p7 p8 q0 q1 q2 q3 q4 q5 q6 q7 q8 hs w'
      refine shT_x rfl rfl ?_; intro K hK w' hs; obtain ⟨q0, q1, q2, q3, q4, q5, q6, q7, q8⟩ := cells9 hs.1; obtain ⟨p0, p1, p2, p3, p4, p5, p6, p7, p8⟩ := cells9 hs.2; go_simp; refine hK _ _ ?_; clear hK K p0 p1 p2 p3 p4 p5 p6 p7 p8 q0 q1 q2 q3 q4 q5 q6 q7 q8 hs w'
      refine shT_c rfl rfl ?_
      intro K hK
      go_simp
      refine (callsW (hcall _ (hk5.trans (by repeat (first | with_reducible exact Keep.refl _ _ | with_reducible refine Keep.alloc ?_ _ | with_reducible refine Keep.drew ?_ | with_reducible refine Keep.drewN ?_ _ | with_reducible refine Keep.trans ?_ (by assumption)))))).mono ?_
      rintro x' w6 ⟨lv6, rfl, hr6, hk6⟩
      have hk56 : Same W5 w6 := ⟨hk6.os, hk6.tape, hk6.output, hk6.size, hk6.same⟩
      have hb6 := hk56.same _ _ hb5 trivial
      have hbx6 := hk56.same _ _ hbx5 trivial
      have hzr6 := hk56.same _ _ hzr5 trivial
      have hown6 := hown5.same hk56
      have hsm6 := hsm5.trans hk56
      have hz6 : W5.heap.size ≤ w6.heap.size := hk56.size
      obtain ⟨a6, cc6, rfl⟩ := hr6.is_slice
      refine hK _ _ ⟨hb6, hbx6⟩ ?_
      clear hK K hcall hb5 hbx5 hzr5 hown5 hsm5 hk6 hk56 n0 n1 n2 n3 n4 n5 n6 n7 n8 m0 m1 m2 m3 m4 m5 m6 m7 m8
      refine shT_x rfl rfl ?_; intro K hK w' hs; obtain ⟨q0, q1, q2, q3, q4, q5, q6, q7, q8⟩ := cells9 hs.1; obtain ⟨p0, p1, p2, p3, p4, p5, p6, p7, p8⟩ := cells9 hs.2; go_simp; refine hK _ _ ?_; clear hK K p0 p1 p2 p3 p4 p5 p6 p7 p8 q0 q1 q2 q3 q4 q5 q6 q7 q8 hs w'
      refine shT_tail (tail_last rfl ?_)
      obtain ⟨g', cur6, e6, _, hgc6⟩ := hown6.block (by omega)
      cases e6
      have hfz : ∀ j, w6.frozen? ⟨g, j, none⟩ = false := Lib.frozen_of_heap hgc6
      obtain ⟨ylv, _, _, hya⟩ := hown6.get k hlL
      obtain ⟨c0, c1, c2, c3, c4, c5, c6, c7, c8⟩ := nodeAt_of hya
      go_simp
      have hset := hown6.set k hlL q ol (.slice a6 ol.length cc6) hxo hr6
      rw [Nat.mul_comm 9 k] at hset
      have hk67 := set9_keep w6 g (k * 9) (.int .i64 q.kind) (.bool q.b) (.bool q.d.neg) (.string q.d.digits) (.int .i64 q.d.exp) (.int .u64 q.u) (.int .i64 q.w) (.string q.s) (.slice a6 ol.length cc6)
      rw [HN.out] at hset
      obtain ⟨w7, hw7⟩ : ∃ w7, World.set9 w6 g (k * 9) (.int .i64 q.kind) (.bool q.b) (.bool q.d.neg) (.string q.d.digits) (.int .i64 q.d.exp) (.int .u64 q.u) (.int .i64 q.w) (.string q.s) (.slice a6 ol.length cc6) = w7 := ⟨_, rfl⟩
      rw [hw7] at hset hk67
      unfold World.set9 at hw7
      rw [hw7]
      have hb7 := hk67.same _ _ hb6 (by omega)
      have hzr7 := hk67.same _ _ hzr6 (by omega)
      have hsm7 : Same w w7 := ⟨hk67.os.trans hsm6.os, hk67.tape.trans hsm6.tape, hk67.output.trans hsm6.output, Nat.le_trans hsm6.size hk67.size, fun y o hy _ => hk67.same y o (hsm6.same y o hy trivial) (by have := lt_of_some hy; omega)⟩
      have hz7 := hk67.size
      clear hw7 c0 c1 c2 c3 c4 c5 c6 c7 c8 hya hfz hgc6 hown6 hsm6 hr6 hzr6 hb6 hbx6 hk67
      go_wp2
      refine ⟨?_, by simp [RowKit.intOf]; omega⟩
      exact ⟨k + 1, by omega, by go_num, hb7, hzr7, hset, hsm7, by omega⟩
    · obtain rfl : k = n := by omega
      rw [hza] at hown
      have hln : (ordL l).length = k := by rw [ordL_len, hn]
      obtain ⟨n0, n1, n2, n3, n4, n5, n6, n7, n8⟩ := cells9 hb
      by_cases h8 : h.kind = 8
      · obtain ⟨hkt, hdis⟩ := hkeys h8
        have hR8 : R = sortM (pairsM (ordL l)) := by rw [← HR.out, if_pos h8]
        have hrepL := hown.rep hS0 (by omega)
        have hks : ∀ x ∈ ordL l, x.hd.s.size ≤ 1099511627776 := fun x hx => by
          obtain ⟨i, hi, rfl⟩ := List.getElem_of_mem hx
          obtain ⟨_, _, _, _, _, hsh⟩ := hrepL.shape
          obtain ⟨_, _, _, _, _, _, _, hok, _⟩ := hsh i hi
          exact hok.2.2.2.2.2
        obtain ⟨OL, hOL⟩ : ∃ OL, ordL l = OL := ⟨_, rfl⟩
        rw [hOL] at hkt hdis hrepL hks hln hR8
        have HR8 := Lib.hid hR8
        clear hR8 HR
        have hcol := fun W bx hr hb => collect_any S0 OL (.slice va k vc) bx W hr hb (by omega) hkt hks
        have h8b : (h.kind == 8) = true := by simpa using h8
        have hfz : wr.frozen? ⟨w.heap.size, 8, none⟩ = false := Lib.frozen_of_heap hb 8
        have hz2 : Same wr (wr.alloc (.cells #[.slice va k vc] 25)) := (Keep.refl _ _).alloc _
        have hcol2 := hcol _ wr.heap.size (hrepL.same hz2) (World.alloc_heap_new wr _)
        clear hkeys ih hza hown hcol hkt hks h8
        go_wp2_with (go_at_call 45; refine (members_any _ _ _ _).mono ?_; rintro e w' ⟨rfl, h9⟩; replace h9 := h9.symm; subst h9)
        refine hcol2.mono ?_
        rintro e w8 ⟨ms, mv, rfl, hms, hgood, hrow, hk8⟩
        have hkr8 := hz2.trans hk8
        have hb8 := hkr8.same _ _ hb trivial
        have hzr8 := hkr8.same _ _ hz trivial
        have hmlen : ms.length ≤ 20 := by
          have := congrArg List.length hms
          rw [List.length_map, pairsM_len, hln] at this
          omega
        rw [← hms] at hdis
        have hsor := sorted_any S0 ms mv _ w8 hrow hmlen hgood hdis (fun b hb => hS0 b (by have := hkr8.size; omega))
        obtain ⟨ma, mn, mc, rfl⟩ : ∃ a n c, mv = .slice a n c := by
          rcases hrow.2 with ⟨rfl, _⟩ | ⟨g, cap, cur, rfl, _⟩
          · exact ⟨_, _, _, rfl⟩
          · exact ⟨_, _, _, rfl⟩
        clear hcol2 hrow hgood hdis n0 n1 n2 n3 n4 n5 n6 n7 n8 hz2 hfz hrepL
        go_wp2_with fail
        refine hsor.mono ?_
        rintro e w9 ⟨v9, rfl, hr9, hk9⟩
        obtain ⟨a9, c9, rfl⟩ := hr9.is_slice
        have hkr9 := hkr8.trans hk9
        have hb9 := hk9.same _ _ hb8 trivial
        have hzr9 := hk9.same _ _ hzr8 trivial
        have hsm9 := hsm.trans hkr9
        clear hsor hk9 hb8 hzr8 hkr8 hkr9 hk8
        obtain ⟨L9, hL9⟩ : ∃ L9, (sortM (ms.map Mem.pair)).length = L9 := ⟨_, rfl⟩
        rw [hL9] at hr9 ⊢
        rw [hms] at hr9
        rw [← HR8.out] at hr9
        clear HR8 hms hL9
        obtain ⟨n0, n1, n2, n3, n4, n5, n6, n7, n8⟩ := cells9 hb9
        have hfn : ∀ j, w9.frozen? ⟨w.heap.size, j, none⟩ = false := Lib.frozen_of_heap hb9
        have hkA : Keep (fun b _ => b ≠ w.heap.size) w9 (w9.setCell ⟨w.heap.size, 8, none⟩ (.slice a9 L9 c9)) := (Keep.refl _ w9).setCell _ fun o _ hs _ => hs rfl
        have hbA : (w9.setCell ⟨w.heap.size, 8, none⟩ (.slice a9 L9 c9)).heap[w.heap.size]? = some (.cells #[.int .i64 h.kind, .bool h.b, .bool h.d.neg, .string h.d.digits, .int .i64 h.d.exp, .int .u64 (h.u : Int), .int .i64 h.w, .string h.s, .slice a9 L9 c9] 27 (0, 0)) := setCell_heap hb9 8 (.slice a9 L9 c9)
        have hzA := hkA.same _ _ hzr9 (by omega)
        obtain ⟨d0, d1, d2, d3, d4, d5, d6, d7, d8⟩ := cells9 hbA
        obtain ⟨q0, q1, q2, q3, q4, q5, q6, q7, q8⟩ := cells9 hzA
        have hfz : ∀ j, (w9.setCell ⟨w.heap.size, 8, none⟩ (.slice a9 L9 c9)).frozen? ⟨w.heap.size + 1, j, none⟩ = false := Lib.frozen_of_heap hzA
        go_wp2_with fail
        (try simp only [Exit.inBlock, Exit.then])
        generalize (w9.setCell ⟨w.heap.size, 8, none⟩ (.slice a9 L9 c9)) = wA at hkA hbA hzA ⊢
        obtain ⟨h9, hkB⟩ := put9 hzA (.int .i64 h.kind) (.bool h.b) (.bool h.d.neg) (.string h.d.digits) (.int .i64 h.d.exp) (.int .u64 h.u) (.int .i64 h.w) (.string h.s) (.slice a9 L9 c9)
        have hfin := ((hr9.keep hkA fun y hy _ _ => (hSne y hy).1).keep hkB fun y hy _ _ => (hSne y hy).2).mono fun y _ hy => hSm y hy
        have hsB := same_two hsm9 hkA hkB (by omega) (by omega)
        refine bodyPost_ret (results_cell_row rfl _ _ (w.heap.size + 1) 27 _ (0, 0) _ rfl h9 Tryz.underlying27 rfl (by kernel_rfl)) rfl ⟨_, rfl, ?_, ?_⟩
        · exact hfin
        · exact hsB
      · have hR8 : R = ordL l := by rw [← HR.out, if_neg h8]
        have HR8 := Lib.hid hR8
        have h8b : (h.kind == 8) = false := by simpa using h8
        obtain ⟨q0, q1, q2, q3, q4, q5, q6, q7, q8⟩ := cells9 hz
        have hfz : ∀ j, wr.frozen? ⟨w.heap.size + 1, j, none⟩ = false := Lib.frozen_of_heap hz
        have hrepL := hown.rep hS0 (by omega)
        clear hR8 HR ih hkeys hza hown
        go_wp2_with fail
        (try simp only [Exit.inBlock, Exit.then])
        obtain ⟨h9, hk9⟩ := put9 hz (.int .i64 h.kind) (.bool h.b) (.bool h.d.neg) (.string h.d.digits) (.int .i64 h.d.exp) (.int .u64 h.u) (.int .i64 h.w) (.string h.s) (.slice va k vc)
        refine bodyPost_ret (results_cell_row rfl _ _ (w.heap.size + 1) 27 _ (0, 0) _ rfl h9 Tryz.underlying27 rfl (by kernel_rfl)) rfl ⟨_, rfl, ?_, ?_⟩
        · rw [HR8.out]; exact (hrepL.keep hk9 fun y hy _ _ => (hSne y hy).2).mono fun y _ hy => hSm y hy
        · exact ⟨hk9.os.trans hsm.os, hk9.tape.trans hsm.tape, hk9.output.trans hsm.output, Nat.le_trans hsm.size hk9.size, fun y o hy _ => hk9.same y o (hsm.same y o hy trivial) (by have := lt_of_some hy; omega)⟩
end Go.Tm

set_option linter.unusedVariables false
namespace Go.Tm
open Go.RowKit Go.Proofs
def sortTM (t : Tree) : Tree × Int := if checkT t 1 ≠ 0 then (.node (bareHd 0) [], checkT t 1) else (t.ord, 0)
def isCommonM (t : Tree) : Bool := decide ((sortTM t).2 = 0) && (sortTM t).1.same t
theorem common_res' (T : Array Value) (W : World) (bx : Nat) (h : Hd) (lv : Value) (e : Int) (h2 : T.getD 2 undef = .pointer (some ⟨bx, 0, none⟩)) (h3 : T.getD 3 undef = .int .i64 e)
    (hrow : W.heap[bx]? = some (.cells #[.int .i64 h.kind, .bool h.b, .bool h.d.neg, .string h.d.digits, .int .i64 h.d.exp, .int .u64 (h.u : Int), .int .i64 h.w, .string h.s, lv] 27 (0, 0))) : (results Tryz.f18 T).run Tryz.prog W = .ok (.tuple #[nodeV h lv, .int .i64 e]) W := by
  have hld := run_loadVar_row (P := Tryz.prog) W bx 27 27 _ (0, 0) _ hrow Tryz.underlying27 rfl (by kernel_rfl)
  rw [results_cell_tmp rfl, h2, h3]
  simp [asAddr, hld, Result.andThen]
theorem inOrder_any : ∀ t : Tree, OwnJ t → (∀ x ∈ t.flat, x.l.length ≤ 40) → OrdAt t := by
  refine Tree.ind fun h l ih ho hl => ?_
  refine inOrder_step h l (fun x hx => ih x hx (ownJ_kid ho hx) fun y hy => ?_) ?_ ho
  · exact ((flat_all (fun x => x.l.length ≤ 40) (.node h l)).1 hl).2 x hx y hy
  · exact ((flat_all (fun x => x.l.length ≤ 40) (.node h l)).1 hl).1
set_option maxRecDepth 100000 in
set_option maxHeartbeats 4000000 in
theorem sort_any {N : Nat} {E : Errs} (t : Tree) (S : Nat → Prop) (lv : Value) (w : World) (hG : Glob N E w) (hdep : t.depth ≤ 1000000) (ho : t.hd.ok) (hr : RepS S w t.l lv) (hS : ∀ k, w.heap.size ≤ k → S k) (hl : ∀ x ∈ t.flat, x.l.length ≤ 40) :
    Calls Tryz.prog 18 #[nodeV t.hd lv] w (OutC S (sortTM t) w) := by
  have hchk := fun W (hs : Same w W) => check_any (N := N) (E := E) 1 t lv W (hG.same hs) (by omega) ((hr.same hs).mono fun _ _ _ => trivial) ho
  obtain ⟨q, hq⟩ : ∃ q, checkT t 1 = q := ⟨_, rfl⟩
  have hrun := fun (hq0 : q = 0) W (hs : Same w W) => inOrder_any t (check_all (hq.trans hq0)) hl (fun k => S k ∧ k ≠ w.heap.size + 1) lv W ho ((hr.mono (fun k hk h => (⟨h, by omega⟩ : _ ∧ _))).same hs)
  have hsm : sortTM t = if q ≠ 0 then (.node (bareHd 0) [], q) else (t.ord, 0) := by unfold sortTM; rw [hq]
  obtain ⟨R, hR⟩ : ∃ R, sortTM t = R := ⟨_, rfl⟩
  rw [hR]
  have HR := Lib.hid (hR.symm.trans hsm)
  rw [hq] at hchk
  have hoh := ord_hd t
  obtain ⟨⟨h', l'⟩, hP⟩ : ∃ t', t.ord = t' := ⟨_, rfl⟩
  unfold OrdOut at hrun
  rw [hP] at hrun hoh HR
  obtain ⟨h, l⟩ := t
  obtain ⟨a, cap, rfl⟩ := hr.is_slice
  simp only [Tree.hd_node, Tree.l_node] at *
  replace hoh := hoh.symm
  subst hoh
  have hb1 : ((w.alloc (.cells #[.int .i64 h.kind, .bool h.b, .bool h.d.neg, .string h.d.digits, .int .i64 h.d.exp, .int .u64 (h.u : Int), .int .i64 h.w, .string h.s, .slice a l.length cap] 27)).alloc (.cells #[.int .i64 0, .bool false, .bool false, .string ⟨#[]⟩, .int .i64 0, .int .u64 0, .int .i64 0, .string ⟨#[]⟩, .slice none 0 0] 27)).heap[w.heap.size + 1]? = some (.cells #[.int .i64 0, .bool false, .bool false, .string ⟨#[]⟩, .int .i64 0, .int .u64 0, .int .i64 0, .string ⟨#[]⟩, .slice none 0 0] 27 (0, 0)) := heap_new' (by simp)
  have hb0 : ((w.alloc (.cells #[.int .i64 h.kind, .bool h.b, .bool h.d.neg, .string h.d.digits, .int .i64 h.d.exp, .int .u64 (h.u : Int), .int .i64 h.w, .string h.s, .slice a l.length cap] 27)).alloc (.cells #[.int .i64 0, .bool false, .bool false, .string ⟨#[]⟩, .int .i64 0, .int .u64 0, .int .i64 0, .string ⟨#[]⟩, .slice none 0 0] 27)).heap[w.heap.size]? = some (.cells #[.int .i64 h.kind, .bool h.b, .bool h.d.neg, .string h.d.digits, .int .i64 h.d.exp, .int .u64 (h.u : Int), .int .i64 h.w, .string h.s, .slice a l.length cap] 27 (0, 0)) := heap_old (World.alloc_heap_new w _)
  have hk0 : Same w ((w.alloc (.cells #[.int .i64 h.kind, .bool h.b, .bool h.d.neg, .string h.d.digits, .int .i64 h.d.exp, .int .u64 (h.u : Int), .int .i64 h.w, .string h.s, .slice a l.length cap] 27)).alloc (.cells #[.int .i64 0, .bool false, .bool false, .string ⟨#[]⟩, .int .i64 0, .int .u64 0, .int .i64 0, .string ⟨#[]⟩, .slice none 0 0] 27)) := (by repeat (first | with_reducible exact Keep.refl _ _ | with_reducible refine Keep.alloc ?_ _ | with_reducible refine Keep.drew ?_ | with_reducible refine Keep.drewN ?_ _ | with_reducible refine Keep.trans ?_ (by assumption)))
  have hz0 : ((w.alloc (.cells #[.int .i64 h.kind, .bool h.b, .bool h.d.neg, .string h.d.digits, .int .i64 h.d.exp, .int .u64 (h.u : Int), .int .i64 h.w, .string h.s, .slice a l.length cap] 27)).alloc (.cells #[.int .i64 0, .bool false, .bool false, .string ⟨#[]⟩, .int .i64 0, .int .u64 0, .int .i64 0, .string ⟨#[]⟩, .slice none 0 0] 27)).heap.size = w.heap.size + 2 := by simp
  obtain ⟨n0, n1, n2, n3, n4, n5, n6, n7, n8⟩ := cells9 hb0
  unfold OutC
  clear hq hsm hP hr hR
  go_enter Tryz.func18, Tryz.ntmps18
  go_wp2_with fail
  refine (hchk _ hk0).mono ?_
  rintro x w1 ⟨rfl, hk1⟩
  have hb11 := hk1.same _ _ hb1 trivial
  have hb01 := hk1.same _ _ hb0 trivial
  have hkw1 := hk0.trans hk1
  have hzw := hk1.size
  rw [hz0] at hzw
  clear hk1 hb1 hb0 hk0 hz0 hchk n0 n1 n2 n3 n4 n5 n6 n7 n8
  by_cases hq0 : q = 0
  · replace hrun := hrun hq0
    subst hq0
    have hR0 : R = (.node h l', 0) := by rw [HR.out, if_neg (fun e => e rfl)]
    have HR0 := Lib.hid hR0
    clear hR0 HR
    obtain ⟨n0, n1, n2, n3, n4, n5, n6, n7, n8⟩ := cells9 hb01
    go_wp2_with fail
    refine (hrun w1 hkw1 (fun k hk => ⟨hS k (by omega), by omega⟩)).mono ?_
    rintro x w2 ⟨lv', rfl, hr2, hk2⟩
    obtain ⟨ra, rc, rfl⟩ := hr2.is_slice
    have hb12 := hk2.same _ _ hb11 trivial
    have hkw2 := hkw1.trans hk2
    clear n0 n1 n2 n3 n4 n5 n6 n7 n8 hrun
    obtain ⟨n0, n1, n2, n3, n4, n5, n6, n7, n8⟩ := cells9 hb12
    have hfz : ∀ j, w2.frozen? ⟨w.heap.size + 1, j, none⟩ = false := Lib.frozen_of_heap hb12
    go_wp2_with fail
    (try simp only [Exit.inBlock, Exit.then])
    obtain ⟨h9, hk9⟩ := put9 hb12 (.int .i64 h.kind) (.bool h.b) (.bool h.d.neg) (.string h.d.digits) (.int .i64 h.d.exp) (.int .u64 h.u) (.int .i64 h.w) (.string h.s) (.slice ra l'.length rc)
    refine bodyPost_ret (common_res' _ _ (w.heap.size + 1) h (.slice ra l'.length rc) 0 rfl rfl h9) rfl ⟨_, by rw [HR0.out]; rfl, by rw [HR0.out]; exact ho, ?_, ?_⟩
    · rw [HR0.out]
      exact (hr2.keep hk9 fun y hy _ _ => hy.2).mono fun _ _ h => h.1
    · exact ⟨hk9.os.trans hkw2.os, hk9.tape.trans hkw2.tape, hk9.output.trans hkw2.output, Nat.le_trans hkw2.size hk9.size, fun k o hk _ => hk9.same k o (hkw2.same k o hk trivial) (by have := lt_of_some hk; omega)⟩
  · have hR0 : R = (.node (bareHd 0) [], q) := by rw [HR.out, if_pos hq0]
    have HR0 := Lib.hid hR0
    clear hR0 HR
    have hqb : ((q : Int) != 0) = true := by simpa using hq0
    clear hrun
    obtain ⟨n0, n1, n2, n3, n4, n5, n6, n7, n8⟩ := cells9 hb11
    have hfz : ∀ j, w1.frozen? ⟨w.heap.size + 1, j, none⟩ = false := Lib.frozen_of_heap hb11
    go_wp2_with fail
    (try simp only [Exit.inBlock, Exit.then])
    obtain ⟨h9, hk9⟩ := put9 hb11 (.int .i64 0) (.bool false) (.bool false) (.string ⟨#[]⟩) (.int .i64 0) (.int .u64 0) (.int .i64 0) (.string ⟨#[]⟩) (.slice none 0 0)
    refine bodyPost_ret (common_res' _ _ (w.heap.size + 1) (bareHd 0) (.slice none 0 0) q rfl rfl h9) rfl ⟨.slice none 0 0, by rw [HR0.out]; rfl, by rw [HR0.out]; exact bare_ok 0 (by decide), by rw [HR0.out]; exact RepS.nil _ _, ?_⟩
    exact ⟨hk9.os.trans hkw1.os, hk9.tape.trans hkw1.tape, hk9.output.trans hkw1.output, Nat.le_trans hkw1.size hk9.size, fun k o hk _ => hk9.same k o (hkw1.same k o hk trivial) (by have := lt_of_some hk; omega)⟩
set_option maxRecDepth 100000 in
set_option maxHeartbeats 4000000 in
theorem isCommon_any {N : Nat} {E : Errs} (t : Tree) (S : Nat → Prop) (lv : Value) (w : World) (hG : Glob N E w) (hdep : t.depth ≤ 1000000) (ho : t.hd.ok) (hr : RepS S w t.l lv) (hS : ∀ k, w.heap.size ≤ k → S k) (hl : ∀ x ∈ t.flat, x.l.length ≤ 40) :
    Calls Tryz.prog 20 #[nodeV t.hd lv] w fun e w' => e = .returned (.bool (isCommonM t)) ∧ Same w w' := by
  have hst := fun W (hs : Same w W) => sort_any t S lv W (hG.same hs) hdep ho (hr.same hs) (fun k hk => hS k (Nat.le_trans hs.size hk)) hl
  unfold isCommonM
  obtain ⟨⟨⟨h', l'⟩, q⟩, hq⟩ : ∃ r, sortTM t = r := ⟨_, rfl⟩
  rw [hq] at hst ⊢
  unfold OutC at hst
  simp only [Tree.hd_node, Tree.l_node] at hst
  have hsame := fun W lv' h1 (hs : Same w W) => same_any (.node h' l') t S lv' lv W h1 (hr.same hs)
  obtain ⟨b, hb⟩ : ∃ b, (Tree.node h' l').same t = b := ⟨_, rfl⟩
  rw [hb] at hsame ⊢
  obtain ⟨a, cap, rfl⟩ := hr.is_slice
  obtain ⟨h, l⟩ := t
  simp only [Tree.hd_node, Tree.l_node] at *
  have hb0 : (w.alloc (.cells #[.int .i64 h.kind, .bool h.b, .bool h.d.neg, .string h.d.digits, .int .i64 h.d.exp, .int .u64 (h.u : Int), .int .i64 h.w, .string h.s, .slice a l.length cap] 27)).heap[w.heap.size]? = some (.cells #[.int .i64 h.kind, .bool h.b, .bool h.d.neg, .string h.d.digits, .int .i64 h.d.exp, .int .u64 (h.u : Int), .int .i64 h.w, .string h.s, .slice a l.length cap] 27 (0, 0)) := World.alloc_heap_new w _
  have hk0 : Same w (w.alloc (.cells #[.int .i64 h.kind, .bool h.b, .bool h.d.neg, .string h.d.digits, .int .i64 h.d.exp, .int .u64 (h.u : Int), .int .i64 h.w, .string h.s, .slice a l.length cap] 27)) := (by repeat (first | with_reducible exact Keep.refl _ _ | with_reducible refine Keep.alloc ?_ _ | with_reducible refine Keep.drew ?_ | with_reducible refine Keep.drewN ?_ _ | with_reducible refine Keep.trans ?_ (by assumption)))
  obtain ⟨n0, n1, n2, n3, n4, n5, n6, n7, n8⟩ := cells9 hb0
  clear hq hb
  go_enter Tryz.func20, Tryz.ntmps20
  go_wp2_with fail
  refine (hst _ hk0).mono ?_
  rintro x w1 ⟨lv', rfl, hok', hr', hk1⟩
  obtain ⟨a', cap', rfl⟩ := hr'.is_slice
  have hb01 := hk1.same _ _ hb0 trivial
  have hkw1 := hk0.trans hk1
  have hz1 := hk1.size
  clear hk1 hb0 hk0 hst n0 n1 n2 n3 n4 n5 n6 n7 n8
  by_cases hq0 : q = 0
  · subst hq0
    have hk2 : Same w1 (w1.alloc (.cells #[.int .i64 h'.kind, .bool h'.b, .bool h'.d.neg, .string h'.d.digits, .int .i64 h'.d.exp, .int .u64 (h'.u : Int), .int .i64 h'.w, .string h'.s, .slice a' l'.length cap'] 27)) := (Keep.refl _ _).alloc _
    obtain ⟨n0, n1, n2, n3, n4, n5, n6, n7, n8⟩ := cells9 (hk2.same _ _ hb01 trivial)
    have hcall := hsame _ _ (hr'.same hk2) (hkw1.trans hk2)
    have hkw2 := hkw1.trans hk2
    clear hsame hk2
    go_wp2_with fail
    refine hcall.mono ?_
    rintro x w3 ⟨rfl, hk3⟩
    clear n0 n1 n2 n3 n4 n5 n6 n7 n8 hcall
    go_wp2_with fail
    go_ret
    exact ⟨by cases b <;> rfl, hkw2.trans hk3⟩
  · have hqb : ((q : Int) == 0) = false := by simpa using hq0
    clear hsame
    go_wp2_with fail
    go_ret
    refine ⟨?_, (by repeat (first | with_reducible exact Keep.refl _ _ | with_reducible refine Keep.alloc ?_ _ | with_reducible refine Keep.drew ?_ | with_reducible refine Keep.drewN ?_ _ | with_reducible refine Keep.trans ?_ (by assumption)))⟩
    simp [hq0]
end Go.Tm

set_option linter.unusedVariables false
namespace Go.Tm
open Go.RowKit Go.Sort
variable (X : Hd → Dc × Bool)
abbrev Len40 (t : Tree) : Prop := ∀ x ∈ t.flat, x.l.length ≤ 40
theorem len_node {h : Hd} {l : List Tree} (h0 : l.length ≤ 40) (hl : ∀ k ∈ l, Len40 k) : Len40 (.node h l) := (flat_all (fun x => x.l.length ≤ 40) (.node h l)).2 ⟨h0, hl⟩
theorem len_kid {h : Hd} {l : List Tree} (ht : Len40 (.node h l)) : l.length ≤ 40 ∧ ∀ k ∈ l, Len40 k := (flat_all (fun x => x.l.length ≤ 40) (.node h l)).1 ht
theorem len_leaf (h : Hd) : Len40 (.node h []) := len_node (Nat.zero_le _) fun k hk => by cases hk
theorem sortM_len (ps : List (ByteArray × Tree)) : (sortM ps).length = 2 * ps.length := by
  have : ∀ qs : List (ByteArray × Tree), (flatP qs).length = 2 * qs.length := fun qs => by
    induction qs with
    | nil => rfl
    | cons q qs ih => show (_ :: _ :: flatP qs).length = _; simp only [List.length_cons, ih]; omega
  rw [sortM_flatP, this, List.length_mergeSort]
theorem len_map (h : Hd) (ps : List (ByteArray × Tree)) (hn : ps.length ≤ 20) (hp : ∀ p ∈ ps, Len40 p.2) : Len40 (.node h (sortM ps)) := by
  refine len_node (by rw [sortM_len]; omega) fun k hk => ?_
  unfold sortM at hk
  obtain ⟨p, hp', hk⟩ := List.mem_flatMap.1 hk
  rcases List.mem_cons.1 hk with rfl | hk
  · exact len_leaf _
  · rw [List.mem_singleton.1 hk]; exact hp p (List.mem_mergeSort.1 hp')
theorem projP_len : ∀ (l : List Tree) (seen : List ByteArray), (projP X l seen).1.length ≤ l.length / 2
  | [], seen => by rw [projP]; exact Nat.zero_le _; intro k x l h; cases h
  | [_], seen => by rw [projP]; exact Nat.zero_le _; intro k x l h; cases h
  | k :: x :: l, seen => by
    have h2 := projP_len l ((renderM k).1 :: seen)
    rw [projP]
    split
    · exact Nat.zero_le _
    · simp only [List.length_cons]; omega
theorem projLs_len : ∀ l : List Tree, (projL X l).1.length = l.length
  | [] => by rw [projL]
  | x :: l => by rw [projL]; show (_ :: (projL X l).1).length = _; rw [List.length_cons, projLs_len l, List.length_cons]
mutual
theorem Tree.proj_len : ∀ t : Tree, Len40 t → Len40 (t.proj X).1
  | .node h l, ht => by
    have hk := len_kid ht
    have h1 := projT_len l hk.2
    have h2 := projL_lens l hk.2
    have h3 := projP_lens l [] hk.2
    have h4 := projP_len X l []
    have h5 := projLs_len X l
    rw [Tree.proj]
    split
    · exact len_leaf _
    · split
      · exact ht
      · split
        · exact len_leaf _
        · split
          · exact len_leaf _
          · split
            · exact h1
            · split
              · exact len_node (by rw [h5]; exact hk.1) h2
              · split
                · exact len_map _ _ (by have := hk.1; omega) h3
                · exact len_leaf _
theorem projT_len : ∀ l : List Tree, (∀ k ∈ l, Len40 k) → Len40 (projT X l).1
  | [], _ => by rw [projT]; exact len_leaf _
  | x :: l, h => by rw [projT]; exact Tree.proj_len x (h x List.mem_cons_self)
theorem projL_lens : ∀ l : List Tree, (∀ k ∈ l, Len40 k) → ∀ k ∈ (projL X l).1, Len40 k
  | [], _ => by rw [projL]; intro k hk; cases hk
  | x :: l, h => by
    have h1 := Tree.proj_len x (h x List.mem_cons_self)
    have h2 := projL_lens l fun k hk => h k (List.mem_cons_of_mem _ hk)
    rw [projL]
    intro k hk
    rcases List.mem_cons.1 hk with rfl | hk
    · exact h1
    · exact h2 k hk
theorem projP_lens : ∀ (l : List Tree) (seen : List ByteArray), (∀ k ∈ l, Len40 k) → ∀ p ∈ (projP X l seen).1, Len40 p.2
  | [], seen, _ => by rw [projP]; intro p hp; cases hp; intro k x l h; cases h
  | [_], seen, _ => by rw [projP]; intro p hp; cases hp; intro k x l h; cases h
  | k :: x :: l, seen, h => by
    have h1 := Tree.proj_len x (h x (List.mem_cons_of_mem _ List.mem_cons_self))
    have h2 := projP_lens l ((renderM k).1 :: seen) fun y hy => h y (List.mem_cons_of_mem _ (List.mem_cons_of_mem _ hy))
    rw [projP]
    intro p hp
    split at hp
    · cases hp
    · rcases List.mem_cons.1 hp with rfl | hp
      · exact h1
      · exact h2 p hp
end
theorem common_len (t : Tree) (f : Int) (ht : Len40 t) : Len40 (commonM X t f).1 := by
  have h1 := Tree.proj_len X t ht
  unfold commonM
  split
  · exact len_leaf _
  · split
    · exact len_leaf _
    · split
      · exact len_leaf _
      · exact h1
theorem common_depth (t : Tree) (f : Int) : (commonM X t f).1.depth ≤ t.depth := by
  have h1 := Tree.proj_depth X t
  have h2 := depth_pos t
  unfold commonM
  split
  · rw [leaf_depth]; exact h2
  · split
    · rw [leaf_depth]; exact h2
    · split
      · rw [leaf_depth]; exact h2
      · exact h1
theorem toldN_le2 {s : Nat} (h : s ≠ 0) : toldN s = 60 ∨ toldN s = 160 := by unfold toldN; rw [if_neg h]; split <;> simp
theorem common_num (t : Tree) (f : Int) : (commonM X t f).2 = 0 ∨ (commonM X t f).2 = 60 ∨ (commonM X t f).2 = 61 ∨ (commonM X t f).2 = 160 := by
  unfold commonM
  rcases checkT_cases t f with h | h | h
  · rw [if_pos (by rw [h]; decide)]; exact .inr (.inl h)
  · rw [if_pos (by rw [h]; decide)]; exact .inr (.inr (.inl h))
  · rw [if_neg (by rw [h]; decide)]
    split
    · rename_i h2
      rcases toldN_le2 h2 with e | e
      · exact .inr (.inl e)
      · exact .inr (.inr (.inr e))
    · split
      · exact .inr (.inl rfl)
      · exact .inl rfl
theorem twice_law {t : Tree} {f : Int} (h : (commonM X t f).2 = 0) :
    commonM X (commonM X t f).1 1 = ((commonM X t f).1, 0) ∧ sortTM (commonM X t f).1 = ((commonM X t f).1, 0) ∧ isCommonM (commonM X t f).1 = true ∧ checkT (commonM X t f).1 1 = 0 := by
  obtain ⟨h1, h2⟩ := common_fits X h
  have hs : sortTM (commonM X t f).1 = ((commonM X t f).1, 0) := by
    unfold sortTM
    rw [if_neg (fun e => e h1), h2]
  refine ⟨common_twice X h, hs, ?_, h1⟩
  unfold isCommonM
  rw [hs, (same_iff _ _).2 rfl]
  rfl
end Go.Tm

set_option linter.unusedVariables false
namespace Go.Tm
open Go.RowKit Go.Proofs
set_option maxRecDepth 100000 in
set_option maxHeartbeats 1000000 in
theorem refCount_any : ∀ t : Tree, ∀ (S : Nat → Prop) (lv : Value) (w : World), RepS S w t.l lv → Calls Tryz.prog 16 #[nodeV t.hd lv] w fun e w' => e = .returned (.int .i64 (cnt64 t)) ∧ Same w w' := by
  refine Tree.ind fun h l ih => ?_
  intro S lv w hl
  simp only [Tree.hd_node, Tree.l_node] at hl ⊢
  obtain ⟨hlen, a, cap, rfl, hcap, hi⟩ := hl.shape
  have hcn : cnt64 (.node h l) = wrap64 ((1 + countL l : Nat) : Int) := by unfold cnt64; simp only [Tree.count]
  rw [hcn]
  clear hcn
  go_enter Tryz.func16, Tryz.ntmps16
  go_wp2
  go_loopw [3, 4] (fun v i wr => ∃ k : Nat, k ≤ l.length ∧ i = .int .i64 k ∧ v = .int .i64 (wrap64 ((1 + countL (l.take k) : Nat) : Int)) ∧ Same w wr ∧ wr.heap[w.heap.size]? = some (.cells #[.int .i64 h.kind, .bool h.b, .bool h.d.neg, .string h.d.digits, .int .i64 h.d.exp, .int .u64 h.u, .int .i64 h.w, .string h.s, .slice a l.length cap] 27 (0, 0)))
    (fun _ i _ => l.length - (RowKit.intOf i).toNat)
  case atStart => exact ⟨0, Nat.zero_le _, rfl, by rw [List.take_zero, show ((1 + countL [] : Nat) : Int) = 1 from rfl, IntWalk.wrap64_in (1 : Int) (by omega)], (Keep.refl _ _).alloc _, World.alloc_heap_new w _⟩
  case round =>
    obtain ⟨k, hk, rfl, rfl, hsm, hbx⟩ := hrel
    obtain ⟨n0, n1, n2, n3, n4, n5, n6, n7, n8⟩ := cells9 hbx
    obtain ⟨q, hq⟩ : ∃ q, wrap64 ((1 + countL (l.take k) : Nat) : Int) = q := ⟨_, rfl⟩
    by_cases hlt : k < l.length
    · obtain ⟨b, off, lv', rfl, hS, hb, hr, hok, hra⟩ := hi k hlt
      obtain ⟨a', cap', rfl⟩ := hr.is_slice
      obtain ⟨c0, c1, c2, c3, c4, c5, c6, c7, c8⟩ := nodeAt_of (rangeAt_same hsm hra)
      have hst := countL_take l k hlt
      obtain ⟨cc, hcc⟩ : ∃ q, cnt64 (l[k]) = q := ⟨_, rfl⟩
      have hq2 : wrap64 ((1 + countL (l.take (k + 1)) : Nat) : Int) = wrap64 (q + cc) := by
        rw [← hq, ← hcc, hst]; unfold cnt64; rw [wrap64_add]; congr 1; push_cast; omega
      have HQ2 := Lib.hid hq2
      have ihc := fun (W : World) (hr2 : RepS S W (l[k]).l (.slice a' (l[k]).l.length cap')) => ih _ (List.getElem_mem hlt) S _ W hr2
      rw [hcc] at ihc
      rw [hq]
      clear hst hq2 hq hcc
      go_wp2_with (first | (go_at_call 16; refine (ihc _ (hr.same hsm)).mono ?_; rintro e w' ⟨rfl, hk'⟩))
      go_roundw
      case rel => exact ⟨k + 1, by omega, by go_num, by rw [HQ2.out], hsm.trans hk', hk'.same _ _ hbx trivial⟩
      case measure => simp [RowKit.intOf]; omega
    · obtain rfl : k = l.length := by omega
      rw [List.take_length] at hq
      rw [List.take_length, hq]
      go_wp2
      go_ret
      exact ⟨by rw [hq]; rfl, hsm⟩
end Go.Tm

set_option linter.unusedVariables false
namespace Go.Tm
open Go.RowKit Go.Proofs
def fewT (t : Tree) : Tree := if 400 < cnt64 (t.cut 17) then .node (cutHd t.hd) [] else t.cut 17
theorem few_hd (t : Tree) : (fewT t).hd = cutHd t.hd := by unfold fewT; split; rfl; exact cut_hd 17 t
set_option maxRecDepth 100000 in
set_option maxHeartbeats 4000000 in
theorem few_any (t : Tree) (lv : Value) (w : World) (hrep : t.RepW w lv) :
    Calls Tryz.prog 10 #[nodeV t.hd lv] w fun e w' => ∃ lv', e = .returned (nodeV (cutHd t.hd) lv') ∧ RepS (fun b => w.heap.size ≤ b) w' (fewT t).l lv' ∧ Same w w' := by
  obtain ⟨ho, a, cap, rfl, hlen, hL⟩ := repW_node hrep
  have hcut := fun (W : World) (hk : Same w W) => cut_any 17 t _ W (by omega) (hrep.same hk)
  obtain ⟨n, hn⟩ : ∃ n, t.l.length = n := ⟨_, rfl⟩
  rw [hn] at hcut ⊢
  obtain ⟨h, hh⟩ : ∃ h, t.hd = h := ⟨_, rfl⟩
  rw [hh] at hcut ⊢
  obtain ⟨q, hq⟩ : ∃ q, cutHd h = q := ⟨_, rfl⟩
  rw [hq] at hcut ⊢
  have hct : t.cut 17 = .node q (t.cut 17).l := by rw [← hq, ← hh, ← cut_hd 17]; exact (Tree.eta _).symm
  obtain ⟨cl, hcl⟩ : ∃ cl, (t.cut 17).l = cl := ⟨_, rfl⟩
  rw [hcl] at hcut hct
  have hfew : (fewT t).l = if 400 < cnt64 (.node q cl) then [] else cl := by unfold fewT; rw [hct]; split <;> rfl
  rw [hfew]
  obtain ⟨cc, hcc⟩ : ∃ cc, cnt64 (.node q cl) = cc := ⟨_, rfl⟩
  rw [hcc]
  have hcnt := fun (W : World) (lv2 : Value) (hr : RepS AnyB W cl lv2) => refCount_any (.node q cl) AnyB lv2 W hr
  rw [hcc] at hcnt
  simp only [Tree.hd_node] at hcnt
  clear hcc hfew hct hcl hh hq hn hrep hL ho
  go_enter Tryz.func10, Tryz.ntmps10
  by_cases hbig : 400 < cc
  · rw [if_pos hbig]
    go_wp2_with (first
      | (go_at_call 25; refine (hcut _ (by repeat (first | with_reducible exact Keep.refl _ _ | with_reducible refine Keep.alloc ?_ _ | with_reducible refine Keep.drew ?_ | with_reducible refine Keep.drewN ?_ _ | with_reducible refine Keep.trans ?_ (by assumption)))).mono ?_; rintro e w1 ⟨lv2, rfl, hr2, hk2⟩; obtain ⟨a2, c2, rfl⟩ := hr2.is_slice; have hb := hk2.same w.heap.size _ (show _ = some (.cells #[.int .i64 h.kind, .bool h.b, .bool h.d.neg, .string h.d.digits, .int .i64 h.d.exp, .int .u64 h.u, .int .i64 h.w, .string h.s, .slice a n cap] 27 (0, 0)) from (by repeat (first | with_reducible exact heap_new' (by simp) | with_reducible refine heap_old ?_ | with_reducible refine heap_drew ?_))) trivial; have hr := hk2.same (w.heap.size + 1) _ (show _ = some (.cells #[.int .i64 0, .bool false, .bool false, .string ⟨#[]⟩, .int .i64 0, .int .u64 0, .int .i64 0, .string ⟨#[]⟩, .slice none 0 0] 27 (0, 0)) from (by repeat (first | with_reducible exact heap_new' (by simp) | with_reducible refine heap_old ?_ | with_reducible refine heap_drew ?_))) trivial; obtain ⟨n0, n1, n2, n3, n4, n5, n6, n7, n8⟩ := cells9 hb; obtain ⟨m0, m1, m2, m3, m4, m5, m6, m7, m8⟩ := cells9 hr; have hfb : ∀ j, w1.frozen? ⟨w.heap.size, j, none⟩ = false := Lib.frozen_of_heap hb; have hfr : ∀ j, w1.frozen? ⟨w.heap.size + 1, j, none⟩ = false := Lib.frozen_of_heap hr)
      | (go_at_call 16; fail))
    obtain ⟨h9, hk9⟩ := put9 hb (.int .i64 q.kind) (.bool q.b) (.bool q.d.neg) (.string q.d.digits) (.int .i64 q.d.exp) (.int .u64 q.u) (.int .i64 q.w) (.string q.s) (.slice a2 cl.length c2)
    have hrX := hk9.same _ _ hr (by omega)
    have hr3 : RepS (fun b => w.heap.size + 2 ≤ b) w1 cl (.slice a2 cl.length c2) := hr2.mono fun b _ (hb : _ ≤ b) => by simpa using hb
    have hrp := hr3.keep hk9 fun b (hb : w.heap.size + 2 ≤ b) _ _ => by omega
    have hkX : Same w _ := (⟨hk9.os.trans hk2.os, hk9.tape.trans hk2.tape, hk9.output.trans hk2.output, Nat.le_trans (by have := hk2.size; simp at this; omega) hk9.size, fun k o hk _ => hk9.same k o (hk2.same k o (heap_old (heap_old hk)) trivial) (by have := lt_of_some hk; omega)⟩ : Same w _)
    clear n0 n1 n2 n3 n4 n5 n6 n7 n8 m0 m1 m2 m3 m4 m5 m6 m7 m8 hfb hfr hk9 hr3 hr2 hr hb hk2
    generalize ((((((((((w1.setCell ⟨w.heap.size, 0, none⟩ (.int .i64 q.kind)).setCell ⟨w.heap.size, 1, none⟩ (.bool q.b)).setCell ⟨w.heap.size, 2, none⟩ (.bool q.d.neg)).setCell ⟨w.heap.size, 3, none⟩ (.string q.d.digits)).setCell ⟨w.heap.size, 4, none⟩ (.int .i64 q.d.exp)).setCell ⟨w.heap.size, 5, none⟩ (.int .u64 q.u)).setCell ⟨w.heap.size, 6, none⟩ (.int .i64 q.w)).setCell ⟨w.heap.size, 7, none⟩ (.string q.s)).setCell ⟨w.heap.size, 8, none⟩ (.slice a2 cl.length c2))) = X at h9 hrX hrp hkX ⊢
    refine (hcnt X _ (hrp.mono fun _ _ _ => trivial)).mono ?_
    rintro e w3 ⟨rfl, hk3⟩
    have hbc := hk3.same _ _ h9 trivial
    have hrc := hk3.same _ _ hrX trivial
    have hrp3 := hrp.same hk3
    have hkw3 : Same w w3 := hkX.trans hk3
    obtain ⟨n0, n1, n2, n3, n4, n5, n6, n7, n8⟩ := cells9 hbc
    obtain ⟨m0, m1, m2, m3, m4, m5, m6, m7, m8⟩ := cells9 hrc
    have hfb : ∀ j, w3.frozen? ⟨w.heap.size, j, none⟩ = false := Lib.frozen_of_heap hbc
    have hfr : ∀ j, w3.frozen? ⟨w.heap.size + 1, j, none⟩ = false := Lib.frozen_of_heap hrc
    have hkeep : ∀ (X : World) (p : Addr) (v : Value) (b : Nat), p.block ≠ b → (X.setCell p v).heap[b]? = X.heap[b]? := fun X p v b h => Below.heap_setCell X p v b (fun e => h e.symm)
    clear h9 hrX hrp hkX hk3
    go_wp2
    have hX : (w3.setCell ⟨w.heap.size, 8, none⟩ (.slice none 0 0)).heap[w.heap.size + 1]? = some (.cells #[.int .i64 0, .bool false, .bool false, .string ⟨#[]⟩, .int .i64 0, .int .u64 0, .int .i64 0, .string ⟨#[]⟩, .slice none 0 0] 27 (0, 0)) := by rw [hkeep _ _ _ _ (by show w.heap.size ≠ w.heap.size + 1; omega)]; exact hrc
    obtain ⟨h9, hk9⟩ := put9 hX (.int .i64 q.kind) (.bool q.b) (.bool q.d.neg) (.string q.d.digits) (.int .i64 q.d.exp) (.int .u64 q.u) (.int .i64 q.w) (.string q.s) (.slice none 0 0)
    refine bodyPost_ret (results_cell_row rfl _ _ (w.heap.size + 1) 27 _ (0, 0) _ rfl h9 Tryz.underlying27 rfl (by kernel_rfl)) rfl ⟨_, rfl, RepS.nil _ _, ?_⟩
    have hk8 : Same w (w3.setCell ⟨w.heap.size, 8, none⟩ (.slice none 0 0)) := hkw3.setCell (p := ⟨w.heap.size, 8, none⟩) _ (fun o _ _ h => absurd h (Nat.lt_irrefl _))
    exact ⟨hk9.os.trans hk8.os, hk9.tape.trans hk8.tape, hk9.output.trans hk8.output, Nat.le_trans hk8.size hk9.size, fun k o hk _ => hk9.same k o (hk8.same k o hk trivial) (by have := lt_of_some hk; omega)⟩
  · rw [if_neg hbig]
    go_wp2_with (first
      | (go_at_call 25; refine (hcut _ (by repeat (first | with_reducible exact Keep.refl _ _ | with_reducible refine Keep.alloc ?_ _ | with_reducible refine Keep.drew ?_ | with_reducible refine Keep.drewN ?_ _ | with_reducible refine Keep.trans ?_ (by assumption)))).mono ?_; rintro e w1 ⟨lv2, rfl, hr2, hk2⟩; obtain ⟨a2, c2, rfl⟩ := hr2.is_slice; have hb := hk2.same w.heap.size _ (show _ = some (.cells #[.int .i64 h.kind, .bool h.b, .bool h.d.neg, .string h.d.digits, .int .i64 h.d.exp, .int .u64 h.u, .int .i64 h.w, .string h.s, .slice a n cap] 27 (0, 0)) from (by repeat (first | with_reducible exact heap_new' (by simp) | with_reducible refine heap_old ?_ | with_reducible refine heap_drew ?_))) trivial; have hr := hk2.same (w.heap.size + 1) _ (show _ = some (.cells #[.int .i64 0, .bool false, .bool false, .string ⟨#[]⟩, .int .i64 0, .int .u64 0, .int .i64 0, .string ⟨#[]⟩, .slice none 0 0] 27 (0, 0)) from (by repeat (first | with_reducible exact heap_new' (by simp) | with_reducible refine heap_old ?_ | with_reducible refine heap_drew ?_))) trivial; obtain ⟨n0, n1, n2, n3, n4, n5, n6, n7, n8⟩ := cells9 hb; obtain ⟨m0, m1, m2, m3, m4, m5, m6, m7, m8⟩ := cells9 hr; have hfb : ∀ j, w1.frozen? ⟨w.heap.size, j, none⟩ = false := Lib.frozen_of_heap hb; have hfr : ∀ j, w1.frozen? ⟨w.heap.size + 1, j, none⟩ = false := Lib.frozen_of_heap hr)
      | (go_at_call 16; fail))
    obtain ⟨h9, hk9⟩ := put9 hb (.int .i64 q.kind) (.bool q.b) (.bool q.d.neg) (.string q.d.digits) (.int .i64 q.d.exp) (.int .u64 q.u) (.int .i64 q.w) (.string q.s) (.slice a2 cl.length c2)
    have hrX := hk9.same _ _ hr (by omega)
    have hr3 : RepS (fun b => w.heap.size + 2 ≤ b) w1 cl (.slice a2 cl.length c2) := hr2.mono fun b _ (hb : _ ≤ b) => by simpa using hb
    have hrp := hr3.keep hk9 fun b (hb : w.heap.size + 2 ≤ b) _ _ => by omega
    have hkX : Same w _ := (⟨hk9.os.trans hk2.os, hk9.tape.trans hk2.tape, hk9.output.trans hk2.output, Nat.le_trans (by have := hk2.size; simp at this; omega) hk9.size, fun k o hk _ => hk9.same k o (hk2.same k o (heap_old (heap_old hk)) trivial) (by have := lt_of_some hk; omega)⟩ : Same w _)
    clear n0 n1 n2 n3 n4 n5 n6 n7 n8 m0 m1 m2 m3 m4 m5 m6 m7 m8 hfb hfr hk9 hr3 hr2 hr hb hk2
    generalize ((((((((((w1.setCell ⟨w.heap.size, 0, none⟩ (.int .i64 q.kind)).setCell ⟨w.heap.size, 1, none⟩ (.bool q.b)).setCell ⟨w.heap.size, 2, none⟩ (.bool q.d.neg)).setCell ⟨w.heap.size, 3, none⟩ (.string q.d.digits)).setCell ⟨w.heap.size, 4, none⟩ (.int .i64 q.d.exp)).setCell ⟨w.heap.size, 5, none⟩ (.int .u64 q.u)).setCell ⟨w.heap.size, 6, none⟩ (.int .i64 q.w)).setCell ⟨w.heap.size, 7, none⟩ (.string q.s)).setCell ⟨w.heap.size, 8, none⟩ (.slice a2 cl.length c2))) = X at h9 hrX hrp hkX ⊢
    refine (hcnt X _ (hrp.mono fun _ _ _ => trivial)).mono ?_
    rintro e w3 ⟨rfl, hk3⟩
    have hbc := hk3.same _ _ h9 trivial
    have hrc := hk3.same _ _ hrX trivial
    have hrp3 := hrp.same hk3
    have hkw3 : Same w w3 := hkX.trans hk3
    obtain ⟨n0, n1, n2, n3, n4, n5, n6, n7, n8⟩ := cells9 hbc
    obtain ⟨m0, m1, m2, m3, m4, m5, m6, m7, m8⟩ := cells9 hrc
    have hfb : ∀ j, w3.frozen? ⟨w.heap.size, j, none⟩ = false := Lib.frozen_of_heap hbc
    have hfr : ∀ j, w3.frozen? ⟨w.heap.size + 1, j, none⟩ = false := Lib.frozen_of_heap hrc
    have hkeep : ∀ (X : World) (p : Addr) (v : Value) (b : Nat), p.block ≠ b → (X.setCell p v).heap[b]? = X.heap[b]? := fun X p v b h => Below.heap_setCell X p v b (fun e => h e.symm)
    clear h9 hrX hrp hkX hk3
    go_wp2
    obtain ⟨h9, hk9⟩ := put9 hrc (.int .i64 q.kind) (.bool q.b) (.bool q.d.neg) (.string q.d.digits) (.int .i64 q.d.exp) (.int .u64 q.u) (.int .i64 q.w) (.string q.s) (.slice a2 cl.length c2)
    refine bodyPost_ret (results_cell_row rfl _ _ (w.heap.size + 1) 27 _ (0, 0) _ rfl h9 Tryz.underlying27 rfl (by kernel_rfl)) rfl ⟨_, rfl, ?_, ?_⟩
    · refine RepS.mono (fun b _ (hb : w.heap.size + 2 ≤ b) => (by omega : w.heap.size ≤ b)) ?_
      exact hrp3.keep hk9 fun b (hb : w.heap.size + 2 ≤ b) _ _ => by omega
    · exact ⟨hk9.os.trans hkw3.os, hk9.tape.trans hkw3.tape, hk9.output.trans hkw3.output, Nat.le_trans hkw3.size hk9.size, fun k o hk _ => hk9.same k o (hkw3.same k o hk trivial) (by have := lt_of_some hk; omega)⟩
end Go.Tm

set_option linter.unusedVariables false
namespace Go.Tm
theorem mem_flatL' {x : Tree} : ∀ {l : List Tree}, x ∈ flatL l → ∃ k ∈ l, x ∈ k.flat
  | [], h => by rw [flatL] at h; cases h
  | y :: l, h => by
    rw [flatL] at h
    rcases List.mem_append.1 h with h | h
    · exact ⟨y, List.mem_cons_self, h⟩
    · obtain ⟨k, hk, hx⟩ := mem_flatL' h
      exact ⟨k, List.mem_cons_of_mem _ hk, hx⟩
theorem flat_node {x : Tree} {h : Hd} {l : List Tree} (hx : x ∈ (Tree.node h l).flat) : x = .node h l ∨ ∃ k ∈ l, x ∈ k.flat := by
  rw [Tree.flat] at hx
  rcases List.mem_cons.1 hx with h | h
  · exact .inl h
  · exact .inr (mem_flatL' h)
theorem cut_depth : ∀ (d : Nat) (t : Tree), (t.cut d).depth ≤ d + 1
  | 0, t => by rw [Tree.cut, leaf_depth]; exact Nat.le_refl _
  | d + 1, t => by
    rw [Tree.cut, Tree.depth]
    have : depthL ((t.l.take 40).map (Tree.cut d)) ≤ d + 1 := depthL_all fun x hx => by
      obtain ⟨y, _, rfl⟩ := List.mem_map.1 hx
      exact cut_depth d y
    omega
theorem cut_lens : ∀ (d : Nat) (t x : Tree), x ∈ (t.cut d).flat → x.l.length ≤ 40
  | 0, t, x, hx => by
    rw [Tree.cut] at hx
    rcases flat_node hx with rfl | ⟨k, hk, _⟩
    · exact Nat.zero_le _
    · cases hk
  | d + 1, t, x, hx => by
    have h0 := cut_len (d + 1) t
    rw [Tree.cut] at hx h0
    rcases flat_node hx with rfl | ⟨k, hk, hxk⟩
    · exact h0
    · obtain ⟨y, _, rfl⟩ := List.mem_map.1 hk
      exact cut_lens d y x hxk
theorem few_depth (t : Tree) : (fewT t).depth ≤ 18 := by
  unfold fewT
  split
  · rw [leaf_depth]; decide
  · exact cut_depth 17 t
theorem few_lens (t x : Tree) (hx : x ∈ (fewT t).flat) : x.l.length ≤ 40 := by
  unfold fewT at hx
  split at hx
  · rcases flat_node hx with rfl | ⟨k, hk, _⟩
    · exact Nat.zero_le _
    · cases hk
  · exact cut_lens 17 t x hx
theorem few_ok {t : Tree} (h : t.hd.okW) : (fewT t).hd.ok := by rw [few_hd]; exact cutHd_ok h
end Go.Tm

set_option linter.unusedVariables false
namespace Go.Tm
open Go.RowKit Go.Proofs
theorem keep_iterAt' (w : World) (k : Nat) (s : ByteArray) (pos : Nat) : Keep (fun b _ => b ≠ k) w (w.iterAt k s pos) :=
  ⟨rfl, rfl, rfl, by rw [Lib.iterAt_size]; exact Nat.le_refl _, fun b o hb hn => (Lib.iterAt_other w k b s pos hn).trans hb⟩
def digN (l : List Nat) : Nat := (l.takeWhile isDig).length
theorem digN_le (l : List Nat) : digN l ≤ l.length := (List.takeWhile_prefix isDig).length_le
theorem digN_lt : ∀ (l : List Nat) (k : Nat), k < l.length → (∀ j, j < k → isDig (nth l j) = true) → isDig (nth l k) = true → k < digN l
  | x :: l, 0, _, _, h => by
    have h0 : isDig x = true := h
    unfold digN
    rw [List.takeWhile_cons_of_pos h0]; simp
  | x :: l, k + 1, h, hp, hk => by
    have h0 : isDig x = true := hp 0 (by omega)
    have := digN_lt l k (by simpa using h) (fun j hj => hp (j + 1) (by omega)) hk
    unfold digN at this ⊢
    rw [List.takeWhile_cons_of_pos h0]
    simp only [List.length_cons]; omega
theorem digN_stop : ∀ (l : List Nat) (k : Nat), k < l.length → (∀ j, j < k → isDig (nth l j) = true) → isDig (nth l k) = false → digN l = k
  | x :: l, 0, _, _, h => by
    have h0 : isDig x = false := h
    unfold digN
    rw [List.takeWhile_cons_of_neg (by simp [h0])]; rfl
  | x :: l, k + 1, h, hp, hk => by
    have h0 : isDig x = true := hp 0 (by omega)
    have := digN_stop l k (by simpa using h) (fun j hj => hp (j + 1) (by omega)) hk
    unfold digN at this ⊢
    rw [List.takeWhile_cons_of_pos h0]
    simp only [List.length_cons]; omega
theorem digN_end : ∀ (l : List Nat), (∀ j, j < l.length → isDig (nth l j) = true) → digN l = l.length
  | [], _ => rfl
  | x :: l, hp => by
    have h0 : isDig x = true := hp 0 (by simp)
    have := digN_end l (fun j hj => hp (j + 1) (by simpa using hj))
    unfold digN at this ⊢
    rw [List.takeWhile_cons_of_pos h0]
    simp only [List.length_cons]; omega
set_option maxRecDepth 100000 in
set_option maxHeartbeats 1000000 in
theorem runes1_iter (s : ByteArray) (bs : Nat) (Sb Si : Nat → Obj → Prop) (W : World)
    (hs : s.size ≤ 9223372036854775807) (hbs : Boxed W bs 9 (.string s)) (hSb : ∀ c f, Sb bs (.cells c 9 f)) (hSb2 : ∀ b o, W.heap.size ≤ b → o.isCells = false → Sb b o)
    (hSi : ∀ b o, Si b o → b < W.heap.size ∨ o.isCells = true) :
    IterAt Tryz.prog 272 #[.pointer (some ⟨bs, 0, none⟩)] (digN (bytesN s)) (fun i v _ => v = #[.int .i32 (nth (bytesN s) i)]) Sb Si (fun _ => True) (fun _ _ => True) W := by
  rintro l J Jx hlp hJ hJx hY h0
  obtain ⟨r, hl⟩ := hlp 0 W h0
  have n1 := cell_ne_loop hbs.cell hl
  have zl := lt_of_some hl
  have z1 := lt_of_some hbs
  have cs0 := hbs.cell
  have hsz := bytesN_length s
  refine callsIn_of_wp Tryz.func272 rfl trivial ?_ rfl
  simp only [Tryz.ntmps272, List.size_toArray, List.length_cons, List.length_nil, Nat.reduceAdd, Nat.reduceSub, Array.replicate_succ, Array.replicate_zero, List.push_toArray, List.append_toArray, List.nil_append, List.cons_append]
  have Hsz := Lib.hid hsz
  clear hsz
  refine wpIn_scope ?_
  gi_wp2
  refine wpIn_label ?_
  gi_wp2
  have hk0 : Same W (W.iter s 0) := (Keep.refl _ W).alloc _
  gi_loopw [4] (fun _ wr => ∃ k : Nat, k ≤ s.size ∧ (∀ j, j < k → isDig (nth (bytesN s) j) = true) ∧ wr.heap[W.heap.size]? = some (.stringIter s k) ∧ J k wr ∧ Boxed wr bs 9 (.string s))
    (fun _ wr => s.size - wr.iterPos W.heap.size)
  case atStart => exact ⟨0, Nat.zero_le _, fun j hj => absurd hj (Nat.not_lt_zero j), World.iter_heap W s 0, hJ _ _ _ h0 (Keep.of_same hk0), hk0.boxed hbs trivial⟩
  case round =>
    obtain ⟨k, hk, hp, hit, hj, cb1⟩ := hrel
    have c1 := cb1.cell
    have Hp := Lib.hid hp
    clear hp
    have hpos : wr.iterPos W.heap.size = k := by simp [World.iterPos, hit]
    have Hpos := Lib.hid hpos
    clear hpos
    by_cases hlt : k < s.size
    · obtain ⟨W1, hW1⟩ : ∃ W1, wr.iterAt W.heap.size s (k + (Utf8.decode s k).2) = W1 := ⟨_, rfl⟩
      have hnx := fun ty => Lib.run_next_any_at (P := Tryz.prog) wr W.heap.size s k ty hit hlt
      rw [hW1] at hnx
      have hkk : Keep (fun b _ => b ≠ W.heap.size) wr W1 := by rw [← hW1]; exact keep_iterAt' wr _ s _
      have hit1 : W1.heap[W.heap.size]? = some (.stringIter s (k + (Utf8.decode s k).2)) := by rw [← hW1]; exact Lib.iterAt_heap wr _ s k _ hit
      have Hit1 := Lib.hid hit1
      clear hW1 hit1
      have db1 := hkk.boxed cb1 (by omega)
      have d1 := db1.cell
      have hj2 : J k W1 := hJ _ _ _ hj (hkk.mono fun b o hb h => by
        rintro rfl
        rw [hit] at hb; cases hb
        rcases hSi _ _ h with h | h
        · omega
        · cases h)
      have hby := nth_bytes s hlt
      have Hby := Lib.hid hby
      clear hby
      by_cases hg : isDig (nth (bytesN s) k) = true
      · have hb128 : nth (bytesN s) k < 128 := by
          simp [isDig] at hg; omega
        have hdec := decode_ascii s k hlt (by rw [← Hby.out]; exact hb128)
        rw [← Hby.out] at hdec
        rw [hdec] at hnx
        have hit2 : W1.heap[W.heap.size]? = some (.stringIter s (k + 1)) := by have := Hit1.out; rw [hdec] at this; exact this
        have Hit2 := Lib.hid hit2
        clear hit2 hdec
        have hlg := digN_lt (bytesN s) k (by rw [Hsz.out]; exact hlt) Hp.out hg
        obtain ⟨fn, tmps, assign, body, hy', hR⟩ := hY k _ _ hlg hj2 rfl
        have hcall := fun W => isDigit_any (nth (bytesN s) k) W
        rw [hg] at hcall
        have Hg := Lib.hid hg
        clear hg
        gi_wp2_with (gi_at_call 151; refine (callsW (hcall _)).mono ?_; rintro e w' ⟨rfl, rfl⟩)
        refine hR.mono ?_
        rintro e W3 ⟨hk3, hj4⟩
        have c14 := hk3.boxed db1 ⟨n1, hSb _ _⟩
        have c14c := c14.cell
        have hit4 : W3.heap[W.heap.size]? = some (.stringIter s (k + 1)) := hk3.same _ _ Hit2.out ⟨by omega, hSb2 _ _ (Nat.le_refl _) rfl⟩
        have hpos4 : W3.iterPos W.heap.size = k + 1 := by simp [World.iterPos, hit4]
        have Hpos4 := Lib.hid hpos4
        clear hpos4 hR hy' hnx hj2 hcall
        rcases hj4 with ⟨rfl, hj4⟩ | ⟨rfl, hj4⟩
        · gi_wp2
          go_roundw
          case rel =>
            refine ⟨k + 1, by omega, fun j hj => ?_, hit4, hj4, c14⟩
            by_cases e : j = k
            · subst e; exact Hg.out
            · exact Hp.out j (by omega)
          case measure => rw [Hpos.out, Hpos4.out]; omega
        · gi_wp2
          simp only [Exit.noGoto]
          refine bodyPost_end (results_none rfl _ _ _) rfl ?_
          exact ⟨⟨_, rfl⟩, .inr ⟨k, hlg, hj4, trivial⟩⟩
      · have hfalse : isDig (nth (bytesN s) k) = false := by simpa using hg
        have hidx : isDig (Utf8.decode s k).1 = false := by
          by_cases h : nth (bytesN s) k < 128
          · have := decode_ascii s k hlt (by rw [← Hby.out]; exact h)
            rw [this]; rw [← Hby.out]; exact hfalse
          · have := (decode_high s k hlt (by rw [← Hby.out]; omega)).1
            simp [isDig]; omega
        have e1 := digN_stop (bytesN s) k (by rw [Hsz.out]; exact hlt) Hp.out hfalse
        have hcall := fun W => isDigit_any (Utf8.decode s k).1 W
        rw [hidx] at hcall
        have E1 := Lib.hid e1
        clear hidx e1 hg hfalse
        gi_wp2_with (gi_at_call 151; refine (callsW (hcall _)).mono ?_; rintro e w' ⟨rfl, rfl⟩)
        simp only [Exit.noGoto]
        refine bodyPost_end (results_none rfl _ _ _) rfl ?_
        exact ⟨⟨_, rfl⟩, .inl ⟨by rw [E1.out]; exact hj2, trivial⟩⟩
    · have hnx := fun ty => Lib.run_next_end_at (P := Tryz.prog) wr W.heap.size s k ty hit hlt
      have hks : k = s.size := by omega
      have e1 := digN_end (bytesN s) fun j hj => Hp.out j (by rw [Hsz.out] at hj; omega)
      rw [Hsz.out, ← hks] at e1
      have E1 := Lib.hid e1
      clear e1
      subst hks
      gi_wp2
      simp only [Exit.noGoto]
      refine bodyPost_end (results_none rfl _ _ _) rfl ?_
      exact ⟨⟨_, rfl⟩, .inl ⟨by rw [E1.out]; exact hj, trivial⟩⟩
end Go.Tm

set_option linter.unusedVariables false
namespace Go.Tm
open Go.RowKit Go.Proofs
def nextB (s : ByteArray) (cs : List Nat) : Bool := decide (0 < s.size) && cs.contains (nth (bytesN s) 0)
def tailB (s : ByteArray) : ByteArray := s.extract 1 s.size
def digsB (s : ByteArray) : ByteArray := s.extract 0 (digN (bytesN s))
def restD (s : ByteArray) : ByteArray := s.extract (digN (bytesN s)) s.size
def wholeR (s : ByteArray) : ByteArray × ByteArray := if nextB s [48] then (⟨#[48]⟩, tailB s) else (digsB s, restD s)
def partR (s : ByteArray) : ByteArray × ByteArray := if nextB s [46] = true ∧ (digsB (tailB s)).size ≠ 0 then (digsB (tailB s), restD (tailB s)) else (⟨#[]⟩, s)
abbrev RB (rb : Nat) (s : ByteArray) (w : World) : Prop := w.heap[rb]? = some (.cells #[.string s] 188 (0, 0))
def NextOut (rb : Nat) (s : ByteArray) (b : Bool) (w : World) (e : Ending) (w' : World) : Prop := e = .returned (.bool b) ∧ RB rb (if b then tailB s else s) w' ∧ Keep (fun k _ => k ≠ rb) w w'
set_option maxRecDepth 100000 in
set_option maxHeartbeats 1000000 in
theorem isNext_any (rb lb : Nat) (s : ByteArray) (cs : List Nat) (w : World) (hrb : RB rb s w) (hlb : ∀ j, j < cs.length → w.cell? ⟨lb, j, none⟩ = some (.int .u8 (nth cs j))) (hl : cs.length ≤ 10) (hs : s.size ≤ 1099511627776) :
    Calls Tryz.prog 155 #[.pointer (some ⟨rb, 0, none⟩), .slice (some ⟨lb, 0, none⟩) cs.length cs.length] w (NextOut rb s (nextB s cs) w) := by
  have c0 := cells1 hrb
  have hfz : ∀ j, w.frozen? ⟨rb, j, none⟩ = false := Lib.frozen_of_heap hrb
  have HLB := Lib.hid hlb
  clear hlb
  go_enter Tryz.func155, Tryz.ntmps155
  go_wp2
  go_loop [6, 9] (fun _ i => ∃ k : Nat, k ≤ cs.length ∧ i = .int .i64 (k : Int) ∧ nextB s cs = nextB s (cs.drop k)) (fun _ i => cs.length - (RowKit.intOf i).toNat)
  case atStart => exact ⟨0, Nat.zero_le _, rfl, rfl⟩
  case round =>
    obtain ⟨k, hk, rfl, hn⟩ := hrel
    by_cases hlt : k < cs.length
    · have hck := HLB.out k hlt
      have hdr : cs.drop k = nth cs k :: cs.drop (k + 1) := by
        rw [List.drop_eq_getElem_cons hlt]; congr 1; simp [nth, hlt]
      rw [hdr] at hn
      by_cases h0 : s.size = 0
      · have e1 : s.toList = [] := by
          have : s = ByteArray.empty := by simpa using h0
          rw [this, ByteArray.toList_eq]; rfl
        have hn2 : nextB s cs = nextB s (cs.drop (k + 1)) := by
          rw [hn]; unfold nextB; simp [h0]
        have HN := Lib.hid hn2
        clear hn hn2 hdr h0
        go_wp2_with fail
        go_round
        case rel => exact ⟨k + 1, by omega, by go_num, HN.out⟩
        case measure => simp [RowKit.intOf]; omega
      · have hpos : 0 < s.size := by omega
        have hb := nth_bytes s hpos
        have e1 : s.toList.isEmpty = false := by
          rw [ByteArray.toList_eq]
          cases h : s.data.toList with
          | nil => have : s.data.toList.length = s.size := by simp
                   rw [h] at this; simp at this; omega
          | cons x l => rfl
        have e2 : (s.toList == []) = false := by cases h : s.toList with
          | nil => rw [h] at e1; cases e1
          | cons x l => rfl
        clear e1
        by_cases hc : nth (bytesN s) 0 = nth cs k
        · have hn2 : nextB s cs = true := by
            rw [hn]; unfold nextB; simp [hpos, hc]
          have hcb : ((s[0]).toNat : Int) = (nth cs k : Int) := by rw [← hb, hc]
          have HN := Lib.hid hn2
          rw [hb] at hc
          rw [← hc] at hck
          clear hn hn2 hdr h0 hcb hb hc
          go_wp2_with fail
          go_ret
          rw [HN.out]
          exact ⟨rfl, setCell_heap hrb 0 _, (Keep.refl _ _).setCell _ fun o _ h _ => h rfl⟩
        · have hn2 : nextB s cs = nextB s (cs.drop (k + 1)) := by
            rw [hn]; unfold nextB; simp [hc]
          have hcb : (((s[0]).toNat : Int) == (nth cs k : Int)) = false := by rw [hb] at hc; simp; omega
          have HN := Lib.hid hn2
          clear hn hn2 hdr h0 hb hc
          go_wp2_with fail
          go_round
          case rel => exact ⟨k + 1, by omega, by go_num, HN.out⟩
          case measure => simp [RowKit.intOf]; omega
    · obtain rfl : k = cs.length := by omega
      have hf : nextB s cs = false := by rw [hn, List.drop_length]; unfold nextB; simp
      have HF := Lib.hid hf
      clear hn hf
      go_wp2_with fail
      go_ret
      rw [HF.out]
      exact ⟨rfl, hrb, Keep.refl _ _⟩
set_option maxRecDepth 100000 in
theorem runes_any (s : ByteArray) (w : World) : Calls Tryz.prog 237 #[.string s] w fun e w' => e = .returned (.func (.func 272) #[] #[.pointer (some ⟨w.heap.size, 0, none⟩)]) ∧ w' = w.alloc (.cells #[.string s] 9) := by
  go_enter Tryz.func237, Tryz.ntmps237
  go_wp2
  go_ret
  exact ⟨rfl, rfl⟩
def ReadOut (rb : Nat) (r : ByteArray × ByteArray) (w : World) (e : Ending) (w' : World) : Prop := e = .returned (.string r.1) ∧ RB rb r.2 w' ∧ Keep (fun k _ => k ≠ rb) w w'
set_option maxRecDepth 100000 in
set_option maxHeartbeats 2000000 in
theorem digits_any (rb : Nat) (s : ByteArray) (w : World) (hrb : RB rb s w) (hs : s.size ≤ 1099511627776) :
    Calls Tryz.prog 206 #[.pointer (some ⟨rb, 0, none⟩)] w (ReadOut rb (digsB s, restD s) w) := by
  have hdn := digN_le (bytesN s)
  rw [bytesN_length] at hdn
  have hblt := lt_of_some hrb
  obtain ⟨d, hd⟩ : ∃ d, digN (bytesN s) = d := ⟨_, rfl⟩
  rw [hd] at hdn
  have HD := Lib.hid hd
  refine (callsIn_wide (n := 0)).1 ?_
  refine callsIn_of_wp_marks Tryz.func206 rfl trivial ?_ rfl
  simp only [Tryz.ntmps206, List.size_toArray, List.length_cons, List.length_nil, Nat.reduceAdd, Nat.reduceSub, Array.replicate_succ, Array.replicate_zero, List.push_toArray, List.append_toArray, List.nil_append, List.cons_append]
  have c0 := alloc_cell (cells1 hrb)
  gi_wp2_with (first
    | (gi_at_call 237; refine (callsW (runes_any _ _)).mono ?_; rintro e w' ⟨rfl, rfl⟩))
  clear c0
  generalize hW1 : World.alloc _ (.cells #[.string s] 9) = W1
  have hz : W1.heap.size = w.heap.size + 2 := by rw [← hW1]; simp
  have hk1 : Same w W1 := by rw [← hW1]; exact (((Keep.refl _ w).alloc _).alloc _)
  have b1 : Boxed W1 w.heap.size 3 (.int .i64 ((0 : Nat) : Int)) := by rw [← hW1]; repeat (first | exact heap_new' (by simp) | refine heap_old ?_)
  have b2 : Boxed W1 (w.heap.size + 1) 9 (.string s) := by rw [← hW1]; repeat (first | exact heap_new' (by simp) | refine heap_old ?_)
  clear hW1
  have hrb1 := hk1.same _ _ hrb trivial
  refine wp_rangeS (gf := 272) (lb := #[.pointer (some ⟨w.heap.size + 1, 0, none⟩)])
    rfl (enters_of Tryz.func272 (by kernel_rfl) rfl) d (fun i v _ => v = #[.int .i32 (nth (bytesN s) i)]) (fun b o => b ≠ w.heap.size ∨ ∀ c f, o ≠ .cells c 3 f) (fun b o => b < w.heap.size + 4 ∨ o.isCells = true)
    (fun _ => True) (fun _ _ => True) ?hit ?hSb ?hSi (fun i A => Boxed A w.heap.size 3 (.int .i64 (i : Int))) (fun _ _ _ => False) ?hI (fun _ _ _ _ h _ => h) ?hE (fun _ _ _ _ => trivial) (fun _ _ _ _ _ => trivial) ?hEs b1 ?hround ?hdone (fun _ _ _ _ _ _ h => h.elim)
  case hit =>
    intro W2 hk2 hz2
    have := runes1_iter s (w.heap.size + 1) (fun b o => b ≠ w.heap.size ∨ ∀ c f, o ≠ .cells c 3 f) (fun b o => b < w.heap.size + 4 ∨ o.isCells = true) W2 (by omega) (hk2.boxed b2 trivial) (fun c f => .inr (by simp)) (fun b o _ ho => .inr fun c f e => by subst e; cases ho) (fun b o h => by rw [hz2, hz]; exact h)
    rw [HD.out] at this
    exact this
  case hSb => exact fun b o hb ho => .inr fun c f e => by subst e; cases ho
  case hSi => exact fun b o _ h _ => .inl (by omega)
  case hI => exact fun i A B h hk => hk.boxed h ⟨.inr rfl, .inr rfl⟩
  case hE => exact fun i v A B h _ => h
  case hEs => rintro i v A rfl; rfl
  case hround =>
    intro i v hv
    obtain ⟨x, rfl⟩ := size_one rfl hv
    apply Exists.intro
    apply And.intro
    · intro l2 A K hK
      gi_wp2
      exact hK
    · rintro l2 A hl2 _ hi h1 _
      have c0 := h1.cell
      have f0 := h1.frozen
      gi_wp2
      refine ⟨(Keep.refl _ A).setCell _ fun o ho hs _ => ?_, by have := h1.set (.int .i64 ((i : Int) + 1)); simpa using this⟩
      have h1' : A.heap[w.heap.size]? = some (.cells #[.int .i64 (i : Int)] 3 (0, 0)) := h1
      rw [show (⟨w.heap.size, 0, none⟩ : Addr).block = w.heap.size from rfl, h1'] at ho
      cases ho
      rcases hs with hs | hs
      · exact hs rfl
      · exact hs _ _ rfl
  case hdone =>
    rintro D A hD h1 _ hk hDB
    have hrbA : RB rb s A := hk.same _ _ hrb1 ⟨.inl (by omega), .inl (by omega)⟩
    have c0 := cells1 hrbA
    have c1 := h1.cell
    have hkA : Same w A := ⟨hk.os.trans hk1.os, hk.tape.trans hk1.tape, hk.output.trans hk1.output, Nat.le_trans hk1.size hk.size, fun b o hb _ => hk.same b o (hk1.same b o hb trivial) ⟨.inl (by have := lt_of_some hb; omega), .inl (by have := lt_of_some hb; omega)⟩⟩
    gi_wp2_with fail
    refine wpIn_region_shut (fun Z => RB rb s Z ∧ Boxed Z w.heap.size 3 (.int .i64 (d : Int))) reads (fun _ => trivial) rfl (by kernel_rfl) (by kernel_rfl) ⟨hrbA, h1⟩ ?_
    refine shT_x rfl rfl ?_; intro K hK w' hs; have z0 := cells1 hs.1; have z1 := hs.2.cell; go_simp; refine hK _ _ ?_; clear hK K z0 z1 hs w'
    refine shT_x rfl rfl ?_; intro K hK w' hs; have z0 := cells1 hs.1; have z1 := hs.2.cell; go_simp; refine hK _ _ ?_; clear hK K z0 z1 hs w'
    refine shT_x rfl rfl ?_; intro K hK w' hs; have z0 := cells1 hs.1; have z1 := hs.2.cell; go_simp; refine hK _ _ ?_; clear hK K z0 z1 hs w'
    refine shT_x rfl rfl ?_; intro K hK w' hs; have z0 := cells1 hs.1; have z1 := hs.2.cell; go_simp; refine hK _ _ ?_; clear hK K z0 z1 hs w'
    refine shT_x rfl rfl ?_; intro K hK w' hs; have z0 := cells1 hs.1; have z1 := hs.2.cell; go_simp; refine hK _ _ ?_; clear hK K z0 z1 hs w'
    refine shT_x rfl rfl ?_; intro K hK w' hs; have z0 := cells1 hs.1; have z1 := hs.2.cell; go_simp; refine hK _ _ ?_; clear hK K z0 z1 hs w'
    refine shT_x rfl rfl ?_; intro K hK w' hs; have z0 := cells1 hs.1; have z1 := hs.2.cell; go_simp; refine hK _ _ ?_; clear hK K z0 z1 hs w'
    refine shT_x rfl rfl ?_; intro K hK w' hs; have z0 := cells1 hs.1; have z1 := hs.2.cell; go_simp; refine hK _ _ ?_; clear hK K z0 z1 hs w'
    refine shT_nil ?_
    gi_wp2_with fail
    refine wpIn_region_tailA (fun Z => RB rb s Z ∧ Boxed Z w.heap.size 3 (.int .i64 (d : Int))) reads (fun _ => trivial) rfl (by kernel_rfl) rfl (by kernel_rfl) (by kernel_rfl) ⟨hrbA, h1⟩ ?_
    simp only [initL]
    refine shT_x rfl rfl ?_; intro K hK w' hs; have z0 := cells1 hs.1; have z1 := hs.2.cell; go_simp; refine hK _ _ ?_; clear hK K z0 z1 hs w'
    refine shT_x rfl rfl ?_; intro K hK w' hs; have z0 := cells1 hs.1; have z1 := hs.2.cell; go_simp; refine hK _ _ ?_; clear hK K z0 z1 hs w'
    refine shT_x rfl rfl ?_; intro K hK w' hs; have z0 := cells1 hs.1; have z1 := hs.2.cell; go_simp; refine hK _ _ ?_; clear hK K z0 z1 hs w'
    refine shT_x rfl rfl ?_; intro K hK w' hs; have z0 := cells1 hs.1; have z1 := hs.2.cell; go_simp; refine hK _ _ ?_; clear hK K z0 z1 hs w'
    refine shT_x rfl rfl ?_; intro K hK w' hs; have z0 := cells1 hs.1; have z1 := hs.2.cell; go_simp; refine hK _ _ ?_; clear hK K z0 z1 hs w'
    refine shT_x rfl rfl ?_; intro K hK w' hs; have z0 := cells1 hs.1; have z1 := hs.2.cell; go_simp; refine hK _ _ ?_; clear hK K z0 z1 hs w'
    refine shT_x rfl rfl ?_; intro K hK w' hs; have z0 := cells1 hs.1; have z1 := hs.2.cell; go_simp; refine hK _ _ ?_; clear hK K z0 z1 hs w'
    refine shT_x rfl rfl ?_; intro K hK w' hs; have z0 := cells1 hs.1; have z1 := hs.2.cell; go_simp; refine hK _ _ ?_; clear hK K z0 z1 hs w'
    refine shT_x rfl rfl ?_; intro K hK w' hs; have z0 := cells1 hs.1; have z1 := hs.2.cell; go_simp; refine hK _ _ ?_; clear hK K z0 z1 hs w'
    refine shT_x rfl rfl ?_; intro K hK w' hs; have z0 := cells1 hs.1; have z1 := hs.2.cell; go_simp; refine hK _ _ ?_; clear hK K z0 z1 hs w'
    refine shT_x rfl rfl ?_; intro K hK w' hs; have z0 := cells1 hs.1; have z1 := hs.2.cell; go_simp; refine hK _ _ ?_; clear hK K z0 z1 hs w'
    refine shT_tail (tail_last rfl ?_)
    have hfz : ∀ j, A.frozen? ⟨rb, j, none⟩ = false := Lib.frozen_of_heap hrbA
    go_simp
    gi_wp2
    have hk9 : Keep (fun k _ => k ≠ rb) A (A.setCell ⟨rb, 0, none⟩ (.string (s.extract d s.size))).drew.drew := (((Keep.refl _ _).setCell _ fun o _ h _ => h rfl).drew).drew
    have hD9 := hk9.same _ _ hDB (by omega)
    have hrb9 : RB rb (s.extract d s.size) (A.setCell ⟨rb, 0, none⟩ (.string (s.extract d s.size))).drew.drew := setCell_heap hrbA 0 _
    generalize (A.setCell ⟨rb, 0, none⟩ (.string (s.extract d s.size))).drew.drew = B at hk9 hD9 hrb9 ⊢
    refine ⟨by simp, .inl ⟨_, _, rfl, run_takeDeferred hD9, ?_⟩⟩
    have hkp := (Keep.refl (fun k o => k ≠ D ∨ o.isCells = true) B).putObj (r := D) (.deferred none) fun o ho hs _ => by rw [hD9] at ho; cases ho; rcases hs with h | h; exact h rfl; cases h
    refine ⟨_, results_tmp rfl _ _ _, ⟨?_, ?_, ?_⟩⟩
    · unfold digsB; rw [HD.out]; rfl
    · show RB rb (restD s) _
      unfold restD; rw [HD.out]
      exact hkp.same _ _ hrb9 (.inr rfl)
    · exact ⟨hkp.os.trans (hk9.os.trans hkA.os), hkp.tape.trans (hk9.tape.trans hkA.tape), hkp.output.trans (hk9.output.trans hkA.output), Nat.le_trans hkA.size (Nat.le_trans hk9.size hkp.size), fun y o hy hyb => hkp.same y o (hk9.same y o (hkA.same y o hy trivial) hyb) (.inl (by have := lt_of_some hy; omega))⟩
end Go.Tm

set_option linter.unusedVariables false
namespace Go.Tm
open Go.RowKit Go.Proofs
theorem tail_size (s : ByteArray) : (tailB s).size ≤ s.size := by unfold tailB; rw [ByteArray.size_extract]; omega
theorem digsB_size (s : ByteArray) : (digsB s).size ≤ s.size := by unfold digsB; rw [ByteArray.size_extract]; omega
theorem restD_size (s : ByteArray) : (restD s).size ≤ s.size := by unfold restD; rw [ByteArray.size_extract]; omega
theorem isNext1 (rb : Nat) (s : ByteArray) (c : Nat) (w : World) (hrb : RB rb s w) (hs : s.size ≤ 1099511627776) :
    Calls Tryz.prog 155 #[.pointer (some ⟨rb, 0, none⟩), .slice (some ⟨w.heap.size, 0, none⟩) 1 1] (w.alloc (.cells #[.int .u8 (c : Int)] 5)) (NextOut rb s (nextB s [c]) (w.alloc (.cells #[.int .u8 (c : Int)] 5))) :=
  isNext_any rb w.heap.size s [c] _ (heap_old hrb) (fun j hj => by
    obtain rfl : j = 0 := by simpa using hj
    exact cells1 (World.alloc_heap_new w _)) (by simp) hs
theorem isNext2 (rb : Nat) (s : ByteArray) (c d : Nat) (w : World) (hrb : RB rb s w) (hs : s.size ≤ 1099511627776) :
    Calls Tryz.prog 155 #[.pointer (some ⟨rb, 0, none⟩), .slice (some ⟨w.heap.size, 0, none⟩) 2 2] (w.alloc (.cells #[.int .u8 (c : Int), .int .u8 (d : Int)] 5)) (NextOut rb s (nextB s [c, d]) (w.alloc (.cells #[.int .u8 (c : Int), .int .u8 (d : Int)] 5))) :=
  isNext_any rb w.heap.size s [c, d] _ (heap_old hrb) (fun j hj => by
    have : j = 0 ∨ j = 1 := by simp at hj; omega
    rcases this with rfl | rfl
    · exact (cells2 (World.alloc_heap_new w _)).1
    · exact (cells2 (World.alloc_heap_new w _)).2) (by simp) hs
theorem keep_new {rb : Nat} {w w' : World} {o : Obj} (h : Keep (fun k _ => k ≠ rb) (w.alloc o) w') : Keep (fun k _ => k ≠ rb) w w' := ((Keep.refl _ w).alloc o).trans h
set_option maxRecDepth 100000 in
set_option maxHeartbeats 1000000 in
theorem whole_rd (rb : Nat) (s : ByteArray) (w : World) (hrb : RB rb s w) (hs : s.size ≤ 1099511627776) :
    Calls Tryz.prog 156 #[.pointer (some ⟨rb, 0, none⟩)] w (ReadOut rb (wholeR s) w) := by
  have hnx := isNext1 rb s 48 w hrb hs
  obtain ⟨b, hb⟩ : ∃ b, nextB s [48] = b := ⟨_, rfl⟩
  have hw : wholeR s = if b then (⟨#[48]⟩, tailB s) else (digsB s, restD s) := by unfold wholeR; rw [hb]
  rw [hb] at hnx
  have HW := Lib.hid hw
  clear hw hb
  go_enter Tryz.func156, Tryz.ntmps156
  go_wp2_with fail
  refine hnx.mono ?_
  rintro e w1 ⟨rfl, hr1, hk1⟩
  have hkw := keep_new hk1
  clear hnx
  cases b with
  | true =>
    go_wp2_with fail
    go_ret
    rw [HW.out]
    exact ⟨rfl, hr1, hkw⟩
  | false =>
    have hdg := digits_any rb s w1 hr1 hs
    go_wp2_with fail
    refine hdg.mono ?_
    rintro e w2 ⟨rfl, hr2, hk2⟩
    go_wp2_with fail
    go_ret
    rw [HW.out]
    exact ⟨rfl, hr2, hkw.trans hk2⟩
set_option maxRecDepth 100000 in
set_option maxHeartbeats 1000000 in
theorem part_rd (rb : Nat) (s : ByteArray) (w : World) (hrb : RB rb s w) (hs : s.size ≤ 1099511627776) :
    Calls Tryz.prog 157 #[.pointer (some ⟨rb, 0, none⟩)] w (ReadOut rb (partR s) w) := by
  have hnx := isNext1 rb s 46 w hrb hs
  obtain ⟨b, hb⟩ : ∃ b, nextB s [46] = b := ⟨_, rfl⟩
  have hw : partR s = if b = true ∧ (digsB (tailB s)).size ≠ 0 then (digsB (tailB s), restD (tailB s)) else (⟨#[]⟩, s) := by unfold partR; rw [hb]
  rw [hb] at hnx
  have HW := Lib.hid hw
  clear hw hb
  have c0 := cells1 hrb
  go_enter Tryz.func157, Tryz.ntmps157
  go_wp2_with fail
  refine hnx.mono ?_
  rintro e w1 ⟨rfl, hr1, hk1⟩
  have hkw := keep_new hk1
  clear hnx c0
  cases b with
  | true =>
    have hdg := digits_any rb (tailB s) w1 hr1 (Nat.le_trans (tail_size s) hs)
    obtain ⟨D, hD⟩ : ∃ D, digsB (tailB s) = D := ⟨_, rfl⟩
    rw [hD] at hdg HW
    obtain ⟨R, hR⟩ : ∃ R, restD (tailB s) = R := ⟨_, rfl⟩
    rw [hR] at hdg HW
    clear hD hR
    go_wp2_with fail
    refine hdg.mono ?_
    rintro e w2 ⟨rfl, hr2, hk2⟩
    by_cases h0 : D.size = 0
    · have e1 : D.toList = [] := by
        have : D = ByteArray.empty := by simpa using h0
        rw [this, ByteArray.toList_eq]; rfl
      have HW2 := Lib.hid (show partR s = (⟨#[]⟩, s) from by rw [HW.out]; simp [h0])
      have c2 := cells1 hr2
      have hfz : ∀ j, w2.frozen? ⟨rb, j, none⟩ = false := Lib.frozen_of_heap hr2
      clear h0 hdg
      go_wp2_with fail
      go_ret
      rw [HW2.out]
      exact ⟨rfl, setCell_heap hr2 0 _, (hkw.trans hk2).setCell _ fun o _ h _ => h rfl⟩
    · have e1 : (D.toList == []) = false := by
        cases h : D.toList with
        | nil =>
          have : D.toList.length = D.size := by rw [ByteArray.toList_eq]; simp
          rw [h] at this; simp at this; omega
        | cons x l => rfl
      have HW2 := Lib.hid (show partR s = (D, R) from by rw [HW.out]; simp [h0])
      clear h0 hdg
      go_wp2_with fail
      go_ret
      rw [HW2.out]
      exact ⟨rfl, hr2, hkw.trans hk2⟩
  | false =>
    have HW2 := Lib.hid (show partR s = (⟨#[]⟩, s) from by rw [HW.out]; simp)
    have c2 := cells1 hr1
    have hfz : ∀ j, w1.frozen? ⟨rb, j, none⟩ = false := Lib.frozen_of_heap hr1
    go_wp2_with fail
    go_ret
    rw [HW2.out]
    exact ⟨rfl, setCell_heap hr1 0 _, hkw.setCell _ fun o _ h _ => h rfl⟩
def signR (s : ByteArray) : Int × ByteArray := if nextB s [45] then (-1, tailB s) else (1, if nextB s [43] then tailB s else s)
def atoiV (d : ByteArray) : Int := match Lib.atoiAll d.data.toList with
  | .ok v => v
  | .range => Lib.atoiSat d.data.toList
  | _ => 0
def atoiOk (d : ByteArray) : Bool := match Lib.atoiAll d.data.toList with
  | .ok _ => true
  | _ => false
def powerR (s : ByteArray) : (Int × Bool) × ByteArray :=
  if nextB s [101, 69] = true ∧ (digsB (signR (tailB s)).2).size ≠ 0 then
    ((wrap64 ((signR (tailB s)).1 * atoiV (digsB (signR (tailB s)).2)), atoiOk (digsB (signR (tailB s)).2) && decide ((digsB (signR (tailB s)).2).size ≤ 4)), restD (signR (tailB s)).2)
  else ((0, true), s)
def AtoiErr (b : Bool) (ev : Value) : Prop := if b then ev = .nilIface else ∃ t p, ev = .iface t (.pointer (some p))
theorem atoi_any {N : Nat} {E : Errs} (d : ByteArray) (w : World) (hG : Glob N E w) (hs : d.size ≤ 1099511627776) :
    Calls Tryz.prog 207 #[.string d] w fun e w' => ∃ ev, e = .returned (.tuple #[.int .i64 (atoiV d), ev]) ∧ AtoiErr (atoiOk d) ev ∧ Same w w' := by
  unfold atoiV atoiOk
  cases h : Lib.atoiAll d.data.toList with
  | ok v =>
    refine (Tryz.strconv_Atoi_ok d (by omega) v h w).mono ?_
    rintro e w' ⟨rfl, hk⟩
    refine ⟨_, rfl, rfl, ?_⟩
    rcases hk with rfl | ⟨t, rfl⟩
    · exact Keep.refl _ _
    · exact Keep.of_below (Lib.bytesWorld_below _ _ _)
  | range =>
    obtain ⟨tp, p, hv⟩ := hG.range
    refine (Tryz.strconv_Atoi_range_var d (by omega) h tp p w hv).mono ?_
    rintro e w' ⟨n, rfl, _, _, hb⟩
    exact ⟨_, rfl, ⟨_, _, rfl⟩, Keep.of_below hb⟩
  | _ =>
    obtain ⟨tp, p, hv⟩ := hG.syn
    refine (Tryz.strconv_Atoi_syntax_var d (by omega) h tp p w hv).mono ?_
    rintro e w' ⟨n, rfl, _, _, hb⟩
    exact ⟨_, rfl, ⟨_, _, rfl⟩, Keep.of_below hb⟩
def PowOut (rb : Nat) (r : (Int × Bool) × ByteArray) (w : World) (e : Ending) (w' : World) : Prop := e = .returned (.tuple #[.int .i64 r.1.1, .bool r.1.2]) ∧ RB rb r.2 w' ∧ Keep (fun k _ => k ≠ rb) w w'
theorem AtoiErr.is_iface {b : Bool} {ev : Value} (h : AtoiErr b ev) : ev = .nilIface ∨ ∃ t p, ev = .iface t (.pointer (some p)) := by
  cases b with
  | true => exact .inl h
  | false => exact .inr h
theorem atoi_bd (d : ByteArray) : -9223372036854775808 ≤ atoiV d ∧ atoiV d ≤ 9223372036854775807 := by
  unfold atoiV
  cases h : Lib.atoiAll d.data.toList with
  | range => simp only [Lib.atoiSat]; split <;> simp
  | ok v =>
    simp only
    unfold Lib.atoiAll at h
    split at h
    · cases h
    · dsimp only at h
      split at h
      · cases h
      · cases h
      · split at h
        · cases h
        · split at h
          · cases h
          · rename_i h1 h2
            injection h with h
            subst h
            split <;> omega
  | _ => simp
set_option maxRecDepth 100000 in
set_option maxHeartbeats 2000000 in
theorem power_rd {N : Nat} {E : Errs} (rb : Nat) (s : ByteArray) (w : World) (hG : Glob N E w) (hN : N ≤ rb) (hrb : RB rb s w) (hs : s.size ≤ 1099511627776) :
    Calls Tryz.prog 158 #[.pointer (some ⟨rb, 0, none⟩)] w (PowOut rb (powerR s) w) := by
  have hnx := isNext2 rb s 101 69 w hrb hs
  have hts := Nat.le_trans (tail_size s) hs
  have htt := Nat.le_trans (tail_size (tailB s)) hts
  obtain ⟨b1, hb1⟩ : ∃ b, nextB s [101, 69] = b := ⟨_, rfl⟩
  rw [hb1] at hnx
  have HB1 := Lib.hid hb1
  clear hb1
  have c0 := cells1 hrb
  go_enter Tryz.func158, Tryz.ntmps158
  go_wp2_with fail
  refine hnx.mono ?_
  rintro e w1 ⟨rfl, hr1, hk1⟩
  have hkw := keep_new hk1
  clear hnx c0
  cases b1 with
  | false =>
    have HW2 := Lib.hid (show powerR s = ((0, true), s) from by unfold powerR; rw [HB1.out]; simp)
    have c2 := cells1 hr1
    have hfz : ∀ j, w1.frozen? ⟨rb, j, none⟩ = false := Lib.frozen_of_heap hr1
    go_wp2_with fail
    go_ret2
    rw [HW2.out]
    exact ⟨rfl, setCell_heap hr1 0 _, hkw.setCell _ fun o _ h _ => h rfl⟩
  | true =>
    simp only [if_true] at hr1
    have hnx2 := isNext1 rb (tailB s) 45 w1 hr1 hts
    obtain ⟨b2, hb2⟩ : ∃ b, nextB (tailB s) [45] = b := ⟨_, rfl⟩
    rw [hb2] at hnx2
    have HB2 := Lib.hid hb2
    clear hb2
    go_wp2_with fail
    refine hnx2.mono ?_
    rintro e w2 ⟨rfl, hr2, hk2⟩
    have hkw2 := hkw.trans (keep_new hk2)
    clear hnx2 hk2 hk1
    cases b2 with
    | true =>
      simp only [if_true] at hr2
      have hdg := digits_any rb (tailB (tailB s)) w2 hr2 htt
      obtain ⟨D, hD⟩ : ∃ D, digsB (tailB (tailB s)) = D := ⟨_, rfl⟩
      obtain ⟨R, hR⟩ : ∃ R, restD (tailB (tailB s)) = R := ⟨_, rfl⟩
      have hDz : D.size ≤ 1099511627776 := by rw [← hD]; exact Nat.le_trans (digsB_size _) htt
      have hpw : powerR s = if D.size ≠ 0 then ((wrap64 (-1 * atoiV D), atoiOk D && decide (D.size ≤ 4)), R) else ((0, true), s) := by
        unfold powerR
        rw [HB1.out]
        have hsg : signR (tailB s) = (-1, (tailB (tailB s))) := by unfold signR; simp [HB2.out]
        rw [hsg]
        simp only [hD, hR, true_and]
      rw [hD, hR] at hdg
      have HPW := Lib.hid hpw
      clear hpw hD hR
      go_wp2_with fail
      refine hdg.mono ?_
      rintro e w7 ⟨rfl, hr7, hk7⟩
      have hkw7 := hkw2.trans hk7
      have hat := atoi_any D w7 (hG.keep hkw7 fun k hlt _ => by omega) hDz
      have hbd := atoi_bd D
      obtain ⟨av, hav⟩ : ∃ v, atoiV D = v := ⟨_, rfl⟩
      obtain ⟨ao, hao⟩ : ∃ v, atoiOk D = v := ⟨_, rfl⟩
      rw [hav] at hat HPW hbd
      rw [hao] at hat HPW
      clear hav hao hdg
      go_wp2_with fail
      refine hat.mono ?_
      rintro e w8 ⟨ev, rfl, hev, hk8⟩
      have hr8 := hk8.same _ _ hr7 trivial
      have hkw8 := hkw7.trans (Keep.of_same hk8)
      clear hat
      by_cases h0 : D.size = 0
      · have e1 : D.toList = [] := by
          have : D = ByteArray.empty := by simpa using h0
          rw [this, ByteArray.toList_eq]; rfl
        have HW2 := Lib.hid (show powerR s = ((0, true), s) from by rw [HPW.out]; simp [h0])
        have c2 := cells1 hr8
        have hfz : ∀ j, w8.frozen? ⟨rb, j, none⟩ = false := Lib.frozen_of_heap hr8
        have hev1 := hev.is_iface
        clear h0
        go_wp2_with fail
        go_ret2
        rw [HW2.out]
        exact ⟨rfl, setCell_heap hr8 0 _, hkw8.setCell _ fun o _ h _ => h rfl⟩
      · have e1 : (D.toList == []) = false := by
          cases h : D.toList with
          | nil =>
            have : D.toList.length = D.size := by rw [ByteArray.toList_eq]; simp
            rw [h] at this; simp at this; omega
          | cons x l => rfl
        have HW2 := Lib.hid (show powerR s = ((wrap64 (-1 * av), ao && decide (D.size ≤ 4)), R) from by rw [HPW.out]; simp [h0])
        clear h0
        cases ao with
        | true =>
          have hev2 : ev = .nilIface := hev
          subst hev2
          by_cases h4 : D.size ≤ 4
          · have h4b : decide ((D.size : Int) ≤ 4) = true := by simp; omega
            go_wp2_with fail
            go_ret2
            rw [HW2.out]
            exact ⟨by simp [h4] <;> (unfold wrap64; omega), hr8, hkw8⟩
          · have h4b : decide ((D.size : Int) ≤ 4) = false := by simp; omega
            go_wp2_with fail
            go_ret2
            rw [HW2.out]
            exact ⟨by simp [h4] <;> (unfold wrap64; omega), hr8, hkw8⟩
        | false =>
          obtain ⟨tt, pp, rfl⟩ : ∃ t p, ev = .iface t (.pointer (some p)) := hev
          go_wp2_with fail
          go_ret2
          rw [HW2.out]
          exact ⟨by simp <;> (unfold wrap64; omega), hr8, hkw8⟩
    | false =>
      simp only [Bool.false_eq_true, if_false] at hr2
      have hnx3 := isNext1 rb (tailB s) 43 w2 hr2 hts
      obtain ⟨b3, hb3⟩ : ∃ b, nextB (tailB s) [43] = b := ⟨_, rfl⟩
      rw [hb3] at hnx3
      have HB3 := Lib.hid hb3
      clear hb3
      go_wp2_with fail
      refine hnx3.mono ?_
      rintro e w3 ⟨rfl, hr3, hk3⟩
      have hkw3 := hkw2.trans (keep_new hk3)
      clear hnx3 hk3
      cases b3 with
      | true =>
        simp only [if_true] at hr3
        have hdg := digits_any rb (tailB (tailB s)) w3 hr3 htt
        obtain ⟨D, hD⟩ : ∃ D, digsB (tailB (tailB s)) = D := ⟨_, rfl⟩
        obtain ⟨R, hR⟩ : ∃ R, restD (tailB (tailB s)) = R := ⟨_, rfl⟩
        have hDz : D.size ≤ 1099511627776 := by rw [← hD]; exact Nat.le_trans (digsB_size _) htt
        have hpw : powerR s = if D.size ≠ 0 then ((wrap64 (1 * atoiV D), atoiOk D && decide (D.size ≤ 4)), R) else ((0, true), s) := by
          unfold powerR
          rw [HB1.out]
          have hsg : signR (tailB s) = (1, (tailB (tailB s))) := by unfold signR; simp [HB2.out, HB3.out]
          rw [hsg]
          simp only [hD, hR, true_and]
        rw [hD, hR] at hdg
        have HPW := Lib.hid hpw
        clear hpw hD hR
        go_wp2_with fail
        refine hdg.mono ?_
        rintro e w7 ⟨rfl, hr7, hk7⟩
        have hkw7 := hkw3.trans hk7
        have hat := atoi_any D w7 (hG.keep hkw7 fun k hlt _ => by omega) hDz
        have hbd := atoi_bd D
        obtain ⟨av, hav⟩ : ∃ v, atoiV D = v := ⟨_, rfl⟩
        obtain ⟨ao, hao⟩ : ∃ v, atoiOk D = v := ⟨_, rfl⟩
        rw [hav] at hat HPW hbd
        rw [hao] at hat HPW
        clear hav hao hdg
        go_wp2_with fail
        refine hat.mono ?_
        rintro e w8 ⟨ev, rfl, hev, hk8⟩
        have hr8 := hk8.same _ _ hr7 trivial
        have hkw8 := hkw7.trans (Keep.of_same hk8)
        clear hat
        by_cases h0 : D.size = 0
        · have e1 : D.toList = [] := by
            have : D = ByteArray.empty := by simpa using h0
            rw [this, ByteArray.toList_eq]; rfl
          have HW2 := Lib.hid (show powerR s = ((0, true), s) from by rw [HPW.out]; simp [h0])
          have c2 := cells1 hr8
          have hfz : ∀ j, w8.frozen? ⟨rb, j, none⟩ = false := Lib.frozen_of_heap hr8
          have hev1 := hev.is_iface
          clear h0
          go_wp2_with fail
          go_ret2
          rw [HW2.out]
          exact ⟨rfl, setCell_heap hr8 0 _, hkw8.setCell _ fun o _ h _ => h rfl⟩
        · have e1 : (D.toList == []) = false := by
            cases h : D.toList with
            | nil =>
              have : D.toList.length = D.size := by rw [ByteArray.toList_eq]; simp
              rw [h] at this; simp at this; omega
            | cons x l => rfl
          have HW2 := Lib.hid (show powerR s = ((wrap64 (1 * av), ao && decide (D.size ≤ 4)), R) from by rw [HPW.out]; simp [h0])
          clear h0
          cases ao with
          | true =>
            have hev2 : ev = .nilIface := hev
            subst hev2
            by_cases h4 : D.size ≤ 4
            · have h4b : decide ((D.size : Int) ≤ 4) = true := by simp; omega
              go_wp2_with fail
              go_ret2
              rw [HW2.out]
              exact ⟨by simp [h4] <;> (unfold wrap64; omega), hr8, hkw8⟩
            · have h4b : decide ((D.size : Int) ≤ 4) = false := by simp; omega
              go_wp2_with fail
              go_ret2
              rw [HW2.out]
              exact ⟨by simp [h4] <;> (unfold wrap64; omega), hr8, hkw8⟩
          | false =>
            obtain ⟨tt, pp, rfl⟩ : ∃ t p, ev = .iface t (.pointer (some p)) := hev
            go_wp2_with fail
            go_ret2
            rw [HW2.out]
            exact ⟨by simp <;> (unfold wrap64; omega), hr8, hkw8⟩
      | false =>
        simp only [Bool.false_eq_true, if_false] at hr3
        have hdg := digits_any rb (tailB s) w3 hr3 hts
        obtain ⟨D, hD⟩ : ∃ D, digsB (tailB s) = D := ⟨_, rfl⟩
        obtain ⟨R, hR⟩ : ∃ R, restD (tailB s) = R := ⟨_, rfl⟩
        have hDz : D.size ≤ 1099511627776 := by rw [← hD]; exact Nat.le_trans (digsB_size _) hts
        have hpw : powerR s = if D.size ≠ 0 then ((wrap64 (1 * atoiV D), atoiOk D && decide (D.size ≤ 4)), R) else ((0, true), s) := by
          unfold powerR
          rw [HB1.out]
          have hsg : signR (tailB s) = (1, (tailB s)) := by unfold signR; simp [HB2.out, HB3.out]
          rw [hsg]
          simp only [hD, hR, true_and]
        rw [hD, hR] at hdg
        have HPW := Lib.hid hpw
        clear hpw hD hR
        go_wp2_with fail
        refine hdg.mono ?_
        rintro e w7 ⟨rfl, hr7, hk7⟩
        have hkw7 := hkw3.trans hk7
        have hat := atoi_any D w7 (hG.keep hkw7 fun k hlt _ => by omega) hDz
        have hbd := atoi_bd D
        obtain ⟨av, hav⟩ : ∃ v, atoiV D = v := ⟨_, rfl⟩
        obtain ⟨ao, hao⟩ : ∃ v, atoiOk D = v := ⟨_, rfl⟩
        rw [hav] at hat HPW hbd
        rw [hao] at hat HPW
        clear hav hao hdg
        go_wp2_with fail
        refine hat.mono ?_
        rintro e w8 ⟨ev, rfl, hev, hk8⟩
        have hr8 := hk8.same _ _ hr7 trivial
        have hkw8 := hkw7.trans (Keep.of_same hk8)
        clear hat
        by_cases h0 : D.size = 0
        · have e1 : D.toList = [] := by
            have : D = ByteArray.empty := by simpa using h0
            rw [this, ByteArray.toList_eq]; rfl
          have HW2 := Lib.hid (show powerR s = ((0, true), s) from by rw [HPW.out]; simp [h0])
          have c2 := cells1 hr8
          have hfz : ∀ j, w8.frozen? ⟨rb, j, none⟩ = false := Lib.frozen_of_heap hr8
          have hev1 := hev.is_iface
          clear h0
          go_wp2_with fail
          go_ret2
          rw [HW2.out]
          exact ⟨rfl, setCell_heap hr8 0 _, hkw8.setCell _ fun o _ h _ => h rfl⟩
        · have e1 : (D.toList == []) = false := by
            cases h : D.toList with
            | nil =>
              have : D.toList.length = D.size := by rw [ByteArray.toList_eq]; simp
              rw [h] at this; simp at this; omega
            | cons x l => rfl
          have HW2 := Lib.hid (show powerR s = ((wrap64 (1 * av), ao && decide (D.size ≤ 4)), R) from by rw [HPW.out]; simp [h0])
          clear h0
          cases ao with
          | true =>
            have hev2 : ev = .nilIface := hev
            subst hev2
            by_cases h4 : D.size ≤ 4
            · have h4b : decide ((D.size : Int) ≤ 4) = true := by simp; omega
              go_wp2_with fail
              go_ret2
              rw [HW2.out]
              exact ⟨by simp [h4] <;> (unfold wrap64; omega), hr8, hkw8⟩
            · have h4b : decide ((D.size : Int) ≤ 4) = false := by simp; omega
              go_wp2_with fail
              go_ret2
              rw [HW2.out]
              exact ⟨by simp [h4] <;> (unfold wrap64; omega), hr8, hkw8⟩
          | false =>
            obtain ⟨tt, pp, rfl⟩ : ∃ t p, ev = .iface t (.pointer (some p)) := hev
            go_wp2_with fail
            go_ret2
            rw [HW2.out]
            exact ⟨by simp <;> (unfold wrap64; omega), hr8, hkw8⟩
def wholeO (s : ByteArray) : ByteArray × ByteArray := wholeR (if nextB s [45] then tailB s else s)
def partO (s : ByteArray) : ByteArray × ByteArray := partR (wholeO s).2
def powerO (s : ByteArray) : (Int × Bool) × ByteArray := powerR (partO s).2
def makeO (s : ByteArray) : Dc × Int := makeB (nextB s [45]) ((wholeO s).1 ++ (partO s).1) (wrap64 ((powerO s).1.1 - ((partO s).1.size : Int)))
def parseM (s : ByteArray) : Dc × ByteArray × Int :=
  if (wholeO s).1.size = 0 ∨ (powerO s).1.2 = false then (noDc, s, 40)
  else if (makeO s).2 ≠ 0 then (noDc, s, (makeO s).2) else ((makeO s).1, (powerO s).2, 0)
theorem wholeR_size (s : ByteArray) : (wholeR s).1.size ≤ s.size + 1 ∧ (wholeR s).2.size ≤ s.size := by
  unfold wholeR
  split
  · exact ⟨by show 1 ≤ _; omega, tail_size s⟩
  · exact ⟨Nat.le_succ_of_le (digsB_size s), restD_size s⟩
theorem partR_size (s : ByteArray) : (partR s).1.size ≤ s.size ∧ (partR s).2.size ≤ s.size := by
  unfold partR
  split
  · exact ⟨Nat.le_trans (digsB_size _) (tail_size s), Nat.le_trans (restD_size _) (tail_size s)⟩
  · exact ⟨Nat.zero_le _, Nat.le_refl _⟩
theorem parse_res (T : Array Value) (W : World) (bx : Nat) (d : Dc) (r : ByteArray) (e : Int) (h2 : T.getD 2 undef = .pointer (some ⟨bx, 0, none⟩)) (h3 : T.getD 3 undef = .string r) (h4 : T.getD 4 undef = .int .i64 e)
    (hrow : W.heap[bx]? = some (.cells #[.bool d.neg, .string d.digits, .int .i64 d.exp] 23 (0, 0))) : (results Tryz.f108 T).run Tryz.prog W = .ok (.tuple #[decV d, .string r, .int .i64 e]) W := by
  have hld := run_loadVar_row (P := Tryz.prog) W bx 23 23 _ (0, 0) _ hrow Tryz.underlying23 rfl (by kernel_rfl)
  have e1 : Tryz.f108.results = #[.cell 2 23, .tmp 3, .tmp 4] := rfl
  unfold results
  rw [e1]
  simp [-Array.getD_eq_getD_getElem?, h2, h3, h4, asAddr, hld, Result.andThen]
set_option maxRecDepth 100000 in
set_option maxHeartbeats 4000000 in
theorem parse_any {N : Nat} {E : Errs} (s : ByteArray) (w : World) (hG : Glob N E w) (hN : N ≤ w.heap.size) (hs : s.size ≤ 274877906944) :
    Calls Tryz.prog 108 #[.string s] w fun e w' => e = .returned (.tuple #[decV (parseM s).1, .string (parseM s).2.1, .int .i64 (parseM s).2.2]) ∧ Same w w' := by
  have h1 : (if nextB s [45] then tailB s else s).size ≤ s.size := by
    split
    · exact tail_size s
    · exact Nat.le_refl _
  have h2 := wholeR_size (if nextB s [45] then tailB s else s)
  have h3 := partR_size (wholeO s).2
  have h2' : (wholeO s).1.size ≤ s.size + 1 ∧ (wholeO s).2.size ≤ s.size := by unfold wholeO; omega
  have hpm : parseM s = if (wholeO s).1.size = 0 ∨ (powerO s).1.2 = false then (noDc, s, 40) else if (makeO s).2 ≠ 0 then (noDc, s, (makeO s).2) else ((makeO s).1, (powerO s).2, 0) := rfl
  obtain ⟨R, hR⟩ : ∃ R, parseM s = R := ⟨_, rfl⟩
  rw [hR] at hpm ⊢
  have HR := Lib.hid hpm
  clear hpm hR
  have hnx := fun W (hr : RB (w.heap.size + 1) s W) => isNext1 (w.heap.size + 1) s 45 W hr (by omega)
  have hwh := fun W hr => whole_rd (w.heap.size + 1) (if nextB s [45] then tailB s else s) W hr (by omega)
  have hpt := fun W hr => part_rd (w.heap.size + 1) (wholeO s).2 W hr (by omega)
  have hpw := fun W hg hr => power_rd (N := N) (E := E) (w.heap.size + 1) (partO s).2 W hg (by omega) hr (by have : (partO s).2.size ≤ _ := h3.2; omega)
  have hp1 : (partO s).1.size ≤ s.size := by have : (partO s).1.size ≤ _ := h3.1; omega
  have hmk := fun W => make_any (nextB s [45]) ((wholeO s).1 ++ (partO s).1) (wrap64 ((powerO s).1.1 - ((partO s).1.size : Int))) W (by rw [ByteArray.size_append]; omega) (by unfold wrap64; omega)
  have hw0 : wholeR (if nextB s [45] then tailB s else s) = wholeO s := rfl
  have hp0 : partR (wholeO s).2 = partO s := rfl
  have hq0 : powerR (partO s).2 = powerO s := rfl
  have hm0 : makeB (nextB s [45]) ((wholeO s).1 ++ (partO s).1) (wrap64 ((powerO s).1.1 - ((partO s).1.size : Int))) = makeO s := rfl
  rw [hw0] at hwh
  rw [hp0] at hpt
  rw [hq0] at hpw
  rw [hm0] at hmk
  clear hw0 hp0 hq0 hm0 h1 h2 h3
  obtain ⟨⟨m1, m2⟩, hm⟩ : ∃ r, makeO s = r := ⟨_, rfl⟩
  obtain ⟨⟨⟨q1, q2⟩, q3⟩, hq⟩ : ∃ r, powerO s = r := ⟨_, rfl⟩
  obtain ⟨⟨p1, p2⟩, hp⟩ : ∃ r, partO s = r := ⟨_, rfl⟩
  obtain ⟨⟨v1, v2⟩, hv⟩ : ∃ r, wholeO s = r := ⟨_, rfl⟩
  rw [hm] at hmk HR
  rw [hq] at hpw hmk HR
  rw [hp] at hpt hpw hmk hp1
  rw [hv] at hwh hpt hmk HR h2'
  clear hm hq hp hv
  simp only at hwh hpt hpw hmk HR h2' hp1
  obtain ⟨b, hb⟩ : ∃ b, nextB s [45] = b := ⟨_, rfl⟩
  rw [hb] at hnx hwh hmk
  clear hb
  unfold NextOut at hnx
  obtain ⟨s1, hs1⟩ : ∃ s1, (if b = true then tailB s else s) = s1 := ⟨_, rfl⟩
  rw [hs1] at hwh
  simp only [hs1] at hnx
  clear hs1
  go_enter Tryz.func108, Tryz.ntmps108
  go_wp2_with fail
  have hrb0 : RB (w.heap.size + 1) s ((w.alloc (.cells #[.bool false, .string ⟨#[]⟩, .int .i64 0] 23)).alloc (.cells #[.string s] 188)) := heap_new' (by simp)
  have hbr0 : ((w.alloc (.cells #[.bool false, .string ⟨#[]⟩, .int .i64 0] 23)).alloc (.cells #[.string s] 188)).heap[w.heap.size]? = some (.cells #[.bool false, .string ⟨#[]⟩, .int .i64 0] 23 (0, 0)) := heap_old (World.alloc_heap_new w _)
  have hk0 : Same w ((w.alloc (.cells #[.bool false, .string ⟨#[]⟩, .int .i64 0] 23)).alloc (.cells #[.string s] 188)) := (by repeat (first | with_reducible exact Keep.refl _ _ | with_reducible refine Keep.alloc ?_ _ | with_reducible refine Keep.drew ?_ | with_reducible refine Keep.drewN ?_ _ | with_reducible refine Keep.trans ?_ (by assumption)))
  have hz0 : ((w.alloc (.cells #[.bool false, .string ⟨#[]⟩, .int .i64 0] 23)).alloc (.cells #[.string s] 188)).heap.size = w.heap.size + 1 + 1 := by simp
  have hnx0 := hnx _ hrb0
  generalize ((w.alloc (.cells #[.bool false, .string ⟨#[]⟩, .int .i64 0] 23)).alloc (.cells #[.string s] 188)) = W0 at hrb0 hbr0 hk0 hz0 hnx0 ⊢
  rw [hz0] at hnx0
  clear hz0
  refine hnx0.mono ?_
  rintro e w1 ⟨rfl, hr1, hk1⟩
  have hkw1 := (Keep.of_same hk0).trans (keep_new hk1)
  have hbr1 := (keep_new hk1).same _ _ hbr0 (by omega)
  clear hnx hnx0 hk1 hbr0 hrb0 hk0
  go_wp2_with fail
  refine (hwh _ hr1).mono ?_
  rintro e w2 ⟨rfl, hr2, hk2⟩
  have hkw2 := hkw1.trans hk2
  have hbr2 := hk2.same _ _ hbr1 (by omega)
  clear hwh hk2 hkw1 hbr1 hr1
  go_wp2_with fail
  refine (hpt _ hr2).mono ?_
  rintro e w3 ⟨rfl, hr3, hk3⟩
  have hkw3 := hkw2.trans hk3
  have hbr3 := hk3.same _ _ hbr2 (by omega)
  clear hpt hk3 hkw2 hbr2 hr2
  go_wp2_with fail
  refine (hpw _ (hG.keep hkw3 fun k hlt _ => by omega) hr3).mono ?_
  rintro e w4 ⟨rfl, hr4, hk4⟩
  have hkw4' := hkw3.trans hk4
  have hbr4 := hk4.same _ _ hbr3 (by omega)
  have hkw4 : Same w w4 := ⟨hkw4'.os, hkw4'.tape, hkw4'.output, hkw4'.size, fun k o ho _ => hkw4'.same k o ho (by have := lt_of_some ho; omega)⟩
  clear hpw hk4 hkw3 hbr3 hr3 hkw4'
  simp only at hr4
  by_cases h0 : v1.size = 0
  · have e1 : v1.toList = [] := by
      have : v1 = ByteArray.empty := by simpa using h0
      rw [this, ByteArray.toList_eq]; rfl
    have HR1 := Lib.hid (show R = (noDc, s, 40) from by rw [HR.out, if_pos (.inl h0)])
    clear h0 hmk
    have c0 := cells3 hbr4
    obtain ⟨x0, x1, x2⟩ := c0
    have hfz : ∀ j, w4.frozen? ⟨w.heap.size, j, none⟩ = false := Lib.frozen_of_heap hbr4
    go_wp2_with fail
    (try simp only [Exit.inBlock, Exit.then])
    obtain ⟨p3, p4⟩ := put3 (x := .bool false) (y := .string ⟨#[]⟩) (z := .int .i64 0) hkw4 hbr4 (by omega)
    exact bodyPost_ret (parse_res _ _ w.heap.size noDc s 40 rfl rfl rfl p3) rfl ⟨by rw [HR1.out] <;> rfl, p4⟩
  · have e1 : (v1.toList == []) = false := by
      cases h : v1.toList with
      | nil =>
        have : v1.toList.length = v1.size := by rw [ByteArray.toList_eq]; simp
        rw [h] at this; simp at this; omega
      | cons x l => rfl
    cases q2 with
    | false =>
      have HR1 := Lib.hid (show R = (noDc, s, 40) from by rw [HR.out, if_pos (.inr rfl)])
      clear h0 hmk
      have c0 := cells3 hbr4
      obtain ⟨x0, x1, x2⟩ := c0
      have hfz : ∀ j, w4.frozen? ⟨w.heap.size, j, none⟩ = false := Lib.frozen_of_heap hbr4
      go_wp2_with fail
      (try simp only [Exit.inBlock, Exit.then])
      obtain ⟨p3, p4⟩ := put3 (x := .bool false) (y := .string ⟨#[]⟩) (z := .int .i64 0) hkw4 hbr4 (by omega)
      exact bodyPost_ret (parse_res _ _ w.heap.size noDc s 40 rfl rfl rfl p3) rfl ⟨by rw [HR1.out] <;> rfl, p4⟩
    | true =>
      have hR2 : R = if m2 ≠ 0 then (noDc, s, m2) else (m1, q3, 0) := by rw [HR.out, if_neg (by rintro (h | h); exact h0 h; cases h)]
      have HR2 := Lib.hid hR2
      clear hR2 h0
      obtain ⟨ex, hex⟩ : ∃ ex, wrap64 (q1 - (p1.size : Int)) = ex := ⟨_, rfl⟩
      rw [hex] at hmk
      go_wp2_with fail
      rw [hex]
      refine (hmk _).mono ?_
      rintro e w5 ⟨rfl, hk5⟩
      have hbr5 := heap_old (o := .cells #[.bool m1.neg, .string m1.digits, .int .i64 m1.exp] 23) (hk5.same _ _ hbr4 trivial)
      have hrb5 : RB (w.heap.size + 1) q3 (w5.alloc (.cells #[.bool m1.neg, .string m1.digits, .int .i64 m1.exp] 23)) := heap_old (hk5.same _ _ hr4 trivial)
      have hbd5 : (w5.alloc (.cells #[.bool m1.neg, .string m1.digits, .int .i64 m1.exp] 23)).heap[w5.heap.size]? = some (.cells #[.bool m1.neg, .string m1.digits, .int .i64 m1.exp] 23 (0, 0)) := World.alloc_heap_new w5 _
      have hkw5 : Same w (w5.alloc (.cells #[.bool m1.neg, .string m1.digits, .int .i64 m1.exp] 23)) := (hkw4.trans hk5).alloc _
      have hdb : w.heap.size + 1 < w5.heap.size := lt_of_some (hk5.same _ _ hr4 trivial)
      clear hmk hkw4 hk5 hbr4 hr4 hex
      by_cases hm0 : m2 = 0
      · subst hm0
        have HR1 := Lib.hid (show R = (m1, q3, 0) from by rw [HR2.out]; simp)
        go_wp2_with fail
        generalize (w5.alloc (.cells #[.bool m1.neg, .string m1.digits, .int .i64 m1.exp] 23)) = w6 at hbr5 hrb5 hbd5 hkw5 ⊢
        generalize w5.heap.size = db at hbd5 hdb ⊢
        have z0 := cells1 hrb5
        obtain ⟨z1, z2, z3⟩ := cells3 hbd5
        obtain ⟨x0, x1, x2⟩ := cells3 hbr5
        have hfz : ∀ j, w6.frozen? ⟨w.heap.size, j, none⟩ = false := Lib.frozen_of_heap hbr5
        refine (wpIn_wide (n := 0)).1 ?_
        refine wpIn_region_shut (n := 0) (fun Z => RB (w.heap.size + 1) q3 Z ∧ Z.heap[db]? = some (.cells #[.bool m1.neg, .string m1.digits, .int .i64 m1.exp] 23 (0, 0))) reads (fun _ => trivial) rfl (by kernel_rfl) (by kernel_rfl) ⟨hrb5, hbd5⟩ ?_
        refine shT_x rfl rfl ?_; intro K hK w' hs; have z0 := cells1 hs.1; obtain ⟨z1, z2, z3⟩ := cells3 hs.2; go_simp; refine hK _ _ ?_; clear hK K z0 z1 z2 z3 hs w'
        refine shT_x rfl rfl ?_; intro K hK w' hs; have z0 := cells1 hs.1; obtain ⟨z1, z2, z3⟩ := cells3 hs.2; go_simp; refine hK _ _ ?_; clear hK K z0 z1 z2 z3 hs w'
        refine shT_x rfl rfl ?_; intro K hK w' hs; have z0 := cells1 hs.1; obtain ⟨z1, z2, z3⟩ := cells3 hs.2; go_simp; refine hK _ _ ?_; clear hK K z0 z1 z2 z3 hs w'
        refine shT_x rfl rfl ?_; intro K hK w' hs; have z0 := cells1 hs.1; obtain ⟨z1, z2, z3⟩ := cells3 hs.2; go_simp; refine hK _ _ ?_; clear hK K z0 z1 z2 z3 hs w'
        refine shT_x rfl rfl ?_; intro K hK w' hs; have z0 := cells1 hs.1; obtain ⟨z1, z2, z3⟩ := cells3 hs.2; go_simp; refine hK _ _ ?_; clear hK K z0 z1 z2 z3 hs w'
        refine shT_x rfl rfl ?_; intro K hK w' hs; have z0 := cells1 hs.1; obtain ⟨z1, z2, z3⟩ := cells3 hs.2; go_simp; refine hK _ _ ?_; clear hK K z0 z1 z2 z3 hs w'
        refine shT_c rfl rfl ?_
        intro K hK
        go_simp
        obtain ⟨p3, p4⟩ := put3 (x := .bool m1.neg) (y := .string m1.digits) (z := .int .i64 m1.exp) hkw5 hbr5 (by omega)
        have hk6 : Keep (fun k _ => k ≠ w.heap.size) w6 (((w6.setCell ⟨w.heap.size, 0, none⟩ (.bool m1.neg)).setCell ⟨w.heap.size, 1, none⟩ (.string m1.digits)).setCell ⟨w.heap.size, 2, none⟩ (.int .i64 m1.exp)) := (((Keep.refl _ w6).setCell _ fun o _ h _ => h rfl).setCell _ fun o _ h _ => h rfl).setCell _ fun o _ h _ => h rfl
        refine hK _ _ ⟨hk6.same _ _ hrb5 (by omega), hk6.same _ _ hbd5 (by omega)⟩ ?_
        clear hK K
        refine shT_x rfl rfl ?_
        intro K hK w' hs
        go_simp
        refine hK _ _ ?_
        clear hK K hs w'
        refine shT_x rfl rfl ?_
        intro K hK w' hs
        go_simp
        refine hK _ _ ?_
        clear hK K hs w'
        refine shT_nil ?_
        go_wp2_with fail
        (try simp only [Exit.inBlock, Exit.then])
        exact bodyPost_ret (parse_res _ _ w.heap.size m1 q3 0 rfl rfl rfl p3) rfl ⟨by rw [HR1.out] <;> rfl, p4.drew⟩
      · have hmb : (m2 != 0) = true := by simpa using hm0
        have HR1 := Lib.hid (show R = (noDc, s, m2) from by rw [HR2.out, if_pos hm0])
        clear hm0
        have c0 := cells3 hbr5
        obtain ⟨x0, x1, x2⟩ := c0
        have hfz : ∀ j, (w5.alloc (.cells #[.bool m1.neg, .string m1.digits, .int .i64 m1.exp] 23)).frozen? ⟨w.heap.size, j, none⟩ = false := Lib.frozen_of_heap hbr5
        go_wp2_with fail
        (try simp only [Exit.inBlock, Exit.then])
        obtain ⟨p3, p4⟩ := put3 (x := .bool false) (y := .string ⟨#[]⟩) (z := .int .i64 0) hkw5 hbr5 (by omega)
        exact bodyPost_ret (parse_res _ _ w.heap.size noDc s m2 rfl rfl rfl p3) rfl ⟨by rw [HR1.out] <;> rfl, p4⟩
end Go.Tm

set_option linter.unusedVariables false
namespace Go.Tm
open Go.RowKit Go.Proofs
theorem fmt_right (d : Dc) (h : decRight d = true) : formatM d = (strN (sgnN d.neg ++ bytesN (formatB d)), 0) := by
  unfold formatM
  rw [if_pos h, strN_app, strN_bytesN]
  congr 2
  cases d.neg <;> rfl
theorem fmt_bounds (d : Dc) (h : decRight d = true) : d.digits.size ≤ 100 ∧ -100 ≤ d.exp ∧ d.exp ≤ 100 := by
  unfold decRight at h
  rw [Bool.or_eq_true] at h
  rcases h with h | h
  · have h := of_decide_eq_true h
    subst h
    decide
  · simp only [Bool.and_eq_true, decide_eq_true_eq, within] at h
    omega
theorem same_grow {w w' : World} {k : Nat} {os : Array Obj} (e : w' = Go.Sort.grow (w.drewN k) os) : Same w w' := by
  subst e
  refine ⟨rfl, rfl, rfl, ?_, fun b o ho _ => ?_⟩
  · show _ ≤ (w.heap ++ os).size
    rw [Array.size_append]; omega
  · have hlt := lt_of_some ho
    show (w.heap ++ os)[b]? = some o
    rw [Array.getElem?_append_left hlt, ho]
set_option maxRecDepth 100000 in
set_option maxHeartbeats 1000000 in
theorem fmt_bad (d : Dc) (w : World) (hs : d.digits.size ≤ 1099511627776) (h : decRight d = false) :
    Calls Tryz.prog 109 #[decV d] w fun e w' => e = .returned (.tuple #[.string (formatM d).1, .int .i64 (formatM d).2]) ∧ Same w w' := by
  have hdr := fun W => decRight_any d W hs
  rw [h] at hdr
  have hR : formatM d = (⟨#[]⟩, 40) := by
    unfold formatM
    rw [h]; rfl
  rw [hR]
  clear hR h
  obtain ⟨neg, dg, ex⟩ := d
  simp only at *
  go_enter Tryz.func109, Tryz.ntmps109
  go_wp2_with fail
  refine (hdr _).mono ?_
  rintro e w1 ⟨rfl, hk1⟩
  have hkw1 : Same w w1 := (by repeat (first | with_reducible exact Keep.refl _ _ | with_reducible refine Keep.alloc ?_ _ | with_reducible refine Keep.drew ?_ | with_reducible refine Keep.drewN ?_ _ | with_reducible refine Keep.trans ?_ (by assumption)))
  go_wp2_with fail
  go_ret2
  exact ⟨rfl, hkw1⟩
set_option maxRecDepth 100000 in
set_option maxHeartbeats 4000000 in
theorem fmt_big (d : Dc) (w : World) (h : decRight d = true) (hw : within d.exp 20 = false) (htab : Lib.TabIs Tryz.prog w "internal/strconv.uint64pow10" .u64 Lib.pow10Tab) (hgl : ∀ W, Same w W → Lib.TabIs Tryz.prog W "internal/strconv.uint64pow10" .u64 Lib.pow10Tab) :
    Calls Tryz.prog 109 #[decV d] w fun e w' => e = .returned (.tuple #[.string (formatM d).1, .int .i64 (formatM d).2]) ∧ Same w w' := by
  obtain ⟨hd1, hd2, hd3⟩ := fmt_bounds d h
  have hdr := fun W => decRight_any d W (by omega)
  rw [h] at hdr
  have hwi := fun W => within_any d.exp 20 W (by decide)
  have hw : within d.exp 20 = false := by first | assumption | (unfold within; simp; omega)
  rw [hw] at hwi
  have hfr := fmt_right d h
  have hfb : formatB d = d.digits ++ ⟨#[101]⟩ ++ ⟨(Lib.itoa d.exp).toArray⟩ := by
    unfold formatB
    simp only [hw, if_true]
  rw [hfb] at hfr
  have hit := fun W (hW : Same w W) => Tryz.strconv_Itoa d.exp (by omega) (by omega) W (hgl W hW)
  have hil := Lib.itoa_length_le d.exp (by omega) (by omega)
  obtain ⟨it, hiq⟩ : ∃ it : ByteArray, (⟨(Lib.itoa d.exp).toArray⟩ : ByteArray) = it := ⟨_, rfl⟩
  have hisz : it.size ≤ 21 := by
    rw [← hiq]
    show (Lib.itoa d.exp).toArray.size ≤ 21
    simpa using hil
  rw [hiq] at hit hfr
  obtain ⟨de, hde⟩ : ∃ de : ByteArray, d.digits ++ ⟨#[101]⟩ = de := ⟨_, rfl⟩
  rw [hde] at hfr
  have hdz : de.size ≤ 101 := by rw [← hde, ByteArray.size_append]; show _ + 1 ≤ _; omega
  have HD := Lib.hid hde
  obtain ⟨tx, htx⟩ : ∃ tx : ByteArray, de ++ it = tx := ⟨_, rfl⟩
  rw [htx] at hfr
  have htz : tx.size ≤ 200 := by rw [← htx, ByteArray.size_append]; omega
  have HT := Lib.hid htx
  have HR := Lib.hid hfr
  clear hiq hil hde htx hfr hfb hw h
  obtain ⟨neg, dg, ex⟩ := d
  simp only at *
  go_enter Tryz.func109, Tryz.ntmps109
  go_wp2_with fail
  refine (hdr _).mono ?_
  rintro e w1 ⟨rfl, hk1⟩
  have hbx1 := hk1.same w.heap.size _ (World.alloc_heap_new w _) trivial
  have hkw1 : Same w w1 := (by repeat (first | with_reducible exact Keep.refl _ _ | with_reducible refine Keep.alloc ?_ _ | with_reducible refine Keep.drew ?_ | with_reducible refine Keep.drewN ?_ _ | with_reducible refine Keep.trans ?_ (by assumption)))
  have hlt1 := lt_of_some hbx1
  have hbx2 := heap_old (o := .cells #[.pointer none, .slice none 0 0] 195) hbx1
  have hB0 : Bld w1.heap.size w1.heap.size [] (w1.alloc (.cells #[.pointer none, .slice none 0 0] 195)) := .inl ⟨Nat.le_refl _, .slice none 0 0, World.alloc_heap_new _ _, World.ownsRow_nil _ _ _ _, by simp [Value.ownBlock]⟩
  have hkw2 : Same w (w1.alloc (.cells #[.pointer none, .slice none 0 0] 195)) := hkw1.alloc _
  have hz2 : w1.heap.size ≤ (w1.alloc (.cells #[.pointer none, .slice none 0 0] 195)).heap.size := by simp
  obtain ⟨bb, hbb⟩ : ∃ bb, w1.heap.size = bb := ⟨_, rfl⟩
  rw [hbb] at hB0 hz2 hlt1
  have hbw : w.heap.size ≤ bb := by have := hkw1.size; omega
  obtain ⟨c0, c1, c2⟩ := cells3 hbx2
  cases neg
  focus
    go_wp2_with fail
    generalize (w1.alloc _) = w3 at hB0 hbx2 hkw2 hz2 c0 c1 c2 ⊢
    have hxl : (sgnN false).length ≤ 1 := by decide
    have hx2 : ∀ x ∈ (sgnN false), x < 256 := by decide
    have hB3 : Bld bb bb (sgnN false) w3 := hB0
    generalize (sgnN false) = xs at hxl hx2 hB3 HR
  rotate_left
  focus
    go_wp2_with fail
    refine (writeByte_any bb bb 45 [] _ hB0 (by decide) hz2).mono ?_
    rintro e w3 ⟨rfl, hB3, hK3⟩
    replace hbx2 := hK3.same _ _ hbx2 ⟨by omega, .inl hlt1⟩
    replace hkw2 : Same w w3 := ⟨hK3.os.trans hkw2.os, hK3.tape.trans hkw2.tape, hK3.output.trans hkw2.output, Nat.le_trans hkw2.size hK3.size, fun b o hb _ => hK3.same b o (hkw2.same b o hb trivial) (by have := lt_of_some hb; exact ⟨by omega, .inl (by omega)⟩)⟩
    replace hz2 := Nat.le_trans hz2 hK3.size
    clear hB0 c0 c1 c2 hK3
    obtain ⟨c0, c1, c2⟩ := cells3 hbx2
    go_wp2_with fail
    have hxl : (sgnN true).length ≤ 1 := by decide
    have hx2 : ∀ x ∈ (sgnN true), x < 256 := by decide
    replace hB3 : Bld bb bb (sgnN true) w3 := hB3
    generalize (sgnN true) = xs at hxl hx2 hB3 HR
  all_goals
    refine (hwi _).mono ?_
    rintro x w4 ⟨rfl, h9⟩
    replace h9 := h9.symm
    subst h9
    go_wp2_with fail
    refine (wpIn_wide (n := 0)).1 ?_
    refine wpIn_region_shut (n := 0) (fun X => X.heap[w.heap.size]? = some _) reads (fun _ => trivial) rfl (by kernel_rfl) (by kernel_rfl) hbx2 ?_
    refine shT_x rfl rfl ?_; intro K hK w' hs; obtain ⟨p0, p1, p2⟩ := cells3 hs; go_simp; refine hK _ _ ?_; clear hK K p0 p1 p2 hs w'
    refine shT_x rfl rfl ?_; intro K hK w' hs; obtain ⟨p0, p1, p2⟩ := cells3 hs; go_simp; refine hK _ _ ?_; clear hK K p0 p1 p2 hs w'
    have hcat1 : ¬ 9223372036854775807 < dg.size + 1 := by omega
    refine shT_x rfl rfl ?_
    intro K hK w' hs
    go_simp
    rw [HD.out]
    refine hK _ _ ?_
    clear hK K hs w'
    refine shT_x rfl rfl ?_; intro K hK w' hs; obtain ⟨p0, p1, p2⟩ := cells3 hs; go_simp; refine hK _ _ ?_; clear hK K p0 p1 p2 hs w'
    refine shT_x rfl rfl ?_; intro K hK w' hs; obtain ⟨p0, p1, p2⟩ := cells3 hs; go_simp; refine hK _ _ ?_; clear hK K p0 p1 p2 hs w'
    refine shT_c rfl rfl ?_
    intro K hK
    go_simp
    refine (callsW (hit _ hkw2.drew)).mono ?_
    rintro x w5 ⟨rfl, ko, oso, hw5⟩
    have hk5 := same_grow hw5
    clear hw5
    have hbx5 := hk5.same _ _ hbx2 trivial
    have hB3d : Bld bb bb xs w3.drew := hB3
    have hB5 := isB_keep hB3d hk5 (fun c f => trivial) (fun g c f _ _ => trivial)
    have hkw5 : Same w w5 := hkw2.drew.trans hk5
    have hz5 : bb ≤ w5.heap.size := Nat.le_trans hz2 hk5.size
    refine hK _ _ hbx5 ?_
    clear hK K
    have hcat2 : ¬ 9223372036854775807 < de.size + it.size := by omega
    refine shT_x rfl rfl ?_
    intro K hK w' hs
    go_simp
    rw [HT.out]
    refine hK _ _ ?_
    clear hK K hs w'
    refine shT_c rfl rfl ?_
    intro K hK
    go_simp
    refine (callsW (writeString_any bb bb tx xs _ hB5 (by omega) hz5)).mono ?_
    rintro x w6 ⟨⟨v6, rfl⟩, hB6, hK6⟩
    have hbx6 := hK6.same _ _ hbx5 ⟨by omega, .inl hlt1⟩
    have hkw6 : Same w w6 := ⟨hK6.os.trans hkw5.os, hK6.tape.trans hkw5.tape, hK6.output.trans hkw5.output, Nat.le_trans hkw5.size hK6.size, fun b o hb _ => hK6.same b o (hkw5.same b o hb trivial) (by have := lt_of_some hb; exact ⟨by omega, .inl (by omega)⟩)⟩
    have hz6 : bb ≤ w6.heap.size := Nat.le_trans hz5 hK6.size
    refine hK _ _ hbx6 ?_
    clear hK K
    refine shT_nil ?_
    go_wp2_with fail
    refine (bldString_any bb bb (xs ++ bytesN tx) w6 hB6 (fun x hx => (List.mem_append.1 hx).elim (hx2 x) (bytesN_lt _ x)) hz6).mono ?_
    rintro x w7 ⟨rfl, hK7⟩
    have hkw7 : Same w w7 := ⟨hK7.os.trans hkw6.os, hK7.tape.trans hkw6.tape, hK7.output.trans hkw6.output, Nat.le_trans hkw6.size hK7.size, fun b o hb _ => hK7.same b o (hkw6.same b o hb trivial) (by have := lt_of_some hb; exact .inl (by omega))⟩
    go_wp2_with fail
    go_ret2
    exact ⟨by rw [HR.out]; rfl, hkw7⟩
set_option maxRecDepth 100000 in
set_option maxHeartbeats 4000000 in
theorem fmt_mid (d : Dc) (w : World) (h : decRight d = true) (h0 : d.exp < 0) (h20 : -20 ≤ d.exp) (hn : 0 < (d.digits.size : Int) + d.exp) :
    Calls Tryz.prog 109 #[decV d] w fun e w' => e = .returned (.tuple #[.string (formatM d).1, .int .i64 (formatM d).2]) ∧ Same w w' := by
  obtain ⟨hd1, hd2, hd3⟩ := fmt_bounds d h
  have hdr := fun W => decRight_any d W (by omega)
  rw [h] at hdr
  have hwi := fun W => within_any d.exp 20 W (by decide)
  have hw : within d.exp 20 = true := by first | assumption | (unfold within; simp; omega)
  rw [hw] at hwi
  have hfr := fmt_right d h
  have hfb : formatB d = d.digits.extract 0 ((d.digits.size : Int) + d.exp).toNat ++ ⟨#[46]⟩ ++ d.digits.extract ((d.digits.size : Int) + d.exp).toNat d.digits.size := by
    unfold formatB
    rw [hw]
    simp only [Bool.true_eq_false, if_false]
    rw [if_neg (by omega), if_pos hn]
  rw [hfb] at hfr
  obtain ⟨x1, hx1⟩ : ∃ x1 : ByteArray, d.digits.extract 0 ((d.digits.size : Int) + d.exp).toNat = x1 := ⟨_, rfl⟩
  obtain ⟨x3, hx3⟩ : ∃ x3 : ByteArray, d.digits.extract ((d.digits.size : Int) + d.exp).toNat d.digits.size = x3 := ⟨_, rfl⟩
  have hz1 : x1.size ≤ 100 := by rw [← hx1, ByteArray.size_extract]; omega
  have hz3 : x3.size ≤ 100 := by rw [← hx3, ByteArray.size_extract]; omega
  rw [hx1, hx3] at hfr
  obtain ⟨x2, hx2'⟩ : ∃ x2 : ByteArray, x1 ++ ⟨#[46]⟩ = x2 := ⟨_, rfl⟩
  have hzz : x2.size ≤ 101 := by rw [← hx2', ByteArray.size_append]; show _ + 1 ≤ _; omega
  rw [hx2'] at hfr
  obtain ⟨tx, htx⟩ : ∃ tx : ByteArray, x2 ++ x3 = tx := ⟨_, rfl⟩
  rw [htx] at hfr
  have htz : tx.size ≤ 300 := by rw [← htx, ByteArray.size_append]; omega
  have H1 := Lib.hid hx1
  have H3 := Lib.hid hx3
  have H2 := Lib.hid hx2'
  have HT := Lib.hid htx
  have HR := Lib.hid hfr
  have hdeg : decide ((0 : Int) ≤ d.exp) = false := decide_eq_false (by omega)
  have hgt : decide ((0 : Int) < (d.digits.size : Int) + d.exp) = true := decide_eq_true hn
  have hin : (0 : Int) ≤ (d.digits.size : Int) + d.exp ∧ (d.digits.size : Int) + d.exp ≤ d.digits.size := by omega
  clear hx1 hx3 hx2' htx hfr hfb hw h
  obtain ⟨neg, dg, ex⟩ := d
  simp only at *
  go_enter Tryz.func109, Tryz.ntmps109
  go_wp2_with fail
  refine (hdr _).mono ?_
  rintro e w1 ⟨rfl, hk1⟩
  have hbx1 := hk1.same w.heap.size _ (World.alloc_heap_new w _) trivial
  have hkw1 : Same w w1 := (by repeat (first | with_reducible exact Keep.refl _ _ | with_reducible refine Keep.alloc ?_ _ | with_reducible refine Keep.drew ?_ | with_reducible refine Keep.drewN ?_ _ | with_reducible refine Keep.trans ?_ (by assumption)))
  have hlt1 := lt_of_some hbx1
  have hbx2 := heap_old (o := .cells #[.pointer none, .slice none 0 0] 195) hbx1
  have hB0 : Bld w1.heap.size w1.heap.size [] (w1.alloc (.cells #[.pointer none, .slice none 0 0] 195)) := .inl ⟨Nat.le_refl _, .slice none 0 0, World.alloc_heap_new _ _, World.ownsRow_nil _ _ _ _, by simp [Value.ownBlock]⟩
  have hkw2 : Same w (w1.alloc (.cells #[.pointer none, .slice none 0 0] 195)) := hkw1.alloc _
  have hz2 : w1.heap.size ≤ (w1.alloc (.cells #[.pointer none, .slice none 0 0] 195)).heap.size := by simp
  obtain ⟨bb, hbb⟩ : ∃ bb, w1.heap.size = bb := ⟨_, rfl⟩
  rw [hbb] at hB0 hz2 hlt1
  have hbw : w.heap.size ≤ bb := by have := hkw1.size; omega
  obtain ⟨c0, c1, c2⟩ := cells3 hbx2
  cases neg
  focus
    go_wp2_with fail
    generalize (w1.alloc _) = w3 at hB0 hbx2 hkw2 hz2 c0 c1 c2 ⊢
    have hxl : (sgnN false).length ≤ 1 := by decide
    have hx2 : ∀ x ∈ (sgnN false), x < 256 := by decide
    have hB3 : Bld bb bb (sgnN false) w3 := hB0
    generalize (sgnN false) = xs at hxl hx2 hB3 HR
  rotate_left
  focus
    go_wp2_with fail
    refine (writeByte_any bb bb 45 [] _ hB0 (by decide) hz2).mono ?_
    rintro e w3 ⟨rfl, hB3, hK3⟩
    replace hbx2 := hK3.same _ _ hbx2 ⟨by omega, .inl hlt1⟩
    replace hkw2 : Same w w3 := ⟨hK3.os.trans hkw2.os, hK3.tape.trans hkw2.tape, hK3.output.trans hkw2.output, Nat.le_trans hkw2.size hK3.size, fun b o hb _ => hK3.same b o (hkw2.same b o hb trivial) (by have := lt_of_some hb; exact ⟨by omega, .inl (by omega)⟩)⟩
    replace hz2 := Nat.le_trans hz2 hK3.size
    clear hB0 c0 c1 c2 hK3
    obtain ⟨c0, c1, c2⟩ := cells3 hbx2
    go_wp2_with fail
    have hxl : (sgnN true).length ≤ 1 := by decide
    have hx2 : ∀ x ∈ (sgnN true), x < 256 := by decide
    replace hB3 : Bld bb bb (sgnN true) w3 := hB3
    generalize (sgnN true) = xs at hxl hx2 hB3 HR
  all_goals
    refine (hwi _).mono ?_
    rintro x w4 ⟨rfl, h9⟩
    replace h9 := h9.symm
    subst h9
    go_wp2_with fail
    refine (wpIn_wide (n := 0)).1 ?_
    refine wpIn_region_shut (n := 0) (fun X => X.heap[w.heap.size]? = some _) reads (fun _ => trivial) rfl (by kernel_rfl) (by kernel_rfl) hbx2 ?_
    refine shT_x rfl rfl ?_; intro K hK w' hs; obtain ⟨p0, p1, p2⟩ := cells3 hs; go_simp; refine hK _ _ ?_; clear hK K p0 p1 p2 hs w'
    refine shT_x rfl rfl ?_; intro K hK w' hs; obtain ⟨p0, p1, p2⟩ := cells3 hs; go_simp; refine hK _ _ ?_; clear hK K p0 p1 p2 hs w'
    refine shT_x rfl rfl ?_; intro K hK w' hs; obtain ⟨p0, p1, p2⟩ := cells3 hs; go_simp; refine hK _ _ ?_; clear hK K p0 p1 p2 hs w'
    refine shT_x rfl rfl ?_
    intro K hK w' hs
    go_simp
    rw [H1.out]
    refine hK _ _ ?_
    clear hK K hs w'
    have hcat1 : ¬ 9223372036854775807 < x1.size + 1 := by omega
    refine shT_x rfl rfl ?_
    intro K hK w' hs
    go_simp
    rw [H2.out]
    refine hK _ _ ?_
    clear hK K hs w'
    refine shT_x rfl rfl ?_; intro K hK w' hs; obtain ⟨p0, p1, p2⟩ := cells3 hs; go_simp; refine hK _ _ ?_; clear hK K p0 p1 p2 hs w'
    refine shT_x rfl rfl ?_; intro K hK w' hs; obtain ⟨p0, p1, p2⟩ := cells3 hs; go_simp; refine hK _ _ ?_; clear hK K p0 p1 p2 hs w'
    refine shT_x rfl rfl ?_; intro K hK w' hs; obtain ⟨p0, p1, p2⟩ := cells3 hs; go_simp; refine hK _ _ ?_; clear hK K p0 p1 p2 hs w'
    refine shT_x rfl rfl ?_
    intro K hK w' hs
    go_simp
    rw [H3.out]
    refine hK _ _ ?_
    clear hK K hs w'
    have hcat2 : ¬ 9223372036854775807 < x2.size + x3.size := by omega
    refine shT_x rfl rfl ?_
    intro K hK w' hs
    go_simp
    rw [HT.out]
    refine hK _ _ ?_
    clear hK K hs w'
    have hbx5 : w3.drew.heap[w.heap.size]? = _ := hbx2
    have hkw5 : Same w w3.drew := hkw2.drew
    have hB5 : Bld bb bb xs w3.drew := hB3
    have hz5 : bb ≤ w3.drew.heap.size := hz2
    refine shT_c rfl rfl ?_
    intro K hK
    go_simp
    refine (callsW (writeString_any bb bb tx xs _ hB5 (by omega) hz5)).mono ?_
    rintro x w6 ⟨⟨v6, rfl⟩, hB6, hK6⟩
    have hbx6 := hK6.same _ _ hbx5 ⟨by omega, .inl hlt1⟩
    have hkw6 : Same w w6 := ⟨hK6.os.trans hkw5.os, hK6.tape.trans hkw5.tape, hK6.output.trans hkw5.output, Nat.le_trans hkw5.size hK6.size, fun b o hb _ => hK6.same b o (hkw5.same b o hb trivial) (by have := lt_of_some hb; exact ⟨by omega, .inl (by omega)⟩)⟩
    have hz6 : bb ≤ w6.heap.size := Nat.le_trans hz5 hK6.size
    refine hK _ _ hbx6 ?_
    clear hK K
    refine shT_nil ?_
    go_wp2_with fail
    refine (bldString_any bb bb (xs ++ bytesN tx) w6 hB6 (fun x hx => (List.mem_append.1 hx).elim (hx2 x) (bytesN_lt _ x)) hz6).mono ?_
    rintro x w7 ⟨rfl, hK7⟩
    have hkw7 : Same w w7 := ⟨hK7.os.trans hkw6.os, hK7.tape.trans hkw6.tape, hK7.output.trans hkw6.output, Nat.le_trans hkw6.size hK7.size, fun b o hb _ => hK7.same b o (hkw6.same b o hb trivial) (by have := lt_of_some hb; exact .inl (by omega))⟩
    go_wp2_with fail
    go_ret2
    exact ⟨by rw [HR.out]; rfl, hkw7⟩
end Go.Tm

set_option linter.unusedVariables false
namespace Go.Tm
open Go.RowKit Go.Proofs
set_option maxRecDepth 100000 in
set_option maxHeartbeats 4000000 in
theorem fmt_low (d : Dc) (w : World) (h : decRight d = true) (h0 : d.exp < 0) (h20 : -20 ≤ d.exp) (hn : (d.digits.size : Int) + d.exp ≤ 0) :
    Calls Tryz.prog 109 #[decV d] w fun e w' => e = .returned (.tuple #[.string (formatM d).1, .int .i64 (formatM d).2]) ∧ Same w w' := by
  obtain ⟨hd1, hd2, hd3⟩ := fmt_bounds d h
  have hdr := fun W => decRight_any d W (by omega)
  rw [h] at hdr
  have hwi := fun W => within_any d.exp 20 W (by decide)
  have hw : within d.exp 20 = true := by first | assumption | (unfold within; simp; omega)
  rw [hw] at hwi
  have hfr := fmt_right d h
  have hfb : formatB d = ⟨#[48, 46]⟩ ++ zerosB (-((d.digits.size : Int) + d.exp)) ++ d.digits := by
    unfold formatB
    rw [hw]
    simp only [Bool.true_eq_false, if_false]
    rw [if_neg (by omega), if_neg (by omega)]
  rw [hfb] at hfr
  have hrep := fun W => repeat0_any (-((d.digits.size : Int) + d.exp)) W (by omega) (by omega)
  obtain ⟨zs, hzs⟩ : ∃ zs : ByteArray, zerosB (-((d.digits.size : Int) + d.exp)) = zs := ⟨_, rfl⟩
  have hzl : zs.size ≤ 20 := by
    rw [← hzs]
    show (List.replicate (-((d.digits.size : Int) + d.exp)).toNat (48 : UInt8)).toArray.size ≤ 20
    simp; omega
  have hzs2 : (⟨(List.replicate (-((d.digits.size : Int) + d.exp)).toNat (48 : UInt8)).toArray⟩ : ByteArray) = zs := hzs
  rw [hzs2] at hrep
  rw [hzs] at hfr
  obtain ⟨x2, hx2'⟩ : ∃ x2 : ByteArray, ⟨#[48, 46]⟩ ++ zs = x2 := ⟨_, rfl⟩
  have hzz : x2.size ≤ 22 := by rw [← hx2', ByteArray.size_append]; show 2 + _ ≤ _; omega
  rw [hx2'] at hfr
  obtain ⟨tx, htx⟩ : ∃ tx : ByteArray, x2 ++ d.digits = tx := ⟨_, rfl⟩
  rw [htx] at hfr
  have htz : tx.size ≤ 300 := by rw [← htx, ByteArray.size_append]; omega
  have H2 := Lib.hid hx2'
  have HT := Lib.hid htx
  have HR := Lib.hid hfr
  have hdeg : decide ((0 : Int) ≤ d.exp) = false := decide_eq_false (by omega)
  have hgt : decide ((0 : Int) < (d.digits.size : Int) + d.exp) = false := decide_eq_false (by omega)
  clear hzs hzs2 hx2' htx hfr hfb hw h
  obtain ⟨neg, dg, ex⟩ := d
  simp only at *
  go_enter Tryz.func109, Tryz.ntmps109
  go_wp2_with fail
  refine (hdr _).mono ?_
  rintro e w1 ⟨rfl, hk1⟩
  have hbx1 := hk1.same w.heap.size _ (World.alloc_heap_new w _) trivial
  have hkw1 : Same w w1 := (by repeat (first | with_reducible exact Keep.refl _ _ | with_reducible refine Keep.alloc ?_ _ | with_reducible refine Keep.drew ?_ | with_reducible refine Keep.drewN ?_ _ | with_reducible refine Keep.trans ?_ (by assumption)))
  have hlt1 := lt_of_some hbx1
  have hbx2 := heap_old (o := .cells #[.pointer none, .slice none 0 0] 195) hbx1
  have hB0 : Bld w1.heap.size w1.heap.size [] (w1.alloc (.cells #[.pointer none, .slice none 0 0] 195)) := .inl ⟨Nat.le_refl _, .slice none 0 0, World.alloc_heap_new _ _, World.ownsRow_nil _ _ _ _, by simp [Value.ownBlock]⟩
  have hkw2 : Same w (w1.alloc (.cells #[.pointer none, .slice none 0 0] 195)) := hkw1.alloc _
  have hz2 : w1.heap.size ≤ (w1.alloc (.cells #[.pointer none, .slice none 0 0] 195)).heap.size := by simp
  obtain ⟨bb, hbb⟩ : ∃ bb, w1.heap.size = bb := ⟨_, rfl⟩
  rw [hbb] at hB0 hz2 hlt1
  have hbw : w.heap.size ≤ bb := by have := hkw1.size; omega
  obtain ⟨c0, c1, c2⟩ := cells3 hbx2
  cases neg
  focus
    go_wp2_with fail
    generalize (w1.alloc _) = w3 at hB0 hbx2 hkw2 hz2 c0 c1 c2 ⊢
    have hxl : (sgnN false).length ≤ 1 := by decide
    have hx2 : ∀ x ∈ (sgnN false), x < 256 := by decide
    have hB3 : Bld bb bb (sgnN false) w3 := hB0
    generalize (sgnN false) = xs at hxl hx2 hB3 HR
  rotate_left
  focus
    go_wp2_with fail
    refine (writeByte_any bb bb 45 [] _ hB0 (by decide) hz2).mono ?_
    rintro e w3 ⟨rfl, hB3, hK3⟩
    replace hbx2 := hK3.same _ _ hbx2 ⟨by omega, .inl hlt1⟩
    replace hkw2 : Same w w3 := ⟨hK3.os.trans hkw2.os, hK3.tape.trans hkw2.tape, hK3.output.trans hkw2.output, Nat.le_trans hkw2.size hK3.size, fun b o hb _ => hK3.same b o (hkw2.same b o hb trivial) (by have := lt_of_some hb; exact ⟨by omega, .inl (by omega)⟩)⟩
    replace hz2 := Nat.le_trans hz2 hK3.size
    clear hB0 c0 c1 c2 hK3
    obtain ⟨c0, c1, c2⟩ := cells3 hbx2
    go_wp2_with fail
    have hxl : (sgnN true).length ≤ 1 := by decide
    have hx2 : ∀ x ∈ (sgnN true), x < 256 := by decide
    replace hB3 : Bld bb bb (sgnN true) w3 := hB3
    generalize (sgnN true) = xs at hxl hx2 hB3 HR
  all_goals
    refine (hwi _).mono ?_
    rintro x w4 ⟨rfl, h9⟩
    replace h9 := h9.symm
    subst h9
    go_wp2_with fail
    refine (wpIn_wide (n := 0)).1 ?_
    refine wpIn_region_shut (n := 0) (fun X => X.heap[w.heap.size]? = some _) reads (fun _ => trivial) rfl (by kernel_rfl) (by kernel_rfl) hbx2 ?_
    refine shT_x rfl rfl ?_; intro K hK w' hs; obtain ⟨p0, p1, p2⟩ := cells3 hs; go_simp; refine hK _ _ ?_; clear hK K p0 p1 p2 hs w'
    refine shT_x rfl rfl ?_; intro K hK w' hs; obtain ⟨p0, p1, p2⟩ := cells3 hs; go_simp; refine hK _ _ ?_; clear hK K p0 p1 p2 hs w'
    refine shT_c rfl rfl ?_
    intro K hK
    go_simp
    rw [show IntKind.i64.wrap (-((dg.size : Int) + ex)) = -((dg.size : Int) + ex) from by rw [IntKind.wrap_i64]; omega]
    refine (callsW (hrep _)).mono ?_
    rintro x w5 ⟨rfl, hk5⟩
    have hbx5 := hk5.same _ _ hbx2 trivial
    have hB3d : Bld bb bb xs w3.drew := hB3
    have hB5 := isB_keep hB3d hk5 (fun c f => trivial) (fun g c f _ _ => trivial)
    have hkw5 : Same w w5 := hkw2.drew.trans hk5
    have hz5 : bb ≤ w5.heap.size := Nat.le_trans hz2 hk5.size
    refine hK _ _ hbx5 ?_
    clear hK K
    obtain ⟨f0, f1, f2⟩ := cells3 hbx5
    have hcat1 : ¬ 9223372036854775807 < 2 + zs.size := by omega
    refine shT_x rfl rfl ?_
    intro K hK w' hs
    go_simp
    rw [H2.out]
    refine hK _ _ ?_
    clear hK K hs w'
    refine shT_x rfl rfl ?_; intro K hK w' hs; obtain ⟨p0, p1, p2⟩ := cells3 hs; go_simp; refine hK _ _ ?_; clear hK K p0 p1 p2 hs w'
    refine shT_x rfl rfl ?_; intro K hK w' hs; obtain ⟨p0, p1, p2⟩ := cells3 hs; go_simp; refine hK _ _ ?_; clear hK K p0 p1 p2 hs w'
    have hcat2 : ¬ 9223372036854775807 < x2.size + dg.size := by omega
    refine shT_x rfl rfl ?_
    intro K hK w' hs
    go_simp
    rw [HT.out]
    refine hK _ _ ?_
    clear hK K hs w'
    refine shT_c rfl rfl ?_
    intro K hK
    go_simp
    refine (callsW (writeString_any bb bb tx xs _ hB5 (by omega) hz5)).mono ?_
    rintro x w6 ⟨⟨v6, rfl⟩, hB6, hK6⟩
    have hbx6 := hK6.same _ _ hbx5 ⟨by omega, .inl hlt1⟩
    have hkw6 : Same w w6 := ⟨hK6.os.trans hkw5.os, hK6.tape.trans hkw5.tape, hK6.output.trans hkw5.output, Nat.le_trans hkw5.size hK6.size, fun b o hb _ => hK6.same b o (hkw5.same b o hb trivial) (by have := lt_of_some hb; exact ⟨by omega, .inl (by omega)⟩)⟩
    have hz6 : bb ≤ w6.heap.size := Nat.le_trans hz5 hK6.size
    refine hK _ _ hbx6 ?_
    clear hK K
    refine shT_nil ?_
    go_wp2_with fail
    refine (bldString_any bb bb (xs ++ bytesN tx) w6 hB6 (fun x hx => (List.mem_append.1 hx).elim (hx2 x) (bytesN_lt _ x)) hz6).mono ?_
    rintro x w7 ⟨rfl, hK7⟩
    have hkw7 : Same w w7 := ⟨hK7.os.trans hkw6.os, hK7.tape.trans hkw6.tape, hK7.output.trans hkw6.output, Nat.le_trans hkw6.size hK7.size, fun b o hb _ => hK7.same b o (hkw6.same b o hb trivial) (by have := lt_of_some hb; exact .inl (by omega))⟩
    go_wp2_with fail
    go_ret2
    exact ⟨by rw [HR.out]; rfl, hkw7⟩
end Go.Tm

set_option linter.unusedVariables false
namespace Go.Tm
open Go.RowKit Go.Proofs
theorem format_any {N : Nat} {E : Errs} (d : Dc) (w : World) (hG : Glob N E w) (hs : d.digits.size ≤ 1099511627776) :
    Calls Tryz.prog 109 #[decV d] w fun e w' => e = .returned (.tuple #[.string (formatM d).1, .int .i64 (formatM d).2]) ∧ Same w w' := by
  cases h : decRight d with
  | false => exact fmt_bad d w hs h
  | true =>
    cases hw : within d.exp 20 with
    | false => exact fmt_big d w h hw hG.pow fun W hW => (hG.same hW).pow
    | true =>
      have hb : -20 ≤ d.exp ∧ d.exp ≤ 20 := by
        unfold within at hw
        simp only [Bool.and_eq_true, decide_eq_true_eq] at hw
        exact hw
      by_cases h0 : 0 ≤ d.exp
      · exact format_int d w hs h h0 hb.2
      · by_cases hn : 0 < (d.digits.size : Int) + d.exp
        · exact fmt_mid d w h (by omega) hb.1 hn
        · exact fmt_low d w h (by omega) hb.1 (by omega)
def extX (h : Hd) : Dc × Bool :=
  if h.u ≠ 100 ∨ (parseM h.s).2.2 ≠ 0 ∨ (parseM h.s).2.1.size ≠ 0 then (noDc, false)
  else if (formatM (parseM h.s).1).2 ≠ 0 ∨ (formatM (parseM h.s).1).1 ≠ h.s then (noDc, false)
  else ((parseM h.s).1, true)
theorem parse_right_dec (s : ByteArray) (h : (parseM s).2.2 = 0) : decRight (parseM s).1 = true := by
  unfold parseM at h ⊢
  split at h
  · cases h
  · rename_i h1
    rw [if_neg h1]
    split at h
    · rename_i h2; exact absurd h h2
    · rename_i h2
      rw [if_neg h2]
      have h3 : (makeO s).2 = 0 := Decidable.not_not.1 h2
      unfold makeO at h3 ⊢
      exact makeB_right _ _ _ h3
theorem extX_right (h : Hd) (hx : (extX h).2 = true) : decRight (extX h).1 = true := by
  unfold extX at hx ⊢
  split at hx
  · cases hx
  · rename_i h1
    rw [if_neg h1]
    split at hx
    · cases hx
    · rename_i h2
      rw [if_neg h2]
      exact parse_right_dec _ (Decidable.not_not.1 fun e => h1 (.inr (.inl e)))
theorem ofExt_res (T : Array Value) (W : World) (bx : Nat) (d : Dc) (e : Bool) (h2 : T.getD 2 undef = .pointer (some ⟨bx, 0, none⟩)) (h3 : T.getD 3 undef = .bool e)
    (hrow : W.heap[bx]? = some (.cells #[.bool d.neg, .string d.digits, .int .i64 d.exp] 23 (0, 0))) : (results Tryz.f59 T).run Tryz.prog W = .ok (decB (d, e)) W := by
  have hld := run_loadVar_row (P := Tryz.prog) W bx 23 23 _ (0, 0) _ hrow Tryz.underlying23 rfl (by kernel_rfl)
  rw [results_cell_tmp rfl, h2, h3]
  simp [asAddr, hld, Result.andThen]
set_option maxRecDepth 100000 in
set_option maxHeartbeats 4000000 in
theorem ofExt_any {N : Nat} {E : Errs} (h : Hd) (a : Option Addr) (n cap : Nat) (w : World) (hG : Glob N E w) (hN : N ≤ w.heap.size) (hs : h.s.size ≤ 274877906944) :
    Calls Tryz.prog 59 #[nodeV h (.slice a n cap)] w fun e w' => e = .returned (decB (extX h)) ∧ Same w w' := by
  have hpa := fun W (hW : Same w W) => parse_any h.s W (hG.same hW) (Nat.le_trans hN hW.size) hs
  have hpd := parse_right_dec h.s
  obtain ⟨R, hR⟩ : ∃ R, extX h = R := ⟨_, rfl⟩
  have hr0 : R = if h.u ≠ 100 ∨ (parseM h.s).2.2 ≠ 0 ∨ (parseM h.s).2.1.size ≠ 0 then (noDc, false) else if (formatM (parseM h.s).1).2 ≠ 0 ∨ (formatM (parseM h.s).1).1 ≠ h.s then (noDc, false) else ((parseM h.s).1, true) := hR.symm
  rw [hR]
  clear hR
  obtain ⟨⟨d, rest, er⟩, hpq⟩ : ∃ r, parseM h.s = r := ⟨_, rfl⟩
  rw [hpq] at hpa hpd hr0
  simp only at hpa hpd hr0
  have hfm := fun W (hW : Same w W) (hdd : er = 0) => format_any (N := N) (E := E) d W (hG.same hW) (Nat.le_trans (fmt_bounds d (hpd hdd)).1 (by decide))
  obtain ⟨⟨fs, fe⟩, hfq⟩ : ∃ r, formatM d = r := ⟨_, rfl⟩
  rw [hfq] at hfm hr0
  simp only at hfm hr0
  clear hpq hfq
  have HR := Lib.hid hr0
  clear hr0
  go_enter Tryz.func59, Tryz.ntmps59
  go_wp2_with fail
  refine (hpa _ (by repeat (first | with_reducible exact Keep.refl _ _ | with_reducible refine Keep.alloc ?_ _ | with_reducible refine Keep.drew ?_ | with_reducible refine Keep.drewN ?_ _ | with_reducible refine Keep.trans ?_ (by assumption)))).mono ?_
  rintro x w1 ⟨rfl, hk1⟩
  have hbn1 := hk1.same w.heap.size _ (show _ = some (.cells #[.int .i64 h.kind, .bool h.b, .bool h.d.neg, .string h.d.digits, .int .i64 h.d.exp, .int .u64 (h.u : Int), .int .i64 h.w, .string h.s, .slice a n cap] 27 (0, 0)) from heap_old (World.alloc_heap_new w _)) trivial
  have hbr1 := hk1.same (w.heap.size + 1) _ (show _ = some (.cells #[.bool false, .string ⟨#[]⟩, .int .i64 0] 23 (0, 0)) from heap_new' (by simp)) trivial
  have hkw1 : Same w w1 := (by repeat (first | with_reducible exact Keep.refl _ _ | with_reducible refine Keep.alloc ?_ _ | with_reducible refine Keep.drew ?_ | with_reducible refine Keep.drewN ?_ _ | with_reducible refine Keep.trans ?_ (by assumption)))
  have hbn2 := heap_old (o := .cells #[.bool d.neg, .string d.digits, .int .i64 d.exp] 23) hbn1
  have hbr2 := heap_old (o := .cells #[.bool d.neg, .string d.digits, .int .i64 d.exp] 23) hbr1
  have hbx2 : (w1.alloc (.cells #[.bool d.neg, .string d.digits, .int .i64 d.exp] 23)).heap[w1.heap.size]? = some (.cells #[.bool d.neg, .string d.digits, .int .i64 d.exp] 23 (0, 0)) := World.alloc_heap_new w1 _
  have hkw2 : Same w (w1.alloc (.cells #[.bool d.neg, .string d.digits, .int .i64 d.exp] 23)) := hkw1.trans ((Keep.refl _ _).alloc _)
  obtain ⟨n0, n1, n2, n3, n4, n5, n6, n7, n8⟩ := cells9 hbn2
  obtain ⟨z0, z1, z2⟩ := cells3 hbr2
  obtain ⟨x0, x1, x2⟩ := cells3 hbx2
  obtain ⟨m0, m1, m2, m3, m4, m5, m6, m7, m8⟩ := cells9 hbn1
  have hfz : ∀ j, (w1.alloc (.cells #[.bool d.neg, .string d.digits, .int .i64 d.exp] 23)).frozen? ⟨w.heap.size + 1, j, none⟩ = false := Lib.frozen_of_heap hbr2
  by_cases hu : h.u = 100
  · have k1 : ((h.u : Int) == 100) = true := by simp [hu]
    have nk1 : ((h.u : Int) != 100) = false := by simp [hu]
    by_cases he : er = 0
    · subst he
      by_cases hre : rest.size = 0
      · have k3 : rest.toList = [] := by
          have : rest = ByteArray.empty := by simpa using hre
          rw [this, ByteArray.toList_eq]; rfl
        have HR2 := Lib.hid (show R = if fe ≠ 0 ∨ fs ≠ h.s then (noDc, false) else (d, true) from by rw [HR.out, if_neg (by rintro (e | e | e); exact e hu; exact e rfl; exact e hre)])
        clear hu HR hre hpd hpa
        go_wp2_with fail
        refine (hfm _ hkw2 trivial).mono ?_
        rintro x w4 ⟨rfl, hk4⟩
        have hbn4 := hk4.same _ _ hbn2 trivial
        have hbr4 := hk4.same _ _ hbr2 trivial
        have hbx4 := hk4.same _ _ hbx2 trivial
        have hkw4 := hkw2.trans hk4
        clear n0 n1 n2 n3 n4 n5 n6 n7 n8 z0 z1 z2 x0 x1 x2 m0 m1 m2 m3 m4 m5 m6 m7 m8 hfz hfm hbn2 hbn1 hbr1 hbr2 hbx2 hk4 hkw2
        obtain ⟨n0, n1, n2, n3, n4, n5, n6, n7, n8⟩ := cells9 hbn4
        obtain ⟨z0, z1, z2⟩ := cells3 hbr4
        obtain ⟨x0, x1, x2⟩ := cells3 hbx4
        have hfz : ∀ j, w4.frozen? ⟨w.heap.size + 1, j, none⟩ = false := Lib.frozen_of_heap hbr4
        by_cases hfe : fe = 0
        · subst hfe
          by_cases hfs : fs = h.s
          · have k4 : (fs.toList == h.s.toList) = true := str_eq hfs
            have nk4 : (fs.toList != h.s.toList) = false := by unfold bne; rw [k4]; rfl
            have HR1 := Lib.hid (show R = (d, true) from by rw [HR2.out, if_neg (by rintro (e | e); exact e rfl; exact e hfs)])
            clear hfs HR2
            go_wp2_with fail
            (try simp only [Exit.inBlock, Exit.then])
            obtain ⟨p3, p4⟩ := put3 (x := .bool d.neg) (y := .string d.digits) (z := .int .i64 d.exp) hkw4 hbr4 (by omega)
            exact bodyPost_ret (ofExt_res _ _ (w.heap.size + 1) d true rfl rfl p3) rfl ⟨by rw [HR1.out] <;> rfl, p4⟩
          · have k4 : (fs.toList == h.s.toList) = false := str_ne hfs
            have nk4 : (fs.toList != h.s.toList) = true := by unfold bne; rw [k4]; rfl
            have HR1 := Lib.hid (show R = (noDc, false) from by rw [HR2.out, if_pos (.inr hfs)])
            clear hfs HR2
            go_wp2_with fail; (try simp only [Exit.inBlock, Exit.then]); obtain ⟨p3, p4⟩ := put3 (x := .bool false) (y := .string ⟨#[]⟩) (z := .int .i64 0) hkw4 hbr4 (by omega); exact bodyPost_ret (ofExt_res _ _ (w.heap.size + 1) noDc false rfl rfl p3) rfl ⟨by rw [HR1.out] <;> rfl, p4⟩
        · have k2 : ((fe : Int) == 0) = false := by simpa using hfe
          have nk2 : ((fe : Int) != 0) = true := by simpa using hfe
          have HR1 := Lib.hid (show R = (noDc, false) from by rw [HR2.out, if_pos (.inl hfe)])
          clear hfe HR2
          go_wp2_with fail; (try simp only [Exit.inBlock, Exit.then]); obtain ⟨p3, p4⟩ := put3 (x := .bool false) (y := .string ⟨#[]⟩) (z := .int .i64 0) hkw4 hbr4 (by omega); exact bodyPost_ret (ofExt_res _ _ (w.heap.size + 1) noDc false rfl rfl p3) rfl ⟨by rw [HR1.out] <;> rfl, p4⟩
      · have k3 : (rest.toList == []) = false := beq_eq_false_iff_ne.2 fun e => hre (by rw [ByteArray.toList_eq] at e; show rest.data.size = 0; rw [← Array.length_toList, e]; rfl)
        have nk3 : (rest.toList != []) = true := by unfold bne; rw [k3]; rfl
        have HR1 := Lib.hid (show R = (noDc, false) from by rw [HR.out, if_pos (.inr (.inr hre))])
        clear hu HR hfm hpd hpa hre
        go_wp2_with fail; (try simp only [Exit.inBlock, Exit.then]); obtain ⟨p3, p4⟩ := put3 (x := .bool false) (y := .string ⟨#[]⟩) (z := .int .i64 0) hkw2 hbr2 (by omega); exact bodyPost_ret (ofExt_res _ _ (w.heap.size + 1) noDc false rfl rfl p3) rfl ⟨by rw [HR1.out] <;> rfl, p4⟩
    · have k2 : ((er : Int) == 0) = false := by simpa using he
      have nk2 : ((er : Int) != 0) = true := by simpa using he
      have HR1 := Lib.hid (show R = (noDc, false) from by rw [HR.out, if_pos (.inr (.inl he))])
      clear hu HR hfm hpd hpa he
      go_wp2_with fail; (try simp only [Exit.inBlock, Exit.then]); obtain ⟨p3, p4⟩ := put3 (x := .bool false) (y := .string ⟨#[]⟩) (z := .int .i64 0) hkw2 hbr2 (by omega); exact bodyPost_ret (ofExt_res _ _ (w.heap.size + 1) noDc false rfl rfl p3) rfl ⟨by rw [HR1.out] <;> rfl, p4⟩
  · have k1 : ((h.u : Int) == 100) = false := by simp; omega
    have nk1 : ((h.u : Int) != 100) = true := by simp; omega
    have HR1 := Lib.hid (show R = (noDc, false) from by rw [HR.out, if_pos (.inl hu)])
    clear hu HR hfm hpd hpa
    go_wp2_with fail; (try simp only [Exit.inBlock, Exit.then]); obtain ⟨p3, p4⟩ := put3 (x := .bool false) (y := .string ⟨#[]⟩) (z := .int .i64 0) hkw2 hbr2 (by omega); exact bodyPost_ret (ofExt_res _ _ (w.heap.size + 1) noDc false rfl rfl p3) rfl ⟨by rw [HR1.out] <;> rfl, p4⟩
end Go.Tm

set_option linter.unusedVariables false
namespace Go.Tm
open Go.RowKit Go.Proofs
theorem ext_all' {N : Nat} {E : Errs} {t : Tree} {f : Int} (h : checkT t f = 0) : ∀ x ∈ t.flat, ExtC extX N E x := fun x hx h11 W lv hG hN hr => by
  obtain ⟨a, c, rfl⟩ := hr.is_slice
  exact ofExt_any x.hd a _ c W hG hN (Nat.le_trans (own_s ((checkT_all h).2.2 x hx).1) (by decide))
theorem sameOf2 {w W : World} (hk : Keep (fun k _ => k ≠ w.heap.size) w W) : Same w W := ⟨hk.os, hk.tape, hk.output, hk.size, fun k o ho _ => hk.same k o ho (by have := lt_of_some ho; omega)⟩
set_option maxRecDepth 100000 in
set_option maxHeartbeats 8000000 in
theorem ProjTwice.walk_any {E : Errs} (t : Tree) (f : Int) (lv : Value) (w : World) (hG : Glob w.heap.size E w) (hrep : t.RepW w lv) :
    Calls Tryz.prog 7 #[nodeV t.hd lv, .int .i64 f] w fun e w' => e = .returned (.bool true) ∧ Same w w' := by
  obtain ⟨ho, a, cap, rfl, hlen, hL⟩ := repW_node hrep
  have hfew := fun (W : World) (hk : Same w W) => few_any t _ W (hrep.same hk)
  have hsh := fun (W : World) (hk : Same w W) => shown_any (X := extX) extX_right (N := w.heap.size) (E := E) W (hG.same hk) hk.size
  have fok := few_ok ho
  have fde := few_depth t
  have fle := few_lens t
  have fhd := few_hd t
  obtain ⟨T, hT⟩ : ∃ T, fewT t = T := ⟨_, rfl⟩
  rw [hT] at hfew fok fde fle fhd
  rw [← fhd] at hfew
  have hlaw := twice_law extX (t := T) (f := f)
  have hnum := common_num extX T f
  have hdep := common_depth extX T f
  have hlens := common_len extX T f fle
  obtain ⟨n, hn⟩ : ∃ n, t.l.length = n := ⟨_, rfl⟩
  obtain ⟨h, hh⟩ : ∃ h, t.hd = h := ⟨_, rfl⟩
  rw [hn, hh] at hfew
  rw [hn, hh]
  clear hT hn hh fhd hL hrep hlen ho
  obtain ⟨q, l⟩ := T
  simp only [Tree.hd_node, Tree.l_node] at hfew fok
  have hbn : (w.alloc (.cells #[.int .i64 h.kind, .bool h.b, .bool h.d.neg, .string h.d.digits, .int .i64 h.d.exp, .int .u64 (h.u : Int), .int .i64 h.w, .string h.s, .slice a n cap] 27)).heap[w.heap.size]? = some (.cells #[.int .i64 h.kind, .bool h.b, .bool h.d.neg, .string h.d.digits, .int .i64 h.d.exp, .int .u64 (h.u : Int), .int .i64 h.w, .string h.s, .slice a n cap] 27 (0, 0)) := World.alloc_heap_new w _
  have hk0 : Same w (w.alloc (.cells #[.int .i64 h.kind, .bool h.b, .bool h.d.neg, .string h.d.digits, .int .i64 h.d.exp, .int .u64 (h.u : Int), .int .i64 h.w, .string h.s, .slice a n cap] 27)) := (Keep.refl _ _).alloc _
  have hz0 : (w.alloc (.cells #[.int .i64 h.kind, .bool h.b, .bool h.d.neg, .string h.d.digits, .int .i64 h.d.exp, .int .u64 (h.u : Int), .int .i64 h.w, .string h.s, .slice a n cap] 27)).heap.size = w.heap.size + 1 := by simp
  go_enter Tryz.func7, Tryz.ntmps7
  go_wp2_with fail
  refine (hsh _ hk0).mono ?_
  rintro e w1 ⟨rfl, hk1⟩
  have hb1 := hk1.same _ _ hbn trivial
  have hkw1 := hk0.trans hk1
  have hzw := hk1.size
  rw [hz0] at hzw
  clear hk0 hk1 hz0 hbn hsh
  obtain ⟨n0, n1, n2, n3, n4, n5, n6, n7, n8⟩ := cells9 hb1
  go_wp2_with fail
  refine (hfew _ hkw1).mono ?_
  rintro e w2 ⟨lv2, rfl, hr2, hk2⟩
  obtain ⟨a2, c2, rfl⟩ := hr2.is_slice
  have hb2 := hk2.same _ _ hb1 trivial
  have hkw2 := hkw1.trans hk2
  clear n0 n1 n2 n3 n4 n5 n6 n7 n8 hfew
  obtain ⟨n0, n1, n2, n3, n4, n5, n6, n7, n8⟩ := cells9 hb2
  have hfz : ∀ j, w2.frozen? ⟨w.heap.size, j, none⟩ = false := Lib.frozen_of_heap hb2
  obtain ⟨h9, hk9⟩ := put9 hb2 (.int .i64 q.kind) (.bool q.b) (.bool q.d.neg) (.string q.d.digits) (.int .i64 q.d.exp) (.int .u64 (q.u : Int)) (.int .i64 q.w) (.string q.s) (.slice a2 l.length c2)
  have hr3 : RepS AnyB ((((((((((w2.setCell ⟨w.heap.size, 0, none⟩ (.int .i64 q.kind)).setCell ⟨w.heap.size, 1, none⟩ (.bool q.b)).setCell ⟨w.heap.size, 2, none⟩ (.bool q.d.neg)).setCell ⟨w.heap.size, 3, none⟩ (.string q.d.digits)).setCell ⟨w.heap.size, 4, none⟩ (.int .i64 q.d.exp)).setCell ⟨w.heap.size, 5, none⟩ (.int .u64 (q.u : Int))).setCell ⟨w.heap.size, 6, none⟩ (.int .i64 q.w)).setCell ⟨w.heap.size, 7, none⟩ (.string q.s)).setCell ⟨w.heap.size, 8, none⟩ (.slice a2 l.length c2))) l (.slice a2 l.length c2) := (hr2.keep hk9 fun b (hb : w1.heap.size ≤ b) _ _ => by omega).mono fun _ _ _ => trivial
  have hkw3 : Keep (fun k _ => k ≠ w.heap.size) w ((((((((((w2.setCell ⟨w.heap.size, 0, none⟩ (.int .i64 q.kind)).setCell ⟨w.heap.size, 1, none⟩ (.bool q.b)).setCell ⟨w.heap.size, 2, none⟩ (.bool q.d.neg)).setCell ⟨w.heap.size, 3, none⟩ (.string q.d.digits)).setCell ⟨w.heap.size, 4, none⟩ (.int .i64 q.d.exp)).setCell ⟨w.heap.size, 5, none⟩ (.int .u64 (q.u : Int))).setCell ⟨w.heap.size, 6, none⟩ (.int .i64 q.w)).setCell ⟨w.heap.size, 7, none⟩ (.string q.s)).setCell ⟨w.heap.size, 8, none⟩ (.slice a2 l.length c2))) := (Keep.of_same hkw2).trans hk9
  have hz3 : w.heap.size ≤ ((((((((((w2.setCell ⟨w.heap.size, 0, none⟩ (.int .i64 q.kind)).setCell ⟨w.heap.size, 1, none⟩ (.bool q.b)).setCell ⟨w.heap.size, 2, none⟩ (.bool q.d.neg)).setCell ⟨w.heap.size, 3, none⟩ (.string q.d.digits)).setCell ⟨w.heap.size, 4, none⟩ (.int .i64 q.d.exp)).setCell ⟨w.heap.size, 5, none⟩ (.int .u64 (q.u : Int))).setCell ⟨w.heap.size, 6, none⟩ (.int .i64 q.w)).setCell ⟨w.heap.size, 7, none⟩ (.string q.s)).setCell ⟨w.heap.size, 8, none⟩ (.slice a2 l.length c2))).heap.size := hkw3.size
  have hcA := fun W lv (hg : Glob w.heap.size E W) (hn : w.heap.size ≤ W.heap.size) hr => common_any extX_right (.node q l) f AnyB lv W hg hn (by omega) fok hr (fun _ _ => trivial) fle (fun h => ext_all' h)
  obtain ⟨AT, e1, hA⟩ : ∃ t e, commonM extX (.node q l) f = (t, e) := ⟨_, _, rfl⟩
  rw [hA] at hcA hlaw hnum hdep hlens
  unfold OutC at hcA
  simp only at hcA hlaw hnum hdep hlens
  have HLAW := Lib.hid hlaw
  clear hA hlaw fle
  go_wp2_with fail
  clear n0 n1 n2 n3 n4 n5 n6 n7 n8 hfz hk9 hb2 hb1 hr2 hk2 hkw1 hkw2
  generalize ((((((((((w2.setCell ⟨w.heap.size, 0, none⟩ (.int .i64 q.kind)).setCell ⟨w.heap.size, 1, none⟩ (.bool q.b)).setCell ⟨w.heap.size, 2, none⟩ (.bool q.d.neg)).setCell ⟨w.heap.size, 3, none⟩ (.string q.d.digits)).setCell ⟨w.heap.size, 4, none⟩ (.int .i64 q.d.exp)).setCell ⟨w.heap.size, 5, none⟩ (.int .u64 (q.u : Int))).setCell ⟨w.heap.size, 6, none⟩ (.int .i64 q.w)).setCell ⟨w.heap.size, 7, none⟩ (.string q.s)).setCell ⟨w.heap.size, 8, none⟩ (.slice a2 l.length c2))) = W3 at h9 hr3 hkw3 hz3 ⊢
  have hG3 : Glob w.heap.size E W3 := hG.keep hkw3 fun k hlt _ => by omega
  simp only [Tree.hd_node, Tree.l_node] at hcA
  refine (hcA _ _ hG3 hz3 hr3).mono ?_
  rintro e w4 ⟨lv3, rfl, hokA, hrA, hk4⟩
  have hkw4 := hkw3.trans (Keep.of_same hk4)
  clear h9 hk4 hkw3 hz3 hG3 hcA hr3
  by_cases he : e1 = 0
  · subst he
    obtain ⟨g1, g2, g3, g4⟩ := HLAW.out rfl
    have hcB := fun W lv (hg : Glob w.heap.size E W) (hn : w.heap.size ≤ W.heap.size) hr => common_any extX_right AT 1 AnyB lv W hg hn (by omega) hokA hr (fun _ _ => trivial) hlens (fun h => ext_all' h)
    have hcC := fun W lv (hg : Glob w.heap.size E W) hr => sort_any AT AnyB lv W hg (by omega) hokA hr (fun _ _ => trivial) hlens
    have hcI := fun W lv (hg : Glob w.heap.size E W) hr => isCommon_any AT AnyB lv W hg (by omega) hokA hr (fun _ _ => trivial) hlens
    have hcK := fun W lv (hg : Glob w.heap.size E W) hr => check_any 1 AT lv W hg (by omega) hr hokA
    rw [g1] at hcB
    rw [g2] at hcC
    rw [g3] at hcI
    rw [g4] at hcK
    have hsm := fun W lv lv' h1 h2 => refSame_any AT AT AnyB lv lv' W h1 h2
    rw [(same_iff _ _).2 rfl] at hsm
    unfold OutC at hcB hcC
    obtain ⟨ah, al⟩ := AT
    obtain ⟨a3, c3, rfl⟩ := hrA.is_slice
    simp only [Tree.hd_node, Tree.l_node] at *
    clear g1 g2 g3 g4 HLAW hnum hlens hdep fde hokA fok
    have hs45 : Same w4 (w4.alloc (.cells #[.int .i64 ah.kind, .bool ah.b, .bool ah.d.neg, .string ah.d.digits, .int .i64 ah.d.exp, .int .u64 (ah.u : Int), .int .i64 ah.w, .string ah.s, .slice a3 al.length c3] 27)) := (Keep.refl _ _).alloc _
    have hba : (w4.alloc (.cells #[.int .i64 ah.kind, .bool ah.b, .bool ah.d.neg, .string ah.d.digits, .int .i64 ah.d.exp, .int .u64 (ah.u : Int), .int .i64 ah.w, .string ah.s, .slice a3 al.length c3] 27)).heap[w4.heap.size]? = some (.cells #[.int .i64 ah.kind, .bool ah.b, .bool ah.d.neg, .string ah.d.digits, .int .i64 ah.d.exp, .int .u64 (ah.u : Int), .int .i64 ah.w, .string ah.s, .slice a3 al.length c3] 27 (0, 0)) := World.alloc_heap_new w4 _
    have hkw5 := hkw4.trans (Keep.of_same hs45)
    have hrA5 := hrA.same hs45
    obtain ⟨n0, n1, n2, n3, n4, n5, n6, n7, n8⟩ := cells9 hba
    clear hrA hs45 hkw4
    go_wp2_with fail
    generalize (w4.alloc (.cells #[.int .i64 ah.kind, .bool ah.b, .bool ah.d.neg, .string ah.d.digits, .int .i64 ah.d.exp, .int .u64 (ah.u : Int), .int .i64 ah.w, .string ah.s, .slice a3 al.length c3] 27)) = w5 at hba hkw5 hrA5 n0 n1 n2 n3 n4 n5 n6 n7 n8 ⊢
    refine (hcB _ _ (hG.keep hkw5 fun k hlt _ => by omega) hkw5.size hrA5).mono ?_
    rintro x w6 ⟨lv5, rfl, hokB, hrB, hk6⟩
    obtain ⟨a5, c5, rfl⟩ := hrB.is_slice
    have hs67 : Same w6 (w6.alloc (.cells #[.int .i64 ah.kind, .bool ah.b, .bool ah.d.neg, .string ah.d.digits, .int .i64 ah.d.exp, .int .u64 (ah.u : Int), .int .i64 ah.w, .string ah.s, .slice a5 al.length c5] 27)) := (Keep.refl _ _).alloc _
    have hkw7 := (hkw5.trans (Keep.of_same hk6)).trans (Keep.of_same hs67)
    have hbB7 : (w6.alloc (.cells #[.int .i64 ah.kind, .bool ah.b, .bool ah.d.neg, .string ah.d.digits, .int .i64 ah.d.exp, .int .u64 (ah.u : Int), .int .i64 ah.w, .string ah.s, .slice a5 al.length c5] 27)).heap[w6.heap.size]? = some (.cells #[.int .i64 ah.kind, .bool ah.b, .bool ah.d.neg, .string ah.d.digits, .int .i64 ah.d.exp, .int .u64 (ah.u : Int), .int .i64 ah.w, .string ah.s, .slice a5 al.length c5] 27 (0, 0)) := World.alloc_heap_new w6 _
    have hbA7 := hs67.same _ _ (hk6.same _ _ hba trivial) trivial
    have hrA7 := (hrA5.same hk6).same hs67
    have hrB7 := hrB.same hs67
    clear n0 n1 n2 n3 n4 n5 n6 n7 n8 hcB hba hkw5 hrA5 hk6 hrB hs67
    obtain ⟨n0, n1, n2, n3, n4, n5, n6, n7, n8⟩ := cells9 hbA7
    go_wp2_with fail
    generalize (w6.alloc (.cells #[.int .i64 ah.kind, .bool ah.b, .bool ah.d.neg, .string ah.d.digits, .int .i64 ah.d.exp, .int .u64 (ah.u : Int), .int .i64 ah.w, .string ah.s, .slice a5 al.length c5] 27)) = w7 at hkw7 hbB7 hbA7 hrA7 hrB7 n0 n1 n2 n3 n4 n5 n6 n7 n8 ⊢
    refine (hcC _ _ (hG.keep hkw7 fun k hlt _ => by omega) hrA7).mono ?_
    rintro x w8 ⟨lv6, rfl, hokC, hrC, hk8⟩
    obtain ⟨a6, c6, rfl⟩ := hrC.is_slice
    have hs89 : Same w8 (w8.alloc (.cells #[.int .i64 ah.kind, .bool ah.b, .bool ah.d.neg, .string ah.d.digits, .int .i64 ah.d.exp, .int .u64 (ah.u : Int), .int .i64 ah.w, .string ah.s, .slice a6 al.length c6] 27)) := (Keep.refl _ _).alloc _
    have hkw9 := (hkw7.trans (Keep.of_same hk8)).trans (Keep.of_same hs89)
    have hbC9 : (w8.alloc (.cells #[.int .i64 ah.kind, .bool ah.b, .bool ah.d.neg, .string ah.d.digits, .int .i64 ah.d.exp, .int .u64 (ah.u : Int), .int .i64 ah.w, .string ah.s, .slice a6 al.length c6] 27)).heap[w8.heap.size]? = some (.cells #[.int .i64 ah.kind, .bool ah.b, .bool ah.d.neg, .string ah.d.digits, .int .i64 ah.d.exp, .int .u64 (ah.u : Int), .int .i64 ah.w, .string ah.s, .slice a6 al.length c6] 27 (0, 0)) := World.alloc_heap_new w8 _
    have hbA9 := hs89.same _ _ (hk8.same _ _ hbA7 trivial) trivial
    have hbB9 := hs89.same _ _ (hk8.same _ _ hbB7 trivial) trivial
    have hrA9 := (hrA7.same hk8).same hs89
    have hrB9 := (hrB7.same hk8).same hs89
    have hrC9 := hrC.same hs89
    clear n0 n1 n2 n3 n4 n5 n6 n7 n8 hcC hbA7 hbB7 hkw7 hrA7 hrB7 hk8 hrC hs89
    obtain ⟨n0, n1, n2, n3, n4, n5, n6, n7, n8⟩ := cells9 hbA9
    obtain ⟨m0, m1, m2, m3, m4, m5, m6, m7, m8⟩ := cells9 hbB9
    go_wp2_with fail
    generalize (w8.alloc (.cells #[.int .i64 ah.kind, .bool ah.b, .bool ah.d.neg, .string ah.d.digits, .int .i64 ah.d.exp, .int .u64 (ah.u : Int), .int .i64 ah.w, .string ah.s, .slice a6 al.length c6] 27)) = w9 at hkw9 hbC9 hbA9 hbB9 hrA9 hrB9 hrC9 n0 n1 n2 n3 n4 n5 n6 n7 n8 m0 m1 m2 m3 m4 m5 m6 m7 m8 ⊢
    refine (hsm _ _ _ hrA9 hrB9).mono ?_
    rintro x w10 ⟨rfl, hk10⟩
    have hkw10 := hkw9.trans (Keep.of_same hk10)
    have hbA10 := hk10.same _ _ hbA9 trivial
    have hbC10 := hk10.same _ _ hbC9 trivial
    have hrA10 := hrA9.same hk10
    have hrC10 := hrC9.same hk10
    clear n0 n1 n2 n3 n4 n5 n6 n7 n8 m0 m1 m2 m3 m4 m5 m6 m7 m8 hkw9 hbC9 hbA9 hbB9 hrA9 hrB9 hrC9 hk10
    obtain ⟨n0, n1, n2, n3, n4, n5, n6, n7, n8⟩ := cells9 hbA10
    obtain ⟨m0, m1, m2, m3, m4, m5, m6, m7, m8⟩ := cells9 hbC10
    go_wp2_with fail
    refine (hsm _ _ _ hrA10 hrC10).mono ?_
    rintro x w11 ⟨rfl, hk11⟩
    have hkw11 := hkw10.trans (Keep.of_same hk11)
    have hbA11 := hk11.same _ _ hbA10 trivial
    have hrA11 := hrA10.same hk11
    clear n0 n1 n2 n3 n4 n5 n6 n7 n8 m0 m1 m2 m3 m4 m5 m6 m7 m8 hkw10 hbA10 hbC10 hrA10 hrC10 hk11 hsm
    obtain ⟨n0, n1, n2, n3, n4, n5, n6, n7, n8⟩ := cells9 hbA11
    go_wp2_with fail
    refine (hcI _ _ (hG.keep hkw11 fun k hlt _ => by omega) hrA11).mono ?_
    rintro x w12 ⟨rfl, hk12⟩
    have hkw12 := hkw11.trans (Keep.of_same hk12)
    have hbA12 := hk12.same _ _ hbA11 trivial
    have hrA12 := hrA11.same hk12
    clear n0 n1 n2 n3 n4 n5 n6 n7 n8 hkw11 hbA11 hrA11 hk12 hcI
    obtain ⟨n0, n1, n2, n3, n4, n5, n6, n7, n8⟩ := cells9 hbA12
    go_wp2_with fail
    refine (hcK _ _ (hG.keep hkw12 fun k hlt _ => by omega) hrA12).mono ?_
    rintro x w13 ⟨rfl, hk13⟩
    clear n0 n1 n2 n3 n4 n5 n6 n7 n8 hcK
    go_wp2_with fail
    go_ret
    exact ⟨rfl, sameOf2 (hkw12.trans (Keep.of_same hk13))⟩
  · obtain ⟨ah, al⟩ := AT
    obtain ⟨a3, c3, rfl⟩ := hrA.is_slice
    simp only [Tree.hd_node, Tree.l_node] at *
    have hkw5 : Keep (fun k _ => k ≠ w.heap.size) w (w4.alloc (.cells #[.int .i64 ah.kind, .bool ah.b, .bool ah.d.neg, .string ah.d.digits, .int .i64 ah.d.exp, .int .u64 (ah.u : Int), .int .i64 ah.w, .string ah.s, .slice a3 al.length c3] 27)) := hkw4.trans ((Keep.refl _ _).alloc _)
    clear hrA HLAW hdep hlens hokA
    rcases hnum with e0 | rfl | rfl | rfl
    · exact absurd e0 he
    all_goals
      go_wp2_with fail
      go_ret
      exact ⟨rfl, sameOf2 hkw5⟩
end Go.Tm
