/-
  Part 4 of what the claim leans on: contracts of the functions that the law reaches, and plain facts of what they compute (joined by wip/merge.py out of the texts named behind each mark). Conditions: the theorems' own.
-/
import Derived.Stop.IfaceNil
import Derived.IntWalk
import Derived.Deep.WholeRow
import Derived.Deep.Slices
import Derived.Deep.Fields
import Derived.ChangeSame
import Derived.Lib.LaidU8T
import Derived.Lib.LaidTab
import Derived.PinnedBridge
import Derived.LaidSub
import Derived.Stop.LaidErr
import Derived.Carry
import Derived.Laws.MakeOwn
import Derived.Deep.QuietTactic
import Derived.Deep.RegionWith
import Derived.Test.YthledjlechdbiaaGreatDoorSortsClaimC
import Derived.Test.YthledjlechdbiaaGreatDoorRows
set_option linter.unusedVariables false
namespace Go.Tm
open Go.RowKit Go.Proofs
theorem results_cell {fn : Func} {p : Tmp} {ty : TypeId} (h : fn.results = #[.cell p ty]) (tmps : Array Value) (P : Program) (w : World) :
  (results fn tmps).run P w = ((asAddr (tmps.getD p undef)).run P w).andThen fun a w₁ => (loadVar ty a).run P w₁ := by
 simp only [results, h]
 simp [Sem.run_bind, Result.andThen]
def nar (b i : Nat) : Bool := (narrow b ((f3 i).2.2 : Nat)).2
theorem least_at {b i : Nat} (hi : i < 3) (h1 : ∀ j, j < i → nar b j = false) (h2 : nar b i = true) : least b = ((f3 i).2.2 : Nat) := by
 show (if nar b 0 = true then (16 : Int) else if nar b 1 = true then 32 else 64) = _
 obtain rfl | rfl | rfl : i = 0 ∨ i = 1 ∨ i = 2 := by omega
 ·rw [if_pos h2]; rfl
 ·rw [if_neg (fun h => by have h3 := h1 0 (by omega); rw [h3] at h; cases h), if_pos h2]; rfl
 ·rw [if_neg (fun h => by have h3 := h1 0 (by omega); rw [h3] at h; cases h), if_neg (fun h => by have h3 := h1 1 (by omega); rw [h3] at h; cases h)]; rfl
theorem least_none {b : Nat} (h1 : ∀ j, j < 3 → nar b j = false) : False := by
 have h3 := h1 2 (by omega)
 have h4 : nar b 2 = true := rfl
 rw [h3] at h4; cases h4
set_option maxRecDepth 100000 in
set_option maxHeartbeats 2000000 in
theorem least_any (b : Nat) (w : World) (hb : b < 18446744073709551616) : Calls Tryz.prog 92 #[.int .u64 b] w fun e w' => e = .returned (.int .i64 (least b)) ∧ Same w w' := by
 refine (callsIn_wide (n := 0)).1 ?_
 refine callsIn_of_wp_marks Tryz.func92 rfl trivial ?_ rfl
 simp only [Tryz.ntmps92, List.size_toArray, List.length_cons, List.length_nil, Nat.reduceAdd, Nat.reduceSub, Array.replicate_succ, Array.replicate_zero, List.push_toArray, List.append_toArray, List.nil_append, List.cons_append]
 gi_wp2_with (gi_at_call 133; refine (callsW (widths_any _)).mono ?_; rintro e w' ⟨rfl, h9⟩; replace h9 := h9.symm; subst h9)
 generalize hW1 : World.alloc _ (.cells #[.int .i64 0] 3) = W1
 have hz : W1.heap.size = w.heap.size + 2 := by rw [← hW1]; simp
 have hk1 : Same w W1 := by rw [← hW1]; exact (((Keep.refl _ w).alloc _).alloc _)
 have b0 : Boxed W1 w.heap.size 24 (.int .u64 b) := by rw [← hW1]; repeat (first | exact heap_new' (by simp) | refine heap_old ?_)
 have b1 : Boxed W1 (w.heap.size + 1) 3 (.int .i64 0) := by rw [← hW1]; exact heap_new' (by simp)
 clear hW1
 refine wp_range (gf := 175) (lb := #[])
  rfl (enters_of Tryz.func175 (by kernel_rfl) rfl) 3 (fun i v _ => v = #[formAt i]) (fun b o => b ≠ w.heap.size + 1) (fun _ _ => True)
  (fun _ => True) (fun _ _ => True) (fun W2 _ _ => widths1_iter _ _ W2) ?hSb (fun _ _ _ _ _ => trivial)
  (fun i A => (∀ j, j < i → nar b j = false) ∧ Boxed A w.heap.size 24 (.int .u64 b) ∧ Boxed A (w.heap.size + 1) 3 (.int .i64 0))
  (fun i c A => c = .ret ∧ (∀ j, j < i → nar b j = false) ∧ nar b i = true ∧ Boxed A (w.heap.size + 1) 3 (.int .i64 ((f3 i).2.2 : Nat)))
  ?hI ?hIx (fun _ _ _ _ h _ => h) (fun _ _ _ _ => trivial) (fun _ _ _ _ _ => trivial) (fun i v A h => by rw [h]; rfl) ⟨fun _ h => by omega, b0, b1⟩
  (fun i v a' A => ∃ bx, A.heap[bx]? = some (.cells (formC (f3 i)) 154 (0, 0)) ∧ a' = { tmps := #[.int .u64 b, .pointer (some ⟨w.heap.size, 0, none⟩), .pointer (some ⟨w.heap.size + 1, 0, none⟩), .pointer (some ⟨bx, 0, none⟩), undef, undef, .func (.func 175) #[] #[], formAt i, undef, undef, undef, undef, undef, undef, undef, undef, undef, undef], defers := [] }) ?hAx ?hassign ?hbody ?hdone ?hstop
 case hSb => exact fun b o hb ho => by omega
 case hI =>
  rintro i A B ⟨h1, h2, h3⟩ hk
  exact ⟨h1, hk.boxed h2 ⟨.inr rfl, trivial⟩, hk.boxed h3 ⟨.inr rfl, trivial⟩⟩
 case hIx =>
  rintro i c A B ⟨h0, h1, h3, h4⟩ hk
  exact ⟨h0, h1, h3, hk.boxed h4 ⟨.inr rfl, trivial⟩⟩
 case hAx =>
  rintro i v a' A B ⟨bx, h1, h2⟩ hk
  exact ⟨bx, hk.same _ _ h1 (.inr rfl), h2⟩
 case hassign =>
  intro l i v A K hi hI' hE' hK
  subst hE'
  obtain ⟨f, hf⟩ : ∃ f, f3 i = f := ⟨_, rfl⟩
  unfold formAt at hK ⊢
  rw [hf] at hK ⊢
  gi_wp2
  refine hK _ _ ((Keep.refl _ _).alloc _) ?_ trivial ⟨A.heap.size, World.alloc_heap_new A _, rfl⟩
  obtain ⟨h1, h2, h3⟩ := hI'
  exact ⟨h1, h2.alloc _, h3.alloc _⟩
 case hbody =>
  rintro l i v a' A hl _ hi ⟨h1, h2, h3⟩ hv ⟨bx, hbx, rfl⟩
  unfold formAt
  obtain ⟨f, hf⟩ : ∃ f, f3 i = f := ⟨_, rfl⟩
  have Hf := Lib.hid hf
  rw [hf] at hbx ⊢
  clear hf
  have c0 := h2.cell
  obtain ⟨e0, e1, e2⟩ := cells3 hbx
  obtain ⟨r, hr⟩ : ∃ r, narrow b (f.2.2 : Int) = r := ⟨_, rfl⟩
  have hn : nar b i = r.2 := by unfold nar; rw [Hf.out, hr]
  have HRr := Lib.hid hr
  clear hr
  by_cases hx : r.2 = true
  ·have HN := Lib.hid (hn.trans hx)
   clear hn
   gi_wp2_with (gi_at_call 96; refine (callsR l (narrow_any b (f.2.2 : Int) _ hb)).mono ?_; rintro e w' ⟨rfl, hk⟩; rw [HRr.out]; have g1 := hk.boxed h3 trivial; have g2 := g1.cell; have g3 := g1.frozen; obtain ⟨p0, p1, p2⟩ := cells3 (hk.same _ _ hbx trivial))
   refine ⟨(hk.mono fun _ _ _ _ => trivial).setCell _ fun o _ hs => absurd rfl hs, rfl, h1, HN.out, ?_⟩
   rw [Hf.out]
   exact g1.set _
  ·replace hx : r.2 = false := by simpa using hx
   have HN := Lib.hid (hn.trans hx)
   clear hn
   gi_wp2_with (gi_at_call 96; refine (callsR l (narrow_any b (f.2.2 : Int) _ hb)).mono ?_; rintro e w' ⟨rfl, hk⟩; rw [HRr.out]; have g1 := hk.boxed h3 trivial; have g2 := g1.cell; have g3 := g1.frozen; obtain ⟨p0, p1, p2⟩ := cells3 (hk.same _ _ hbx trivial))
   refine ⟨hk.mono fun _ _ _ _ => trivial, fun j hj => ?_, hk.boxed h2 trivial, g1⟩
   rcases Nat.lt_or_ge j i with h | h
   ·exact h1 j h
   ·obtain rfl : j = i := by omega
    exact HN.out
 case hdone =>
  rintro D A hD ⟨h1, h2, h3⟩ _ hk hDB
  exact (least_none h1).elim
 case hstop =>
  rintro D i c A hD hi ⟨rfl, h1, h2, h3⟩ _ hk hDB
  have hkA : Same w A := ⟨hk.os.trans hk1.os, hk.tape.trans hk1.tape, hk.output.trans hk1.output, Nat.le_trans hk1.size hk.size, fun b o hb _ => hk.same b o (hk1.same b o hb trivial) ⟨by have := lt_of_some hb; omega, trivial⟩⟩
  have hres := least_at hi h1 h2
  gi_wp2
  refine ⟨by simp, .inl ⟨_, _, rfl, run_takeDeferred hDB, ?_⟩⟩
  have hrow : (A.putObj D (.deferred none)).heap[w.heap.size + 1]? = some (.cells #[.int .i64 ((f3 i).2.2 : Nat)] 3 (0, 0)) := (World.putObj_heap_other (by omega)).trans h3
  have hcell : (A.putObj D (.deferred none)).cell? ⟨w.heap.size + 1, 0, none⟩ = some (.int .i64 ((f3 i).2.2 : Nat)) := Boxed.cell hrow
  refine ⟨.int .i64 (least b), ?_, rfl, hkA.putObj _ fun o _ _ h => by omega⟩
  rw [results_cell rfl, hres]
  have hu := Tryz.underlying3
  simp [asAddr, loadVar, isAgg, hcell, Result.andThen, Sem.run_bind, go_sem]
end Go.Tm
namespace Go.Tm
open Go.RowKit Go.Proofs
set_option maxRecDepth 100000 in
set_option maxHeartbeats 1000000 in
theorem isFloat_any {N : Nat} {E : Errs} (id : Int) (h : Hd) (l : List Tree) (S : Nat → Prop) (lv : Value) (w : World) (hG : Glob N E w) (ho : h.ok) (hl : RepS S w l lv) :
  Calls Tryz.prog 80 #[.agg #[.int .i64 id], nodeV h lv] w fun e w' => e = .returned (.bool (bareT (.node h l) { bareHd 0 with u := h.u, w := h.w } && decide ((widen h.u h.w).2 = 0))) ∧ Same w w' := by
 obtain ⟨a, cap, rfl⟩ := hl.is_slice
 have hlen := hl.shape.1
 obtain ⟨ho1, ho2, ho3, ho4, ho5, ho6⟩ := ho
 obtain ⟨r0, h0⟩ : ∃ r, bareT (.node h l) { bareHd 0 with u := h.u, w := h.w } = r := ⟨_, rfl⟩
 have H0 := Lib.hid h0
 obtain ⟨r1, h1⟩ : ∃ r, decide ((widen h.u h.w).2 = 0) = r := ⟨_, rfl⟩
 have H1 := Lib.hid h1
 obtain ⟨x, hx⟩ : ∃ x, widen h.u h.w = x := ⟨_, rfl⟩
 have h1' : (x.2 == 0) = r1 := by rw [← h1, ← hx]; exact beq_int _ _
 have HX := Lib.hid hx
 clear h0 h1 hx
 go_enter Tryz.func80, Tryz.ntmps80
 go_wp2_with (first
  | (go_at_call 90; refine (widen_any h.u h.w _ (by omega)).mono ?_; rintro e w1 ⟨rfl, hk1⟩; rw [HX.out]; have hb := hk1.same (w.heap.size + 1) _ (show _ = some (.cells #[.int .i64 h.kind, .bool h.b, .bool h.d.neg, .string h.d.digits, .int .i64 h.d.exp, .int .u64 h.u, .int .i64 h.w, .string h.s, .slice a l.length cap] 27 (0, 0)) from (by repeat (first | with_reducible exact heap_new' (by simp) | with_reducible refine heap_old ?_ | with_reducible refine heap_drew ?_))) trivial; obtain ⟨n0, n1, n2, n3, n4, n5, n6, n7, n8⟩ := cells9 hb)
  | (go_at_call 122; refine (bare_any h { bareHd 0 with u := h.u, w := h.w } l S _ _ (hl.same smK)).mono ?_; rintro e w2 ⟨rfl, hk2⟩; rw [H0.out]))
 all_goals go_ret
 all_goals exact ⟨by rw [H0.out, H1.out]; simp [*], smK⟩
set_option maxRecDepth 100000 in
set_option maxHeartbeats 1000000 in
theorem fits1_any {N : Nat} {E : Errs} (id : Int) (h : Hd) (l : List Tree) (S : Nat → Prop) (lv : Value) (c : Nat) (w : World) (hG : Glob N E w) (ho : h.ok) (hl : RepS S w l lv) (hc : w.heap[c]? = some (.cells #[.int .i64 id] 56 (0, 0))) :
  Calls Tryz.prog 88 #[nodeV h lv, .pointer (some ⟨c, 0, none⟩)] w fun e w' => e = .returned (.bool (!isKeyT id (.node h l))) ∧ Same w w' := by
 obtain ⟨a, cap, rfl⟩ := hl.is_slice
 have c0 := alloc_cell (cells1 hc) (.cells (nodeCs h (.slice a l.length cap)).toArray 27)
 have hG1 := hG.same (Keep.of_same (((Keep.refl _ w).alloc (.cells (nodeCs h (.slice a l.length cap)).toArray 27))))
 go_enter Tryz.func88, Tryz.ntmps88
 go_wp2_with (first
  | (go_at_call 89; refine (isKey_any id h l S _ _ (hG.same smK) ho (hl.same smK)).mono ?_; rintro e w1 ⟨rfl, hk1⟩))
 all_goals go_ret
 all_goals exact ⟨rfl, smK⟩
def kindFn (i : Nat) : Nat := if i = 1 then 77 else if i = 2 then 78 else if i = 3 then 79 else if i = 4 then 80 else if i = 5 then 81 else if i = 6 then 82 else if i = 7 then 83 else if i = 8 then 84 else if i = 9 then 85 else if i = 10 then 86 else 87
def kindsM (n : Nat) : Array MapEntry := ((List.range n).map fun i => { key := .int .i64 ((i + 1 : Nat) : Int), val := .func (.func (kindFn (i + 1))) #[] #[], born := i }).toArray
set_option maxRecDepth 100000 in
set_option maxHeartbeats 2000000 in
theorem kinds_any (w : World) : Calls Tryz.prog 50 #[] w fun e w' => ∃ b, e = .returned (.map (some b)) ∧ w'.heap[b]? = some (.map (kindsM 11) 11) ∧ Same w w' := by
 go_enter Tryz.func50, Tryz.ntmps50
 go_wp2
 rw [run_makeMap]
 obtain ⟨X, hX⟩ : ∃ X, w.alloc (.map #[] 0) = X := ⟨_, rfl⟩
 have hs : Same w X := by rw [← hX]; exact smK
 have hm : X.heap[w.heap.size]? = some (.map (kindsM 0) 0) := by rw [← hX]; exact World.alloc_heap_new w _
 rw [hX]
 clear hX
 go_wp2
 rw [run_mapUpdate_new (d := .int .i64) (.int .i64 1) (.func (.func 77) #[] #[]) Tryz.underlying76 Tryz.underlying3 rfl hm (by rfl)]
 generalize hX : World.putObj _ _ _ = X; replace hs : Same w X := by rw [← hX]; exact hs.putObj _ fun o _ _ h => by omega
 replace hm : X.heap[w.heap.size]? = some (.map (kindsM 1) 1) := by rw [← hX]; exact World.putObj_heap_same (lt_of_some hm)
 clear hX
 go_wp2
 rw [run_mapUpdate_new (d := .int .i64) (.int .i64 2) (.func (.func 78) #[] #[]) Tryz.underlying76 Tryz.underlying3 rfl hm (by rfl)]
 generalize hX : World.putObj _ _ _ = X; replace hs : Same w X := by rw [← hX]; exact hs.putObj _ fun o _ _ h => by omega
 replace hm : X.heap[w.heap.size]? = some (.map (kindsM 2) 2) := by rw [← hX]; exact World.putObj_heap_same (lt_of_some hm)
 clear hX
 go_wp2
 rw [run_mapUpdate_new (d := .int .i64) (.int .i64 3) (.func (.func 79) #[] #[]) Tryz.underlying76 Tryz.underlying3 rfl hm (by rfl)]
 generalize hX : World.putObj _ _ _ = X; replace hs : Same w X := by rw [← hX]; exact hs.putObj _ fun o _ _ h => by omega
 replace hm : X.heap[w.heap.size]? = some (.map (kindsM 3) 3) := by rw [← hX]; exact World.putObj_heap_same (lt_of_some hm)
 clear hX
 go_wp2
 rw [run_mapUpdate_new (d := .int .i64) (.int .i64 4) (.func (.func 80) #[] #[]) Tryz.underlying76 Tryz.underlying3 rfl hm (by rfl)]
 generalize hX : World.putObj _ _ _ = X; replace hs : Same w X := by rw [← hX]; exact hs.putObj _ fun o _ _ h => by omega
 replace hm : X.heap[w.heap.size]? = some (.map (kindsM 4) 4) := by rw [← hX]; exact World.putObj_heap_same (lt_of_some hm)
 clear hX
 go_wp2
 rw [run_mapUpdate_new (d := .int .i64) (.int .i64 5) (.func (.func 81) #[] #[]) Tryz.underlying76 Tryz.underlying3 rfl hm (by rfl)]
 generalize hX : World.putObj _ _ _ = X; replace hs : Same w X := by rw [← hX]; exact hs.putObj _ fun o _ _ h => by omega
 replace hm : X.heap[w.heap.size]? = some (.map (kindsM 5) 5) := by rw [← hX]; exact World.putObj_heap_same (lt_of_some hm)
 clear hX
 go_wp2
 rw [run_mapUpdate_new (d := .int .i64) (.int .i64 6) (.func (.func 82) #[] #[]) Tryz.underlying76 Tryz.underlying3 rfl hm (by rfl)]
 generalize hX : World.putObj _ _ _ = X; replace hs : Same w X := by rw [← hX]; exact hs.putObj _ fun o _ _ h => by omega
 replace hm : X.heap[w.heap.size]? = some (.map (kindsM 6) 6) := by rw [← hX]; exact World.putObj_heap_same (lt_of_some hm)
 clear hX
 go_wp2
 rw [run_mapUpdate_new (d := .int .i64) (.int .i64 7) (.func (.func 83) #[] #[]) Tryz.underlying76 Tryz.underlying3 rfl hm (by rfl)]
 generalize hX : World.putObj _ _ _ = X; replace hs : Same w X := by rw [← hX]; exact hs.putObj _ fun o _ _ h => by omega
 replace hm : X.heap[w.heap.size]? = some (.map (kindsM 7) 7) := by rw [← hX]; exact World.putObj_heap_same (lt_of_some hm)
 clear hX
 go_wp2
 rw [run_mapUpdate_new (d := .int .i64) (.int .i64 8) (.func (.func 84) #[] #[]) Tryz.underlying76 Tryz.underlying3 rfl hm (by rfl)]
 generalize hX : World.putObj _ _ _ = X; replace hs : Same w X := by rw [← hX]; exact hs.putObj _ fun o _ _ h => by omega
 replace hm : X.heap[w.heap.size]? = some (.map (kindsM 8) 8) := by rw [← hX]; exact World.putObj_heap_same (lt_of_some hm)
 clear hX
 go_wp2
 rw [run_mapUpdate_new (d := .int .i64) (.int .i64 9) (.func (.func 85) #[] #[]) Tryz.underlying76 Tryz.underlying3 rfl hm (by rfl)]
 generalize hX : World.putObj _ _ _ = X; replace hs : Same w X := by rw [← hX]; exact hs.putObj _ fun o _ _ h => by omega
 replace hm : X.heap[w.heap.size]? = some (.map (kindsM 9) 9) := by rw [← hX]; exact World.putObj_heap_same (lt_of_some hm)
 clear hX
 go_wp2
 rw [run_mapUpdate_new (d := .int .i64) (.int .i64 10) (.func (.func 86) #[] #[]) Tryz.underlying76 Tryz.underlying3 rfl hm (by rfl)]
 generalize hX : World.putObj _ _ _ = X; replace hs : Same w X := by rw [← hX]; exact hs.putObj _ fun o _ _ h => by omega
 replace hm : X.heap[w.heap.size]? = some (.map (kindsM 10) 10) := by rw [← hX]; exact World.putObj_heap_same (lt_of_some hm)
 clear hX
 go_wp2
 rw [run_mapUpdate_new (d := .int .i64) (.int .i64 11) (.func (.func 87) #[] #[]) Tryz.underlying76 Tryz.underlying3 rfl hm (by rfl)]
 generalize hX : World.putObj _ _ _ = X; replace hs : Same w X := by rw [← hX]; exact hs.putObj _ fun o _ _ h => by omega
 replace hm : X.heap[w.heap.size]? = some (.map (kindsM 11) 11) := by rw [← hX]; exact World.putObj_heap_same (lt_of_some hm)
 clear hX
 go_wp2
 go_ret
 exact ⟨_, rfl, hm, hs⟩
end Go.Tm
namespace Go.Tm
open Go.RowKit Go.Proofs
theorem has1 (id k : Int) : ([k] : List Int).contains id = decide (id = k) := by simp
theorem has2 (id j k : Int) : ([j, k] : List Int).contains id = (decide (id = j) || decide (id = k)) := by simp
theorem has3 (id i j k : Int) : ([i, j, k] : List Int).contains id = (decide (id = i) || decide (id = j) || decide (id = k)) := by simp [Bool.or_assoc]
theorem has4 (id i j k m : Int) : ([i, j, k, m] : List Int).contains id = (decide (id = i) || decide (id = j) || decide (id = k) || decide (id = m)) := by simp [Bool.or_assoc]
theorem fJoin_lt {s e f : Nat} (hs : s ≤ 1) (he : e ≤ 2047) (hf : f < 4503599627370496) : fJoin 52 64 s e f < 18446744073709551616 := by
 have h1 : s <<< (64 - 1) < 2 ^ 64 := by rw [Nat.shiftLeft_eq]; omega
 have h2 : e <<< 52 < 2 ^ 64 := by rw [Nat.shiftLeft_eq]; omega
 exact Nat.or_lt_two_pow (n := 64) (Nat.or_lt_two_pow h1 h2) (by omega)
theorem widen_lt {b : Nat} {x : Int} (hb : b < 18446744073709551616) : (widen b x).1 < 18446744073709551616 := by
 have key : ∀ W fr ex : Nat, fForm x = some (fr, ex, W) → fr ≤ 52 → ex ≤ 11 → (widen b x).1 < 18446744073709551616 := by
  intro W fr ex hf h1 h2
  unfold widen
  rw [hf]
  show (if W < bitLen b then ((0 : Nat), (2 : Int)) else if W = 64 then (b, 0) else if b >>> fr &&& onesN ex = onesN ex then (fJoin 52 64 (b >>> (W - 1) &&& 1) 2047 ((b &&& onesN fr) <<< (52 - fr)), 0) else if b >>> fr &&& onesN ex = 0 ∧ b &&& onesN fr = 0 then (fJoin 52 64 (b >>> (W - 1) &&& 1) 0 0, 0) else if b >>> fr &&& onesN ex = 0 then (fJoin 52 64 (b >>> (W - 1) &&& 1) (1 + 1023 - onesN (ex - 1) - (fr + 1 - bitLen (b &&& onesN fr))) (((b &&& onesN fr) <<< (fr + 1 - bitLen (b &&& onesN fr)) &&& onesN fr) <<< (52 - fr)), 0) else (fJoin 52 64 (b >>> (W - 1) &&& 1) ((b >>> fr &&& onesN ex) + 1023 - onesN (ex - 1)) ((b &&& onesN fr) <<< (52 - fr)), 0)).1 < _
  have hs : b >>> (W - 1) &&& 1 ≤ 1 := Nat.and_le_right
  have hfr : ∀ y, (y &&& onesN fr) <<< (52 - fr) < 4503599627370496 := by
   intro y
   have h3 : y &&& onesN fr ≤ onesN fr := Nat.and_le_right
   have h4 : (y &&& onesN fr) < 2 ^ fr := by have : 0 < 2 ^ fr := Nat.pow_pos (by decide); unfold onesN at h3 ⊢; omega
   rw [Nat.shiftLeft_eq]
   have h5 : (y &&& onesN fr) * 2 ^ (52 - fr) < 2 ^ fr * 2 ^ (52 - fr) := Nat.mul_lt_mul_of_pos_right h4 (Nat.pow_pos (by decide))
   rw [← Nat.pow_add, Nat.add_sub_cancel' h1] at h5
   exact h5
  have hbias : ∀ e, e ≤ onesN ex → ex = 5 ∨ ex = 8 ∨ ex = 11 → e + 1023 - onesN (ex - 1) ≤ 2047 := by
   rintro e he (rfl | rfl | rfl)
   ·have : onesN 5 = 31 := rfl; have : onesN 4 = 15 := rfl; show e + 1023 - onesN 4 ≤ 2047; omega
   ·have : onesN 8 = 255 := rfl; have : onesN 7 = 127 := rfl; show e + 1023 - onesN 7 ≤ 2047; omega
   ·have : onesN 11 = 2047 := rfl; have : onesN 10 = 1023 := rfl; show e + 1023 - onesN 10 ≤ 2047; omega
  have hex : ex = 5 ∨ ex = 8 ∨ ex = 11 := by
   unfold fForm at hf
   split at hf
   ·cases hf; exact .inl rfl
   ·split at hf
    ·cases hf; exact .inr (.inl rfl)
    ·split at hf
     ·cases hf; exact .inr (.inr rfl)
     ·cases hf
  repeat' split
  ·exact (by decide)
  ·exact hb
  ·exact fJoin_lt hs (by omega) (hfr _)
  ·exact fJoin_lt hs (by omega) (by omega)
  ·exact fJoin_lt hs (by omega) (hfr _)
  ·exact fJoin_lt hs (hbias _ Nat.and_le_right hex) (hfr _)
 by_cases h16 : x = 16
 ·exact key 16 10 5 (by subst h16; rfl) (by omega) (by omega)
 by_cases h32 : x = 32
 ·exact key 32 23 8 (by subst h32; rfl) (by omega) (by omega)
 by_cases h64 : x = 64
 ·exact key 64 52 11 (by subst h64; rfl) (by omega) (by omega)
 have : fForm x = none := by unfold fForm; rw [if_neg h16, if_neg h32, if_neg h64]
 unfold widen
 rw [this]
 show (0 : Nat) < 18446744073709551616
 omega
set_option maxRecDepth 100000 in
set_option maxHeartbeats 40000000 in
theorem fits_float {N : Nat} {E : Errs} (id : Int) (h : Hd) (l : List Tree) (S : Nat → Prop) (lv : Value) (w : World) (hG : Glob N E w) (ho : h.ok) (hl : RepS S w l lv) (hk : h.kind = 4) :
  Calls Tryz.prog 51 #[.agg #[.int .i64 id], nodeV h lv] w fun e w' => e = .returned (.bool (fitsT id (.node h l))) ∧ Same w w' := by
 obtain ⟨a, cap, rfl⟩ := hl.is_slice
 obtain ⟨ho1, ho2, ho3, ho4, ho5, ho6⟩ := ho
 obtain ⟨x, hx⟩ : ∃ x, widen h.u h.w = x := ⟨_, rfl⟩
 obtain ⟨q, hq⟩ : ∃ q, decide (least x.1 = h.w) = q := ⟨_, rfl⟩
 have hq' : (least x.1 == h.w) = q := by rw [← hq]; exact beq_int _ _
 obtain ⟨r, hr⟩ : ∃ r, decide (16 < h.w) = r := ⟨_, rfl⟩
 obtain ⟨c2, h2⟩ : ∃ r, ([2] : List Int).contains id = r := ⟨_, rfl⟩
 obtain ⟨c3, h3⟩ : ∃ r, ([3] : List Int).contains id = r := ⟨_, rfl⟩
 obtain ⟨c4, h4⟩ : ∃ r, ([4] : List Int).contains id = r := ⟨_, rfl⟩
 have hres : fitsT id (.node h l) = (c2 || (c3 && q) || (c4 && r)) := by
  rw [← h2, ← h3, ← h4, ← hq, ← hr, ← hx, has1, has1, has1]
  show (if h.kind = 4 then _ else _) = _
  rw [if_pos hk]
  rfl
 have hx1 : x.1 < 18446744073709551616 := by rw [← hx]; exact widen_lt ho4
 have HX := Lib.hid hx
 have H2 := Lib.hid h2
 have H3 := Lib.hid h3
 have H4 := Lib.hid h4
 have HR := Lib.hid hres
 have k4 : (h.kind == 4) = true := by rw [hk]; rfl
 clear hx hq h2 h3 h4 hres hk
 cases c2
 ·cases c3
  ·cases c4
   ·go_enter Tryz.func51, Tryz.ntmps51
    go_wp2_with (first
     | (go_at_call 90; refine (widen_any h.u h.w _ (by omega)).mono ?_; rintro e w1 ⟨rfl, hk1⟩; rw [HX.out]; have hb := hk1.same (w.heap.size + 1) _ (show _ = some (.cells #[.int .i64 h.kind, .bool h.b, .bool h.d.neg, .string h.d.digits, .int .i64 h.d.exp, .int .u64 h.u, .int .i64 h.w, .string h.s, .slice a l.length cap] 27 (0, 0)) from (by repeat (first | with_reducible exact heap_new' (by simp) | with_reducible refine heap_old ?_ | with_reducible refine heap_drew ?_))) trivial; obtain ⟨n0, n1, n2, n3, n4, n5, n6, n7, n8⟩ := cells9 hb; have hi := hk1.same w.heap.size _ (show _ = some (.cells #[.int .i64 id] 56 (0, 0)) from (by repeat (first | with_reducible exact heap_new' (by simp) | with_reducible refine heap_old ?_ | with_reducible refine heap_drew ?_))) trivial; have i0 := cells1 hi))
    have hS0 : w1.heap[w.heap.size]? = some (.cells #[.int .i64 id] 56 (0, 0)) ∧ w1.heap[w.heap.size + 1]? = some (.cells #[.int .i64 h.kind, .bool h.b, .bool h.d.neg, .string h.d.digits, .int .i64 h.d.exp, .int .u64 h.u, .int .i64 h.w, .string h.s, .slice a l.length cap] 27 (0, 0)) := ⟨hi, hb⟩
    refine (wpIn_wide (n := 0)).1 ?_
    refine wpIn_region_shut (n := 0) (fun X => X.heap[w.heap.size]? = some (.cells #[.int .i64 id] 56 (0, 0)) ∧ X.heap[w.heap.size + 1]? = some (.cells #[.int .i64 h.kind, .bool h.b, .bool h.d.neg, .string h.d.digits, .int .i64 h.d.exp, .int .u64 h.u, .int .i64 h.w, .string h.s, .slice a l.length cap] 27 (0, 0))) reads (fun _ => trivial) rfl (by kernel_rfl) (by kernel_rfl) hS0 ?_
    iterate 2 (refine shT_x rfl rfl ?_; intro K hK w' hs; have y1 := cells1 hi; obtain ⟨z0, z1, z2, z3, z4, z5, z6, z7, z8⟩ := cells9 hb; have y0 := cells1 hs.1; obtain ⟨p0, p1, p2, p3, p4, p5, p6, p7, p8⟩ := cells9 hs.2; go_simp; refine hK _ _ ?_; clear hK K p0 p1 p2 p3 p4 p5 p6 p7 p8 y0 y1 z0 z1 z2 z3 z4 z5 z6 z7 z8 hs w')
    refine shT_c rfl rfl ?_
    intro K hK
    go_simp
    refine hK _ _ ⟨heap_old hi, heap_old hb⟩ ?_
    clear hK K
    refine shT_c rfl rfl ?_
    intro K hK
    go_simp
    refine (callsW (has_any id w1.heap.size 1 [2] #[.int .i64 2] 3 (0, 0) ((w1.alloc (.cells #[.int .i64 2] 3)).drew) 1 rfl (by decide) (heap_drew (World.alloc_heap_new w1 _)) rfl)).mono ?_
    rintro e w2 ⟨rfl, hk_w2⟩
    rw [H2.out]
    have hi := hk_w2.same _ _ (heap_drew (heap_old hi)) trivial
    have hb := hk_w2.same _ _ (heap_drew (heap_old hb)) trivial
    refine hK _ _ ⟨hi, hb⟩ ?_
    clear hK K
    refine shT_x rfl rfl ?_; intro K hK w' hs; have y1 := cells1 hi; obtain ⟨z0, z1, z2, z3, z4, z5, z6, z7, z8⟩ := cells9 hb; have y0 := cells1 hs.1; obtain ⟨p0, p1, p2, p3, p4, p5, p6, p7, p8⟩ := cells9 hs.2; go_simp; refine hK _ _ ?_; clear hK K p0 p1 p2 p3 p4 p5 p6 p7 p8 y0 y1 z0 z1 z2 z3 z4 z5 z6 z7 z8 hs w'
    iterate 2 (refine shT_gx (by kernel_rfl) rfl ?_; intro K hK w' hs; have y1 := cells1 hi; obtain ⟨z0, z1, z2, z3, z4, z5, z6, z7, z8⟩ := cells9 hb; have y0 := cells1 hs.1; obtain ⟨p0, p1, p2, p3, p4, p5, p6, p7, p8⟩ := cells9 hs.2; go_simp; refine hK _ _ ?_; clear hK K p0 p1 p2 p3 p4 p5 p6 p7 p8 y0 y1 z0 z1 z2 z3 z4 z5 z6 z7 z8 hs w')
    refine shT_gc (by kernel_rfl) rfl ?_
    intro K hK
    go_simp
    refine hK _ _ ⟨heap_old hi, heap_old hb⟩ ?_
    clear hK K
    refine shT_gc (by kernel_rfl) rfl ?_
    intro K hK
    go_simp
    refine (callsW (has_any id w2.heap.size 1 [3] #[.int .i64 3] 3 (0, 0) ((w2.alloc (.cells #[.int .i64 3] 3))) 1 rfl (by decide) (heap_drew (World.alloc_heap_new w2 _)) rfl)).mono ?_
    rintro e w3 ⟨rfl, hk_w3⟩
    rw [H3.out]
    have hi := hk_w3.same _ _ (heap_drew (heap_old hi)) trivial
    have hb := hk_w3.same _ _ (heap_drew (heap_old hb)) trivial
    refine hK _ _ ⟨hi, hb⟩ ?_
    clear hK K
    refine shT_gx (by kernel_rfl) rfl ?_; intro K hK w' hs; have y1 := cells1 hi; obtain ⟨z0, z1, z2, z3, z4, z5, z6, z7, z8⟩ := cells9 hb; have y0 := cells1 hs.1; obtain ⟨p0, p1, p2, p3, p4, p5, p6, p7, p8⟩ := cells9 hs.2; go_simp; refine hK _ _ ?_; clear hK K p0 p1 p2 p3 p4 p5 p6 p7 p8 y0 y1 z0 z1 z2 z3 z4 z5 z6 z7 z8 hs w'
    iterate 5 (refine shT_skip (by kernel_rfl) ?_)
    refine shT_gx (by kernel_rfl) rfl ?_; intro K hK w' hs; have y1 := cells1 hi; obtain ⟨z0, z1, z2, z3, z4, z5, z6, z7, z8⟩ := cells9 hb; have y0 := cells1 hs.1; obtain ⟨p0, p1, p2, p3, p4, p5, p6, p7, p8⟩ := cells9 hs.2; go_simp; refine hK _ _ ?_; clear hK K p0 p1 p2 p3 p4 p5 p6 p7 p8 y0 y1 z0 z1 z2 z3 z4 z5 z6 z7 z8 hs w'
    iterate 2 (refine shT_x rfl rfl ?_; intro K hK w' hs; have y1 := cells1 hi; obtain ⟨z0, z1, z2, z3, z4, z5, z6, z7, z8⟩ := cells9 hb; have y0 := cells1 hs.1; obtain ⟨p0, p1, p2, p3, p4, p5, p6, p7, p8⟩ := cells9 hs.2; go_simp; refine hK _ _ ?_; clear hK K p0 p1 p2 p3 p4 p5 p6 p7 p8 y0 y1 z0 z1 z2 z3 z4 z5 z6 z7 z8 hs w')
    iterate 2 (refine shT_gx (by kernel_rfl) rfl ?_; intro K hK w' hs; have y1 := cells1 hi; obtain ⟨z0, z1, z2, z3, z4, z5, z6, z7, z8⟩ := cells9 hb; have y0 := cells1 hs.1; obtain ⟨p0, p1, p2, p3, p4, p5, p6, p7, p8⟩ := cells9 hs.2; go_simp; refine hK _ _ ?_; clear hK K p0 p1 p2 p3 p4 p5 p6 p7 p8 y0 y1 z0 z1 z2 z3 z4 z5 z6 z7 z8 hs w')
    refine shT_gc (by kernel_rfl) rfl ?_
    intro K hK
    go_simp
    refine hK _ _ ⟨heap_old hi, heap_old hb⟩ ?_
    clear hK K
    refine shT_gc (by kernel_rfl) rfl ?_
    intro K hK
    go_simp
    refine (callsW (has_any id w3.heap.size 1 [4] #[.int .i64 4] 3 (0, 0) ((w3.alloc (.cells #[.int .i64 4] 3))) 1 rfl (by decide) (heap_drew (World.alloc_heap_new w3 _)) rfl)).mono ?_
    rintro e w4 ⟨rfl, hk_w4⟩
    rw [H4.out]
    have hi := hk_w4.same _ _ (heap_drew (heap_old hi)) trivial
    have hb := hk_w4.same _ _ (heap_drew (heap_old hb)) trivial
    refine hK _ _ ⟨hi, hb⟩ ?_
    clear hK K
    refine shT_gx (by kernel_rfl) rfl ?_; intro K hK w' hs; have y1 := cells1 hi; obtain ⟨z0, z1, z2, z3, z4, z5, z6, z7, z8⟩ := cells9 hb; have y0 := cells1 hs.1; obtain ⟨p0, p1, p2, p3, p4, p5, p6, p7, p8⟩ := cells9 hs.2; go_simp; refine hK _ _ ?_; clear hK K p0 p1 p2 p3 p4 p5 p6 p7 p8 y0 y1 z0 z1 z2 z3 z4 z5 z6 z7 z8 hs w'
    iterate 3 (refine shT_skip (by kernel_rfl) ?_)
    refine shT_gx (by kernel_rfl) rfl ?_; intro K hK w' hs; have y1 := cells1 hi; obtain ⟨z0, z1, z2, z3, z4, z5, z6, z7, z8⟩ := cells9 hb; have y0 := cells1 hs.1; obtain ⟨p0, p1, p2, p3, p4, p5, p6, p7, p8⟩ := cells9 hs.2; go_simp; refine hK _ _ ?_; clear hK K p0 p1 p2 p3 p4 p5 p6 p7 p8 y0 y1 z0 z1 z2 z3 z4 z5 z6 z7 z8 hs w'
    iterate 2 (refine shT_x rfl rfl ?_; intro K hK w' hs; have y1 := cells1 hi; obtain ⟨z0, z1, z2, z3, z4, z5, z6, z7, z8⟩ := cells9 hb; have y0 := cells1 hs.1; obtain ⟨p0, p1, p2, p3, p4, p5, p6, p7, p8⟩ := cells9 hs.2; go_simp; refine hK _ _ ?_; clear hK K p0 p1 p2 p3 p4 p5 p6 p7 p8 y0 y1 z0 z1 z2 z3 z4 z5 z6 z7 z8 hs w')
    refine shT_nil ?_
    go_wp2
    go_ret
    exact ⟨by rw [HR.out]; simp [*], smK⟩
   ·go_enter Tryz.func51, Tryz.ntmps51
    go_wp2_with (first
     | (go_at_call 90; refine (widen_any h.u h.w _ (by omega)).mono ?_; rintro e w1 ⟨rfl, hk1⟩; rw [HX.out]; have hb := hk1.same (w.heap.size + 1) _ (show _ = some (.cells #[.int .i64 h.kind, .bool h.b, .bool h.d.neg, .string h.d.digits, .int .i64 h.d.exp, .int .u64 h.u, .int .i64 h.w, .string h.s, .slice a l.length cap] 27 (0, 0)) from (by repeat (first | with_reducible exact heap_new' (by simp) | with_reducible refine heap_old ?_ | with_reducible refine heap_drew ?_))) trivial; obtain ⟨n0, n1, n2, n3, n4, n5, n6, n7, n8⟩ := cells9 hb; have hi := hk1.same w.heap.size _ (show _ = some (.cells #[.int .i64 id] 56 (0, 0)) from (by repeat (first | with_reducible exact heap_new' (by simp) | with_reducible refine heap_old ?_ | with_reducible refine heap_drew ?_))) trivial; have i0 := cells1 hi))
    have hS0 : w1.heap[w.heap.size]? = some (.cells #[.int .i64 id] 56 (0, 0)) ∧ w1.heap[w.heap.size + 1]? = some (.cells #[.int .i64 h.kind, .bool h.b, .bool h.d.neg, .string h.d.digits, .int .i64 h.d.exp, .int .u64 h.u, .int .i64 h.w, .string h.s, .slice a l.length cap] 27 (0, 0)) := ⟨hi, hb⟩
    refine (wpIn_wide (n := 0)).1 ?_
    refine wpIn_region_shut (n := 0) (fun X => X.heap[w.heap.size]? = some (.cells #[.int .i64 id] 56 (0, 0)) ∧ X.heap[w.heap.size + 1]? = some (.cells #[.int .i64 h.kind, .bool h.b, .bool h.d.neg, .string h.d.digits, .int .i64 h.d.exp, .int .u64 h.u, .int .i64 h.w, .string h.s, .slice a l.length cap] 27 (0, 0))) reads (fun _ => trivial) rfl (by kernel_rfl) (by kernel_rfl) hS0 ?_
    iterate 2 (refine shT_x rfl rfl ?_; intro K hK w' hs; have y1 := cells1 hi; obtain ⟨z0, z1, z2, z3, z4, z5, z6, z7, z8⟩ := cells9 hb; have y0 := cells1 hs.1; obtain ⟨p0, p1, p2, p3, p4, p5, p6, p7, p8⟩ := cells9 hs.2; go_simp; refine hK _ _ ?_; clear hK K p0 p1 p2 p3 p4 p5 p6 p7 p8 y0 y1 z0 z1 z2 z3 z4 z5 z6 z7 z8 hs w')
    refine shT_c rfl rfl ?_
    intro K hK
    go_simp
    refine hK _ _ ⟨heap_old hi, heap_old hb⟩ ?_
    clear hK K
    refine shT_c rfl rfl ?_
    intro K hK
    go_simp
    refine (callsW (has_any id w1.heap.size 1 [2] #[.int .i64 2] 3 (0, 0) ((w1.alloc (.cells #[.int .i64 2] 3)).drew) 1 rfl (by decide) (heap_drew (World.alloc_heap_new w1 _)) rfl)).mono ?_
    rintro e w2 ⟨rfl, hk_w2⟩
    rw [H2.out]
    have hi := hk_w2.same _ _ (heap_drew (heap_old hi)) trivial
    have hb := hk_w2.same _ _ (heap_drew (heap_old hb)) trivial
    refine hK _ _ ⟨hi, hb⟩ ?_
    clear hK K
    refine shT_x rfl rfl ?_; intro K hK w' hs; have y1 := cells1 hi; obtain ⟨z0, z1, z2, z3, z4, z5, z6, z7, z8⟩ := cells9 hb; have y0 := cells1 hs.1; obtain ⟨p0, p1, p2, p3, p4, p5, p6, p7, p8⟩ := cells9 hs.2; go_simp; refine hK _ _ ?_; clear hK K p0 p1 p2 p3 p4 p5 p6 p7 p8 y0 y1 z0 z1 z2 z3 z4 z5 z6 z7 z8 hs w'
    iterate 2 (refine shT_gx (by kernel_rfl) rfl ?_; intro K hK w' hs; have y1 := cells1 hi; obtain ⟨z0, z1, z2, z3, z4, z5, z6, z7, z8⟩ := cells9 hb; have y0 := cells1 hs.1; obtain ⟨p0, p1, p2, p3, p4, p5, p6, p7, p8⟩ := cells9 hs.2; go_simp; refine hK _ _ ?_; clear hK K p0 p1 p2 p3 p4 p5 p6 p7 p8 y0 y1 z0 z1 z2 z3 z4 z5 z6 z7 z8 hs w')
    refine shT_gc (by kernel_rfl) rfl ?_
    intro K hK
    go_simp
    refine hK _ _ ⟨heap_old hi, heap_old hb⟩ ?_
    clear hK K
    refine shT_gc (by kernel_rfl) rfl ?_
    intro K hK
    go_simp
    refine (callsW (has_any id w2.heap.size 1 [3] #[.int .i64 3] 3 (0, 0) ((w2.alloc (.cells #[.int .i64 3] 3))) 1 rfl (by decide) (heap_drew (World.alloc_heap_new w2 _)) rfl)).mono ?_
    rintro e w3 ⟨rfl, hk_w3⟩
    rw [H3.out]
    have hi := hk_w3.same _ _ (heap_drew (heap_old hi)) trivial
    have hb := hk_w3.same _ _ (heap_drew (heap_old hb)) trivial
    refine hK _ _ ⟨hi, hb⟩ ?_
    clear hK K
    refine shT_gx (by kernel_rfl) rfl ?_; intro K hK w' hs; have y1 := cells1 hi; obtain ⟨z0, z1, z2, z3, z4, z5, z6, z7, z8⟩ := cells9 hb; have y0 := cells1 hs.1; obtain ⟨p0, p1, p2, p3, p4, p5, p6, p7, p8⟩ := cells9 hs.2; go_simp; refine hK _ _ ?_; clear hK K p0 p1 p2 p3 p4 p5 p6 p7 p8 y0 y1 z0 z1 z2 z3 z4 z5 z6 z7 z8 hs w'
    iterate 5 (refine shT_skip (by kernel_rfl) ?_)
    refine shT_gx (by kernel_rfl) rfl ?_; intro K hK w' hs; have y1 := cells1 hi; obtain ⟨z0, z1, z2, z3, z4, z5, z6, z7, z8⟩ := cells9 hb; have y0 := cells1 hs.1; obtain ⟨p0, p1, p2, p3, p4, p5, p6, p7, p8⟩ := cells9 hs.2; go_simp; refine hK _ _ ?_; clear hK K p0 p1 p2 p3 p4 p5 p6 p7 p8 y0 y1 z0 z1 z2 z3 z4 z5 z6 z7 z8 hs w'
    iterate 2 (refine shT_x rfl rfl ?_; intro K hK w' hs; have y1 := cells1 hi; obtain ⟨z0, z1, z2, z3, z4, z5, z6, z7, z8⟩ := cells9 hb; have y0 := cells1 hs.1; obtain ⟨p0, p1, p2, p3, p4, p5, p6, p7, p8⟩ := cells9 hs.2; go_simp; refine hK _ _ ?_; clear hK K p0 p1 p2 p3 p4 p5 p6 p7 p8 y0 y1 z0 z1 z2 z3 z4 z5 z6 z7 z8 hs w')
    iterate 2 (refine shT_gx (by kernel_rfl) rfl ?_; intro K hK w' hs; have y1 := cells1 hi; obtain ⟨z0, z1, z2, z3, z4, z5, z6, z7, z8⟩ := cells9 hb; have y0 := cells1 hs.1; obtain ⟨p0, p1, p2, p3, p4, p5, p6, p7, p8⟩ := cells9 hs.2; go_simp; refine hK _ _ ?_; clear hK K p0 p1 p2 p3 p4 p5 p6 p7 p8 y0 y1 z0 z1 z2 z3 z4 z5 z6 z7 z8 hs w')
    refine shT_gc (by kernel_rfl) rfl ?_
    intro K hK
    go_simp
    refine hK _ _ ⟨heap_old hi, heap_old hb⟩ ?_
    clear hK K
    refine shT_gc (by kernel_rfl) rfl ?_
    intro K hK
    go_simp
    refine (callsW (has_any id w3.heap.size 1 [4] #[.int .i64 4] 3 (0, 0) ((w3.alloc (.cells #[.int .i64 4] 3))) 1 rfl (by decide) (heap_drew (World.alloc_heap_new w3 _)) rfl)).mono ?_
    rintro e w4 ⟨rfl, hk_w4⟩
    rw [H4.out]
    have hi := hk_w4.same _ _ (heap_drew (heap_old hi)) trivial
    have hb := hk_w4.same _ _ (heap_drew (heap_old hb)) trivial
    refine hK _ _ ⟨hi, hb⟩ ?_
    clear hK K
    iterate 5 (refine shT_gx (by kernel_rfl) rfl ?_; intro K hK w' hs; have y1 := cells1 hi; obtain ⟨z0, z1, z2, z3, z4, z5, z6, z7, z8⟩ := cells9 hb; have y0 := cells1 hs.1; obtain ⟨p0, p1, p2, p3, p4, p5, p6, p7, p8⟩ := cells9 hs.2; go_simp; refine hK _ _ ?_; clear hK K p0 p1 p2 p3 p4 p5 p6 p7 p8 y0 y1 z0 z1 z2 z3 z4 z5 z6 z7 z8 hs w')
    iterate 2 (refine shT_x rfl rfl ?_; intro K hK w' hs; have y1 := cells1 hi; obtain ⟨z0, z1, z2, z3, z4, z5, z6, z7, z8⟩ := cells9 hb; have y0 := cells1 hs.1; obtain ⟨p0, p1, p2, p3, p4, p5, p6, p7, p8⟩ := cells9 hs.2; go_simp; refine hK _ _ ?_; clear hK K p0 p1 p2 p3 p4 p5 p6 p7 p8 y0 y1 z0 z1 z2 z3 z4 z5 z6 z7 z8 hs w')
    refine shT_nil ?_
    go_wp2
    go_ret
    exact ⟨by rw [HR.out]; simp [*], smK⟩
  ·cases q
   ·cases c4
    ·go_enter Tryz.func51, Tryz.ntmps51
     go_wp2_with (first
      | (go_at_call 90; refine (widen_any h.u h.w _ (by omega)).mono ?_; rintro e w1 ⟨rfl, hk1⟩; rw [HX.out]; have hb := hk1.same (w.heap.size + 1) _ (show _ = some (.cells #[.int .i64 h.kind, .bool h.b, .bool h.d.neg, .string h.d.digits, .int .i64 h.d.exp, .int .u64 h.u, .int .i64 h.w, .string h.s, .slice a l.length cap] 27 (0, 0)) from (by repeat (first | with_reducible exact heap_new' (by simp) | with_reducible refine heap_old ?_ | with_reducible refine heap_drew ?_))) trivial; obtain ⟨n0, n1, n2, n3, n4, n5, n6, n7, n8⟩ := cells9 hb; have hi := hk1.same w.heap.size _ (show _ = some (.cells #[.int .i64 id] 56 (0, 0)) from (by repeat (first | with_reducible exact heap_new' (by simp) | with_reducible refine heap_old ?_ | with_reducible refine heap_drew ?_))) trivial; have i0 := cells1 hi))
     have hS0 : w1.heap[w.heap.size]? = some (.cells #[.int .i64 id] 56 (0, 0)) ∧ w1.heap[w.heap.size + 1]? = some (.cells #[.int .i64 h.kind, .bool h.b, .bool h.d.neg, .string h.d.digits, .int .i64 h.d.exp, .int .u64 h.u, .int .i64 h.w, .string h.s, .slice a l.length cap] 27 (0, 0)) := ⟨hi, hb⟩
     refine (wpIn_wide (n := 0)).1 ?_
     refine wpIn_region_shut (n := 0) (fun X => X.heap[w.heap.size]? = some (.cells #[.int .i64 id] 56 (0, 0)) ∧ X.heap[w.heap.size + 1]? = some (.cells #[.int .i64 h.kind, .bool h.b, .bool h.d.neg, .string h.d.digits, .int .i64 h.d.exp, .int .u64 h.u, .int .i64 h.w, .string h.s, .slice a l.length cap] 27 (0, 0))) reads (fun _ => trivial) rfl (by kernel_rfl) (by kernel_rfl) hS0 ?_
     iterate 2 (refine shT_x rfl rfl ?_; intro K hK w' hs; have y1 := cells1 hi; obtain ⟨z0, z1, z2, z3, z4, z5, z6, z7, z8⟩ := cells9 hb; have y0 := cells1 hs.1; obtain ⟨p0, p1, p2, p3, p4, p5, p6, p7, p8⟩ := cells9 hs.2; go_simp; refine hK _ _ ?_; clear hK K p0 p1 p2 p3 p4 p5 p6 p7 p8 y0 y1 z0 z1 z2 z3 z4 z5 z6 z7 z8 hs w')
     refine shT_c rfl rfl ?_
     intro K hK
     go_simp
     refine hK _ _ ⟨heap_old hi, heap_old hb⟩ ?_
     clear hK K
     refine shT_c rfl rfl ?_
     intro K hK
     go_simp
     refine (callsW (has_any id w1.heap.size 1 [2] #[.int .i64 2] 3 (0, 0) ((w1.alloc (.cells #[.int .i64 2] 3)).drew) 1 rfl (by decide) (heap_drew (World.alloc_heap_new w1 _)) rfl)).mono ?_
     rintro e w2 ⟨rfl, hk_w2⟩
     rw [H2.out]
     have hi := hk_w2.same _ _ (heap_drew (heap_old hi)) trivial
     have hb := hk_w2.same _ _ (heap_drew (heap_old hb)) trivial
     refine hK _ _ ⟨hi, hb⟩ ?_
     clear hK K
     refine shT_x rfl rfl ?_; intro K hK w' hs; have y1 := cells1 hi; obtain ⟨z0, z1, z2, z3, z4, z5, z6, z7, z8⟩ := cells9 hb; have y0 := cells1 hs.1; obtain ⟨p0, p1, p2, p3, p4, p5, p6, p7, p8⟩ := cells9 hs.2; go_simp; refine hK _ _ ?_; clear hK K p0 p1 p2 p3 p4 p5 p6 p7 p8 y0 y1 z0 z1 z2 z3 z4 z5 z6 z7 z8 hs w'
     iterate 2 (refine shT_gx (by kernel_rfl) rfl ?_; intro K hK w' hs; have y1 := cells1 hi; obtain ⟨z0, z1, z2, z3, z4, z5, z6, z7, z8⟩ := cells9 hb; have y0 := cells1 hs.1; obtain ⟨p0, p1, p2, p3, p4, p5, p6, p7, p8⟩ := cells9 hs.2; go_simp; refine hK _ _ ?_; clear hK K p0 p1 p2 p3 p4 p5 p6 p7 p8 y0 y1 z0 z1 z2 z3 z4 z5 z6 z7 z8 hs w')
     refine shT_gc (by kernel_rfl) rfl ?_
     intro K hK
     go_simp
     refine hK _ _ ⟨heap_old hi, heap_old hb⟩ ?_
     clear hK K
     refine shT_gc (by kernel_rfl) rfl ?_
     intro K hK
     go_simp
     refine (callsW (has_any id w2.heap.size 1 [3] #[.int .i64 3] 3 (0, 0) ((w2.alloc (.cells #[.int .i64 3] 3))) 1 rfl (by decide) (heap_drew (World.alloc_heap_new w2 _)) rfl)).mono ?_
     rintro e w3 ⟨rfl, hk_w3⟩
     rw [H3.out]
     have hi := hk_w3.same _ _ (heap_drew (heap_old hi)) trivial
     have hb := hk_w3.same _ _ (heap_drew (heap_old hb)) trivial
     refine hK _ _ ⟨hi, hb⟩ ?_
     clear hK K
     iterate 2 (refine shT_gx (by kernel_rfl) rfl ?_; intro K hK w' hs; have y1 := cells1 hi; obtain ⟨z0, z1, z2, z3, z4, z5, z6, z7, z8⟩ := cells9 hb; have y0 := cells1 hs.1; obtain ⟨p0, p1, p2, p3, p4, p5, p6, p7, p8⟩ := cells9 hs.2; go_simp; refine hK _ _ ?_; clear hK K p0 p1 p2 p3 p4 p5 p6 p7 p8 y0 y1 z0 z1 z2 z3 z4 z5 z6 z7 z8 hs w')
     refine shT_gc (by kernel_rfl) rfl ?_
     intro K hK
     go_simp
     refine (callsW (least_any x.1 _ hx1)).mono ?_
     rintro e w5 ⟨rfl, hk_w5⟩
     have hi := hk_w5.same _ _ hi trivial
     have hb := hk_w5.same _ _ hb trivial
     refine hK _ _ ⟨hi, hb⟩ ?_
     clear hK K
     iterate 4 (refine shT_gx (by kernel_rfl) rfl ?_; intro K hK w' hs; have y1 := cells1 hi; obtain ⟨z0, z1, z2, z3, z4, z5, z6, z7, z8⟩ := cells9 hb; have y0 := cells1 hs.1; obtain ⟨p0, p1, p2, p3, p4, p5, p6, p7, p8⟩ := cells9 hs.2; go_simp; refine hK _ _ ?_; clear hK K p0 p1 p2 p3 p4 p5 p6 p7 p8 y0 y1 z0 z1 z2 z3 z4 z5 z6 z7 z8 hs w')
     iterate 2 (refine shT_x rfl rfl ?_; intro K hK w' hs; have y1 := cells1 hi; obtain ⟨z0, z1, z2, z3, z4, z5, z6, z7, z8⟩ := cells9 hb; have y0 := cells1 hs.1; obtain ⟨p0, p1, p2, p3, p4, p5, p6, p7, p8⟩ := cells9 hs.2; go_simp; refine hK _ _ ?_; clear hK K p0 p1 p2 p3 p4 p5 p6 p7 p8 y0 y1 z0 z1 z2 z3 z4 z5 z6 z7 z8 hs w')
     iterate 2 (refine shT_gx (by kernel_rfl) rfl ?_; intro K hK w' hs; have y1 := cells1 hi; obtain ⟨z0, z1, z2, z3, z4, z5, z6, z7, z8⟩ := cells9 hb; have y0 := cells1 hs.1; obtain ⟨p0, p1, p2, p3, p4, p5, p6, p7, p8⟩ := cells9 hs.2; go_simp; refine hK _ _ ?_; clear hK K p0 p1 p2 p3 p4 p5 p6 p7 p8 y0 y1 z0 z1 z2 z3 z4 z5 z6 z7 z8 hs w')
     refine shT_gc (by kernel_rfl) rfl ?_
     intro K hK
     go_simp
     refine hK _ _ ⟨heap_old hi, heap_old hb⟩ ?_
     clear hK K
     refine shT_gc (by kernel_rfl) rfl ?_
     intro K hK
     go_simp
     refine (callsW (has_any id w5.heap.size 1 [4] #[.int .i64 4] 3 (0, 0) ((w5.alloc (.cells #[.int .i64 4] 3))) 1 rfl (by decide) (heap_drew (World.alloc_heap_new w5 _)) rfl)).mono ?_
     rintro e w4 ⟨rfl, hk_w4⟩
     rw [H4.out]
     have hi := hk_w4.same _ _ (heap_drew (heap_old hi)) trivial
     have hb := hk_w4.same _ _ (heap_drew (heap_old hb)) trivial
     refine hK _ _ ⟨hi, hb⟩ ?_
     clear hK K
     refine shT_gx (by kernel_rfl) rfl ?_; intro K hK w' hs; have y1 := cells1 hi; obtain ⟨z0, z1, z2, z3, z4, z5, z6, z7, z8⟩ := cells9 hb; have y0 := cells1 hs.1; obtain ⟨p0, p1, p2, p3, p4, p5, p6, p7, p8⟩ := cells9 hs.2; go_simp; refine hK _ _ ?_; clear hK K p0 p1 p2 p3 p4 p5 p6 p7 p8 y0 y1 z0 z1 z2 z3 z4 z5 z6 z7 z8 hs w'
     iterate 3 (refine shT_skip (by kernel_rfl) ?_)
     refine shT_gx (by kernel_rfl) rfl ?_; intro K hK w' hs; have y1 := cells1 hi; obtain ⟨z0, z1, z2, z3, z4, z5, z6, z7, z8⟩ := cells9 hb; have y0 := cells1 hs.1; obtain ⟨p0, p1, p2, p3, p4, p5, p6, p7, p8⟩ := cells9 hs.2; go_simp; refine hK _ _ ?_; clear hK K p0 p1 p2 p3 p4 p5 p6 p7 p8 y0 y1 z0 z1 z2 z3 z4 z5 z6 z7 z8 hs w'
     iterate 2 (refine shT_x rfl rfl ?_; intro K hK w' hs; have y1 := cells1 hi; obtain ⟨z0, z1, z2, z3, z4, z5, z6, z7, z8⟩ := cells9 hb; have y0 := cells1 hs.1; obtain ⟨p0, p1, p2, p3, p4, p5, p6, p7, p8⟩ := cells9 hs.2; go_simp; refine hK _ _ ?_; clear hK K p0 p1 p2 p3 p4 p5 p6 p7 p8 y0 y1 z0 z1 z2 z3 z4 z5 z6 z7 z8 hs w')
     refine shT_nil ?_
     go_wp2
     go_ret
     exact ⟨by rw [HR.out]; simp [*], smK⟩
    ·go_enter Tryz.func51, Tryz.ntmps51
     go_wp2_with (first
      | (go_at_call 90; refine (widen_any h.u h.w _ (by omega)).mono ?_; rintro e w1 ⟨rfl, hk1⟩; rw [HX.out]; have hb := hk1.same (w.heap.size + 1) _ (show _ = some (.cells #[.int .i64 h.kind, .bool h.b, .bool h.d.neg, .string h.d.digits, .int .i64 h.d.exp, .int .u64 h.u, .int .i64 h.w, .string h.s, .slice a l.length cap] 27 (0, 0)) from (by repeat (first | with_reducible exact heap_new' (by simp) | with_reducible refine heap_old ?_ | with_reducible refine heap_drew ?_))) trivial; obtain ⟨n0, n1, n2, n3, n4, n5, n6, n7, n8⟩ := cells9 hb; have hi := hk1.same w.heap.size _ (show _ = some (.cells #[.int .i64 id] 56 (0, 0)) from (by repeat (first | with_reducible exact heap_new' (by simp) | with_reducible refine heap_old ?_ | with_reducible refine heap_drew ?_))) trivial; have i0 := cells1 hi))
     have hS0 : w1.heap[w.heap.size]? = some (.cells #[.int .i64 id] 56 (0, 0)) ∧ w1.heap[w.heap.size + 1]? = some (.cells #[.int .i64 h.kind, .bool h.b, .bool h.d.neg, .string h.d.digits, .int .i64 h.d.exp, .int .u64 h.u, .int .i64 h.w, .string h.s, .slice a l.length cap] 27 (0, 0)) := ⟨hi, hb⟩
     refine (wpIn_wide (n := 0)).1 ?_
     refine wpIn_region_shut (n := 0) (fun X => X.heap[w.heap.size]? = some (.cells #[.int .i64 id] 56 (0, 0)) ∧ X.heap[w.heap.size + 1]? = some (.cells #[.int .i64 h.kind, .bool h.b, .bool h.d.neg, .string h.d.digits, .int .i64 h.d.exp, .int .u64 h.u, .int .i64 h.w, .string h.s, .slice a l.length cap] 27 (0, 0))) reads (fun _ => trivial) rfl (by kernel_rfl) (by kernel_rfl) hS0 ?_
     iterate 2 (refine shT_x rfl rfl ?_; intro K hK w' hs; have y1 := cells1 hi; obtain ⟨z0, z1, z2, z3, z4, z5, z6, z7, z8⟩ := cells9 hb; have y0 := cells1 hs.1; obtain ⟨p0, p1, p2, p3, p4, p5, p6, p7, p8⟩ := cells9 hs.2; go_simp; refine hK _ _ ?_; clear hK K p0 p1 p2 p3 p4 p5 p6 p7 p8 y0 y1 z0 z1 z2 z3 z4 z5 z6 z7 z8 hs w')
     refine shT_c rfl rfl ?_
     intro K hK
     go_simp
     refine hK _ _ ⟨heap_old hi, heap_old hb⟩ ?_
     clear hK K
     refine shT_c rfl rfl ?_
     intro K hK
     go_simp
     refine (callsW (has_any id w1.heap.size 1 [2] #[.int .i64 2] 3 (0, 0) ((w1.alloc (.cells #[.int .i64 2] 3)).drew) 1 rfl (by decide) (heap_drew (World.alloc_heap_new w1 _)) rfl)).mono ?_
     rintro e w2 ⟨rfl, hk_w2⟩
     rw [H2.out]
     have hi := hk_w2.same _ _ (heap_drew (heap_old hi)) trivial
     have hb := hk_w2.same _ _ (heap_drew (heap_old hb)) trivial
     refine hK _ _ ⟨hi, hb⟩ ?_
     clear hK K
     refine shT_x rfl rfl ?_; intro K hK w' hs; have y1 := cells1 hi; obtain ⟨z0, z1, z2, z3, z4, z5, z6, z7, z8⟩ := cells9 hb; have y0 := cells1 hs.1; obtain ⟨p0, p1, p2, p3, p4, p5, p6, p7, p8⟩ := cells9 hs.2; go_simp; refine hK _ _ ?_; clear hK K p0 p1 p2 p3 p4 p5 p6 p7 p8 y0 y1 z0 z1 z2 z3 z4 z5 z6 z7 z8 hs w'
     iterate 2 (refine shT_gx (by kernel_rfl) rfl ?_; intro K hK w' hs; have y1 := cells1 hi; obtain ⟨z0, z1, z2, z3, z4, z5, z6, z7, z8⟩ := cells9 hb; have y0 := cells1 hs.1; obtain ⟨p0, p1, p2, p3, p4, p5, p6, p7, p8⟩ := cells9 hs.2; go_simp; refine hK _ _ ?_; clear hK K p0 p1 p2 p3 p4 p5 p6 p7 p8 y0 y1 z0 z1 z2 z3 z4 z5 z6 z7 z8 hs w')
     refine shT_gc (by kernel_rfl) rfl ?_
     intro K hK
     go_simp
     refine hK _ _ ⟨heap_old hi, heap_old hb⟩ ?_
     clear hK K
     refine shT_gc (by kernel_rfl) rfl ?_
     intro K hK
     go_simp
     refine (callsW (has_any id w2.heap.size 1 [3] #[.int .i64 3] 3 (0, 0) ((w2.alloc (.cells #[.int .i64 3] 3))) 1 rfl (by decide) (heap_drew (World.alloc_heap_new w2 _)) rfl)).mono ?_
     rintro e w3 ⟨rfl, hk_w3⟩
     rw [H3.out]
     have hi := hk_w3.same _ _ (heap_drew (heap_old hi)) trivial
     have hb := hk_w3.same _ _ (heap_drew (heap_old hb)) trivial
     refine hK _ _ ⟨hi, hb⟩ ?_
     clear hK K
     iterate 2 (refine shT_gx (by kernel_rfl) rfl ?_; intro K hK w' hs; have y1 := cells1 hi; obtain ⟨z0, z1, z2, z3, z4, z5, z6, z7, z8⟩ := cells9 hb; have y0 := cells1 hs.1; obtain ⟨p0, p1, p2, p3, p4, p5, p6, p7, p8⟩ := cells9 hs.2; go_simp; refine hK _ _ ?_; clear hK K p0 p1 p2 p3 p4 p5 p6 p7 p8 y0 y1 z0 z1 z2 z3 z4 z5 z6 z7 z8 hs w')
     refine shT_gc (by kernel_rfl) rfl ?_
     intro K hK
     go_simp
     refine (callsW (least_any x.1 _ hx1)).mono ?_
     rintro e w5 ⟨rfl, hk_w5⟩
     have hi := hk_w5.same _ _ hi trivial
     have hb := hk_w5.same _ _ hb trivial
     refine hK _ _ ⟨hi, hb⟩ ?_
     clear hK K
     iterate 4 (refine shT_gx (by kernel_rfl) rfl ?_; intro K hK w' hs; have y1 := cells1 hi; obtain ⟨z0, z1, z2, z3, z4, z5, z6, z7, z8⟩ := cells9 hb; have y0 := cells1 hs.1; obtain ⟨p0, p1, p2, p3, p4, p5, p6, p7, p8⟩ := cells9 hs.2; go_simp; refine hK _ _ ?_; clear hK K p0 p1 p2 p3 p4 p5 p6 p7 p8 y0 y1 z0 z1 z2 z3 z4 z5 z6 z7 z8 hs w')
     iterate 2 (refine shT_x rfl rfl ?_; intro K hK w' hs; have y1 := cells1 hi; obtain ⟨z0, z1, z2, z3, z4, z5, z6, z7, z8⟩ := cells9 hb; have y0 := cells1 hs.1; obtain ⟨p0, p1, p2, p3, p4, p5, p6, p7, p8⟩ := cells9 hs.2; go_simp; refine hK _ _ ?_; clear hK K p0 p1 p2 p3 p4 p5 p6 p7 p8 y0 y1 z0 z1 z2 z3 z4 z5 z6 z7 z8 hs w')
     iterate 2 (refine shT_gx (by kernel_rfl) rfl ?_; intro K hK w' hs; have y1 := cells1 hi; obtain ⟨z0, z1, z2, z3, z4, z5, z6, z7, z8⟩ := cells9 hb; have y0 := cells1 hs.1; obtain ⟨p0, p1, p2, p3, p4, p5, p6, p7, p8⟩ := cells9 hs.2; go_simp; refine hK _ _ ?_; clear hK K p0 p1 p2 p3 p4 p5 p6 p7 p8 y0 y1 z0 z1 z2 z3 z4 z5 z6 z7 z8 hs w')
     refine shT_gc (by kernel_rfl) rfl ?_
     intro K hK
     go_simp
     refine hK _ _ ⟨heap_old hi, heap_old hb⟩ ?_
     clear hK K
     refine shT_gc (by kernel_rfl) rfl ?_
     intro K hK
     go_simp
     refine (callsW (has_any id w5.heap.size 1 [4] #[.int .i64 4] 3 (0, 0) ((w5.alloc (.cells #[.int .i64 4] 3))) 1 rfl (by decide) (heap_drew (World.alloc_heap_new w5 _)) rfl)).mono ?_
     rintro e w4 ⟨rfl, hk_w4⟩
     rw [H4.out]
     have hi := hk_w4.same _ _ (heap_drew (heap_old hi)) trivial
     have hb := hk_w4.same _ _ (heap_drew (heap_old hb)) trivial
     refine hK _ _ ⟨hi, hb⟩ ?_
     clear hK K
     iterate 5 (refine shT_gx (by kernel_rfl) rfl ?_; intro K hK w' hs; have y1 := cells1 hi; obtain ⟨z0, z1, z2, z3, z4, z5, z6, z7, z8⟩ := cells9 hb; have y0 := cells1 hs.1; obtain ⟨p0, p1, p2, p3, p4, p5, p6, p7, p8⟩ := cells9 hs.2; go_simp; refine hK _ _ ?_; clear hK K p0 p1 p2 p3 p4 p5 p6 p7 p8 y0 y1 z0 z1 z2 z3 z4 z5 z6 z7 z8 hs w')
     iterate 2 (refine shT_x rfl rfl ?_; intro K hK w' hs; have y1 := cells1 hi; obtain ⟨z0, z1, z2, z3, z4, z5, z6, z7, z8⟩ := cells9 hb; have y0 := cells1 hs.1; obtain ⟨p0, p1, p2, p3, p4, p5, p6, p7, p8⟩ := cells9 hs.2; go_simp; refine hK _ _ ?_; clear hK K p0 p1 p2 p3 p4 p5 p6 p7 p8 y0 y1 z0 z1 z2 z3 z4 z5 z6 z7 z8 hs w')
     refine shT_nil ?_
     go_wp2
     go_ret
     exact ⟨by rw [HR.out]; simp [*], smK⟩
   ·go_enter Tryz.func51, Tryz.ntmps51
    go_wp2_with (first
     | (go_at_call 90; refine (widen_any h.u h.w _ (by omega)).mono ?_; rintro e w1 ⟨rfl, hk1⟩; rw [HX.out]; have hb := hk1.same (w.heap.size + 1) _ (show _ = some (.cells #[.int .i64 h.kind, .bool h.b, .bool h.d.neg, .string h.d.digits, .int .i64 h.d.exp, .int .u64 h.u, .int .i64 h.w, .string h.s, .slice a l.length cap] 27 (0, 0)) from (by repeat (first | with_reducible exact heap_new' (by simp) | with_reducible refine heap_old ?_ | with_reducible refine heap_drew ?_))) trivial; obtain ⟨n0, n1, n2, n3, n4, n5, n6, n7, n8⟩ := cells9 hb; have hi := hk1.same w.heap.size _ (show _ = some (.cells #[.int .i64 id] 56 (0, 0)) from (by repeat (first | with_reducible exact heap_new' (by simp) | with_reducible refine heap_old ?_ | with_reducible refine heap_drew ?_))) trivial; have i0 := cells1 hi))
    have hS0 : w1.heap[w.heap.size]? = some (.cells #[.int .i64 id] 56 (0, 0)) ∧ w1.heap[w.heap.size + 1]? = some (.cells #[.int .i64 h.kind, .bool h.b, .bool h.d.neg, .string h.d.digits, .int .i64 h.d.exp, .int .u64 h.u, .int .i64 h.w, .string h.s, .slice a l.length cap] 27 (0, 0)) := ⟨hi, hb⟩
    refine (wpIn_wide (n := 0)).1 ?_
    refine wpIn_region_shut (n := 0) (fun X => X.heap[w.heap.size]? = some (.cells #[.int .i64 id] 56 (0, 0)) ∧ X.heap[w.heap.size + 1]? = some (.cells #[.int .i64 h.kind, .bool h.b, .bool h.d.neg, .string h.d.digits, .int .i64 h.d.exp, .int .u64 h.u, .int .i64 h.w, .string h.s, .slice a l.length cap] 27 (0, 0))) reads (fun _ => trivial) rfl (by kernel_rfl) (by kernel_rfl) hS0 ?_
    iterate 2 (refine shT_x rfl rfl ?_; intro K hK w' hs; have y1 := cells1 hi; obtain ⟨z0, z1, z2, z3, z4, z5, z6, z7, z8⟩ := cells9 hb; have y0 := cells1 hs.1; obtain ⟨p0, p1, p2, p3, p4, p5, p6, p7, p8⟩ := cells9 hs.2; go_simp; refine hK _ _ ?_; clear hK K p0 p1 p2 p3 p4 p5 p6 p7 p8 y0 y1 z0 z1 z2 z3 z4 z5 z6 z7 z8 hs w')
    refine shT_c rfl rfl ?_
    intro K hK
    go_simp
    refine hK _ _ ⟨heap_old hi, heap_old hb⟩ ?_
    clear hK K
    refine shT_c rfl rfl ?_
    intro K hK
    go_simp
    refine (callsW (has_any id w1.heap.size 1 [2] #[.int .i64 2] 3 (0, 0) ((w1.alloc (.cells #[.int .i64 2] 3)).drew) 1 rfl (by decide) (heap_drew (World.alloc_heap_new w1 _)) rfl)).mono ?_
    rintro e w2 ⟨rfl, hk_w2⟩
    rw [H2.out]
    have hi := hk_w2.same _ _ (heap_drew (heap_old hi)) trivial
    have hb := hk_w2.same _ _ (heap_drew (heap_old hb)) trivial
    refine hK _ _ ⟨hi, hb⟩ ?_
    clear hK K
    refine shT_x rfl rfl ?_; intro K hK w' hs; have y1 := cells1 hi; obtain ⟨z0, z1, z2, z3, z4, z5, z6, z7, z8⟩ := cells9 hb; have y0 := cells1 hs.1; obtain ⟨p0, p1, p2, p3, p4, p5, p6, p7, p8⟩ := cells9 hs.2; go_simp; refine hK _ _ ?_; clear hK K p0 p1 p2 p3 p4 p5 p6 p7 p8 y0 y1 z0 z1 z2 z3 z4 z5 z6 z7 z8 hs w'
    iterate 2 (refine shT_gx (by kernel_rfl) rfl ?_; intro K hK w' hs; have y1 := cells1 hi; obtain ⟨z0, z1, z2, z3, z4, z5, z6, z7, z8⟩ := cells9 hb; have y0 := cells1 hs.1; obtain ⟨p0, p1, p2, p3, p4, p5, p6, p7, p8⟩ := cells9 hs.2; go_simp; refine hK _ _ ?_; clear hK K p0 p1 p2 p3 p4 p5 p6 p7 p8 y0 y1 z0 z1 z2 z3 z4 z5 z6 z7 z8 hs w')
    refine shT_gc (by kernel_rfl) rfl ?_
    intro K hK
    go_simp
    refine hK _ _ ⟨heap_old hi, heap_old hb⟩ ?_
    clear hK K
    refine shT_gc (by kernel_rfl) rfl ?_
    intro K hK
    go_simp
    refine (callsW (has_any id w2.heap.size 1 [3] #[.int .i64 3] 3 (0, 0) ((w2.alloc (.cells #[.int .i64 3] 3))) 1 rfl (by decide) (heap_drew (World.alloc_heap_new w2 _)) rfl)).mono ?_
    rintro e w3 ⟨rfl, hk_w3⟩
    rw [H3.out]
    have hi := hk_w3.same _ _ (heap_drew (heap_old hi)) trivial
    have hb := hk_w3.same _ _ (heap_drew (heap_old hb)) trivial
    refine hK _ _ ⟨hi, hb⟩ ?_
    clear hK K
    iterate 2 (refine shT_gx (by kernel_rfl) rfl ?_; intro K hK w' hs; have y1 := cells1 hi; obtain ⟨z0, z1, z2, z3, z4, z5, z6, z7, z8⟩ := cells9 hb; have y0 := cells1 hs.1; obtain ⟨p0, p1, p2, p3, p4, p5, p6, p7, p8⟩ := cells9 hs.2; go_simp; refine hK _ _ ?_; clear hK K p0 p1 p2 p3 p4 p5 p6 p7 p8 y0 y1 z0 z1 z2 z3 z4 z5 z6 z7 z8 hs w')
    refine shT_gc (by kernel_rfl) rfl ?_
    intro K hK
    go_simp
    refine (callsW (least_any x.1 _ hx1)).mono ?_
    rintro e w5 ⟨rfl, hk_w5⟩
    have hi := hk_w5.same _ _ hi trivial
    have hb := hk_w5.same _ _ hb trivial
    refine hK _ _ ⟨hi, hb⟩ ?_
    clear hK K
    iterate 4 (refine shT_gx (by kernel_rfl) rfl ?_; intro K hK w' hs; have y1 := cells1 hi; obtain ⟨z0, z1, z2, z3, z4, z5, z6, z7, z8⟩ := cells9 hb; have y0 := cells1 hs.1; obtain ⟨p0, p1, p2, p3, p4, p5, p6, p7, p8⟩ := cells9 hs.2; go_simp; refine hK _ _ ?_; clear hK K p0 p1 p2 p3 p4 p5 p6 p7 p8 y0 y1 z0 z1 z2 z3 z4 z5 z6 z7 z8 hs w')
    iterate 2 (refine shT_x rfl rfl ?_; intro K hK w' hs; have y1 := cells1 hi; obtain ⟨z0, z1, z2, z3, z4, z5, z6, z7, z8⟩ := cells9 hb; have y0 := cells1 hs.1; obtain ⟨p0, p1, p2, p3, p4, p5, p6, p7, p8⟩ := cells9 hs.2; go_simp; refine hK _ _ ?_; clear hK K p0 p1 p2 p3 p4 p5 p6 p7 p8 y0 y1 z0 z1 z2 z3 z4 z5 z6 z7 z8 hs w')
    iterate 9 (refine shT_skip (by kernel_rfl) ?_)
    iterate 2 (refine shT_x rfl rfl ?_; intro K hK w' hs; have y1 := cells1 hi; obtain ⟨z0, z1, z2, z3, z4, z5, z6, z7, z8⟩ := cells9 hb; have y0 := cells1 hs.1; obtain ⟨p0, p1, p2, p3, p4, p5, p6, p7, p8⟩ := cells9 hs.2; go_simp; refine hK _ _ ?_; clear hK K p0 p1 p2 p3 p4 p5 p6 p7 p8 y0 y1 z0 z1 z2 z3 z4 z5 z6 z7 z8 hs w')
    refine shT_nil ?_
    go_wp2
    go_ret
    exact ⟨by rw [HR.out]; simp [*], smK⟩
 ·go_enter Tryz.func51, Tryz.ntmps51
  go_wp2_with (first
   | (go_at_call 90; refine (widen_any h.u h.w _ (by omega)).mono ?_; rintro e w1 ⟨rfl, hk1⟩; rw [HX.out]; have hb := hk1.same (w.heap.size + 1) _ (show _ = some (.cells #[.int .i64 h.kind, .bool h.b, .bool h.d.neg, .string h.d.digits, .int .i64 h.d.exp, .int .u64 h.u, .int .i64 h.w, .string h.s, .slice a l.length cap] 27 (0, 0)) from (by repeat (first | with_reducible exact heap_new' (by simp) | with_reducible refine heap_old ?_ | with_reducible refine heap_drew ?_))) trivial; obtain ⟨n0, n1, n2, n3, n4, n5, n6, n7, n8⟩ := cells9 hb; have hi := hk1.same w.heap.size _ (show _ = some (.cells #[.int .i64 id] 56 (0, 0)) from (by repeat (first | with_reducible exact heap_new' (by simp) | with_reducible refine heap_old ?_ | with_reducible refine heap_drew ?_))) trivial; have i0 := cells1 hi))
  have hS0 : w1.heap[w.heap.size]? = some (.cells #[.int .i64 id] 56 (0, 0)) ∧ w1.heap[w.heap.size + 1]? = some (.cells #[.int .i64 h.kind, .bool h.b, .bool h.d.neg, .string h.d.digits, .int .i64 h.d.exp, .int .u64 h.u, .int .i64 h.w, .string h.s, .slice a l.length cap] 27 (0, 0)) := ⟨hi, hb⟩
  refine (wpIn_wide (n := 0)).1 ?_
  refine wpIn_region_shut (n := 0) (fun X => X.heap[w.heap.size]? = some (.cells #[.int .i64 id] 56 (0, 0)) ∧ X.heap[w.heap.size + 1]? = some (.cells #[.int .i64 h.kind, .bool h.b, .bool h.d.neg, .string h.d.digits, .int .i64 h.d.exp, .int .u64 h.u, .int .i64 h.w, .string h.s, .slice a l.length cap] 27 (0, 0))) reads (fun _ => trivial) rfl (by kernel_rfl) (by kernel_rfl) hS0 ?_
  iterate 2 (refine shT_x rfl rfl ?_; intro K hK w' hs; have y1 := cells1 hi; obtain ⟨z0, z1, z2, z3, z4, z5, z6, z7, z8⟩ := cells9 hb; have y0 := cells1 hs.1; obtain ⟨p0, p1, p2, p3, p4, p5, p6, p7, p8⟩ := cells9 hs.2; go_simp; refine hK _ _ ?_; clear hK K p0 p1 p2 p3 p4 p5 p6 p7 p8 y0 y1 z0 z1 z2 z3 z4 z5 z6 z7 z8 hs w')
  refine shT_c rfl rfl ?_
  intro K hK
  go_simp
  refine hK _ _ ⟨heap_old hi, heap_old hb⟩ ?_
  clear hK K
  refine shT_c rfl rfl ?_
  intro K hK
  go_simp
  refine (callsW (has_any id w1.heap.size 1 [2] #[.int .i64 2] 3 (0, 0) ((w1.alloc (.cells #[.int .i64 2] 3)).drew) 1 rfl (by decide) (heap_drew (World.alloc_heap_new w1 _)) rfl)).mono ?_
  rintro e w2 ⟨rfl, hk_w2⟩
  rw [H2.out]
  have hi := hk_w2.same _ _ (heap_drew (heap_old hi)) trivial
  have hb := hk_w2.same _ _ (heap_drew (heap_old hb)) trivial
  refine hK _ _ ⟨hi, hb⟩ ?_
  clear hK K
  refine shT_x rfl rfl ?_; intro K hK w' hs; have y1 := cells1 hi; obtain ⟨z0, z1, z2, z3, z4, z5, z6, z7, z8⟩ := cells9 hb; have y0 := cells1 hs.1; obtain ⟨p0, p1, p2, p3, p4, p5, p6, p7, p8⟩ := cells9 hs.2; go_simp; refine hK _ _ ?_; clear hK K p0 p1 p2 p3 p4 p5 p6 p7 p8 y0 y1 z0 z1 z2 z3 z4 z5 z6 z7 z8 hs w'
  iterate 11 (refine shT_skip (by kernel_rfl) ?_)
  iterate 2 (refine shT_x rfl rfl ?_; intro K hK w' hs; have y1 := cells1 hi; obtain ⟨z0, z1, z2, z3, z4, z5, z6, z7, z8⟩ := cells9 hb; have y0 := cells1 hs.1; obtain ⟨p0, p1, p2, p3, p4, p5, p6, p7, p8⟩ := cells9 hs.2; go_simp; refine hK _ _ ?_; clear hK K p0 p1 p2 p3 p4 p5 p6 p7 p8 y0 y1 z0 z1 z2 z3 z4 z5 z6 z7 z8 hs w')
  iterate 9 (refine shT_skip (by kernel_rfl) ?_)
  iterate 2 (refine shT_x rfl rfl ?_; intro K hK w' hs; have y1 := cells1 hi; obtain ⟨z0, z1, z2, z3, z4, z5, z6, z7, z8⟩ := cells9 hb; have y0 := cells1 hs.1; obtain ⟨p0, p1, p2, p3, p4, p5, p6, p7, p8⟩ := cells9 hs.2; go_simp; refine hK _ _ ?_; clear hK K p0 p1 p2 p3 p4 p5 p6 p7 p8 y0 y1 z0 z1 z2 z3 z4 z5 z6 z7 z8 hs w')
  refine shT_nil ?_
  go_wp2
  go_ret
  exact ⟨by rw [HR.out]; simp [*], smK⟩
end Go.Tm
namespace Go.Tm
open Go.RowKit Go.Proofs
theorem RepS.ok_mem {S : Nat → Prop} {w : World} {l : List Tree} {lv : Value} (h : RepS S w l lv) {x : Tree} (hx : x ∈ l) : x.hd.ok := by
 obtain ⟨_, a, cap, _, _, hi⟩ := h.shape
 obtain ⟨k, hk, rfl⟩ := List.getElem_of_mem hx
 obtain ⟨b, off, lv', _, _, _, _, hok, _⟩ := hi k hk
 exact hok
set_option maxRecDepth 100000 in
set_option maxHeartbeats 16000000 in
theorem fits_k3 {N : Nat} {E : Errs} (id : Int) (h : Hd) (l : List Tree) (lv : Value) (w : World) (hG : Glob N E w) (ho : h.ok) (hl : RepS AnyB w l lv) (hk : h.kind = 3) :
  Calls Tryz.prog 51 #[.agg #[.int .i64 id], nodeV h lv] w fun e w' => e = .returned (.bool (fitsT id (.node h l))) ∧ Same w w' := by
 obtain ⟨a, cap, rfl⟩ := hl.is_slice
 have hlen := hl.shape.1
 have hoo := ho
 obtain ⟨ho1, ho2, ho3, ho4, ho5, ho6⟩ := ho
 obtain ⟨t1, t2, t3, ht⟩ : ∃ t1 t2 t3, toInt h.d = (t1, t2, t3) := ⟨_, _, _, rfl⟩
 have HT := Lib.hid ht
 obtain ⟨le, hle⟩ : ∃ r, decide ((t2 : Int) ≤ 9223372036854775808) = r := ⟨_, rfl⟩
 obtain ⟨cJ, gJ⟩ : ∃ r, ([1] : List Int).contains id = r := ⟨_, rfl⟩
 obtain ⟨cCD, gCD⟩ : ∃ r, ([2, 3] : List Int).contains id = r := ⟨_, rfl⟩
 obtain ⟨cM, gM⟩ : ∃ r, ([4] : List Int).contains id = r := ⟨_, rfl⟩
 have h4 : (h.kind == 4) = false := by rw [hk]; rfl
 have h3 : (h.kind == 3) = true := by rw [hk]; rfl
 have h6 : (h.kind == 6) = false := by rw [hk]; rfl
 have h9 : (h.kind == 9) = false := by rw [hk]; rfl
 have h10 : (h.kind == 10) = false := by rw [hk]; rfl
 have h11 : (h.kind == 11) = false := by rw [hk]; rfl
 have h8 : (h.kind == 8) = false := by rw [hk]; rfl
 have hres : fitsT id (.node h l) = (cJ || (cCD && t3) || (cM && t3 && (!t1 || le))) := by
  rw [← gJ, ← gCD, ← gM, ← hle, has1, has2, has1]
  have e1 : decide ((t2 : Int) ≤ 9223372036854775808) = decide (t2 ≤ 9223372036854775808) := dec_nat t2 9223372036854775808
  rw [e1]
  unfold fitsT
  simp [Tree.hd_node, hk, HT.out]
 have HR := Lib.hid hres
 have HJ := Lib.hid gJ
 have HCD := Lib.hid gCD
 have HM := Lib.hid gM
 clear hres gJ gCD gM ht hk
 cases cJ
 ·cases cCD
  ·go_enter Tryz.func51, Tryz.ntmps51
   go_wp2_with (first
    | (go_at_call 93; refine (toInt_any h.d _ (hG.same smK) (by omega)).mono ?_; rintro e w1 ⟨rfl, hkL⟩; rw [HT.out]; have hi := hkL.same w.heap.size _ (show _ = some (.cells #[.int .i64 id] 56 (0, 0)) from (by repeat (first | assumption | exact heap_new' (by simp) | refine heap_old ?_ | refine heap_drew ?_))) trivial; have i0 := cells1 hi; have hb := hkL.same (w.heap.size + 1) _ (show _ = some (.cells #[.int .i64 h.kind, .bool h.b, .bool h.d.neg, .string h.d.digits, .int .i64 h.d.exp, .int .u64 h.u, .int .i64 h.w, .string h.s, .slice a l.length cap] 27 (0, 0)) from (by repeat (first | assumption | exact heap_new' (by simp) | refine heap_old ?_ | refine heap_drew ?_))) trivial; obtain ⟨n0, n1, n2, n3, n4, n5, n6, n7, n8⟩ := cells9 hb)
    | (go_at_call 91; fail))
   refine (has_any id _ _ [1] _ _ _ _ _ rfl (by decide) (by repeat (first | with_reducible exact heap_new' (by simp) | with_reducible refine heap_old ?_ | with_reducible refine heap_drew ?_)) (by rfl)).mono ?_
   rintro e w2 ⟨rfl, hkL⟩
   rw [HJ.out]
   have hi := hkL.same w.heap.size _ (show _ = some (.cells #[.int .i64 id] 56 (0, 0)) from (by repeat (first | assumption | exact heap_new' (by simp) | refine heap_old ?_ | refine heap_drew ?_))) trivial; have i0 := cells1 hi; have hb := hkL.same (w.heap.size + 1) _ (show _ = some (.cells #[.int .i64 h.kind, .bool h.b, .bool h.d.neg, .string h.d.digits, .int .i64 h.d.exp, .int .u64 h.u, .int .i64 h.w, .string h.s, .slice a l.length cap] 27 (0, 0)) from (by repeat (first | assumption | exact heap_new' (by simp) | refine heap_old ?_ | refine heap_drew ?_))) trivial; obtain ⟨n0, n1, n2, n3, n4, n5, n6, n7, n8⟩ := cells9 hb
   go_wp2_with (go_at_call 91; fail)
   refine (has_any id _ _ [2, 3] _ _ _ _ _ rfl (by decide) (by repeat (first | with_reducible exact heap_new' (by simp) | with_reducible refine heap_old ?_ | with_reducible refine heap_drew ?_)) (by rfl)).mono ?_
   rintro e w2 ⟨rfl, hkL⟩
   rw [HCD.out]
   have hi := hkL.same w.heap.size _ (show _ = some (.cells #[.int .i64 id] 56 (0, 0)) from (by repeat (first | assumption | exact heap_new' (by simp) | refine heap_old ?_ | refine heap_drew ?_))) trivial; have i0 := cells1 hi; have hb := hkL.same (w.heap.size + 1) _ (show _ = some (.cells #[.int .i64 h.kind, .bool h.b, .bool h.d.neg, .string h.d.digits, .int .i64 h.d.exp, .int .u64 h.u, .int .i64 h.w, .string h.s, .slice a l.length cap] 27 (0, 0)) from (by repeat (first | assumption | exact heap_new' (by simp) | refine heap_old ?_ | refine heap_drew ?_))) trivial; obtain ⟨n0, n1, n2, n3, n4, n5, n6, n7, n8⟩ := cells9 hb
   go_wp2_with (go_at_call 91; fail)
   refine (has_any id _ _ [4] _ _ _ _ _ rfl (by decide) (by repeat (first | with_reducible exact heap_new' (by simp) | with_reducible refine heap_old ?_ | with_reducible refine heap_drew ?_)) (by rfl)).mono ?_
   rintro e w2 ⟨rfl, hkL⟩
   rw [HM.out]
   have hi := hkL.same w.heap.size _ (show _ = some (.cells #[.int .i64 id] 56 (0, 0)) from (by repeat (first | assumption | exact heap_new' (by simp) | refine heap_old ?_ | refine heap_drew ?_))) trivial; have i0 := cells1 hi; have hb := hkL.same (w.heap.size + 1) _ (show _ = some (.cells #[.int .i64 h.kind, .bool h.b, .bool h.d.neg, .string h.d.digits, .int .i64 h.d.exp, .int .u64 h.u, .int .i64 h.w, .string h.s, .slice a l.length cap] 27 (0, 0)) from (by repeat (first | assumption | exact heap_new' (by simp) | refine heap_old ?_ | refine heap_drew ?_))) trivial; obtain ⟨n0, n1, n2, n3, n4, n5, n6, n7, n8⟩ := cells9 hb
   go_wp2
   all_goals go_ret
   all_goals exact ⟨by rw [HR.out]; simp [*], smK⟩
  ·cases t3
   ·go_enter Tryz.func51, Tryz.ntmps51
    go_wp2_with (first
     | (go_at_call 93; refine (toInt_any h.d _ (hG.same smK) (by omega)).mono ?_; rintro e w1 ⟨rfl, hkL⟩; rw [HT.out]; have hi := hkL.same w.heap.size _ (show _ = some (.cells #[.int .i64 id] 56 (0, 0)) from (by repeat (first | assumption | exact heap_new' (by simp) | refine heap_old ?_ | refine heap_drew ?_))) trivial; have i0 := cells1 hi; have hb := hkL.same (w.heap.size + 1) _ (show _ = some (.cells #[.int .i64 h.kind, .bool h.b, .bool h.d.neg, .string h.d.digits, .int .i64 h.d.exp, .int .u64 h.u, .int .i64 h.w, .string h.s, .slice a l.length cap] 27 (0, 0)) from (by repeat (first | assumption | exact heap_new' (by simp) | refine heap_old ?_ | refine heap_drew ?_))) trivial; obtain ⟨n0, n1, n2, n3, n4, n5, n6, n7, n8⟩ := cells9 hb)
     | (go_at_call 91; fail))
    refine (has_any id _ _ [1] _ _ _ _ _ rfl (by decide) (by repeat (first | with_reducible exact heap_new' (by simp) | with_reducible refine heap_old ?_ | with_reducible refine heap_drew ?_)) (by rfl)).mono ?_
    rintro e w2 ⟨rfl, hkL⟩
    rw [HJ.out]
    have hi := hkL.same w.heap.size _ (show _ = some (.cells #[.int .i64 id] 56 (0, 0)) from (by repeat (first | assumption | exact heap_new' (by simp) | refine heap_old ?_ | refine heap_drew ?_))) trivial; have i0 := cells1 hi; have hb := hkL.same (w.heap.size + 1) _ (show _ = some (.cells #[.int .i64 h.kind, .bool h.b, .bool h.d.neg, .string h.d.digits, .int .i64 h.d.exp, .int .u64 h.u, .int .i64 h.w, .string h.s, .slice a l.length cap] 27 (0, 0)) from (by repeat (first | assumption | exact heap_new' (by simp) | refine heap_old ?_ | refine heap_drew ?_))) trivial; obtain ⟨n0, n1, n2, n3, n4, n5, n6, n7, n8⟩ := cells9 hb
    go_wp2_with (go_at_call 91; fail)
    refine (has_any id _ _ [2, 3] _ _ _ _ _ rfl (by decide) (by repeat (first | with_reducible exact heap_new' (by simp) | with_reducible refine heap_old ?_ | with_reducible refine heap_drew ?_)) (by rfl)).mono ?_
    rintro e w2 ⟨rfl, hkL⟩
    rw [HCD.out]
    have hi := hkL.same w.heap.size _ (show _ = some (.cells #[.int .i64 id] 56 (0, 0)) from (by repeat (first | assumption | exact heap_new' (by simp) | refine heap_old ?_ | refine heap_drew ?_))) trivial; have i0 := cells1 hi; have hb := hkL.same (w.heap.size + 1) _ (show _ = some (.cells #[.int .i64 h.kind, .bool h.b, .bool h.d.neg, .string h.d.digits, .int .i64 h.d.exp, .int .u64 h.u, .int .i64 h.w, .string h.s, .slice a l.length cap] 27 (0, 0)) from (by repeat (first | assumption | exact heap_new' (by simp) | refine heap_old ?_ | refine heap_drew ?_))) trivial; obtain ⟨n0, n1, n2, n3, n4, n5, n6, n7, n8⟩ := cells9 hb
    go_wp2_with (go_at_call 91; fail)
    refine (has_any id _ _ [4] _ _ _ _ _ rfl (by decide) (by repeat (first | with_reducible exact heap_new' (by simp) | with_reducible refine heap_old ?_ | with_reducible refine heap_drew ?_)) (by rfl)).mono ?_
    rintro e w2 ⟨rfl, hkL⟩
    rw [HM.out]
    have hi := hkL.same w.heap.size _ (show _ = some (.cells #[.int .i64 id] 56 (0, 0)) from (by repeat (first | assumption | exact heap_new' (by simp) | refine heap_old ?_ | refine heap_drew ?_))) trivial; have i0 := cells1 hi; have hb := hkL.same (w.heap.size + 1) _ (show _ = some (.cells #[.int .i64 h.kind, .bool h.b, .bool h.d.neg, .string h.d.digits, .int .i64 h.d.exp, .int .u64 h.u, .int .i64 h.w, .string h.s, .slice a l.length cap] 27 (0, 0)) from (by repeat (first | assumption | exact heap_new' (by simp) | refine heap_old ?_ | refine heap_drew ?_))) trivial; obtain ⟨n0, n1, n2, n3, n4, n5, n6, n7, n8⟩ := cells9 hb
    go_wp2
    all_goals go_ret
    all_goals exact ⟨by rw [HR.out]; simp [*], smK⟩
   ·go_enter Tryz.func51, Tryz.ntmps51
    go_wp2_with (first
     | (go_at_call 93; refine (toInt_any h.d _ (hG.same smK) (by omega)).mono ?_; rintro e w1 ⟨rfl, hkL⟩; rw [HT.out]; have hi := hkL.same w.heap.size _ (show _ = some (.cells #[.int .i64 id] 56 (0, 0)) from (by repeat (first | assumption | exact heap_new' (by simp) | refine heap_old ?_ | refine heap_drew ?_))) trivial; have i0 := cells1 hi; have hb := hkL.same (w.heap.size + 1) _ (show _ = some (.cells #[.int .i64 h.kind, .bool h.b, .bool h.d.neg, .string h.d.digits, .int .i64 h.d.exp, .int .u64 h.u, .int .i64 h.w, .string h.s, .slice a l.length cap] 27 (0, 0)) from (by repeat (first | assumption | exact heap_new' (by simp) | refine heap_old ?_ | refine heap_drew ?_))) trivial; obtain ⟨n0, n1, n2, n3, n4, n5, n6, n7, n8⟩ := cells9 hb)
     | (go_at_call 91; fail))
    refine (has_any id _ _ [1] _ _ _ _ _ rfl (by decide) (by repeat (first | with_reducible exact heap_new' (by simp) | with_reducible refine heap_old ?_ | with_reducible refine heap_drew ?_)) (by rfl)).mono ?_
    rintro e w2 ⟨rfl, hkL⟩
    rw [HJ.out]
    have hi := hkL.same w.heap.size _ (show _ = some (.cells #[.int .i64 id] 56 (0, 0)) from (by repeat (first | assumption | exact heap_new' (by simp) | refine heap_old ?_ | refine heap_drew ?_))) trivial; have i0 := cells1 hi; have hb := hkL.same (w.heap.size + 1) _ (show _ = some (.cells #[.int .i64 h.kind, .bool h.b, .bool h.d.neg, .string h.d.digits, .int .i64 h.d.exp, .int .u64 h.u, .int .i64 h.w, .string h.s, .slice a l.length cap] 27 (0, 0)) from (by repeat (first | assumption | exact heap_new' (by simp) | refine heap_old ?_ | refine heap_drew ?_))) trivial; obtain ⟨n0, n1, n2, n3, n4, n5, n6, n7, n8⟩ := cells9 hb
    go_wp2_with (go_at_call 91; fail)
    refine (has_any id _ _ [2, 3] _ _ _ _ _ rfl (by decide) (by repeat (first | with_reducible exact heap_new' (by simp) | with_reducible refine heap_old ?_ | with_reducible refine heap_drew ?_)) (by rfl)).mono ?_
    rintro e w2 ⟨rfl, hkL⟩
    rw [HCD.out]
    have hi := hkL.same w.heap.size _ (show _ = some (.cells #[.int .i64 id] 56 (0, 0)) from (by repeat (first | assumption | exact heap_new' (by simp) | refine heap_old ?_ | refine heap_drew ?_))) trivial; have i0 := cells1 hi; have hb := hkL.same (w.heap.size + 1) _ (show _ = some (.cells #[.int .i64 h.kind, .bool h.b, .bool h.d.neg, .string h.d.digits, .int .i64 h.d.exp, .int .u64 h.u, .int .i64 h.w, .string h.s, .slice a l.length cap] 27 (0, 0)) from (by repeat (first | assumption | exact heap_new' (by simp) | refine heap_old ?_ | refine heap_drew ?_))) trivial; obtain ⟨n0, n1, n2, n3, n4, n5, n6, n7, n8⟩ := cells9 hb
    go_wp2
    all_goals go_ret
    all_goals exact ⟨by rw [HR.out]; simp [*], smK⟩
 ·go_enter Tryz.func51, Tryz.ntmps51
  go_wp2_with (first
   | (go_at_call 93; refine (toInt_any h.d _ (hG.same smK) (by omega)).mono ?_; rintro e w1 ⟨rfl, hkL⟩; rw [HT.out]; have hi := hkL.same w.heap.size _ (show _ = some (.cells #[.int .i64 id] 56 (0, 0)) from (by repeat (first | assumption | exact heap_new' (by simp) | refine heap_old ?_ | refine heap_drew ?_))) trivial; have i0 := cells1 hi; have hb := hkL.same (w.heap.size + 1) _ (show _ = some (.cells #[.int .i64 h.kind, .bool h.b, .bool h.d.neg, .string h.d.digits, .int .i64 h.d.exp, .int .u64 h.u, .int .i64 h.w, .string h.s, .slice a l.length cap] 27 (0, 0)) from (by repeat (first | assumption | exact heap_new' (by simp) | refine heap_old ?_ | refine heap_drew ?_))) trivial; obtain ⟨n0, n1, n2, n3, n4, n5, n6, n7, n8⟩ := cells9 hb)
   | (go_at_call 91; fail))
  refine (has_any id _ _ [1] _ _ _ _ _ rfl (by decide) (by repeat (first | with_reducible exact heap_new' (by simp) | with_reducible refine heap_old ?_ | with_reducible refine heap_drew ?_)) (by rfl)).mono ?_
  rintro e w2 ⟨rfl, hkL⟩
  rw [HJ.out]
  have hi := hkL.same w.heap.size _ (show _ = some (.cells #[.int .i64 id] 56 (0, 0)) from (by repeat (first | assumption | exact heap_new' (by simp) | refine heap_old ?_ | refine heap_drew ?_))) trivial; have i0 := cells1 hi; have hb := hkL.same (w.heap.size + 1) _ (show _ = some (.cells #[.int .i64 h.kind, .bool h.b, .bool h.d.neg, .string h.d.digits, .int .i64 h.d.exp, .int .u64 h.u, .int .i64 h.w, .string h.s, .slice a l.length cap] 27 (0, 0)) from (by repeat (first | assumption | exact heap_new' (by simp) | refine heap_old ?_ | refine heap_drew ?_))) trivial; obtain ⟨n0, n1, n2, n3, n4, n5, n6, n7, n8⟩ := cells9 hb
  go_wp2
  all_goals go_ret
  all_goals exact ⟨by rw [HR.out]; simp [*], smK⟩
set_option maxRecDepth 100000 in
set_option maxHeartbeats 16000000 in
theorem fits_k6 {N : Nat} {E : Errs} (id : Int) (h : Hd) (l : List Tree) (lv : Value) (w : World) (hG : Glob N E w) (ho : h.ok) (hl : RepS AnyB w l lv) (hk : h.kind = 6) :
  Calls Tryz.prog 51 #[.agg #[.int .i64 id], nodeV h lv] w fun e w' => e = .returned (.bool (fitsT id (.node h l))) ∧ Same w w' := by
 obtain ⟨a, cap, rfl⟩ := hl.is_slice
 have hlen := hl.shape.1
 have hoo := ho
 obtain ⟨ho1, ho2, ho3, ho4, ho5, ho6⟩ := ho
 obtain ⟨cT, gT⟩ : ∃ r, ([2, 3, 4] : List Int).contains id = r := ⟨_, rfl⟩
 have h4 : (h.kind == 4) = false := by rw [hk]; rfl
 have h3 : (h.kind == 3) = false := by rw [hk]; rfl
 have h6 : (h.kind == 6) = true := by rw [hk]; rfl
 have h9 : (h.kind == 9) = false := by rw [hk]; rfl
 have h10 : (h.kind == 10) = false := by rw [hk]; rfl
 have h11 : (h.kind == 11) = false := by rw [hk]; rfl
 have h8 : (h.kind == 8) = false := by rw [hk]; rfl
 have hres : fitsT id (.node h l) = (cT) := by
  rw [← gT, has3]
  unfold fitsT
  simp [Tree.hd_node, hk]
 have HR := Lib.hid hres
 have HT := Lib.hid gT
 clear hres gT hk
 go_enter Tryz.func51, Tryz.ntmps51
 go_wp2_with (first
  | (go_at_call 91; refine (has_any id _ _ [2, 3, 4] _ _ _ _ _ rfl (by decide) (by repeat (first | with_reducible exact heap_new' (by simp) | with_reducible refine heap_old ?_ | with_reducible refine heap_drew ?_)) (by rfl)).mono ?_; rintro e w2 ⟨rfl, hkL⟩; rw [HT.out]; have hi := hkL.same w.heap.size _ (show _ = some (.cells #[.int .i64 id] 56 (0, 0)) from (by repeat (first | assumption | exact heap_new' (by simp) | refine heap_old ?_ | refine heap_drew ?_))) trivial; have i0 := cells1 hi; have hb := hkL.same (w.heap.size + 1) _ (show _ = some (.cells #[.int .i64 h.kind, .bool h.b, .bool h.d.neg, .string h.d.digits, .int .i64 h.d.exp, .int .u64 h.u, .int .i64 h.w, .string h.s, .slice a l.length cap] 27 (0, 0)) from (by repeat (first | assumption | exact heap_new' (by simp) | refine heap_old ?_ | refine heap_drew ?_))) trivial; obtain ⟨n0, n1, n2, n3, n4, n5, n6, n7, n8⟩ := cells9 hb))
 all_goals go_ret
 all_goals exact ⟨by rw [HR.out]; simp [*], smK⟩
set_option maxRecDepth 100000 in
set_option maxHeartbeats 16000000 in
theorem fits_k9 {N : Nat} {E : Errs} (id : Int) (h : Hd) (l : List Tree) (lv : Value) (w : World) (hG : Glob N E w) (ho : h.ok) (hl : RepS AnyB w l lv) (hk : h.kind = 9) :
  Calls Tryz.prog 51 #[.agg #[.int .i64 id], nodeV h lv] w fun e w' => e = .returned (.bool (fitsT id (.node h l))) ∧ Same w w' := by
 obtain ⟨a, cap, rfl⟩ := hl.is_slice
 have hlen := hl.shape.1
 have hoo := ho
 obtain ⟨ho1, ho2, ho3, ho4, ho5, ho6⟩ := ho
 obtain ⟨cCD, gCD⟩ : ∃ r, ([2, 3] : List Int).contains id = r := ⟨_, rfl⟩
 have h4 : (h.kind == 4) = false := by rw [hk]; rfl
 have h3 : (h.kind == 3) = false := by rw [hk]; rfl
 have h6 : (h.kind == 6) = false := by rw [hk]; rfl
 have h9 : (h.kind == 9) = true := by rw [hk]; rfl
 have h10 : (h.kind == 10) = false := by rw [hk]; rfl
 have h11 : (h.kind == 11) = false := by rw [hk]; rfl
 have h8 : (h.kind == 8) = false := by rw [hk]; rfl
 have hres : fitsT id (.node h l) = (cCD) := by
  rw [← gCD, has2]
  unfold fitsT
  simp [Tree.hd_node, hk]
 have HR := Lib.hid hres
 have HCD := Lib.hid gCD
 clear hres gCD hk
 go_enter Tryz.func51, Tryz.ntmps51
 go_wp2_with (first
  | (go_at_call 91; refine (has_any id _ _ [2, 3] _ _ _ _ _ rfl (by decide) (by repeat (first | with_reducible exact heap_new' (by simp) | with_reducible refine heap_old ?_ | with_reducible refine heap_drew ?_)) (by rfl)).mono ?_; rintro e w2 ⟨rfl, hkL⟩; rw [HCD.out]; have hi := hkL.same w.heap.size _ (show _ = some (.cells #[.int .i64 id] 56 (0, 0)) from (by repeat (first | assumption | exact heap_new' (by simp) | refine heap_old ?_ | refine heap_drew ?_))) trivial; have i0 := cells1 hi; have hb := hkL.same (w.heap.size + 1) _ (show _ = some (.cells #[.int .i64 h.kind, .bool h.b, .bool h.d.neg, .string h.d.digits, .int .i64 h.d.exp, .int .u64 h.u, .int .i64 h.w, .string h.s, .slice a l.length cap] 27 (0, 0)) from (by repeat (first | assumption | exact heap_new' (by simp) | refine heap_old ?_ | refine heap_drew ?_))) trivial; obtain ⟨n0, n1, n2, n3, n4, n5, n6, n7, n8⟩ := cells9 hb))
 all_goals go_ret
 all_goals exact ⟨by rw [HR.out]; simp [*], smK⟩
set_option maxRecDepth 100000 in
set_option maxHeartbeats 16000000 in
theorem fits_k10 {N : Nat} {E : Errs} (id : Int) (h : Hd) (l : List Tree) (lv : Value) (w : World) (hG : Glob N E w) (ho : h.ok) (hl : RepS AnyB w l lv) (hk : h.kind = 10) :
  Calls Tryz.prog 51 #[.agg #[.int .i64 id], nodeV h lv] w fun e w' => e = .returned (.bool (fitsT id (.node h l))) ∧ Same w w' := by
 obtain ⟨a, cap, rfl⟩ := hl.is_slice
 have hlen := hl.shape.1
 have hoo := ho
 obtain ⟨ho1, ho2, ho3, ho4, ho5, ho6⟩ := ho
 obtain ⟨cCD, gCD⟩ : ∃ r, ([2, 3] : List Int).contains id = r := ⟨_, rfl⟩
 have h4 : (h.kind == 4) = false := by rw [hk]; rfl
 have h3 : (h.kind == 3) = false := by rw [hk]; rfl
 have h6 : (h.kind == 6) = false := by rw [hk]; rfl
 have h9 : (h.kind == 9) = false := by rw [hk]; rfl
 have h10 : (h.kind == 10) = true := by rw [hk]; rfl
 have h11 : (h.kind == 11) = false := by rw [hk]; rfl
 have h8 : (h.kind == 8) = false := by rw [hk]; rfl
 have hres : fitsT id (.node h l) = (cCD) := by
  rw [← gCD, has2]
  unfold fitsT
  simp [Tree.hd_node, hk]
 have HR := Lib.hid hres
 have HCD := Lib.hid gCD
 clear hres gCD hk
 go_enter Tryz.func51, Tryz.ntmps51
 go_wp2_with (first
  | (go_at_call 91; refine (has_any id _ _ [2, 3] _ _ _ _ _ rfl (by decide) (by repeat (first | with_reducible exact heap_new' (by simp) | with_reducible refine heap_old ?_ | with_reducible refine heap_drew ?_)) (by rfl)).mono ?_; rintro e w2 ⟨rfl, hkL⟩; rw [HCD.out]; have hi := hkL.same w.heap.size _ (show _ = some (.cells #[.int .i64 id] 56 (0, 0)) from (by repeat (first | assumption | exact heap_new' (by simp) | refine heap_old ?_ | refine heap_drew ?_))) trivial; have i0 := cells1 hi; have hb := hkL.same (w.heap.size + 1) _ (show _ = some (.cells #[.int .i64 h.kind, .bool h.b, .bool h.d.neg, .string h.d.digits, .int .i64 h.d.exp, .int .u64 h.u, .int .i64 h.w, .string h.s, .slice a l.length cap] 27 (0, 0)) from (by repeat (first | assumption | exact heap_new' (by simp) | refine heap_old ?_ | refine heap_drew ?_))) trivial; obtain ⟨n0, n1, n2, n3, n4, n5, n6, n7, n8⟩ := cells9 hb))
 all_goals go_ret
 all_goals exact ⟨by rw [HR.out]; simp [*], smK⟩
set_option maxRecDepth 100000 in
set_option maxHeartbeats 16000000 in
theorem fits_k11 {N : Nat} {E : Errs} (id : Int) (h : Hd) (l : List Tree) (lv : Value) (w : World) (hG : Glob N E w) (ho : h.ok) (hl : RepS AnyB w l lv) (hk : h.kind = 11) :
  Calls Tryz.prog 51 #[.agg #[.int .i64 id], nodeV h lv] w fun e w' => e = .returned (.bool (fitsT id (.node h l))) ∧ Same w w' := by
 obtain ⟨a, cap, rfl⟩ := hl.is_slice
 have hlen := hl.shape.1
 have hoo := ho
 obtain ⟨ho1, ho2, ho3, ho4, ho5, ho6⟩ := ho
 obtain ⟨cM, gM⟩ : ∃ r, ([4] : List Int).contains id = r := ⟨_, rfl⟩
 have h4 : (h.kind == 4) = false := by rw [hk]; rfl
 have h3 : (h.kind == 3) = false := by rw [hk]; rfl
 have h6 : (h.kind == 6) = false := by rw [hk]; rfl
 have h9 : (h.kind == 9) = false := by rw [hk]; rfl
 have h10 : (h.kind == 10) = false := by rw [hk]; rfl
 have h11 : (h.kind == 11) = true := by rw [hk]; rfl
 have h8 : (h.kind == 8) = false := by rw [hk]; rfl
 have hres : fitsT id (.node h l) = (cM) := by
  rw [← gM, has1]
  unfold fitsT
  simp [Tree.hd_node, hk]
 have HR := Lib.hid hres
 have HM := Lib.hid gM
 clear hres gM hk
 go_enter Tryz.func51, Tryz.ntmps51
 go_wp2_with (first
  | (go_at_call 91; refine (has_any id _ _ [4] _ _ _ _ _ rfl (by decide) (by repeat (first | with_reducible exact heap_new' (by simp) | with_reducible refine heap_old ?_ | with_reducible refine heap_drew ?_)) (by rfl)).mono ?_; rintro e w2 ⟨rfl, hkL⟩; rw [HM.out]; have hi := hkL.same w.heap.size _ (show _ = some (.cells #[.int .i64 id] 56 (0, 0)) from (by repeat (first | assumption | exact heap_new' (by simp) | refine heap_old ?_ | refine heap_drew ?_))) trivial; have i0 := cells1 hi; have hb := hkL.same (w.heap.size + 1) _ (show _ = some (.cells #[.int .i64 h.kind, .bool h.b, .bool h.d.neg, .string h.d.digits, .int .i64 h.d.exp, .int .u64 h.u, .int .i64 h.w, .string h.s, .slice a l.length cap] 27 (0, 0)) from (by repeat (first | assumption | exact heap_new' (by simp) | refine heap_old ?_ | refine heap_drew ?_))) trivial; obtain ⟨n0, n1, n2, n3, n4, n5, n6, n7, n8⟩ := cells9 hb))
 all_goals go_ret
 all_goals exact ⟨by rw [HR.out]; simp [*], smK⟩
set_option maxRecDepth 100000 in
set_option maxHeartbeats 16000000 in
theorem fits_k8 {N : Nat} {E : Errs} (id : Int) (h : Hd) (l : List Tree) (lv : Value) (w : World) (hG : Glob N E w) (ho : h.ok) (hl : RepS AnyB w l lv) (hk : h.kind = 8) :
  Calls Tryz.prog 51 #[.agg #[.int .i64 id], nodeV h lv] w fun e w' => e = .returned (.bool (fitsT id (.node h l))) ∧ Same w w' := by
 obtain ⟨a, cap, rfl⟩ := hl.is_slice
 have hlen := hl.shape.1
 have hoo := ho
 obtain ⟨ho1, ho2, ho3, ho4, ho5, ho6⟩ := ho
 obtain ⟨r8, g8⟩ : ∃ r, (keysOf l).any (fun y => !isKeyT id y) = r := ⟨_, rfl⟩
 obtain ⟨cA, gA⟩ : ∃ r, ([1, 2, 3, 4] : List Int).contains id = r := ⟨_, rfl⟩
 have h4 : (h.kind == 4) = false := by rw [hk]; rfl
 have h3 : (h.kind == 3) = false := by rw [hk]; rfl
 have h6 : (h.kind == 6) = false := by rw [hk]; rfl
 have h9 : (h.kind == 9) = false := by rw [hk]; rfl
 have h10 : (h.kind == 10) = false := by rw [hk]; rfl
 have h11 : (h.kind == 11) = false := by rw [hk]; rfl
 have h8 : (h.kind == 8) = true := by rw [hk]; rfl
 have hres : fitsT id (.node h l) = (cA && !r8) := by
  rw [← gA, ← g8, has4]
  have e2 : (keysOf l).all (isKeyT id) = !(keysOf l).any (fun y => !isKeyT id y) := by rw [List.all_eq_not_any_not]
  rw [← e2]
  unfold fitsT
  simp [Tree.hd_node, Tree.l_node, hk]
 have HR := Lib.hid hres
 have HA := Lib.hid gA
 have H8 := Lib.hid g8
 clear hres gA g8 hk
 go_enter Tryz.func51, Tryz.ntmps51
 go_wp2_with (first
  | (go_at_call 91; refine (has_any id _ _ [1, 2, 3, 4] _ _ _ _ _ rfl (by decide) (by repeat (first | with_reducible exact heap_new' (by simp) | with_reducible refine heap_old ?_ | with_reducible refine heap_drew ?_)) (by rfl)).mono ?_; rintro e w2 ⟨rfl, hkL⟩; rw [HA.out]; have hi := hkL.same w.heap.size _ (show _ = some (.cells #[.int .i64 id] 56 (0, 0)) from (by repeat (first | assumption | exact heap_new' (by simp) | refine heap_old ?_ | refine heap_drew ?_))) trivial; have i0 := cells1 hi; have hb := hkL.same (w.heap.size + 1) _ (show _ = some (.cells #[.int .i64 h.kind, .bool h.b, .bool h.d.neg, .string h.d.digits, .int .i64 h.d.exp, .int .u64 h.u, .int .i64 h.w, .string h.s, .slice a l.length cap] 27 (0, 0)) from (by repeat (first | assumption | exact heap_new' (by simp) | refine heap_old ?_ | refine heap_drew ?_))) trivial; obtain ⟨n0, n1, n2, n3, n4, n5, n6, n7, n8⟩ := cells9 hb)
  | (go_at_call 95; refine (keys_any l AnyB _ _ (fun _ _ => trivial) (hl.same smK)).mono ?_; rintro e w3 ⟨kv, rfl, hkr, hkL⟩; obtain ⟨ka, kc, rfl⟩ := hkr.is_slice; have hi := hkL.same w.heap.size _ (show _ = some (.cells #[.int .i64 id] 56 (0, 0)) from (by repeat (first | assumption | exact heap_new' (by simp) | refine heap_old ?_ | refine heap_drew ?_))) trivial; have i0 := cells1 hi; have hb := hkL.same (w.heap.size + 1) _ (show _ = some (.cells #[.int .i64 h.kind, .bool h.b, .bool h.d.neg, .string h.d.digits, .int .i64 h.d.exp, .int .u64 h.u, .int .i64 h.w, .string h.s, .slice a l.length cap] 27 (0, 0)) from (by repeat (first | assumption | exact heap_new' (by simp) | refine heap_old ?_ | refine heap_drew ?_))) trivial; obtain ⟨n0, n1, n2, n3, n4, n5, n6, n7, n8⟩ := cells9 hb)
  | (go_at_call 94;
     refine (containsFunc_any (keysOf l) AnyB (fun y => !isKeyT id y) _ _ _ hkr ⟨_, _, rfl, enters_of Tryz.func88 (by kernel_rfl) rfl, fun y hy ly W hW hry => ?p1⟩).mono ?_;
     (case p1 => have hcW := hW.same _ _ hi trivial; refine (fits1_any id y.hd y.l AnyB ly _ W (hG.same smK) (hkr.ok_mem hy) hry hcW).mono ?_; rintro e w9 ⟨rfl, h9⟩; exact ⟨by rw [Tree.eta], h9⟩);
     rintro e w4 ⟨rfl, hkL⟩; rw [H8.out]; have hi := hkL.same w.heap.size _ (show _ = some (.cells #[.int .i64 id] 56 (0, 0)) from (by repeat (first | assumption | exact heap_new' (by simp) | refine heap_old ?_ | refine heap_drew ?_))) trivial; have i0 := cells1 hi; have hb := hkL.same (w.heap.size + 1) _ (show _ = some (.cells #[.int .i64 h.kind, .bool h.b, .bool h.d.neg, .string h.d.digits, .int .i64 h.d.exp, .int .u64 h.u, .int .i64 h.w, .string h.s, .slice a l.length cap] 27 (0, 0)) from (by repeat (first | assumption | exact heap_new' (by simp) | refine heap_old ?_ | refine heap_drew ?_))) trivial; obtain ⟨n0, n1, n2, n3, n4, n5, n6, n7, n8⟩ := cells9 hb))
 all_goals go_ret
 all_goals exact ⟨by rw [HR.out]; simp [*], smK⟩
set_option maxRecDepth 100000 in
set_option maxHeartbeats 16000000 in
theorem fits_other {N : Nat} {E : Errs} (id : Int) (h : Hd) (l : List Tree) (lv : Value) (w : World) (hG : Glob N E w) (ho : h.ok) (hl : RepS AnyB w l lv) (hk4 : h.kind ≠ 4) (hk3 : h.kind ≠ 3) (hk6 : h.kind ≠ 6) (hk9 : h.kind ≠ 9) (hk10 : h.kind ≠ 10) (hk11 : h.kind ≠ 11) (hk8 : h.kind ≠ 8) :
  Calls Tryz.prog 51 #[.agg #[.int .i64 id], nodeV h lv] w fun e w' => e = .returned (.bool (fitsT id (.node h l))) ∧ Same w w' := by
 obtain ⟨a, cap, rfl⟩ := hl.is_slice
 have hlen := hl.shape.1
 have hoo := ho
 obtain ⟨ho1, ho2, ho3, ho4, ho5, ho6⟩ := ho
 obtain ⟨cA, gA⟩ : ∃ r, ([1, 2, 3, 4] : List Int).contains id = r := ⟨_, rfl⟩
 have h4 : (h.kind == 4) = false := by simpa using hk4
 have h3 : (h.kind == 3) = false := by simpa using hk3
 have h6 : (h.kind == 6) = false := by simpa using hk6
 have h9 : (h.kind == 9) = false := by simpa using hk9
 have h10 : (h.kind == 10) = false := by simpa using hk10
 have h11 : (h.kind == 11) = false := by simpa using hk11
 have h8 : (h.kind == 8) = false := by simpa using hk8
 have hres : fitsT id (.node h l) = (cA) := by
  rw [← gA, has4]
  unfold fitsT
  simp [Tree.hd_node, hk4, hk3, hk6, hk9, hk10, hk11, hk8]
 have HR := Lib.hid hres
 have HA := Lib.hid gA
 clear hres gA hk4 hk3 hk6 hk9 hk10 hk11 hk8
 go_enter Tryz.func51, Tryz.ntmps51
 go_wp2_with (first
  | (go_at_call 91; refine (has_any id _ _ [1, 2, 3, 4] _ _ _ _ _ rfl (by decide) (by repeat (first | with_reducible exact heap_new' (by simp) | with_reducible refine heap_old ?_ | with_reducible refine heap_drew ?_)) (by rfl)).mono ?_; rintro e w2 ⟨rfl, hkL⟩; rw [HA.out]; have hi := hkL.same w.heap.size _ (show _ = some (.cells #[.int .i64 id] 56 (0, 0)) from (by repeat (first | assumption | exact heap_new' (by simp) | refine heap_old ?_ | refine heap_drew ?_))) trivial; have i0 := cells1 hi; have hb := hkL.same (w.heap.size + 1) _ (show _ = some (.cells #[.int .i64 h.kind, .bool h.b, .bool h.d.neg, .string h.d.digits, .int .i64 h.d.exp, .int .u64 h.u, .int .i64 h.w, .string h.s, .slice a l.length cap] 27 (0, 0)) from (by repeat (first | assumption | exact heap_new' (by simp) | refine heap_old ?_ | refine heap_drew ?_))) trivial; obtain ⟨n0, n1, n2, n3, n4, n5, n6, n7, n8⟩ := cells9 hb))
 all_goals go_ret
 all_goals exact ⟨by rw [HR.out]; simp [*], smK⟩
theorem fits_any {N : Nat} {E : Errs} (id : Int) (h : Hd) (l : List Tree) (lv : Value) (w : World) (hG : Glob N E w) (ho : h.ok) (hl : RepS AnyB w l lv) :
  Calls Tryz.prog 51 #[.agg #[.int .i64 id], nodeV h lv] w fun e w' => e = .returned (.bool (fitsT id (.node h l))) ∧ Same w w' := by
 by_cases h4 : h.kind = 4
 ·exact fits_float id h l AnyB lv w hG ho hl h4
 by_cases h3 : h.kind = 3
 ·exact fits_k3 id h l lv w hG ho hl h3
 by_cases h6 : h.kind = 6
 ·exact fits_k6 id h l lv w hG ho hl h6
 by_cases h9 : h.kind = 9
 ·exact fits_k9 id h l lv w hG ho hl h9
 by_cases h10 : h.kind = 10
 ·exact fits_k10 id h l lv w hG ho hl h10
 by_cases h11 : h.kind = 11
 ·exact fits_k11 id h l lv w hG ho hl h11
 by_cases h8 : h.kind = 8
 ·exact fits_k8 id h l lv w hG ho hl h8
 exact fits_other id h l lv w hG ho hl h4 h3 h6 h9 h10 h11 h8
end Go.Tm
namespace Go.Tm
open Go.RowKit Go.Proofs
def isKindB (k : Int) : Bool := decide (1 ≤ k) && decide (k ≤ 11)
def kindV (k : Int) : Value := if isKindB k then .func (.func (kindFn k.toNat)) #[] #[] else .nilFunc
theorem lookup_kinds (A : World) (kb : Nat) (k : Int) (hm : A.heap[kb]? = some (.map (kindsM 11) 11)) :
  (Instr.lookup 76 (.map (some kb)) (.int .i64 k) true).run Tryz.prog A = .ok (.tuple #[kindV k, .bool (isKindB k)]) A := by
 by_cases h1 : isKindB k = true
 ·have h2 : 1 ≤ k ∧ k ≤ 11 := by simpa [isKindB] using h1
  obtain ⟨n, rfl⟩ : ∃ n : Nat, k = n := ⟨k.toNat, by omega⟩
  have hn : n = 1 ∨ n = 2 ∨ n = 3 ∨ n = 4 ∨ n = 5 ∨ n = 6 ∨ n = 7 ∨ n = 8 ∨ n = 9 ∨ n = 10 ∨ n = 11 := by omega
  rcases hn with rfl | rfl | rfl | rfl | rfl | rfl | rfl | rfl | rfl | rfl | rfl
  ·exact run_lookup_ok (d := .int .i64) (i := 0) (v := kindV 1) (.int .i64 1) Tryz.underlying76 Tryz.underlying3 rfl hm (by rfl) true
  ·exact run_lookup_ok (d := .int .i64) (i := 1) (v := kindV 2) (.int .i64 2) Tryz.underlying76 Tryz.underlying3 rfl hm (by rfl) true
  ·exact run_lookup_ok (d := .int .i64) (i := 2) (v := kindV 3) (.int .i64 3) Tryz.underlying76 Tryz.underlying3 rfl hm (by rfl) true
  ·exact run_lookup_ok (d := .int .i64) (i := 3) (v := kindV 4) (.int .i64 4) Tryz.underlying76 Tryz.underlying3 rfl hm (by rfl) true
  ·exact run_lookup_ok (d := .int .i64) (i := 4) (v := kindV 5) (.int .i64 5) Tryz.underlying76 Tryz.underlying3 rfl hm (by rfl) true
  ·exact run_lookup_ok (d := .int .i64) (i := 5) (v := kindV 6) (.int .i64 6) Tryz.underlying76 Tryz.underlying3 rfl hm (by rfl) true
  ·exact run_lookup_ok (d := .int .i64) (i := 6) (v := kindV 7) (.int .i64 7) Tryz.underlying76 Tryz.underlying3 rfl hm (by rfl) true
  ·exact run_lookup_ok (d := .int .i64) (i := 7) (v := kindV 8) (.int .i64 8) Tryz.underlying76 Tryz.underlying3 rfl hm (by rfl) true
  ·exact run_lookup_ok (d := .int .i64) (i := 8) (v := kindV 9) (.int .i64 9) Tryz.underlying76 Tryz.underlying3 rfl hm (by rfl) true
  ·exact run_lookup_ok (d := .int .i64) (i := 9) (v := kindV 10) (.int .i64 10) Tryz.underlying76 Tryz.underlying3 rfl hm (by rfl) true
  ·exact run_lookup_ok (d := .int .i64) (i := 10) (v := kindV 11) (.int .i64 11) Tryz.underlying76 Tryz.underlying3 rfl hm (by rfl) true
 ·have h2 : ¬ (1 ≤ k ∧ k ≤ 11) := by simpa [isKindB] using h1
  have hv : kindV k = .nilFunc := by unfold kindV; rw [if_neg h1]
  have hb : isKindB k = false := by simpa using h1
  rw [hv, hb]
  refine run_lookup_none (d := .int .i64) (z := .nilFunc) _ Tryz.underlying76 Tryz.underlying3 ?_ (fun w => by kernel_rfl) hm ?_ true
  ·rfl
  ·have hs : ∀ j : Int, 1 ≤ j → j ≤ 11 → Instr.sameNow (.int .i64) (.int .i64 k) (.int .i64 j) = some false := fun j h3 h4 => by
    have h5 : (k == j) = false := by simp; omega
    show some (k == j) = _
    rw [h5]
   simp [kindsM, Instr.findNow, List.range_succ, hs]
theorem kind_enters (n : Nat) (args : Array Value) (w : World) (h : 1 ≤ n ∧ n ≤ 11) : (callFunc (kindFn n) args).run Tryz.prog w = .ok (.enter (kindFn n) args) w := by
 have hn : n = 1 ∨ n = 2 ∨ n = 3 ∨ n = 4 ∨ n = 5 ∨ n = 6 ∨ n = 7 ∨ n = 8 ∨ n = 9 ∨ n = 10 ∨ n = 11 := by omega
 rcases hn with rfl | rfl | rfl | rfl | rfl | rfl | rfl | rfl | rfl | rfl | rfl
 ·exact enters_of Tryz.func77 (by kernel_rfl) rfl args w
 ·exact enters_of Tryz.func78 (by kernel_rfl) rfl args w
 ·exact enters_of Tryz.func79 (by kernel_rfl) rfl args w
 ·exact enters_of Tryz.func80 (by kernel_rfl) rfl args w
 ·exact enters_of Tryz.func81 (by kernel_rfl) rfl args w
 ·exact enters_of Tryz.func82 (by kernel_rfl) rfl args w
 ·exact enters_of Tryz.func83 (by kernel_rfl) rfl args w
 ·exact enters_of Tryz.func84 (by kernel_rfl) rfl args w
 ·exact enters_of Tryz.func85 (by kernel_rfl) rfl args w
 ·exact enters_of Tryz.func86 (by kernel_rfl) rfl args w
 ·exact enters_of Tryz.func87 (by kernel_rfl) rfl args w
theorem kind_own {N : Nat} {E : Errs} (id : Int) (h : Hd) (l : List Tree) (lv : Value) (w : World) (n : Nat) (hn : 1 ≤ n ∧ n ≤ 11) (hk : h.kind = n) (hG : Glob N E w) (ho : h.ok) (hl : RepS AnyB w l lv) :
  Calls Tryz.prog (kindFn n) #[.agg #[.int .i64 id], nodeV h lv] w fun e w' => e = .returned (.bool (ownT (.node h l))) ∧ Same w w' := by
 have hn' : n = 1 ∨ n = 2 ∨ n = 3 ∨ n = 4 ∨ n = 5 ∨ n = 6 ∨ n = 7 ∨ n = 8 ∨ n = 9 ∨ n = 10 ∨ n = 11 := by omega
 have bk : ∀ (k : Int) (t : Tree) (g : Hd), bareT t { g with kind := k } = bareT t g := fun k t g => rfl
 have b0 : bareT (.node h []) (bareHd 0) = decide (h = bareHd h.kind) := by unfold bareT; simp [bareHd] <;> rfl
 have b9 : bareT (.node h []) { bareHd 0 with u := h.u } = decide (h = { bareHd h.kind with u := h.u }) := by unfold bareT; simp [bareHd] <;> rfl
 rcases hn' with rfl | rfl | rfl | rfl | rfl | rfl | rfl | rfl | rfl | rfl | rfl
 ·refine (isNull_any id h l AnyB lv w hl).mono ?_; rintro e w' ⟨rfl, hk'⟩; refine ⟨?_, hk'⟩; unfold ownT; simp only [Tree.hd_node, hk]; rfl
 ·refine (isBool_any id h l AnyB lv w hl).mono ?_; rintro e w' ⟨rfl, hk'⟩; refine ⟨?_, hk'⟩; unfold ownT; simp only [Tree.hd_node, hk]; rfl
 ·refine (isNum_any id h l AnyB lv w hG ho hl).mono ?_; rintro e w' ⟨rfl, hk'⟩; refine ⟨?_, hk'⟩; unfold ownT; simp only [Tree.hd_node, hk]; rfl
 ·refine (isFloat_any id h l AnyB lv w hG ho hl).mono ?_; rintro e w' ⟨rfl, hk'⟩; refine ⟨?_, hk'⟩; unfold ownT; simp only [Tree.hd_node, hk]; rfl
 ·refine (isText_any id h l AnyB lv w hG ho hl).mono ?_; rintro e w' ⟨rfl, hk'⟩; refine ⟨?_, hk'⟩; unfold ownT; simp only [Tree.hd_node, hk]; rfl
 ·refine (isBytes_any id h l AnyB lv w hG ho hl).mono ?_; rintro e w' ⟨rfl, hk'⟩; refine ⟨?_, hk'⟩; unfold ownT; simp only [Tree.hd_node, hk]; rfl
 ·refine (isArray_any id h l AnyB lv w hl).mono ?_; rintro e w' ⟨rfl, hk'⟩; refine ⟨?_, hk'⟩; rw [b0]; unfold ownT; simp only [Tree.hd_node, hk]; rfl
 ·refine (isMap_any (N := N) (E := E) id h l lv w hl).mono ?_; rintro e w' ⟨rfl, hk'⟩; refine ⟨?_, hk'⟩; rw [b0]; unfold ownT; simp only [Tree.hd_node, Tree.l_node, hk]; rfl
 ·refine (isTag_any (N := N) (E := E) id h l AnyB lv w hl).mono ?_; rintro e w' ⟨rfl, hk'⟩; refine ⟨?_, hk'⟩; rw [b9]; unfold ownT; simp only [Tree.hd_node, Tree.l_node, hk]; rfl
 ·refine (isSimple_any id h l AnyB lv w hG ho hl).mono ?_; rintro e w' ⟨rfl, hk'⟩; refine ⟨?_, hk'⟩; unfold ownT; simp only [Tree.hd_node, hk]; rfl
 ·refine (isExt_any id h l AnyB lv w hG ho hl).mono ?_; rintro e w' ⟨rfl, hk'⟩; refine ⟨?_, hk'⟩; unfold ownT; simp only [Tree.hd_node, hk]; rfl
theorem own_none (t : Tree) (h : isKindB t.hd.kind = false) : ownT t = false := by
 have h2 : ¬ (1 ≤ t.hd.kind ∧ t.hd.kind ≤ 11) := by intro h3; simp [isKindB, h3.1, h3.2] at h
 unfold ownT
 rw [if_neg (by omega), if_neg (by omega), if_neg (by omega), if_neg (by omega), if_neg (by omega), if_neg (by omega), if_neg (by omega), if_neg (by omega), if_neg (by omega), if_neg (by omega), if_neg (by omega)]
theorem check_from (form : Int) : ∀ (l : List Tree) (e : Int), checkFrom form l e = if l.all ownT then (if l.all (fitsT form) then e else 61) else 60
 | [], e => by simp [checkFrom]
 | x :: l, e => by
  rw [checkFrom, check_from form l]
  cases h1 : ownT x <;> cases h2 : fitsT form x <;> cases h3 : l.all ownT <;> cases h4 : l.all (fitsT form) <;> simp [h1, h2, h3, h4]
theorem all_take (p : Tree → Bool) : ∀ (l : List Tree) (k : Nat) (h : k < l.length), (l.take (k + 1)).all p = ((l.take k).all p && p (l[k]))
 | x :: l, 0, _ => by simp
 | x :: l, k + 1, h => by simp only [List.take_succ_cons, List.all_cons, List.getElem_cons_succ]; rw [all_take p l k (by simpa using h), Bool.and_assoc]
end Go.Tm
namespace Go.Tm
open Go.RowKit Go.Proofs
def errOf (E : Errs) (r : Int) : Value := if r = 60 then .iface errT (.pointer (some E.tree)) else if r = 61 then .iface errT (.pointer (some E.form)) else .nilIface
set_option maxRecDepth 100000 in
set_option maxHeartbeats 2000000 in
theorem checked_any {N : Nat} {E : Errs} (id : Int) (t : Tree) (lv : Value) (w : World) (hG : Glob N E w) (hc : t.depth ≤ 1099511627776) (hr : RepS AnyB w t.l lv) (hok : t.hd.ok) :
  Calls Tryz.prog 35 #[.agg #[.int .i64 id], nodeV t.hd lv] w fun e w' => e = .returned (errOf E (checkT t id)) ∧ Same w w' := by
 obtain ⟨a, cap, rfl⟩ := hr.is_slice
 obtain ⟨dd, hdd⟩ : ∃ r, decide ((16 : Int) < (t.depth : Int)) = r := ⟨_, rfl⟩
 obtain ⟨dc, hdc⟩ : ∃ r, decide ((300 : Int) < cnt64 t) = r := ⟨_, rfl⟩
 have hres : checkT t id = if dd || dc then 60 else checkFrom id t.flat 0 := by
  have e1 : decide ((16 : Int) < (t.depth : Int)) = decide (16 < t.depth) := dec_lt 16 t.depth
  rw [← hdd, ← hdc, e1]
  unfold checkT
  by_cases h1 : 16 < t.depth <;> by_cases h2 : 300 < cnt64 t <;> simp [h1, h2]
 have HR := Lib.hid hres
 clear hres
 have fin : ∀ (W : World) (K : Exit → Act → World → Prop), True := fun _ _ => trivial
 refine (callsIn_wide (n := 0)).1 ?_
 refine callsIn_of_wp_marks Tryz.func35 rfl trivial ?_ rfl
 simp only [Tryz.ntmps35, List.size_toArray, List.length_cons, List.length_nil, Nat.reduceAdd, Nat.reduceSub, Array.replicate_succ, Array.replicate_zero, List.push_toArray, List.append_toArray, List.nil_append, List.cons_append]
 gi_wp2
 refine wpIn_scope ?_
 cases dd
 ·cases dc
  ·gi_wp2_with (first
    | (gi_at_call 12; refine (callsW (depth_any t AnyB _ _ hc (hr.same smK))).mono ?_; rintro e w1 ⟨rfl, hkL⟩; have hi := hkL.same w.heap.size _ (show _ = some (.cells #[.int .i64 id] 56 (0, 0)) from (by repeat (first | assumption | exact heap_new' (by simp) | refine heap_old ?_ | refine heap_drew ?_))) trivial; have i0 := cells1 hi; have hb := hkL.same (w.heap.size + 1) _ (show _ = some (.cells #[.int .i64 t.hd.kind, .bool t.hd.b, .bool t.hd.d.neg, .string t.hd.d.digits, .int .i64 t.hd.d.exp, .int .u64 t.hd.u, .int .i64 t.hd.w, .string t.hd.s, .slice a t.l.length cap] 27 (0, 0)) from (by repeat (first | assumption | exact heap_new' (by simp) | refine heap_old ?_ | refine heap_drew ?_))) trivial; obtain ⟨n0, n1, n2, n3, n4, n5, n6, n7, n8⟩ := cells9 hb; have hGL := hG.same (Keep.trans smK hkL); have gT := hGL.tree)
    | (gi_at_call 13; refine (callsW (count_any t _ _ (hr.same smK) hok)).mono ?_; rintro e w2 ⟨rfl, hkL⟩; have hi := hkL.same w.heap.size _ (show _ = some (.cells #[.int .i64 id] 56 (0, 0)) from (by repeat (first | assumption | exact heap_new' (by simp) | refine heap_old ?_ | refine heap_drew ?_))) trivial; have i0 := cells1 hi; have hb := hkL.same (w.heap.size + 1) _ (show _ = some (.cells #[.int .i64 t.hd.kind, .bool t.hd.b, .bool t.hd.d.neg, .string t.hd.d.digits, .int .i64 t.hd.d.exp, .int .u64 t.hd.u, .int .i64 t.hd.w, .string t.hd.s, .slice a t.l.length cap] 27 (0, 0)) from (by repeat (first | assumption | exact heap_new' (by simp) | refine heap_old ?_ | refine heap_drew ?_))) trivial; obtain ⟨n0, n1, n2, n3, n4, n5, n6, n7, n8⟩ := cells9 hb; have hGL := hG.same (Keep.trans smK hkL); have gT := hGL.tree)
    | (gi_at_call 50; refine (callsW (kinds_any _)).mono ?_; rintro e w3 ⟨kb, rfl, hkb, hkL⟩; have hi := hkL.same w.heap.size _ (show _ = some (.cells #[.int .i64 id] 56 (0, 0)) from (by repeat (first | assumption | exact heap_new' (by simp) | refine heap_old ?_ | refine heap_drew ?_))) trivial; have i0 := cells1 hi; have hb := hkL.same (w.heap.size + 1) _ (show _ = some (.cells #[.int .i64 t.hd.kind, .bool t.hd.b, .bool t.hd.d.neg, .string t.hd.d.digits, .int .i64 t.hd.d.exp, .int .u64 t.hd.u, .int .i64 t.hd.w, .string t.hd.s, .slice a t.l.length cap] 27 (0, 0)) from (by repeat (first | assumption | exact heap_new' (by simp) | refine heap_old ?_ | refine heap_drew ?_))) trivial; obtain ⟨n0, n1, n2, n3, n4, n5, n6, n7, n8⟩ := cells9 hb; have hGL := hG.same (Keep.trans smK hkL); have gT := hGL.tree)
    | (gi_at_call 30; refine (callsW (nodes_any t.hd a t.l.length cap _)).mono ?_; rintro e w' ⟨rfl, rfl⟩))
   refine wpIn_label ?_
   have hb4 := heap_old (o := .cells #[.nilIface] 45) (heap_old (o := .cells #[.map (some kb)] 76) hb)
   have hi4 := heap_old (o := .cells #[.nilIface] 45) (heap_old (o := .cells #[.map (some kb)] 76) hi)
   have hm4 := heap_old (o := .cells #[.nilIface] 45) (heap_old (o := .cells #[.map (some kb)] 76) hkb)
   have hw4 : ((w3.alloc (.cells #[.map (some kb)] 76)).alloc (.cells #[.nilIface] 45)).heap[w3.heap.size + 1]? = some (.cells #[.nilIface] 45 (0, 0)) := heap_new' (by simp)
   have ha4 : ((w3.alloc (.cells #[.map (some kb)] 76)).alloc (.cells #[.nilIface] 45)).heap[w3.heap.size]? = some (.cells #[.map (some kb)] 76 (0, 0)) := heap_old (heap_new' (by simp))
   have hk4 : Same w ((w3.alloc (.cells #[.map (some kb)] 76)).alloc (.cells #[.nilIface] 45)) := smK
   have hz4 : ((w3.alloc (.cells #[.map (some kb)] 76)).alloc (.cells #[.nilIface] 45)).heap.size = w3.heap.size + 2 := by simp
   generalize ((w3.alloc (.cells #[.map (some kb)] 76)).alloc (.cells #[.nilIface] 45)) = W4 at hb4 hi4 hm4 hw4 ha4 hk4 hz4 ⊢
   obtain ⟨m0, m1, m2, m3, m4, m5, m6, m7, m8⟩ := cells9 hb4
   gi_wp2_with (gi_at_call 30; refine (callsW (nodes_any t.hd a t.l.length cap _)).mono ?_; rintro e w' ⟨rfl, rfl⟩)
   have hb5 : Boxed9 (W4.alloc (.cells (nodeCs t.hd (.slice a t.l.length cap)).toArray 27)) W4.heap.size t.hd (.slice a t.l.length cap) := World.alloc_heap_new W4 _
   have hi5 := heap_old (o := .cells (nodeCs t.hd (.slice a t.l.length cap)).toArray 27) hi4
   have hm5 := heap_old (o := .cells (nodeCs t.hd (.slice a t.l.length cap)).toArray 27) hm4
   have hw5 := heap_old (o := .cells (nodeCs t.hd (.slice a t.l.length cap)).toArray 27) hw4
   have ha5 := heap_old (o := .cells (nodeCs t.hd (.slice a t.l.length cap)).toArray 27) ha4
   have hk5 : Same w (W4.alloc (.cells (nodeCs t.hd (.slice a t.l.length cap)).toArray 27)) := hk4.alloc _
   have hz5 : (W4.alloc (.cells (nodeCs t.hd (.slice a t.l.length cap)).toArray 27)).heap.size = w3.heap.size + 3 := by simp [hz4]
   rw [hz4] at hb5
   generalize W4.alloc (.cells (nodeCs t.hd (.slice a t.l.length cap)).toArray 27) = W5 at hb5 hi5 hm5 hw5 ha5 hk5 hz5 ⊢
   have hr5 := hr.same hk5
   have hw3 : w.heap.size ≤ w3.heap.size := (show Same w w3 from smK).size
   have hkb5 := lt_of_some hm5
   have hkne : kb ≠ w3.heap.size + 1 := by rintro rfl; rw [hw5] at hm5; cases hm5
   have sameA : ∀ A, Keep (fun b _ => b < W5.heap.size ∧ b ≠ w3.heap.size + 1) W5 A → Same w A := fun A hk0 =>
    ⟨hk0.os.trans hk5.os, hk0.tape.trans hk5.tape, hk0.output.trans hk5.output, Nat.le_trans hk5.size hk0.size, fun b o hb _ => hk0.same b o (hk5.same b o hb trivial) ⟨lt_of_some (hk5.same b o hb trivial), by have := lt_of_some hb; omega⟩⟩
   clear hb4 hi4 hm4 hw4 ha4 hk4 hz4 m0 m1 m2 m3 m4 m5 m6 m7 m8
   refine wp_range (gf := 40) (lb := #[.pointer (some ⟨w3.heap.size + 2, 0, none⟩)])
    rfl (enters_of Tryz.func40 (by kernel_rfl) rfl) t.flat.length (GivesT t.flat) (fun b o => b ≠ w3.heap.size + 1 ∨ ∀ c f, o ≠ .cells c 45 f) (fun _ _ => True)
    (fun _ => True) (fun _ _ => True) ?hit ?hSb (fun _ _ _ _ _ => trivial)
    (fun i A => Keep (fun b _ => b < W5.heap.size ∧ b ≠ w3.heap.size + 1) W5 A ∧ Boxed A (w3.heap.size + 1) 45 (errOf E (if (t.flat.take i).all (fitsT id) then 0 else 61)) ∧ (t.flat.take i).all ownT = true)
    (fun i c A => c = .exit 0 ∧ Keep (fun b _ => b < W5.heap.size ∧ b ≠ w3.heap.size + 1) W5 A ∧ Boxed A (w3.heap.size + 1) 45 (errOf E 60) ∧ ∃ hi : i < t.flat.length, ownT (t.flat[i]) = false)
    ?hI ?hIx ?hE (fun _ _ _ _ => trivial) (fun _ _ _ _ _ => trivial) ?hEs ?h0
    (fun i v a' A => ∃ (hi : i < t.flat.length) (lv : Value) (xb : Nat), v = #[nodeV (t.flat[i]).hd lv] ∧ Boxed9 A xb (t.flat[i]).hd lv ∧ a' = { tmps := #[.agg #[.int .i64 id], nodeV t.hd (.slice a t.l.length cap), .pointer (some ⟨w.heap.size, 0, none⟩), .pointer (some ⟨w.heap.size + 1, 0, none⟩), .nilIface, .pointer (some ⟨w3.heap.size, 0, none⟩), .pointer (some ⟨w3.heap.size + 1, 0, none⟩), .pointer (some ⟨xb, 0, none⟩), undef, undef, .agg #[.int .i64 t.hd.kind, .bool t.hd.b, .bool t.hd.d.neg, .string t.hd.d.digits, .int .i64 t.hd.d.exp, .int .u64 t.hd.u, .int .i64 t.hd.w, .string t.hd.s, .slice a t.l.length cap], .int .i64 t.depth, .bool false, .bool false, .agg #[.int .i64 t.hd.kind, .bool t.hd.b, .bool t.hd.d.neg, .string t.hd.d.digits, .int .i64 t.hd.d.exp, .int .u64 t.hd.u, .int .i64 t.hd.w, .string t.hd.s, .slice a t.l.length cap], .int .i64 (cnt64 t), .bool false, .bool false, undef, .map (some kb), .agg #[.int .i64 t.hd.kind, .bool t.hd.b, .bool t.hd.d.neg, .string t.hd.d.digits, .int .i64 t.hd.d.exp, .int .u64 t.hd.u, .int .i64 t.hd.w, .string t.hd.s, .slice a t.l.length cap], .func (.func 40) #[] #[.pointer (some ⟨w3.heap.size + 2, 0, none⟩)], nodeV (t.flat[i]).hd lv, undef, undef, undef, undef, undef, undef, undef, undef, undef, undef, undef, undef, undef, undef, undef, undef, undef, undef, undef, undef, undef, undef, undef, undef, undef], defers := [] })
    ?hAx ?hassign ?hbody ?hdone ?hstop
   case hit =>
    intro W2 hk2 hz2
    exact nodes1_iter t _ _ _ _ W2 (hb5.same hk2) (hr5.same hk2) hok fun b c f => .inr (by simp)
   case hSb => exact fun b o hb ho => .inr fun c f e => by subst e; cases ho
   case hI =>
    rintro i A B ⟨h1, h2, h3⟩ hk
    exact ⟨h1.trans (hk.mono fun b o _ hs => ⟨.inl hs.1, trivial⟩), hk.boxed h2 ⟨.inr rfl, trivial⟩, h3⟩
   case hIx =>
    rintro i c A B ⟨h0, h1, h2, h3⟩ hk
    exact ⟨h0, h1.trans (hk.mono fun b o _ hs => ⟨.inl hs.1, trivial⟩), hk.boxed h2 ⟨.inr rfl, trivial⟩, h3⟩
   case hE =>
    rintro i v A B ⟨hi, lv, rfl, hrr, hok⟩ hk
    exact ⟨hi, lv, rfl, hrr.keep hk fun _ _ _ _ => .inr rfl, hok⟩
   case hEs =>
    rintro i v A ⟨hi, lv, rfl, _⟩
    rfl
   case h0 => exact ⟨Keep.refl _ _, hw5, rfl⟩
   case hAx =>
    rintro i v a' A B ⟨hi, lv, xb, h0, h1, h2⟩ hk
    exact ⟨hi, lv, xb, h0, h1.keep hk fun _ _ => .inr rfl, h2⟩
   case hassign =>
    rintro l i v A K hi ⟨h1, h2, h3⟩ ⟨hi2, lv, rfl, hrr, hok2⟩ hK
    obtain ⟨xa, xc, rfl⟩ := hrr.is_slice
    gi_wp2
    refine hK _ _ ((Keep.refl _ _).alloc _) ?_ ?_ ⟨hi2, _, A.heap.size, rfl, World.alloc_heap_new A _, rfl⟩
    ·exact ⟨h1.alloc _, h2.alloc _, h3⟩
    ·exact ⟨hi2, _, rfl, hrr.same ((Keep.refl _ _).alloc _), hok2⟩
   case hbody =>
    rintro l i v a' A hl _ hi ⟨h1, h2, h3⟩ ⟨hi2, lv, hv, hrr, hok2⟩ ⟨hi3, lv', xb, hv', hx, rfl⟩
    obtain rfl : lv = lv' := by rw [hv] at hv'; simpa using hv'
    clear hv hv'
    have hsA := sameA A h1
    have hGA := hG.same hsA
    have hmA := h1.same _ _ hm5 ⟨hkb5, hkne⟩
    have haA := h1.same _ _ ha5 ⟨by omega, by omega⟩
    have hiA := h1.same _ _ hi5 ⟨lt_of_some hi5, by omega⟩
    have hst1 := all_take ownT t.flat i hi
    have hst2 := all_take (fitsT id) t.flat i hi
    rw [h3, Bool.true_and] at hst1
    obtain ⟨x, hx0⟩ : ∃ x, t.flat[i] = x := ⟨_, rfl⟩
    rw [hx0] at hst1 hst2 hx hrr hok2 ⊢
    obtain ⟨h, ls, rfl⟩ : ∃ h ls, x = .node h ls := ⟨x.hd, x.l, (Tree.eta x).symm⟩
    simp only [Tree.hd_node, Tree.l_node] at hx hrr hok2 ⊢
    obtain ⟨xa, xc, rfl⟩ := hrr.is_slice
    have y0 := cells1 haA
    have y1 := cells1 hiA
    obtain ⟨p0, p1, p2, p3, p4, p5, p6, p7, p8⟩ := cells9 hx
    have L := lookup_kinds A kb h.kind hmA
    have hbc := h2.cell
    have hbf : ∀ j, A.frozen? ⟨w3.heap.size + 1, j, none⟩ = false := Lib.frozen_of_heap h2
    have gT := hGA.tree
    have gF := hGA.form
    have HX0 := Lib.hid hx0
    clear hx0
    obtain ⟨kb1, hkb1⟩ : ∃ r, isKindB h.kind = r := ⟨_, rfl⟩
    cases kb1 with
    | false =>
     have hown := own_none (.node h ls) hkb1
     have hkv : kindV h.kind = .nilFunc := by unfold kindV; rw [hkb1]; rfl
     rw [hkb1, hkv] at L
     have HO := Lib.hid hown
     clear hown hkb1 hkv
     gi_wp2
     refine ⟨?_, rfl, ?_, ?_, hi, by rw [HX0.out]; exact HO.out⟩
     ·refine (Keep.refl _ A).setCell _ fun o ho hs _ => ?_
      have h2' : A.heap[w3.heap.size + 1]? = some (.cells #[_] 45 (0, 0)) := h2
      rw [show (⟨w3.heap.size + 1, 0, none⟩ : Addr).block = w3.heap.size + 1 from rfl, h2'] at ho
      cases ho
      rcases hs with hs | hs
      ·exact hs rfl
      ·exact hs _ _ rfl
     ·exact h1.setCell _ fun o _ hs _ => hs.2 rfl
     ·exact h2.set _
    | true =>
     have hkr : 1 ≤ h.kind ∧ h.kind ≤ 11 := by simpa [isKindB] using hkb1
     obtain ⟨n, hn⟩ : ∃ n : Nat, h.kind = n := ⟨h.kind.toNat, by omega⟩
     have hn1 : 1 ≤ n ∧ n ≤ 11 := by omega
     have hkv : kindV h.kind = .func (.func (kindFn n)) #[] #[] := by unfold kindV; rw [hkb1, hn]; rfl
     rw [hkb1, hkv] at L
     have hcall := fun W (hW : Glob N E W) (hR : RepS AnyB W ls (.slice xa ls.length xc)) => kind_own id h ls (.slice xa ls.length xc) W n hn1 hn hW hok2 hR
     have hent := fun args W => kind_enters n args W hn1
     generalize kindFn n = g at L hcall hent
     clear hkv hn hkr hkb1
     obtain ⟨r, hr0⟩ : ∃ r, ownT (.node h ls) = r := ⟨_, rfl⟩
     obtain ⟨f, hf0⟩ : ∃ f, fitsT id (.node h ls) = f := ⟨_, rfl⟩
     rw [hr0] at hst1
     rw [hf0] at hst2
     simp only [hr0] at hcall
     have HR0 := Lib.hid hr0
     have HF0 := Lib.hid hf0
     have HS1 := Lib.hid hst1
     have HS2 := Lib.hid hst2
     clear hr0 hf0 hst1 hst2
     gi_wp2_with fail
     refine (callsR l (hcall A hGA hrr)).mono ?_
     rintro e B ⟨rfl, hkB⟩
     have hx := hx.same hkB
     have hiA := hkB.same _ _ hiA trivial
     have h2 := hkB.boxed h2 trivial
     have hGA := hGA.same hkB
     have hrr := hrr.same hkB
     have y1 := cells1 hiA
     obtain ⟨p0, p1, p2, p3, p4, p5, p6, p7, p8⟩ := cells9 hx
     have hbc := h2.cell
     have hbf : ∀ j, B.frozen? ⟨w3.heap.size + 1, j, none⟩ = false := Lib.frozen_of_heap h2
     have gT := hGA.tree
     have gF := hGA.form
     clear L hcall hent
     cases r with
     | false =>
      gi_wp2
      refine ⟨?_, rfl, ?_, ?_, hi, by rw [HX0.out]; exact HR0.out⟩
      ·refine ((Keep.of_same hkB).setCell _ fun o ho hs _ => ?_)
       have h2' : B.heap[w3.heap.size + 1]? = some (.cells #[_] 45 (0, 0)) := h2
       rw [show (⟨w3.heap.size + 1, 0, none⟩ : Addr).block = w3.heap.size + 1 from rfl, h2'] at ho
       cases ho
       rcases hs with hs | hs
       ·exact hs rfl
       ·exact hs _ _ rfl
      ·exact (h1.trans (Keep.of_same hkB)).setCell _ fun o _ hs _ => hs.2 rfl
      ·exact h2.set _
     | true =>
      gi_wp2_with fail
      refine (callsR l (fits_any id h ls _ _ hGA hok2 hrr)).mono ?_
      rintro e C ⟨rfl, hkC⟩
      rw [HF0.out]
      have h2 := hkC.boxed h2 trivial
      have hGA := hGA.same hkC
      have hbc := h2.cell
      have hbf : ∀ j, C.frozen? ⟨w3.heap.size + 1, j, none⟩ = false := Lib.frozen_of_heap h2
      have gT := hGA.tree
      have gF := hGA.form
      cases f with
      | false =>
       gi_wp2
       refine ⟨?_, ?_, ?_, HS1.out⟩
       ·refine ((Keep.of_same (hkB.trans hkC)).setCell _ fun o ho hs _ => ?_)
        have h2' : C.heap[w3.heap.size + 1]? = some (.cells #[_] 45 (0, 0)) := h2
        rw [show (⟨w3.heap.size + 1, 0, none⟩ : Addr).block = w3.heap.size + 1 from rfl, h2'] at ho
        cases ho
        rcases hs with hs | hs
        ·exact hs rfl
        ·exact hs _ _ rfl
       ·exact (h1.trans (Keep.of_same (hkB.trans hkC))).setCell _ fun o _ hs _ => hs.2 rfl
       ·rw [HS2.out, Bool.and_false]
        exact h2.set _
      | true =>
       gi_wp2
       refine ⟨Keep.of_same (hkB.trans hkC), h1.trans (Keep.of_same (hkB.trans hkC)), ?_, HS1.out⟩
       rw [HS2.out, Bool.and_true]
       exact h2
   case hdone =>
    rintro D A hD ⟨h1, h2, h3⟩ _ hk hDB
    have hsA := sameA A h1
    have hbc := h2.cell
    rw [List.take_length] at h2 h3 hbc
    have hcf : checkFrom id t.flat 0 = if t.flat.all (fitsT id) then 0 else 61 := by rw [check_from, h3]; rfl
    rw [← hcf] at hbc
    have HC := Lib.hid hcf
    clear hcf h3
    generalize checkFrom id t.flat 0 = q at hbc HR
    obtain ⟨ev, hev⟩ : ∃ ev, errOf E q = ev := ⟨_, rfl⟩
    rw [hev] at hbc
    gi_wp2
    refine ⟨by simp, .inl ⟨_, _, rfl, run_takeDeferred hDB, ?_⟩⟩
    exact ⟨_, results_tmp rfl _ _ _, by rw [HR.out, ← hev]; rfl, hsA.putObj _ fun o _ _ h => by omega⟩
   case hstop =>
    rintro D i c A hD hi ⟨rfl, h1, h2, hi2, h3⟩ _ hk hDB
    have hsA := sameA A h1
    have hbc := h2.cell
    have hcf : checkFrom id t.flat 0 = 60 := by
     rw [check_from, if_neg]
     intro hall
     have := List.all_eq_true.1 hall _ (List.getElem_mem hi2)
     rw [h3] at this; cases this
    have HC := Lib.hid hcf
    clear hcf h3
    obtain ⟨ev, hev⟩ : ∃ ev, errOf E 60 = ev := ⟨_, rfl⟩
    rw [hev] at hbc
    gi_wp2
    refine ⟨by simp, .inl ⟨_, _, rfl, run_takeDeferred hDB, ?_⟩⟩
    exact ⟨_, results_tmp rfl _ _ _, by rw [HR.out, ← hev, ← HC.out]; rfl, hsA.putObj _ fun o _ _ h => by omega⟩
  ·gi_wp2_with (first
    | (gi_at_call 12; refine (callsW (depth_any t AnyB _ _ hc (hr.same smK))).mono ?_; rintro e w1 ⟨rfl, hkL⟩; have hi := hkL.same w.heap.size _ (show _ = some (.cells #[.int .i64 id] 56 (0, 0)) from (by repeat (first | assumption | exact heap_new' (by simp) | refine heap_old ?_ | refine heap_drew ?_))) trivial; have i0 := cells1 hi; have hb := hkL.same (w.heap.size + 1) _ (show _ = some (.cells #[.int .i64 t.hd.kind, .bool t.hd.b, .bool t.hd.d.neg, .string t.hd.d.digits, .int .i64 t.hd.d.exp, .int .u64 t.hd.u, .int .i64 t.hd.w, .string t.hd.s, .slice a t.l.length cap] 27 (0, 0)) from (by repeat (first | assumption | exact heap_new' (by simp) | refine heap_old ?_ | refine heap_drew ?_))) trivial; obtain ⟨n0, n1, n2, n3, n4, n5, n6, n7, n8⟩ := cells9 hb; have hGL := hG.same (Keep.trans smK hkL); have gT := hGL.tree)
    | (gi_at_call 13; refine (callsW (count_any t _ _ (hr.same smK) hok)).mono ?_; rintro e w2 ⟨rfl, hkL⟩; have hi := hkL.same w.heap.size _ (show _ = some (.cells #[.int .i64 id] 56 (0, 0)) from (by repeat (first | assumption | exact heap_new' (by simp) | refine heap_old ?_ | refine heap_drew ?_))) trivial; have i0 := cells1 hi; have hb := hkL.same (w.heap.size + 1) _ (show _ = some (.cells #[.int .i64 t.hd.kind, .bool t.hd.b, .bool t.hd.d.neg, .string t.hd.d.digits, .int .i64 t.hd.d.exp, .int .u64 t.hd.u, .int .i64 t.hd.w, .string t.hd.s, .slice a t.l.length cap] 27 (0, 0)) from (by repeat (first | assumption | exact heap_new' (by simp) | refine heap_old ?_ | refine heap_drew ?_))) trivial; obtain ⟨n0, n1, n2, n3, n4, n5, n6, n7, n8⟩ := cells9 hb; have hGL := hG.same (Keep.trans smK hkL); have gT := hGL.tree))
   exact ⟨_, results_tmp rfl _ _ _, by rw [HR.out]; rfl, smK⟩
 ·gi_wp2_with (first
    | (gi_at_call 12; refine (callsW (depth_any t AnyB _ _ hc (hr.same smK))).mono ?_; rintro e w1 ⟨rfl, hkL⟩; have hi := hkL.same w.heap.size _ (show _ = some (.cells #[.int .i64 id] 56 (0, 0)) from (by repeat (first | assumption | exact heap_new' (by simp) | refine heap_old ?_ | refine heap_drew ?_))) trivial; have i0 := cells1 hi; have hb := hkL.same (w.heap.size + 1) _ (show _ = some (.cells #[.int .i64 t.hd.kind, .bool t.hd.b, .bool t.hd.d.neg, .string t.hd.d.digits, .int .i64 t.hd.d.exp, .int .u64 t.hd.u, .int .i64 t.hd.w, .string t.hd.s, .slice a t.l.length cap] 27 (0, 0)) from (by repeat (first | assumption | exact heap_new' (by simp) | refine heap_old ?_ | refine heap_drew ?_))) trivial; obtain ⟨n0, n1, n2, n3, n4, n5, n6, n7, n8⟩ := cells9 hb; have hGL := hG.same (Keep.trans smK hkL); have gT := hGL.tree))
  exact ⟨_, results_tmp rfl _ _ _, by rw [HR.out]; rfl, smK⟩
end Go.Tm
namespace Go.Tm
open Go.RowKit Go.Proofs
theorem checkT_cases (t : Tree) (id : Int) : checkT t id = 60 ∨ checkT t id = 61 ∨ checkT t id = 0 := by
 unfold checkT
 split
 ·exact .inl rfl
 ·rw [check_from]
  split
  ·split
   ·exact .inr (.inr rfl)
   ·exact .inr (.inl rfl)
  ·exact .inl rfl
set_option maxRecDepth 100000 in
set_option maxHeartbeats 2000000 in
theorem check_any {N : Nat} {E : Errs} (id : Int) (t : Tree) (lv : Value) (w : World) (hG : Glob N E w) (hc : t.depth ≤ 1099511627776) (hr : RepS AnyB w t.l lv) (hok : t.hd.ok) :
  Calls Tryz.prog 22 #[nodeV t.hd lv, .int .i64 id] w fun e w' => e = .returned (.int .i64 (checkT t id)) ∧ Same w w' := by
 obtain ⟨a, cap, rfl⟩ := hr.is_slice
 have hcs := checkT_cases t id
 obtain ⟨r, hr0⟩ : ∃ r, checkT t id = r := ⟨_, rfl⟩
 have HR := Lib.hid hr0
 rw [hr0] at hcs
 clear hr0
 rcases hcs with rfl | rfl | rfl
 ·have hev : errOf E 60 = .iface errT (.pointer (some E.tree)) := rfl
  go_enter Tryz.func22, Tryz.ntmps22
  go_wp2_with (go_at_call 35; refine (checked_any id t _ _ (hG.same smK) hc (hr.same smK) hok).mono ?_; rintro e w1 ⟨rfl, hkL⟩; rw [HR.out, hev]; have hGL := hG.same (Keep.trans smK hkL); have gT := hGL.tree; have gF := hGL.form)
  refine (is_same E.tree _).mono ?_
  rintro e w2 ⟨rfl, h9⟩; replace h9 := h9.symm; subst h9
  go_wp2
  go_ret
  exact ⟨by rw [HR.out]; rfl, smK⟩
 ·have hev : errOf E 61 = .iface errT (.pointer (some E.form)) := rfl
  go_enter Tryz.func22, Tryz.ntmps22
  go_wp2_with (go_at_call 35; refine (checked_any id t _ _ (hG.same smK) hc (hr.same smK) hok).mono ?_; rintro e w1 ⟨rfl, hkL⟩; rw [HR.out, hev]; have hGL := hG.same (Keep.trans smK hkL); have gT := hGL.tree; have gF := hGL.form)
  obtain ⟨hb1, c1, t1, o1⟩ := hGL.obj E.form (.inr (.inl rfl))
  obtain ⟨hb2, c2, t2, o2⟩ := hGL.obj E.tree (.inl rfl)
  refine (is_other E.form E.tree c1 c2 t1 t2 _ (fun e => hG.apart.1 e.symm) o1 o2).mono ?_
  rintro e w2 ⟨rfl, h9⟩; replace h9 := h9.symm; subst h9
  clear o1 o2 hb1 hb2
  go_wp2_with fail
  refine (is_same E.form _).mono ?_
  rintro e w2 ⟨rfl, h9⟩; replace h9 := h9.symm; subst h9
  go_wp2
  go_ret
  exact ⟨by rw [HR.out]; rfl, smK⟩
 ·have hev : errOf E 0 = .nilIface := rfl
  go_enter Tryz.func22, Tryz.ntmps22
  go_wp2_with (go_at_call 35; refine (checked_any id t _ _ (hG.same smK) hc (hr.same smK) hok).mono ?_; rintro e w1 ⟨rfl, hkL⟩; rw [HR.out, hev]; have hGL := hG.same (Keep.trans smK hkL); have gT := hGL.tree; have gF := hGL.form)
  refine (is_nil E.tree _).mono ?_
  rintro e w2 ⟨rfl, h9⟩; replace h9 := h9.symm; subst h9
  go_wp2_with fail
  refine (is_nil E.form _).mono ?_
  rintro e w2 ⟨rfl, h9⟩; replace h9 := h9.symm; subst h9
  go_wp2
  go_ret
  exact ⟨by rw [HR.out]; rfl, smK⟩
set_option maxRecDepth 100000 in
theorem treeRight_any {N : Nat} {E : Errs} (t : Tree) (lv : Value) (w : World) (hG : Glob N E w) (hc : t.depth ≤ 1099511627776) (hr : RepS AnyB w t.l lv) (hok : t.hd.ok) :
  Calls Tryz.prog 27 #[nodeV t.hd lv] w fun e w' => e = .returned (.bool (!decide (checkT t 2 = 60))) ∧ Same w w' := by
 obtain ⟨a, cap, rfl⟩ := hr.is_slice
 obtain ⟨r, hr0⟩ : ∃ r, checkT t 2 = r := ⟨_, rfl⟩
 have HR := Lib.hid hr0
 clear hr0
 go_enter Tryz.func27, Tryz.ntmps27
 go_wp2_with (go_at_call 22; refine (check_any 2 t _ _ (hG.same smK) hc (hr.same smK) hok).mono ?_; rintro e w1 ⟨rfl, hkL⟩; rw [HR.out])
 go_ret
 exact ⟨by rw [HR.out]; simp [bne, beq_int], smK⟩
end Go.Tm
namespace Go.Tm
open Go.RowKit Go.Proofs
def perr (E : Errs) (s : Nat) : Value := if s = 0 then .nilIface else if s = 1 then .iface errT (.pointer (some E.ptree)) else .iface errT (.pointer (some E.keys))
def toldN (s : Nat) : Int := if s = 0 then 0 else if s = 1 then 60 else 160
set_option maxRecDepth 100000 in
set_option maxHeartbeats 1000000 in
theorem told_any {N : Nat} {E : Errs} (s : Nat) (w : World) (hG : Glob N E w) (hs : s ≤ 2) :
  Calls Tryz.prog 29 #[perr E s] w fun e w' => e = .returned (.int .i64 (toldN s)) ∧ w' = w := by
 have gK := hG.keys
 have gP := hG.ptree
 obtain ⟨hb1, c1, t1, o1⟩ := hG.obj E.keys (.inr (.inr (.inl rfl)))
 obtain ⟨hb2, c2, t2, o2⟩ := hG.obj E.ptree (.inr (.inr (.inr rfl)))
 have hs2 : s = 0 ∨ s = 1 ∨ s = 2 := by omega
 rcases hs2 with rfl | rfl | rfl
 ·have hev : perr E 0 = .nilIface := rfl
  rw [hev]
  go_enter Tryz.func29, Tryz.ntmps29
  go_wp2_with fail
  refine (is_nil E.keys _).mono ?_
  rintro e w2 ⟨rfl, h9⟩; replace h9 := h9.symm; subst h9
  go_wp2_with fail
  refine (is_nil E.ptree _).mono ?_
  rintro e w2 ⟨rfl, h9⟩; replace h9 := h9.symm; subst h9
  go_wp2
  go_ret
  exact ⟨rfl, rfl⟩
 ·have hev : perr E 1 = .iface errT (.pointer (some E.ptree)) := rfl
  rw [hev]
  go_enter Tryz.func29, Tryz.ntmps29
  go_wp2_with fail
  refine (is_other E.ptree E.keys c2 c1 t2 t1 _ (fun e => hG.apart.2 e.symm) o2 o1).mono ?_
  rintro e w2 ⟨rfl, h9⟩; replace h9 := h9.symm; subst h9
  go_wp2_with fail
  refine (is_same E.ptree _).mono ?_
  rintro e w2 ⟨rfl, h9⟩; replace h9 := h9.symm; subst h9
  go_wp2
  go_ret
  exact ⟨rfl, rfl⟩
 ·have hev : perr E 2 = .iface errT (.pointer (some E.keys)) := rfl
  rw [hev]
  go_enter Tryz.func29, Tryz.ntmps29
  go_wp2_with fail
  refine (is_same E.keys _).mono ?_
  rintro e w2 ⟨rfl, h9⟩; replace h9 := h9.symm; subst h9
  go_wp2
  go_ret
  exact ⟨rfl, rfl⟩
set_option maxRecDepth 100000 in
set_option maxHeartbeats 1000000 in
theorem fails_any {N : Nat} {E : Errs} (s e b : Nat) (w : World) (hG : Glob N E w) (hs : s ≤ 2) (he : e = 1 ∨ e = 2) (hb : w.heap[b]? = some (.cells #[perr E s] 47 (0, 0))) :
  Calls Tryz.prog 28 #[.pointer (some ⟨b, 0, none⟩), perr E e] w fun x w' => x = .returned (.tuple #[]) ∧ w'.heap[b]? = some (.cells #[perr E (max s e)] 47 (0, 0)) ∧ Keep (fun k _ => k ≠ b) w w' := by
 have gK := hG.keys
 obtain ⟨hb1, q1, t1, o1⟩ := hG.obj E.keys (.inr (.inr (.inl rfl)))
 obtain ⟨hb2, q2, t2, o2⟩ := hG.obj E.ptree (.inr (.inr (.inr rfl)))
 have c0 := cells1 hb
 have hfz : ∀ j, w.frozen? ⟨b, j, none⟩ = false := Lib.frozen_of_heap hb
 by_cases h0 : s = 0
 ·subst h0
  have hev : perr E 0 = .nilIface := rfl
  rw [hev] at c0
  have hmx : max 0 e = e := by omega
  obtain ⟨av, hav⟩ : ∃ av : Addr, perr E e = .iface errT (.pointer (some av)) := by
   rcases he with rfl | rfl <;> exact ⟨_, rfl⟩
  rw [hmx, hav]
  clear hmx
  go_enter Tryz.func28, Tryz.ntmps28
  go_wp2
  go_end0
  exact ⟨rfl, setCell_heap hb 0 _, (Keep.refl _ _).setCell _ fun o _ h _ => h rfl⟩
 ·obtain ⟨av, hav⟩ : ∃ av : Addr, perr E s = .iface errT (.pointer (some av)) := by
   have : s = 1 ∨ s = 2 := by omega
   rcases this with rfl | rfl <;> exact ⟨_, rfl⟩
  rw [hav] at c0
  rcases he with rfl | rfl
  ·have hmx : max s 1 = s := by omega
   have hev : perr E 1 = .iface errT (.pointer (some E.ptree)) := rfl
   rw [hev, hmx]
   go_enter Tryz.func28, Tryz.ntmps28
   go_wp2_with fail
   refine (is_other E.ptree E.keys q2 q1 t2 t1 _ (fun e => hG.apart.2 e.symm) o2 o1).mono ?_
   rintro x w2 ⟨rfl, h9⟩; replace h9 := h9.symm; subst h9
   go_wp2
   go_end0
   exact ⟨rfl, hb, Keep.refl _ _⟩
  ·have hmx : max s 2 = 2 := by omega
   have hev : perr E 2 = .iface errT (.pointer (some E.keys)) := rfl
   rw [hmx, hev]
   go_enter Tryz.func28, Tryz.ntmps28
   go_wp2_with fail
   refine (is_same E.keys _).mono ?_
   rintro x w2 ⟨rfl, h9⟩; replace h9 := h9.symm; subst h9
   go_wp2
   go_end0
   exact ⟨rfl, setCell_heap hb 0 _, (Keep.refl _ _).setCell _ fun o _ h _ => h rfl⟩
end Go.Tm
namespace Go.Tm
open Go.RowKit Go.Proofs
def BytesAt (w : World) (b o : Nat) (ys : List Nat) : Prop := ∀ k, k < ys.length → w.cell? ⟨b, o + k, none⟩ = some (.int .u8 (nth ys k))
theorem BytesAt.keep {S : Nat → Obj → Prop} {w w' : World} {b o : Nat} {ys : List Nat} (h : BytesAt w b o ys) (hk : Keep S w w') (hS : ∀ o', w.heap[b]? = some o' → S b o') : BytesAt w' b o ys := fun k hlt => hk.cell (h k hlt) hS
def turnedN (tb : Nat) (xs : List Nat) : List Nat := outs tb 8 (0, 0) xs ++ if 0 < (finAt tb 8 xs xs.length).2 then [(finAt tb 8 xs xs.length).1 * 2 ^ (tb - (finAt tb 8 xs xs.length).2)] else []
def signsOf (ys ns : List Nat) : List Nat := ns.map (nth ys)
theorem outs1_lt (tb : Nat) (s : St) : ∀ x ∈ outs1 tb s, x < 2 ^ tb := by
 intro x hx
 obtain ⟨j, hj, rfl⟩ := List.mem_map.1 hx
 have hj := List.mem_range.1 hj
 have h0 : 0 < tb := by
  rcases Nat.eq_zero_or_pos tb with h | h
  ·subst h; simp at hj
  ·exact h
 have h1 : (j + 1) * tb ≤ s.2 := (Nat.le_div_iff_mul_le h0).1 hj
 rw [Nat.succ_mul] at h1 ⊢
 have h2 : s.2 - j * tb = (s.2 - (j * tb + tb)) + tb := by omega
 rw [h2, Nat.pow_add]
 exact Nat.div_lt_of_lt_mul (Nat.mod_lt _ (Nat.mul_pos (Nat.two_pow_pos _) (Nat.two_pow_pos _)))
theorem outs_lt (tb fr : Nat) : ∀ (s : St) (xs : List Nat), ∀ x ∈ outs tb fr s xs, x < 2 ^ tb
 | _, [], _, h => by simp [outs] at h
 | s, y :: xs, x, h => by
  simp only [outs, List.mem_append] at h
  rcases h with h | h
  ·exact outs1_lt tb _ x h
  ·exact outs_lt tb fr _ xs x h
theorem nth_lt_of (l : List Nat) (b : Nat) (hb : 0 < b) (h : ∀ x ∈ l, x < b) (k : Nat) : nth l k < b := by
 unfold nth
 rw [List.getD_eq_getElem?_getD]
 cases e : l[k]? with
 | none => exact hb
 | some x => exact h x (List.mem_of_getElem? e)
theorem signs_take (ys xs : List Nat) (k : Nat) (h : k < xs.length) : signsOf ys (xs.take (k + 1)) = signsOf ys (xs.take k) ++ [nth ys (nth xs k)] := by
 rw [take_nth xs k h]; simp [signsOf]
theorem shl_val (n d : Nat) (hn : n < 256) (hd : d ≤ 8) : IntKind.u64.wrap ((n : Int) * 2 ^ d) = ((n * 2 ^ d : Nat) : Int) := by
 have h2 := pow_le d 8 hd
 have h3 : n * 2 ^ d ≤ 255 * 256 := Nat.mul_le_mul (by omega) h2
 have e : ((n : Int) * 2 ^ d) = ((n * 2 ^ d : Nat) : Int) := by push_cast; rfl
 rw [e, wrap_u64 (by omega) (by omega)]
theorem isB_keep {S : Nat → Obj → Prop} {B b : Nat} {xs : List Nat} {w w' : World} (h : Bld B b xs w) (hk : Keep S w w') (h1 : ∀ c f, S b (.cells c 195 f)) (h2 : ∀ g c f, B ≤ g → w.heap[g]? = some (.cells c 5 f) → S g (.cells c 5 f)) : Bld B b xs w' := by
 have key : ∀ p, Lib.BuilderAt 195 5 B b p (byteVals xs) w → Lib.BuilderAt 195 5 B b p (byteVals xs) w' := by
  rintro p ⟨hB, v, hb, hown, hne⟩
  refine ⟨hB, v, hk.same _ _ hb (h1 _ _), ⟨hown.1, ?_⟩, hne⟩
  rcases hown.2 with h | ⟨g, cap, cur, hv, hg, hgg, rest⟩
  ·exact .inl h
  ·exact .inr ⟨g, cap, cur, hv, hg, hk.same _ _ hgg (h2 _ _ _ hg hgg), rest⟩
 rcases h with h | h
 ·exact .inl (key _ h)
 ·exact .inr (key _ h)
theorem bldString_any (B b : Nat) (xs : List Nat) (w : World) (h : Bld B b xs w) (hx : ∀ x ∈ xs, x < 256) (hB : B ≤ w.heap.size) :
  Calls Tryz.prog 162 #[.pointer (some ⟨b, 0, none⟩)] w fun e w' => e = .returned (.string (strN xs)) ∧ Keep (fun k o => k < B ∨ (k ≠ b ∧ ∀ c f, o ≠ .cells c 5 f)) w w' := by
 unfold Bld at h
 rw [byteVals_cells xs hx] at h
 refine (Tryz.Builder_String_any_k B b _ w (Lib.IsBuilderF.of h) hB).mono ?_
 rintro e w' ⟨rfl, _, hb, ho⟩
 refine ⟨rfl, hb.os, hb.tape, hb.output, hb.size, fun k o hk hs => ?_⟩
 rcases hs with hs | ⟨h1, h2⟩
 ·exact (hb.block k hs).trans hk
 ·exact ho k o hk (by simpa using h1) h2
set_option maxRecDepth 100000 in
set_option maxHeartbeats 2000000 in
theorem turned_any (s : ByteArray) (tb sb so cap : Nat) (ys : List Nat) (w : World) (hto : 1 ≤ tb) (hto8 : tb ≤ 8) (hyl : Hid (ys.length = 2 ^ tb)) (hs : s.size ≤ 1073741824) (hB : BytesAt w sb so ys) (hsb : sb < w.heap.size) (hy : ∀ k, nth ys k < 256) :
  Calls Tryz.prog 211 #[.string s, .int .i64 tb, .slice (some ⟨sb, so, none⟩) ys.length cap] w fun e w' =>
   e = .returned (.string (strN (signsOf ys (turnedN tb (bytesN s))))) ∧ Same w w' := by
 refine (callsIn_wide (n := 0)).1 ?_
 refine callsIn_of_wp_marks Tryz.func211 rfl trivial ?_ rfl
 simp only [Tryz.ntmps211, List.size_toArray, List.length_cons, List.length_nil, Nat.reduceAdd, Nat.reduceSub, Array.replicate_succ, Array.replicate_zero, List.push_toArray, List.append_toArray, List.nil_append, List.cons_append]
 gi_wp2_with (first
  | (gi_at_call 242; refine (callsW (each_any s _)).mono ?_; rintro e w' ⟨rfl, rfl⟩)
  | (gi_at_call 241; refine (callsW (pieces_any _ _ 277 _ _)).mono ?_; rintro e w' ⟨rfl, rfl⟩))
 generalize hW1 : World.alloc _ (.cells #[.int .i64 8] 3) = W1
 have hz : W1.heap.size = w.heap.size + 7 := by rw [← hW1]; simp
 have hk1 : Same w W1 := by rw [← hW1]; exact ((((((((Keep.refl _ w).alloc _).alloc _).alloc _).alloc _).alloc _).alloc _).alloc _)
 have b0 : Boxed W1 w.heap.size 138 (.slice (some ⟨sb, so, none⟩) ys.length cap) := by rw [← hW1]; repeat (first | exact heap_new' (by simp) | refine heap_old ?_)
 have b1 : Bld w.heap.size (w.heap.size + 1) [] W1 := by
  refine .inl ⟨by omega, .slice none 0 0, ?_, World.ownsRow_nil _ _ _ _, by simp [Value.ownBlock]⟩
  rw [← hW1]; repeat (first | exact heap_new' (by simp) | refine heap_old ?_)
 have b2 : Turner W1 (w.heap.size + 1 + 1) 0 0 tb := by rw [← hW1]; repeat (first | exact heap_new' (by simp) | refine heap_old ?_)
 have b3 : Boxed W1 (w.heap.size + 1 + 1 + 1) 9 (.string s) := by rw [← hW1]; repeat (first | exact heap_new' (by simp) | refine heap_old ?_)
 have b4 : Boxed W1 (w.heap.size + 1 + 1 + 1 + 1) 284 (.pointer (some ⟨w.heap.size + 1 + 1, 0, none⟩)) := by rw [← hW1]; repeat (first | exact heap_new' (by simp) | refine heap_old ?_)
 have b5 : Boxed W1 (w.heap.size + 1 + 1 + 1 + 1 + 1) 290 (.func (.func 277) #[] #[.pointer (some ⟨w.heap.size + 1 + 1 + 1, 0, none⟩)]) := by rw [← hW1]; repeat (first | exact heap_new' (by simp) | refine heap_old ?_)
 have b6 : Boxed W1 (w.heap.size + 1 + 1 + 1 + 1 + 2) 3 (.int .i64 ((8 : Nat) : Int)) := by rw [← hW1]; repeat (first | exact heap_new' (by simp) | refine heap_old ?_)
 clear hW1
 have hB1 : BytesAt W1 sb so ys := hB.keep hk1 fun _ _ => trivial
 have hsz := bytesN_length s
 have hbl := bytesN_lt s
 have hx : ∀ i, nth (bytesN s) i < 2 ^ 8 := nth_lt s
 obtain ⟨N, hN⟩ : ∃ N, (outs tb 8 (0, 0) (bytesN s)).length = N := ⟨_, rfl⟩
 have hNle : N ≤ 8 * s.size := by
  have h1 := outs_len tb 8 (0, 0) (bytesN s)
  rw [hsz, hN] at h1
  have h2 : N ≤ N * tb := Nat.le_mul_of_pos_right _ (by omega)
  omega
 have hol : ∀ i, nth (outs tb 8 (0, 0) (bytesN s)) i < ys.length := fun i => by rw [hyl.out]; exact nth_lt_of _ _ (Nat.two_pow_pos _) (outs_lt tb 8 _ _) i
 have Hsz := Lib.hid hsz
 have HN := Lib.hid hN
 clear hsz hN
 refine wp_rangeS (gf := 274) (lb := #[.pointer (some ⟨w.heap.size + 1 + 1 + 1 + 1 + 1, 0, none⟩), .pointer (some ⟨w.heap.size + 1 + 1 + 1 + 1, 0, none⟩), .pointer (some ⟨w.heap.size + 1 + 1 + 1 + 1 + 2, 0, none⟩)])
  rfl (enters_of Tryz.func274 (by kernel_rfl) rfl) N (fun i v _ => v = #[.int .u64 (nth (outs tb 8 (0, 0) (bytesN s)) i)]) (BldS w.heap.size (w.heap.size + 1)) (fun b o => (b ≠ w.heap.size + 1 + 1 ∨ ∀ c f, o ≠ .cells c 288 f) ∧ (b < w.heap.size + 9 ∨ o.isCells = true))
  (fun A => Turner A (w.heap.size + 1 + 1) (finAt tb 8 (bytesN s) (bytesN s).length).1 (finAt tb 8 (bytesN s) (bytesN s).length).2 tb ∧ True) (fun _ _ => True) ?hit ?hSb ?hSi
  (fun i A => Bld w.heap.size (w.heap.size + 1) (signsOf ys ((outs tb 8 (0, 0) (bytesN s)).take i)) A ∧ Boxed A w.heap.size 138 (.slice (some ⟨sb, so, none⟩) ys.length cap) ∧ BytesAt A sb so ys)
  (fun _ _ _ => False) ?hI (fun _ _ _ _ h _ => h) (fun _ _ _ _ h _ => h) ?hFin (fun _ _ _ _ _ => trivial) (fun i v A h => by rw [h]; rfl) ⟨b1, b0, hB1⟩ ?hround ?hdone (fun _ _ _ _ _ _ h => h.elim)
 case hit =>
  intro W2 hk2 hz2
  rw [← HN.out]
  refine pieces1_iter tb 8 hto hto8 (by omega) (w.heap.size + 1 + 1) (w.heap.size + 1 + 1 + 1 + 1) (w.heap.size + 1 + 1 + 1 + 1 + 1) (w.heap.size + 1 + 1 + 1 + 1 + 2) 277 #[.pointer (some ⟨w.heap.size + 1 + 1 + 1, 0, none⟩)] (bytesN s) hx
   (BldS w.heap.size (w.heap.size + 1)) (fun b o => (b ≠ w.heap.size + 1 + 1 ∨ ∀ c f, o ≠ .cells c 288 f) ∧ (b < w.heap.size + 9 ∨ o.isCells = true)) (fun _ _ => True) (fun _ => True) W2
   (b2.keep hk2 fun _ => trivial) (hk2.boxed b4 trivial) ((hk2.boxed b5 trivial).cell) (hk2.boxed b6 trivial) ⟨by omega, by omega⟩ ?_ ?_ ?_ (fun _ _ _ _ => trivial) (enters_of Tryz.func277 (by kernel_rfl) rfl) ?_ (fun _ _ _ _ => trivial)
  ·exact ⟨fun c f => ⟨by omega, .inr (by simp)⟩, fun c f => ⟨by omega, .inr (by simp)⟩, fun c f => ⟨by omega, .inr (by simp)⟩⟩
  ·rintro b o hb (ho | ⟨c, f, rfl⟩)
   ·exact ⟨by omega, .inr fun c f e => by subst e; cases ho⟩
   ·exact ⟨by omega, .inr (by simp)⟩
  ·rintro b o ⟨h1, h2⟩
   refine ⟨fun c f e => ?_, h2.imp (fun h => by omega) id, trivial⟩
   rcases h1 with h1 | h1
   ·exact h1
   ·exact absurd e (h1 c f)
  ·rintro l W3 ⟨r, hl⟩ hk3 _
   have b33 := hk3.boxed (hk2.boxed b3 trivial) trivial
   rw [Hsz.out]
   exact each1_iter s _ _ _ W3 (by omega) b33 fun c f => ⟨cell_ne_loop (hk2.boxed b3 trivial).cell hl, by omega, by omega, .inr (by simp)⟩
 case hSb =>
  intro b o hb ho
  exact ⟨by omega, .inr fun c f e => by subst e; cases ho⟩
 case hSi =>
  intro b o hb hb2 ho
  exact ⟨.inl (by omega), .inl (by omega)⟩
 case hI =>
  rintro i A B ⟨h1, h2, h3⟩ hk
  refine ⟨isB_keep h1 hk (fun c f => ⟨.inr rfl, .inl (by omega), .inr rfl⟩) (fun g c f _ _ => ⟨.inr rfl, .inr (by simp), .inr rfl⟩), hk.boxed h2 ⟨.inr rfl, .inl (by omega), .inr rfl⟩, h3.keep hk fun o _ => ⟨.inl (by omega), .inl (by omega), .inl (by omega)⟩⟩
 case hFin =>
  rintro A B ⟨h, _⟩ hk
  exact ⟨h.keep hk fun o => .inl (by omega), trivial⟩
 case hround =>
  intro i v hv
  obtain ⟨x, rfl⟩ := size_one rfl hv
  apply Exists.intro
  apply And.intro
  ·intro l2 A K hK
   gi_wp2
   exact hK
  ·rintro l2 A hl2 _ hi ⟨h1, h2, h3⟩ hxv
   obtain rfl : x = .int .u64 (nth (outs tb 8 (0, 0) (bytesN s)) i) := by simpa using hxv
   have c0 := h2.cell
   have c1 := h3 _ (hol i)
   have hlt := hol i
   have hl : (signsOf ys ((outs tb 8 (0, 0) (bytesN s)).take i)).length ≤ N := by rw [← HN.out]; simp [signsOf]; omega
   gi_wp2
   refine (callsR l2 (writeByte_any _ _ _ _ A h1 (by omega) (by have := (bld_le h1).2; omega))).mono ?_
   rintro e w2 ⟨rfl, hb2, hk2⟩
   gi_wp2
   refine ⟨hk2, ?_, hk2.boxed h2 ⟨by omega, .inr (by simp)⟩, h3.keep hk2 fun o _ => ⟨by omega, .inl hsb⟩⟩
   rw [signs_take _ _ _ (by rw [HN.out]; exact hi)]
   exact hb2
 case hdone =>
  rintro D A hD ⟨h1, h2, h3⟩ ⟨h4, _⟩ hk hDB
  have hok := finAt_ok tb 8 (bytesN s) hto (bytesN s).length (Nat.le_refl _)
  have hfin : signsOf ys (turnedN tb (bytesN s)) = signsOf ys (outs tb 8 (0, 0) (bytesN s)) ++ signsOf ys (if 0 < (finAt tb 8 (bytesN s) (bytesN s).length).2 then [(finAt tb 8 (bytesN s) (bytesN s).length).1 * 2 ^ (tb - (finAt tb 8 (bytesN s) (bytesN s).length).2)] else []) := by simp [turnedN, signsOf]
  rw [← HN.out, List.take_length] at h1
  obtain ⟨f, hf⟩ : ∃ f, finAt tb 8 (bytesN s) (bytesN s).length = f := ⟨_, rfl⟩
  rw [hf] at hok hfin h4
  obtain ⟨n, c⟩ := f
  have Hfin := Lib.hid hfin
  clear hf hfin
  simp only at hok h4 Hfin
  have k0 := h4.c0
  have k1 := h4.c1
  have c0 := h2.cell
  have hAz := hk.size
  have hb256 : ∀ x ∈ signsOf ys (turnedN tb (bytesN s)), x < 256 := by
   intro x hx
   obtain ⟨i, _, rfl⟩ := List.mem_map.1 hx
   exact hy i
  have hkA : Same w A := ⟨hk.os.trans hk1.os, hk.tape.trans hk1.tape, hk.output.trans hk1.output, by omega, fun b o hb _ => hk.same b o (hk1.same b o hb trivial) (by have := lt_of_some hb; exact ⟨⟨by omega, .inl this⟩, .inl (by omega), .inl (by omega)⟩)⟩
  have bye : ∀ (A1 : World) (xs : List Nat), Same w A1 → A1.heap[D]? = some (.deferred (some [])) → Bld w.heap.size (w.heap.size + 1) xs A1 → xs = signsOf ys (turnedN tb (bytesN s)) → w.heap.size ≤ A1.heap.size →
    Calls Tryz.prog 162 #[.pointer (some ⟨w.heap.size + 1, 0, none⟩)] A1 fun e w' => e = .returned (.string (strN (signsOf ys (turnedN tb (bytesN s))))) ∧ Same w (w'.putObj D (.deferred none)) ∧ w'.heap[D]? = some (.deferred (some [])) := by
   rintro A1 xs hs1 hD1 hb1 rfl hz1
   refine (bldString_any _ _ _ A1 hb1 hb256 hz1).mono ?_
   rintro e w' ⟨rfl, hk'⟩
   refine ⟨rfl, ?_, hk'.same _ _ hD1 (.inr ⟨by omega, by simp⟩)⟩
   have h1 : Same w w' := ⟨hk'.os.trans hs1.os, hk'.tape.trans hs1.tape, hk'.output.trans hs1.output, Nat.le_trans hs1.size hk'.size, fun b o hb _ => hk'.same b o (hs1.same b o hb trivial) (.inl (lt_of_some hb))⟩
   exact h1.putObj _ fun o _ _ h => by omega
  by_cases hc : 0 < c
  ·rw [if_pos hc] at Hfin
   have k1 := k1
   have hn2 : n * 2 ^ (tb - c) < ys.length := by
    rw [hyl.out, show tb = c + (tb - c) by omega, Nat.pow_add, show c + (tb - c) - c = tb - c by omega]
    exact Nat.mul_lt_mul_of_pos_right hok.2 (Nat.two_pow_pos _)
   have hshl := shl_val n (tb - c) (by have := pow_le c 8 (by omega); omega) (by omega)
   have c3 := h3 _ hn2
   obtain ⟨m, hm⟩ : ∃ m, n * 2 ^ (tb - c) = m := ⟨_, rfl⟩
   obtain ⟨d, hd⟩ : ∃ d, tb - c = d := ⟨_, rfl⟩
   obtain rfl : tb = d + c := by omega
   rw [hm] at hn2 c3 hshl Hfin
   rw [hd] at hshl
   clear hm hd
   have hwd : IntKind.i64.wrap (d : Int) = d := IntWalk.i64_in _ (by omega)
   have hl : (signsOf ys (outs (d + c) 8 (0, 0) (bytesN s))).length ≤ N := by rw [← HN.out]; simp [signsOf]
   gi_wp2
   refine wpIn_region_text (fun A' => A'.cell? ⟨w.heap.size, 0, none⟩ = some (.slice (some ⟨sb, so, none⟩) ys.length cap) ∧ A'.cell? ⟨w.heap.size + 1 + 1, 0, none⟩ = some (.int .u64 n) ∧ A'.cell? ⟨w.heap.size + 1 + 1, 1, none⟩ = some (.int .i64 c) ∧ A'.cell? ⟨sb, so + m, none⟩ = some (.int .u8 (nth ys m))) reads (fun _ => trivial) rfl
    (by kernel_rfl) (by kernel_rfl) ⟨c0, k0, k1, c3⟩ ?_
   repeat (refine wpT_x rfl rfl ?_; intro K hK w' ⟨e1, e2, e3, e4⟩; go_simp; refine hK _ _ ?_; clear hK K e1 e2 e3 e4 w')
   refine wpT_c rfl rfl ?_
   intro K hK
   go_simp
   refine (callsW (writeByte_any _ _ _ _ A.drew h1 (by omega) (by show _ ≤ A.heap.size; omega))).mono ?_
   rintro e w2 ⟨rfl, hb2, hk2⟩
   have c02 := (hk2.boxed (w := A.drew) h2 ⟨by omega, .inr (by simp)⟩).cell
   have h42 : Turner w2 (w.heap.size + 1 + 1) n c (d + c) := hk2.same _ _ h4 ⟨by omega, .inr (by simp)⟩
   have h32 : BytesAt w2 sb so ys := BytesAt.keep (w := A.drew) h3 hk2 fun o _ => ⟨by omega, .inl hsb⟩
   refine hK _ _ ⟨c02, h42.c0, h42.c1, h32 _ hn2⟩ ?_
   clear hK K
   refine wpT_nil ?_
   have hkA2 : Same w w2 := ⟨hk2.os.trans hkA.os, hk2.tape.trans hkA.tape, hk2.output.trans hkA.output, Nat.le_trans hkA.size hk2.size, fun b o hb _ => hk2.same b o (hkA.same b o hb trivial) (by have := lt_of_some hb; exact ⟨by omega, .inl this⟩)⟩
   have hDB2 : w2.heap[D]? = some (.deferred (some [])) := hk2.same _ _ hDB ⟨by omega, .inr (by simp)⟩
   have hz2 := hkA2.size
   gi_wp2_with (gi_at_call 162; refine (callsW (bye w2 _ hkA2 hDB2 hb2 (by rw [Hfin.out]; simp [signsOf]) hz2)).mono ?_; rintro e w' ⟨rfl, hs', hd'⟩)
   refine ⟨by simp, .inl ⟨_, _, rfl, run_takeDeferred hd', ?_⟩⟩
   exact ⟨_, results_tmp rfl _ _ _, rfl, hs'⟩
  ·obtain rfl : c = 0 := by omega
   gi_wp2_with (gi_at_call 162; refine (callsW (bye A _ hkA hDB h1 (by rw [Hfin.out]; simp [signsOf]) (by omega))).mono ?_; rintro e w' ⟨rfl, hs', hd'⟩)
   refine ⟨by simp, .inl ⟨_, _, rfl, run_takeDeferred hd', ?_⟩⟩
   exact ⟨_, results_tmp rfl _ _ _, rfl, hs'⟩
end Go.Tm
namespace Go.Tm
open Go.RowKit Go.Proofs
def signN (k : Nat) : Nat := if k < 26 then 65 + k else if k < 52 then 97 + k - 26 else if k < 62 then 48 + k - 52 else if k = 62 then 45 else 95
def lettersN : List Nat := (List.range 64).map signN
def arrAt (k : Nat) : Array Value := ((List.range 64).map fun j : Nat => Value.int .u8 ((if j < k then signN j else 0 : Nat) : Int)).toArray
theorem arrAt_size (k : Nat) : (arrAt k).size = 64 := by simp [arrAt]
theorem arrAt_get (k j : Nat) (h : j < 64) : (arrAt k)[j]? = some (.int .u8 ((if j < k then signN j else 0 : Nat) : Int)) := by
 simp [arrAt, h]
theorem arrAt_succ (k : Nat) (h : k < 64) : (arrAt k).setIfInBounds k (.int .u8 (signN k : Nat)) = arrAt (k + 1) := by
 apply Array.ext_getElem?
 intro j
 rw [Array.getElem?_setIfInBounds]
 by_cases hj : j < 64
 ·rw [arrAt_get _ _ hj, arrAt_get _ _ hj, arrAt_size]
  by_cases e : k = j
  ·subst e; simp [h]
  ·have : (j < k + 1) ↔ j < k := by omega
   simp [e, this]
 ·have h1 : (arrAt k)[j]? = none := by simp [arrAt, hj]
  have h2 : (arrAt (k + 1))[j]? = none := by simp [arrAt, hj]
  rw [h1, h2]
  simp; omega
theorem row_setCell {w : World} {b k : Nat} {c : Array Value} {u : Value} {t : TypeId} {fr : Nat × Nat} (h : w.heap[b]? = some (.cells c t fr)) : (w.setCell ⟨b, k, none⟩ u).heap[b]? = some (.cells (c.setIfInBounds k u) t fr) := by
 have hlt := lt_of_block h
 have h' : w.heap[b] = .cells c t fr := by simpa [Array.getElem?_eq_getElem hlt] using h
 show (w.heap.modify b _)[b]? = _
 rw [Array.getElem?_eq_getElem (by simpa using hlt), Array.getElem_modify_self, h']
 rfl
theorem arr_agg (k : Nat) : (arrAt k).all (·.oneCell') = true := by
 rw [Array.all_eq_true]
 intro i hi
 have := arrAt_get k i (by rw [arrAt_size] at hi; exact hi)
 rw [Array.getElem?_eq_getElem hi] at this
 rw [Option.some.inj this]; rfl
theorem arr_info : (Tryz.prog.info? 231).map (·.size) = some 64 := by kernel_rfl
set_option maxRecDepth 100000 in
set_option maxHeartbeats 1000000 in
theorem letters_any (w : World) : Calls Tryz.prog 210 #[] w fun e w' => e = .returned (.agg (arrAt 64)) ∧ Same w w' := by
 go_enter Tryz.func210, Tryz.ntmps210
 go_wp2
 have h0 : arrAt 0 = #[.int .u8 0, .int .u8 0, .int .u8 0, .int .u8 0, .int .u8 0, .int .u8 0, .int .u8 0, .int .u8 0, .int .u8 0, .int .u8 0, .int .u8 0, .int .u8 0, .int .u8 0, .int .u8 0, .int .u8 0, .int .u8 0, .int .u8 0, .int .u8 0, .int .u8 0, .int .u8 0, .int .u8 0, .int .u8 0, .int .u8 0, .int .u8 0, .int .u8 0, .int .u8 0, .int .u8 0, .int .u8 0, .int .u8 0, .int .u8 0, .int .u8 0, .int .u8 0, .int .u8 0, .int .u8 0, .int .u8 0, .int .u8 0, .int .u8 0, .int .u8 0, .int .u8 0, .int .u8 0, .int .u8 0, .int .u8 0, .int .u8 0, .int .u8 0, .int .u8 0, .int .u8 0, .int .u8 0, .int .u8 0, .int .u8 0, .int .u8 0, .int .u8 0, .int .u8 0, .int .u8 0, .int .u8 0, .int .u8 0, .int .u8 0, .int .u8 0, .int .u8 0, .int .u8 0, .int .u8 0, .int .u8 0, .int .u8 0, .int .u8 0, .int .u8 0] := by rfl
 rw [← h0]
 clear h0
 generalize hW1 : World.alloc _ (.cells (arrAt 0) 231) = W1
 have hk1 : Same w W1 := by rw [← hW1]; exact ((Keep.refl _ w).alloc _).alloc _
 have hz : W1.heap.size = w.heap.size + 2 := by rw [← hW1]; simp
 have b0 : W1.heap[w.heap.size]? = some (.cells (arrAt 0) 231 (0, 0)) := by rw [← hW1]; exact heap_old (heap_new' rfl)
 have b1 : W1.heap[w.heap.size + 1]? = some (.cells (arrAt 0) 231 (0, 0)) := by rw [← hW1]; exact heap_new' (by simp)
 clear hW1
 go_loopw [2, 3] (fun i s wr => ∃ k : Nat, k ≤ 64 ∧ i = .int .i64 k ∧ s = .string (if k ≤ 62 then ⟨#[]⟩ else ⟨#[45, 95]⟩) ∧ Same w wr ∧ wr.heap[w.heap.size]? = some (.cells (arrAt 0) 231 (0, 0)) ∧ wr.heap[w.heap.size + 1]? = some (.cells (arrAt k) 231 (0, 0)))
  (fun i _ _ => 64 - (RowKit.intOf i).toNat)
 case atStart => exact ⟨0, by omega, rfl, rfl, hk1, b0, b1⟩
 case round =>
  obtain ⟨k, hk, rfl, rfl, hs, hb0, hb1⟩ := hrel
  by_cases hlt : k < 64
  ·have hc1 : wr.cell? ⟨w.heap.size + 1, k, none⟩ = some (.int .u8 0) := by rw [Lib.cell_of_heap hb1, arrAt_get _ _ hlt]; simp
   have hf1 : wr.frozen? ⟨w.heap.size + 1, k, none⟩ = false := Lib.frozen_of_heap hb1 _
   have next : ∀ x : Int, x = ((signN k : Nat) : Int) → Same w (wr.setCell ⟨w.heap.size + 1, k, none⟩ (.int .u8 x)) ∧ (wr.setCell ⟨w.heap.size + 1, k, none⟩ (.int .u8 x)).heap[w.heap.size]? = some (.cells (arrAt 0) 231 (0, 0)) ∧ (wr.setCell ⟨w.heap.size + 1, k, none⟩ (.int .u8 x)).heap[w.heap.size + 1]? = some (.cells (arrAt (k + 1)) 231 (0, 0)) := by
    rintro x rfl
    refine ⟨hs.setCell _ fun o _ _ h => by simp at h; omega, ?_, ?_⟩
    ·rw [Below.heap_setCell _ _ _ _ (by show w.heap.size ≠ w.heap.size + 1; omega)]; exact hb0
    ·rw [row_setCell hb1, arrAt_succ k hlt]
   have Next := Lib.hid next
   clear next hs hb0 hb1
   by_cases h1 : k < 26
   ·have hw8 : IntKind.u8.wrap (65 + (k : Int)) = 65 + (k : Int) := by simp [IntKind.wrap, IntKind.bits, IntKind.signed]; omega
    have hss : (if k ≤ 62 then (⟨#[]⟩ : ByteArray) else ⟨#[45, 95]⟩) = ⟨#[]⟩ := if_pos (by omega)
    rw [hss]
    go_wp2
    go_roundw
    case rel =>
     refine ⟨k + 1, by omega, by go_num, by rw [if_pos (by omega)], Next.out _ ?_⟩
     simp [signN, h1]
    case measure => simp [RowKit.intOf]; omega
   ·by_cases h2 : k < 52
    ·have hw8 : IntKind.u8.wrap (97 + (k : Int) - 26) = 97 + (k : Int) - 26 := by simp [IntKind.wrap, IntKind.bits, IntKind.signed]; omega
     have hss : (if k ≤ 62 then (⟨#[]⟩ : ByteArray) else ⟨#[45, 95]⟩) = ⟨#[]⟩ := if_pos (by omega)
     rw [hss]
     go_wp2
     go_roundw
     case rel =>
      refine ⟨k + 1, by omega, by go_num, by rw [if_pos (by omega)], Next.out _ ?_⟩
      simp [signN, h1, h2]; omega
     case measure => simp [RowKit.intOf]; omega
    ·by_cases h3 : k < 62
     ·have hw8 : IntKind.u8.wrap (48 + (k : Int) - 52) = 48 + (k : Int) - 52 := by simp [IntKind.wrap, IntKind.bits, IntKind.signed]; omega
      have hss : (if k ≤ 62 then (⟨#[]⟩ : ByteArray) else ⟨#[45, 95]⟩) = ⟨#[]⟩ := if_pos (by omega)
      rw [hss]
      go_wp2
      go_roundw
      case rel =>
       refine ⟨k + 1, by omega, by go_num, by rw [if_pos (by omega)], Next.out _ ?_⟩
       simp [signN, h1, h2, h3]; omega
      case measure => simp [RowKit.intOf]; omega
     ·by_cases h4 : k = 62
      ·subst h4
       go_wp2
       go_roundw
       case rel =>
        refine ⟨62 + 1, by omega, by go_num, by rfl, Next.out _ ?_⟩
        rfl
       case measure => simp [RowKit.intOf]
      ·obtain rfl : k = 63 := by omega
       go_wp2
       go_roundw
       case rel =>
        refine ⟨63 + 1, by omega, by go_num, by rfl, Next.out _ ?_⟩
        rfl
       case measure => simp [RowKit.intOf]
  ·obtain rfl : k = 64 := by omega
   go_wp2_with (first
    | (refine wpList_load_row rfl 231 _ rfl (w.heap.size + 1) rfl 231 _ (0, 0) _ hb1 Tryz.underlying231 rfl (by rw [arr_info, arrAt_size]) ?_)
    | (refine wpList_store_row rfl 231 _ _ rfl w.heap.size (arrAt 64) rfl rfl 231 (arrAt 0) hb0 (by rw [arr_info, arrAt_size]) (by rw [arrAt_size, arrAt_size]) (arr_agg 64) ?_))
   have hrow : (wr.setRow w.heap.size (arrAt 64)).heap[w.heap.size]? = some (.cells (arrAt 64) 231 (0, 0)) := by
    have hlt' := lt_of_block hb0
    have h' : wr.heap[w.heap.size] = .cells (arrAt 0) 231 (0, 0) := by simpa [Array.getElem?_eq_getElem hlt'] using hb0
    show (wr.heap.modify w.heap.size _)[w.heap.size]? = _
    rw [Array.getElem?_eq_getElem (by simpa using hlt'), Array.getElem_modify_self, h']
   refine bodyPost_ret (v := .agg (arrAt 64)) (results_cell_row rfl _ _ w.heap.size 231 (arrAt 64) (0, 0) _ rfl hrow Tryz.underlying231 rfl (by rw [arr_info, arrAt_size])) rfl ⟨rfl, ?_⟩
   refine ⟨hs.os, hs.tape, hs.output, by have := hs.size; simpa [World.setRow] using this, fun b o hb _ => ?_⟩
   have := hs.same b o hb trivial
   show (wr.heap.modify w.heap.size _)[b]? = _
   rw [Array.getElem?_modify, if_neg (by have := lt_of_some hb; omega)]
   exact this
end Go.Tm
namespace Go.Tm
open Go.RowKit Go.Proofs
theorem letters_len : lettersN.length = 2 ^ 6 := by decide
theorem letters_lt (k : Nat) : nth lettersN k < 128 := nth_lt_of _ 128 (by omega) (by decide) k
def codeN (l : List Nat) : List Nat × Int := if l.length ≤ 400 then (signsOf lettersN (turnedN 6 l), 0) else ([], 30)
def two (r : List Nat × Int) : Value := .tuple #[.string (strN r.1), .int .i64 r.2]
theorem letters_at {w : World} {b : Nat} (h : w.heap[b]? = some (.cells (arrAt 64) 231 (0, 0))) : BytesAt w b 0 lettersN := by
 intro k hk
 have hk : k < 64 := by simpa [lettersN] using hk
 have e : (⟨b, 0 + k, none⟩ : Addr) = ⟨b, k, none⟩ := by simp
 rw [e, Lib.cell_of_heap h, arrAt_get _ _ hk]
 simp [nth, lettersN, hk]
set_option maxHeartbeats 1000000 in
theorem code_any (s : ByteArray) (w : World) (hs : s.size ≤ 1073741824) : Calls Tryz.prog 163 #[.string s] w fun e w' => e = .returned (two (codeN (bytesN s))) ∧ Same w w' := by
 have hsz := bytesN_length s
 by_cases h : s.size ≤ 400
 ·have hp : codeN (bytesN s) = (signsOf lettersN (turnedN 6 (bytesN s)), 0) := by unfold codeN; rw [if_pos (by omega)]
  clear hsz
  go_enter Tryz.func163, Tryz.ntmps163
  go_wp2_with (first
   | (go_at_call 210; refine (letters_any _).mono ?_; rintro e w1 ⟨rfl, hk1⟩)
   | (refine wpList_store_row rfl 231 _ _ rfl w1.heap.size (arrAt 64) rfl rfl 231 (arrAt 0) (heap_alloc_last _ _) (by rw [arr_info, arrAt_size]) (by rw [arrAt_size, arrAt_size]) (arr_agg 64) ?_; rw [World.setRow_alloc_new])
   | (go_at_call 211; refine (turned_any s 6 w1.heap.size 0 64 lettersN _ (by omega) (by omega) (Lib.hid letters_len) hs (letters_at (heap_alloc_last _ _)) (by simp) (fun k => by have := letters_lt k; omega)).mono ?_; rintro e w2 ⟨rfl, hk2⟩))
  try simp only [Exit.inBlock, Exit.then]
  refine bodyPost_ret (results_tmp2 rfl _ _ _) rfl ?_
  exact ⟨by rw [hp]; rfl, (hk1.alloc _).trans hk2⟩
 ·have hp : codeN (bytesN s) = ([], 30) := by unfold codeN; rw [if_neg (by omega)]
  clear hsz
  go_enter Tryz.func163, Tryz.ntmps163
  go_wp2
  try simp only [Exit.inBlock, Exit.then]
  refine bodyPost_ret (results_tmp2 rfl _ _ _) rfl ?_
  exact ⟨by rw [hp]; rfl, Keep.refl _ _⟩
end Go.Tm
namespace Go.Tm
open Go.RowKit Go.Proofs
def textHd (s : ByteArray) : Hd := { bareHd 5 with s := s }
abbrev nilS : Value := .slice none 0 0
theorem put9 {w : World} {b : Nat} {a0 a1 a2 a3 a4 a5 a6 a7 a8 : Value} {t : TypeId} {f : Nat × Nat} (h : w.heap[b]? = some (.cells #[a0, a1, a2, a3, a4, a5, a6, a7, a8] t f)) (v0 v1 v2 v3 v4 v5 v6 v7 v8 : Value) :
  (((((((((w.setCell ⟨b, 0, none⟩ v0).setCell ⟨b, 1, none⟩ v1).setCell ⟨b, 2, none⟩ v2).setCell ⟨b, 3, none⟩ v3).setCell ⟨b, 4, none⟩ v4).setCell ⟨b, 5, none⟩ v5).setCell ⟨b, 6, none⟩ v6).setCell ⟨b, 7, none⟩ v7).setCell ⟨b, 8, none⟩ v8).heap[b]? = some (.cells #[v0, v1, v2, v3, v4, v5, v6, v7, v8] t f) ∧ Keep (fun k _ => k ≠ b) w (((((((((w.setCell ⟨b, 0, none⟩ v0).setCell ⟨b, 1, none⟩ v1).setCell ⟨b, 2, none⟩ v2).setCell ⟨b, 3, none⟩ v3).setCell ⟨b, 4, none⟩ v4).setCell ⟨b, 5, none⟩ v5).setCell ⟨b, 6, none⟩ v6).setCell ⟨b, 7, none⟩ v7).setCell ⟨b, 8, none⟩ v8) := by
 have h0 : (w.setCell ⟨b, 0, none⟩ v0).heap[b]? = some (.cells #[v0, a1, a2, a3, a4, a5, a6, a7, a8] t f) := setCell_heap h 0 v0
 have h1 : ((w.setCell ⟨b, 0, none⟩ v0).setCell ⟨b, 1, none⟩ v1).heap[b]? = some (.cells #[v0, v1, a2, a3, a4, a5, a6, a7, a8] t f) := setCell_heap h0 1 v1
 have h2 : (((w.setCell ⟨b, 0, none⟩ v0).setCell ⟨b, 1, none⟩ v1).setCell ⟨b, 2, none⟩ v2).heap[b]? = some (.cells #[v0, v1, v2, a3, a4, a5, a6, a7, a8] t f) := setCell_heap h1 2 v2
 have h3 : ((((w.setCell ⟨b, 0, none⟩ v0).setCell ⟨b, 1, none⟩ v1).setCell ⟨b, 2, none⟩ v2).setCell ⟨b, 3, none⟩ v3).heap[b]? = some (.cells #[v0, v1, v2, v3, a4, a5, a6, a7, a8] t f) := setCell_heap h2 3 v3
 have h4 : (((((w.setCell ⟨b, 0, none⟩ v0).setCell ⟨b, 1, none⟩ v1).setCell ⟨b, 2, none⟩ v2).setCell ⟨b, 3, none⟩ v3).setCell ⟨b, 4, none⟩ v4).heap[b]? = some (.cells #[v0, v1, v2, v3, v4, a5, a6, a7, a8] t f) := setCell_heap h3 4 v4
 have h5 : ((((((w.setCell ⟨b, 0, none⟩ v0).setCell ⟨b, 1, none⟩ v1).setCell ⟨b, 2, none⟩ v2).setCell ⟨b, 3, none⟩ v3).setCell ⟨b, 4, none⟩ v4).setCell ⟨b, 5, none⟩ v5).heap[b]? = some (.cells #[v0, v1, v2, v3, v4, v5, a6, a7, a8] t f) := setCell_heap h4 5 v5
 have h6 : (((((((w.setCell ⟨b, 0, none⟩ v0).setCell ⟨b, 1, none⟩ v1).setCell ⟨b, 2, none⟩ v2).setCell ⟨b, 3, none⟩ v3).setCell ⟨b, 4, none⟩ v4).setCell ⟨b, 5, none⟩ v5).setCell ⟨b, 6, none⟩ v6).heap[b]? = some (.cells #[v0, v1, v2, v3, v4, v5, v6, a7, a8] t f) := setCell_heap h5 6 v6
 have h7 : ((((((((w.setCell ⟨b, 0, none⟩ v0).setCell ⟨b, 1, none⟩ v1).setCell ⟨b, 2, none⟩ v2).setCell ⟨b, 3, none⟩ v3).setCell ⟨b, 4, none⟩ v4).setCell ⟨b, 5, none⟩ v5).setCell ⟨b, 6, none⟩ v6).setCell ⟨b, 7, none⟩ v7).heap[b]? = some (.cells #[v0, v1, v2, v3, v4, v5, v6, v7, a8] t f) := setCell_heap h6 7 v7
 have h8 : (((((((((w.setCell ⟨b, 0, none⟩ v0).setCell ⟨b, 1, none⟩ v1).setCell ⟨b, 2, none⟩ v2).setCell ⟨b, 3, none⟩ v3).setCell ⟨b, 4, none⟩ v4).setCell ⟨b, 5, none⟩ v5).setCell ⟨b, 6, none⟩ v6).setCell ⟨b, 7, none⟩ v7).setCell ⟨b, 8, none⟩ v8).heap[b]? = some (.cells #[v0, v1, v2, v3, v4, v5, v6, v7, v8] t f) := setCell_heap h7 8 v8
 refine ⟨h8, ?_⟩
 exact ((((((((((Keep.refl _ w).setCell (p := ⟨b, 0, none⟩) _ (fun o _ h _ => h rfl)).setCell (p := ⟨b, 1, none⟩) _ (fun o _ h _ => h rfl)).setCell (p := ⟨b, 2, none⟩) _ (fun o _ h _ => h rfl)).setCell (p := ⟨b, 3, none⟩) _ (fun o _ h _ => h rfl)).setCell (p := ⟨b, 4, none⟩) _ (fun o _ h _ => h rfl)).setCell (p := ⟨b, 5, none⟩) _ (fun o _ h _ => h rfl)).setCell (p := ⟨b, 6, none⟩) _ (fun o _ h _ => h rfl)).setCell (p := ⟨b, 7, none⟩) _ (fun o _ h _ => h rfl)).setCell (p := ⟨b, 8, none⟩) _ (fun o _ h _ => h rfl))
set_option maxRecDepth 100000 in
set_option maxHeartbeats 2000000 in
theorem pcode_any {N : Nat} {E : Errs} (st b : Nat) (s : ByteArray) (w : World) (hG : Glob N E w) (hst : st ≤ 2) (hs : s.size ≤ 1073741824) (hb : w.heap[b]? = some (.cells #[perr E st] 47 (0, 0))) :
  Calls Tryz.prog 110 #[.pointer (some ⟨b, 0, none⟩), .string s] w fun x w' =>
   x = .returned (nodeV (textHd (strN (codeN (bytesN s)).1)) nilS) ∧ w'.heap[b]? = some (.cells #[perr E (if s.size ≤ 400 then st else max st 1)] 47 (0, 0)) ∧ Keep (fun k _ => k ≠ b) w w' := by
 have hlt := lt_of_some hb
 have hsz := bytesN_length s
 by_cases h : s.size ≤ 400
 ·have hc : codeN (bytesN s) = ((codeN (bytesN s)).1, 0) := by unfold codeN; rw [if_pos (by omega)]
  obtain ⟨t, ht⟩ : ∃ t, (codeN (bytesN s)).1 = t := ⟨_, rfl⟩
  rw [ht] at hc
  have HC := Lib.hid hc
  have HT := Lib.hid ht
  clear hc ht hsz
  go_enter Tryz.func110, Tryz.ntmps110
  go_wp2_with (go_at_call 163; refine (code_any s _ hs).mono ?_; rintro x w1 ⟨rfl, hk1⟩; rw [HC.out]; unfold two; have hr := hk1.same w.heap.size _ (World.alloc_heap_new w _) trivial; obtain ⟨c0, c1, c2, c3, c4, c5, c6, c7, c8⟩ := cells9 hr; have hfz : ∀ j, w1.frozen? ⟨w.heap.size, j, none⟩ = false := Lib.frozen_of_heap hr)
  obtain ⟨h9, hk9⟩ := put9 hr (.int .i64 5) (.bool false) (.bool false) (.string ⟨#[]⟩) (.int .i64 0) (.int .u64 0) (.int .i64 0) (.string (strN t)) nilS
  refine bodyPost_ret (results_cell_row rfl _ _ w.heap.size 27 _ (0, 0) _ rfl h9 Tryz.underlying27 rfl (by kernel_rfl)) rfl ⟨by rw [HT.out]; rfl, ?_, ?_⟩
  ·exact hk9.same _ _ (hk1.same _ _ (heap_old hb) trivial) (by omega)
  ·have hk2 : Same w w1 := ((Keep.refl _ _).alloc _).trans hk1
   exact ⟨hk9.os.trans hk2.os, hk9.tape.trans hk2.tape, hk9.output.trans hk2.output, Nat.le_trans hk2.size hk9.size, fun k o hk _ => hk9.same k o (hk2.same k o hk trivial) (by have := lt_of_some hk; omega)⟩
 ·have hc : codeN (bytesN s) = ([], 30) := by unfold codeN; rw [if_neg (by omega)]
  have HC := Lib.hid hc
  clear hc hsz
  have gP := hG.ptree
  go_enter Tryz.func110, Tryz.ntmps110
  go_wp2_with (first
   | (go_at_call 163; refine (code_any s _ hs).mono ?_; rintro x w1 ⟨rfl, hk1⟩; rw [HC.out]; unfold two; have hr := hk1.same w.heap.size _ (World.alloc_heap_new w _) trivial; have hk2 := Keep.trans ((Keep.refl All w).alloc _) hk1; have hG1 := hG.same hk2; have gP := hG1.ptree; have hb1 := hk2.same _ _ hb trivial)
   | (go_at_call 28; refine (fails_any st 1 b _ hG1 hst (.inl rfl) hb1).mono ?_; rintro x w2 ⟨rfl, hb2, hk3⟩; have hr2 := hk3.same _ _ hr (by omega); obtain ⟨c0, c1, c2, c3, c4, c5, c6, c7, c8⟩ := cells9 hr2; have hfz : ∀ j, w2.frozen? ⟨w.heap.size, j, none⟩ = false := Lib.frozen_of_heap hr2))
  obtain ⟨h9, hk9⟩ := put9 hr2 (.int .i64 5) (.bool false) (.bool false) (.string ⟨#[]⟩) (.int .i64 0) (.int .u64 0) (.int .i64 0) (.string (strN [])) nilS
  refine bodyPost_ret (results_cell_row rfl _ _ w.heap.size 27 _ (0, 0) _ rfl h9 Tryz.underlying27 rfl (by kernel_rfl)) rfl ⟨by rw [HC.out]; rfl, ?_, ?_⟩
  ·exact hk9.same _ _ hb2 (by omega)
  ·exact ⟨hk9.os.trans (hk3.os.trans hk2.os), hk9.tape.trans (hk3.tape.trans hk2.tape), hk9.output.trans (hk3.output.trans hk2.output), Nat.le_trans (Nat.le_trans hk2.size hk3.size) hk9.size, fun k o hk hne => hk9.same k o (hk3.same k o (hk2.same k o hk trivial) hne) (by have := lt_of_some hk; omega)⟩
end Go.Tm
namespace Go.Tm
open Go.RowKit Go.Proofs
def Hd.okW (h : Hd) : Prop :=
 (-9223372036854775808 ≤ h.kind ∧ h.kind ≤ 9223372036854775807) ∧ (-9223372036854775808 ≤ h.d.exp ∧ h.d.exp ≤ 9223372036854775807) ∧ (-9223372036854775808 ≤ h.w ∧ h.w ≤ 9223372036854775807) ∧
  h.u < 18446744073709551616 ∧ h.d.digits.size ≤ 9223372036854775807 ∧ h.s.size ≤ 9223372036854775807
mutual
def Tree.RepW (w : World) : Tree → Value → Prop
 | .node h l, lv => h.okW ∧ ∃ a cap, lv = .slice a l.length cap ∧ l.length ≤ 9223372036854775807 ∧ RepWL w a 0 l
def RepWL (w : World) : Option Addr → Nat → List Tree → Prop
 | _, _, [] => True
 | a, i, x :: l => (∃ b off lv, a = some ⟨b, off, none⟩ ∧ w.rangeAt b (off + i * 9) (nodeCs x.hd lv) ∧ x.RepW w lv) ∧ RepWL w a (i + 1) l
end
theorem repW_node {w : World} {t : Tree} {lv : Value} (h : t.RepW w lv) : t.hd.okW ∧ ∃ a cap, lv = .slice a t.l.length cap ∧ t.l.length ≤ 9223372036854775807 ∧ RepWL w a 0 t.l := by
 cases t with
 | node h l => rwa [Tree.RepW] at h
theorem repWL_get {w : World} {a : Option Addr} : ∀ {l : List Tree} {i : Nat}, RepWL w a i l → ∀ k (hk : k < l.length), ∃ b off lv, a = some ⟨b, off, none⟩ ∧ w.rangeAt b (off + (i + k) * 9) (nodeCs (l[k]).hd lv) ∧ (l[k]).RepW w lv
 | x :: l, i, h, 0, _ => by rw [RepWL] at h; exact h.1
 | x :: l, i, h, k + 1, hk => by
  rw [RepWL] at h
  have := repWL_get h.2 k (by simpa using hk)
  rw [show i + 1 + k = i + (k + 1) by omega] at this
  exact this
mutual
theorem Tree.RepW.same {w w' : World} (hk : Same w w') : ∀ {t : Tree} {lv : Value}, t.RepW w lv → t.RepW w' lv
 | .node h l, lv, hh => by
  rw [Tree.RepW] at hh ⊢
  obtain ⟨ho, a, cap, e, h1, h2⟩ := hh
  exact ⟨ho, a, cap, e, h1, RepWL.same hk h2⟩
theorem RepWL.same {w w' : World} (hk : Same w w') : ∀ {l : List Tree} {a : Option Addr} {i : Nat}, RepWL w a i l → RepWL w' a i l
 | [], a, i, h => by rw [RepWL]; trivial
 | x :: l, a, i, h => by
  rw [RepWL] at h ⊢
  obtain ⟨⟨b, off, lv, e, h1, h2⟩, h3⟩ := h
  exact ⟨⟨b, off, lv, e, rangeAt_same hk h1, h2.same hk⟩, RepWL.same hk h3⟩
end
def cutHd (h : Hd) : Hd := { h with s := h.s.extract 0 (min h.s.size 410), d := { h.d with digits := h.d.digits.extract 0 (min h.d.digits.size 200) } }
def Tree.cut : Nat → Tree → Tree
 | 0, t => .node (cutHd t.hd) []
 | d + 1, t => .node (cutHd t.hd) ((t.l.take 40).map (Tree.cut d))
theorem cut_hd (d : Nat) (t : Tree) : (t.cut d).hd = cutHd t.hd := by cases d <;> rfl
theorem cut_len (d : Nat) (t : Tree) : (t.cut d).l.length ≤ 40 := by
 cases d with
 | zero => simp [Tree.cut]
 | succ d => simp only [Tree.cut, Tree.l_node, List.length_map, List.length_take]; omega
theorem extract_size (s : ByteArray) (k : Nat) : (s.extract 0 (min s.size k)).size ≤ k := by
 rw [ByteArray.size_extract]; omega
theorem cutHd_ok {h : Hd} (ho : h.okW) : (cutHd h).ok := by
 obtain ⟨h1, h2, h3, h4, h5, h6⟩ := ho
 refine ⟨h1, h2, h3, h4, ?_, ?_⟩
 ·have := extract_size h.d.digits 200
  show (h.d.digits.extract 0 (min h.d.digits.size 200)).size ≤ _; omega
 ·have := extract_size h.s 410
  show (h.s.extract 0 (min h.s.size 410)).size ≤ _; omega
def cutsTo (d : Nat) (l : List Tree) (k : Nat) : List Tree := (l.take k).map (Tree.cut (d - 1))
theorem cutsTo_succ (d : Nat) (l : List Tree) (k : Nat) (h : k < l.length) : cutsTo d l (k + 1) = cutsTo d l k ++ [(l[k]).cut (d - 1)] := by
 unfold cutsTo
 rw [List.take_add_one, List.getElem?_eq_getElem h, List.map_append]
 rfl
theorem cut_l (d : Nat) (t : Tree) : (t.cut d).l = if d = 0 then [] else cutsTo d t.l (min t.l.length 40) := by
 cases d with
 | zero => rfl
 | succ d =>
  simp only [Tree.cut, Tree.l_node, cutsTo, Nat.add_sub_cancel]
  rw [if_neg (by omega)]
  congr 1
  by_cases h : t.l.length ≤ 40
  ·rw [Nat.min_eq_left h, List.take_length, List.take_of_length_le h]
  ·rw [Nat.min_eq_right (by omega)]
def CutAt (d : Nat) : Prop := ∀ (t : Tree) (lv : Value) (w : World), d ≤ 1000 → t.RepW w lv →
  Calls Tryz.prog 25 #[nodeV t.hd lv, .int .i64 ((d + 1 : Nat) : Int)] w fun e w' => ∃ lv', e = .returned (nodeV (cutHd t.hd) lv') ∧ RepS (fun b => w.heap.size ≤ b) w' (t.cut d).l lv' ∧ Same w w'
set_option maxRecDepth 100000 in
set_option maxHeartbeats 4000000 in
theorem cut_step (d : Nat) (ih : ∀ d', d' + 1 = d → CutAt d') : CutAt d := by
 intro t lv w hd hrep
 obtain ⟨ho, a, cap, rfl, hlen, hL⟩ := repW_node hrep
 obtain ⟨h, hh⟩ : ∃ h, t.hd = h := ⟨_, rfl⟩
 rw [hh] at ho ⊢
 have hget := fun k hk => repWL_get hL k hk
 have hcl := cut_l d t
 obtain ⟨l, hl⟩ : ∃ l, t.l = l := ⟨_, rfl⟩
 rw [hl] at hlen hget hcl ⊢
 have e1 : min (h.s.size : Int) 410 = ((min h.s.size 410 : Nat) : Int) := by omega
 have e2 : min (h.d.digits.size : Int) 200 = ((min h.d.digits.size 200 : Nat) : Int) := by omega
 obtain ⟨k1, hk1⟩ : ∃ k, min h.s.size 410 = k := ⟨_, rfl⟩
 obtain ⟨k2, hk2⟩ : ∃ k, min h.d.digits.size 200 = k := ⟨_, rfl⟩
 have hch : cutHd h = { h with s := h.s.extract 0 k1, d := { h.d with digits := h.d.digits.extract 0 k2 } } := by unfold cutHd; rw [hk1, hk2]
 rw [hk1] at e1
 rw [hk2] at e2
 have b1 : k1 ≤ h.s.size := by omega
 have b2 : k2 ≤ h.d.digits.size := by omega
 obtain ⟨hs, hhs⟩ : ∃ x, h.s.extract 0 k1 = x := ⟨_, rfl⟩
 obtain ⟨hg, hhg⟩ : ∃ x, h.d.digits.extract 0 k2 = x := ⟨_, rfl⟩
 rw [hhs, hhg] at hch
 have HCL := Lib.hid hcl
 rw [hch]
 have IH := Lib.hid ih
 clear hk1 hk2 hch hL hrep hh hl ho hcl ih
 go_enter Tryz.func25, Tryz.ntmps25
 go_wp2
 have hb0 : ((w.alloc (.cells #[.int .i64 h.kind, .bool h.b, .bool h.d.neg, .string hg, .int .i64 h.d.exp, .int .u64 h.u, .int .i64 h.w, .string hs, .slice a l.length cap] 27)).alloc (.cells #[.int .i64 0, .bool false, .bool false, .string ⟨#[]⟩, .int .i64 0, .int .u64 0, .int .i64 0, .string ⟨#[]⟩, .slice none 0 0] 27)).heap[w.heap.size]? = some (.cells #[.int .i64 h.kind, .bool h.b, .bool h.d.neg, .string hg, .int .i64 h.d.exp, .int .u64 h.u, .int .i64 h.w, .string hs, .slice a l.length cap] 27 (0, 0)) := (by repeat (first | with_reducible exact heap_new' (by simp) | with_reducible refine heap_old ?_ | with_reducible refine heap_drew ?_))
 have hr0 : ((w.alloc (.cells #[.int .i64 h.kind, .bool h.b, .bool h.d.neg, .string hg, .int .i64 h.d.exp, .int .u64 h.u, .int .i64 h.w, .string hs, .slice a l.length cap] 27)).alloc (.cells #[.int .i64 0, .bool false, .bool false, .string ⟨#[]⟩, .int .i64 0, .int .u64 0, .int .i64 0, .string ⟨#[]⟩, .slice none 0 0] 27)).heap[w.heap.size + 1]? = some (.cells #[.int .i64 0, .bool false, .bool false, .string ⟨#[]⟩, .int .i64 0, .int .u64 0, .int .i64 0, .string ⟨#[]⟩, .slice none 0 0] 27 (0, 0)) := (by repeat (first | with_reducible exact heap_new' (by simp) | with_reducible refine heap_old ?_ | with_reducible refine heap_drew ?_))
 have hz1 : ((w.alloc (.cells #[.int .i64 h.kind, .bool h.b, .bool h.d.neg, .string hg, .int .i64 h.d.exp, .int .u64 h.u, .int .i64 h.w, .string hs, .slice a l.length cap] 27)).alloc (.cells #[.int .i64 0, .bool false, .bool false, .string ⟨#[]⟩, .int .i64 0, .int .u64 0, .int .i64 0, .string ⟨#[]⟩, .slice none 0 0] 27)).heap.size = w.heap.size + 2 := by simp
 have hk1 : Same w ((w.alloc (.cells #[.int .i64 h.kind, .bool h.b, .bool h.d.neg, .string hg, .int .i64 h.d.exp, .int .u64 h.u, .int .i64 h.w, .string hs, .slice a l.length cap] 27)).alloc (.cells #[.int .i64 0, .bool false, .bool false, .string ⟨#[]⟩, .int .i64 0, .int .u64 0, .int .i64 0, .string ⟨#[]⟩, .slice none 0 0] 27)) := smK
 generalize ((w.alloc (.cells #[.int .i64 h.kind, .bool h.b, .bool h.d.neg, .string hg, .int .i64 h.d.exp, .int .u64 h.u, .int .i64 h.w, .string hs, .slice a l.length cap] 27)).alloc (.cells #[.int .i64 0, .bool false, .bool false, .string ⟨#[]⟩, .int .i64 0, .int .u64 0, .int .i64 0, .string ⟨#[]⟩, .slice none 0 0] 27)) = W1 at hb0 hr0 hz1 hk1 ⊢
 clear b1 b2 e1 e2
 go_loopw [5, 6] (fun ov iv wr => ∃ k : Nat, k ≤ l.length ∧ k ≤ 40 ∧ k ≤ 40 * d ∧ iv = .int .i64 (k : Int) ∧ OwnL (fun x => w.heap.size + 2 ≤ x) wr (w.heap.size + 2) ov (cutsTo d l k) ∧ Same w wr ∧ wr.heap[w.heap.size]? = some (.cells #[.int .i64 h.kind, .bool h.b, .bool h.d.neg, .string hg, .int .i64 h.d.exp, .int .u64 h.u, .int .i64 h.w, .string hs, .slice a l.length cap] 27 (0, 0)) ∧ wr.heap[w.heap.size + 1]? = some (.cells #[.int .i64 0, .bool false, .bool false, .string ⟨#[]⟩, .int .i64 0, .int .u64 0, .int .i64 0, .string ⟨#[]⟩, .slice none 0 0] 27 (0, 0))) (fun _ iv _ => 40 - (RowKit.intOf iv).toNat)
 case atStart => exact ⟨0, Nat.zero_le _, by omega, Nat.zero_le _, rfl, OwnL.nil _ _ _, hk1, hb0, hr0⟩
 case round =>
  obtain ⟨k, hkl, hk40, hk0, rfl, hown, hsm, hb, hr⟩ := hrel
  obtain ⟨n0, n1, n2, n3, n4, n5, n6, n7, n8⟩ := cells9 hb
  obtain ⟨m0, m1, m2, m3, m4, m5, m6, m7, m8⟩ := cells9 hr
  have hfb : ∀ j, wr.frozen? ⟨w.heap.size, j, none⟩ = false := Lib.frozen_of_heap hb
  have hfr : ∀ j, wr.frozen? ⟨w.heap.size + 1, j, none⟩ = false := Lib.frozen_of_heap hr
  obtain ⟨a0, cp0, rfl⟩ := hown.is_slice
  by_cases hgo : k < l.length ∧ k < 40 ∧ 0 < d
  ·obtain ⟨hlt, hlt40, hd0⟩ := hgo
   obtain ⟨d', rfl⟩ : ∃ d', d = d' + 1 := ⟨d - 1, by omega⟩
   obtain ⟨b', off, lv', rfl, hra, hW⟩ := hget k hlt
   rw [Nat.zero_add] at hra
   obtain ⟨hok', a', cap', rfl, _, _⟩ := repW_node hW
   obtain ⟨c0, c1, c2, c3, c4, c5, c6, c7, c8⟩ := nodeAt_of (rangeAt_same hsm hra)
   have hcall := fun W hW' => IH.out d' rfl (l[k]) _ W (by omega) (hW.same hW')
   have hst := cutsTo_succ (d' + 1) l k hlt
   simp only [Nat.add_sub_cancel] at hst
   have HST := Lib.hid hst
   have hcd : cutHd (l[k]).hd = cutHd (l[k]).hd := rfl
   obtain ⟨q, hq⟩ : ∃ q, cutHd (l[k]).hd = q := ⟨_, rfl⟩
   have hqok : q.ok := by rw [← hq]; exact cutHd_ok hok'
   have hct : (l[k]).cut d' = .node q ((l[k]).cut d').l := by rw [← hq, ← cut_hd d']; exact (Tree.eta _).symm
   rw [hq] at hcall
   obtain ⟨cl, hcl2⟩ : ∃ cl, ((l[k]).cut d').l = cl := ⟨_, rfl⟩
   rw [hcl2] at hcall hct
   rw [hct] at HST
   clear hcd hq hct hcl2 hst
   have g1 : (1 : Int) < (((d' + 1) + 1 : Nat) : Int) := by push_cast; omega
   have g2 : (((d' + 1) + 1 : Nat) : Int) - 1 = ((d' + 1 : Nat) : Int) := by push_cast; omega
   have g3 : wrap64 ((d' + 1 : Nat) : Int) = ((d' + 1 : Nat) : Int) := IntWalk.wrap64_in _ (by omega)
   have hszw := hsm.size
   have hlt0 := fun b (hb : wr.heap.size ≤ b) => hown.lt hb
   have hcl40 : (cutsTo (d' + 1) l k).length ≤ 40 := by unfold cutsTo; rw [List.length_map, List.length_take]; omega
   go_wp2_with (first
    | (go_at_call 25; refine (hcall _ smK).mono ?_; rintro e w1 ⟨lv2, rfl, hr2, hk2⟩; obtain ⟨a2, cc2, rfl⟩ := hr2.is_slice)
    | (at_builtin; refine wpList_append_trees (v := .slice a0 (cutsTo (d' + 1) l k).length cp0) (ts := [.node q cl]) (news := nodeCs q (.slice a2 cl.length cc2)) rfl _ _ rfl rfl rfl ((hown.same hk2).same ((Keep.refl _ _).alloc _)) rfl ?c2 ?c3 (node_one _ _ _ _) ?c4 ?c5 ?_))
   case c2 =>
    refine repL_one ?_
    rw [rep_node]
    refine ⟨hqok, _, rfl, ?_⟩
    exact (hr2.mono (fun b hb h => (⟨by have h' : wr.heap.size ≤ b := h; have := lt_of_some hr; omega, hlt0 b h⟩ : _ ∧ _))).same ((Keep.refl _ _).alloc _)
   case c3 => exact fun j u h => cells_new _ _ _ _ _ h
   case c4 => simp only [List.length_cons, List.length_nil]; omega
   case c5 => have := hk2.size; have := lt_of_some hr; simp; omega
   intro v' w2 hown' hg
   have hsm2 : Same w w2 := same_grown ((hsm.trans hk2).alloc _) (by omega) ((hown.same hk2).same ((Keep.refl _ _).alloc _)) hg
   have hb2 : w2.heap[w.heap.size]? = _ := (hg.block _ (by have := lt_of_some (hk2.same _ _ hb trivial); simp; omega) (fun e => hown.apart (b := w.heap.size) (by omega) e.symm)).trans (heap_old (hk2.same _ _ hb trivial))
   have hr2' : w2.heap[w.heap.size + 1]? = _ := (hg.block _ (by have := lt_of_some (hk2.same _ _ hr trivial); simp; omega) (fun e => hown.apart (b := w.heap.size + 1) (by omega) e.symm)).trans (heap_old (hk2.same _ _ hr trivial))
   rw [← HST.out] at hown'
   obtain ⟨a3, c3, rfl⟩ := hown'.is_slice
   go_wp2
   clear g1 g2 g3
   refine ⟨?_, by show 40 - ((k : Int) + 1).toNat < 40 - (k : Int).toNat; omega⟩
   (repeat apply Exists.intro)
   refine ⟨?_, rfl⟩
   exact ⟨k + 1, by omega, by omega, by omega, by go_num, hown', hsm2, hb2, hr2'⟩
  ·have hend : (Tree.cut d t).l = cutsTo d l k := by
    rw [HCL.out]
    by_cases h0 : d = 0
    ·rw [if_pos h0]; obtain rfl : k = 0 := by omega
     rfl
    ·rw [if_neg h0]; congr 1; omega
   have HEND := Lib.hid hend
   have hlen2 : (cutsTo d l k).length ≤ 40 := by unfold cutsTo; rw [List.length_map, List.length_take]; omega
   have hrep2 := hown.rep (fun b hb => hb) (by omega)
   have hkeep : ∀ (X : World) (p : Addr) (v : Value) (b : Nat), p.block ≠ b → (X.setCell p v).heap[b]? = X.heap[b]? := fun X p v b h => Below.heap_setCell X p v b (fun e => h e.symm)
   have hd1 : ((d + 1 : Nat) : Int) = (d : Int) + 1 := by push_cast; rfl
   clear hend hget hk0
   rcases Nat.lt_or_ge k l.length with hlt | hge
   ·rcases Nat.lt_or_ge k 40 with hlt40 | hge40
    ·have hd0 : d = 0 := by omega
     subst hd0
     go_wp2
     have hX : (wr.setCell ⟨w.heap.size, 8, none⟩ (.slice a0 (cutsTo 0 l k).length cp0)).heap[w.heap.size + 1]? = some (.cells #[.int .i64 0, .bool false, .bool false, .string ⟨#[]⟩, .int .i64 0, .int .u64 0, .int .i64 0, .string ⟨#[]⟩, .slice none 0 0] 27 (0, 0)) := by rw [hkeep _ _ _ _ (by show w.heap.size ≠ w.heap.size + 1; omega)]; exact hr
     obtain ⟨h9, hk9⟩ := put9 hX (.int .i64 h.kind) (.bool h.b) (.bool h.d.neg) (.string hg) (.int .i64 h.d.exp) (.int .u64 h.u) (.int .i64 h.w) (.string hs) (.slice a0 (cutsTo 0 l k).length cp0)
     refine bodyPost_ret (results_cell_row rfl _ _ (w.heap.size + 1) 27 _ (0, 0) _ rfl h9 Tryz.underlying27 rfl (by kernel_rfl)) rfl ⟨_, rfl, ?_, ?_⟩
     ·rw [HEND.out]
      have hk8 : Keep (fun k _ => k ≠ w.heap.size) wr (wr.setCell ⟨w.heap.size, 8, none⟩ (.slice a0 (cutsTo 0 l k).length cp0)) := (Keep.refl _ _).setCell _ fun o _ h _ => h rfl
      refine RepS.mono (fun b _ (hb : w.heap.size + 2 ≤ b) => (by omega : w.heap.size ≤ b)) ?_
      exact (hrep2.keep hk8 fun b (hb : w.heap.size + 2 ≤ b) _ _ => by omega).keep hk9 fun b (hb : w.heap.size + 2 ≤ b) _ _ => by omega
     ·have hk8 : Same w (wr.setCell ⟨w.heap.size, 8, none⟩ (.slice a0 (cutsTo 0 l k).length cp0)) := hsm.setCell (p := ⟨w.heap.size, 8, none⟩) _ (fun o _ _ h => absurd h (Nat.lt_irrefl _))
      exact ⟨hk9.os.trans hk8.os, hk9.tape.trans hk8.tape, hk9.output.trans hk8.output, Nat.le_trans hk8.size hk9.size, fun k o hk _ => hk9.same k o (hk8.same k o hk trivial) (by have := lt_of_some hk; omega)⟩
    ·have hk : k = 40 := by omega
     subst hk
     go_wp2
     have hX : (wr.setCell ⟨w.heap.size, 8, none⟩ (.slice a0 (cutsTo d l 40).length cp0)).heap[w.heap.size + 1]? = some (.cells #[.int .i64 0, .bool false, .bool false, .string ⟨#[]⟩, .int .i64 0, .int .u64 0, .int .i64 0, .string ⟨#[]⟩, .slice none 0 0] 27 (0, 0)) := by rw [hkeep _ _ _ _ (by show w.heap.size ≠ w.heap.size + 1; omega)]; exact hr
     obtain ⟨h9, hk9⟩ := put9 hX (.int .i64 h.kind) (.bool h.b) (.bool h.d.neg) (.string hg) (.int .i64 h.d.exp) (.int .u64 h.u) (.int .i64 h.w) (.string hs) (.slice a0 (cutsTo d l 40).length cp0)
     refine bodyPost_ret (results_cell_row rfl _ _ (w.heap.size + 1) 27 _ (0, 0) _ rfl h9 Tryz.underlying27 rfl (by kernel_rfl)) rfl ⟨_, rfl, ?_, ?_⟩
     ·rw [HEND.out]
      have hk8 : Keep (fun k _ => k ≠ w.heap.size) wr (wr.setCell ⟨w.heap.size, 8, none⟩ (.slice a0 (cutsTo d l 40).length cp0)) := (Keep.refl _ _).setCell _ fun o _ h _ => h rfl
      refine RepS.mono (fun b _ (hb : w.heap.size + 2 ≤ b) => (by omega : w.heap.size ≤ b)) ?_
      exact (hrep2.keep hk8 fun b (hb : w.heap.size + 2 ≤ b) _ _ => by omega).keep hk9 fun b (hb : w.heap.size + 2 ≤ b) _ _ => by omega
     ·have hk8 : Same w (wr.setCell ⟨w.heap.size, 8, none⟩ (.slice a0 (cutsTo d l 40).length cp0)) := hsm.setCell (p := ⟨w.heap.size, 8, none⟩) _ (fun o _ _ h => absurd h (Nat.lt_irrefl _))
      exact ⟨hk9.os.trans hk8.os, hk9.tape.trans hk8.tape, hk9.output.trans hk8.output, Nat.le_trans hk8.size hk9.size, fun k o hk _ => hk9.same k o (hk8.same k o hk trivial) (by have := lt_of_some hk; omega)⟩
   ·have hk : k = l.length := by omega
    subst hk
    go_wp2
    have hX : (wr.setCell ⟨w.heap.size, 8, none⟩ (.slice a0 (cutsTo d l l.length).length cp0)).heap[w.heap.size + 1]? = some (.cells #[.int .i64 0, .bool false, .bool false, .string ⟨#[]⟩, .int .i64 0, .int .u64 0, .int .i64 0, .string ⟨#[]⟩, .slice none 0 0] 27 (0, 0)) := by rw [hkeep _ _ _ _ (by show w.heap.size ≠ w.heap.size + 1; omega)]; exact hr
    obtain ⟨h9, hk9⟩ := put9 hX (.int .i64 h.kind) (.bool h.b) (.bool h.d.neg) (.string hg) (.int .i64 h.d.exp) (.int .u64 h.u) (.int .i64 h.w) (.string hs) (.slice a0 (cutsTo d l l.length).length cp0)
    refine bodyPost_ret (results_cell_row rfl _ _ (w.heap.size + 1) 27 _ (0, 0) _ rfl h9 Tryz.underlying27 rfl (by kernel_rfl)) rfl ⟨_, rfl, ?_, ?_⟩
    ·rw [HEND.out]
     have hk8 : Keep (fun k _ => k ≠ w.heap.size) wr (wr.setCell ⟨w.heap.size, 8, none⟩ (.slice a0 (cutsTo d l l.length).length cp0)) := (Keep.refl _ _).setCell _ fun o _ h _ => h rfl
     refine RepS.mono (fun b _ (hb : w.heap.size + 2 ≤ b) => (by omega : w.heap.size ≤ b)) ?_
     exact (hrep2.keep hk8 fun b (hb : w.heap.size + 2 ≤ b) _ _ => by omega).keep hk9 fun b (hb : w.heap.size + 2 ≤ b) _ _ => by omega
    ·have hk8 : Same w (wr.setCell ⟨w.heap.size, 8, none⟩ (.slice a0 (cutsTo d l l.length).length cp0)) := hsm.setCell (p := ⟨w.heap.size, 8, none⟩) _ (fun o _ _ h => absurd h (Nat.lt_irrefl _))
     exact ⟨hk9.os.trans hk8.os, hk9.tape.trans hk8.tape, hk9.output.trans hk8.output, Nat.le_trans hk8.size hk9.size, fun k o hk _ => hk9.same k o (hk8.same k o hk trivial) (by have := lt_of_some hk; omega)⟩
theorem cut_any : ∀ d : Nat, CutAt d
 | 0 => cut_step 0 fun d' h => absurd h (by omega)
 | d + 1 => cut_step (d + 1) fun d' h => by cases h; exact cut_any d
end Go.Tm
namespace Go.Tm
open Go.RowKit Go.Proofs Go.ChangeShapes Go.WideShapes Go.Deep
theorem list_of_all {P : Nat → Tree → Prop} : ∀ n : Nat, (∀ i, i < n → ∃ t, P i t) → ∃ l : List Tree, l.length = n ∧ ∀ i (h : i < l.length), P i l[i]
 | 0, _ => ⟨[], rfl, fun i h => absurd h (Nat.not_lt_zero i)⟩
 | n + 1, H => by
  obtain ⟨l, hl, h⟩ := list_of_all n fun i hi => H i (by omega)
  obtain ⟨t, ht⟩ := H n (by omega)
  refine ⟨l ++ [t], by simp [hl], fun i hi => ?_⟩
  by_cases h1 : i < l.length
  ·rw [List.getElem_append_left h1]; exact h i h1
  ·obtain rfl : i = n := by simp at hi; omega
   rw [List.getElem_append_right (by omega)]
   simpa [hl] using ht
theorem repWL_mk {w : World} {a : Option Addr} : ∀ (l : List Tree) (i : Nat), (∀ k (hk : k < l.length), ∃ b off lv, a = some ⟨b, off, none⟩ ∧ w.rangeAt b (off + (i + k) * 9) (nodeCs (l[k]).hd lv) ∧ (l[k]).RepW w lv) → RepWL w a i l
 | [], i, _ => by rw [RepWL]; trivial
 | x :: l, i, h => by
  rw [RepWL]
  refine ⟨(show _ from h 0 (Nat.zero_lt_succ _)), repWL_mk l (i + 1) fun k hk => ?_⟩
  have := h (k + 1) (by simpa using hk)
  rw [show i + (k + 1) = i + 1 + k by omega] at this
  exact this
theorem wf_i64 {n : Int} (h : (Lit.int .i64 n).wf = true) : -9223372036854775808 ≤ n ∧ n ≤ 9223372036854775807 := by
 simpa [Lit.wf, IntKind.min, IntKind.max, IntKind.signed, IntKind.bits] using h
theorem wf_u64 {n : Int} (h : (Lit.int .u64 n).wf = true) : 0 ≤ n ∧ n < 18446744073709551616 := by
 have h2 : 0 ≤ n ∧ n ≤ 18446744073709551615 := by simpa [Lit.wf, IntKind.min, IntKind.max, IntKind.signed, IntKind.bits] using h
 omega
def BulkLike {H : Type} (B : DataW H → Nat) : Prop := (∀ parts, (parts.map B).sum + 1 ≤ B (.agg parts)) ∧ ∀ e s, (e.map B).sum ≤ B (.slice e s)
theorem sum_mem {x : Nat} : ∀ {xs : List Nat}, x ∈ xs → x ≤ xs.sum
 | y :: xs, h => by
  rw [List.sum_cons]
  rcases List.mem_cons.1 h with rfl | h
  ·omega
  ·have := sum_mem h; omega
theorem countL_sum {H : Type} {B : DataW H → Nat} : ∀ (l : List Tree) (ds : List (DataW H)), l.length = ds.length → (∀ i (h : i < l.length) (h2 : i < ds.length), l[i].count ≤ B ds[i]) → countL l ≤ (ds.map B).sum
 | [], ds, _, _ => by rw [countL]; exact Nat.zero_le _
 | x :: l, [], h, _ => by simp at h
 | x :: l, d :: ds, h, hx => by
  have h0 := hx 0 (by simp) (by simp)
  have h1 := countL_sum l ds (by simpa using h) fun i hi hi2 => hx (i + 1) (by simpa using hi) (by simpa using hi2)
  rw [countL, List.map_cons, List.sum_cons]
  simp only [List.getElem_cons_zero] at h0
  omega
section
variable {H : Type} {enc : TypeId × Value → H} {w : World} {base : Nat} {spare : Nat → Bool} {held : Bool}
theorem some_at {α : Type} {xs : List α} {n i : Nat} (h : xs.length = n) (hi : i < n) : ∃ y, xs[i]? = some y := ⟨xs[i]'(by omega), List.getElem?_eq_getElem (by omega)⟩
set_option maxRecDepth 100000 in
theorem tree_of_trod : ∀ (fuel : Nat) (cs : List Value) (x : DataW H × List MemPlace), DataW.trod enc Tryz.prog w base spare held fuel 27 cs = some x → ∃ (t : Tree) (lv : Value), cs = nodeCs t.hd lv ∧ t.RepW w lv ∧ ∀ B : DataW H → Nat, BulkLike B → t.count ≤ B x.1 := by
 intro fuel
 induction fuel using Nat.strongRecOn with
 | _ fuel ih =>
  intro cs x h
  obtain ⟨xs, n, rfl, hx, hlen, hxl, hf⟩ := DataW.trod_struct Tryz.underlying27 h
  rw [show Tryz.prog.cellsOf 27 = 9 by kernel_rfl] at hlen
  have k1 : Tryz.prog.cellsOf 3 = 1 := by kernel_rfl
  have k2 : Tryz.prog.cellsOf 4 = 1 := by kernel_rfl
  have k3 : Tryz.prog.cellsOf 23 = 3 := by kernel_rfl
  have k4 : Tryz.prog.cellsOf 24 = 1 := by kernel_rfl
  have k5 : Tryz.prog.cellsOf 9 = 1 := by kernel_rfl
  have k6 : Tryz.prog.cellsOf 25 = 1 := by kernel_rfl
  match cs, hlen with
  | [c0, c1, c2, c3, c4, c5, c6, c7, c8], _ =>
   obtain ⟨y0, e0⟩ := some_at (i := 0) hxl (by decide)
   obtain ⟨y1, e1⟩ := some_at (i := 1) hxl (by decide)
   obtain ⟨y2, e2⟩ := some_at (i := 2) hxl (by decide)
   obtain ⟨y3, e3⟩ := some_at (i := 3) hxl (by decide)
   obtain ⟨y4, e4⟩ := some_at (i := 4) hxl (by decide)
   obtain ⟨y5, e5⟩ := some_at (i := 5) hxl (by decide)
   obtain ⟨y6, e6⟩ := some_at (i := 6) hxl (by decide)
   have f0 : DataW.trod enc Tryz.prog w base spare held n 3 (([c0, c1, c2, c3, c4, c5, c6, c7, c8].drop 0).take (Tryz.prog.cellsOf 3)) = some y0 := (hf 0 _ rfl).trans e0
   have f1 : DataW.trod enc Tryz.prog w base spare held n 4 (([c0, c1, c2, c3, c4, c5, c6, c7, c8].drop 1).take (Tryz.prog.cellsOf 4)) = some y1 := (hf 1 _ rfl).trans e1
   have f2 : DataW.trod enc Tryz.prog w base spare held n 23 (([c0, c1, c2, c3, c4, c5, c6, c7, c8].drop 2).take (Tryz.prog.cellsOf 23)) = some y2 := (hf 2 _ rfl).trans e2
   have f3 : DataW.trod enc Tryz.prog w base spare held n 24 (([c0, c1, c2, c3, c4, c5, c6, c7, c8].drop 5).take (Tryz.prog.cellsOf 24)) = some y3 := (hf 3 _ rfl).trans e3
   have f4 : DataW.trod enc Tryz.prog w base spare held n 3 (([c0, c1, c2, c3, c4, c5, c6, c7, c8].drop 6).take (Tryz.prog.cellsOf 3)) = some y4 := (hf 4 _ rfl).trans e4
   have f5 : DataW.trod enc Tryz.prog w base spare held n 9 (([c0, c1, c2, c3, c4, c5, c6, c7, c8].drop 7).take (Tryz.prog.cellsOf 9)) = some y5 := (hf 5 _ rfl).trans e5
   have f6 : DataW.trod enc Tryz.prog w base spare held n 25 (([c0, c1, c2, c3, c4, c5, c6, c7, c8].drop 8).take (Tryz.prog.cellsOf 25)) = some y6 := (hf 6 _ rfl).trans e6
   simp only [k1, k2, k3, k4, k5, k6, List.drop_zero, List.drop_succ_cons, List.take_succ_cons, List.take_zero] at f0 f1 f2 f3 f4 f5 f6
   obtain ⟨v0, q0, _, b0⟩ := DataW.trod_int Tryz.underlying3 f0
   obtain ⟨v1, q1, _⟩ := DataW.trod_bool Tryz.underlying4 f1
   obtain ⟨v3, q3, _, b3⟩ := DataW.trod_int Tryz.underlying24 f3
   obtain ⟨v4, q4, _, b4⟩ := DataW.trod_int Tryz.underlying3 f4
   obtain ⟨v5, q5, _, b5⟩ := DataW.trod_string Tryz.underlying9 f5
   simp only [List.cons.injEq, and_true] at q0 q1 q3 q4 q5
   obtain ⟨ys, m, hm, _, hl2, hyl, hg⟩ := DataW.trod_struct Tryz.underlying23 f2
   obtain ⟨z0, d0⟩ := some_at (i := 0) hyl (by decide)
   obtain ⟨z1, d1⟩ := some_at (i := 1) hyl (by decide)
   obtain ⟨z2, d2⟩ := some_at (i := 2) hyl (by decide)
   have g0 : DataW.trod enc Tryz.prog w base spare held m 4 (([c2, c3, c4].drop 0).take (Tryz.prog.cellsOf 4)) = some z0 := (hg 0 _ rfl).trans d0
   have g1 : DataW.trod enc Tryz.prog w base spare held m 9 (([c2, c3, c4].drop 1).take (Tryz.prog.cellsOf 9)) = some z1 := (hg 1 _ rfl).trans d1
   have g2 : DataW.trod enc Tryz.prog w base spare held m 3 (([c2, c3, c4].drop 2).take (Tryz.prog.cellsOf 3)) = some z2 := (hg 2 _ rfl).trans d2
   simp only [k1, k2, k5, List.drop_zero, List.drop_succ_cons, List.take_succ_cons, List.take_zero] at g0 g1 g2
   obtain ⟨u0, p0, _⟩ := DataW.trod_bool Tryz.underlying4 g0
   obtain ⟨u1, p1, _, b6⟩ := DataW.trod_string Tryz.underlying9 g1
   obtain ⟨u2, p2, _, b7⟩ := DataW.trod_int Tryz.underlying3 g2
   simp only [List.cons.injEq, and_true] at p0 p1 p2
   subst q0 q1 q3 q4 q5 p0 p1 p2
   have w0 := wf_i64 b0
   have w3 := wf_u64 b3
   have w4 := wf_i64 b4
   have w7 := wf_i64 b7
   unfold maxLen at b5 b6
   obtain ⟨U, hU⟩ : ∃ U : Nat, v3 = U := ⟨v3.toNat, by omega⟩
   subst hU
   obtain ⟨hd, hhd⟩ : ∃ hd : Hd, hd = ⟨v0, v1, ⟨u0, u1, u2⟩, U, v4, v5⟩ := ⟨_, rfl⟩
   have hokw : hd.okW := by subst hhd; exact ⟨w0, w7, w4, by show U < 18446744073709551616; omega, b6, b5⟩
   rcases DataW.trod_slice Tryz.underlying25 f6 with ⟨hc, _⟩ | ⟨a, len, cap, elems, rest, n', hn', hc, hy6, hb, hl, hcm, hel, hget, _, _⟩
   ·simp only [List.cons.injEq, and_true] at hc
    subst hc
    refine ⟨.node hd [], .slice none 0 0, by subst hhd; rfl, ?_, fun B hB => ?_⟩
    ·rw [Tree.RepW]
     exact ⟨hokw, none, 0, rfl, by simp, by rw [RepWL]; trivial⟩
    ·have := hB.1 (xs.map (·.1))
     rw [Tree.count, countL, hx]
     show 1 + 0 ≤ B (.agg (xs.map (·.1)))
     omega
   ·simp only [List.cons.injEq, and_true] at hc
    subst hc
    have hall : ∀ i, i < len → ∃ t : Tree, (∃ b off lv, (some a : Option Addr) = some ⟨b, off, none⟩ ∧ w.rangeAt b (off + i * 9) (nodeCs t.hd lv) ∧ t.RepW w lv) ∧ ∀ B : DataW H → Nat, BulkLike B → ∀ y, elems[i]? = some y → t.count ≤ B y.1 := by
     intro i hi
     have h1 := hget i hi
     rw [List.getElem?_eq_getElem (by omega)] at h1
     obtain ⟨cs', h2, h3⟩ := Option.bind_eq_some_iff.1 h1
     rw [show Tryz.prog.cellsOf 27 = 9 by kernel_rfl] at h2
     obtain ⟨t, lv, rfl, hr, hbk⟩ := ih n' (by omega) _ _ h3
     obtain ⟨_, _, hcell⟩ := World.cells?_some h2
     have hsp : a.spot = none := by
      have h0 := hget 0 (by omega)
      rw [List.getElem?_eq_getElem (by omega)] at h0
      obtain ⟨cs0, h20, h30⟩ := Option.bind_eq_some_iff.1 h0
      rw [show Tryz.prog.cellsOf 27 = 9 by kernel_rfl] at h20
      obtain ⟨_, hl0, hc0⟩ := World.cells?_some h20
      have := hc0 0 (by decide)
      rw [List.getElem?_eq_getElem (by omega)] at this
      simpa [Addr.add] using World.cell?_spot this
     obtain ⟨b, off, sp⟩ := a
     cases hsp
     refine ⟨t, ⟨b, off, lv, rfl, ?_, hr⟩, fun B hB y hy => by rw [List.getElem?_eq_getElem (by omega)] at hy; cases hy; exact hbk B hB⟩
     intro j v hj
     have hj9 : j < 9 := by have := (List.getElem?_eq_some_iff.1 hj).1; simpa using this
     have h5 := (hcell j hj9).trans hj
     have h6 : ((⟨b, off, none⟩ : Addr).add (i * 9)).add j = ⟨b, off + i * 9 + j, none⟩ := by
      unfold Addr.add
      by_cases h7 : i * 9 = 0 <;> by_cases h8 : j = 0 <;> simp [h7, h8, Nat.add_assoc]
     rw [h6] at h5
     exact h5
    obtain ⟨l, hll, hl3⟩ := list_of_all (P := fun i t => (∃ b off lv, (some a : Option Addr) = some ⟨b, off, none⟩ ∧ w.rangeAt b (off + i * 9) (nodeCs t.hd lv) ∧ t.RepW w lv) ∧ ∀ B : DataW H → Nat, BulkLike B → ∀ y, elems[i]? = some y → t.count ≤ B y.1) len hall
    refine ⟨.node hd l, .slice (some a) len cap, by subst hhd; rfl, ?_, fun B hB => ?_⟩
    ·rw [Tree.RepW]
     refine ⟨hokw, some a, cap, by rw [hll], by unfold maxLen at hcm; omega, repWL_mk l 0 fun k hk => ?_⟩
     rw [Nat.zero_add]
     exact (hl3 k hk).1
    ·have h1 := hB.1 (xs.map (·.1))
     have h2 := hB.2 (elems.map (·.1)) (rest.map (·.1))
     have h3 := countL_sum (B := B) l (elems.map (·.1)) (by rw [List.length_map]; omega) fun i hi hi2 => by
      rw [List.getElem_map]
      exact (hl3 i hi).2 B hB _ (List.getElem?_eq_getElem (by rw [List.length_map] at hi2; exact hi2))
     have h4 : B (DataW.slice (elems.map (·.1)) (rest.map (·.1))) ∈ (xs.map (·.1)).map B := List.mem_map.2 ⟨y6.1, List.mem_map.2 ⟨y6, List.mem_of_getElem? e6, rfl⟩, by rw [hy6]⟩
     have h5 := sum_mem h4
     rw [Tree.count, hx]
     show 1 + countL l ≤ B (.agg (xs.map (·.1)))
     omega
end
end Go.Tm
namespace Go.Tm
open Go.RowKit Go.Proofs Go.ChangeShapes Go.Shelf
def u8R : Ren := ⟨fun n => n, fun | 5 => 5 | 119 => 247 | 138 => 249 | 139 => 250 | n => n, fun | 3 => 5 | 4 => 6 | n => n⟩
theorem tabIs_reads {P : Program} {W : World} {name : String} {k : IntKind} {zs : List Int} {g : Nat} {t e : TypeId} {n : Nat}
  (hg : P.globalNamed name = some g) (hty : (P.globals[g]?).map (·.type) = some t) (ht : P.underlying t = some (.array n e)) (he : P.underlying e = some (.int k)) (hce : P.cellsOf e = 1) (hct : P.cellsOf t = n)
  (h : Lib.VarReads P W name (Lib.tabData k zs)) : Lib.TabIs P W name k zs := by
 obtain ⟨g', t', cs, fuel, p, hg', hty', hvar, hd⟩ := h
 obtain rfl := Option.some.inj (hg.symm.trans hg')
 obtain rfl := Option.some.inj (hty.symm.trans hty')
 have hcs := Lib.cells_of_tab ht he hce hct hd
 unfold Lib.TabIs
 rw [hvar, ← hcs]
theorem sent_reads {P : Program} {W : World} {n : String} {text : List UInt8} {ps : List MemPlace} {l : List (String × DataW Unit)} {g : Nat} {ti tp te ts : TypeId} {ms : Array (String × TypeId)} {f : Field}
  (h : DataW.LaidVars P W ((n, .iface "*errors.errorString" (.ptr (.agg [.lit (.string text)]))) :: l) ps)
  (hrows : ∀ b off, MemPlace.cell b off ∈ ps → (∃ c t, W.heap[b]? = some (.cells c t (0, 0))) ∧ ∀ u v, W.cell? ⟨b, off, none⟩ = some (.iface u v) → Value.okWide P W .any 0 u v)
  (hg : P.globalNamed n = some g) (ht : (P.globals[g]?).map (·.type) = some ti) (hi : P.underlying ti = some (.interface ms)) (hrow : ∀ u, P.typeName? 3 u = some "*errors.errorString" → u = tp)
  (hp : P.underlying tp = some (.pointer te)) (he : P.underlying te = some (.struct #[f])) (hft : f.type = ts) (hfo : f.offset = 0) (hs : P.underlying ts = some .string) (hc : P.cellsOf te = 1) (hcs : P.cellsOf ts = 1) :
  ∃ (a : Addr) (q : List MemPlace), W.cell? ⟨g, 0, none⟩ = some (.iface tp (.pointer (some a))) ∧ W.var? P n = some #[.iface tp (.pointer (some a))] ∧ a.block < W.heap.size ∧ (∃ c t, W.heap[a.block]? = some (.cells c t (0, 0))) ∧ DataW.LaidVars P W l q ∧
   ps = MemPlace.row ⟨g, 0, none⟩ 1 ++ MemPlace.row a 1 ++ q := by
 obtain ⟨g0, t0, cs0, f0, p0, q0, hg0, ht0, hv0, hd0, hq, e0⟩ := h
 obtain rfl := Option.some.inj (hg.symm.trans hg0)
 obtain rfl := Option.some.inj (ht.symm.trans ht0)
 subst e0
 obtain ⟨l0⟩ := cs0
 have ok0 : ∀ u v, l0 = [.iface u v] → Value.okWide P W .any 0 u v := fun u v e => by
  subst e
  exact (hrows g 0 (by simp [MemPlace.row])).2 u v (by simpa using World.var?_cell hg0 hv0 0)
 obtain ⟨a0, s0, rfl, hc0, hs0, hz0, rfl⟩ := errorString_of_trod hi hrow hp he hft hfo hs hc hcs hd0 ok0
 have hcell : W.cell? ⟨g, 0, none⟩ = some (.iface tp (.pointer (some a0))) := by simpa using World.var?_cell hg0 hv0 0
 have hin := (hrows a0.block a0.off (by simp [MemPlace.row])).1
 obtain ⟨c, t, hb⟩ := hin
 exact ⟨a0, q0, hcell, hv0, lt_of_some hb, ⟨c, t, hb⟩, hq, rfl⟩
theorem row_apart {a b : Addr} {p q r : List MemPlace} (h : (p ++ MemPlace.row a 1 ++ (q ++ MemPlace.row b 1 ++ r)).Nodup) : a ≠ b := by
 rintro rfl
 rw [List.nodup_append] at h
 exact h.2.2 (.cell a.block a.off) (by simp [MemPlace.row]) (.cell a.block a.off) (by simp [MemPlace.row]) rfl
theorem star_err : "*" ++ "errors.errorString" = "*errors.errorString" := by decide
theorem row_err (u : TypeId) (h : Tryz.prog.typeName? 3 u = some "*errors.errorString") : u = 326 :=
 typeName_ptr_named (nm := "errors.errorString") (by rw [star_err]; kernel_rfl) (by kernel_rfl) (by decide) u (by rw [star_err]; exact h)
theorem glob_of_laid {W : World} (hL : laidMet Tryz.prog YthledjlechdbiaaGreatDoor.Rows.projTagsRow.laid W) : ∃ E, Glob W.heap.size E W := by
 have h1 : laidMet Tryz.prog [("targum/tree.errTree", YthledjlechdbiaaGreatDoor.Rows.laid_targum_tree_errTree), ("targum/tree.errForm", YthledjlechdbiaaGreatDoor.Rows.laid_targum_tree_errForm)] W := by
  have := hL.filter fun x => x.1 == "targum/tree.errTree" || x.1 == "targum/tree.errForm"
  exact this
 have h2 : laidMet Tryz.prog [("targum/proj.errKeys", YthledjlechdbiaaGreatDoor.Rows.laid_targum_proj_errKeys), ("targum/proj.errTree", YthledjlechdbiaaGreatDoor.Rows.laid_targum_proj_errTree)] W := by
  have := hL.filter fun x => x.1 == "targum/proj.errKeys" || x.1 == "targum/proj.errTree"
  exact this
 have h3 : laidMet Tryz.prog [("strconv.ErrRange", YthledjlechdbiaaGreatDoor.Rows.laid_strconv_ErrRange), ("strconv.ErrSyntax", YthledjlechdbiaaGreatDoor.Rows.laid_strconv_ErrSyntax)] W := by
  have := hL.filter fun x => x.1 == "strconv.ErrRange" || x.1 == "strconv.ErrSyntax"
  exact this
 obtain ⟨p1, q1, n1, r1⟩ := h1
 obtain ⟨p2, q2, n2, r2⟩ := h2
 obtain ⟨p3, q3, n3, r3⟩ := h3
 obtain ⟨aT, s1, cT, _, bT, oT, l1, e1⟩ := sent_reads (g := 1) q1 r1 (by kernel_rfl) (by kernel_rfl) Tryz.underlying45 row_err Tryz.underlying326 Tryz.underlying328 rfl rfl Tryz.underlying9 (by kernel_rfl) (by kernel_rfl)
 obtain ⟨aF, s2, cF, _, bF, oF, _, e2⟩ := sent_reads (g := 2) l1 (fun b off hm => r1 b off (by rw [e1]; exact List.mem_append_right _ hm)) (by kernel_rfl) (by kernel_rfl) Tryz.underlying45 row_err Tryz.underlying326 Tryz.underlying328 rfl rfl Tryz.underlying9 (by kernel_rfl) (by kernel_rfl)
 obtain ⟨aK, s3, cK, _, bK, oK, l3, e3⟩ := sent_reads (g := 3) q2 r2 (by kernel_rfl) (by kernel_rfl) Tryz.underlying45 row_err Tryz.underlying326 Tryz.underlying328 rfl rfl Tryz.underlying9 (by kernel_rfl) (by kernel_rfl)
 obtain ⟨aP, s4, cP, _, bP, oP, _, e4⟩ := sent_reads (g := 0) l3 (fun b off hm => r2 b off (by rw [e3]; exact List.mem_append_right _ hm)) (by kernel_rfl) (by kernel_rfl) Tryz.underlying45 row_err Tryz.underlying326 Tryz.underlying328 rfl rfl Tryz.underlying9 (by kernel_rfl) (by kernel_rfl)
 obtain ⟨aR, s5, _, vR, bR, oR, l5, e5⟩ := sent_reads (g := 8) q3 r3 (by kernel_rfl) (by kernel_rfl) Tryz.underlying45 row_err Tryz.underlying326 Tryz.underlying328 rfl rfl Tryz.underlying9 (by kernel_rfl) (by kernel_rfl)
 obtain ⟨aS, s6, _, vS, bS, oS, _, e6⟩ := sent_reads (g := 7) l5 (fun b off hm => r3 b off (by rw [e5]; exact List.mem_append_right _ hm)) (by kernel_rfl) (by kernel_rfl) Tryz.underlying45 row_err Tryz.underlying326 Tryz.underlying328 rfl rfl Tryz.underlying9 (by kernel_rfl) (by kernel_rfl)
 rw [e1, e2] at n1
 rw [e3, e4] at n2
 have t32 : Lib.VarReads Tryz.prog W "math/bits.deBruijn32tab" YthledjlechdbiaaGreatDoor.Rows.laid_math_bits_deBruijn32tab := Lib.laidMet.reads hL (by unfold YthledjlechdbiaaGreatDoor.Rows.projTagsRow; simp)
 have t64 : Lib.VarReads Tryz.prog W "math/bits.deBruijn64tab" (Lib.tabData .u8 (Lib.deBruijn64tab.map fun n : Nat => (n : Int))) := Lib.laidMet.reads hL (by unfold YthledjlechdbiaaGreatDoor.Rows.projTagsRow; simp; rfl)
 have tpw : Lib.VarReads Tryz.prog W "internal/strconv.uint64pow10" (Lib.tabData .u64 Lib.pow10Tab) := Lib.laidMet.reads hL (by unfold YthledjlechdbiaaGreatDoor.Rows.projTagsRow; simp; rfl)
 have tac : Lib.VarReads Tryz.prog W "unicode/utf8.acceptRanges" Lib.acceptData := Lib.laidMet.reads hL (by unfold YthledjlechdbiaaGreatDoor.Rows.projTagsRow; simp; rfl)
 have tfi : Lib.VarReads Tryz.prog W "unicode/utf8.first" Lib.firstData := Lib.laidMet.reads hL (by unfold YthledjlechdbiaaGreatDoor.Rows.projTagsRow; rw [← Pinned.utf8First_eq]; simp [YthledjlechdbiaaGreatDoor.Rows.laid_unicode_utf8_first])
 have hz : 12 ≤ W.heap.size := by
  obtain ⟨g, t, cs, fuel, p, h1, h2, h3, h4⟩ := t32
  obtain rfl : g = 11 := Option.some.inj (h1.symm.trans (by kernel_rfl))
  unfold World.var? at h3
  rw [h1] at h3
  simp only [Option.bind_some] at h3
  cases ho : W.heap[11]? with
  | none => rw [ho] at h3; cases h3
  | some o => have := lt_of_some ho; omega
 have htz := tabIs_reads (g := 4) (e := 5) (by kernel_rfl) (by kernel_rfl) Tryz.underlying231 Tryz.underlying5 (by kernel_rfl) (by kernel_rfl) t64
 have hpw := tabIs_reads (g := 10) (e := 24) (by kernel_rfl) (by kernel_rfl) Tryz.underlying323 Tryz.underlying24 (by kernel_rfl) (by kernel_rfl) tpw
 have hut := utf8Tabs_of_readsT (ρ := u8R) ⟨Tryz.underlying5, Tryz.underlying247, Tryz.underlying249, Tryz.underlying250⟩ ⟨by kernel_rfl, by kernel_rfl, by kernel_rfl, by kernel_rfl, by kernel_rfl, by kernel_rfl, by kernel_rfl⟩ tfi tac
 refine ⟨⟨.iface errT (.pointer (some aR)), aT, aF, aK, aP⟩, hz, hut, hpw, ?_, ⟨_, _, vR⟩, ⟨_, _, vS⟩, cT, cF, cK, cP, ?_, row_apart n1, row_apart n2⟩
 ·intro j hj
  rw [World.var?_cell (by kernel_rfl) htz j]
  simp [hj]
 ·rintro a (rfl | rfl | rfl | rfl)
  ·exact ⟨bT, oT⟩
  ·exact ⟨bF, oF⟩
  ·exact ⟨bK, oK⟩
  ·exact ⟨bP, oP⟩
end Go.Tm
namespace Go.Tm
open Go.RowKit Go.Proofs Go.ChangeShapes Go.WideShapes
theorem same_belowA {W W' : World} (h : Same W W') : Below W.heap.size W W' :=
 ⟨h.os, h.tape, h.output, h.size, fun k hk => by
  have := h.same k W.heap[k] (Array.getElem?_eq_getElem hk) trivial
  rw [this, Array.getElem?_eq_getElem hk]⟩
theorem laidOut : laidOutB Tryz.prog = true := by kernel_rfl
theorem node_readable : Tryz.prog.readableRec 27 = true := by kernel_rfl
theorem node_sized : 27 < Tryz.prog.types.size := of_decide_eq_true (by kernel_rfl)
section
variable {H : Type} {enc : TypeId × Value → H} {base : Nat} {spare : Nat → Bool} {held : Bool}
theorem node_of_trod {W : World} {v : Value} {d : DataW H} {p : List MemPlace} (h : DataW.Trod enc Tryz.prog W base spare held 27 v d p) : ∃ (t : Tree) (lv : Value), v = nodeV t.hd lv ∧ t.RepW W lv := by
 obtain ⟨fuel, hf⟩ := h
 obtain ⟨t, lv, hcs, hr, _⟩ := tree_of_trod fuel _ _ hf
 refine ⟨t, lv, ?_, hr⟩
 cases v with
 | agg cs =>
  simp only [Value.cells] at hcs
  rw [show cs = (nodeCs t.hd lv).toArray from Array.ext' (by simpa using hcs)]
 | _ => simp [Value.cells] at hcs
theorem node_stays {W W' : World} {v : Value} {d : DataW H} {p : List MemPlace} (h : DataW.Trod enc Tryz.prog W 0 (fun _ => true) true 27 v d p) (hk : Same W W') (hlt : ∀ x ∈ p, x.block < W.heap.size) {sp : Nat → Bool} (hsp : ∀ x ∈ p, sp x.block = true) :
  DataW.Trod enc Tryz.prog W' 0 sp true 27 v d p :=
 WideElems.Trod_stays laidOut node_readable node_sized h (fun x hx => (same_belowA hk).same (hlt x hx)) hsp
end
end Go.Tm
namespace Go.Tm
open Go.RowKit Go.Proofs
theorem mulRow_length (ai : Nat) : ∀ (bs : List Nat) (p c : Nat) (out : List Nat), (mulRow ai bs p c out).length = out.length
 | [], p, c, out => by simp [mulRow]
 | b :: r, p, c, out => by rw [mulRow, mulRow_length]; simp
theorem mem_set_lt {out : List Nat} {p v : Nat} (h : ∀ x ∈ out, x < LB) (hv : v < LB) : ∀ x ∈ out.set p v, x < LB := by
 intro x hx
 rcases List.mem_or_eq_of_mem_set hx with h1 | h1
 ·exact h x h1
 ·rw [h1]; exact hv
theorem limb_lt_of {l : List Nat} (h : ∀ x ∈ l, x < LB) (i : Nat) : nth l i < LB := by
 rcases Nat.lt_or_ge i l.length with h1 | h1
 ·exact h _ (nth_mem h1)
 ·rw [nth_ge h1]; decide
theorem mul_step {o a b c : Nat} (ho : o < LB) (ha : a < LB) (hb : b < LB) (hc : c < LB) : o + a * b + c < 1000000000000000000 ∧ a * b ≤ 999999998000000001 := by
 have h : a * b ≤ 999999999 * 999999999 := Nat.mul_le_mul (by have : LB = 1000000000 := rfl; omega) (by have : LB = 1000000000 := rfl; omega)
 have : LB = 1000000000 := rfl
 omega
theorem drop_nth {l : List Nat} {k : Nat} (h : k < l.length) : l.drop k = nth l k :: l.drop (k + 1) := by
 rw [List.drop_eq_getElem_cons h]
 simp [nth, List.getD_eq_getElem?_getD, List.getElem?_eq_getElem h]
theorem uV_set (out : List Nat) (p v : Nat) : (out.map uV).toArray.setIfInBounds p (uV v) = ((out.set p v).map uV).toArray := by
 simp [List.map_set]
theorem uV_cell {w : World} {b : Nat} {out : List Nat} {t : TypeId} {f : Nat × Nat} (h : w.heap[b]? = some (.cells (out.map uV).toArray t f)) {i : Nat} (hi : i < out.length) : w.cell? ⟨b, i, none⟩ = some (uV (nth out i)) := by
 unfold World.cell?
 rw [h]
 show (out.map uV).toArray[i]? = _
 rw [List.getElem?_toArray, List.getElem?_map, List.getElem?_eq_getElem hi]
 simp [nth, List.getD_eq_getElem?_getD, List.getElem?_eq_getElem hi]
theorem made_zero (n : Nat) : madeCells #[Value.int .u32 0] n = ((List.replicate n 0).map uV).toArray := by
 unfold madeCells
 apply Array.ext
 ·simp
 ·intro i h1 h2
  simp [Nat.mod_one]
theorem run_make32 (w : World) (n : Nat) (hn : n ≤ 1000000) : (Instr.makeSlice 233 (.int .i64 (n : Int)) (.int .i64 (n : Int))).run Tryz.prog w = .ok (.slice (some ⟨w.heap.size, 0, none⟩) n n) (w.alloc (.cells ((List.replicate n 0).map uV).toArray 176)) := by
 obtain ⟨i0, hi0, hz0, hz1, hz2⟩ := info_parts u32_info
 have := run_make (P := Tryz.prog) w 233 176 i0 _ Tryz.underlying233 hi0 hz0 .i64 .i64 (n : Int) (n : Int) (by omega) (Int.le_refl _) (by rw [hz2]; omega) (by omega)
 rw [this]
 simp only [Int.toNat_natCast, hz1, Nat.mul_one]
 rw [← made_zero]
 rfl
set_option maxRecDepth 100000 in
set_option maxHeartbeats 2000000 in
theorem mul_any (x y : List Nat) (v u : Value) (w : World) (hx : Limb w v x) (hy : Limb w u y) (hlen : x.length + y.length ≤ 1000000) :
  Calls Tryz.prog 198 #[v, u] w fun e w' => (∃ v', e = .returned v' ∧ Limb w' v' (mulL x y)) ∧ Same w w' := by
 obtain ⟨xa, xc, rfl⟩ := hx.is_slice
 obtain ⟨ya, yc, rfl⟩ := hy.is_slice
 obtain ⟨n, hn⟩ : ∃ n, x.length + y.length = n := ⟨_, rfl⟩
 have hmk : ∀ w : World, (Instr.makeSlice 233 (.int .i64 ((x.length : Int) + (y.length : Int))) (.int .i64 ((x.length : Int) + (y.length : Int)))).run Tryz.prog w = .ok (.slice (some ⟨w.heap.size, 0, none⟩) n n) (w.alloc (.cells ((List.replicate n 0).map uV).toArray 176)) := fun w => by
  have h := run_make32 w n (by omega)
  rwa [show ((n : Nat) : Int) = (x.length : Int) + (y.length : Int) by omega] at h
 have hxl := hx.2.1
 have hyl := hy.2.1
 go_enter Tryz.func198, Tryz.ntmps198
 go_wp2
 go_loopw [18] (fun iv wr => ∃ (i : Nat) (out : List Nat), iv = .int .i64 i ∧ i ≤ x.length ∧ mulRows y x 0 (List.replicate n 0) = mulRows y (x.drop i) i out ∧ out.length = n ∧ (∀ z ∈ out, z < LB) ∧ wr.heap[w.heap.size]? = some (.cells (out.map uV).toArray 176 (0, 0)) ∧ Same w wr) (fun iv _ => x.length - (RowKit.intOf iv).toNat)
 case atStart =>
  refine ⟨0, List.replicate n 0, rfl, Nat.zero_le _, rfl, by simp, fun z hz => by rw [List.eq_of_mem_replicate hz]; decide, ?_, (Keep.refl _ _).alloc _⟩
  rw [World.alloc_heap_new]; simp
 case round =>
  obtain ⟨i, out, rfl, hi, hs, hol, hall, hrow, hsm⟩ := hrel
  by_cases hlt : i < x.length
  ·rw [drop_nth hlt, mulRows] at hs
   have HS := Lib.hid hs
   clear hs
   have hxi := hx.lt i
   obtain ⟨ai, hai⟩ : ∃ ai, nth x i = ai := ⟨_, rfl⟩
   rw [hai] at HS hxi
   go_wp2
   go_loopw [23, 7] (fun kv cv wr_2 => ∃ (k c : Nat) (o2 : List Nat), kv = .int .i64 k ∧ cv = .int .u64 c ∧ k ≤ y.length ∧ c < LB ∧ mulRow ai y i 0 out = mulRow ai (y.drop k) (i + k) c o2 ∧ o2.length = n ∧ (∀ z ∈ o2, z < LB) ∧ wr_2.heap[w.heap.size]? = some (.cells (o2.map uV).toArray 176 (0, 0)) ∧ Same w wr_2) (fun kv _ _ => y.length - (RowKit.intOf kv).toNat)
   case atStart => exact ⟨0, 0, out, rfl, rfl, Nat.zero_le _, by decide, rfl, hol, hall, hrow, hsm⟩
   case round =>
    obtain ⟨k, c, o2, rfl, rfl, hk, hc, hs2, hol2, hall2, hrow2, hsm2⟩ := hrel
    by_cases hlt2 : k < y.length
    ·have hc0 := uV_cell hrow2 (i := i + k) (by omega)
     have hxi2 := hx.same hsm2
     have hyi2 := hy.same hsm2
     have hyk : nth y k < 1000000000 := hy.lt k
     have hib : i ≤ 1000000000 := by omega
     have hkb : k ≤ 1000000000 := by omega
     have L1 : ∀ m, Calls Tryz.prog 232 #[.slice xa x.length xc, .int .i64 (i : Int)] (wr.drewN m) fun e w' => e = .returned (.int .u64 ai) ∧ w' = wr.drewN m := fun m => by
      have h := limb_any x _ i (wr.drewN m) (hxi2.same ((Keep.refl _ _).drewN m)) hib
      rwa [hai] at h
     obtain ⟨bk, hbk⟩ : ∃ bk, nth y k = bk := ⟨_, rfl⟩
     have L2 : ∀ m, Calls Tryz.prog 232 #[.slice ya y.length yc, .int .i64 (k : Int)] (wr.drewN m) fun e w' => e = .returned (.int .u64 bk) ∧ w' = wr.drewN m := fun m => by
      have h := limb_any y _ k (wr.drewN m) (hyi2.same ((Keep.refl _ _).drewN m)) hkb
      rwa [hbk] at h
     obtain ⟨p, hp⟩ : ∃ p, i + k = p := ⟨_, rfl⟩
     have hpn : (p : Int) < (n : Int) := by omega
     have hwp : IntKind.i64.wrap (p : Int) = (p : Int) := by rw [IntKind.wrap_i64]; omega
     have hpb : p ≤ 1000000 := by omega
     have hwz : (i : Int) + (k : Int) = (p : Int) := by omega
     rw [hp] at hc0
     have HAI := Lib.hid hai
     have HBK := Lib.hid hbk
     rw [hbk] at hyk
     obtain ⟨op, hop⟩ : ∃ op, nth o2 p = op := ⟨_, rfl⟩
     have hopl : op < 1000000000 := by rw [← hop]; exact limb_lt_of hall2 _
     have HOP := Lib.hid hop
     rw [hop] at hc0
     have hst := mul_step hopl hxi hyk hc
     obtain ⟨hst1, hst2⟩ := hst
     obtain ⟨pp, hpp⟩ : ∃ pp, ai * bk = pp := ⟨_, rfl⟩
     rw [hpp] at hst1 hst2
     have hppi : (ai : Int) * (bk : Int) = (pp : Int) := by rw [← hpp]; push_cast; rfl
     obtain ⟨s1, hs1⟩ : ∃ s1, op + pp = s1 := ⟨_, rfl⟩
     obtain ⟨s2, hs2'⟩ : ∃ s2, s1 + c = s2 := ⟨_, rfl⟩
     have e1 : (op : Int) + (pp : Int) = (s1 : Int) := by omega
     have e2 : (s1 : Int) + (c : Int) = (s2 : Int) := by omega
     have w1 : IntKind.u64.wrap (pp : Int) = (pp : Int) := wrap_u64 (by omega) (by omega)
     have w2 : IntKind.u64.wrap (s1 : Int) = (s1 : Int) := wrap_u64 (by omega) (by omega)
     have w3 : IntKind.u64.wrap (s2 : Int) = (s2 : Int) := wrap_u64 (by omega) (by omega)
     have w4 : IntKind.u64.wrap (op : Int) = (op : Int) := wrap_u64 (by omega) (by omega)
     obtain ⟨r1, hr1⟩ : ∃ r, s2 % LB = r := ⟨_, rfl⟩
     obtain ⟨q1, hq1⟩ : ∃ q, s2 / LB = q := ⟨_, rfl⟩
     have w5 : IntKind.u32.wrap ((s2 : Int) % 1000000000) = (r1 : Int) := by rw [wrap_u32 (by omega) (by omega), ← hr1]; show _ = ((s2 % 1000000000 : Nat) : Int); omega
     have w6 : (s2 : Int) / 1000000000 = (q1 : Int) := by rw [← hq1]; show _ = ((s2 / 1000000000 : Nat) : Int); omega
     have hr1l : r1 < LB := by rw [← hr1]; exact Nat.mod_lt _ (by decide)
     have hq1l : q1 < LB := by rw [← hq1]; exact Nat.div_lt_of_lt_mul (show _ < 1000000000 * 1000000000 by omega)
     have hstep : mulRow ai y i 0 out = mulRow ai (y.drop (k + 1)) (i + (k + 1)) q1 (o2.set p r1) := by
      rw [hs2, drop_nth hlt2, mulRow, hbk, hp, hop, hpp, hs1, hs2', hq1, hr1, ← Nat.add_assoc, hp]
     have HST := Lib.hid hstep
     clear hr1 hq1 hstep hs2
     have hfz : ∀ j, wr.frozen? ⟨w.heap.size, j, none⟩ = false := Lib.frozen_of_heap hrow2
     clear hbk hop hai hpp
     go_wp2
     go_quiet (first
      | (go_at_call_of 232 (Value.slice xa x.length xc); exact Calls.quiet_of_same (L1 _))
      | (go_at_call_of 232 (Value.slice ya y.length yc); exact Calls.quiet_of_same (L2 _)))
     go_wp2
     go_roundw
     case rel =>
      refine ⟨k + 1, q1, o2.set p r1, by go_num, rfl, by omega, hq1l, HST.out, by simp [hol2], mem_set_lt hall2 hr1l, ?_, ?_⟩
      ·have := setCell_heap (w := wr.drewN nq) hrow2 p (uV r1)
       rw [uV_set] at this
       exact this
      ·refine (hsm2.drewN nq).setCell _ ?_; intro o _ _ h; exact absurd h (Nat.lt_irrefl _)
     case measure => simp [RowKit.intOf]; omega
    ·obtain rfl : k = y.length := by omega
     rw [List.drop_length, mulRow] at hs2
     have HS2 := Lib.hid hs2
     obtain ⟨p, hp⟩ : ∃ p, i + y.length = p := ⟨_, rfl⟩
     have hpn : (p : Int) < (n : Int) := by omega
     have hpb : p ≤ 1000000 := by omega
     have hwz : (i : Int) + (y.length : Int) = (p : Int) := by omega
     have hc0 := uV_cell hrow2 (i := p) (by omega)
     have hcl : c < 1000000000 := hc
     have hcm : c % 4294967296 = c := Nat.mod_eq_of_lt (by omega)
     rw [hp, hcm] at HS2
     have w5 : IntKind.u32.wrap (c : Int) = (c : Int) := wrap_u32 (by omega) (by omega)
     have hfz : ∀ j, wr.frozen? ⟨w.heap.size, j, none⟩ = false := Lib.frozen_of_heap hrow2
     clear hs2
     go_wp2
     go_roundw
     case rel =>
      refine ⟨i + 1, o2.set p c, by go_num, by omega, by rw [HS.out, HS2.out], by simp [hol2], mem_set_lt hall2 hc, ?_, ?_⟩
      ·have := setCell_heap hrow2 p (uV c)
       rw [uV_set] at this
       exact this
      ·refine hsm2.setCell _ ?_; intro o _ _ h; exact absurd h (Nat.lt_irrefl _)
     case measure => simp [RowKit.intOf]; omega
  ·obtain rfl : i = x.length := by omega
   rw [List.drop_length, mulRows] at hs
   have hL := Limb.of_row hrow (by omega) hall (cap := n) (by omega)
   rw [hol] at hL
   have hfin : mulL x y = trimL out := by unfold mulL; rw [hn, hs]
   have HF := Lib.hid hfin
   clear hs hfin
   go_wp2_with (go_at_call 233; refine (trim_any out _ _ hL).mono ?_; rintro e w' ⟨⟨v', rfl, hv'⟩, rfl⟩; obtain ⟨va, vc, rfl⟩ := hv'.is_slice)
   go_ret
   exact ⟨⟨_, rfl, by rw [HF.out]; exact hv'⟩, hsm⟩
end Go.Tm
