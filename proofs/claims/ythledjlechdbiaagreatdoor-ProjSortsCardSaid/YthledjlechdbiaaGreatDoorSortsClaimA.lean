/-
  Part 1 of what the claim leans on: contracts of the functions that the law reaches, and plain facts of what they compute (joined by wip/merge.py out of the texts named behind each mark). Conditions: the theorems' own.
-/
import Derived.RangeFuncNested
import Derived.RangeFuncBound
import Derived.RangeFuncCalls
import Derived.RangeFuncLeaves
import Derived.WalkKit
import Derived.OwnWalkIn
import Derived.TacticsInMore
import Derived.LoopNIn
import Derived.LoopIn
import Derived.WalkLawsBesides
import Derived.WalkSpells
import Derived.Lib.Hide
import Derived.Lib.ValidU
import Derived.Deep.MidRow
import Derived.IntWalk
import Derived.Laws.AppendOwn
import Derived.Shelf.Abstract
import Derived.OrdersIn
import Derived.Scope
import Derived.MapKept
import Derived.Lib.Builder
import Derived.Lib.Strings
import Derived.Laws.Externs
import Derived.Laws.BytesArg
import Derived.RangeFuncBox
import Derived.BigQuiet
import Derived.Deep.QuietTactic
import Derived.ChangeSame
import Derived.Lib.AppendStr
import Derived.Sort.LotA
import Derived.Laws.Tables
import Derived.Laws.OwnMore
import Derived.Test.YthledjlechdbiaaGreatDoorProg
set_option linter.unusedVariables false
namespace Go.Tm
open Go.RowKit
def nth (xs : List Nat) (i : Nat) : Nat := xs.getD i 0
def bytesN (s : ByteArray) : List Nat := s.data.toList.map (·.toNat)
theorem bytesN_length (s : ByteArray) : (bytesN s).length = s.size := by simp [bytesN]
theorem nth_bytes (s : ByteArray) {k : Nat} (h : k < s.size) : nth (bytesN s) k = (s[k]).toNat := by
 have h' : k < s.data.toList.length := by simpa using h
 simp only [nth, bytesN, List.getD_eq_getElem?_getD, List.getElem?_map, List.getElem?_eq_getElem h', Option.map_some, Option.getD_some]
 rfl
theorem nth_lt (s : ByteArray) (k : Nat) : nth (bytesN s) k < 256 := by
 unfold nth bytesN
 rw [List.getD_eq_getElem?_getD, List.getElem?_map]
 cases s.data.toList[k]? with
 | none => simp
 | some c => simpa using c.toNat_lt
theorem wrap_u64 {x : Int} (h0 : 0 ≤ x) (h1 : x < 18446744073709551616) : IntKind.u64.wrap x = x := by
 simp only [IntKind.wrap, IntKind.bits, IntKind.signed]
 simp
 omega
structure Keep (S : Nat → Obj → Prop) (w w' : World) : Prop where
 os : w'.os = w.os
 tape : w'.tape = w.tape
 output : w'.output = w.output
 size : w.heap.size ≤ w'.heap.size
 same : ∀ (b : Nat) (o : Obj), w.heap[b]? = some o → S b o → w'.heap[b]? = some o
abbrev All : Nat → Obj → Prop := fun _ _ => True
abbrev Same (w w' : World) : Prop := Keep All w w'
section
variable {S S' : Nat → Obj → Prop} {a b c w w' : World}
theorem Keep.refl (S : Nat → Obj → Prop) (w : World) : Keep S w w := ⟨rfl, rfl, rfl, Nat.le_refl _, fun _ _ h _ => h⟩
theorem Keep.trans (h : Keep S a b) (k : Keep S b c) : Keep S a c :=
 ⟨k.os.trans h.os, k.tape.trans h.tape, k.output.trans h.output, Nat.le_trans h.size k.size, fun i o hi hs => k.same i o (h.same i o hi hs) hs⟩
theorem Keep.mono (h : Keep S w w') (hs : ∀ b o, w.heap[b]? = some o → S' b o → S b o) : Keep S' w w' :=
 ⟨h.os, h.tape, h.output, h.size, fun b o hb hS => h.same b o hb (hs b o hb hS)⟩
theorem Keep.of_same (h : Same w w') : Keep S w w' := h.mono fun _ _ _ _ => trivial
theorem Keep.drew (h : Keep S a w) : Keep S a w.drew := ⟨h.os, h.tape, h.output, h.size, h.same⟩
theorem Keep.drewN (h : Keep S a w) (n : Nat) : Keep S a (w.drewN n) := ⟨h.os, h.tape, h.output, h.size, h.same⟩
theorem lt_of_some {w : World} {b : Nat} {o : Obj} (h : w.heap[b]? = some o) : b < w.heap.size := (Array.getElem?_eq_some_iff.1 h).1
theorem Keep.alloc (h : Keep S a w) (o : Obj) : Keep S a (w.alloc o) :=
 h.trans ⟨rfl, rfl, rfl, by simp, fun b o' hb _ => (Below.heap_alloc w o b (lt_of_some hb)).trans hb⟩
theorem Keep.setCell (h : Keep S a w) {p : Addr} (v : Value) (hp : ∀ o, w.heap[p.block]? = some o → S p.block o → p.block < a.heap.size → False) : Keep S a (w.setCell p v) :=
 ⟨h.os, h.tape, h.output, Nat.le_trans h.size (by simp [World.setCell]), fun b o hb hS => by
  have h1 := h.same b o hb hS
  rw [Below.heap_setCell]
  ·exact h1
  ·rintro rfl; exact hp o h1 hS (lt_of_some hb)⟩
theorem Keep.putObj (h : Keep S a w) {r : Nat} (v : Obj) (hp : ∀ o, w.heap[r]? = some o → S r o → r < a.heap.size → False) : Keep S a (w.putObj r v) :=
 ⟨h.os, h.tape, h.output, Nat.le_trans h.size (by simp), fun b o hb hS => by
  have h1 := h.same b o hb hS
  rw [World.putObj_heap_other]
  ·exact h1
  ·rintro rfl; exact hp o h1 hS (lt_of_some hb)⟩
theorem Keep.grown (h : Keep S a w) {row : Option Nat} (hg : w.grownBy w' row) (hr : ∀ r, row = some r → ∀ o, w.heap[r]? = some o → S r o → r < a.heap.size → False) : Keep S a w' :=
 ⟨hg.os.trans h.os, hg.tape.trans h.tape, hg.output.trans h.output, Nat.le_trans h.size hg.size, fun b o hb hS => by
  have h1 := h.same b o hb hS
  rw [hg.block b (lt_of_some h1) (fun e => hr b e.symm o h1 hS (lt_of_some hb))]
  exact h1⟩
theorem Keep.below {B : Nat} (h : Below B w w') (hS : ∀ b o, w.heap[b]? = some o → S b o → b < B) : Keep S w w' :=
 ⟨h.os, h.tape, h.output, h.size, fun b o hb hs => (h.block b (hS b o hb hs)).trans hb⟩
theorem Keep.of_below (h : Below w.heap.size w w') : Same w w' := Keep.below h fun b _ hb _ => lt_of_some hb
theorem heap_new' {w : World} {o : Obj} {b : Nat} (hb : b = w.heap.size) : (w.alloc o).heap[b]? = some o := by subst hb; exact World.alloc_heap_new w o
theorem heap_old {w : World} {o x : Obj} {b : Nat} (h : w.heap[b]? = some x) : (w.alloc o).heap[b]? = some x := (Below.heap_alloc w o b (lt_of_some h)).trans h
theorem Keep.cell (h : Keep S w w') {p : Addr} {v : Value} (hc : w.cell? p = some v) (hS : ∀ o, w.heap[p.block]? = some o → S p.block o) : w'.cell? p = some v := by
 unfold World.cell? at hc ⊢
 cases ho : w.heap[p.block]? with
 | none => rw [ho] at hc; cases hc
 | some o => rw [h.same _ o ho (hS o ho)]; rw [ho] at hc; exact hc
theorem cell_block {w : World} {p : Addr} {v : Value} (hc : w.cell? p = some v) : ∃ o, w.heap[p.block]? = some o ∧ o.isCells = true := by
 unfold World.cell? at hc
 cases ho : w.heap[p.block]? with
 | none => rw [ho] at hc; cases hc
 | some o => rw [ho] at hc; cases o <;> first | exact ⟨_, rfl, rfl⟩ | (cases hc)
theorem Keep.boxed (h : Keep S w w') {b : Nat} {t : TypeId} {v : Value} (hb : Boxed w b t v) (hS : S b (.cells #[v] t (0, 0))) : Boxed w' b t v := h.same b _ hb hS
end
theorem cell_ne_loop {w : World} {p : Addr} {v : Value} {l : Nat} {r : Loop} (hc : w.cell? p = some v) (hl : w.heap[l]? = some (.loop r)) : p.block ≠ l := by
 rintro rfl
 obtain ⟨o, ho, hk⟩ := cell_block hc
 rw [hl] at ho; cases ho; cases hk
def IterAt (P : Program) (g : Nat) (lb : Array Value) (n : Nat) (E : Nat → Array Value → World → Prop) (Sb Si : Nat → Obj → Prop) (Fin : World → Prop) (FinX : Nat → World → Prop) (W : World) : Prop :=
 ∀ (l : Nat) (J Jx : Nat → World → Prop), (∀ i A, J i A → ∃ r, A.heap[l]? = some (.loop r)) →
  (∀ i A B, J i A → Keep Si A B → J i B) → (∀ i A B, Jx i A → Keep Si A B → Jx i B) →
  (∀ i v A, i < n → J i A → E i v A → YieldAt Fence.wide 0 P l v A fun e B =>
   Keep (fun b o => b ≠ l ∧ Sb b o) A B ∧ ((e = .returned (.bool true) ∧ J (i + 1) B) ∨ (e = .returned (.bool false) ∧ Jx i B))) →
  J 0 W →
  CallsIn Fence.wide 0 P g (#[.func (.yield l) #[] #[]] ++ lb) W fun e B => (∃ v, e = .returned v) ∧ ((J n B ∧ Fin B) ∨ (∃ i, i < n ∧ Jx i B ∧ FinX i B))
@[simp, go_sem] theorem wide_fn (f : FuncId) : Fence.wide.fn f = True := rfl
@[simp, go_sem] theorem wide_depth : Fence.wide.depth = none := rfl
attribute [go_sem] Oper.semAt_some
def roundEnd (Sb : Nat → Obj → Prop) (I : Nat → World → Prop) (Ix : Nat → Code → World → Prop) (i : Nat) (A : World) : Exit → Act → World → Prop
 | .normal, _, B => Keep Sb A B ∧ I (i + 1) B
 | .ret, _, B => Keep Sb A B ∧ Ix i .ret B
 | .exit id, _, B => Keep Sb A B ∧ Ix i (.exit id) B
 | .goto t, _, B => Keep Sb A B ∧ Ix i (.goto t) B
 | .panic _, _, _ => False
 | .outgrown, _, _ => False
variable {P : Program} {w : World}
theorem wp_range {g : Operand} {ps : Array Tmp} {assign body : Code} {Q : Exit → Act → World → Prop} {a : Act} {gf : Nat} {lb : Array Value}
  (hg : a.eval g = .func (.func gf) #[] lb) (eg : ∀ args w, (callFunc gf args).run P w = .ok (.enter gf args) w)
  (n : Nat) (E : Nat → Array Value → World → Prop) (Sb Si : Nat → Obj → Prop) (Fin : World → Prop) (FinX : Nat → World → Prop)
  (hit : ∀ W, Same w W → W.heap.size = w.heap.size + 2 → IterAt P gf lb n E Sb Si Fin FinX W)
  (hSb : ∀ b o, w.heap.size ≤ b → o.isCells = false → Sb b o) (hSi : ∀ b o, w.heap.size ≤ b → b < w.heap.size + 2 → o.isCells = false → Si b o)
  (I : Nat → World → Prop) (Ix : Nat → Code → World → Prop)
  (hI : ∀ i A B, I i A → Keep (fun b o => (b < w.heap.size ∨ o.isCells = true) ∧ Si b o) A B → I i B)
  (hIx : ∀ i c A B, Ix i c A → Keep (fun b o => (b < w.heap.size ∨ o.isCells = true) ∧ Si b o) A B → Ix i c B)
  (hE : ∀ i v A B, E i v A → Keep (fun b o => b < w.heap.size ∨ o.isCells = true) A B → E i v B)
  (hFin : ∀ A B, Fin A → Keep (fun b o => b < w.heap.size ∨ o.isCells = true) A B → Fin B)
  (hFinX : ∀ i A B, FinX i A → Keep (fun b o => b < w.heap.size ∨ o.isCells = true) A B → FinX i B)
  (hEs : ∀ i v A, E i v A → v.size = ps.size)
  (h0 : I 0 w) (Ax : Nat → Array Value → Act → World → Prop)
  (hAx : ∀ i v a' A B, Ax i v a' A → Keep (fun b o => (b < w.heap.size ∨ o.isCells = true)) A B → Ax i v a' B)
  (hassign : ∀ (l i : Nat) (v : Array Value) (A : World) (K : Act → World → Prop), i < n → I i A → E i v A → (∀ a' A', Same A A' → I i A' → E i v A' → Ax i v a' A' → K a' A') →
   assign.wpIn (Fence.wide.inRound l) 0 P (Exit.then K (fun _ _ _ => False)) { tmps := (ps.zip v).foldl (fun t (p, x) => t.setIfInBounds p x) a.tmps, defers := [] } A)
  (hbody : ∀ (l i : Nat) (v : Array Value) (a' : Act) (A : World), w.heap.size ≤ l → (∃ r, A.heap[l]? = some (.loop r)) → i < n → I i A → E i v A → Ax i v a' A →
   body.wpIn (Fence.wide.inRound l) 0 P (roundEnd Sb I Ix i A) a' A)
  (hdone : ∀ (D : Nat) (W : World), w.heap.size ≤ D → I n W → Fin W → Keep (fun b o => Sb b o ∧ Si b o) w W → W.heap[D]? = some (.deferred (some [])) →
   Q .normal { a with defers := { target := .collected D, args := #[] } :: a.defers } W)
  (hstop : ∀ (D i : Nat) (c : Code) (W : World), w.heap.size ≤ D → i < n → Ix i c W → FinX i W → Keep (fun b o => Sb b o ∧ Si b o) w W → W.heap[D]? = some (.deferred (some [])) →
   c.wpIn Fence.wide 0 P Q { a with defers := { target := .collected D, args := #[] } :: a.defers } W) :
  (Code.rangeFunc g ps assign body).wpIn Fence.wide 0 P Q a w := by
 refine wpIn_rangeFunc ?_
 intro fn hfn
 show ∃ (l : Nat) (mark : List Deferred) (w₁ : World) (d : Deferred) (w₁' : World) (f : FuncId) (args : Array Value) (w₂ : World), _
 obtain ⟨rec, hrec⟩ : ∃ rec : LoopState → Option Code → Loop, rec = fun st pe => { state := st, pending := pe, fn, tmps := a.tmps, params := ps, assign, body, defers := w.heap.size } := ⟨_, rfl⟩
 obtain ⟨W1, hW1⟩ : ∃ W1, (w.alloc (.deferred (some []))).alloc (.loop (rec .ready none)) = W1 := ⟨_, rfl⟩
 have hL1 : W1.heap[w.heap.size + 1]? = some (.loop (rec .ready none)) := by
  rw [← hW1]; have := World.alloc_heap_new (w.alloc (.deferred (some []))) (.loop (rec .ready none)); rwa [World.size_alloc] at this
 have hK1 : W1.heap[w.heap.size]? = some (.deferred (some [])) := by
  rw [← hW1]; exact (Below.heap_alloc _ _ _ (by simp)).trans (World.alloc_heap_new w _)
 have hs1 : Same w W1 := by rw [← hW1]; exact ((Keep.refl _ w).alloc _).alloc _
 have hz1 : W1.heap.size = w.heap.size + 2 := by rw [← hW1]; simp
 have hI1 : I 0 W1 := hI _ _ _ h0 (Keep.of_same hs1)
 refine ⟨w.heap.size + 1, [{ target := .collected w.heap.size, args := #[] }], W1, { target := .fn (.func gf) lb, args := #[.func (.yield (w.heap.size + 1)) #[] #[]] }, W1, gf,
  #[.func (.yield (w.heap.size + 1)) #[] #[]] ++ lb, W1, ?_, ?_, ?_, ?_, fun h => by simp at h, ?_⟩
 ·rw [← hW1, hrec]; exact run_enterLoop_outer _ _ _ _ _
 ·simp only [resolve, hg]
  simp [go_sem]
 ·intro f' _; trivial
 ·simp [invoke, go_sem, eg]
 ·have turn : ∀ (A : World) (r : Loop) (o : Obj), A.heap[w.heap.size + 1]? = some (.loop r) → Keep (fun b o => b < w.heap.size ∨ o.isCells = true) A (A.putObj (w.heap.size + 1) o) := fun A r o hA =>
   (Keep.refl _ A).putObj o fun o' ho' hS _ => by rw [hA] at ho'; cases ho'; simp [Obj.isCells] at hS; omega
  have turnI : ∀ (A : World) (r : Loop) (o : Obj), A.heap[w.heap.size + 1]? = some (.loop r) → Keep (fun b o => (b < w.heap.size ∨ o.isCells = true) ∧ Si b o) A (A.putObj (w.heap.size + 1) o) := fun A r o hA =>
   (turn A r o hA).mono fun _ _ _ h => h.1
  have turnS : ∀ (A : World) (o : Obj), Keep (fun b o => Sb b o ∧ Si b o) w A → Keep (fun b o => Sb b o ∧ Si b o) w (A.putObj (w.heap.size + 1) o) := fun A o hA =>
   hA.putObj o fun _ _ _ h => by omega
  refine ((hit W1 hs1 hz1) (w.heap.size + 1)
   (fun i W => I i W ∧ W.heap[w.heap.size + 1]? = some (.loop (rec .ready none)) ∧ W.heap[w.heap.size]? = some (.deferred (some [])) ∧ Keep (fun b o => Sb b o ∧ Si b o) w W)
   (fun i W => ∃ c, Ix i c W ∧ W.heap[w.heap.size + 1]? = some (.loop (rec .done (some c))) ∧ W.heap[w.heap.size]? = some (.deferred (some [])) ∧ Keep (fun b o => Sb b o ∧ Si b o) w W)
   (fun _ _ h => ⟨_, h.2.1⟩) ?_ ?_ ?_ ⟨hI1, hL1, hK1, Keep.of_same hs1⟩).mono ?_
  ·rintro i A B ⟨h1, h2, h3, h4⟩ hk
   exact ⟨hI _ _ _ h1 (hk.mono fun _ _ _ h => h.2), hk.same _ _ h2 (hSi _ _ (by omega) (by omega) rfl), hk.same _ _ h3 (hSi _ _ (Nat.le_refl _) (by omega) rfl), h4.trans (hk.mono fun _ _ _ h => h.2)⟩
  ·rintro i A B ⟨c, h1, h2, h3, h4⟩ hk
   exact ⟨c, hIx _ _ _ _ h1 (hk.mono fun _ _ _ h => h.2), hk.same _ _ h2 (hSi _ _ (by omega) (by omega) rfl), hk.same _ _ h3 (hSi _ _ (Nat.le_refl _) (by omega) rfl), h4.trans (hk.mono fun _ _ _ h => h.2)⟩
  ·-- one round
   rintro i v W hin ⟨hi, hl, hk, hS⟩ he
   have hy := run_yield (P := P) (args := v) hl (by rw [hrec]; exact hEs i v W he)
   rw [hrec] at hy
   refine ⟨fn, _, assign, body, hy, roundIn_of_wpIn hfn (hassign _ i v W _ hin hi he ?_)⟩
   clear hy
   intro a' Wa hsa hia hea hax
   have hla := hsa.same _ _ hl trivial
   have hka := hsa.same _ _ hk trivial
   refine ⟨_, run_beginRound hla (by rw [hrec]), ?_⟩
   have hlt : w.heap.size + 1 < Wa.heap.size := lt_of_some hla
   have hl2 : (Wa.putObj (w.heap.size + 1) (.loop { rec .ready none with state := .busy })).heap[w.heap.size + 1]? = some (.loop { rec .ready none with state := .busy }) := World.putObj_heap_same hlt
   have hk2 : (Wa.putObj (w.heap.size + 1) (.loop { rec .ready none with state := .busy })).heap[w.heap.size]? = some (.deferred (some [])) := (World.putObj_heap_other (by omega)).trans hka
   have t2 := turn Wa _ (.loop { rec .ready none with state := .busy }) hla
   refine wpIn_mono (hbody _ i v a' _ (by omega) ⟨_, hl2⟩ hin (hI _ _ _ hia (turnI Wa _ _ hla)) (hE _ _ _ _ hea t2) (hAx _ _ _ _ _ hax t2)) ?_
   have hS2 : Keep (fun b o => Sb b o ∧ Si b o) w (Wa.putObj (w.heap.size + 1) (.loop { rec .ready none with state := .busy })) := turnS _ _ (hS.trans (Keep.of_same hsa))
   have fin : ∀ (jump : Option Code) (W3 : World), Keep Sb (Wa.putObj (w.heap.size + 1) (.loop { rec .ready none with state := .busy })) W3 →
     (Instr.endRound (w.heap.size + 1) jump).run P W3 = .ok (.bool jump.isNone) (W3.putObj (w.heap.size + 1) (.loop (rec (if jump.isNone then .ready else .done) jump))) ∧
     W3.heap[w.heap.size + 1]? = some (.loop { rec .ready none with state := .busy }) ∧
     (W3.putObj (w.heap.size + 1) (.loop (rec (if jump.isNone then .ready else .done) jump))).heap[w.heap.size + 1]? = some (.loop (rec (if jump.isNone then .ready else .done) jump)) ∧
     (W3.putObj (w.heap.size + 1) (.loop (rec (if jump.isNone then .ready else .done) jump))).heap[w.heap.size]? = some (.deferred (some [])) ∧
     Keep (fun b o => Sb b o ∧ Si b o) w (W3.putObj (w.heap.size + 1) (.loop (rec (if jump.isNone then .ready else .done) jump))) ∧
     Keep (fun b o => b ≠ w.heap.size + 1 ∧ Sb b o) W (W3.putObj (w.heap.size + 1) (.loop (rec (if jump.isNone then .ready else .done) jump))) := fun jump W3 hk3 => by
    have hl3 := hk3.same _ _ hl2 (hSb _ _ (by omega) rfl)
    have hd3 := hk3.same _ _ hk2 (hSb _ _ (Nat.le_refl _) rfl)
    have := run_endRound (P := P) jump hl3
    rw [hrec] at this ⊢
    rw [hrec] at hl3
    refine ⟨this, hl3, World.putObj_heap_same (lt_of_some hl3), (World.putObj_heap_other (by omega)).trans hd3, turnS _ _ (hS2.trans (hk3.mono fun _ _ _ h => h.1)), ?_⟩
    refine ⟨hk3.os.trans hsa.os, hk3.tape.trans hsa.tape, hk3.output.trans hsa.output, by have := hk3.size; have := hsa.size; simp at *; omega, fun b o hb hs => ?_⟩
    rw [World.putObj_heap_other hs.1]
    exact hk3.same b o ((World.putObj_heap_other hs.1).trans (hsa.same b o hb trivial)) hs.2
   rintro e a3 W3 hp
   cases e with
   | normal =>
    obtain ⟨hk3, hi3⟩ := hp
    obtain ⟨hr, hl3, hl4, hk4, hs4, hb4⟩ := fin none W3 hk3
    exact ⟨_, _, hr, hb4, .inl ⟨rfl, hI _ _ _ hi3 (turnI W3 _ _ hl3), hl4, hk4, hs4⟩⟩
   | ret =>
    obtain ⟨hk3, hi3⟩ := hp
    obtain ⟨hr, hl3, hl4, hk4, hs4, hb4⟩ := fin (some .ret) W3 hk3
    exact ⟨_, _, hr, hb4, .inr ⟨rfl, .ret, hIx _ _ _ _ hi3 (turnI W3 _ _ hl3), hl4, hk4, hs4⟩⟩
   | exit id =>
    obtain ⟨hk3, hi3⟩ := hp
    obtain ⟨hr, hl3, hl4, hk4, hs4, hb4⟩ := fin (some (.exit id)) W3 hk3
    exact ⟨_, _, hr, hb4, .inr ⟨rfl, .exit id, hIx _ _ _ _ hi3 (turnI W3 _ _ hl3), hl4, hk4, hs4⟩⟩
   | goto t =>
    obtain ⟨hk3, hi3⟩ := hp
    obtain ⟨hr, hl3, hl4, hk4, hs4, hb4⟩ := fin (some (.goto t)) W3 hk3
    exact ⟨_, _, hr, hb4, .inr ⟨rfl, .goto t, hIx _ _ _ _ hi3 (turnI W3 _ _ hl3), hl4, hk4, hs4⟩⟩
   | panic ch => exact hp.elim
   | outgrown => exact hp.elim
  ·-- behind the iterator
   rintro e W2 ⟨⟨v, rfl⟩, (⟨⟨hi, hl, hk, hs⟩, hf⟩ | ⟨i, hin, ⟨c, hi, hl, hk, hs⟩, hf⟩)⟩
   ·have t2 := turn W2 _ (.loop { rec .ready none with state := .exhausted }) hl
    refine ⟨none, _, by have := run_endLoop (P := P) hl (by rw [hrec]; simp); rw [hrec] at this; exact this, ?_⟩
    have := hdone w.heap.size _ (Nat.le_refl _) (hI _ _ _ hi (turnI W2 _ _ hl)) (hFin _ _ hf t2) (turnS _ _ hs) ((World.putObj_heap_other (by omega)).trans hk)
    rw [hrec] at this
    exact this
   ·have t2 := turn W2 _ (.loop { rec .done (some c) with state := .exhausted }) hl
    refine ⟨some c, _, by have := run_endLoop (P := P) hl (by rw [hrec]; simp); rw [hrec] at this; exact this, ?_⟩
    have := hstop w.heap.size i c _ (Nat.le_refl _) hin (hIx _ _ _ _ hi (turnI W2 _ _ hl)) (hFinX _ _ _ hf t2) (turnS _ _ hs) ((World.putObj_heap_other (by omega)).trans hk)
    rw [hrec] at this
    exact this
theorem callsR {f : FuncId} {args : Array Value} {R : Ending → World → Prop} {m : Nat} (l : Nat) (h : Calls P f args w R) : CallsIn (Fence.wide.inRound l) m P f args w R := CallsIn.inRound l (callsIn_wide.2 h)
theorem callsW {f : FuncId} {args : Array Value} {R : Ending → World → Prop} {m : Nat} (h : Calls P f args w R) : CallsIn Fence.wide m P f args w R := callsIn_wide.2 h
theorem RoundIn.inRound {F : Fence} {m : Nat} {l' : Nat} {f : FuncId} {tmps : Array Value} {assign body : Code} {R : Ending → World → Prop} (l : Nat) (h : RoundIn F m P l' f tmps assign body w R) : RoundIn (F.inRound l) m P l' f tmps assign body w R := h
theorem size_one {v : Array Value} {n : Nat} (hn : n = 1) (h : v.size = n) : ∃ x, v = #[x] := by
 subst hn
 rcases v with ⟨_ | ⟨x, _ | _⟩⟩ <;> simp at h
 exact ⟨x, rfl⟩
theorem size_two {v : Array Value} {n : Nat} (hn : n = 2) (h : v.size = n) : ∃ x y, v = #[x, y] := by
 subst hn
 rcases v with ⟨_ | ⟨x, _ | ⟨y, _ | _⟩⟩⟩ <;> simp at h
 exact ⟨x, y, rfl⟩
theorem wp_rangeS {g : Operand} {ps : Array Tmp} {assign body : Code} {Q : Exit → Act → World → Prop} {a : Act} {gf : Nat} {lb : Array Value}
  (hg : a.eval g = .func (.func gf) #[] lb) (eg : ∀ args w, (callFunc gf args).run P w = .ok (.enter gf args) w)
  (n : Nat) (E : Nat → Array Value → World → Prop) (Sb Si : Nat → Obj → Prop) (Fin : World → Prop) (FinX : Nat → World → Prop)
  (hit : ∀ W, Same w W → W.heap.size = w.heap.size + 2 → IterAt P gf lb n E Sb Si Fin FinX W)
  (hSb : ∀ b o, w.heap.size ≤ b → o.isCells = false → Sb b o) (hSi : ∀ b o, w.heap.size ≤ b → b < w.heap.size + 2 → o.isCells = false → Si b o)
  (I : Nat → World → Prop) (Ix : Nat → Code → World → Prop)
  (hI : ∀ i A B, I i A → Keep (fun b o => (b < w.heap.size ∨ o.isCells = true) ∧ Si b o) A B → I i B)
  (hIx : ∀ i c A B, Ix i c A → Keep (fun b o => (b < w.heap.size ∨ o.isCells = true) ∧ Si b o) A B → Ix i c B)
  (hE : ∀ i v A B, E i v A → Keep (fun b o => b < w.heap.size ∨ o.isCells = true) A B → E i v B)
  (hFin : ∀ A B, Fin A → Keep (fun b o => b < w.heap.size ∨ o.isCells = true) A B → Fin B)
  (hFinX : ∀ i A B, FinX i A → Keep (fun b o => b < w.heap.size ∨ o.isCells = true) A B → FinX i B)
  (hEs : ∀ i v A, E i v A → v.size = ps.size)
  (h0 : I 0 w)
  (hround : ∀ (i : Nat) (v : Array Value), v.size = ps.size → ∃ a1,
   (∀ (l : Nat) (A : World) (K : Act → World → Prop), K a1 A → assign.wpIn (Fence.wide.inRound l) 0 P (Exit.then K (fun _ _ _ => False)) { tmps := (ps.zip v).foldl (fun t (p, x) => t.setIfInBounds p x) a.tmps, defers := [] } A) ∧
   ∀ (l : Nat) (A : World), w.heap.size ≤ l → (∃ r, A.heap[l]? = some (.loop r)) → i < n → I i A → E i v A → body.wpIn (Fence.wide.inRound l) 0 P (roundEnd Sb I Ix i A) a1 A)
  (hdone : ∀ (D : Nat) (W : World), w.heap.size ≤ D → I n W → Fin W → Keep (fun b o => Sb b o ∧ Si b o) w W → W.heap[D]? = some (.deferred (some [])) →
   Q .normal { a with defers := { target := .collected D, args := #[] } :: a.defers } W)
  (hstop : ∀ (D i : Nat) (c : Code) (W : World), w.heap.size ≤ D → i < n → Ix i c W → FinX i W → Keep (fun b o => Sb b o ∧ Si b o) w W → W.heap[D]? = some (.deferred (some [])) →
   c.wpIn Fence.wide 0 P Q { a with defers := { target := .collected D, args := #[] } :: a.defers } W) :
  (Code.rangeFunc g ps assign body).wpIn Fence.wide 0 P Q a w := by
 refine wp_range hg eg n E Sb Si Fin FinX hit hSb hSi I Ix hI hIx hE hFin hFinX hEs h0
  (fun i v a' _ => ∀ (l : Nat) (A : World), w.heap.size ≤ l → (∃ r, A.heap[l]? = some (.loop r)) → i < n → I i A → E i v A → body.wpIn (Fence.wide.inRound l) 0 P (roundEnd Sb I Ix i A) a' A)
  (fun _ _ _ _ _ h _ => h) ?_ (fun l i v a' A h1 h2 h3 h4 h5 h6 => h6 l A h1 h2 h3 h4 h5) hdone hstop
 intro l i v A K hi hI' hE' hK
 obtain ⟨a1, h1, h2⟩ := hround i v (hEs i v A hE')
 exact h1 l A K (hK a1 A (Keep.refl _ A) hI' hE' h2)
end Go.Tm
namespace Go.Tm
def isDig (c : Nat) : Bool := decide (48 ≤ c) && decide (c ≤ 57)
def natRight (s : List Nat) : Bool := !s.isEmpty && decide (s.length ≤ 400) && !(s.head? == some 48 && decide (1 < s.length)) && s.all isDig
def valOf (s : List Nat) : Nat := s.foldl (fun v c => 10 * v + (c - 48)) 0
def natTo (s : List Nat) : Nat × Bool := if natRight s && decide (valOf s < 18446744073709551616) then (valOf s, true) else (0, false)
abbrev LB : Nat := 1000000000
def trimL (l : List Nat) : List Nat := (l.reverse.dropWhile (· == 0)).reverse
def smallL (n : Nat) : List Nat := if n = 0 then [] else if n < LB then [n] else if n < LB * LB then [n % LB, n / LB] else [n % LB, n / LB % LB, n / LB / LB]
def addFrom (a b : List Nat) : Nat → Nat → Nat → List Nat
 | 0, _, c => smallL c
 | k + 1, i, c => (c + (nth a i + nth b i)) % LB :: addFrom a b k (i + 1) ((c + (nth a i + nth b i)) / LB)
def addL (a b : List Nat) : List Nat := addFrom a b (max a.length b.length) 0 0
def mulRow (ai : Nat) : List Nat → Nat → Nat → List Nat → List Nat
 | [], p, c, out => out.set p (c % 4294967296)
 | bk :: r, p, c, out => mulRow ai r (p + 1) ((nth out p + ai * bk + c) / LB) (out.set p ((nth out p + ai * bk + c) % LB))
def mulRows (b : List Nat) : List Nat → Nat → List Nat → List Nat
 | [], _, out => out
 | ai :: r, i, out => mulRows b r (i + 1) (mulRow ai b i 0 out)
def mulL (a b : List Nat) : List Nat := trimL (mulRows b a 0 (List.replicate (a.length + b.length) 0))
def powF (b : List Nat) : Nat → List Nat → Option (List Nat)
 | 0, out => some out
 | k + 1, out => if 45 < (mulL out b).length then none else powF b k (mulL out b)
def bytesF : List Nat → List Nat → Option (List Nat)
 | [], out => some out
 | c :: r, out => if 45 < (addL (mulL out [256]) (smallL c)).length then none else bytesF r (addL (mulL out [256]) (smallL c))
structure Dc where
 neg : Bool
 digits : ByteArray
 exp : Int
 deriving DecidableEq
def zeroDc : Dc := ⟨false, ⟨#[48]⟩, 0⟩
def noDc : Dc := ⟨false, ⟨#[]⟩, 0⟩
def within (n most : Int) : Bool := decide (-most ≤ n) && decide (n ≤ most)
def decRight (d : Dc) : Bool := decide (d = zeroDc) || (natRight (bytesN d.digits) && decide (d.digits.size ≤ 100) && within d.exp 100 && !((bytesN d.digits).getLast? == some 48))
def toInt (d : Dc) : Bool × Nat × Bool :=
 if !decRight d || decide (d.exp < 0) || decide (20 < d.exp) then (false, 0, false)
 else ((natTo (bytesN d.digits ++ List.replicate d.exp.toNat 48)).2 && d.neg, natTo (bytesN d.digits ++ List.replicate d.exp.toNat 48))
def fForm (w : Int) : Option (Nat × Nat × Nat) := if w = 16 then some (10, 5, 16) else if w = 32 then some (23, 8, 32) else if w = 64 then some (52, 11, 64) else none
def bitLen (n : Nat) : Nat := if n = 0 then 0 else Nat.log2 n + 1
def onesN (n : Nat) : Nat := 2 ^ n - 1
def fJoin (fr wd sign exp frac : Nat) : Nat := (sign <<< (wd - 1) ||| exp <<< fr) ||| frac
def widen (b : Nat) (w : Int) : Nat × Int :=
 match fForm w with
 | none => (0, 2)
 | some (fr, ex, wd) =>
  if wd < bitLen b then (0, 2) else
  let sign := b >>> (wd - 1) &&& 1
  let exp := b >>> fr &&& onesN ex
  let frac := b &&& onesN fr
  if wd = 64 then (b, 0)
  else if exp = onesN ex then (fJoin 52 64 sign 2047 (frac <<< (52 - fr)), 0)
  else if exp = 0 ∧ frac = 0 then (fJoin 52 64 sign 0 0, 0)
  else if exp = 0 then
   let up := fr + 1 - bitLen frac
   (fJoin 52 64 sign (1 + 1023 - onesN (ex - 1) - up) ((frac <<< up &&& onesN fr) <<< (52 - fr)), 0)
  else (fJoin 52 64 sign (exp + 1023 - onesN (ex - 1)) (frac <<< (52 - fr)), 0)
def narrowIn (fr wd sign exp frac low : Nat) : Nat × Bool := if frac &&& onesN low ≠ 0 then (0, false) else (fJoin fr wd sign exp (frac >>> low), true)
def narrow (b : Nat) (w : Int) : Nat × Bool :=
 match fForm w with
 | none => (0, false)
 | some (fr, ex, wd) =>
  if wd = 64 then (b, true) else
  let sign := b >>> 63 &&& 1
  let exp := b >>> 52 &&& 2047
  let frac := b &&& onesN 52
  let e : Int := exp - 1023 + onesN (ex - 1)
  if exp = 2047 then narrowIn fr wd sign (onesN ex) frac (52 - fr)
  else if exp = 0 ∧ frac = 0 then narrowIn fr wd sign 0 0 (52 - fr)
  else if 0 < e ∧ e < onesN ex then narrowIn fr wd sign e.toNat frac (52 - fr)
  else if 0 < exp ∧ e ≤ 0 ∧ -(fr : Int) < e then narrowIn fr wd sign 0 (frac ||| 2 ^ 52) (52 - fr + 1 - e).toNat
  else (0, false)
def least (b : Nat) : Int := if (narrow b 16).2 then 16 else if (narrow b 32).2 then 32 else 64
end Go.Tm
namespace Go.Tm
open Go.RowKit
structure Hd where
 kind : Int
 b : Bool
 d : Dc
 u : Nat
 w : Int
 s : ByteArray
 deriving DecidableEq
inductive Tree where
 | node (h : Hd) (l : List Tree)
def Tree.hd : Tree → Hd
 | .node h _ => h
def Tree.l : Tree → List Tree
 | .node _ l => l
@[simp] theorem Tree.hd_node (h : Hd) (l : List Tree) : (Tree.node h l).hd = h := rfl
@[simp] theorem Tree.l_node (h : Hd) (l : List Tree) : (Tree.node h l).l = l := rfl
theorem Tree.eta (t : Tree) : Tree.node t.hd t.l = t := by cases t; rfl
mutual
def Tree.same : Tree → Tree → Bool
 | .node h l, .node g m => decide (h = g) && sameL l m
def sameL : List Tree → List Tree → Bool
 | [], [] => true
 | x :: l, y :: m => x.same y && sameL l m
 | _, _ => false
end
mutual
def Tree.count : Tree → Nat
 | .node _ l => 1 + countL l
def countL : List Tree → Nat
 | [] => 0
 | x :: l => x.count + countL l
end
mutual
def Tree.depth : Tree → Nat
 | .node _ l => depthL l + 1
def depthL : List Tree → Nat
 | [] => 0
 | x :: l => max x.depth (depthL l)
end
mutual
def Tree.flat : Tree → List Tree
 | .node h l => .node h l :: flatL l
def flatL : List Tree → List Tree
 | [] => []
 | x :: l => x.flat ++ flatL l
end
mutual
theorem same_iff : ∀ a b : Tree, a.same b = true ↔ a = b
 | .node h l, .node g m => by simp [Tree.same, sameL_iff l m]
theorem sameL_iff : ∀ l m : List Tree, sameL l m = true ↔ l = m
 | [], [] => by simp [sameL]
 | [], _ :: _ => by simp [sameL]
 | _ :: _, [] => by simp [sameL]
 | x :: l, y :: m => by simp [sameL, same_iff x y, sameL_iff l m]
end
mutual
theorem flat_length : ∀ a : Tree, a.flat.length = a.count
 | .node h l => by simp [Tree.flat, Tree.count, flatL_length l, Nat.add_comm]
theorem flatL_length : ∀ l : List Tree, (flatL l).length = countL l
 | [] => rfl
 | x :: l => by simp [flatL, countL, flat_length x, flatL_length l]
end
theorem Tree.ind {P : Tree → Prop} (h : ∀ hd l, (∀ x ∈ l, P x) → P (.node hd l)) : ∀ t, P t
 | .node hd l => h hd l (go l)
 where
 go : ∀ l : List Tree, ∀ x ∈ l, P x
  | [], x, hx => absurd hx (by simp)
  | y :: l, x, hx => by
   rcases List.mem_cons.1 hx with e | hx'
   ·rw [e]; exact Tree.ind h y
   ·exact go l x hx'
def bareHd (k : Int) : Hd := ⟨k, false, noDc, 0, 0, ⟨#[]⟩⟩
def keysOf : List Tree → List Tree
 | [] => []
 | [x] => [x]
 | x :: _ :: l => x :: keysOf l
def twiceAt (l : List Tree) (i : Nat) : Bool := match l[i]? with
 | some x => (l.take i).any fun y => x.same y
 | none => false
def isTwice (l : List Tree) : Bool := (List.range l.length).any (twiceAt l)
def bareT (t : Tree) (h : Hd) : Bool := t.l.isEmpty && decide (t.hd = { h with kind := t.hd.kind })
def utfRight (s : ByteArray) : Bool := Lib.validD s.data.toList
def ownT (t : Tree) : Bool :=
 if t.hd.kind = 1 then bareT t (bareHd 1)
 else if t.hd.kind = 2 then bareT t { bareHd 2 with b := t.hd.b }
 else if t.hd.kind = 3 then bareT t { bareHd 3 with d := t.hd.d } && decRight t.hd.d
 else if t.hd.kind = 4 then bareT t { bareHd 4 with u := t.hd.u, w := t.hd.w } && decide ((widen t.hd.u t.hd.w).2 = 0)
 else if t.hd.kind = 5 then bareT t { bareHd 5 with s := t.hd.s } && decide (t.hd.s.size ≤ 400) && utfRight t.hd.s
 else if t.hd.kind = 6 then bareT t { bareHd 6 with s := t.hd.s } && decide (t.hd.s.size ≤ 400)
 else if t.hd.kind = 7 then decide (t.hd = bareHd 7)
 else if t.hd.kind = 8 then decide (t.hd = bareHd 8) && decide (t.l.length % 2 = 0) && !isTwice (keysOf t.l)
 else if t.hd.kind = 9 then decide (t.hd = { bareHd 9 with u := t.hd.u }) && decide (t.l.length = 1)
 else if t.hd.kind = 10 then bareT t { bareHd 10 with u := t.hd.u } && decide (t.hd.u ≤ 255) && (decide (t.hd.u < 20) || decide (t.hd.u = 23) || decide (31 < t.hd.u))
 else if t.hd.kind = 11 then bareT t { bareHd 11 with u := t.hd.u, s := t.hd.s } && decide (t.hd.u ≤ 255) && decide (t.hd.s.size ≤ 400)
 else false
def isKeyT (form : Int) (t : Tree) : Bool :=
 if t.hd.kind = 5 then true
 else if form = 1 then false
 else if t.hd.kind = 3 then (toInt t.hd.d).2.2
 else decide (t.hd.kind = 6) || decide (t.hd.kind = 2) || decide (t.hd.kind = 1)
def fitsT (form : Int) (t : Tree) : Bool :=
 if t.hd.kind = 4 then decide (form = 2) || (decide (form = 3) && decide (least (widen t.hd.u t.hd.w).1 = t.hd.w)) || (decide (form = 4) && decide (16 < t.hd.w))
 else if t.hd.kind = 3 then decide (form = 1) || ((decide (form = 2) || decide (form = 3)) && (toInt t.hd.d).2.2) || (decide (form = 4) && (toInt t.hd.d).2.2 && (!(toInt t.hd.d).1 || decide ((toInt t.hd.d).2.1 ≤ 9223372036854775808)))
 else if t.hd.kind = 6 then decide (form = 2) || decide (form = 3) || decide (form = 4)
 else if t.hd.kind = 9 ∨ t.hd.kind = 10 then decide (form = 2) || decide (form = 3)
 else if t.hd.kind = 11 then decide (form = 4)
 else if t.hd.kind = 8 then (decide (form = 1) || decide (form = 2) || decide (form = 3) || decide (form = 4)) && (keysOf t.l).all (isKeyT form)
 else decide (form = 1) || decide (form = 2) || decide (form = 3) || decide (form = 4)
theorem wrap64_add (a b : Int) : wrap64 (wrap64 a + wrap64 b) = wrap64 (a + b) := by unfold wrap64; omega
theorem wrap64_add1 (i : Nat) : wrap64 (wrap64 (i : Int) + 1) = wrap64 ((i + 1 : Nat) : Int) := by unfold wrap64; push_cast; omega
def cnt64 (t : Tree) : Int := wrap64 (t.count : Int)
def checkFrom (form : Int) : List Tree → Int → Int
 | [], e => e
 | x :: l, e => if !ownT x then 60 else checkFrom form l (if fitsT form x then e else 61)
def checkT (t : Tree) (form : Int) : Int := if 16 < t.depth ∨ 300 < cnt64 t then 60 else checkFrom form t.flat 0
end Go.Tm
namespace Go.Tm
open Go.RowKit Go.Proofs
def Hd.ok (h : Hd) : Prop :=
 (-9223372036854775808 ≤ h.kind ∧ h.kind ≤ 9223372036854775807) ∧ (-9223372036854775808 ≤ h.d.exp ∧ h.d.exp ≤ 9223372036854775807) ∧ (-9223372036854775808 ≤ h.w ∧ h.w ≤ 9223372036854775807) ∧
  h.u < 18446744073709551616 ∧ h.d.digits.size ≤ 1099511627776 ∧ h.s.size ≤ 1099511627776
abbrev decV (d : Dc) : Value := .agg #[.bool d.neg, .string d.digits, .int .i64 d.exp]
abbrev nodeCs (h : Hd) (lv : Value) : List Value := [.int .i64 h.kind, .bool h.b, .bool h.d.neg, .string h.d.digits, .int .i64 h.d.exp, .int .u64 h.u, .int .i64 h.w, .string h.s, lv]
abbrev nodeV (h : Hd) (lv : Value) : Value := .agg #[.int .i64 h.kind, .bool h.b, .bool h.d.neg, .string h.d.digits, .int .i64 h.d.exp, .int .u64 h.u, .int .i64 h.w, .string h.s, lv]
theorem heap_drew {w : World} {b : Nat} {o : Obj} (h : w.heap[b]? = some o) : w.drew.heap[b]? = some o := h
theorem cells1 {w : World} {b : Nat} {a : Value} {t : TypeId} {f : Nat × Nat} (h : w.heap[b]? = some (.cells #[a] t f)) : w.cell? ⟨b, 0, none⟩ = some a := by unfold World.cell?; rw [h]; rfl
theorem cells2 {w : World} {b : Nat} {a c : Value} {t : TypeId} {f : Nat × Nat} (h : w.heap[b]? = some (.cells #[a, c] t f)) : w.cell? ⟨b, 0, none⟩ = some a ∧ w.cell? ⟨b, 1, none⟩ = some c := by unfold World.cell?; rw [h]; exact ⟨rfl, rfl⟩
theorem cells3 {w : World} {b : Nat} {a c d : Value} {t : TypeId} {f : Nat × Nat} (h : w.heap[b]? = some (.cells #[a, c, d] t f)) : w.cell? ⟨b, 0, none⟩ = some a ∧ w.cell? ⟨b, 1, none⟩ = some c ∧ w.cell? ⟨b, 2, none⟩ = some d := by unfold World.cell?; rw [h]; exact ⟨rfl, rfl, rfl⟩
theorem cells9 {w : World} {b : Nat} {a0 a1 a2 a3 a4 a5 a6 a7 a8 : Value} {t : TypeId} {f : Nat × Nat} (h : w.heap[b]? = some (.cells #[a0, a1, a2, a3, a4, a5, a6, a7, a8] t f)) :
  w.cell? ⟨b, 0, none⟩ = some a0 ∧ w.cell? ⟨b, 1, none⟩ = some a1 ∧ w.cell? ⟨b, 2, none⟩ = some a2 ∧ w.cell? ⟨b, 3, none⟩ = some a3 ∧ w.cell? ⟨b, 4, none⟩ = some a4 ∧ w.cell? ⟨b, 5, none⟩ = some a5 ∧ w.cell? ⟨b, 6, none⟩ = some a6 ∧ w.cell? ⟨b, 7, none⟩ = some a7 ∧ w.cell? ⟨b, 8, none⟩ = some a8 := by
 unfold World.cell?; rw [h]; exact ⟨rfl, rfl, rfl, rfl, rfl, rfl, rfl, rfl, rfl⟩
def SliceOf (S : Nat → Prop) (w : World) (lv : Value) (n : Nat) (xs : List Value) : Prop :=
 n ≤ 1099511627776 ∧ ((lv = .slice none 0 0 ∧ n = 0 ∧ xs = []) ∨
  ∃ b off cap cur f, lv = .slice (some ⟨b, off, none⟩) n cap ∧ S b ∧ w.heap[b]? = some (.cells cur 27 f) ∧ n ≤ cap ∧ off + 9 * n ≤ cur.size ∧ xs = (cur.toList.drop off).take (9 * n))
mutual
def Tree.Rep (S : Nat → Prop) (w : World) : Tree → List Value → Prop
 | .node h l, cs => h.ok ∧ ∃ lv xs, cs = nodeCs h lv ∧ SliceOf S w lv l.length xs ∧ RepL S w l xs
def RepL (S : Nat → Prop) (w : World) : List Tree → List Value → Prop
 | [], xs => xs = []
 | x :: l, xs => ∃ cs rest, xs = cs ++ rest ∧ x.Rep S w cs ∧ RepL S w l rest
end
theorem Rep.length {S : Nat → Prop} {w : World} : ∀ {t : Tree} {cs : List Value}, t.Rep S w cs → cs.length = 9
 | .node h l, cs, ⟨_, lv, xs, e, _⟩ => by rw [e]; rfl
theorem RepL.length {S : Nat → Prop} {w : World} : ∀ {l : List Tree} {xs : List Value}, RepL S w l xs → xs.length = 9 * l.length
 | [], xs, h => by rw [RepL] at h; simp [h]
 | x :: l, xs, h => by
  rw [RepL] at h
  obtain ⟨cs, rest, e, h1, h2⟩ := h
  rw [e, List.length_append, Rep.length h1, RepL.length h2, List.length_cons]; omega
theorem SliceOf.keep {S : Nat → Prop} {K : Nat → Obj → Prop} {w w' : World} {lv : Value} {n : Nat} {xs : List Value} (hk : Keep K w w') (hK : ∀ b, S b → ∀ c f, K b (.cells c 27 f)) (h : SliceOf S w lv n xs) : SliceOf S w' lv n xs := by
 obtain ⟨hn, h | ⟨b, off, cap, cur, f, e, hS, hb, hc, h1, h2⟩⟩ := h
 ·exact ⟨hn, .inl h⟩
 ·exact ⟨hn, .inr ⟨b, off, cap, cur, f, e, hS, hk.same _ _ hb (hK b hS _ _), hc, h1, h2⟩⟩
theorem SliceOf.mono {S S' : Nat → Prop} {w : World} {lv : Value} {n : Nat} {xs : List Value} (hS : ∀ b, b < w.heap.size → S b → S' b) (h : SliceOf S w lv n xs) : SliceOf S' w lv n xs := by
 obtain ⟨hn, h | ⟨b, off, cap, cur, f, e, hS', hb, hc, h1, h2⟩⟩ := h
 ·exact ⟨hn, .inl h⟩
 ·exact ⟨hn, .inr ⟨b, off, cap, cur, f, e, hS b (lt_of_some hb) hS', hb, hc, h1, h2⟩⟩
mutual
theorem Tree.Rep.keep {S : Nat → Prop} {K : Nat → Obj → Prop} {w w' : World} (hk : Keep K w w') (hK : ∀ b, S b → ∀ c f, K b (.cells c 27 f)) : ∀ {t : Tree} {cs : List Value}, t.Rep S w cs → t.Rep S w' cs
 | .node h l, cs, hh => by
  rw [Tree.Rep] at hh ⊢
  obtain ⟨ho, lv, xs, e, h1, h2⟩ := hh
  exact ⟨ho, lv, xs, e, h1.keep hk hK, RepL.keep hk hK h2⟩
theorem RepL.keep {S : Nat → Prop} {K : Nat → Obj → Prop} {w w' : World} (hk : Keep K w w') (hK : ∀ b, S b → ∀ c f, K b (.cells c 27 f)) : ∀ {l : List Tree} {xs : List Value}, RepL S w l xs → RepL S w' l xs
 | [], xs, h => by rw [RepL] at h ⊢; exact h
 | x :: l, xs, h => by
  rw [RepL] at h ⊢
  obtain ⟨cs, rest, e, h1, h2⟩ := h
  exact ⟨cs, rest, e, h1.keep hk hK, RepL.keep hk hK h2⟩
end
theorem Tree.Rep.same {S : Nat → Prop} {w w' : World} (hk : Same w w') {t : Tree} {cs : List Value} (h : t.Rep S w cs) : t.Rep S w' cs := h.keep hk fun _ _ _ _ => trivial
theorem RepL.same {S : Nat → Prop} {w w' : World} (hk : Same w w') {l : List Tree} {xs : List Value} (h : RepL S w l xs) : RepL S w' l xs := h.keep hk fun _ _ _ _ => trivial
theorem SliceOf.same {S : Nat → Prop} {w w' : World} (hk : Same w w') {lv : Value} {n : Nat} {xs : List Value} (h : SliceOf S w lv n xs) : SliceOf S w' lv n xs := h.keep hk fun _ _ _ _ => trivial
mutual
theorem Tree.Rep.mono {S S' : Nat → Prop} {w : World} (hS : ∀ b, b < w.heap.size → S b → S' b) : ∀ {t : Tree} {cs : List Value}, t.Rep S w cs → t.Rep S' w cs
 | .node h l, cs, hh => by
  rw [Tree.Rep] at hh ⊢
  obtain ⟨ho, lv, xs, e, h1, h2⟩ := hh
  exact ⟨ho, lv, xs, e, h1.mono hS, RepL.mono hS h2⟩
theorem RepL.mono {S S' : Nat → Prop} {w : World} (hS : ∀ b, b < w.heap.size → S b → S' b) : ∀ {l : List Tree} {xs : List Value}, RepL S w l xs → RepL S' w l xs
 | [], xs, h => by rw [RepL] at h ⊢; exact h
 | x :: l, xs, h => by
  rw [RepL] at h ⊢
  obtain ⟨cs, rest, e, h1, h2⟩ := h
  exact ⟨cs, rest, e, h1.mono hS, RepL.mono hS h2⟩
end
theorem RepL.get {S : Nat → Prop} {w : World} : ∀ {l : List Tree} {xs : List Value} (i : Nat) (hi : i < l.length), RepL S w l xs → (l[i]).Rep S w ((xs.drop (9 * i)).take 9)
 | x :: l, xs, 0, hi, h => by
  rw [RepL] at h
  obtain ⟨cs, rest, e, h1, h2⟩ := h
  have hl := Rep.length h1
  subst e
  simpa [hl] using (show x.Rep S w ((cs ++ rest).take 9) from by rw [← hl, List.take_left']; exact h1; rfl)
 | x :: l, xs, i + 1, hi, h => by
  rw [RepL] at h
  obtain ⟨cs, rest, e, h1, h2⟩ := h
  have hl := Rep.length h1
  have := RepL.get i (by simpa using hi) h2
  subst e
  rw [show 9 * (i + 1) = cs.length + 9 * i by omega, List.drop_append, List.drop_eq_nil_of_le (show cs.length ≤ cs.length + 9 * i by omega)]
  simpa using this
def RepS (S : Nat → Prop) (w : World) (l : List Tree) (lv : Value) : Prop := ∃ xs, SliceOf S w lv l.length xs ∧ RepL S w l xs
theorem rep_node {S : Nat → Prop} {w : World} {h : Hd} {l : List Tree} {cs : List Value} : (Tree.node h l).Rep S w cs ↔ h.ok ∧ ∃ lv, cs = nodeCs h lv ∧ RepS S w l lv := by
 rw [Tree.Rep]
 constructor
 ·rintro ⟨ho, lv, xs, e, h1, h2⟩; exact ⟨ho, lv, e, xs, h1, h2⟩
 ·rintro ⟨ho, lv, e, xs, h1, h2⟩; exact ⟨ho, lv, xs, e, h1, h2⟩
theorem RepS.keep {S : Nat → Prop} {K : Nat → Obj → Prop} {w w' : World} {l : List Tree} {lv : Value} (hk : Keep K w w') (hK : ∀ b, S b → ∀ c f, K b (.cells c 27 f)) (h : RepS S w l lv) : RepS S w' l lv := by
 obtain ⟨xs, h1, h2⟩ := h; exact ⟨xs, h1.keep hk hK, h2.keep hk hK⟩
theorem RepS.same {S : Nat → Prop} {w w' : World} {l : List Tree} {lv : Value} (hk : Same w w') (h : RepS S w l lv) : RepS S w' l lv := h.keep hk fun _ _ _ _ => trivial
theorem RepS.mono {S S' : Nat → Prop} {w : World} {l : List Tree} {lv : Value} (hS : ∀ b, b < w.heap.size → S b → S' b) (h : RepS S w l lv) : RepS S' w l lv := by
 obtain ⟨xs, h1, h2⟩ := h; exact ⟨xs, h1.mono hS, h2.mono hS⟩
theorem RepS.is_slice {S : Nat → Prop} {w : World} {l : List Tree} {lv : Value} (h : RepS S w l lv) : ∃ a cap, lv = .slice a l.length cap := by
 obtain ⟨xs, ⟨hn, h | ⟨b, off, cap, cur, f, e, hS, hb, hc, h1, h2⟩⟩, hl⟩ := h
 ·exact ⟨none, 0, by rw [h.1, h.2.1]⟩
 ·exact ⟨_, cap, e⟩
theorem RepS.nil (S : Nat → Prop) (w : World) : RepS S w [] (.slice none 0 0) := ⟨[], ⟨by simp, .inl ⟨rfl, rfl, rfl⟩⟩, by rw [RepL]⟩
theorem RepS.shape {S : Nat → Prop} {w : World} {l : List Tree} {lv : Value} (h : RepS S w l lv) : l.length ≤ 1099511627776 ∧ ∃ a cap, lv = .slice a l.length cap ∧ l.length ≤ cap ∧
  ∀ i (hi : i < l.length), ∃ b off lv', a = some ⟨b, off, none⟩ ∧ S b ∧ (∃ cur f, w.heap[b]? = some (.cells cur 27 f)) ∧ RepS S w (l[i]).l lv' ∧ (l[i]).hd.ok ∧ w.rangeAt b (off + i * 9) (nodeCs (l[i]).hd lv') := by
 obtain ⟨xs, ⟨hn, h | ⟨b, off, cap, cur, f, e, hS, hb, hc, h1, h2⟩⟩, hl⟩ := h
 ·exact ⟨hn, none, 0, by rw [h.1, h.2.1], by omega, fun i hi => absurd hi (by omega)⟩
 ·refine ⟨hn, _, cap, e, hc, fun i hi => ?_⟩
  have hg := hl.get i hi
  have hx : l[i] = .node (l[i]).hd (l[i]).l := (Tree.eta _).symm
  rw [hx, rep_node] at hg
  obtain ⟨ho, lv', e', hr⟩ := hg
  refine ⟨b, off, lv', rfl, hS, ⟨cur, f, hb⟩, hr, ho, fun j v hj => ?_⟩
  rw [← e'] at hj
  have hj9 : j < 9 := by
   have := (List.getElem?_eq_some_iff.1 hj).1
   simp only [List.length_take] at this; omega
  rw [List.getElem?_take_of_lt hj9, List.getElem?_drop, h2, List.getElem?_take_of_lt (by omega), List.getElem?_drop] at hj
  unfold World.cell?
  simp only [hb]
  simpa [Nat.add_assoc, Nat.mul_comm i 9] using hj
theorem RepL.take {S : Nat → Prop} {w : World} : ∀ {l : List Tree} {xs : List Value} (k : Nat), RepL S w l xs → RepL S w (l.take k) (xs.take (9 * k))
 | [], xs, k, h => by rw [RepL] at h; subst h; simp [RepL]
 | x :: l, xs, 0, h => by simp [RepL]
 | x :: l, xs, k + 1, h => by
  rw [RepL] at h
  obtain ⟨cs, rest, e, h1, h2⟩ := h
  rw [List.take_succ_cons, RepL]
  refine ⟨cs, rest.take (9 * k), ?_, h1, h2.take k⟩
  subst e
  have hl := Rep.length h1
  rw [List.take_append, List.take_of_length_le (by omega), hl, show 9 * (k + 1) - 9 = 9 * k by omega]
theorem RepS.take {S : Nat → Prop} {w : World} {l : List Tree} {b off cap : Nat} (h : RepS S w l (.slice (some ⟨b, off, none⟩) l.length cap)) (k : Nat) (hk : k ≤ l.length) : RepS S w (l.take k) (.slice (some ⟨b, off, none⟩) k cap) := by
 obtain ⟨xs, ⟨hn, h | ⟨b', off', cap', cur, f, e, hS, hb, hc, h1, h2⟩⟩, hl⟩ := h
 ·cases h.1
 ·cases e
  have hlen : (l.take k).length = k := by rw [List.length_take]; omega
  refine ⟨xs.take (9 * k), ⟨by omega, .inr ⟨b, off, _, cur, f, by rw [hlen], hS, hb, by omega, by omega, ?_⟩⟩, hl.take k⟩
  rw [h2, hlen, List.take_take]
  congr 1; omega
def NodeAt (w : World) (b o : Nat) (h : Hd) (lv : Value) : Prop :=
 w.cell? ⟨b, o, none⟩ = some (.int .i64 h.kind) ∧ w.cell? ⟨b, o + 1, none⟩ = some (.bool h.b) ∧ w.cell? ⟨b, o + 2, none⟩ = some (.bool h.d.neg) ∧ w.cell? ⟨b, o + 3, none⟩ = some (.string h.d.digits) ∧
 w.cell? ⟨b, o + 4, none⟩ = some (.int .i64 h.d.exp) ∧ w.cell? ⟨b, o + 5, none⟩ = some (.int .u64 h.u) ∧ w.cell? ⟨b, o + 6, none⟩ = some (.int .i64 h.w) ∧ w.cell? ⟨b, o + 7, none⟩ = some (.string h.s) ∧ w.cell? ⟨b, o + 8, none⟩ = some lv
theorem nodeAt_of {w : World} {b o : Nat} {h : Hd} {lv : Value} (hr : w.rangeAt b o (nodeCs h lv)) : NodeAt w b o h lv :=
 ⟨hr 0 _ rfl, hr 1 _ rfl, hr 2 _ rfl, hr 3 _ rfl, hr 4 _ rfl, hr 5 _ rfl, hr 6 _ rfl, hr 7 _ rfl, hr 8 _ rfl⟩
def NodeAt1 (w : World) (b o : Nat) (h : Hd) (lv : Value) : Prop :=
 (∀ x, (w.alloc x).cell? ⟨b, o, none⟩ = some (.int .i64 h.kind)) ∧ (∀ x, (w.alloc x).cell? ⟨b, o + 1, none⟩ = some (.bool h.b)) ∧ (∀ x, (w.alloc x).cell? ⟨b, o + 2, none⟩ = some (.bool h.d.neg)) ∧ (∀ x, (w.alloc x).cell? ⟨b, o + 3, none⟩ = some (.string h.d.digits)) ∧
 (∀ x, (w.alloc x).cell? ⟨b, o + 4, none⟩ = some (.int .i64 h.d.exp)) ∧ (∀ x, (w.alloc x).cell? ⟨b, o + 5, none⟩ = some (.int .u64 h.u)) ∧ (∀ x, (w.alloc x).cell? ⟨b, o + 6, none⟩ = some (.int .i64 h.w)) ∧ (∀ x, (w.alloc x).cell? ⟨b, o + 7, none⟩ = some (.string h.s)) ∧ (∀ x, (w.alloc x).cell? ⟨b, o + 8, none⟩ = some lv)
theorem alloc_cell {w : World} {p : Addr} {v : Value} (h : w.cell? p = some v) (x : Obj) : (w.alloc x).cell? p = some v := ((Keep.refl All w).alloc x).cell h fun _ _ => trivial
theorem nodeAt1_of {w : World} {b o : Nat} {h : Hd} {lv : Value} (hr : w.rangeAt b o (nodeCs h lv)) : NodeAt1 w b o h lv :=
 ⟨alloc_cell (hr 0 _ rfl), alloc_cell (hr 1 _ rfl), alloc_cell (hr 2 _ rfl), alloc_cell (hr 3 _ rfl), alloc_cell (hr 4 _ rfl), alloc_cell (hr 5 _ rfl), alloc_cell (hr 6 _ rfl), alloc_cell (hr 7 _ rfl), alloc_cell (hr 8 _ rfl)⟩
theorem rangeAt_same {w w' : World} {b o : Nat} {cs : List Value} (hk : Same w w') (h : w.rangeAt b o cs) : w'.rangeAt b o cs := fun j v hj => hk.cell (h j v hj) fun _ _ => trivial
theorem rangeAt_keep {K : Nat → Obj → Prop} {w w' : World} {b o : Nat} {cs : List Value} (hk : Keep K w w') (hK : ∀ o, w.heap[b]? = some o → K b o) (h : w.rangeAt b o cs) : w'.rangeAt b o cs := fun j v hj => hk.cell (h j v hj) hK
end Go.Tm
namespace Go.Tm
open Go.RowKit Go.Proofs
abbrev AnyB : Nat → Prop := fun _ => True
theorem depthL_take : ∀ (l : List Tree) (k : Nat) (h : k < l.length), depthL (l.take (k + 1)) = max (depthL (l.take k)) (l[k]).depth
 | x :: l, 0, _ => by simp [depthL]
 | x :: l, k + 1, h => by simp only [List.take_succ_cons, depthL, List.getElem_cons_succ]; rw [depthL_take l k (by simpa using h)]; omega
theorem depthL_get : ∀ (l : List Tree) (k : Nat) (h : k < l.length), (l[k]).depth ≤ depthL l
 | x :: l, 0, _ => by simp [depthL]; omega
 | x :: l, k + 1, h => by have := depthL_get l k (by simpa using h); simp only [depthL, List.getElem_cons_succ]; omega
theorem sameL_drop (l m : List Tree) (k : Nat) (h : k < l.length) (h' : k < m.length) : sameL (l.drop k) (m.drop k) = ((l[k]).same (m[k]) && sameL (l.drop (k + 1)) (m.drop (k + 1))) := by
 rw [List.drop_eq_getElem_cons h, List.drop_eq_getElem_cons h']; rfl
theorem sameL_length : ∀ (l m : List Tree), l.length ≠ m.length → sameL l m = false
 | [], [], h => by simp at h
 | [], _ :: _, _ => rfl
 | _ :: _, [], _ => rfl
 | x :: l, y :: m, h => by simp [sameL, sameL_length l m (by simpa using h)]
set_option maxRecDepth 100000 in
set_option maxHeartbeats 400000 in
theorem depth_any : ∀ t : Tree, ∀ (S : Nat → Prop) (lv : Value) (w : World), t.depth ≤ 1099511627776 → RepS S w t.l lv → Calls Tryz.prog 12 #[nodeV t.hd lv] w fun e w' => e = .returned (.int .i64 t.depth) ∧ Same w w' := by
 refine Tree.ind fun h l ih => ?_
 intro S lv w hc hl
 simp only [Tree.hd_node, Tree.l_node] at hl ⊢
 obtain ⟨hlen, a, cap, rfl, hcap, hi⟩ := hl.shape
 go_enter Tryz.func12, Tryz.ntmps12
 go_wp2
 go_loopw [3, 9] (fun v i wr => ∃ k : Nat, k ≤ l.length ∧ i = .int .i64 k ∧ v = .int .i64 (depthL (l.take k)) ∧ Same w wr)
  (fun _ i _ => l.length - (RowKit.intOf i).toNat)
 case atStart => exact ⟨0, Nat.zero_le _, rfl, by simp [depthL], (Keep.refl _ _).alloc _⟩
 case round =>
  obtain ⟨k, hk, rfl, rfl, hsm⟩ := hrel
  by_cases hlt : k < l.length
  ·obtain ⟨b, off, lv', rfl, hS, hb, hr, hok, hra⟩ := hi k hlt
   obtain ⟨a', cap', rfl⟩ := hr.is_slice
   obtain ⟨c0, c1, c2, c3, c4, c5, c6, c7, c8⟩ := nodeAt_of (rangeAt_same hsm hra)
   go_wp2_with (first | (go_at_call 12; refine (ih _ (List.getElem_mem hlt) S _ _ ?hc ?hr).mono ?_; (case hc => (have := depthL_get l k hlt; simp only [Tree.depth] at hc; omega)); (case hr => exact (hr.same hsm).same ((Keep.refl _ _).alloc _)); rintro e w' ⟨rfl, hk'⟩))
   go_roundw
   case rel => exact ⟨k + 1, by omega, by go_num, by rw [depthL_take l k hlt]; congr 1; split <;> omega, (hsm.alloc _).trans hk'⟩
   case measure => simp [RowKit.intOf]; omega
  ·obtain rfl : k = l.length := by omega
   have hw : wrap64 ((depthL l : Int) + 1) = ((depthL l + 1 : Nat) : Int) := by rw [IntWalk.wrap64_in _ (by simp only [Tree.depth] at hc; omega)]; rfl
   go_wp2
   go_ret
   exact ⟨by simp [Tree.depth, hw], hsm⟩
set_option maxRecDepth 100000 in
set_option maxHeartbeats 400000 in
theorem eqFunc_any (l m : List Tree) (S : Nat → Prop) (lv lv' : Value) (w : World) (Ha : RepS S w l lv) (Hb : RepS S w m lv')
  (H : ∀ x ∈ l, ∀ (u : Tree) (lv lv' : Value) (W : World), RepS S W x.l lv → RepS S W u.l lv' → Calls Tryz.prog 34 #[nodeV x.hd lv, nodeV u.hd lv'] W fun e w' => e = .returned (.bool (x.same u)) ∧ Same W w') :
  Calls Tryz.prog 49 #[lv, lv', .func (.func 34) #[] #[]] w fun e w' => e = .returned (.bool (sameL l m)) ∧ Same w w' := by
 obtain ⟨hla, a, cap, rfl, hcap, hi⟩ := Ha.shape
 obtain ⟨hlb, b, cap', rfl, hcap', hi'⟩ := Hb.shape
 by_cases hne : l.length = m.length
 ·have hne' : ((l.length : Int) != (m.length : Int)) = false := by simp [hne]
  have Hne := Lib.hid hne
  clear hne
  go_enter Tryz.func49, Tryz.ntmps49
  go_wp2
  go_loopw [17] (fun i wr => ∃ k : Nat, k ≤ l.length ∧ i = .int .i64 k ∧ sameL l m = sameL (l.drop k) (m.drop k) ∧ Same w wr) (fun i _ => l.length - (RowKit.intOf i).toNat)
  case atStart => exact ⟨0, Nat.zero_le _, rfl, rfl, Keep.refl _ _⟩
  case round =>
   obtain ⟨k, hk, rfl, hs, hsm⟩ := hrel
   by_cases hlt : k < l.length
   ·have hlt' : k < m.length := by have := Hne.out; omega
    obtain ⟨b1, off1, lv1, rfl, hS, hb, hr, hok, hra⟩ := hi k hlt
    obtain ⟨b2, off2, lv2, rfl, hS2, hb2, hr2, hok2, hra2⟩ := hi' k hlt'
    obtain ⟨a', cp', rfl⟩ := hr.is_slice
    obtain ⟨a2', cp2', rfl⟩ := hr2.is_slice
    obtain ⟨c0, c1, c2, c3, c4, c5, c6, c7, c8⟩ := nodeAt_of (rangeAt_same hsm hra)
    obtain ⟨d0, d1, d2, d3, d4, d5, d6, d7, d8⟩ := nodeAt1_of (rangeAt_same hsm hra2)
    rw [sameL_drop l m k hlt hlt'] at hs
    have Hs := Lib.hid hs
    clear hs
    obtain ⟨r, hr0⟩ : ∃ r, (l[k]).same (m[k]) = r := ⟨_, rfl⟩
    rw [hr0] at Hs
    have HR := Lib.hid hr0
    clear hr0
    cases r with
    | true =>
     go_wp2_with (first | (go_at_call 34; refine (H _ (List.getElem_mem hlt) (m[k]) _ _ _ ?h1 ?h2).mono ?_; (case h1 => exact ((hr.same hsm).same (((Keep.refl _ _).alloc _).alloc _))); (case h2 => exact ((hr2.same hsm).same (((Keep.refl _ _).alloc _).alloc _))); rintro e w' ⟨rfl, hk'⟩; rw [HR.out]))
     exact ⟨⟨k + 1, by omega, by go_num, by simpa using Hs.out, ((hsm.alloc _).alloc _).trans hk'⟩, by simp [RowKit.intOf]; omega⟩
    | false =>
     go_wp2_with (first | (go_at_call 34; refine (H _ (List.getElem_mem hlt) (m[k]) _ _ _ ?h1 ?h2).mono ?_; (case h1 => exact ((hr.same hsm).same (((Keep.refl _ _).alloc _).alloc _))); (case h2 => exact ((hr2.same hsm).same (((Keep.refl _ _).alloc _).alloc _))); rintro e w' ⟨rfl, hk'⟩; rw [HR.out]))
     go_ret
     exact ⟨by rw [Hs.out]; simp, ((hsm.alloc _).alloc _).trans hk'⟩
   ·obtain rfl : k = l.length := by omega
    go_wp2
    go_ret
    refine ⟨?_, hsm⟩
    rw [hs, List.drop_length, Hne.out, List.drop_length]
    rfl
 ·have hne' : ((l.length : Int) != (m.length : Int)) = true := by rw [bne_iff_ne]; omega
  have hs := sameL_length l m hne
  go_enter Tryz.func49, Tryz.ntmps49
  go_wp2
  go_ret
  exact ⟨by simp [hs], Keep.refl _ _⟩
theorem hd_ext (h g : Hd) (h1 : h.kind = g.kind) (h2 : h.b = g.b) (h3 : h.d.neg = g.d.neg) (h4 : h.d.digits = g.d.digits) (h5 : h.d.exp = g.d.exp) (h6 : h.u = g.u) (h7 : h.w = g.w) (h8 : h.s = g.s) : h = g := by
 rcases h with ⟨_, _, ⟨_, _, _⟩, _, _, _⟩
 rcases g with ⟨_, _, ⟨_, _, _⟩, _, _, _⟩
 simp_all
theorem str_eq {a b : ByteArray} (h : a = b) : (a.toList == b.toList) = true := by rw [h]; simp
theorem str_ne {a b : ByteArray} (h : ¬ a = b) : (a.toList == b.toList) = false := by
 rw [beq_eq_false_iff_ne]
 intro e
 rw [ByteArray.toList_eq, ByteArray.toList_eq] at e
 exact h (ByteArray.ext (Array.ext' e))
set_option maxRecDepth 100000 in
set_option maxHeartbeats 400000 in
theorem same_any : ∀ t u : Tree, ∀ (S : Nat → Prop) (lv lv' : Value) (w : World), RepS S w t.l lv → RepS S w u.l lv' → Calls Tryz.prog 34 #[nodeV t.hd lv, nodeV u.hd lv'] w fun e w' => e = .returned (.bool (t.same u)) ∧ Same w w' := by
 refine Tree.ind fun h l ih => ?_
 rintro ⟨g, m⟩ S lv lv' w hl hm
 simp only [Tree.hd_node, Tree.l_node] at hl hm ⊢
 obtain ⟨a, cap, rfl⟩ := hl.is_slice
 obtain ⟨a2, cap2, rfl⟩ := hm.is_slice
 by_cases e1 : h.kind = g.kind
 ·have k1 : ((h.kind : Int) == g.kind) = true := by simp [e1]
  by_cases e2 : h.b = g.b
  ·have k2 : (h.b == g.b) = true := by simp [e2]
   by_cases e3 : h.d.neg = g.d.neg
   ·have k3 : (h.d.neg == g.d.neg) = true := by simp [e3]
    by_cases e4 : h.d.digits = g.d.digits
    ·have k4 : (h.d.digits.toList == g.d.digits.toList) = true := str_eq e4
     by_cases e5 : h.d.exp = g.d.exp
     ·have k5 : ((h.d.exp : Int) == g.d.exp) = true := by simp [e5]
      by_cases e6 : h.u = g.u
      ·have k6 : ((h.u : Int) == (g.u : Int)) = true := by simp [e6]
       by_cases e7 : h.w = g.w
       ·have k7 : ((h.w : Int) == g.w) = true := by simp [e7]
        by_cases e8 : h.s = g.s
        ·have k8 : (h.s.toList == g.s.toList) = true := str_eq e8
         have hg := hd_ext h g e1 e2 e3 e4 e5 e6 e7 e8
         clear e1 e2 e3 e4 e5 e6 e7 e8
         have Hg := Lib.hid hg
         clear hg
         go_enter Tryz.func34, Tryz.ntmps34
         go_wp2_with (first | (go_at_call 49; refine (eqFunc_any l m S _ _ _ ?h1 ?h2 ?h3).mono ?_; (case h1 => exact hl.same (((Keep.refl _ _).alloc _).alloc _)); (case h2 => exact hm.same (((Keep.refl _ _).alloc _).alloc _)); (case h3 => exact fun x hx u lv lv' W h1 h2 => ih x hx u S lv lv' W h1 h2); rintro e w' ⟨rfl, hk'⟩))
         go_ret
         exact ⟨by simp [Tree.same, Hg.out], (((Keep.refl _ _).alloc _).alloc _).trans hk'⟩
        ·have hs : (Tree.node h l).same (.node g m) = false := by simp only [Tree.same, Bool.and_eq_false_iff, decide_eq_false_iff_not]; exact .inl fun e => e8 (by rw [e])
         have k8 : (h.s.toList == g.s.toList) = false := str_ne e8
         clear e8
         go_enter Tryz.func34, Tryz.ntmps34
         go_wp2
         go_ret
         exact ⟨by simp [hs], ((Keep.refl _ _).alloc _).alloc _⟩
       ·have hs : (Tree.node h l).same (.node g m) = false := by simp only [Tree.same, Bool.and_eq_false_iff, decide_eq_false_iff_not]; exact .inl fun e => e7 (by rw [e])
        have k7 : ((h.w : Int) == g.w) = false := by simp [e7]
        clear e7
        go_enter Tryz.func34, Tryz.ntmps34
        go_wp2
        go_ret
        exact ⟨by simp [hs], ((Keep.refl _ _).alloc _).alloc _⟩
      ·have hs : (Tree.node h l).same (.node g m) = false := by simp only [Tree.same, Bool.and_eq_false_iff, decide_eq_false_iff_not]; exact .inl fun e => e6 (by rw [e])
       have k6 : ((h.u : Int) == (g.u : Int)) = false := by simp; omega
       clear e6
       go_enter Tryz.func34, Tryz.ntmps34
       go_wp2
       go_ret
       exact ⟨by simp [hs], ((Keep.refl _ _).alloc _).alloc _⟩
     ·have hs : (Tree.node h l).same (.node g m) = false := by simp only [Tree.same, Bool.and_eq_false_iff, decide_eq_false_iff_not]; exact .inl fun e => e5 (by rw [e])
      have k5 : ((h.d.exp : Int) == g.d.exp) = false := by simp [e5]
      clear e5
      go_enter Tryz.func34, Tryz.ntmps34
      go_wp2
      go_ret
      exact ⟨by simp [hs], ((Keep.refl _ _).alloc _).alloc _⟩
    ·have hs : (Tree.node h l).same (.node g m) = false := by simp only [Tree.same, Bool.and_eq_false_iff, decide_eq_false_iff_not]; exact .inl fun e => e4 (by rw [e])
     have k4 : (h.d.digits.toList == g.d.digits.toList) = false := str_ne e4
     clear e4
     go_enter Tryz.func34, Tryz.ntmps34
     go_wp2
     go_ret
     exact ⟨by simp [hs], ((Keep.refl _ _).alloc _).alloc _⟩
   ·have hs : (Tree.node h l).same (.node g m) = false := by simp only [Tree.same, Bool.and_eq_false_iff, decide_eq_false_iff_not]; exact .inl fun e => e3 (by rw [e])
    have k3 : (h.d.neg == g.d.neg) = false := by simp [e3]
    clear e3
    go_enter Tryz.func34, Tryz.ntmps34
    go_wp2
    go_ret
    exact ⟨by simp [hs], ((Keep.refl _ _).alloc _).alloc _⟩
  ·have hs : (Tree.node h l).same (.node g m) = false := by simp only [Tree.same, Bool.and_eq_false_iff, decide_eq_false_iff_not]; exact .inl fun e => e2 (by rw [e])
   have k2 : (h.b == g.b) = false := by simp [e2]
   clear e2
   go_enter Tryz.func34, Tryz.ntmps34
   go_wp2
   go_ret
   exact ⟨by simp [hs], ((Keep.refl _ _).alloc _).alloc _⟩
 ·have hs : (Tree.node h l).same (.node g m) = false := by simp only [Tree.same, Bool.and_eq_false_iff, decide_eq_false_iff_not]; exact .inl fun e => e1 (by rw [e])
  have k1 : ((h.kind : Int) == g.kind) = false := by simp [e1]
  clear e1
  go_enter Tryz.func34, Tryz.ntmps34
  go_wp2
  go_ret
  exact ⟨by simp [hs], ((Keep.refl _ _).alloc _).alloc _⟩
end Go.Tm
namespace Go.Tm
open Go.RowKit Go.Proofs
theorem append_where {P : Program} {w : World} {base : Nat} {t ty e : TypeId} {i : TypeInfo} {z : Value} {size bytes : Nat} (ht : P.underlying t = some (.slice e)) (hi : P.info? e = some i) (hz : i.zero = some z)
  (hsize : i.size = size) (hby : i.bytes = bytes) (hsz : 0 < size) {v : Value} {n : Nat} {xs : List Value} (hown : w.ownsRow base e size v n xs)
  {a : Addr} {m c : Nat} {news : List Value} (hl : news.length = m * size) (hnews : ∀ j u, news[j]? = some u → w.cell? (a.add j) = some u) (h1 : ∀ u ∈ news, u.oneCell' = true)
  (h63 : n + m ≤ maxLen) (hbytes : (n + m) * bytes ≤ 140737488355328) {v' : Value} {w' : World} (hr : (Builtin.append_ #[t, t] ty #[v, .slice (some a) m c]).run P w = .ok v' w') :
  v'.ownBlock = v.ownBlock ∨ v'.ownBlock = some w.heap.size := by
 subst hsize; subst hby
 rcases hown.2 with ⟨rfl, rfl⟩ | ⟨g, cap, cur, rfl, hbg, hg, hnc, hcm, hcs, htake⟩
 ·by_cases hm : m = 0
  ·subst hm
   have hn : news = [] := List.eq_nil_of_length_eq_zero (by simpa using hl)
   subst hn
   left
   simp [Builtin.append_, run_underlying ht, sizeOf, typeInfo, hi, Builtin.lenOf, Builtin.firstCells, loadCells, loadCellsFrom] at hr
   rw [← hr.1]
  ·have hr' := run_append_nil (P := P) w t ty e i z ht hi hz a m c news hl hnews (by omega) (by simp only [maxLen] at h63; omega) (by simp only [Nat.zero_add] at hbytes; omega)
   rw [hr'] at hr
   cases hr
   exact .inr rfl
 ·by_cases hroom : n + m ≤ cap
  ·have hfit : n * i.size + news.length ≤ cur.size := by rw [hl, hcs, ← Nat.add_mul]; exact Nat.mul_le_mul_right _ hroom
   have hr' := run_append_room (P := P) w t ty e i ht hi g n cap cur hg a m c news hl hnews h1 hroom hfit
   rw [hr'] at hr
   cases hr
   exact .inl rfl
  ·have holds : ∀ j u, xs[j]? = some u → w.cell? ((⟨g, 0, none⟩ : Addr).add j) = some u := hown.cells (g := g) rfl
   have hr' := run_append_grow (P := P) w t ty e i z ht hi hz ⟨g, 0, none⟩ n cap xs hown.1 holds a m c news hl hnews (by omega) (by simp only [maxLen] at h63; omega) (growslice_fits (by omega) hbytes)
   rw [hr'] at hr
   cases hr
   exact .inr rfl
theorem node_info : (Tryz.prog.info? 27).map (fun i => (i.zero, i.size, i.bytes)) = some (some (nodeV ⟨0, false, noDc, 0, 0, ⟨#[]⟩⟩ (.slice none 0 0)), 9, 104) := by kernel_rfl
def OwnL (S : Nat → Prop) (w : World) (B : Nat) (v : Value) (l : List Tree) : Prop :=
 ∃ xs, w.ownsRow B 27 9 v l.length xs ∧ RepL (fun b => S b ∧ v.ownBlock ≠ some b) w l xs
theorem OwnL.nil (S : Nat → Prop) (w : World) (B : Nat) : OwnL S w B (.slice none 0 0) [] := ⟨[], World.ownsRow_nil _ _ _ _, by rw [RepL]⟩
theorem OwnL.is_slice {S : Nat → Prop} {w : World} {B : Nat} {v : Value} {l : List Tree} (h : OwnL S w B v l) : ∃ a cap, v = .slice a l.length cap := by
 obtain ⟨xs, h, _⟩ := h
 rcases h.2 with ⟨rfl, h0⟩ | ⟨g, cap, cur, rfl, _⟩
 ·exact ⟨none, 0, by rw [h0]⟩
 ·exact ⟨_, cap, rfl⟩
theorem OwnL.rep {S : Nat → Prop} {w : World} {B : Nat} {v : Value} {l : List Tree} (h : OwnL S w B v l) (hS : ∀ b, B ≤ b → S b) (hn : l.length ≤ 1099511627776) : RepS S w l v := by
 obtain ⟨xs, h, hr⟩ := h
 refine ⟨xs, ⟨hn, ?_⟩, hr.mono fun _ _ h => h.1⟩
 rcases h.2 with ⟨rfl, h0⟩ | ⟨g, cap, cur, rfl, hb, hg, h1, _, h3, h4⟩
 ·exact .inl ⟨rfl, h0, List.length_eq_zero_iff.1 (by rw [h.1, h0])⟩
 ·exact .inr ⟨g, 0, cap, cur, _, rfl, hS g hb, hg, h1, by rw [h3]; omega, by rw [List.drop_zero, ← h4, Nat.mul_comm]⟩
theorem OwnL.keep {S : Nat → Prop} {K : Nat → Obj → Prop} {w w' : World} {B : Nat} {v : Value} {l : List Tree} (h : OwnL S w B v l) (hk : Keep K w w') (hK : ∀ b, S b ∨ B ≤ b → ∀ c f, K b (.cells c 27 f)) : OwnL S w' B v l := by
 obtain ⟨xs, h, hr⟩ := h
 refine ⟨xs, ⟨h.1, ?_⟩, hr.keep hk fun b hb => hK b (.inl hb.1)⟩
 rcases h.2 with h0 | ⟨g, cap, cur, rfl, hb, hg, rest⟩
 ·exact .inl h0
 ·exact .inr ⟨g, cap, cur, rfl, hb, hk.same _ _ hg (hK g (.inr hb) _ _), rest⟩
theorem OwnL.same {S : Nat → Prop} {w w' : World} {B : Nat} {v : Value} {l : List Tree} (h : OwnL S w B v l) (hk : Same w w') : OwnL S w' B v l := h.keep hk fun _ _ _ _ => trivial
theorem OwnL.apart {S : Nat → Prop} {w : World} {B : Nat} {v : Value} {l : List Tree} (h : OwnL S w B v l) {b : Nat} (hb : b < B) : v.ownBlock ≠ some b := by
 obtain ⟨xs, h, _⟩ := h
 intro e
 have := (h.lt b e).1; omega
theorem OwnL.lt {S : Nat → Prop} {w : World} {B : Nat} {v : Value} {l : List Tree} (h : OwnL S w B v l) {b : Nat} (hb : w.heap.size ≤ b) : v.ownBlock ≠ some b := by
 obtain ⟨xs, h, _⟩ := h
 intro e
 have := (h.lt b e).2; omega
theorem same_grown {w W w1 : World} {B : Nat} {S : Nat → Prop} {v : Value} {l : List Tree} (hs : Same w W) (hB : w.heap.size ≤ B) (hown : OwnL S W B v l) (hg : W.grownBy w1 v.ownBlock) : Same w w1 := by
 obtain ⟨xs, h, _⟩ := hown
 exact hs.grown hg fun r hr o _ _ hlt => by have := (h.lt r hr).1; omega
theorem run_append_trees {S : Nat → Prop} {w : World} {B : Nat} {v : Value} {l ts : List Tree} {ad : Addr} {c m : Nat} {news : List Value} (ty : TypeId) (hown : OwnL S w B v l) (hm : m = ts.length)
  (hn : RepL (fun b => S b ∧ v.ownBlock ≠ some b) w ts news) (hc : ∀ j u, news[j]? = some u → w.cell? (ad.add j) = some u) (h1 : ∀ u ∈ news, u.oneCell' = true) (hlen : l.length + ts.length ≤ 1099511627776) (hB : B ≤ w.heap.size) :
  ∃ v' w', (Builtin.append_ #[25, 25] ty #[v, .slice (some ad) m c]).run Tryz.prog w = .ok v' w' ∧ OwnL S w' B v' (l ++ ts) ∧ w.grownBy w' v.ownBlock := by
 subst hm
 obtain ⟨xs, hrow, hr⟩ := hown
 obtain ⟨i, hi, hz⟩ := Option.map_eq_some_iff.1 node_info
 simp only [Prod.mk.injEq] at hz
 have hnl := hn.length
 have hl : news.length = ts.length * 9 := by rw [hnl, Nat.mul_comm]
 obtain ⟨v', w', hrun, h2, h3, _⟩ := run_append_own (P := Tryz.prog) w B 25 ty 27 i _ 9 104 Tryz.underlying25 hi hz.1 hz.2.1 hz.2.2 rfl (by decide) v l.length xs hrow ad ts.length c news hl hc h1 (by unfold maxLen; omega) (by omega) hB
 have hw := append_where (P := Tryz.prog) Tryz.underlying25 hi hz.1 hz.2.1 hz.2.2 (by decide) hrow hl hc h1 (by unfold maxLen; omega) (by omega) hrun
 refine ⟨v', w', hrun, ⟨xs ++ news, ?_, ?_⟩, h3⟩
 ·rw [List.length_append]; exact h2
 ·have key : ∀ {l : List Tree} {xs : List Value}, RepL (fun b => S b ∧ v.ownBlock ≠ some b) w l xs → RepL (fun b => S b ∧ v'.ownBlock ≠ some b) w' l xs := fun {l xs} h => by
   have h5 : RepL (fun b => S b ∧ v.ownBlock ≠ some b ∧ v'.ownBlock ≠ some b) w l xs := h.mono fun b hb h => ⟨h.1, h.2, by
    rcases hw with e | e
    ·rw [e]; exact h.2
    ·rw [e]; intro e; cases e; omega⟩
   have h6 : Keep (fun b _ => v.ownBlock ≠ some b) w w' := (Keep.refl _ w).grown h3 fun r hr o _ hs _ => hs hr
   exact (h5.keep h6 fun b hb _ _ => hb.2.1).mono fun b _ h => ⟨h.1, h.2.2⟩
  have : ∀ (l ts : List Tree) (xs news : List Value), RepL (fun b => S b ∧ v'.ownBlock ≠ some b) w' l xs → RepL (fun b => S b ∧ v'.ownBlock ≠ some b) w' ts news → RepL (fun b => S b ∧ v'.ownBlock ≠ some b) w' (l ++ ts) (xs ++ news) := by
   intro l
   induction l with
   | nil => intro ts xs news h1 h2; rw [RepL] at h1; subst h1; exact h2
   | cons x l ih =>
    intro ts xs news h1 h2
    rw [RepL] at h1
    obtain ⟨cs, rest, e, h3, h4⟩ := h1
    rw [List.cons_append, RepL]
    exact ⟨cs, rest ++ news, by rw [e, List.append_assoc], h3, ih ts rest news h4 h2⟩
  exact this _ _ _ _ (key hr) (key hn)
theorem wpList_append_trees {S : Nat → Prop} {w : World} {ops : Array Oper} {rest : List Oper} {o : Oper} {a : Act} {Q : Exit → Act → World → Prop} (hgd : o.guard = none) (s x : Operand)
  (ho : o.op = .call { callee := .builtin .append, args := #[s, x], argTypes := #[25, 25] }) {B : Nat} {v : Value} {l ts : List Tree} {ad : Addr} {c m : Nat} {news : List Value} (hs : a.eval s = v) (hx : a.eval x = .slice (some ad) m c) (hown : OwnL S w B v l) (hm : m = ts.length)
  (hn : RepL (fun b => S b ∧ v.ownBlock ≠ some b) w ts news) (hc : ∀ j u, news[j]? = some u → w.cell? (ad.add j) = some u) (h1 : ∀ u ∈ news, u.oneCell' = true) (hlen : l.length + ts.length ≤ 1099511627776) (hB : B ≤ w.heap.size)
  (h : ∀ v' w', OwnL S w' B v' (l ++ ts) → w.grownBy w' v.ownBlock → wpList Tryz.prog ops Q rest (a.put o.dst v') w') : wpList Tryz.prog ops Q (o :: rest) a w := by
 refine wpList_plain hgd fun K hK => ?_
 obtain ⟨v', w', hr, h2, h3⟩ := run_append_trees o.type hown hm hn hc h1 hlen hB (c := c)
 unfold Oper.wp execOp
 simp only [ho, resolve, invoke, builtin, Sem.run_bind, Sem.run_pure, Result.andThen_ok, List.map_toArray, List.map_cons, List.map_nil, hs, hx, hr]
 exact hK _ _ (h v' w' h2 h3)
theorem node_one (h : Hd) (a : Option Addr) (n cap : Nat) : ∀ u ∈ nodeCs h (.slice a n cap), u.oneCell' = true := by
 intro u hu; simp at hu; rcases hu with rfl | rfl | rfl | rfl | rfl | rfl | rfl | rfl | rfl <;> rfl
theorem cells_new (w : World) (arr : Array Value) (t : TypeId) (j : Nat) (u : Value) (h : arr.toList[j]? = some u) : (w.alloc (.cells arr t)).cell? ((⟨w.heap.size, 0, none⟩ : Addr).add j) = some u := by
 have hadd : (⟨w.heap.size, 0, none⟩ : Addr).add j = ⟨w.heap.size, j, none⟩ := by unfold Addr.add; split <;> simp_all
 rw [hadd, cell_of_row _ _ j arr t (0, 0) (World.alloc_heap_new w _)]
 simpa using h
theorem repL_one {S : Nat → Prop} {w : World} {x : Tree} {cs : List Value} (h : x.Rep S w cs) : RepL S w [x] cs := by
 rw [RepL]; exact ⟨cs, [], by simp, h, by rw [RepL]⟩
end Go.Tm
namespace Go.Tm
open Go.RowKit Go.Proofs
theorem keysOf_take : ∀ (k : Nat) (l : List Tree) (h : 2 * k < l.length), keysOf (l.take (2 * (k + 1))) = keysOf (l.take (2 * k)) ++ [l[2 * k]]
 | 0, [x], _ => rfl
 | 0, x :: y :: l, _ => rfl
 | k + 1, x :: y :: l, h => by
  have := keysOf_take k l (by simp at h; omega)
  simp only [show 2 * (k + 1 + 1) = 2 * (k + 1) + 2 by omega, show 2 * (k + 1) = 2 * k + 2 by omega, List.take_succ_cons, keysOf, List.getElem_cons_succ] at this ⊢
  rw [this, List.cons_append]
 | k + 1, [x], h => by simp at h
theorem keysOf_len : ∀ (l : List Tree), 2 * (keysOf l).length ≤ l.length + 1
 | [] => by simp [keysOf]
 | [x] => by simp [keysOf]
 | x :: y :: l => by have := keysOf_len l; simp [keysOf]; omega
set_option maxRecDepth 100000 in
set_option maxHeartbeats 400000 in
theorem keys_any (l : List Tree) (S : Nat → Prop) (lv : Value) (w : World) (hS : ∀ b, w.heap.size ≤ b → S b) (hl : RepS S w l lv) :
  Calls Tryz.prog 95 #[lv] w fun e w' => ∃ v', e = .returned v' ∧ RepS S w' (keysOf l) v' ∧ Same w w' := by
 obtain ⟨hlen, a, cap, rfl, hcap, hi⟩ := hl.shape
 go_enter Tryz.func95, Tryz.ntmps95
 go_wp2
 go_loopw [3, 4] (fun v i wr => ∃ k : Nat, 2 * k ≤ l.length + 1 ∧ i = .int .i64 ((2 * k : Nat) : Int) ∧ OwnL S wr w.heap.size v (keysOf (l.take (2 * k))) ∧ Same w wr)
  (fun _ i _ => l.length + 2 - (RowKit.intOf i).toNat)
 case atStart => exact ⟨0, by omega, rfl, by simpa [keysOf] using OwnL.nil S w w.heap.size, Keep.refl _ _⟩
 case round =>
  obtain ⟨k, hk, rfl, hown, hsm⟩ := hrel
  obtain ⟨q, hq⟩ : ∃ q, 2 * k = q := ⟨_, rfl⟩
  rw [hq]
  by_cases hlt : q < l.length
  ·obtain ⟨b, off, lv', rfl, hS1, hb, hr, hok, hra⟩ := hi q hlt
   obtain ⟨a', cap', rfl⟩ := hr.is_slice
   obtain ⟨c0, c1, c2, c3, c4, c5, c6, c7, c8⟩ := nodeAt_of (rangeAt_same hsm hra)
   have hkl := keysOf_len (l.take (2 * k))
   rw [List.length_take] at hkl
   have HQ := Lib.hid hq
   clear hq
   obtain ⟨a0, cp0, hv⟩ := hown.is_slice
   subst hv
   go_wp2_with (at_builtin; refine wpList_append_trees (v := .slice a0 (keysOf (l.take (2 * k))).length cp0) (ts := [l[q]]) (news := nodeCs (l[q]).hd (.slice a' (l[q]).l.length cap')) rfl _ _ rfl rfl rfl (hown.same ((Keep.refl _ _).alloc _)) rfl ?c2 ?c3 (node_one _ _ _ _) ?c4 ?c5 ?_)
   case c2 =>
    refine repL_one ?_
    rw [← Tree.eta (l[q]), rep_node]
    refine ⟨hok, _, rfl, ?_⟩
    exact ((hr.mono (fun b hb h => (⟨h, hown.apart hb⟩ : _ ∧ _))).same hsm).same ((Keep.refl _ _).alloc _)
   case c3 => exact fun j u h => cells_new _ _ _ _ _ h
   case c4 => simp only [List.length_cons, List.length_nil]; omega
   case c5 => have := hsm.size; simp; omega
   intro v' w1 hown' hg
   have hsm1 : Same w w1 := same_grown (hsm.alloc _) (Nat.le_refl _) (hown.same ((Keep.refl _ _).alloc _)) hg
   obtain ⟨a1, cp1, hv1⟩ := hown'.is_slice
   subst hv1
   go_wp2
   have hl2 : 2 * (keysOf (l.take (2 * k))).length ≤ q + 1 := by have := HQ.out; omega
   refine ⟨⟨k + 1, by have := HQ.out; omega, by have := HQ.out; congr 1; omega, ?_, hsm1⟩, by simp [RowKit.intOf]; omega⟩
   have e : keysOf (l.take (2 * k)) ++ [l[q]] = keysOf (l.take (2 * (k + 1))) := by
    have hq := HQ.out
    subst hq
    rw [keysOf_take k l hlt]
   rw [e] at hown' ⊢
   exact hown'
  ·have hkl : keysOf (l.take (2 * k)) = keysOf l := by rw [List.take_of_length_le (by omega)]
   rw [hkl] at hown
   obtain ⟨a0, cp0, hv⟩ := hown.is_slice
   subst hv
   clear hq
   go_wp2
   go_ret
   exact ⟨_, rfl, (hown.rep hS (by have := keysOf_len l; omega)), hsm⟩
theorem any_take (p : Tree → Bool) : ∀ (l : List Tree) (k : Nat) (h : k < l.length), (l.take (k + 1)).any p = ((l.take k).any p || p (l[k]))
 | x :: l, 0, _ => by simp
 | x :: l, k + 1, h => by simp only [List.take_succ_cons, List.any_cons, List.getElem_cons_succ]; rw [any_take p l k (by simpa using h), Bool.or_assoc]
def Boxed9 (w : World) (b : Nat) (h : Hd) (lv : Value) : Prop := w.heap[b]? = some (.cells (nodeCs h lv).toArray 27 (0, 0))
theorem Boxed9.range {w : World} {b : Nat} {h : Hd} {lv : Value} (hb : Boxed9 w b h lv) : w.rangeAt b 0 (nodeCs h lv) := by
 intro j v hj
 unfold World.cell?
 rw [hb]
 simpa using hj
theorem Boxed9.keep {K : Nat → Obj → Prop} {w w' : World} {b : Nat} {h : Hd} {lv : Value} (hb : Boxed9 w b h lv) (hk : Keep K w w') (hK : ∀ c f, K b (.cells c 27 f)) : Boxed9 w' b h lv := hk.same _ _ hb (hK _ _)
theorem Boxed9.same {w w' : World} {b : Nat} {h : Hd} {lv : Value} (hb : Boxed9 w b h lv) (hk : Same w w') : Boxed9 w' b h lv := hk.same _ _ hb trivial
def PredT (fv : Value) (S : Nat → Prop) (p : Tree → Bool) (l : List Tree) (w : World) : Prop :=
 ∃ g lb, fv = .func (.func g) #[] lb ∧ (∀ args w, (callFunc g args).run Tryz.prog w = .ok (.enter g args) w) ∧
 ∀ x ∈ l, ∀ lv W, Same w W → RepS S W x.l lv → Calls Tryz.prog g (#[nodeV x.hd lv] ++ lb) W fun e w' => e = .returned (.bool (p x)) ∧ Same W w'
set_option maxRecDepth 100000 in
set_option maxHeartbeats 400000 in
theorem indexFunc_any (l : List Tree) (S : Nat → Prop) (p : Tree → Bool) (fv lv : Value) (w : World) (hl : RepS S w l lv) (hp : PredT fv S p l w) :
  Calls Tryz.prog 136 #[lv, fv] w fun e w' => (∃ r : Int, e = .returned (.int .i64 r) ∧ decide (0 ≤ r) = l.any p) ∧ Same w w' := by
 obtain ⟨hlen, a, cap, rfl, hcap, hi⟩ := hl.shape
 obtain ⟨g, lb, rfl, eg, hp⟩ := hp
 go_enter Tryz.func136, Tryz.ntmps136
 go_wp2
 go_loopw [8] (fun i wr => ∃ k : Nat, k ≤ l.length ∧ i = .int .i64 k ∧ (l.take k).any p = false ∧ Same w wr) (fun i _ => l.length - (RowKit.intOf i).toNat)
 case atStart => exact ⟨0, Nat.zero_le _, rfl, rfl, Keep.refl _ _⟩
 case round =>
  obtain ⟨k, hk, rfl, hs, hsm⟩ := hrel
  have Hs := Lib.hid hs
  clear hs
  by_cases hlt : k < l.length
  ·obtain ⟨b, off, lv', rfl, hS1, hb, hr, hok, hra⟩ := hi k hlt
   obtain ⟨a', cap', rfl⟩ := hr.is_slice
   obtain ⟨c0, c1, c2, c3, c4, c5, c6, c7, c8⟩ := nodeAt_of (rangeAt_same hsm hra)
   have hany : (l.take (k + 1)).any p = ((l.take k).any p || p (l[k])) := any_take p l k hlt
   rw [Hs.out] at hany
   obtain ⟨r, hr0⟩ : ∃ r, p (l[k]) = r := ⟨_, rfl⟩
   rw [hr0] at hany
   have HA := Lib.hid hany
   have HR := Lib.hid hr0
   have Hm : l[k] ∈ l := List.getElem_mem hlt
   clear hr0 hany
   cases r with
   | true =>
    have hin : l.any p = true := List.any_eq_true.2 ⟨l[k], Hm, HR.out⟩
    go_wp2_with fail
    refine (hp _ (List.getElem_mem hlt) _ _ hsm (hr.same hsm)).mono ?_
    rintro e w' ⟨rfl, hk'⟩
    rw [HR.out]
    go_wp2
    go_ret
    exact ⟨⟨_, rfl, by rw [hin]; simp⟩, hsm.trans hk'⟩
   | false =>
    go_wp2_with fail
    refine (hp _ (List.getElem_mem hlt) _ _ hsm (hr.same hsm)).mono ?_
    rintro e w' ⟨rfl, hk'⟩
    rw [HR.out]
    go_wp2
    exact ⟨⟨k + 1, by omega, by go_num, by rw [HA.out]; rfl, hsm.trans hk'⟩, by simp [RowKit.intOf]; omega⟩
  ·obtain rfl : k = l.length := by omega
   go_wp2
   go_ret
   have := Hs.out
   rw [List.take_length] at this
   exact ⟨⟨_, rfl, by rw [this]; rfl⟩, hsm⟩
set_option maxRecDepth 100000 in
set_option maxHeartbeats 400000 in
theorem containsFunc_any (l : List Tree) (S : Nat → Prop) (p : Tree → Bool) (fv lv : Value) (w : World) (hl : RepS S w l lv) (hp : PredT fv S p l w) :
  Calls Tryz.prog 94 #[lv, fv] w fun e w' => e = .returned (.bool (l.any p)) ∧ Same w w' := by
 obtain ⟨hlen, a, cap, e1, hcap, hi⟩ := hl.shape
 obtain ⟨g, lb, e2, eg, hp'⟩ := id hp
 subst e1 e2
 go_enter Tryz.func94, Tryz.ntmps94
 go_wp2_with (first | (go_at_call 136; refine (indexFunc_any l S p _ _ _ hl hp).mono ?_; rintro e w' ⟨⟨r, rfl, hr⟩, hk⟩))
 go_ret
 exact ⟨by simp [← hr], hk⟩
set_option maxRecDepth 100000 in
set_option maxHeartbeats 400000 in
theorem twice1_any (x y : Tree) (S : Nat → Prop) (lx ly : Value) (b : Nat) (w : World) (hb : Boxed9 w b x.hd lx) (hx : RepS S w x.l lx) (hy : RepS S w y.l ly) :
  Calls Tryz.prog 172 #[nodeV y.hd ly, .pointer (some ⟨b, 0, none⟩)] w fun e w' => e = .returned (.bool (x.same y)) ∧ Same w w' := by
 obtain ⟨a, cap, rfl⟩ := hx.is_slice
 obtain ⟨a2, cap2, rfl⟩ := hy.is_slice
 obtain ⟨d0, d1, d2, d3, d4, d5, d6, d7, d8⟩ := nodeAt1_of hb.range
 simp only [Nat.zero_add] at d1 d2 d3 d4 d5 d6 d7 d8
 go_enter Tryz.func172, Tryz.ntmps172
 go_wp2_with (first | (go_at_call 34; refine (same_any x y S _ _ _ ?h1 ?h2).mono ?_; (case h1 => exact hx.same ((Keep.refl _ _).alloc _)); (case h2 => exact hy.same ((Keep.refl _ _).alloc _)); rintro e w' ⟨rfl, hk'⟩))
 go_ret
 exact ⟨rfl, ((Keep.refl _ _).alloc _).trans hk'⟩
set_option maxRecDepth 100000 in
set_option maxHeartbeats 400000 in
theorem isTwice_any (l : List Tree) (S : Nat → Prop) (lv : Value) (w : World) (hl : RepS S w l lv) :
  Calls Tryz.prog 124 #[lv] w fun e w' => e = .returned (.bool (isTwice l)) ∧ Same w w' := by
 obtain ⟨hlen, a, cap, rfl, hcap, hi⟩ := hl.shape
 go_enter Tryz.func124, Tryz.ntmps124
 go_wp2
 go_loopw [7] (fun i wr => ∃ k : Nat, k ≤ l.length ∧ i = .int .i64 k ∧ (List.range k).any (twiceAt l) = false ∧ Same w wr) (fun i _ => l.length - (RowKit.intOf i).toNat)
 case atStart => exact ⟨0, Nat.zero_le _, rfl, rfl, Keep.refl _ _⟩
 case round =>
  obtain ⟨k, hk, rfl, hs, hsm⟩ := hrel
  have Hs := Lib.hid hs
  clear hs
  by_cases hlt : k < l.length
  ·obtain ⟨b, off, lv', rfl, hS1, hb, hr, hok, hra⟩ := hi k hlt
   obtain ⟨a', cap', rfl⟩ := hr.is_slice
   obtain ⟨c0, c1, c2, c3, c4, c5, c6, c7, c8⟩ := nodeAt_of (rangeAt_same hsm hra)
   have hany : (List.range (k + 1)).any (twiceAt l) = ((List.range k).any (twiceAt l) || twiceAt l k) := by rw [List.range_succ, List.any_append]; simp
   rw [Hs.out] at hany
   obtain ⟨r, hr0⟩ : ∃ r, (l.take k).any (fun y => (l[k]).same y) = r := ⟨_, rfl⟩
   have ht : twiceAt l k = r := by unfold twiceAt; rw [List.getElem?_eq_getElem hlt]; exact hr0
   rw [ht] at hany
   have HA := Lib.hid hany
   have HR := Lib.hid hr0
   have HT := Lib.hid ht
   clear hr0 hany ht
   cases r with
   | true =>
    have hin : isTwice l = true := List.any_eq_true.2 ⟨k, List.mem_range.2 hlt, HT.out⟩
    go_wp2_with fail
    refine (containsFunc_any (l.take k) S (fun y => (l[k]).same y) _ _ _ ?h1 ?h2).mono ?_
    case h1 => exact (((hl.take k (by omega)).same hsm).same ((Keep.refl _ _).alloc _))
    case h2 =>
     refine ⟨_, _, rfl, enters_of Tryz.func172 (by kernel_rfl) rfl, fun y hy ly W hW hry => ?_⟩
     refine twice1_any (l[k]) y S _ ly _ W (Boxed9.same ?_ hW) ((hr.same ((hsm.alloc _).trans hW))) hry
     exact World.alloc_heap_new wr _
    rintro e w' ⟨rfl, hk'⟩
    rw [HR.out]
    go_wp2
    go_ret
    exact ⟨by rw [hin]; rfl, (hsm.alloc _).trans hk'⟩
   | false =>
    go_wp2_with fail
    refine (containsFunc_any (l.take k) S (fun y => (l[k]).same y) _ _ _ ?h1 ?h2).mono ?_
    case h1 => exact (((hl.take k (by omega)).same hsm).same ((Keep.refl _ _).alloc _))
    case h2 =>
     refine ⟨_, _, rfl, enters_of Tryz.func172 (by kernel_rfl) rfl, fun y hy ly W hW hry => ?_⟩
     refine twice1_any (l[k]) y S _ ly _ W (Boxed9.same ?_ hW) ((hr.same ((hsm.alloc _).trans hW))) hry
     exact World.alloc_heap_new wr _
    rintro e w' ⟨rfl, hk'⟩
    rw [HR.out]
    go_wp2
    exact ⟨⟨k + 1, by omega, by go_num, HA.out, (hsm.alloc _).trans hk'⟩, by simp [RowKit.intOf]; omega⟩
  ·obtain rfl : k = l.length := by omega
   go_wp2
   go_ret
   exact ⟨by unfold isTwice; rw [Hs.out]; rfl, hsm⟩
set_option maxRecDepth 100000 in
set_option maxHeartbeats 400000 in
theorem bare_any (h g : Hd) (l : List Tree) (S : Nat → Prop) (lv : Value) (w : World) (hl : RepS S w l lv) :
  Calls Tryz.prog 122 #[nodeV h lv, nodeV g (.slice none 0 0)] w fun e w' => e = .returned (.bool (bareT (.node h l) g)) ∧ Same w w' := by
 obtain ⟨a, cap, rfl⟩ := hl.is_slice
 by_cases h0 : l.length = 0
 ·obtain rfl : l = [] := List.length_eq_zero_iff.1 h0
  clear h0
  go_enter Tryz.func122, Tryz.ntmps122
  go_wp2_with (first | (go_at_call 34; refine (same_any (.node h []) (.node { g with kind := h.kind } []) S _ _ _ ?h1 ?h2).mono ?_; (case h1 => exact hl.same (((Keep.refl _ _).alloc _).alloc _)); (case h2 => exact RepS.nil _ _); rintro e w' ⟨rfl, hk'⟩))
  go_ret
  exact ⟨by simp [bareT, Tree.same, sameL]; exact decide_eq_decide.2 Iff.rfl, (((Keep.refl _ _).alloc _).alloc _).trans hk'⟩
 ·have h1 : ((l.length : Int) == 0) = false := by rw [beq_eq_false_iff_ne]; omega
  have h2 : bareT (.node h l) g = false := by simp only [bareT, Tree.l_node, Bool.and_eq_false_iff]; left; cases l <;> simp at h0 ⊢
  go_enter Tryz.func122, Tryz.ntmps122
  go_wp2
  go_ret
  exact ⟨by simp [h2], ((Keep.refl _ _).alloc _).alloc _⟩
end Go.Tm
namespace Go.Tm
open Go.RowKit
section
variable {F : Fence} {n : Nat} {P : Program} {ops : Array Oper} {Q : Exit → Act → World → Prop} {S : World → Prop} {X : Oper → Bool}
def ext (a : Act) (ds : List Deferred) : Act := { a with defers := ds ++ a.defers }
theorem ext_put (a : Act) (ds : List Deferred) (d : Option Tmp) (v : Value) : (ext a ds).put d v = ext (a.put d v) ds := by cases d <;> rfl
theorem ext_eval (a : Act) (ds : List Deferred) : (ext a ds).eval = a.eval := by funext x; cases x <;> rfl
theorem ext_tmps (a : Act) (ds : List Deferred) : (ext a ds).tmps = a.tmps := rfl
def wpV (F : Fence) (n : Nat) (P : Program) (k : List Deferred → Value → World → Prop) : Result Next → Prop
 | .ok (.value v) w' => k [] v w'
 | .ok .skip w' => k [] undef w'
 | .ok (.defer d) w' => k [d] undef w'
 | .ok (.enter f args) w' => CallsIn F (n - 1) P f args w' fun e w'' => ∃ v, e = .returned v ∧ k [] v w''
 | .ok (.row row args) w' => RowsIn F (n - 1) P row args w' (k [])
 | .ok (.round l f tmps assign body) w' => RoundIn F (n - 1) P l f tmps assign body w' fun e w'' => ∃ v, e = .returned v ∧ k [] v w''
 | _ => False
theorem wpV.mono {k k' : List Deferred → Value → World → Prop} {r : Result Next} (h : wpV F n P k r) (hk : ∀ d v w, k d v w → k' d v w) : wpV F n P k' r := by
 cases r with
 | ok x w' =>
  cases x <;> simp only [wpV] at h ⊢ <;>
   first
    | exact hk _ _ _ h
    | exact CallsIn.mono h fun e w'' ⟨v, he, hv⟩ => ⟨v, he, hk _ _ _ hv⟩
    | exact RowsIn.mono h fun _ _ hv => hk _ _ _ hv
    | exact RoundIn.mono h fun e w'' ⟨v, he, hv⟩ => ⟨v, he, hk _ _ _ hv⟩
 | halt x w' => exact h
theorem wpV.some {k : List Deferred → Value → World → Prop} {r : Result Next} (hd : F.depth = none) (h : wpV F n P k r) : ∃ d v w, k d v w := by
 have room : ∀ m, F.room m := fun m d hd' => by rw [hd] at hd'; cases hd'
 cases r with
 | ok x w' =>
  cases x <;> simp only [wpV] at h
  case value v => exact ⟨_, _, _, h⟩
  case skip => exact ⟨_, _, _, h⟩
  case defer d => exact ⟨_, _, _, h⟩
  case enter f args => obtain ⟨e, w'', fr, ⟨v, _, hv⟩, _⟩ := h.2 [] (room _); exact ⟨_, v, w'', hv⟩
  case row row args => obtain ⟨v, w'', hv, _⟩ := h default [] (room _); exact ⟨_, v, w'', hv⟩
  case round l f tmps assign body => obtain ⟨e, w'', ⟨v, _, hv⟩, _⟩ := h.2 default [] (room _); exact ⟨_, v, w'', hv⟩
 | halt x w' => exact h.elim
def Quiet (Q : Exit → Act → World → Prop) : Prop := (∀ c a w, ¬ Q (.panic c) a w) ∧ ∀ a w, ¬ Q .outgrown a w
def plainOp (o : Oper) : Bool := match o.op with | .defer _ => false | .select .. => false | _ => true
theorem plain_defer {o : Oper} (h : plainOp o = true) : ∀ c, o.op ≠ .defer c := by
 intro c hc; simp [plainOp, hc] at h
theorem plain_select {o : Oper} (h : plainOp o = true) : ∀ cs b, o.op ≠ .select cs b := by
 intro c b hc; simp [plainOp, hc] at h
theorem semAt_plain {o : Oper} (h : plainOp o = true) (r : Option Nat) (ρ : Operand → Value) : Oper.semAt r ρ o = execOp ρ o := by
 cases r with
 | none => exact Oper.semAt_none ρ o
 | some l => exact Oper.semAt_some l ρ o (plain_defer h)
theorem wpIn_iff {o : Oper} {a : Act} {w : World} {K : Act → World → Prop} (hp : plainOp o = true) (hF : ∀ f, F.fn f) (hd : F.depth = none) (hQ : Quiet Q) :
  o.wpIn F n P a w K Q ↔ wpV F n P (fun ds v w' => K (ext (a.put o.dst v) ds) w') ((execOp a.eval o).run P w) := by
 unfold Oper.wpIn
 rw [semAt_plain hp]
 generalize (execOp a.eval o).run P w = r
 constructor
 ·rintro ⟨_, h⟩
  cases r with
  | ok x w' =>
   cases x <;> simp only [Oper.uponIn, wpV] at h ⊢
   case value v => exact h
   case skip => exact h
   case defer d => rw [← ext_put]; exact h
   case enter f args =>
    refine CallsIn.mono h.2 ?_
    intro e w'' he
    cases e with
    | returned v => exact ⟨v, rfl, he⟩
    | panicked c => exact absurd he (hQ.1 _ _ _)
    | outgrown => obtain ⟨a0, w0, h0⟩ := he; exact absurd h0 (hQ.2 _ _)
   case row row args => exact h.2
   case round l f tmps assign body =>
    refine RoundIn.mono h.2 ?_
    intro e w'' he
    cases e with
    | returned v => exact ⟨v, rfl, he⟩
    | panicked c => exact absurd he (hQ.1 _ _ _)
    | outgrown => obtain ⟨a0, w0, h0⟩ := he; exact absurd h0 (hQ.2 _ _)
  | halt x w' => cases x <;> simp only [Oper.uponIn, wpV] at h ⊢; exact absurd h (hQ.1 _ _ _)
 ·intro h
  refine ⟨fun f _ => hF f, ?_⟩
  cases r with
  | ok x w' =>
   cases x <;> simp only [Oper.uponIn, wpV] at h ⊢
   case value v => exact h
   case skip => exact h
   case defer d => rw [← ext_put] at h; exact h
   case enter f args => exact ⟨fun h0 => (by rw [hd] at h0; cases h0), CallsIn.mono h fun e w'' ⟨v, he, hv⟩ => (by subst he; exact hv)⟩
   case row row args => exact ⟨fun h0 => (by rw [hd] at h0; cases h0), h⟩
   case round l f tmps assign body => exact ⟨fun h0 => (by rw [hd] at h0; cases h0), RoundIn.mono h fun e w'' ⟨v, he, hv⟩ => (by subst he; exact hv)⟩
  | halt x w' => exact h.elim
def stepT (F : Fence) (n : Nat) (P : Program) (ops : Array Oper) (Q : Exit → Act → World → Prop) (S : World → Prop) (X : Oper → Bool) (o : Oper) (K : Act → World → Prop) (a : Act) (w : World) : Prop :=
 if Region.wanted o (yielded ops a.tmps) = true then
  (if X o = true then ∀ w', S w' → ∃ v, (execOp a.eval o).run P w' = .ok (.value v) w' ∧ (execOp a.eval o).run P w = .ok (.value v) w ∧ K (a.put o.dst v) w
   else o.wpIn F n P a w (fun a' w' => S w' ∧ K a' w') Q)
 else K (a.put o.dst undef) w
def wpT (F : Fence) (n : Nat) (P : Program) (ops : Array Oper) (Q : Exit → Act → World → Prop) (S : World → Prop) (X : Oper → Bool) : List Oper → Act → World → Prop
 | [], a, w => Q .normal a w
 | o :: rest, a, w => stepT F n P ops Q S X o (wpT F n P ops Q S X rest) a w
theorem stepT_mono {o : Oper} {K K' : Act → World → Prop} {a : Act} {w : World} (hS : S w) (hK : ∀ a w, S w → K a w → K' a w) (h : stepT F n P ops Q S X o K a w) : stepT F n P ops Q S X o K' a w := by
 unfold stepT at h ⊢
 split
 ·rename_i hw
  rw [if_pos hw] at h
  split
  ·rename_i hx
   rw [if_pos hx] at h
   intro w' hw'
   obtain ⟨v, h1, h2, h3⟩ := h w' hw'
   exact ⟨v, h1, h2, hK _ _ hS h3⟩
  ·rename_i hx
   rw [if_neg hx] at h
   exact Oper.wpIn_mono (fun a w h => ⟨h.1, hK _ _ h.1 h.2⟩) h
 ·rename_i hw
  rw [if_neg hw] at h
  exact hK _ _ hS h
theorem stepT_comm (hF : ∀ f, F.fn f) (hd : F.depth = none) (hQ : Quiet Q) {p o : Oper} {K : Act → World → Prop} {a : Act} {w : World} (hp : plainOp p = true) (ho : plainOp o = true)
  (hap : p.apart ops o = true) (hX : X p = true ∨ X o = true) (hS : S w)
  (h : stepT F n P ops Q S X p (fun a w => S w → stepT F n P ops Q S X o K a w) a w) : stepT F n P ops Q S X o (fun a w => S w → stepT F n P ops Q S X p K a w) a w := by
 obtain ⟨h1, h2, h3⟩ := Oper.apart_spec hap
 have eo : ∀ (a : Act) v, execOp (a.put p.dst v).eval o = execOp a.eval o := fun a v => execOp_put o (plain_select ho) a p.dst v h1
 have ep : ∀ (a : Act) v, execOp (a.put o.dst v).eval p = execOp a.eval p := fun a v => execOp_put p (plain_select hp) a o.dst v h3
 have wo : ∀ (a : Act) v, Region.wanted o (yielded ops (a.put p.dst v).tmps) = Region.wanted o (yielded ops a.tmps) := fun a v => wanted_put o a p.dst v h1
 have wp' : ∀ (a : Act) v, Region.wanted p (yielded ops (a.put o.dst v).tmps) = Region.wanted p (yielded ops a.tmps) := fun a v => wanted_put p a o.dst v h3
 have pc : ∀ (a : Act) u v, (a.put p.dst u).put o.dst v = (a.put o.dst v).put p.dst u := fun a u v => Act.put_comm a u v h2
 unfold stepT at h ⊢
 by_cases hwp : Region.wanted p (yielded ops a.tmps) = true
 ·rw [if_pos hwp] at h
  by_cases hwo : Region.wanted o (yielded ops a.tmps) = true
  ·rw [if_pos hwo]
   by_cases hxp : X p = true
   ·rw [if_pos hxp] at h
    by_cases hxo : X o = true
    ·rw [if_pos hxo]
     intro w' hw'
     obtain ⟨u, hu1, hu2, hk⟩ := h w hS
     have hk := hk hS
     rw [wo, if_pos hwo, if_pos hxo] at hk
     obtain ⟨v, hv1, hv2, hk⟩ := hk w' hw'
     rw [eo] at hv1 hv2
     refine ⟨v, hv1, hv2, fun _ => ?_⟩
     rw [wp', if_pos hwp, if_pos hxp]
     intro w1 hw1
     obtain ⟨u', hu1', hu2', _⟩ := h w1 hw1
     have e : u' = u := by have := hu2'.symm.trans hu2; simpa using this
     subst e
     rw [ep]
     exact ⟨u', hu1', hu2', by rw [← pc]; exact hk⟩
    ·rw [if_neg hxo]
     obtain ⟨u, hu1, hu2, hk⟩ := h w hS
     have hk := hk hS
     rw [wo, if_pos hwo, if_neg hxo, wpIn_iff ho hF hd hQ, eo] at hk
     rw [wpIn_iff ho hF hd hQ]
     refine hk.mono fun ds v w2 ⟨hS2, hk2⟩ => ⟨hS2, fun _ => ?_⟩
     rw [ext_tmps, wp', if_pos hwp, if_pos hxp, ext_eval]
     intro w1 hw1
     obtain ⟨u', hu1', hu2', _⟩ := h w1 hw1
     have e : u' = u := by have := hu2'.symm.trans hu2; simpa using this
     subst e
     obtain ⟨u'', hu1'', hu2'', _⟩ := h w2 hS2
     have e : u'' = u' := by have := hu2''.symm.trans hu2'; simpa using this
     subst e
     rw [ep]
     exact ⟨u'', hu1', hu1'', by rw [ext_put, ← pc]; exact hk2⟩
   ·rw [if_neg hxp] at h
    have hxo : X o = true := hX.resolve_left hxp
    rw [if_pos hxo]
    rw [wpIn_iff hp hF hd hQ] at h
    -- o's value, out of one outcome of p
    obtain ⟨ds0, u0, w0, hS0, hk0⟩ := h.some hd
    have hk0 := hk0 hS0
    rw [ext_tmps, wo, if_pos hwo, if_pos hxo, ext_eval] at hk0
    have key : ∃ v, ∀ w', S w' → (execOp a.eval o).run P w' = .ok (.value v) w' := by
     obtain ⟨v, _, hv2, _⟩ := hk0 w0 hS0
     rw [eo] at hv2
     refine ⟨v, fun w' hw' => ?_⟩
     obtain ⟨v', hv1', hv2', _⟩ := hk0 w' hw'
     rw [eo] at hv1' hv2'
     have e : v' = v := by have := hv2'.symm.trans hv2; simpa using this
     subst e
     exact hv1'
    obtain ⟨v, hv⟩ := key
    intro w' hw'
    refine ⟨v, hv w' hw', hv w hS, fun _ => ?_⟩
    rw [wp', if_pos hwp, if_neg hxp, wpIn_iff hp hF hd hQ, ep]
    refine h.mono fun ds u w1 ⟨hS1, hk1⟩ => ⟨hS1, ?_⟩
    have hk1 := hk1 hS1
    rw [ext_tmps, wo, if_pos hwo, if_pos hxo, ext_eval] at hk1
    obtain ⟨v1, hv1, _, hk1⟩ := hk1 w1 hS1
    rw [eo, hv w1 hS1] at hv1
    have e : v = v1 := by simpa using hv1
    subst e
    rw [← pc, ← ext_put]; exact hk1
  ·rw [if_neg hwo]
   intro _
   rw [wp', if_pos hwp]
   by_cases hxp : X p = true
   ·rw [if_pos hxp] at h ⊢
    intro w' hw'
    obtain ⟨u, hu1, hu2, hk⟩ := h w' hw'
    have hk := hk hS
    rw [wo, if_neg hwo] at hk
    rw [ep]
    exact ⟨u, hu1, hu2, by rw [← pc]; exact hk⟩
   ·rw [if_neg hxp] at h ⊢
    rw [wpIn_iff hp hF hd hQ] at h ⊢
    rw [ep]
    refine h.mono fun ds u w1 ⟨hS1, hk1⟩ => ⟨hS1, ?_⟩
    have hk1 := hk1 hS1
    rw [ext_tmps, wo, if_neg hwo, ext_put] at hk1
    rw [← pc]; exact hk1
 ·rw [if_neg hwp] at h
  have h := h hS
  by_cases hwo : Region.wanted o (yielded ops a.tmps) = true
  ·rw [wo, if_pos hwo] at h
   rw [if_pos hwo]
   by_cases hxo : X o = true
   ·rw [if_pos hxo] at h ⊢
    intro w' hw'
    obtain ⟨v, hv1, hv2, hk⟩ := h w' hw'
    rw [eo] at hv1 hv2
    refine ⟨v, hv1, hv2, fun _ => ?_⟩
    rw [wp', if_neg hwp, ← pc]; exact hk
   ·rw [if_neg hxo] at h ⊢
    rw [wpIn_iff ho hF hd hQ] at h ⊢
    rw [eo] at h
    refine h.mono fun ds v w1 ⟨hS1, hk1⟩ => ⟨hS1, fun _ => ?_⟩
    rw [ext_tmps, wp', if_neg hwp, ext_put, ← pc]; exact hk1
  ·rw [wo, if_neg hwo] at h
   rw [if_neg hwo]
   intro _
   rw [wp', if_neg hwp, ← pc]; exact h
theorem wpT_first (hF : ∀ f, F.fn f) (hd : F.depth = none) (hQ : Quiet Q) {o : Oper} {post : List Oper} (ho : plainOp o = true) : ∀ (pre : List Oper) (a : Act) (w : World),
  (∀ p ∈ pre, plainOp p = true ∧ p.apart ops o = true ∧ (X p = true ∨ X o = true)) → S w →
  wpT F n P ops Q S X (pre ++ o :: post) a w → stepT F n P ops Q S X o (wpT F n P ops Q S X (pre ++ post)) a w
 | [], _, _, _, _, h => h
 | p :: pre, a, w, hpre, hS, h => by
  have hp := hpre p (List.mem_cons_self ..)
  have h' : stepT F n P ops Q S X p (wpT F n P ops Q S X (pre ++ o :: post)) a w := h
  have h'' := stepT_mono hS (K' := fun a w => S w → stepT F n P ops Q S X o (wpT F n P ops Q S X (pre ++ post)) a w)
   (fun a w _ hk hS' => wpT_first hF hd hQ ho pre a w (fun q hq => hpre q (List.mem_cons_of_mem _ hq)) hS' hk) h'
  exact stepT_mono hS (fun a w hS' hk => hk hS') (stepT_comm hF hd hQ hp.1 ho hp.2.1 hp.2.2 hS h'')
theorem wpT_x {o : Oper} {rest : List Oper} {a : Act} {w : World} (hg : o.guard = none) (hx : X o = true)
  (h : ∀ K : Act → World → Prop, (∀ a w, wpT F n P ops Q S X rest a w → K a w) → ∀ w', S w' → ∃ v, (execOp a.eval o).run P w' = .ok (.value v) w' ∧ (execOp a.eval o).run P w = .ok (.value v) w ∧ K (a.put o.dst v) w) :
  wpT F n P ops Q S X (o :: rest) a w := by
 unfold wpT stepT
 rw [if_pos (by simp [Region.wanted, hg]), if_pos hx]
 exact h _ fun _ _ h => h
theorem wpT_c {o : Oper} {rest : List Oper} {a : Act} {w : World} (hg : o.guard = none) (hx : X o = false)
  (h : ∀ K : Act → World → Prop, (∀ a w, S w → wpT F n P ops Q S X rest a w → K a w) → o.wpIn F n P a w K Q) :
  wpT F n P ops Q S X (o :: rest) a w := by
 unfold wpT stepT
 rw [if_pos (by simp [Region.wanted, hg]), if_neg (by simp [hx])]
 exact h _ fun _ _ h1 h2 => ⟨h1, h2⟩
def onlyNormal (Q : Exit → Act → World → Prop) : Exit → Act → World → Prop
 | .normal, a, w => Q .normal a w
 | _, _, _ => False
theorem quiet_normal : Quiet (onlyNormal Q) := ⟨fun _ _ _ h => h, fun _ _ h => h⟩
theorem wpT_nil {a : Act} {w : World} (h : Q .normal a w) : wpT F n P ops (onlyNormal Q) S X [] a w := h
theorem wpT_skip {o : Oper} {rest : List Oper} {a : Act} {w : World} (hw : Region.wanted o (yielded ops a.tmps) = false) (h : wpT F n P ops Q S X rest (a.put o.dst undef) w) : wpT F n P ops Q S X (o :: rest) a w := by
 unfold wpT stepT
 rw [if_neg (by simp [hw])]
 exact h
theorem wpT_gx {o : Oper} {rest : List Oper} {a : Act} {w : World} (hw : Region.wanted o (yielded ops a.tmps) = true) (hx : X o = true)
  (h : ∀ K : Act → World → Prop, (∀ a w, wpT F n P ops Q S X rest a w → K a w) → ∀ w', S w' → ∃ v, (execOp a.eval o).run P w' = .ok (.value v) w' ∧ (execOp a.eval o).run P w = .ok (.value v) w ∧ K (a.put o.dst v) w) :
  wpT F n P ops Q S X (o :: rest) a w := by
 unfold wpT stepT
 rw [if_pos hw, if_pos hx]
 exact h _ fun _ _ h => h
theorem wpT_gc {o : Oper} {rest : List Oper} {a : Act} {w : World} (hw : Region.wanted o (yielded ops a.tmps) = true) (hx : X o = false)
  (h : ∀ K : Act → World → Prop, (∀ a w, S w → wpT F n P ops Q S X rest a w → K a w) → o.wpIn F n P a w K Q) :
  wpT F n P ops Q S X (o :: rest) a w := by
 unfold wpT stepT
 rw [if_pos hw, if_neg (by simp [hx])]
 exact h _ fun _ _ h1 h2 => ⟨h1, h2⟩
def reads (o : Oper) : Bool := match o.op with
 | .move _ | .assign _ | .pick .. | .load .. | .nilCheck _ | .binOp .. | .unOp .. | .convert .. | .fieldAddr .. | .field .. | .indexAddr .. | .index .. | .slice .. | .extract .. | .makeInterface .. | .makeFunc .. | .build .. | .typeAssert .. | .lookup .. => true
 | .call { callee := .builtin .len, .. } | .call { callee := .builtin .cap, .. } | .call { callee := .builtin .min, .. } | .call { callee := .builtin .max, .. } => true
 | _ => false
def waits (ops : Array Oper) : Nat → Nat → Nat → Bool
 | 0, i, j => match ops[j]? with
  | some o => o.after.toList.any fun e => Region.binds .any e && e.on == i
  | none => false
 | k + 1, i, j => match ops[j]? with
  | some o => (o.after.toList.any fun e => Region.binds .any e && e.on == i) || o.after.toList.any fun e => Region.binds .any e && waits ops k i e.on
  | none => false
def pairOk (ops : Array Oper) (X : Oper → Bool) (i j : Nat) : Bool :=
 match ops[i]?, ops[j]? with
 | some p, some o => (p.apart ops o && (X p || X o)) || waits ops 10 i j
 | _, _ => true
def textOk (ops : Array Oper) (X : Oper → Bool) : Bool :=
 (List.range ops.size).all fun j =>
  (match ops[j]? with
   | some o => plainOp o && o.after.all fun e => !Region.binds .any e || decide (e.on < j)
   | none => true) &&
  (List.range j).all fun i => pairOk ops X i j
def Closed (ops : Array Oper) (listed : Array Bool) : Prop := ∀ (m : Nat) o, ops[m]? = some o → listed.getD m false = true → ∀ e ∈ o.after, Region.binds .any e = true → listed.getD e.on false = true
theorem waits_listed {listed : Array Bool} (hc : Closed ops listed) : ∀ (k i j : Nat), waits ops k i j = true → (∀ o, ops[j]? = some o → ∀ e ∈ o.after, Region.binds .any e = true → listed.getD e.on false = true) → listed.getD i false = true
 | 0, i, j, h, hj => by
  unfold waits at h
  cases ho : ops[j]? with
  | none => rw [ho] at h; cases h
  | some o =>
   rw [ho] at h
   simp only [List.any_eq_true, Array.mem_toList_iff, Bool.and_eq_true, beq_iff_eq] at h
   obtain ⟨e, he, hb, rfl⟩ := h
   exact hj o ho e he hb
 | k + 1, i, j, h, hj => by
  unfold waits at h
  cases ho : ops[j]? with
  | none => rw [ho] at h; cases h
  | some o =>
   rw [ho] at h
   simp only [List.any_eq_true, Array.mem_toList_iff, Bool.and_eq_true, beq_iff_eq, Bool.or_eq_true] at h
   rcases h with ⟨e, he, hb, rfl⟩ | ⟨e, he, hb, hw⟩
   ·exact hj o ho e he hb
   ·exact waits_listed hc k i e.on hw fun o' ho' => hc e.on o' ho' (hj o ho e he hb)
theorem getD_true_false {l : Array Bool} {i : Nat} (h : i < l.size) : l.getD i true = l.getD i false := by simp [Array.getD, h]
theorem wpAnyIn_of_wpT (hF : ∀ f, F.fn f) (hd : F.depth = none) (hQ : Quiet Q) (hchk : textOk ops X = true) : ∀ (m : Nat) (T : List Nat) (listed : Array Bool) (a : Act) (w : World), T.length = m → T.Pairwise (· < ·) →
  (∀ i, i ∈ T ↔ i < ops.size ∧ listed.getD i true = false) → Closed ops listed → listed.size = ops.size → S w → wpT F n P ops Q S X (T.filterMap (ops[·]?)) a w → wpAnyIn F n P .any ops Q m listed a w := by
 intro m
 have chk : ∀ j o, ops[j]? = some o → plainOp o = true ∧ (∀ e ∈ o.after, Region.binds .any e = true → e.on < j) ∧ ∀ i, i < j → pairOk ops X i j = true := by
  intro j o ho
  have hlt : j < ops.size := (Array.getElem?_eq_some_iff.1 ho).1
  unfold textOk at hchk
  rw [List.all_eq_true] at hchk
  have := hchk j (List.mem_range.2 hlt)
  simp only [ho, Bool.and_eq_true, List.all_eq_true, List.mem_range, Array.all_eq_true_iff_forall_mem, Bool.or_eq_true, Bool.not_eq_true', decide_eq_true_eq] at this
  exact ⟨this.1.1, fun e he hb => (this.1.2 e he).resolve_left (by simp [hb]), this.2⟩
 induction m with
 | zero =>
  intro T listed a w hT hp hmem hc hs hS h
  obtain rfl : T = [] := List.eq_nil_of_length_eq_zero hT
  refine ⟨?_, h⟩
  rw [List.eq_nil_iff_forall_not_mem]
  intro i hi
  obtain ⟨h0, o, ho, _⟩ := mem_ready.1 hi
  have := (hmem i).2 ⟨(Array.getElem?_eq_some_iff.1 ho).1, h0⟩
  cases this
 | succ m ih =>
  intro T listed a w hT hp hmem hc hs hS h
  have inT : ∀ i ∈ Region.ready .any ops listed, i ∈ T := fun i hi => by
   obtain ⟨h0, o, ho, _⟩ := mem_ready.1 hi
   exact (hmem i).2 ⟨(Array.getElem?_eq_some_iff.1 ho).1, h0⟩
  refine ⟨fun hr => ?_, fun i hi => ?_⟩
  ·-- the least one may come up
   exfalso
   cases T with
   | nil => simp at hT
   | cons t T =>
    obtain ⟨htl, ht0⟩ := (hmem t).1 (List.mem_cons_self ..)
    have ho : ops[t]? = some ops[t] := Array.getElem?_eq_getElem htl
    have : t ∈ Region.ready .any ops listed := mem_ready.2 ⟨ht0, _, ho, fun e he hb => by
     have hlt := (chk t _ ho).2.1 e he hb
     cases hl : listed.getD e.on false with
     | true => rfl
     | false =>
      have hin := (hmem e.on).2 ⟨by omega, by rw [getD_true_false (by omega)]; exact hl⟩
      rcases List.mem_cons.1 hin with h1 | h1
      ·omega
      ·have := (List.pairwise_cons.1 hp).1 _ h1; omega⟩
    rw [hr] at this; cases this
  ·have hiT := inT i hi
   obtain ⟨h0, o, ho, hall⟩ := mem_ready.1 hi
   obtain ⟨pre, post, rfl⟩ := List.append_of_mem hiT
   obtain ⟨hp1, hp2, hp3⟩ := List.pairwise_append.1 hp
   have hil : i < ops.size := (Array.getElem?_eq_some_iff.1 ho).1
   rw [List.filterMap_append, List.filterMap_cons, ho] at h
   have hfirst := wpT_first (post := post.filterMap (ops[·]?)) hF hd hQ (chk i o ho).1 (pre.filterMap (ops[·]?)) a w ?_ hS h
   ·rw [← List.filterMap_append] at hfirst
    have hnd : ∀ j, j ∈ pre ++ post ↔ j < ops.size ∧ (listed.setIfInBounds i true).getD j true = false := by
     intro j
     by_cases hji : j = i
     ·subst hji
      constructor
      ·intro hj
       rcases List.mem_append.1 hj with h1 | h1
       ·have := hp3 j h1 j (List.mem_cons_self ..); omega
       ·have := (List.pairwise_cons.1 hp2).1 j h1; omega
      ·rintro ⟨_, h1⟩
       simp [Array.getD, hs, hil] at h1
     ·rw [getD_set_ne true (Ne.symm hji), ← hmem j]
      simp only [List.mem_append, List.mem_cons]
      constructor
      ·rintro (h1 | h1) <;> simp [h1]
      ·rintro (h1 | h1 | h1)
       ·exact .inl h1
       ·exact absurd h1 hji
       ·exact .inr h1
    have hc' : Closed ops (listed.setIfInBounds i true) := by
     intro m' o' ho' hm' e he hb
     refine getD_set_true ?_
     by_cases hmi : m' = i
     ·subst hmi; rw [ho] at ho'; cases ho'; exact hall e he hb
     ·rw [getD_set_ne false (Ne.symm hmi)] at hm'
      exact hc m' o' ho' hm' e he hb
    have next : ∀ a w, S w → wpT F n P ops Q S X ((pre ++ post).filterMap (ops[·]?)) a w → wpAnyIn F n P .any ops Q m (listed.setIfInBounds i true) a w := fun a w hS h =>
     ih (pre ++ post) _ a w (by simp at hT ⊢; omega) (List.pairwise_append.2 ⟨hp1, (List.pairwise_cons.1 hp2).2, fun x hx y hy => hp3 x hx y (List.mem_cons_of_mem _ hy)⟩) hnd hc' (by simp [hs]) hS h
    unfold wpOpIn
    simp only [ho]
    unfold stepT at hfirst
    by_cases hw : Region.wanted o (yielded ops a.tmps) = true
    ·rw [if_pos hw] at hfirst ⊢
     by_cases hx : X o = true
     ·rw [if_pos hx] at hfirst
      obtain ⟨v, hv, _, hk⟩ := hfirst w hS
      refine ⟨fun f _ => hF f, ?_⟩
      rw [semAt_plain (chk i o ho).1, hv]
      exact next _ _ hS hk
     ·rw [if_neg hx] at hfirst
      exact Oper.wpIn_mono (fun a w h => next _ _ h.1 h.2) hfirst
    ·rw [if_neg hw] at hfirst ⊢
     exact ⟨fun f _ => hF f, next _ _ hS hfirst⟩
   ·intro p hpm
    obtain ⟨j, hj, hpj⟩ := List.mem_filterMap.1 hpm
    have hji : j < i := hp3 j hj i (List.mem_cons_self ..)
    have hjT := (hmem j).1 (List.mem_append_left _ hj)
    refine ⟨(chk j p hpj).1, ?_⟩
    have hok := (chk i o ho).2.2 j hji
    unfold pairOk at hok
    simp only [hpj, ho, Bool.or_eq_true, Bool.and_eq_true] at hok
    rcases hok with h1 | h1
    ·exact h1
    ·have := waits_listed hc 10 j i h1 fun o' ho' e he hb => by rw [ho] at ho'; cases ho'; exact hall e he hb
     rw [getD_true_false (by omega), this] at hjT
     cases hjT.2
theorem filterMap_range {α : Type} : ∀ l : List α, (List.range l.length).filterMap (l[·]?) = l
 | [] => rfl
 | x :: l => by
  have ih := filterMap_range l
  rw [List.length_cons, List.range_succ_eq_map, List.filterMap_cons, List.filterMap_map]
  simpa [Function.comp_def] using ih
theorem wpIn_region_text {id : Nat} {l : List Oper} {a : Act} {w : World} (S : World → Prop) (X : Oper → Bool) (hF : ∀ f, F.fn f) (hd : F.depth = none) (hm : P.follows .mixedOrders = true) (hchk : textOk l.toArray X = true) (hS : S w.drew)
  (h : wpT F n P l.toArray (onlyNormal Q) S X l a w.drew) : (Code.region id l.toArray true).wpIn F n P Q a w := by
 refine wpIn_mono (Q := onlyNormal Q) (wpIn_region_any hm ?_) fun e a w h => by cases e <;> first | exact h | exact h.elim
 refine wpAnyIn_of_wpT hF hd quiet_normal hchk _ (List.range l.toArray.size) _ a _ (by simp) List.pairwise_lt_range ?_ ?_ (by simp) hS ?_
 ·intro i
  simp only [List.mem_range]
  constructor
  ·intro h; exact ⟨h, by simp [Array.getD] at h ⊢; simp [h]⟩
  ·exact fun h => h.1
 ·intro m o _ hm
  exfalso
  simp [Array.getD] at hm
 ·have : (List.range l.toArray.size).filterMap (l.toArray[·]?) = l := by
   simp only [List.size_toArray, List.getElem?_toArray]
   exact filterMap_range l
  rw [this]
  exact h
structure Shut (p : Prop) : Prop where
 out : p
theorem shT_x {o : Oper} {rest : List Oper} {a : Act} {w : World} (hg : o.guard = none) (hx : X o = true)
  (h : ∀ K : Act → World → Prop, (∀ a w, Shut (wpT F n P ops Q S X rest a w) → K a w) → ∀ w', S w' → ∃ v, (execOp a.eval o).run P w' = .ok (.value v) w' ∧ (execOp a.eval o).run P w = .ok (.value v) w ∧ K (a.put o.dst v) w) :
  Shut (wpT F n P ops Q S X (o :: rest) a w) := ⟨wpT_x hg hx fun K hK => h K fun a w hs => hK a w hs.out⟩
theorem shT_c {o : Oper} {rest : List Oper} {a : Act} {w : World} (hg : o.guard = none) (hx : X o = false)
  (h : ∀ K : Act → World → Prop, (∀ a w, S w → Shut (wpT F n P ops Q S X rest a w) → K a w) → o.wpIn F n P a w K Q) :
  Shut (wpT F n P ops Q S X (o :: rest) a w) := ⟨wpT_c hg hx fun K hK => h K fun a w hS hs => hK a w hS hs.out⟩
theorem shT_nil {a : Act} {w : World} (h : Q .normal a w) : Shut (wpT F n P ops (onlyNormal Q) S X [] a w) := ⟨wpT_nil h⟩
theorem shT_skip {o : Oper} {rest : List Oper} {a : Act} {w : World} (hw : Region.wanted o (yielded ops a.tmps) = false) (h : Shut (wpT F n P ops Q S X rest (a.put o.dst undef) w)) : Shut (wpT F n P ops Q S X (o :: rest) a w) := ⟨wpT_skip hw h.out⟩
theorem shT_gx {o : Oper} {rest : List Oper} {a : Act} {w : World} (hw : Region.wanted o (yielded ops a.tmps) = true) (hx : X o = true)
  (h : ∀ K : Act → World → Prop, (∀ a w, Shut (wpT F n P ops Q S X rest a w) → K a w) → ∀ w', S w' → ∃ v, (execOp a.eval o).run P w' = .ok (.value v) w' ∧ (execOp a.eval o).run P w = .ok (.value v) w ∧ K (a.put o.dst v) w) :
  Shut (wpT F n P ops Q S X (o :: rest) a w) := ⟨wpT_gx hw hx fun K hK => h K fun a w hs => hK a w hs.out⟩
theorem shT_gc {o : Oper} {rest : List Oper} {a : Act} {w : World} (hw : Region.wanted o (yielded ops a.tmps) = true) (hx : X o = false)
  (h : ∀ K : Act → World → Prop, (∀ a w, S w → Shut (wpT F n P ops Q S X rest a w) → K a w) → o.wpIn F n P a w K Q) :
  Shut (wpT F n P ops Q S X (o :: rest) a w) := ⟨wpT_gc hw hx fun K hK => h K fun a w hS hs => hK a w hS hs.out⟩
theorem wpIn_region_shut {id : Nat} {l : List Oper} {a : Act} {w : World} (S : World → Prop) (X : Oper → Bool) (hF : ∀ f, F.fn f) (hd : F.depth = none) (hm : P.follows .mixedOrders = true) (hchk : textOk l.toArray X = true) (hS : S w.drew)
  (h : Shut (wpT F n P l.toArray (onlyNormal Q) S X l a w.drew)) : (Code.region id l.toArray true).wpIn F n P Q a w := wpIn_region_text S X hF hd hm hchk hS h.out
end
end Go.Tm
namespace Go.Tm
open Go.RowKit
variable {P : Program} {F : Fence} {n : Nat} {Q : Exit → Act → World → Prop} {a : Act} {w : World}
theorem stepR_scope {b : Frame} {c : Code} {k : List Item} {cs : List Frame} : step P (lone (b.atR a (.code (.scope c) :: k)) cs w) = .next (lone (b.atR a (.code c :: .inScope c :: k)) cs w) :=
 step_lone_go (by simp [stepG, stepG.exec, Frame.atR])
theorem stepR_inScope {b : Frame} {c : Code} {k : List Item} {cs : List Frame} : step P (lone (b.atR a (.inScope c :: k)) cs w) = .next (lone (b.atR a k) cs w) :=
 step_lone_go (by simp [stepG, stepG.exec, Frame.atR])
theorem wpIn_scope {c : Code} (h : c.wpIn F n P (Exit.noGoto Q) a w) : (Code.scope c).wpIn F n P Q a w := by
 intro b k cs hro hb hr
 have h0 : (lone (b.atR a (.code (.scope c) :: k)) cs w).fenced P F := fenced_calm hb hr rfl
 obtain ⟨e, a₁, w₁, hq, harr⟩ := h b (.inScope c :: k) cs hro hb hr
 cases e with
 | normal => exact ⟨.normal, a₁, w₁, hq, .head h0 stepR_scope (StepsIn.trans harr (.one (fenced_calm hb hr rfl) stepR_inScope))⟩
 | exit id =>
  have hx : exitTo id (.inScope c :: k) = exitTo id k := by simp [exitTo]
  exact ⟨.exit id, a₁, w₁, hq, fun k' hk => .head h0 stepR_scope (harr.1 k' (by rw [hx]; exact hk)),
   fun hr' hk => let ⟨k₁, h1, h2⟩ := harr.2 hr' (by rw [hx]; exact hk); ⟨k₁, h1, .head h0 stepR_scope h2⟩⟩
 | goto l => exact hq.elim
 | ret => exact ⟨_, a₁, w₁, hq, .of_steps (.one h0 stepR_scope) harr⟩
 | panic ch => exact ⟨_, a₁, w₁, hq, .of_steps (.one h0 stepR_scope) harr⟩
 | outgrown => exact ⟨_, a₁, w₁, hq, .of_steps (.one h0 stepR_scope) harr⟩
end Go.Tm
namespace Go.Tm
open Go.RowKit
theorem run_mapUpdate_new {P : Program} {w : World} {mty kt et : TypeId} {d : TypeDesc} {r clock : Nat} {es : Array MapEntry} (key val : Value) (hm : P.underlying mty = some (.map kt et)) (hd : P.underlying kt = some d) (hk : MapKept.IsKey d key)
  (hb : w.heap[r]? = some (.map es clock)) (hf : Instr.findNow d key es.toList 0 = some none) :
  (Instr.mapUpdate mty (.map (some r)) key val).run P w = .ok () (w.putObj r (.map (es.push { key := key, val := val, born := clock }) (clock + 1))) := by
 simp [Instr.mapUpdate, run_underlying hm, MapKept.run_getObj_map hb, MapKept.run_checkKey hd hk, MapKept.run_findKey hd hf, MapKept.run_setObj_map _ hb, Result.andThen]
 try rfl
theorem run_lookup_ok {P : Program} {w : World} {mty kt et : TypeId} {d : TypeDesc} {r clock i : Nat} {es : Array MapEntry} {v : Value} (key : Value) (hm : P.underlying mty = some (.map kt et)) (hd : P.underlying kt = some d) (hk : MapKept.IsKey d key)
  (hb : w.heap[r]? = some (.map es clock)) (hf : Instr.findNow d key es.toList 0 = some (some (i, v))) (b : Bool) :
  (Instr.lookup mty (.map (some r)) key b).run P w = .ok (if b then .tuple #[v, .bool true] else v) w := by
 simp [Instr.lookup, run_underlying hm, MapKept.run_getObj_map hb, MapKept.run_checkKey hd hk, MapKept.run_findKey hd hf, Result.andThen]
theorem run_lookup_none {P : Program} {w : World} {mty kt et : TypeId} {d : TypeDesc} {r clock : Nat} {es : Array MapEntry} {z : Value} (key : Value) (hm : P.underlying mty = some (.map kt et)) (hd : P.underlying kt = some d) (hk : MapKept.IsKey d key)
  (hz : ∀ w : World, (zeroValue et).run P w = .ok z w) (hb : w.heap[r]? = some (.map es clock)) (hf : Instr.findNow d key es.toList 0 = some none) (b : Bool) :
  (Instr.lookup mty (.map (some r)) key b).run P w = .ok (if b then .tuple #[z, .bool false] else z) w := by
 simp [Instr.lookup, run_underlying hm, MapKept.run_getObj_map hb, MapKept.run_checkKey hd hk, MapKept.run_findKey hd hf, hz, Result.andThen]
end Go.Tm
namespace Go.Tm
open Go.RowKit Go.Proofs
def byteVals (xs : List Nat) : List Value := xs.map fun n : Nat => Value.int .u8 (n : Int)
def strN (xs : List Nat) : ByteArray := ⟨(xs.map UInt8.ofNat).toArray⟩
theorem byteVals_length (xs : List Nat) : (byteVals xs).length = xs.length := by simp [byteVals]
theorem byteVals_snoc (xs : List Nat) (c : Nat) : byteVals (xs ++ [c]) = byteVals xs ++ [.int .u8 c] := by simp [byteVals]
theorem byteVals_append (xs ys : List Nat) : byteVals (xs ++ ys) = byteVals xs ++ byteVals ys := by simp [byteVals]
theorem byteVals_cells (xs : List Nat) (h : ∀ x ∈ xs, x < 256) : byteVals xs = Lib.byteCells (xs.map UInt8.ofNat) := by
 simp only [byteVals, Lib.byteCells, List.map_map]
 refine List.map_congr_left fun x hx => ?_
 simp [Nat.mod_eq_of_lt (h x hx)]
theorem strN_bytesN (s : ByteArray) : strN (bytesN s) = s := by
 simp only [bytesN, strN, List.map_map]
 have : (UInt8.ofNat ∘ fun x : UInt8 => x.toNat) = id := by funext x; simp
 rw [this, List.map_id]
theorem strN_size (xs : List Nat) : (strN xs).size = xs.length := by
 show (xs.map UInt8.ofNat).toArray.size = _; simp
theorem bytesN_lt (s : ByteArray) : ∀ x ∈ bytesN s, x < 256 := by
 intro x hx
 obtain ⟨c, _, rfl⟩ := List.mem_map.1 hx
 exact c.toNat_lt
abbrev Bld (B b : Nat) (xs : List Nat) (w : World) : Prop := Lib.IsBuilder 195 5 B b (byteVals xs) w
def BldS (B b : Nat) : Nat → Obj → Prop := fun k o => k ≠ b ∧ (k < B ∨ ∀ c f, o ≠ .cells c 5 f)
theorem bld_info : (Tryz.prog.info? 195).map (·.size) = some 2 := by kernel_rfl
theorem bld_lies : liesAt Tryz.prog Tryz.prog.depth 195 (2 / Tryz.prog.cellsOf 195) 0 195 1 = true := by kernel_rfl
theorem byte_info : (Tryz.prog.info? 5).map (fun i => (i.zero, i.size, i.bytes)) = some (some (.int .u8 0), 1, 1) := by kernel_rfl
set_option maxRecDepth 100000 in
set_option maxHeartbeats 400000 in
theorem copyCheck_used (b : Nat) (w : World) (h0 : w.cell? ⟨b, 0, none⟩ = some (.pointer (some ⟨b, 0, none⟩))) :
  Calls Tryz.prog 208 #[.pointer (some ⟨b, 0, none⟩)] w fun e w' => e = .returned (.tuple #[]) ∧ w' = w := by
 obtain ⟨j, hj, _⟩ := Option.map_eq_some_iff.1 bld_info
 go_enter Tryz.func208, Tryz.ntmps208
 go_wp2
 rw [Lib.run_neq_ptr_same w _ Tryz.underlying193 hj]
 go_wp2
 go_end0
 exact ⟨rfl, rfl⟩
set_option maxRecDepth 100000 in
set_option maxHeartbeats 400000 in
theorem copyCheck_fresh (b : Nat) (w : World) (h0 : w.cell? ⟨b, 0, none⟩ = some (.pointer none)) (hsh : w.shape? b = some (195, 2)) (hfz : w.frozen? ⟨b, 0, none⟩ = false) :
  Calls Tryz.prog 208 #[.pointer (some ⟨b, 0, none⟩)] w fun e w' => e = .returned (.tuple #[]) ∧ w' = w.setCell ⟨b, 0, none⟩ (.pointer (some ⟨b, 0, none⟩)) := by
 obtain ⟨j, hj, hjs⟩ := Option.map_eq_some_iff.1 bld_info
 go_enter Tryz.func208, Tryz.ntmps208
 go_wp2
 rw [Lib.run_to_unsafe w ⟨b, 0, none⟩ Tryz.underlying193 Tryz.underlying281 hj (by rw [hjs]; decide) hsh (Nat.zero_lt_succ 1)]
 simp only [Result.andThen]
 rw [Oper.upon_value]
 go_wp2
 rw [run_callFunc_extern Tryz.func239 (by kernel_rfl) (by kernel_rfl) (by kernel_rfl) (e := Extern.AbiNoEscape.same) (by kernel_rfl)]
 rw [Lib.run_noEscape]
 simp only [Result.andThen]
 rw [Oper.upon_value]
 go_wp2
 rw [Lib.run_from_unsafe w ⟨b, 0, none⟩ Tryz.underlying281 Tryz.underlying193 hj hsh bld_lies]
 simp only [Result.andThen]
 rw [Oper.upon_value]
 go_wp2
 go_end0
 exact ⟨rfl, rfl⟩
theorem copyCheck_any (B b : Nat) (xs : List Nat) (w : World) (h : Bld B b xs w) :
  Calls Tryz.prog 208 #[.pointer (some ⟨b, 0, none⟩)] w fun e w' => e = .returned (.tuple #[]) ∧ Lib.BuilderAt 195 5 B b (.pointer (some ⟨b, 0, none⟩)) (byteVals xs) w' ∧ Keep (fun k _ => k ≠ b) w w' := by
 rcases h with h | h
 ·refine (copyCheck_fresh b w h.cell0 h.shape h.frozen0).mono ?_
  rintro e w' ⟨rfl, rfl⟩
  exact ⟨rfl, h.used _, (Keep.refl _ w).setCell _ fun o _ h _ => h rfl⟩
 ·refine (copyCheck_used b w h.cell0).mono ?_
  rintro e w' ⟨rfl, rfl⟩
  exact ⟨rfl, h, Keep.refl _ _⟩
theorem bld_le {B b : Nat} {xs : List Nat} {w : World} (h : Bld B b xs w) : B ≤ b ∧ b < w.heap.size := by
 rcases h with h | h <;> exact ⟨h.1, h.lt⟩
theorem bld_kept {B b : Nat} {v v' : Value} {w w1 w2 : World} {o : Obj} {n : Nat} {xs : List Value} (h1 : Keep (fun k _ => k ≠ b) w w1) (hg : (w1.alloc o).grownBy w2 v.ownBlock) (hown : w1.ownsRow B 5 1 v n xs) :
  Keep (BldS B b) w (w2.setCell ⟨b, 1, none⟩ v') := by
 have h2 : Keep (BldS B b) w (w1.alloc o) := (h1.mono fun _ _ _ h => h.1).alloc o
 have h3 : Keep (BldS B b) w w2 := h2.grown hg fun r hr o' ho hs _ => by
  rcases hown.2 with ⟨rfl, _⟩ | ⟨g, cap, cur, rfl, hb, hgg, _⟩
  ·simp [Value.ownBlock] at hr
  ·simp [Value.ownBlock] at hr
   subst hr
   have : (w1.alloc o).heap[g]? = some (.cells cur 5 (0, 0)) := (Below.heap_alloc w1 o g (lt_of_some hgg)).trans hgg
   rw [this] at ho; cases ho
   rcases hs.2 with h | h
   ·omega
   ·exact h _ _ rfl
 exact h3.setCell _ fun o _ hs _ => hs.1 rfl
set_option maxRecDepth 100000 in
set_option maxHeartbeats 800000 in
theorem writeByte_any (B b c : Nat) (xs : List Nat) (w : World) (h : Bld B b xs w) (hlen : xs.length + 1 ≤ 140737488355328) (hBw : B ≤ w.heap.size) :
  Calls Tryz.prog 159 #[.pointer (some ⟨b, 0, none⟩), .int .u8 c] w fun e w' => e = .returned .nilIface ∧ Bld B b (xs ++ [c]) w' ∧ Keep (BldS B b) w w' := by
 obtain ⟨i0, hi, hz0, hz1, hz2⟩ := info_parts byte_info
 go_enter Tryz.func159, Tryz.ntmps159
 go_wp2_with (go_at_call 208; refine (copyCheck_any B b xs _ h).mono ?_)
 rintro e w1 ⟨rfl, h1, hk1⟩
 obtain ⟨hB, v, hbk, hown, hne⟩ := h1
 have c0 : w1.cell? ⟨b, 0, none⟩ = some (.pointer (some ⟨b, 0, none⟩)) := by rw [Lib.cell_of_heap hbk]; rfl
 have c1 : w1.cell? ⟨b, 1, none⟩ = some v := by rw [Lib.cell_of_heap hbk]; rfl
 go_wp2_with (at_builtin; refine wpList_append_own _ rfl _ _ 138 rfl B 5 i0 (.int .u8 0) 1 1 Tryz.underlying138 hi hz0 hz1 hz2 rfl (by decide) _ _ _ rfl (hown.alloc _) ⟨w1.heap.size, 0, none⟩ 1 1 [.int .u8 c] rfl rfl ?c1 ?c2 ?c3 ?c4 ?c5 ?_)
 case c1 =>
  intro j u hj
  match j, hj with
  | 0, hj => simp at hj; subst hj; simp [Addr.add]
 case c2 => intro u hu; simp at hu; subst hu; rfl
 case c3 => have := byteVals_length xs; unfold maxLen; omega
 case c4 => have := byteVals_length xs; omega
 case c5 => have := hk1.size; simp; omega
 intro v' w2 hown' hgrow _
 have hlt : b < w1.heap.size := lt_of_some hbk
 have hb2 : w2.heap[b]? = some (.cells #[.pointer (some ⟨b, 0, none⟩), v] 195 (0, 0)) := by
  rw [hgrow.block b (by simp; omega) (fun e => hne e.symm), Lib.alloc_old w1 _ b hlt]
  exact hbk
 have d0 : w2.cell? ⟨b, 0, none⟩ = some (.pointer (some ⟨b, 0, none⟩)) := by rw [Lib.cell_of_heap hb2]; rfl
 have d1 : w2.cell? ⟨b, 1, none⟩ = some v := by rw [Lib.cell_of_heap hb2]; rfl
 have f1 : w2.frozen? ⟨b, 1, none⟩ = false := Lib.frozen_of_heap hb2 1
 obtain ⟨g, cap, rfl⟩ : ∃ g cap, v' = .slice (some ⟨g, 0, none⟩) ((byteVals xs).length + 1) cap := by
  rcases hown'.2 with ⟨_, h0⟩ | ⟨g, cap, cur, hv, _⟩
  ·omega
  ·exact ⟨g, cap, hv⟩
 go_wp2
 go_ret
 refine ⟨rfl, .inr ?_, ?_⟩
 ·rw [byteVals_snoc]
  exact Lib.BuilderAt.put (T := 195) (e := 5) hB hb2 (bs' := byteVals xs ++ [.int .u8 c]) (by simpa using hown') (by decide)
 ·exact bld_kept hk1 hgrow hown
end Go.Tm
namespace Go.Tm
open Go.RowKit Go.Proofs
theorem row_slice {w : World} {B : Nat} {v : Value} {n : Nat} {xs : List Value} {e : TypeId} (h : w.ownsRow B e 1 v n xs) : ∃ a cap, v = .slice a n cap := by
 rcases h.2 with ⟨rfl, h0⟩ | ⟨g, cap, cur, rfl, _⟩
 ·exact ⟨none, 0, by rw [h0]⟩
 ·exact ⟨_, cap, rfl⟩
end Go.Tm
namespace Go.Tm
open Go.RowKit Go.Proofs
theorem each_any (s : ByteArray) (w : World) :
  Calls Tryz.prog 242 #[.string s] w fun e w' => e = .returned (.func (.func 277) #[] #[.pointer (some ⟨w.heap.size, 0, none⟩)]) ∧ w' = w.alloc (.cells #[.string s] 9) := by
 go_enter Tryz.func242, Tryz.ntmps242
 go_wp2
 go_ret
 exact ⟨rfl, rfl⟩
set_option maxHeartbeats 400000 in
theorem each1_iter (s : ByteArray) (bx : Nat) (Sb Si : Nat → Obj → Prop) (W : World) (hs : s.size ≤ 9223372036854775807) (hbx : Boxed W bx 9 (.string s)) (hSb : ∀ c f, Sb bx (.cells c 9 f)) :
  IterAt Tryz.prog 277 #[.pointer (some ⟨bx, 0, none⟩)] s.size (fun i v _ => v = #[.int .u64 (nth (bytesN s) i)]) Sb Si (fun _ => True) (fun _ _ => True) W := by
 rintro l J Jx hlp hJ hJx hY h0
 obtain ⟨r, hl⟩ := hlp 0 W h0
 have hne := cell_ne_loop hbx.cell hl
 have hbc := hbx.cell
 refine callsIn_of_wp Tryz.func277 rfl trivial ?_ rfl
 simp only [Tryz.ntmps277, List.size_toArray, List.length_cons, List.length_nil, Nat.reduceAdd, Nat.reduceSub, Array.replicate_succ, Array.replicate_zero, List.push_toArray, List.append_toArray, List.nil_append, List.cons_append]
 gi_wp2
 gi_loopw [6] (fun i wr => ∃ k : Nat, k ≤ s.size ∧ i = .int .i64 k ∧ J k wr ∧ Boxed wr bx 9 (.string s)) (fun i _ => s.size - (RowKit.intOf i).toNat)
 case atStart => exact ⟨0, Nat.zero_le _, rfl, h0, hbx⟩
 case round =>
  obtain ⟨k, hk, rfl, hj, hc0⟩ := hrel
  have hc := hc0.cell
  by_cases hlt : k < s.size
  ·obtain ⟨fn, tmps, assign, body, hy, hR⟩ := hY k _ wr hlt hj rfl
   have hwr : IntKind.u64.wrap (↑(s[k]).toNat) = (nth (bytesN s) k : Int) := by
    rw [nth_bytes s hlt]; exact wrap_u64 (by omega) (by have := (s[k]).toNat_lt; omega)
   gi_wp2
   refine hR.mono ?_
   rintro e W3 ⟨hkp, (⟨rfl, hj3⟩ | ⟨rfl, hj3⟩)⟩
   ·have hc3 := hkp.boxed hc0 ⟨hne, hSb _ _⟩
    gi_wp2
    go_roundw
    case rel => exact ⟨k + 1, by omega, by go_num, hj3, hc3⟩
    case measure => simp [RowKit.intOf]; omega
   ·gi_wp2
    refine bodyPost_ret (results_none rfl _ _ _) rfl ?_
    exact ⟨⟨_, rfl⟩, .inr ⟨k, hlt, hj3, trivial⟩⟩
  ·gi_wp2
   go_end0
   have : k = s.size := by omega
   subst this
   exact ⟨⟨_, rfl⟩, .inl ⟨hj, trivial⟩⟩
end Go.Tm
namespace Go.Tm
open Go.RowKit Go.Proofs
def Turner (w : World) (t n c to : Nat) : Prop := w.heap[t]? = some (.cells #[.int .u64 n, .int .i64 c, .int .i64 to] 288 (0, 0))
theorem Turner.c0 {w : World} {t n c to : Nat} (h : Turner w t n c to) : w.cell? ⟨t, 0, none⟩ = some (.int .u64 n) := by simp [World.cell?, show w.heap[t]? = _ from h]
theorem Turner.c1 {w : World} {t n c to : Nat} (h : Turner w t n c to) : w.cell? ⟨t, 1, none⟩ = some (.int .i64 c) := by simp [World.cell?, show w.heap[t]? = _ from h]
theorem Turner.c2 {w : World} {t n c to : Nat} (h : Turner w t n c to) : w.cell? ⟨t, 2, none⟩ = some (.int .i64 to) := by simp [World.cell?, show w.heap[t]? = _ from h]
theorem Turner.f {w : World} {t n c to : Nat} (h : Turner w t n c to) (j : Nat) : w.frozen? ⟨t, j, none⟩ = false := by simp [World.frozen?, show w.heap[t]? = _ from h]
theorem Turner.keep {S : Nat → Obj → Prop} {w w' : World} {t n c to : Nat} (h : Turner w t n c to) (hk : Keep S w w') (hS : ∀ o, S t o) : Turner w' t n c to := hk.same _ _ h (hS _)
theorem heap_setCell_same {w : World} {b off : Nat} {cs : Array Value} {T : TypeId} {fr : Nat × Nat} (v : Value) (h : w.heap[b]? = some (.cells cs T fr)) : (w.setCell ⟨b, off, none⟩ v).heap[b]? = some (.cells (cs.setIfInBounds off v) T fr) := by
 obtain ⟨hlt, hk⟩ := Array.getElem?_eq_some_iff.1 h
 show (w.heap.modify b _)[b]? = _
 rw [Array.getElem?_eq_getElem (by rw [Array.size_modify]; exact hlt), Array.getElem_modify_self, hk]
 rfl
theorem or_add (n x k : Nat) (hx : x < 2 ^ k) : (n * 2 ^ k ||| x) = n * 2 ^ k + x := by
 rw [Nat.mul_comm]; exact (Nat.two_pow_add_eq_or_of_lt hx n).symm
theorem turn_or (n x k : Nat) (hn : n < 65536) (hk : k ≤ 8) (hx : x < 2 ^ k) : bits BinOp.or IntKind.u64 (IntKind.u64.wrap ((n : Int) * 2 ^ k)) (x : Int) = ((n * 2 ^ k + x : Nat) : Int) := by
 have h2 : (2 : Nat) ^ k ≤ 256 := Nat.pow_le_pow_right (by omega) hk
 have h3 : n * 2 ^ k ≤ 65535 * 256 := Nat.mul_le_mul (by omega) h2
 have e : ((n : Int) * 2 ^ k) = ((n * 2 ^ k : Nat) : Int) := by push_cast; rfl
 rw [e, wrap_u64 (by omega) (by omega), bits_or_u64_nat _ _ (by omega) (by omega), or_add n x k hx]
set_option maxHeartbeats 400000 in
theorem add_any (w : World) (t n c to x k : Nat) (h : Turner w t n c to) (hn : n < 65536) (hc : c < 64) (hk : k ≤ 8) (hx : x < 2 ^ k) :
  Calls Tryz.prog 275 #[.pointer (some ⟨t, 0, none⟩), .int .u64 x, .int .i64 k] w fun e w' => e = .returned (.tuple #[]) ∧ Keep (fun b _ => b ≠ t) w w' ∧ Turner w' t (n * 2 ^ k + x) (c + k) to := by
 have c0 := h.c0
 have c1 := h.c1
 have f0 := h.f 0
 have f1 := h.f 1
 have hor := turn_or n x k hn hk hx
 have H : Hid (Turner w t n c to) := h
 clear h
 go_enter Tryz.func275, Tryz.ntmps275
 go_wp2
 go_region
 all_goals
  go_wp2
  go_end0
  refine ⟨rfl, ?_, ?_⟩
  ·refine Keep.drew ((Keep.setCell (Keep.setCell (Keep.refl _ w) _ ?_) _ ?_)) <;> intro o _ h _ <;> exact h rfl
  ·have h1 := heap_setCell_same (off := 0) (.int .u64 ((n * 2 ^ k + x : Nat) : Int)) H.out
   have h2 := heap_setCell_same (off := 1) (.int .i64 ((c + k : Nat) : Int)) h1
   show (World.setCell _ _ _).heap[t]? = _
   simpa using h2
theorem pow_le (d k : Nat) (h : d ≤ k) : (2 : Nat) ^ d ≤ 2 ^ k := Nat.pow_le_pow_right (by omega) h
theorem turn_take (n d to : Nat) (hn : n < 2 ^ (d + to)) (hc : d + to < 16) : bits BinOp.and IntKind.u64 (n : Int) (IntKind.u64.wrap (IntKind.u64.wrap ((2 : Int) ^ d) - 1)) = ((n % 2 ^ d : Nat) : Int) := by
 have h2 := pow_le d 16 (by omega)
 have h1 : 1 ≤ (2 : Nat) ^ d := Nat.one_le_two_pow
 have h3 := pow_le (d + to) 16 (by omega)
 have e : ((2 : Int) ^ d) = ((2 ^ d : Nat) : Int) := by push_cast; rfl
 rw [e]
 generalize hp : (2 : Nat) ^ d = p at *
 rw [wrap_u64 (x := (p : Int)) (by omega) (by omega), show ((p : Int) - 1) = ((p - 1 : Nat) : Int) by omega, wrap_u64 (by omega) (by omega),
  bits_and_u64_nat _ _ (by omega) (by omega)]
 subst hp
 rw [Nat.and_two_pow_sub_one_eq_mod]
set_option maxHeartbeats 400000 in
theorem take_any (w : World) (t n d to : Nat) (h : Turner w t n (d + to) to) (hn : n < 2 ^ (d + to)) (hc : d + to < 16) :
  Calls Tryz.prog 276 #[.pointer (some ⟨t, 0, none⟩), .int .i64 to] w fun e w' => e = .returned (.int .u64 (n / 2 ^ d : Nat)) ∧ Keep (fun b _ => b ≠ t) w w' ∧ Turner w' t (n % 2 ^ d) d to := by
 have c0 := h.c0
 have c1 := h.c1
 have f0 := h.f 0
 have f1 := h.f 1
 have H : Hid (Turner w t n (d + to) to) := h
 clear h
 have ht := turn_take n d to hn hc
 go_enter Tryz.func276, Tryz.ntmps276
 go_wp2
 go_region
 go_wp2
 go_region
 go_wp2
 go_ret
 refine ⟨by simp, ?_, ?_⟩
 ·refine Keep.drew (Keep.drew (Keep.setCell (Keep.setCell (Keep.refl _ w) _ ?_) _ ?_)) <;> intro o _ h _ <;> exact h rfl
 ·have h1 := heap_setCell_same (off := 1) (.int .i64 (d : Int)) H.out
  have h2 := heap_setCell_same (off := 0) (.int .u64 ((n % 2 ^ d : Nat) : Int)) h1
  show (World.setCell _ _ _).heap[t]? = _
  simpa using h2
theorem pieces_any (w : World) (t : Nat) (g : Nat) (lb : Array Value) (fr : Int) :
  Calls Tryz.prog 241 #[.pointer (some ⟨t, 0, none⟩), .func (.func g) #[] lb, .int .i64 fr] w fun e w' =>
   e = .returned (.func (.func 274) #[] #[.pointer (some ⟨w.heap.size + 1, 0, none⟩), .pointer (some ⟨w.heap.size, 0, none⟩), .pointer (some ⟨w.heap.size + 2, 0, none⟩)]) ∧
   w' = ((w.alloc (.cells #[.pointer (some ⟨t, 0, none⟩)] 284)).alloc (.cells #[.func (.func g) #[] lb] 290)).alloc (.cells #[.int .i64 fr] 3) := by
 go_enter Tryz.func241, Tryz.ntmps241
 go_wp2
 go_ret
 exact ⟨rfl, rfl⟩
end Go.Tm
namespace Go.Tm
abbrev St := Nat × Nat
def feed (fr : Nat) (s : St) (x : Nat) : St := (s.1 * 2 ^ fr + x, s.2 + fr)
def outs1 (to : Nat) (s : St) : List Nat := (List.range (s.2 / to)).map fun j => (s.1 % 2 ^ (s.2 - j * to)) / 2 ^ (s.2 - (j + 1) * to)
def rest1 (to : Nat) (s : St) : St := (s.1 % 2 ^ (s.2 % to), s.2 % to)
def outs (to fr : Nat) : St → List Nat → List Nat
 | _, [] => []
 | s, x :: xs => outs1 to (feed fr s x) ++ outs to fr (rest1 to (feed fr s x)) xs
def fin (to fr : Nat) : St → List Nat → St
 | s, [] => s
 | s, x :: xs => fin to fr (rest1 to (feed fr s x)) xs
theorem outs_append (to fr : Nat) : ∀ (s : St) (xs ys : List Nat), outs to fr s (xs ++ ys) = outs to fr s xs ++ outs to fr (fin to fr s xs) ys
 | _, [], _ => rfl
 | s, x :: xs, ys => by simp [outs, fin, outs_append to fr _ xs ys]
theorem fin_append (to fr : Nat) : ∀ (s : St) (xs ys : List Nat), fin to fr s (xs ++ ys) = fin to fr (fin to fr s xs) ys
 | _, [], _ => rfl
 | s, x :: xs, ys => by simp [fin, fin_append to fr _ xs ys]
theorem outs1_length (to : Nat) (s : St) : (outs1 to s).length = s.2 / to := by simp [outs1]
def outsAt (to fr : Nat) (xs : List Nat) (i : Nat) : Nat := (outs to fr (0, 0) (xs.take i)).length
def finAt (to fr : Nat) (xs : List Nat) (i : Nat) : St := fin to fr (0, 0) (xs.take i)
theorem take_nth (xs : List Nat) (i : Nat) (h : i < xs.length) : xs.take (i + 1) = xs.take i ++ [nth xs i] := by
 rw [List.take_succ_eq_append_getElem h]; simp [nth, h]
theorem finAt_succ (to fr : Nat) (xs : List Nat) (i : Nat) (h : i < xs.length) : finAt to fr xs (i + 1) = rest1 to (feed fr (finAt to fr xs i) (nth xs i)) := by
 simp [finAt, take_nth xs i h, fin_append, fin]
theorem outsAt_succ (to fr : Nat) (xs : List Nat) (i : Nat) (h : i < xs.length) : outsAt to fr xs (i + 1) = outsAt to fr xs i + ((finAt to fr xs i).2 + fr) / to := by
 simp [outsAt, finAt, take_nth xs i h, outs_append, outs, outs1_length, feed]
theorem outsAt_all (to fr : Nat) (xs : List Nat) : outsAt to fr xs xs.length = (outs to fr (0, 0) xs).length := by simp [outsAt]
theorem outsAt_le (to fr : Nat) (xs : List Nat) (i : Nat) (h : i < xs.length) : outsAt to fr xs i + ((finAt to fr xs i).2 + fr) / to ≤ (outs to fr (0, 0) xs).length := by
 rw [← outsAt_succ to fr xs i h]
 have : xs = xs.take (i + 1) ++ xs.drop (i + 1) := (List.take_append_drop _ _).symm
 conv => rhs; rw [this, outs_append]
 simp [outsAt]
theorem nth_outs (to fr : Nat) (xs : List Nat) (i j : Nat) (h : i < xs.length) (hj : j < ((finAt to fr xs i).2 + fr) / to) :
  nth (outs to fr (0, 0) xs) (outsAt to fr xs i + j) =
   ((finAt to fr xs i).1 * 2 ^ fr + nth xs i) % 2 ^ ((finAt to fr xs i).2 + fr - j * to) / 2 ^ ((finAt to fr xs i).2 + fr - (j + 1) * to) := by
 have e : xs = xs.take i ++ (nth xs i :: xs.drop (i + 1)) := by
  conv => lhs; rw [← List.take_append_drop i xs, List.drop_eq_getElem_cons h]
  simp [nth, h]
 have e2 : outs to fr (0, 0) xs = outs to fr (0, 0) (xs.take i) ++ (outs1 to (feed fr (finAt to fr xs i) (nth xs i)) ++ outs to fr (rest1 to (feed fr (finAt to fr xs i) (nth xs i))) (xs.drop (i + 1))) := by
  conv => lhs; rw [e, outs_append]
  rfl
 unfold nth at *
 rw [e2]
 rw [List.getD_eq_getElem?_getD, List.getElem?_append_right (by unfold outsAt; omega), List.getElem?_append_left (by rw [outs1_length]; unfold outsAt; simp [feed]; omega)]
 simp only [outsAt, outs1, feed, List.getElem?_map]
 rw [show (outs to fr (0, 0) (xs.take i)).length + j - (outs to fr (0, 0) (xs.take i)).length = j by omega]
 rw [List.getElem?_range (by simpa using hj)]
 rfl
theorem rest1_ok (to : Nat) (s : St) (h : 1 ≤ to) : (rest1 to s).2 < to ∧ (rest1 to s).1 < 2 ^ (rest1 to s).2 :=
 ⟨Nat.mod_lt _ (by omega), Nat.mod_lt _ (Nat.two_pow_pos _)⟩
theorem finAt_ok (to fr : Nat) (xs : List Nat) (h : 1 ≤ to) : ∀ i, i ≤ xs.length → (finAt to fr xs i).2 < to ∧ (finAt to fr xs i).1 < 2 ^ (finAt to fr xs i).2
 | 0, _ => by simp [finAt, fin]; omega
 | i + 1, hi => by rw [finAt_succ to fr xs i (by omega)]; exact rest1_ok to _ h
theorem outs_len (to fr : Nat) : ∀ (s : St) (xs : List Nat), (outs to fr s xs).length * to + (fin to fr s xs).2 = s.2 + fr * xs.length
 | s, [] => by simp [outs, fin]
 | s, x :: xs => by
  have ih := outs_len to fr (rest1 to (feed fr s x)) xs
  simp only [outs, fin, List.length_append, outs1_length, List.length_cons, Nat.add_mul, Nat.mul_add] at ih ⊢
  have h1 : (rest1 to (feed fr s x)).2 = (s.2 + fr) % to := rfl
  have h2 : (feed fr s x).2 = s.2 + fr := rfl
  have h3 := Nat.div_add_mod (s.2 + fr) to
  rw [Nat.mul_comm] at h3
  rw [h1] at ih
  rw [h2]
  omega
end Go.Tm
namespace Go.Tm
open Go.RowKit Go.Proofs
set_option maxRecDepth 100000 in
set_option maxHeartbeats 2000000 in
theorem pieces1_iter (to fr : Nat) (hto : 1 ≤ to) (hto8 : to ≤ 8) (hfr8 : fr ≤ 8) (t bt bl bf g : Nat) (lb : Array Value) (xs : List Nat) (hx : ∀ i, nth xs i < 2 ^ fr)
  (Sb Si Sii : Nat → Obj → Prop) (FinI : World → Prop) (W : World)
  (hT : Turner W t 0 0 to) (hbt : Boxed W bt 284 (.pointer (some ⟨t, 0, none⟩))) (hbl : W.cell? ⟨bl, 0, none⟩ = some (.func (.func g) #[] lb)) (hbf : Boxed W bf 3 (.int .i64 fr))
  (hne : bt ≠ t ∧ bf ≠ t)
  (hSb : (∀ c f, Sb t (.cells c 288 f)) ∧ (∀ c f, Sb bt (.cells c 284 f)) ∧ ∀ c f, Sb bf (.cells c 3 f)) (hSb2 : ∀ b o, W.heap.size ≤ b → (o.isCells = false ∨ ∃ c f, o = .cells c 311 f) → Sb b o)
  (hSi : ∀ b o, Si b o → (∀ c f, o = .cells c 288 f → b ≠ t) ∧ (b < W.heap.size ∨ o.isCells = true) ∧ Sii b o)
  (hSii : ∀ b o, (b = t ∨ b = bt ∨ b = bf ∨ W.heap.size ≤ b) → (b < W.heap.size + 3 ∨ o.isCells = true) → Sii b o)
  (eg : ∀ args w, (callFunc g args).run Tryz.prog w = .ok (.enter g args) w)
  (hit : ∀ l W1, (∃ r, W.heap[l]? = some (.loop r)) → Same W W1 → W1.heap.size = W.heap.size + 3 → IterAt Tryz.prog g lb xs.length (fun i v _ => v = #[.int .u64 (nth xs i)]) (fun b o => b ≠ l ∧ b ≠ t ∧ Sb b o) Sii FinI (fun _ _ => True) W1)
  (hFinI : ∀ A B, FinI A → Keep (fun b o => b < W.heap.size ∨ o.isCells = true) A B → FinI B) :
  IterAt Tryz.prog 274 #[.pointer (some ⟨bl, 0, none⟩), .pointer (some ⟨bt, 0, none⟩), .pointer (some ⟨bf, 0, none⟩)] (outs to fr (0, 0) xs).length (fun i v _ => v = #[.int .u64 (nth (outs to fr (0, 0) xs) i)]) Sb Si
   (fun B => Turner B t (finAt to fr xs xs.length).1 (finAt to fr xs xs.length).2 to ∧ FinI B) (fun _ _ => True) W := by
 rintro l J Jx hlp hJ hJx hY h0
 obtain ⟨r, hl⟩ := hlp 0 W h0
 have neT : ∀ {A : World} {n c : Nat}, Turner A t n c to → ∀ b o, A.heap[b]? = some o → Si b o → b ≠ t := fun hT b o hb hs e => by
  subst e; rw [show _ = some _ from hT] at hb; cases hb; exact (hSi _ _ hs).1 _ _ rfl rfl
 have n1 := cell_ne_loop hT.c0 hl
 have n2 := cell_ne_loop hbt.cell hl
 have n3 := cell_ne_loop hbf.cell hl
 have hlt := lt_of_some hl
 refine callsIn_of_wp_marks Tryz.func274 rfl trivial ?_ rfl
 simp only [Tryz.ntmps274, List.size_toArray, List.length_cons, List.length_nil, Nat.reduceAdd, Nat.reduceSub, Array.replicate_succ, Array.replicate_zero, List.push_toArray, List.append_toArray, List.nil_append, List.cons_append]
 have hb0 : (W.alloc (.cells #[.func (.yield l) #[] #[]] 311)).heap.size = W.heap.size + 1 := by simp
 have hk0 : Same W (W.alloc (.cells #[.func (.yield l) #[] #[]] 311)) := (Keep.refl _ W).alloc _
 have hby := Boxed.new W 311 (.func (.yield l) #[] #[])
 have hbl1 := hk0.cell hbl fun _ _ => trivial
 have hbt1 := hbt.cell
 have hbf1 := hbf.cell
 gi_wp2
 refine wp_rangeS (gf := g) (lb := lb) rfl eg xs.length (fun i v _ => v = #[.int .u64 (nth xs i)]) (fun b o => b ≠ l ∧ b ≠ t ∧ Sb b o) Sii FinI (fun _ _ => True)
  (fun W1 h1 h2 => hit l W1 ⟨r, hl⟩ (hk0.trans h1) (by rw [hb0] at h2; omega)) ?hSb ?hSi
  (fun i A => Turner A t (finAt to fr xs i).1 (finAt to fr xs i).2 to ∧ Boxed A bt 284 (.pointer (some ⟨t, 0, none⟩)) ∧ Boxed A bf 3 (.int .i64 fr) ∧
   Boxed A W.heap.size 311 (.func (.yield l) #[] #[]) ∧ J (outsAt to fr xs i) A)
  (fun i c A => c = .ret ∧ ∃ k, k < (outs to fr (0, 0) xs).length ∧ Jx k A) ?hI ?hIx (fun _ _ _ _ h _ => h) (fun A B h hk => hFinI A B h (hk.mono fun b o _ h => h.imp (fun h => by rw [hb0]; omega) id)) (fun _ _ _ _ _ => trivial) (fun i v A h => by rw [h]; rfl) ?h0 ?hround ?hdone ?hstop
 case hSb =>
  intro b o hb ho
  rw [hb0] at hb
  have := lt_of_some hT
  exact ⟨by omega, by omega, hSb2 b o (by omega) (.inl ho)⟩
 case hSi =>
  intro b o hb hb2 _
  rw [hb0] at hb hb2
  exact hSii b o (by omega) (.inl (by omega))
 case hI =>
  rintro i A B ⟨h1, h2, h3, h4, h5⟩ hk
  have z1 := lt_of_some hT
  have z2 := lt_of_some hbt
  have z3 := lt_of_some hbf
  refine ⟨h1.keep hk fun o => ⟨.inl (by rw [hb0]; omega), hSii _ _ (by simp) (.inl (by omega))⟩, hk.boxed h2 ⟨.inl (by rw [hb0]; omega), hSii _ _ (by simp) (.inr rfl)⟩, hk.boxed h3 ⟨.inl (by rw [hb0]; omega), hSii _ _ (by simp) (.inr rfl)⟩,
   hk.boxed h4 ⟨.inl (by rw [hb0]; omega), hSii _ _ (by simp) (.inr rfl)⟩, hJ _ _ _ h5 (hk.mono fun b o _ h => ⟨?_, (hSi b o h).2.2⟩)⟩
  exact (hSi b o h).2.1.imp (fun h => by rw [hb0]; omega) id
 case hIx =>
  rintro i c A B ⟨rfl, k, hk1, h5⟩ hk
  refine ⟨rfl, k, hk1, hJx _ _ _ h5 (hk.mono fun b o _ h => ⟨?_, (hSi b o h).2.2⟩)⟩
  exact (hSi b o h).2.1.imp (fun h => by rw [hb0]; omega) id
 case h0 =>
  exact ⟨hT.keep hk0 fun _ => trivial, hk0.boxed hbt trivial, hk0.boxed hbf trivial, hby, hJ 0 _ _ h0 (Keep.of_same hk0)⟩
 case hround =>
  intro i v hv
  obtain ⟨x, rfl⟩ := size_one rfl hv
  apply Exists.intro
  apply And.intro
  ·intro l2 A K hK
   gi_wp2
   exact hK
  ·rintro l2 A hl2 ⟨r2, hr2⟩ hi ⟨h1, hb2, hb3, h4, h5⟩ hxv
   have h2 := hb2.cell
   have h3 := hb3.cell
   obtain rfl : x = .int .u64 (nth xs i) := by simpa using hxv
   gi_wp2
   refine wpIn_region_text (fun A' => A'.cell? ⟨bt, 0, none⟩ = some (.pointer (some ⟨t, 0, none⟩)) ∧ A'.cell? ⟨bf, 0, none⟩ = some (.int .i64 fr)) reads (fun _ => trivial) rfl
    (by kernel_rfl) (by kernel_rfl) ⟨h2, h3⟩ ?_
   repeat (refine wpT_x rfl rfl ?_; intro K hK w' ⟨e1, e2⟩; go_simp; refine hK _ _ ?_; clear hK K e1 e2 w')
   refine wpT_c rfl rfl ?_
   intro K hK
   go_simp
   have hok := finAt_ok to fr xs hto i (by omega)
   have p8 := pow_le (finAt to fr xs i).2 8 (by omega)
   refine (callsR l2 (add_any A.drew t _ _ to (nth xs i) fr h1 (by omega) (by omega) hfr8 (hx i))).mono ?_
   rintro e w3 ⟨rfl, hk3, hT3⟩
   have hb23 := hk3.boxed hb2 hne.1
   have hb33 := hk3.boxed hb3 hne.2
   have h23 := hb23.cell
   have h33 := hb33.cell
   refine hK _ _ ⟨h23, h33⟩ ?_
   clear hK K
   have hkA : Keep (fun b o => b ≠ l ∧ b ≠ t ∧ Sb b o) A w3 := (Keep.refl _ A).drew.trans (hk3.mono fun b o _ h => h.2.1)
   have h43 : Boxed w3 W.heap.size 311 (.func (.yield l) #[] #[]) := hk3.boxed h4 (by have := lt_of_some hT; omega)
   have h53 : J (outsAt to fr xs i) w3 := hJ _ _ _ h5 ((Keep.refl _ A).drew.trans (hk3.mono fun b o hb h => neT h1 b o hb h))
   have hn' : (finAt to fr xs i).1 * 2 ^ fr + nth xs i < 2 ^ ((finAt to fr xs i).2 + fr) := by
    have h6 := hx i
    have h7 : (finAt to fr xs i).1 * 2 ^ fr + 2 ^ fr ≤ 2 ^ (finAt to fr xs i).2 * 2 ^ fr := by rw [← Nat.succ_mul]; exact Nat.mul_le_mul_right _ (by omega)
    rw [Nat.pow_add]; omega
   have hle := outsAt_le to fr xs i hi
   have hnx : ∀ j, j < ((finAt to fr xs i).2 + fr) / to → nth (outs to fr (0, 0) xs) (outsAt to fr xs i + j) = _ := fun j => nth_outs to fr xs i j hi
   have hsu := outsAt_succ to fr xs i hi
   have hfu := finAt_succ to fr xs i hi
   have hc' : (finAt to fr xs i).2 + fr < 16 := by omega
   simp only [feed] at hfu
   obtain ⟨m, hm⟩ : ∃ m, ((finAt to fr xs i).2 + fr) / to = m := ⟨_, rfl⟩
   rw [hm] at hle hnx hsu
   generalize (finAt to fr xs i).1 * 2 ^ fr + nth xs i = n' at *
   generalize (finAt to fr xs i).2 + fr = c' at *
   generalize outsAt to fr xs i = K0 at *
   have Hnx := Lib.hid hnx
   have Hsu := Lib.hid hsu
   have Hfu := Lib.hid hfu
   have Hm := Lib.hid hm
   clear hnx hsu hfu hm hk3 hxv
   have hT0 : Turner w3 t (n' % 2 ^ (c' - 0 * to)) (c' - 0 * to) to := by rw [Nat.zero_mul, Nat.sub_zero, Nat.mod_eq_of_lt hn']; exact hT3
   clear hT3
   refine wpT_nil ?_
   gi_wp2
   gi_loopw [14] (fun _ wr => ∃ j : Nat, j ≤ m ∧ Turner wr t (n' % 2 ^ (c' - j * to)) (c' - j * to) to ∧ Boxed wr bt 284 (.pointer (some ⟨t, 0, none⟩)) ∧ Boxed wr bf 3 (.int .i64 fr) ∧ Boxed wr W.heap.size 311 (.func (.yield l) #[] #[]) ∧ J (K0 + j) wr ∧ Keep (fun b o => b ≠ l ∧ b ≠ t ∧ Sb b o) A wr)
    (fun _ wr => (RowKit.intOf ((wr.cell? ⟨t, 1, none⟩).getD undef)).toNat)
   case atStart => exact ⟨0, Nat.zero_le _, hT0, hb23, hb33, h43, h53, hkA⟩
   case round =>
    obtain ⟨j, hj, g1, gb2, gb3, g4, g5, g6⟩ := hrel
    have g2 := gb2.cell
    have g3 := gb3.cell
    have k1 := g1.c1
    have k2 := g1.c2
    by_cases hjm : j < m
    ·have hq : (j + 1) * to ≤ c' := by rw [← Hm.out] at hjm; exact (Nat.le_div_iff_mul_le (by omega)).1 hjm
     rw [Nat.succ_mul] at hq
     have hx0 := Hnx.out j hjm
     rw [Nat.succ_mul] at hx0
     obtain ⟨d, hd⟩ : ∃ d, c' - (j * to + to) = d := ⟨_, rfl⟩
     have hd2 : c' - j * to = d + to := by omega
     have hdt : d + to < 16 := by omega
     have hd3 : c' - (j + 1) * to = d := by rw [Nat.succ_mul]; exact hd
     have Hd3 := Lib.hid hd3
     clear hd3
     rw [hd2] at g1 k1 hx0
     rw [hd] at hx0
     have Hx0 := Lib.hid hx0
     clear hx0 hd hd2
     obtain ⟨q, hq'⟩ : ∃ q, n' % 2 ^ (d + to) = q := ⟨_, rfl⟩
     have hqlt : q < 2 ^ (d + to) := by rw [← hq']; exact Nat.mod_lt _ (Nat.two_pow_pos _)
     rw [hq'] at g1
     have Hq := Lib.hid hq'
     clear hq'
     gi_wp2
     refine wpIn_region_text (fun A' => A'.cell? ⟨bt, 0, none⟩ = some (.pointer (some ⟨t, 0, none⟩)) ∧ A'.cell? ⟨t, 1, none⟩ = some (.int .i64 ((d + to : Nat) : Int)) ∧ A'.cell? ⟨t, 2, none⟩ = some (.int .i64 to)) reads (fun _ => trivial) rfl
      (by kernel_rfl) (by kernel_rfl) ⟨g2, k1, k2⟩ ?_
     repeat (refine wpT_x rfl rfl ?_; intro K hK w' ⟨e1, e2, e3⟩; go_simp; refine hK _ _ ?_; clear hK K e1 e2 e3 w')
     refine wpT_nil ?_
     gi_wp2
     have g7 := g4.cell
     refine wpIn_region_text (fun A' => A'.cell? ⟨W.heap.size, 0, none⟩ = some (.func (.yield l) #[] #[]) ∧ A'.cell? ⟨bt, 0, none⟩ = some (.pointer (some ⟨t, 0, none⟩)) ∧ A'.cell? ⟨t, 2, none⟩ = some (.int .i64 to)) reads (fun _ => trivial) rfl
      (by kernel_rfl) (by kernel_rfl) ⟨g7, g2, k2⟩ ?_
     repeat (refine wpT_x rfl rfl ?_; intro K hK w' ⟨e1, e2, e3⟩; go_simp; refine hK _ _ ?_; clear hK K e1 e2 e3 w')
     refine wpT_c rfl rfl ?_
     intro K hK
     go_simp
     refine (callsR l2 (take_any wr.drew.drew t q d to g1 hqlt hdt)).mono ?_
     rintro e w4 ⟨rfl, hk4, hT4⟩
     have zT := lt_of_some hT
     have g74 := hk4.cell g7 fun o _ => (by show W.heap.size ≠ t; omega)
     have gb24 : Boxed w4 bt 284 (.pointer (some ⟨t, 0, none⟩)) := hk4.boxed gb2 hne.1
     have gb34 : Boxed w4 bf 3 (.int .i64 fr) := hk4.boxed gb3 hne.2
     have g24 := gb24.cell
     have g44 : Boxed w4 W.heap.size 311 (.func (.yield l) #[] #[]) := hk4.boxed g4 (by omega)
     have g54 : J (K0 + j) w4 := hJ _ _ _ g5 ((((Keep.refl _ wr).drew).drew).trans (hk4.mono fun b o hb h => neT g1 b o hb h))
     have g64 : Keep (fun b o => b ≠ l ∧ b ≠ t ∧ Sb b o) A w4 := (g6.drew.drew).trans (hk4.mono fun b o _ h => h.2.1)
     refine hK _ _ ⟨g74, g24, hT4.c2⟩ ?_
     clear hK K hk4
     refine wpT_c rfl rfl ?_
     intro K hK
     obtain ⟨fn, tmps, assign, body, hy, hR⟩ := hY (K0 + j) _ w4 (by omega) g54 rfl
     rw [Hx0.out, Hq.out] at hy
     push_cast at hy
     go_simp
     refine (RoundIn.inRound l2 hR).mono ?_
     rintro e w5 ⟨hk5, hj5⟩
     have hT5 : Turner w5 t (q % 2 ^ d) d to := hk5.same _ _ hT4 ⟨n1, hSb.1 _ _⟩
     have g75 : Boxed w5 W.heap.size 311 (.func (.yield l) #[] #[]) := hk5.boxed g44 ⟨by omega, hSb2 _ _ (Nat.le_refl _) (.inr ⟨_, _, rfl⟩)⟩
     have gb25 := hk5.boxed gb24 ⟨n2, hSb.2.1 _ _⟩
     have gb35 := hk5.boxed gb34 ⟨n3, hSb.2.2 _ _⟩
     have g25 := gb25.cell
     have g65 : Keep (fun b o => b ≠ l ∧ b ≠ t ∧ Sb b o) A w5 := g64.trans (hk5.mono fun b o _ h => ⟨h.1, h.2.2⟩)
     have c75 := g75.cell
     have c25 := hT5.c2
     have c15 := hT5.c1
     clear hR hy
     rcases hj5 with ⟨rfl, hj5⟩ | ⟨rfl, hj5⟩
     ·refine hK _ _ ⟨c75, g25, c25⟩ ?_
      clear hK K
      repeat (refine wpT_x rfl rfl ?_; intro K hK w' ⟨e1, e2, e3⟩; go_simp; refine hK _ _ ?_; clear hK K e1 e2 e3 w')
      refine wpT_nil ?_
      gi_wp2
      go_roundw
      case rel =>
       refine ⟨j + 1, by omega, ?_, gb25, gb35, g75, hj5, g65⟩
       rw [Hd3.out]
       have e : q % 2 ^ d = n' % 2 ^ d := by rw [← Hq.out, Nat.mod_mod_of_dvd _ (Nat.pow_dvd_pow 2 (Nat.le_add_right d to))]
       rw [← e]; exact hT5
      case measure => simp [RowKit.intOf, k1, c15]; omega
     ·refine hK _ _ ⟨c75, g25, c25⟩ ?_
      clear hK K
      repeat (refine wpT_x rfl rfl ?_; intro K hK w' ⟨e1, e2, e3⟩; go_simp; refine hK _ _ ?_; clear hK K e1 e2 e3 w')
      refine wpT_nil ?_
      gi_wp2
      exact ⟨g65, rfl, K0 + j, by omega, hj5⟩
    ·obtain rfl : j = m := by omega
     have hlt2 : c' - j * to < to := by
      have := Nat.mod_lt c' (show 0 < to by omega)
      have := Nat.div_add_mod c' to
      rw [Hm.out, Nat.mul_comm] at this
      omega
     have he : c' - j * to = c' % to := by
      have := Nat.div_add_mod c' to
      rw [Hm.out, Nat.mul_comm] at this
      omega
     rw [he] at g1 k1 hlt2
     have He := Lib.hid he
     clear he
     gi_wp2
     refine wpIn_region_text (fun A' => A'.cell? ⟨bt, 0, none⟩ = some (.pointer (some ⟨t, 0, none⟩)) ∧ A'.cell? ⟨t, 1, none⟩ = some (.int .i64 ((c' % to : Nat) : Int)) ∧ A'.cell? ⟨t, 2, none⟩ = some (.int .i64 to)) reads (fun _ => trivial) rfl
      (by kernel_rfl) (by kernel_rfl) ⟨g2, k1, k2⟩ ?_
     repeat (refine wpT_x rfl rfl ?_; intro K hK w' ⟨e1, e2, e3⟩; go_simp; refine hK _ _ ?_; clear hK K e1 e2 e3 w')
     refine wpT_nil ?_
     gi_wp2
     exact ⟨g6.drew, by rw [Hfu.out]; exact g1, gb2, gb3, g4, by rw [Hsu.out]; exact hJ _ _ _ g5 (Keep.refl _ wr).drew⟩
 case hdone =>
  rintro D B hD ⟨h1, h2, h3, h4, h5⟩ hF _ hDB
  rw [hb0] at hD
  have hk : Keep Si B (B.putObj D (.deferred none)) := (Keep.refl _ B).putObj _ fun o ho hs _ => by
   rw [hDB] at ho; cases ho
   rcases (hSi _ _ hs).2.1 with h | h
   ·omega
   ·cases h
  have hk2 : Keep (fun b o => b < W.heap.size ∨ o.isCells = true) B (B.putObj D (.deferred none)) := (Keep.refl _ B).putObj _ fun o ho hs _ => by
   rw [hDB] at ho; cases ho
   rcases hs with h | h
   ·omega
   ·cases h
  have zT := lt_of_some hT
  gi_wp2
  refine ⟨by simp, .inl ⟨_, _, rfl, run_takeDeferred hDB, ?_⟩⟩
  refine ⟨_, results_none rfl _ _ _, ⟨_, rfl⟩, .inl ⟨hJ _ _ _ (by rw [← outsAt_all]; exact h5) hk, h1.keep hk2 fun o => .inl zT, hFinI _ _ hF hk2⟩⟩
 case hstop =>
  rintro D i c B hD hi ⟨rfl, k, hk1, h5⟩ _ _ hDB
  rw [hb0] at hD
  have hk : Keep Si B (B.putObj D (.deferred none)) := (Keep.refl _ B).putObj _ fun o ho hs _ => by
   rw [hDB] at ho; cases ho
   rcases (hSi _ _ hs).2.1 with h | h
   ·omega
   ·cases h
  gi_wp2
  refine ⟨by simp, .inl ⟨_, _, rfl, run_takeDeferred hDB, ?_⟩⟩
  exact ⟨_, results_none rfl _ _ _, ⟨_, rfl⟩, .inr ⟨k, hk1, hJx _ _ _ h5 hk, trivial⟩⟩
end Go.Tm
namespace Go.Tm
open Go.WideShapes Go.ChangeShapes
section
variable {H : Type} {enc : TypeId × Value → H} {P : Program}
theorem post_of_kept {f : Func} {s : ChangeSpec} {apart fresh handsOn again : Bool} {W W' : World} {args : Array Value} {v : Value} {ds gs : List (DataW H)} {before pa pv : List MemPlace}
  (hW : DataW.Whole enc P f.params.toList s.vars apart W args.toList ds gs before)
  (hres : ∀ (b : Nat) (sp : Nat → Bool) (hd : Bool), DataW.TrodAll enc P W' b sp hd f.resultTypes.toList (v.resultList f.resultTypes.size) (s.fn H (ds ++ gs)).results [])
  (hargs : ∀ sp : Nat → Bool, (∀ p ∈ before, sp p.block = true) → DataW.TrodAll enc P W' 0 sp true f.params.toList args.toList (s.fn H (ds ++ gs)).args pa)
  (hvars : ∀ sp : Nat → Bool, (∀ p ∈ before, sp p.block = true) → DataW.TrodVars enc P W' sp s.vars (s.fn H (ds ++ gs)).vars pv)
  (hps : before = pa ++ pv) (hk : Same W W')
  (hok : ∀ (j : Nat) (t : TypeId) (r : Value), f.resultTypes[j]? = some t → (v.resultList f.resultTypes.size)[j]? = some r → Value.okWide P W' .any 0 t r) :
  s.post enc P f apart fresh handsOn again W args v W' := by
 have hold : ∀ p ∈ before, (fun b => decide (b < W.heap.size)) p.block = true := fun p hp => by simpa using hW.lt p hp
 have hlt : ∀ p ∈ before, p.block < W.heap.size := hW.lt
 have heap : ∀ i, i < W.heap.size → W'.heap[i]? = W.heap[i]? := fun i hi => by
  have := hk.same i W.heap[i] (Array.getElem?_eq_getElem hi) trivial
  rw [this, Array.getElem?_eq_getElem hi]
 have hkb : W.keptBut W' (· ∈ before) := World.keptBut_mono (fun _ h => absurd h id) (show W.keptBut W' (fun _ => False) from ⟨hk.os, hk.output, fun i hi => by
  rw [heap i hi, Array.getElem?_eq_getElem hi]
  cases W.heap[i] <;> simp⟩)
 refine ⟨ds, gs, before, [], pa, pv, hW, hres _ _ _, hargs _ hold, hvars _ hold, World.keptBut_mono (fun p hp => ⟨hp, ?_⟩) hkb, fun _ => ?_⟩
 ·rw [hps, List.mem_append] at hp
  exact Or.inr hp
 ·obtain ⟨_, _, _, _, _, hz, hn⟩ := hW
  refine ⟨hok, _, _, ([] ++ pa) ++ pv, ⟨[] ++ pa, pv, trodAll_append (hargs _ (fun _ _ => rfl)) (hres _ _ _), hvars _ (fun _ _ => rfl), rfl, ?_, ?_⟩, ?_⟩
  ·intro b off hp
   have hp' : MemPlace.cell b off ∈ before := by rw [hps]; simpa using hp
   have h1 := hz b off hp'
   have h2 := heap b (hlt _ hp')
   unfold World.frozen? at h1 ⊢
   rw [h2]; exact h1
  ·intro ha
   have := hn ha
   rw [hps] at this
   simpa using this
  ·intro p hp _
   rw [hps]
   simpa using hp
end
end Go.Tm
namespace Go.Tm
open Go.RowKit Go.Proofs
abbrev uV (x : Nat) : Value := .int .u32 (x : Int)
def Limb (w : World) (v : Value) (l : List Nat) : Prop :=
 l.length ≤ 1000000 ∧ (∀ x ∈ l, x < LB) ∧ ∃ a cap, v = .slice a l.length cap ∧ l.length ≤ cap ∧ ∀ i, i < l.length → ∃ b off, a = some ⟨b, off, none⟩ ∧ w.cell? ⟨b, off + i, none⟩ = some (uV (nth l i))
theorem Limb.same {w w' : World} {v : Value} {l : List Nat} (h : Limb w v l) (hk : Same w w') : Limb w' v l := by
 obtain ⟨h1, h2, a, cap, rfl, h3, h4⟩ := h
 refine ⟨h1, h2, a, cap, rfl, h3, fun i hi => ?_⟩
 obtain ⟨b, off, e, hc⟩ := h4 i hi
 exact ⟨b, off, e, hk.cell hc fun _ _ => trivial⟩
theorem Limb.is_slice {w : World} {v : Value} {l : List Nat} (h : Limb w v l) : ∃ a cap, v = .slice a l.length cap := by
 obtain ⟨h1, h2, a, cap, rfl, h3, h4⟩ := h
 exact ⟨a, cap, rfl⟩
theorem Limb.nil (w : World) : Limb w (.slice none 0 0) [] := ⟨by simp, by simp, none, 0, rfl, by simp, fun i hi => absurd hi (by simp)⟩
theorem nth_mem {l : List Nat} {i : Nat} (h : i < l.length) : nth l i ∈ l := by
 unfold nth; rw [List.getD_eq_getElem?_getD, List.getElem?_eq_getElem h]; exact List.getElem_mem h
theorem Limb.lt {w : World} {v : Value} {l : List Nat} (h : Limb w v l) (i : Nat) : nth l i < LB := by
 rcases Nat.lt_or_ge i l.length with h1 | h1
 ·exact h.2.1 _ (nth_mem h1)
 ·unfold nth; rw [List.getD_eq_getElem?_getD, List.getElem?_eq_none h1]; decide
theorem nth_ge {l : List Nat} {i : Nat} (h : l.length ≤ i) : nth l i = 0 := by unfold nth; rw [List.getD_eq_getElem?_getD, List.getElem?_eq_none h]; rfl
theorem Limb.of_row {w : World} {b : Nat} {l : List Nat} {t : TypeId} {f : Nat × Nat} {cap : Nat} (h : w.heap[b]? = some (.cells (l.map uV).toArray t f)) (hl : l.length ≤ 1000000) (hb : ∀ x ∈ l, x < LB) (hc : l.length ≤ cap) : Limb w (.slice (some ⟨b, 0, none⟩) l.length cap) l := by
 refine ⟨hl, hb, _, cap, rfl, hc, fun i hi => ⟨b, 0, rfl, ?_⟩⟩
 unfold World.cell?
 rw [h]
 show (l.map uV).toArray[0 + i]? = _
 rw [Nat.zero_add, List.getElem?_toArray, List.getElem?_map, List.getElem?_eq_getElem hi]
 simp [nth, List.getD_eq_getElem?_getD, List.getElem?_eq_getElem hi]
set_option maxRecDepth 100000 in
set_option maxHeartbeats 400000 in
theorem limb_any (l : List Nat) (v : Value) (i : Nat) (w : World) (hv : Limb w v l) (hi : i ≤ 1000000000) :
  Calls Tryz.prog 232 #[v, .int .i64 (i : Int)] w fun e w' => e = .returned (.int .u64 (nth l i)) ∧ w' = w := by
 have hlt : nth l i < 1000000000 := hv.lt i
 have hw : IntKind.u64.wrap (nth l i : Int) = (nth l i : Int) := wrap_u64 (by omega) (by omega)
 obtain ⟨h1, h2, a, cap, rfl, h3, h4⟩ := hv
 by_cases hlen : i < l.length
 ·obtain ⟨b, off, rfl, hc⟩ := h4 i hlen
  go_enter Tryz.func232, Tryz.ntmps232
  go_wp2
  go_ret
  exact ⟨by simp, rfl⟩
 ·have hz := nth_ge (Nat.le_of_not_lt hlen)
  go_enter Tryz.func232, Tryz.ntmps232
  go_wp2
  go_ret
  exact ⟨by rw [hz]; rfl, rfl⟩
theorem trimL_snoc (l : List Nat) (x : Nat) : trimL (l ++ [x]) = if x = 0 then trimL l else l ++ [x] := by
 unfold trimL
 rw [List.reverse_append]
 simp only [List.reverse_cons, List.reverse_nil, List.nil_append, List.singleton_append, List.dropWhile_cons]
 by_cases h : x = 0 <;> simp [h]
theorem take_snoc_nth (l : List Nat) (k : Nat) (h : k < l.length) : l.take (k + 1) = l.take k ++ [nth l k] := by
 rw [List.take_add_one, List.getElem?_eq_getElem h]
 simp [nth, List.getD_eq_getElem?_getD, List.getElem?_eq_getElem h]
set_option maxRecDepth 100000 in
set_option maxHeartbeats 400000 in
theorem trim_any (l : List Nat) (v : Value) (w : World) (hv : Limb w v l) :
  Calls Tryz.prog 233 #[v] w fun e w' => (∃ v', e = .returned v' ∧ Limb w v' (trimL l)) ∧ w' = w := by
 obtain ⟨h1, h2, a, cap, rfl, h3, h4⟩ := hv
 go_enter Tryz.func233, Tryz.ntmps233
 go_wp2
 go_loop [3] (fun n => ∃ k : Nat, k ≤ l.length ∧ n = .int .i64 k ∧ trimL l = trimL (l.take k)) (fun n => (RowKit.intOf n).toNat)
 case atStart => exact ⟨l.length, Nat.le_refl _, rfl, by rw [List.take_length]⟩
 case round =>
  obtain ⟨k, hk, rfl, hs⟩ := hrel
  have HS := Lib.hid hs
  clear hs
  have fin : trimL (l.take k) = l.take k → Limb w (.slice a k k) (trimL l) := by
   intro hf
   rw [HS.out, hf]
   have hlen : (l.take k).length = k := by rw [List.length_take]; omega
   refine ⟨by omega, fun x hx => h2 x (List.mem_of_mem_take hx), a, k, by rw [hlen], by omega, fun i hi => ?_⟩
   obtain ⟨b, off, e, hc⟩ := h4 i (by omega)
   refine ⟨b, off, e, ?_⟩
   rw [hc]
   have : nth (l.take k) i = nth l i := by unfold nth; rw [List.getD_eq_getElem?_getD, List.getElem?_take_of_lt (by omega), List.getD_eq_getElem?_getD]
   rw [this]
  obtain ⟨F, hF⟩ : ∃ F, F = fin := ⟨_, rfl⟩
  clear hF fin
  rcases Nat.eq_zero_or_pos k with rfl | hpos
  ·have hL := F (by simp [trimL])
   go_wp2
   go_ret
   exact ⟨⟨_, rfl, hL⟩, rfl⟩
  ·obtain ⟨m, rfl⟩ : ∃ m, k = m + 1 := ⟨k - 1, by omega⟩
   obtain ⟨b, off, rfl, hc⟩ := h4 m (by omega)
   have ht := take_snoc_nth l m (by omega)
   have hw : wrap64 (((m + 1 : Nat) : Int) - 1) = (m : Int) := by rw [IntWalk.wrap64_in _ (by omega)]; omega
   obtain ⟨x, hx⟩ : ∃ x, nth l m = x := ⟨_, rfl⟩
   rw [hx] at hc ht
   by_cases h0 : x = 0
   ·subst h0
    have hs' : trimL l = trimL (l.take m) := by rw [HS.out, ht, trimL_snoc, if_pos rfl]
    have HS2 := Lib.hid hs'
    clear hs' ht hx F
    go_wp2
    go_round
    case rel => exact ⟨m, by omega, by simp, HS2.out⟩
    case measure => simp [RowKit.intOf]
   ·have hL := F (by rw [ht, trimL_snoc, if_neg h0])
    have h0' : ((x : Int) == 0) = false := by simpa using h0
    clear ht hx F
    go_wp2
    go_ret
    exact ⟨⟨_, rfl, hL⟩, rfl⟩
end Go.Tm
namespace Go.Tm
open Go.RowKit Go.Proofs
theorem same_appended {w W w1 : World} {B : Nat} {v : Value} {k : Nat} {xs : List Value} {t : TypeId} (hs : Same w W) (hB : B = w.heap.size) (hrow : W.ownsRow B t 1 v k xs) (hgrow : W.grownBy w1 v.ownBlock) : Same w w1 := by
 exact hs.grown hgrow fun r hr o' _ _ hlt => by
  rcases hrow.2 with ⟨rfl, _⟩ | ⟨g, cap, cur, rfl, hb, hgg, _⟩
  ·simp [Value.ownBlock] at hr
  ·simp [Value.ownBlock] at hr
   omega
end Go.Tm
namespace Go.Tm
open Go.RowKit Go.Proofs
theorem u32_info : (Tryz.prog.info? 176).map (fun i => (i.zero, i.size, i.bytes)) = some (some (.int .u32 0), 1, 4) := by kernel_rfl
theorem Limb.of_own {w : World} {B : Nat} {v : Value} {l : List Nat} (h : w.ownsRow B 176 1 v l.length (l.map uV)) (hl : l.length ≤ 1000000) (hb : ∀ x ∈ l, x < LB) : Limb w v l := by
 rcases h.2 with ⟨rfl, h0⟩ | ⟨g, cap, cur, rfl, _, hg, h1, _, h3, h4⟩
 ·rw [List.length_eq_zero_iff.1 h0]; exact Limb.nil w
 ·refine ⟨hl, hb, _, cap, rfl, h1, fun i hi => ⟨g, 0, rfl, ?_⟩⟩
  rw [Lib.cell_of_heap hg, Nat.zero_add]
  have h5 : cur[i]? = (l.map uV)[i]? := by
   rw [← h4, List.getElem?_take_of_lt (by omega), Array.getElem?_toList]
  rw [h5, List.getElem?_map, List.getElem?_eq_getElem hi]
  simp [nth, List.getD_eq_getElem?_getD, List.getElem?_eq_getElem hi]
theorem smallL_step {n : Nat} (h0 : 0 < n) (hn : n < 18446744073709551616) : smallL n = n % LB :: smallL (n / LB) := by
 unfold smallL
 have e : LB = 1000000000 := rfl
 by_cases h1 : n < 1000000000
 ·have : n / 1000000000 = 0 := Nat.div_eq_of_lt h1
  have h2 : n % 1000000000 = n := Nat.mod_eq_of_lt h1
  rw [e, if_neg (by omega), if_pos h1, this, if_pos rfl, h2]
 ·have h2 : 0 < n / 1000000000 := Nat.div_pos (by omega) (by decide)
  by_cases h3 : n < 1000000000 * 1000000000
  ·have h4 : n / 1000000000 < 1000000000 := by omega
   rw [e, if_neg (by omega), if_neg h1, if_pos h3, if_neg (by omega), if_pos h4]
  ·have h4 : ¬ n / 1000000000 < 1000000000 := by omega
   have h5 : n / 1000000000 < 1000000000 * 1000000000 := by omega
   rw [e, if_neg (by omega), if_neg h1, if_neg h3, if_neg (by omega), if_neg h4, if_pos h5]
theorem smallL_lt (n : Nat) (hn : n < 18446744073709551616) : ∀ x ∈ smallL n, x < LB := by
 unfold smallL
 have e : LB = 1000000000 := rfl
 have m1 := Nat.mod_lt n (show 0 < 1000000000 by decide)
 have m2 := Nat.mod_lt (n / 1000000000) (show 0 < 1000000000 by decide)
 rw [e]
 intro x hx
 split at hx
 ·simp at hx
 ·split at hx
  ·simp at hx; omega
  ·split at hx
   ·simp at hx; rcases hx with rfl | rfl <;> omega
   ·simp at hx; rcases hx with rfl | rfl | rfl <;> omega
theorem smallL_len (n : Nat) : (smallL n).length ≤ 3 := by
 unfold smallL
 split
 ·simp
 ·split
  ·simp
  ·split <;> simp
theorem wrap_u32 {x : Int} (h0 : 0 ≤ x) (h1 : x < 4294967296) : IntKind.u32.wrap x = x := by
 simp only [IntKind.wrap, IntKind.bits, IntKind.signed]
 simp
 omega
set_option maxRecDepth 100000 in
set_option maxHeartbeats 1000000 in
theorem small_any (n : Nat) (w : World) (hn : n < 18446744073709551616) :
  Calls Tryz.prog 199 #[.int .u64 (n : Int)] w fun e w' => (∃ v', e = .returned v' ∧ Limb w' v' (smallL n)) ∧ Same w w' := by
 obtain ⟨i0, hi0, hz0, hz1, hz2⟩ := info_parts u32_info
 obtain ⟨t, ht⟩ : ∃ t, smallL n = t := ⟨_, rfl⟩
 have hlen := smallL_len n
 have hall := smallL_lt n hn
 rw [ht] at hlen hall ⊢
 go_enter Tryz.func199, Tryz.ntmps199
 go_wp2
 go_loopw [0, 3] (fun m v wr => ∃ (k : Nat) (l : List Nat), m = .int .u64 k ∧ k ≤ n ∧ t = l ++ smallL k ∧ wr.ownsRow w.heap.size 176 1 v l.length (l.map uV) ∧ Same w wr) (fun m _ _ => (RowKit.intOf m).toNat)
 case atStart => exact ⟨n, [], rfl, Nat.le_refl _, by simpa using ht.symm, World.ownsRow_nil _ _ _ _, Keep.refl _ _⟩
 case round =>
  obtain ⟨k, l, rfl, hk, hs, hown, hsm⟩ := hrel
  obtain ⟨a, cp, rfl⟩ := row_slice hown
  rcases Nat.eq_zero_or_pos k with rfl | hpos
  ·have hz : smallL 0 = [] := rfl
   rw [hz, List.append_nil] at hs
   subst hs
   have hL := Limb.of_own hown (by omega) hall
   go_wp2
   go_ret
   exact ⟨⟨_, rfl, hL⟩, hsm⟩
  ·rw [smallL_step hpos (by omega)] at hs
   have HS := Lib.hid hs
   have hll : l.length ≤ 3 := by rw [hs] at hlen; simp at hlen; omega
   clear hs
   have c1 : IntKind.u32.wrap ((k : Int) % 1000000000) = ((k % LB : Nat) : Int) := by rw [wrap_u32 (by omega) (by omega)]; show _ = ((k % 1000000000 : Nat) : Int); omega
   obtain ⟨y, hy⟩ : ∃ y, k % LB = y := ⟨_, rfl⟩
   rw [hy] at c1
   have c2 : (k : Int) / 1000000000 = ((k / LB : Nat) : Int) := by show _ = ((k / 1000000000 : Nat) : Int); omega
   obtain ⟨q, hq⟩ : ∃ q, k / LB = q := ⟨_, rfl⟩
   rw [hq] at c2
   have hqk : q < k := by rw [← hq]; exact Nat.div_lt_self hpos (by decide)
   have HY := Lib.hid hy
   have HQ := Lib.hid hq
   clear hy hq
   go_wp2_with (at_builtin; refine wpList_append_own _ rfl _ _ 233 rfl w.heap.size 176 i0 (.int .u32 0) 1 4 Tryz.underlying233 hi0 hz0 hz1 hz2 rfl (by decide) _ _ _ rfl (hown.alloc _) ⟨wr.heap.size, 0, none⟩ 1 1 [uV y] rfl rfl ?c1 ?c2 ?c3 ?c4 ?c5 ?_)
   case c1 => intro j u hu; exact cells_new wr #[uV y] _ j u hu
   case c2 => first | rfl | (intro u hu; simp at hu; subst hu; rfl)
   case c3 => unfold maxLen; omega
   case c4 => omega
   case c5 => have := hsm.size; simp; omega
   intro v' w1 hown' hgrow _
   have hsm1 : Same w w1 := same_appended (hsm.alloc _) rfl (World.ownsRow.alloc hown _) hgrow
   obtain ⟨a1, cp1, rfl⟩ := row_slice hown'
   clear hgrow hown
   go_wp2
   go_roundw
   case rel =>
    refine ⟨q, l ++ [y], by simp, by omega, by rw [HS.out, HY.out, HQ.out]; simp, ?_, hsm1⟩
    simpa using hown'
   case measure => simp [RowKit.intOf]; omega
end Go.Tm
namespace Go.Tm
open Go.RowKit Go.Proofs
theorem strCells_bytes (s : ByteArray) : Lib.strCells s = byteVals (bytesN s) := by
 simp [Lib.strCells, byteVals, bytesN]
theorem bld_keptS {B b : Nat} {v v' : Value} {w w1 w2 : World} {n : Nat} {xs : List Value} (h1 : Keep (fun k _ => k ≠ b) w w1) (hg : w1.grownBy w2 v.ownBlock) (hown : w1.ownsRow B 5 1 v n xs) :
  Keep (BldS B b) w (w2.setCell ⟨b, 1, none⟩ v') := by
 have h2 : Keep (BldS B b) w w1 := h1.mono fun _ _ _ h => h.1
 have h3 : Keep (BldS B b) w w2 := h2.grown hg fun r hr o' ho hs _ => by
  rcases hown.2 with ⟨rfl, _⟩ | ⟨g, cap, cur, rfl, hb, hgg, _⟩
  ·simp [Value.ownBlock] at hr
  ·simp [Value.ownBlock] at hr
   subst hr
   rw [hgg] at ho; cases ho
   rcases hs.2 with h | h
   ·omega
   ·exact h _ _ rfl
 exact h3.setCell _ fun o _ hs _ => hs.1 rfl
set_option maxRecDepth 100000 in
set_option maxHeartbeats 800000 in
theorem writeString_any (B b : Nat) (s : ByteArray) (xs : List Nat) (w : World) (h : Bld B b xs w) (hlen : xs.length + s.size ≤ 140737488355328) (hBw : B ≤ w.heap.size) :
  Calls Tryz.prog 160 #[.pointer (some ⟨b, 0, none⟩), .string s] w fun e w' => (∃ v, e = .returned v) ∧ Bld B b (xs ++ bytesN s) w' ∧ Keep (BldS B b) w w' := by
 obtain ⟨i0, hi, hz0, hz1, hz2⟩ := info_parts byte_info
 have hbl := byteVals_length xs
 go_enter Tryz.func160, Tryz.ntmps160
 go_wp2_with (go_at_call 208; refine (copyCheck_any B b xs _ h).mono ?_)
 rintro e w1 ⟨rfl, h1, hk1⟩
 obtain ⟨hB, v, hbk, hown, hne⟩ := h1
 have c0 : w1.cell? ⟨b, 0, none⟩ = some (.pointer (some ⟨b, 0, none⟩)) := by rw [Lib.cell_of_heap hbk]; rfl
 have c1 : w1.cell? ⟨b, 1, none⟩ = some v := by rw [Lib.cell_of_heap hbk]; rfl
 go_wp2_with (at_builtin; refine Lib.wpList_append_own_string _ rfl _ _ 138 9 rfl B 5 i0 Tryz.underlying138 Tryz.underlying9 hi hz0 hz1 hz2 _ _ _ rfl hown s rfl ?c3 ?c4 ?c5 ?_)
 case c3 => unfold maxLen; omega
 case c4 => omega
 case c5 => have := hk1.size; omega
 intro v' w2 hown' hgrow _
 have hlt : b < w1.heap.size := lt_of_some hbk
 have hb2 : w2.heap[b]? = some (.cells #[.pointer (some ⟨b, 0, none⟩), v] 195 (0, 0)) := by
  rw [hgrow.block b hlt (fun e => hne e.symm)]
  exact hbk
 have d0 : w2.cell? ⟨b, 0, none⟩ = some (.pointer (some ⟨b, 0, none⟩)) := by rw [Lib.cell_of_heap hb2]; rfl
 have d1 : w2.cell? ⟨b, 1, none⟩ = some v := by rw [Lib.cell_of_heap hb2]; rfl
 have f1 : w2.frozen? ⟨b, 1, none⟩ = false := Lib.frozen_of_heap hb2 1
 obtain ⟨ao, n', cap, rfl⟩ : ∃ ao n' cap, v' = .slice ao n' cap := by
  rcases hown'.2 with ⟨hv, _⟩ | ⟨g, cap, cur, hv, _⟩
  ·exact ⟨_, _, _, hv⟩
  ·exact ⟨_, _, _, hv⟩
 go_wp2
 go_ret2
 refine ⟨⟨_, rfl⟩, .inr ?_, ?_⟩
 ·rw [byteVals_append, ← strCells_bytes]
  exact Lib.BuilderAt.put (T := 195) (e := 5) hB hb2 (bs' := byteVals xs ++ Lib.strCells s) (by simpa [Lib.strCells_length, hbl] using hown') (by decide)
 ·exact bld_keptS hk1 hgrow hown
end Go.Tm
namespace Go.Tm
open Go.RowKit
section
variable {F : Fence} {n : Nat} {P : Program} {ops : Array Oper} {Q : Exit → Act → World → Prop} {S : World → Prop} {X : Oper → Bool}
def lastT (F : Fence) (n : Nat) (P : Program) (ops : Array Oper) (Q : Exit → Act → World → Prop) (o : Oper) (a : Act) (w : World) : Prop :=
 if Region.wanted o (yielded ops a.tmps) = true then o.wpIn F n P a w (fun a' w' => Q .normal a' w') (onlyNormal Q)
 else Q .normal (a.put o.dst undef) w
def tailQ (F : Fence) (n : Nat) (P : Program) (ops : Array Oper) (Q : Exit → Act → World → Prop) (o : Oper) : Exit → Act → World → Prop
 | .normal, a, w => lastT F n P ops Q o a w
 | _, _, _ => False
theorem quiet_tail {o : Oper} : Quiet (tailQ F n P ops Q o) := ⟨fun _ _ _ h => h, fun _ _ h => h⟩
theorem wpAnyIn_tail (hF : ∀ f, F.fn f) (hd : F.depth = none) (hchk : textOk ops X = true) (L : Nat) (oL : Oper) (hL : ops[L]? = some oL) (hLs : ops.size = L + 1) (hwt : ∀ i, i < L → waits ops 10 i L = true) :
  ∀ (m : Nat) (T : List Nat) (listed : Array Bool) (a : Act) (w : World), T.length = m → T.Pairwise (· < ·) →
  (∀ i, i ∈ T ↔ i < L ∧ listed.getD i true = false) → listed.getD L true = false → Closed ops listed → listed.size = ops.size → S w → wpT F n P ops (tailQ F n P ops Q oL) S X (T.filterMap (ops[·]?)) a w →
  wpAnyIn F n P .any ops (onlyNormal Q) (m + 1) listed a w := by
 intro m
 have chk : ∀ j o, ops[j]? = some o → plainOp o = true ∧ (∀ e ∈ o.after, Region.binds .any e = true → e.on < j) ∧ ∀ i, i < j → pairOk ops X i j = true := by
  intro j o ho
  have hlt : j < ops.size := (Array.getElem?_eq_some_iff.1 ho).1
  unfold textOk at hchk
  rw [List.all_eq_true] at hchk
  have := hchk j (List.mem_range.2 hlt)
  simp only [ho, Bool.and_eq_true, List.all_eq_true, List.mem_range, Array.all_eq_true_iff_forall_mem, Bool.or_eq_true, Bool.not_eq_true', decide_eq_true_eq] at this
  exact ⟨this.1.1, fun e he hb => (this.1.2 e he).resolve_left (by simp [hb]), this.2⟩
 induction m with
 | zero =>
  intro T listed a w hT hp hmem hLu hc hs hS h
  obtain rfl : T = [] := List.eq_nil_of_length_eq_zero hT
  have hLl : L < ops.size := by omega
  have hdep : ∀ e ∈ oL.after, Region.binds .any e = true → listed.getD e.on false = true := fun e he hb => by
   have hlt := (chk L oL hL).2.1 e he hb
   cases hl : listed.getD e.on false with
   | true => rfl
   | false =>
    have hin := (hmem e.on).2 ⟨hlt, by rw [getD_true_false (by omega)]; exact hl⟩
    cases hin
  refine ⟨fun hr => ?_, fun i hi => ?_⟩
  ·exfalso
   have : L ∈ Region.ready .any ops listed := mem_ready.2 ⟨hLu, _, hL, hdep⟩
   rw [hr] at this; cases this
  ·obtain ⟨h0, o, ho, hall⟩ := mem_ready.1 hi
   have hil : i < ops.size := (Array.getElem?_eq_some_iff.1 ho).1
   have hiL : i = L := by
    rcases Nat.lt_or_ge i L with h1 | h1
    ·have := (hmem i).2 ⟨h1, h0⟩; cases this
    ·omega
   subst hiL
   rw [hL] at ho; cases ho
   have fin : ∀ a w, Q .normal a w → wpAnyIn F n P .any ops (onlyNormal Q) 0 (listed.setIfInBounds i true) a w := fun a w hq => by
    refine ⟨?_, hq⟩
    rw [List.eq_nil_iff_forall_not_mem]
    intro j hj
    obtain ⟨h2, o, ho, _⟩ := mem_ready.1 hj
    have hjl : j < ops.size := (Array.getElem?_eq_some_iff.1 ho).1
    by_cases hji : j = i
    ·subst hji; simp [Array.getD, hs, hil] at h2
    ·rw [getD_set_ne true (Ne.symm hji)] at h2
     have := (hmem j).2 ⟨by omega, h2⟩; cases this
   have h' : lastT F n P ops Q oL a w := h
   unfold lastT at h'
   unfold wpOpIn
   simp only [hL]
   by_cases hw : Region.wanted oL (yielded ops a.tmps) = true
   ·rw [if_pos hw] at h' ⊢
    exact Oper.wpIn_mono (fun a w h => fin _ _ h) h'
   ·rw [if_neg hw] at h' ⊢
    exact ⟨fun f _ => hF f, fin _ _ h'⟩
 | succ m ih =>
  intro T listed a w hT hp hmem hLu hc hs hS h
  have inT : ∀ i ∈ Region.ready .any ops listed, i ∈ T := fun i hi => by
   obtain ⟨h0, o, ho, hall⟩ := mem_ready.1 hi
   have hil : i < ops.size := (Array.getElem?_eq_some_iff.1 ho).1
   rcases Nat.lt_or_ge i L with h1 | h1
   ·exact (hmem i).2 ⟨h1, h0⟩
   ·exfalso
    obtain rfl : i = L := by omega
    cases T with
    | nil => simp at hT
    | cons t T =>
     obtain ⟨htl, ht0⟩ := (hmem t).1 (List.mem_cons_self ..)
     have := waits_listed hc 10 t i (hwt t htl) fun o' ho' e he hb => by rw [ho] at ho'; cases ho'; exact hall e he hb
     rw [getD_true_false (by omega), this] at ht0
     cases ht0
  refine ⟨fun hr => ?_, fun i hi => ?_⟩
  ·exfalso
   cases T with
   | nil => simp at hT
   | cons t T =>
    obtain ⟨htl, ht0⟩ := (hmem t).1 (List.mem_cons_self ..)
    have htl' : t < ops.size := by omega
    have ho : ops[t]? = some ops[t] := Array.getElem?_eq_getElem htl'
    have : t ∈ Region.ready .any ops listed := mem_ready.2 ⟨ht0, _, ho, fun e he hb => by
     have hlt := (chk t _ ho).2.1 e he hb
     cases hl : listed.getD e.on false with
     | true => rfl
     | false =>
      have hin := (hmem e.on).2 ⟨by omega, by rw [getD_true_false (by omega)]; exact hl⟩
      rcases List.mem_cons.1 hin with h1 | h1
      ·omega
      ·have := (List.pairwise_cons.1 hp).1 _ h1; omega⟩
    rw [hr] at this; cases this
  ·have hiT := inT i hi
   obtain ⟨h0, o, ho, hall⟩ := mem_ready.1 hi
   have hilL := ((hmem i).1 hiT).1
   obtain ⟨pre, post, rfl⟩ := List.append_of_mem hiT
   obtain ⟨hp1, hp2, hp3⟩ := List.pairwise_append.1 hp
   have hil : i < ops.size := (Array.getElem?_eq_some_iff.1 ho).1
   rw [List.filterMap_append, List.filterMap_cons, ho] at h
   have hfirst := wpT_first (post := post.filterMap (ops[·]?)) hF hd quiet_tail (chk i o ho).1 (pre.filterMap (ops[·]?)) a w ?_ hS h
   ·rw [← List.filterMap_append] at hfirst
    have hnd : ∀ j, j ∈ pre ++ post ↔ j < L ∧ (listed.setIfInBounds i true).getD j true = false := by
     intro j
     by_cases hji : j = i
     ·subst hji
      constructor
      ·intro hj
       rcases List.mem_append.1 hj with h1 | h1
       ·have := hp3 j h1 j (List.mem_cons_self ..); omega
       ·have := (List.pairwise_cons.1 hp2).1 j h1; omega
      ·rintro ⟨_, h1⟩
       simp [Array.getD, hs, hil] at h1
     ·rw [getD_set_ne true (Ne.symm hji), ← hmem j]
      simp only [List.mem_append, List.mem_cons]
      constructor
      ·rintro (h1 | h1) <;> simp [h1]
      ·rintro (h1 | h1 | h1)
       ·exact .inl h1
       ·exact absurd h1 hji
       ·exact .inr h1
    have hLu' : (listed.setIfInBounds i true).getD L true = false := by
     rw [getD_set_ne true (by omega)]; exact hLu
    have hc' : Closed ops (listed.setIfInBounds i true) := by
     intro m' o' ho' hm' e he hb
     refine getD_set_true ?_
     by_cases hmi : m' = i
     ·subst hmi; rw [ho] at ho'; cases ho'; exact hall e he hb
     ·rw [getD_set_ne false (Ne.symm hmi)] at hm'
      exact hc m' o' ho' hm' e he hb
    have next : ∀ a w, S w → wpT F n P ops (tailQ F n P ops Q oL) S X ((pre ++ post).filterMap (ops[·]?)) a w → wpAnyIn F n P .any ops (onlyNormal Q) (m + 1) (listed.setIfInBounds i true) a w := fun a w hS h =>
     ih (pre ++ post) _ a w (by simp at hT ⊢; omega) (List.pairwise_append.2 ⟨hp1, (List.pairwise_cons.1 hp2).2, fun x hx y hy => hp3 x hx y (List.mem_cons_of_mem _ hy)⟩) hnd hLu' hc' (by simp [hs]) hS h
    unfold wpOpIn
    simp only [ho]
    unfold stepT at hfirst
    by_cases hw : Region.wanted o (yielded ops a.tmps) = true
    ·rw [if_pos hw] at hfirst ⊢
     by_cases hx : X o = true
     ·rw [if_pos hx] at hfirst
      obtain ⟨v, hv, _, hk⟩ := hfirst w hS
      refine ⟨fun f _ => hF f, ?_⟩
      rw [semAt_plain (chk i o ho).1, hv]
      exact next _ _ hS hk
     ·rw [if_neg hx] at hfirst
      have h2 := (wpIn_iff (chk i o ho).1 hF hd quiet_tail).1 hfirst
      have h3 : o.wpIn F n P a w (fun a' w' => S w' ∧ wpT F n P ops (tailQ F n P ops Q oL) S X (List.filterMap (fun x => ops[x]?) (pre ++ post)) a' w') (onlyNormal Q) := (wpIn_iff (chk i o ho).1 hF hd quiet_normal).2 h2
      exact Oper.wpIn_mono (fun a w h => next _ _ h.1 h.2) h3
    ·rw [if_neg hw] at hfirst ⊢
     exact ⟨fun f _ => hF f, next _ _ hS hfirst⟩
   ·intro p hpm
    obtain ⟨j, hj, hpj⟩ := List.mem_filterMap.1 hpm
    have hji : j < i := hp3 j hj i (List.mem_cons_self ..)
    have hjT := (hmem j).1 (List.mem_append_left _ hj)
    refine ⟨(chk j p hpj).1, ?_⟩
    have hok := (chk i o ho).2.2 j hji
    unfold pairOk at hok
    simp only [hpj, ho, Bool.or_eq_true, Bool.and_eq_true] at hok
    rcases hok with h1 | h1
    ·exact h1
    ·have := waits_listed hc 10 j i h1 fun o' ho' e he hb => by rw [ho] at ho'; cases ho'; exact hall e he hb
     rw [getD_true_false (by omega), this] at hjT
     cases hjT.2
theorem wpIn_region_tail {id : Nat} {l : List Oper} {oL : Oper} {a : Act} {w : World} (S : World → Prop) (X : Oper → Bool) (hF : ∀ f, F.fn f) (hd : F.depth = none) (hm : P.follows .mixedOrders = true) (hchk : textOk (l ++ [oL]).toArray X = true)
  (hwt : ((List.range l.length).all fun i => waits (l ++ [oL]).toArray 10 i l.length) = true) (hS : S w.drew)
  (h : Shut (wpT F n P (l ++ [oL]).toArray (tailQ F n P (l ++ [oL]).toArray Q oL) S X l a w.drew)) : (Code.region id (l ++ [oL]).toArray true).wpIn F n P Q a w := by
 refine wpIn_mono (Q := onlyNormal Q) (wpIn_region_any hm ?_) fun e a w h => by cases e <;> first | exact h | exact h.elim
 have hsz : (l ++ [oL]).toArray.size = l.length + 1 := by simp
 rw [hsz]
 refine wpAnyIn_tail hF hd hchk l.length oL (by simp) hsz (fun i hi => (List.all_eq_true.1 hwt) i (List.mem_range.2 hi)) _ (List.range l.length) _ a _ (by simp) List.pairwise_lt_range ?_ ?_ ?_ (by simp) hS ?_
 ·intro i
  simp only [List.mem_range]
  constructor
  ·intro h; refine ⟨h, ?_⟩; simp [Array.getD]; omega
  ·exact fun h => h.1
 ·simp [Array.getD]
 ·intro m o _ hm
  exfalso
  simp [Array.getD] at hm
 ·have : (List.range l.length).filterMap ((l ++ [oL]).toArray[·]?) = l := by
   have h1 : (List.range l.length).filterMap ((l ++ [oL]).toArray[·]?) = (List.range l.length).filterMap (l[·]?) := by
    have gen : ∀ r : List Nat, (∀ i ∈ r, i < l.length) → r.filterMap ((l ++ [oL]).toArray[·]?) = r.filterMap (l[·]?) := by
     intro r
     induction r with
     | nil => intro _; rfl
     | cons x r ih =>
      intro hr
      rw [List.filterMap_cons, List.filterMap_cons, ih fun i hi => hr i (List.mem_cons_of_mem _ hi)]
      have : (l ++ [oL]).toArray[x]? = l[x]? := by rw [List.getElem?_toArray, List.getElem?_append_left (hr x List.mem_cons_self)]
      rw [this]
    exact gen _ fun i hi => List.mem_range.1 hi
   rw [h1]
   exact filterMap_range l
  rw [this]
  exact h.out
def initL : List Oper → List Oper
 | [] => []
 | [_] => []
 | x :: y :: l => x :: initL (y :: l)
def lastL : List Oper → Option Oper
 | [] => none
 | [x] => some x
 | _ :: y :: l => lastL (y :: l)
theorem init_last : ∀ (l : List Oper) {o : Oper}, lastL l = some o → l = initL l ++ [o]
 | [], _, h => by cases h
 | [x], _, h => by cases h; rfl
 | x :: y :: l, o, h => by
  have := init_last (y :: l) (o := o) h
  rw [initL, List.cons_append, ← this]
theorem wpIn_region_tailA {id : Nat} {oL : Oper} {a : Act} {w : World} (S : World → Prop) (X : Oper → Bool) (hF : ∀ f, F.fn f) (hd : F.depth = none) (hm : P.follows .mixedOrders = true) (ho : lastL ops.toList = some oL) (hchk : textOk ops X = true)
  (hwt : ((List.range (ops.size - 1)).all fun i => waits ops 10 i (ops.size - 1)) = true) (hS : S w.drew)
  (h : Shut (wpT F n P ops (tailQ F n P ops Q oL) S X (initL ops.toList) a w.drew)) : (Code.region id ops true).wpIn F n P Q a w := by
 have e := init_last _ ho
 have e2 : (initL ops.toList ++ [oL]).toArray = ops := by rw [← e]
 have hl : (initL ops.toList).length = ops.size - 1 := by
  have := congrArg List.length e
  rw [List.length_append] at this
  simp at this
  omega
 have := wpIn_region_tail (id := id) (l := initL ops.toList) (oL := oL) (a := a) (w := w) (F := F) (n := n) (P := P) (Q := Q) S X hF hd hm
 rw [e2, hl] at this
 exact this hchk hwt hS h
theorem tail_last {o : Oper} {a : Act} {w : World} (hg : o.guard = none) (h : o.wpIn F n P a w (fun a' w' => Q .normal a' w') (onlyNormal Q)) : lastT F n P ops Q o a w := by
 unfold lastT
 rw [if_pos (by unfold Region.wanted; rw [hg])]
 exact h
theorem shT_tail {a : Act} {w : World} {o : Oper} (h : lastT F n P ops Q o a w) : Shut (wpT F n P ops (tailQ F n P ops Q o) S X [] a w) := ⟨h⟩
end
end Go.Tm
set_option linter.unusedSectionVars false
namespace Go.Sort
variable {α : Type} [Inhabited α] {lt : α → α → Bool}
theorem SWO.le_trans (hS : SWO lt) {x y z : α} (h1 : lt y x = false) (h2 : lt z y = false) : lt z x = false := hS.ntrans _ _ _ h2 h1
end Go.Sort
namespace Go.Tm
open Go.RowKit
theorem wpListIn_store_row {F : Fence} {n : Nat} {P : Program} {ops : Array Oper} {rest : List Oper} {o : Oper} {a : Act} {w : World} {Q : Exit → Act → World → Prop} (hgd : o.guard = none) (ty : TypeId) (x y : Operand) (ho : o.op = .store ty x y)
  (g : Nat) (cells : Array Value) (hx : a.eval x = .pointer (some ⟨g, 0, none⟩)) (hy : a.eval y = .agg cells)
  (t : TypeId) (old : Array Value) (hg : w.heap[g]? = some (.cells old t (0, 0))) (hi : (P.info? ty).map (·.size) = some cells.size)
  (hold : old.size = cells.size) (h1 : cells.all (·.oneCell') = true)
  (h : wpListIn F n P ops Q rest (a.put o.dst undef) (w.setRow g cells)) : wpListIn F n P ops Q (o :: rest) a w := by
 refine wpListIn_plain hgd fun K hK => ?_
 unfold Oper.wpIn
 refine ⟨?_, ?_⟩
 ·simp [Oper.about, ho]
 ·rw [Oper.semAt_plain F _ _ (by rw [ho]; intro c hc; cases hc)]
  unfold execOp
  simp only [ho, hx, hy, Instr.storeAt, Instr.sureAddr, Sem.run_bind, Sem.run_pure, Result.andThen_ok, run_storeVar_row w g t ty old cells hg hi hold h1]
  exact hK _ _ h
theorem wpListIn_load_mid {F : Fence} {n : Nat} {P : Program} {ops : Array Oper} {rest : List Oper} {op : Oper} {a : Act} {w : World} {Q : Exit → Act → World → Prop} (hgd : op.guard = none) (ty : TypeId) (x : Operand) (ho : op.op = .load ty x)
  (b o : Nat) (hx : a.eval x = .pointer (some ⟨b, o, none⟩)) (cs : List Value) (d : TypeDesc) (hc : w.rangeAt b o cs)
  (hu : P.underlying ty = some d) (hd : d.isRow = true) (hi : (P.info? ty).map (·.size) = some cs.length)
  (h : wpListIn F n P ops Q rest (a.put op.dst (.agg cs.toArray)) w) : wpListIn F n P ops Q (op :: rest) a w := by
 refine wpListIn_plain hgd fun K hK => ?_
 unfold Oper.wpIn
 refine ⟨?_, ?_⟩
 ·simp [Oper.about, ho]
 ·rw [Oper.semAt_plain F _ _ (by rw [ho]; intro c hc; cases hc)]
  unfold execOp
  simp only [ho, hx, Instr.loadAt, Instr.sureAddr, Sem.run_bind, Sem.run_pure, Result.andThen_ok, run_loadVar_mid w b o ty cs d hc hu hd hi]
  exact hK _ _ h
end Go.Tm
namespace Go.Tm
open Go.RowKit
section
variable {F : Fence} {n : Nat} {P : Program} {ops : Array Oper} {Q : Exit → Act → World → Prop} {S : World → Prop} {X : Oper → Bool}
def waitsOn (L : Nat) (o : Oper) : Bool := o.after.toList.any fun e => Region.binds .any e && e.on == L
def wpTA (F : Fence) (n : Nat) (P : Program) (ops : Array Oper) (Q : Exit → Act → World → Prop) (S : World → Prop) (X : Oper → Bool) (al : Oper) (L : Nat) : List Oper → Act → World → Prop
 | [], a, w => stepT F n P ops Q S X al (wpT F n P ops Q S X []) a w
 | p :: rest, a, w =>
  (X p = false ∨ waitsOn L p = true → stepT F n P ops Q S X al (wpT F n P ops Q S X (p :: rest)) a w) ∧
  (waitsOn L p = false → stepT F n P ops Q S X p (wpTA F n P ops Q S X al L rest) a w)
theorem stepT_and {o : Oper} (hx : X o = true) {K1 K2 : Act → World → Prop} {a : Act} {w : World} (hS : S w) (h1 : stepT F n P ops Q S X o K1 a w) (h2 : stepT F n P ops Q S X o K2 a w) : stepT F n P ops Q S X o (fun a w => K1 a w ∧ K2 a w) a w := by
 unfold stepT at h1 h2 ⊢
 by_cases hw : Region.wanted o (yielded ops a.tmps) = true
 ·rw [if_pos hw, if_pos hx] at h1 h2 ⊢
  intro w' hw'
  obtain ⟨v, e1, e2, k1⟩ := h1 w' hw'
  obtain ⟨u, e3, e4, k2⟩ := h2 w' hw'
  have e : u = v := by have := e4.symm.trans e2; simpa using this
  subst e
  exact ⟨u, e1, e2, k1, k2⟩
 ·rw [if_neg hw] at h1 h2 ⊢
  exact ⟨h1, h2⟩
theorem wpTA_now (hF : ∀ f, F.fn f) (hd : F.depth = none) (hQ : Quiet Q) {al : Oper} {L : Nat} (hal : plainOp al = true) : ∀ (rest : List Oper) (a : Act) (w : World),
  (∀ p ∈ rest, plainOp p = true ∧ (X p = true → waitsOn L p = false → p.apart ops al = true)) → S w → wpTA F n P ops Q S X al L rest a w → stepT F n P ops Q S X al (wpT F n P ops Q S X rest) a w
 | [], a, w, _, _, h => h
 | p :: rest, a, w, hp, hS, h => by
  by_cases hc : X p = false ∨ waitsOn L p = true
  ·exact h.1 hc
  ·have hx : X p = true := by
    cases e : X p with
    | true => rfl
    | false => exact absurd (.inl e) hc
   have hw : waitsOn L p = false := by
    cases e : waitsOn L p with
    | false => rfl
    | true => exact absurd (.inr e) hc
   have hpp := hp p (List.mem_cons_self ..)
   have h2 := stepT_mono hS (K' := fun a w => S w → stepT F n P ops Q S X al (wpT F n P ops Q S X rest) a w)
    (fun a w _ hk hS' => wpTA_now hF hd hQ hal rest a w (fun q hq => hp q (List.mem_cons_of_mem _ hq)) hS' hk) (h.2 hw)
   exact stepT_mono hS (fun a w hS' hk => hk hS') (stepT_comm hF hd hQ hpp.1 hal (hpp.2 hx hw) (.inl hx) hS h2)
theorem wpTA_first (hF : ∀ f, F.fn f) (hd : F.depth = none) (hQ : Quiet Q) {al : Oper} {L : Nat} (hal : plainOp al = true) {o : Oper} {post : List Oper} (ho : plainOp o = true) (hwo : waitsOn L o = false) : ∀ (pre : List Oper) (a : Act) (w : World), ((X o = true → al.apart ops o = true) ∨ ∀ p ∈ pre, X p = true ∧ waitsOn L p = false) →
  (∀ p ∈ pre, plainOp p = true ∧ p.apart ops o = true ∧ (X p = true ∨ X o = true) ∧ (waitsOn L p = true → X o = true)) → S w →
  wpTA F n P ops Q S X al L (pre ++ o :: post) a w → stepT F n P ops Q S X o (wpTA F n P ops Q S X al L (pre ++ post)) a w
 | [], _, _, _, _, _, h => h.2 hwo
 | p :: pre, a, w, hao, hpre, hS, h => by
  have hao' : (X o = true → al.apart ops o = true) ∨ ∀ p ∈ pre, X p = true ∧ waitsOn L p = false := hao.imp id fun h q hq => h q (List.mem_cons_of_mem _ hq)
  obtain ⟨hp1, hp2, hp3, hp4⟩ := hpre p (List.mem_cons_self ..)
  have hrest : ∀ q ∈ pre, plainOp q = true ∧ q.apart ops o = true ∧ (X q = true ∨ X o = true) ∧ (waitsOn L q = true → X o = true) := fun q hq => hpre q (List.mem_cons_of_mem _ hq)
  have hB : waitsOn L p = false → stepT F n P ops Q S X o (fun a w => S w → stepT F n P ops Q S X p (wpTA F n P ops Q S X al L (pre ++ post)) a w) a w := fun hw => by
   have h2 := stepT_mono hS (K' := fun a w => S w → stepT F n P ops Q S X o (wpTA F n P ops Q S X al L (pre ++ post)) a w)
    (fun a w _ hk hS' => wpTA_first hF hd hQ hal ho hwo pre a w hao' hrest hS' hk) (h.2 hw)
   exact stepT_comm hF hd hQ hp1 ho hp2 hp3 hS h2
  have hA : X p = false ∨ waitsOn L p = true → stepT F n P ops Q S X o (fun a w => S w → stepT F n P ops Q S X al (wpT F n P ops Q S X (p :: (pre ++ post))) a w) a w := fun hc => by
   have hxo : X o = true := by
    rcases hc with hc | hc
    ·exact hp3.resolve_left (by rw [hc]; simp)
    ·exact hp4 hc
   have h2 := stepT_mono hS (K' := fun a w => S w → stepT F n P ops Q S X o (wpT F n P ops Q S X ((p :: pre) ++ post)) a w)
    (fun a w _ hk hS' => wpT_first hF hd hQ ho (p :: pre) a w (fun q hq => by obtain ⟨k1, k2, k3, _⟩ := hpre q hq; exact ⟨k1, k2, k3⟩) hS' hk) (h.1 hc)
   have hap : al.apart ops o = true := by
    rcases hao with hao | hao
    ·exact hao hxo
    ·obtain ⟨k1, k2⟩ := hao p (List.mem_cons_self ..)
     rcases hc with hc | hc
     ·rw [k1] at hc; cases hc
     ·rw [k2] at hc; cases hc
   exact stepT_comm hF hd hQ hal ho hap (.inr hxo) hS h2
  by_cases hw : waitsOn L p = true
  ·refine stepT_mono hS (fun a w hS' hk => ?_) (hA (.inr hw))
   exact ⟨fun _ => hk hS', fun h' => by rw [hw] at h'; cases h'⟩
  ·have hw' : waitsOn L p = false := by simpa using hw
   by_cases hx : X p = true
   ·refine stepT_mono hS (fun a w hS' hk => ?_) (hB hw')
    refine ⟨fun h' => ?_, fun _ => hk hS'⟩
    rcases h' with h' | h'
    ·rw [hx] at h'; cases h'
    ·rw [hw'] at h'; cases h'
   ·have hx' : X p = false := by simpa using hx
    have hxo : X o = true := hp3.resolve_left hx
    refine stepT_mono hS (fun a w hS' hk => ?_) (stepT_and hxo hS (hA (.inl hx')) (hB hw'))
    exact ⟨fun _ => hk.1 hS', fun _ => hk.2 hS'⟩
def textOkA (ops : Array Oper) (X : Oper → Bool) (L : Nat) : Bool :=
 (List.range ops.size).all fun j =>
  (match ops[j]?, ops[L]? with
   | some o, some al => plainOp o && (o.after.all fun e => !Region.binds .any e || decide (e.on < j)) && (j == L || !X o || waitsOn L o || (o.apart ops al && al.apart ops o) || (waits ops 10 j L && (List.range j).all fun i => match ops[i]? with | some p => X p && !waitsOn L p | none => true))
   | _, _ => true) &&
  (List.range j).all fun i => i == L || j == L || (pairOk ops X i j && (match ops[i]?, ops[j]? with
   | some p, some o => !waitsOn L p || X o || waits ops 10 i j
   | _, _ => true))
theorem textOkA_spec {L : Nat} {al : Oper} (hL : ops[L]? = some al) (hchk : textOkA ops X L = true) : ∀ j o, ops[j]? = some o → plainOp o = true ∧ (∀ e ∈ o.after, Region.binds .any e = true → e.on < j) ∧
  (j ≠ L → X o = true → waitsOn L o = false → (o.apart ops al = true ∧ al.apart ops o = true) ∨ (waits ops 10 j L = true ∧ ∀ i p, i < j → ops[i]? = some p → X p = true ∧ waitsOn L p = false)) ∧
  ∀ i, i < j → i ≠ L → j ≠ L → pairOk ops X i j = true ∧ ∀ p, ops[i]? = some p → waitsOn L p = true → X o = true ∨ waits ops 10 i j = true := by
 intro j o ho
 have hlt : j < ops.size := (Array.getElem?_eq_some_iff.1 ho).1
 unfold textOkA at hchk
 rw [List.all_eq_true] at hchk
 have := hchk j (List.mem_range.2 hlt)
 simp only [ho, hL, Bool.and_eq_true, List.all_eq_true, List.mem_range, Array.all_eq_true_iff_forall_mem, Bool.or_eq_true, Bool.not_eq_true', decide_eq_true_eq, beq_iff_eq] at this
 obtain ⟨⟨⟨h1, h2⟩, h3⟩, h4⟩ := this
 refine ⟨h1, fun e he hb => (h2 e he).resolve_left (by simp [hb]), fun hj hx hw => ?_, fun i hi hiL hjL => ?_⟩
 ·rcases h3 with (((h3 | h3) | h3) | h3) | h3
  ·exact absurd h3 hj
  ·rw [hx] at h3; cases h3
  ·rw [hw] at h3; cases h3
  ·exact .inl h3
  ·refine .inr ⟨h3.1, fun i p hi hp => ?_⟩
   have h4 := h3.2 i hi
   simp only [hp, Bool.and_eq_true, Bool.not_eq_true'] at h4
   exact h4
 ·rcases h4 i hi with (h4 | h4) | h4
  ·exact absurd h4 hiL
  ·exact absurd h4 hjL
  ·refine ⟨h4.1, fun p hp hw => ?_⟩
   have h5 := h4.2
   simp only [hp, Bool.or_eq_true, Bool.not_eq_true'] at h5
   rcases h5 with (h5 | h5) | h5
   ·rw [hw] at h5; cases h5
   ·exact .inl h5
   ·exact .inr h5
theorem wpAnyIn_others (hF : ∀ f, F.fn f) (hd : F.depth = none) (hQ : Quiet Q) {L : Nat}
  (chk : ∀ j o, ops[j]? = some o → plainOp o = true ∧ (∀ e ∈ o.after, Region.binds .any e = true → e.on < j) ∧ ∀ i, i < j → i ≠ L → j ≠ L → pairOk ops X i j = true) :
  ∀ (m : Nat) (T : List Nat) (listed : Array Bool) (a : Act) (w : World), T.length = m → T.Pairwise (· < ·) →
  (∀ i, i ∈ T ↔ i < ops.size ∧ listed.getD i true = false) → listed.getD L true = true → Closed ops listed → listed.size = ops.size → S w → wpT F n P ops Q S X (T.filterMap (ops[·]?)) a w → wpAnyIn F n P .any ops Q m listed a w := by
 intro m
 induction m with
 | zero =>
  intro T listed a w hT hp hmem hLl hc hs hS h
  obtain rfl : T = [] := List.eq_nil_of_length_eq_zero hT
  refine ⟨?_, h⟩
  rw [List.eq_nil_iff_forall_not_mem]
  intro i hi
  obtain ⟨h0, o, ho, _⟩ := mem_ready.1 hi
  have := (hmem i).2 ⟨(Array.getElem?_eq_some_iff.1 ho).1, h0⟩
  cases this
 | succ m ih =>
  intro T listed a w hT hp hmem hLl hc hs hS h
  have notL : ∀ i ∈ T, i ≠ L := fun i hi e => by
   subst e
   have := ((hmem i).1 hi).2
   rw [hLl] at this; cases this
  have inT : ∀ i ∈ Region.ready .any ops listed, i ∈ T := fun i hi => by
   obtain ⟨h0, o, ho, hall⟩ := mem_ready.1 hi
   exact (hmem i).2 ⟨(Array.getElem?_eq_some_iff.1 ho).1, h0⟩
  refine ⟨fun hr => ?_, fun i hi => ?_⟩
  ·exfalso
   cases T with
   | nil => simp at hT
   | cons t T =>
    obtain ⟨htl, ht0⟩ := (hmem t).1 (List.mem_cons_self ..)
    have ho : ops[t]? = some ops[t] := Array.getElem?_eq_getElem htl
    have : t ∈ Region.ready .any ops listed := mem_ready.2 ⟨ht0, _, ho, fun e he hb => by
     have hlt := (chk t _ ho).2.1 e he hb
     cases hl : listed.getD e.on false with
     | true => rfl
     | false =>
      have hin := (hmem e.on).2 ⟨by omega, by rw [getD_true_false (by omega)]; exact hl⟩
      rcases List.mem_cons.1 hin with h1 | h1
      ·omega
      ·have := (List.pairwise_cons.1 hp).1 _ h1; omega⟩
    rw [hr] at this; cases this
  ·have hiT := inT i hi
   obtain ⟨h0, o, ho, hall⟩ := mem_ready.1 hi
   have hiL := notL i hiT
   obtain ⟨pre, post, rfl⟩ := List.append_of_mem hiT
   obtain ⟨hp1, hp2, hp3⟩ := List.pairwise_append.1 hp
   have hil : i < ops.size := (Array.getElem?_eq_some_iff.1 ho).1
   rw [List.filterMap_append, List.filterMap_cons, ho] at h
   have hfirst := wpT_first (post := post.filterMap (ops[·]?)) hF hd hQ (chk i o ho).1 (pre.filterMap (ops[·]?)) a w ?_ hS h
   ·rw [← List.filterMap_append] at hfirst
    have hnd : ∀ j, j ∈ pre ++ post ↔ j < ops.size ∧ (listed.setIfInBounds i true).getD j true = false := by
     intro j
     by_cases hji : j = i
     ·subst hji
      constructor
      ·intro hj
       rcases List.mem_append.1 hj with h1 | h1
       ·have := hp3 j h1 j (List.mem_cons_self ..); omega
       ·have := (List.pairwise_cons.1 hp2).1 j h1; omega
      ·rintro ⟨_, h1⟩
       simp [Array.getD, hs, hil] at h1
     ·rw [getD_set_ne true (Ne.symm hji), ← hmem j]
      simp only [List.mem_append, List.mem_cons]
      constructor
      ·rintro (h1 | h1) <;> simp [h1]
      ·rintro (h1 | h1 | h1)
       ·exact .inl h1
       ·exact absurd h1 hji
       ·exact .inr h1
    have hLl' : (listed.setIfInBounds i true).getD L true = true := by
     rw [getD_set_ne true hiL]; exact hLl
    have hc' : Closed ops (listed.setIfInBounds i true) := by
     intro m' o' ho' hm' e he hb
     refine getD_set_true ?_
     by_cases hmi : m' = i
     ·subst hmi; rw [ho] at ho'; cases ho'; exact hall e he hb
     ·rw [getD_set_ne false (Ne.symm hmi)] at hm'
      exact hc m' o' ho' hm' e he hb
    have next : ∀ a w, S w → wpT F n P ops Q S X ((pre ++ post).filterMap (ops[·]?)) a w → wpAnyIn F n P .any ops Q m (listed.setIfInBounds i true) a w := fun a w hS h =>
     ih (pre ++ post) _ a w (by simp at hT ⊢; omega) (List.pairwise_append.2 ⟨hp1, (List.pairwise_cons.1 hp2).2, fun x hx y hy => hp3 x hx y (List.mem_cons_of_mem _ hy)⟩) hnd hLl' hc' (by simp [hs]) hS h
    unfold wpOpIn
    simp only [ho]
    unfold stepT at hfirst
    by_cases hw : Region.wanted o (yielded ops a.tmps) = true
    ·rw [if_pos hw] at hfirst ⊢
     by_cases hx : X o = true
     ·rw [if_pos hx] at hfirst
      obtain ⟨v, hv, _, hk⟩ := hfirst w hS
      refine ⟨fun f _ => hF f, ?_⟩
      rw [semAt_plain (chk i o ho).1, hv]
      exact next _ _ hS hk
     ·rw [if_neg hx] at hfirst
      exact Oper.wpIn_mono (fun a w h => next _ _ h.1 h.2) hfirst
    ·rw [if_neg hw] at hfirst ⊢
     exact ⟨fun f _ => hF f, next _ _ hS hfirst⟩
   ·intro p hpm
    obtain ⟨j, hj, hpj⟩ := List.mem_filterMap.1 hpm
    have hji : j < i := hp3 j hj i (List.mem_cons_self ..)
    have hjT := (hmem j).1 (List.mem_append_left _ hj)
    refine ⟨(chk j p hpj).1, ?_⟩
    have hok := (chk i o ho).2.2 j hji (notL j (List.mem_append_left _ hj)) hiL
    unfold pairOk at hok
    simp only [hpj, ho, Bool.or_eq_true, Bool.and_eq_true] at hok
    rcases hok with h1 | h1
    ·exact h1
    ·have := waits_listed hc 10 j i h1 fun o' ho' e he hb => by rw [ho] at ho'; cases ho'; exact hall e he hb
     rw [getD_true_false (by omega), this] at hjT
     cases hjT.2
theorem waitsOn_false {L : Nat} {o : Oper} {listed : Array Bool} (hall : ∀ e ∈ o.after, Region.binds .any e = true → listed.getD e.on false = true) (hL : listed.getD L false = false) : waitsOn L o = false := by
 unfold waitsOn
 rw [List.any_eq_false]
 intro e he h
 simp only [Bool.and_eq_true, beq_iff_eq] at h
 have := hall e (by simpa using he) h.1
 rw [h.2, hL] at this; cases this
theorem wpAnyIn_float (hF : ∀ f, F.fn f) (hd : F.depth = none) (hQ : Quiet Q) {L : Nat} {al : Oper} (hL : ops[L]? = some al) (hchk : textOkA ops X L = true) :
  ∀ (m : Nat) (T : List Nat) (listed : Array Bool) (a : Act) (w : World), T.length = m → T.Pairwise (· < ·) →
  (∀ i, i ∈ T ↔ i < ops.size ∧ i ≠ L ∧ listed.getD i true = false) → listed.getD L true = false → Closed ops listed → listed.size = ops.size → S w → wpTA F n P ops Q S X al L (T.filterMap (ops[·]?)) a w →
  wpAnyIn F n P .any ops Q (m + 1) listed a w := by
 have chk := textOkA_spec hL hchk
 have hLs : L < ops.size := (Array.getElem?_eq_some_iff.1 hL).1
 intro m
 induction m with
 | zero =>
  intro T listed a w hT hp hmem hLu hc hs hS h
  obtain rfl : T = [] := List.eq_nil_of_length_eq_zero hT
  have fin : ∀ a w, S w → wpT F n P ops Q S X [] a w → wpAnyIn F n P .any ops Q 0 (listed.setIfInBounds L true) a w := fun a w hS hq => by
   refine ⟨?_, hq⟩
   rw [List.eq_nil_iff_forall_not_mem]
   intro j hj
   obtain ⟨h2, o, ho, _⟩ := mem_ready.1 hj
   have hjl : j < ops.size := (Array.getElem?_eq_some_iff.1 ho).1
   by_cases hji : j = L
   ·subst hji; simp [Array.getD, hs, hjl] at h2
   ·rw [getD_set_ne true (Ne.symm hji)] at h2
    have := (hmem j).2 ⟨hjl, hji, h2⟩; cases this
  refine ⟨fun hr => ?_, fun i hi => ?_⟩
  ·exfalso
   have : L ∈ Region.ready .any ops listed := mem_ready.2 ⟨hLu, _, hL, fun e he hb => by
    have hlt := (chk L al hL).2.1 e he hb
    cases hl : listed.getD e.on false with
    | true => rfl
    | false =>
     have hin := (hmem e.on).2 ⟨by omega, by omega, by rw [getD_true_false (by omega)]; exact hl⟩
     cases hin⟩
   rw [hr] at this; cases this
  ·obtain ⟨h0, o, ho, hall⟩ := mem_ready.1 hi
   have hil : i < ops.size := (Array.getElem?_eq_some_iff.1 ho).1
   have hiL : i = L := by
    by_cases e : i = L
    ·exact e
    ·have := (hmem i).2 ⟨hil, e, h0⟩; cases this
   subst hiL
   rw [hL] at ho; cases ho
   have h' : stepT F n P ops Q S X al (wpT F n P ops Q S X []) a w := h
   unfold wpOpIn
   simp only [hL]
   unfold stepT at h'
   by_cases hw : Region.wanted al (yielded ops a.tmps) = true
   ·rw [if_pos hw] at h' ⊢
    by_cases hx : X al = true
    ·rw [if_pos hx] at h'
     obtain ⟨v, hv, _, hk⟩ := h' w hS
     refine ⟨fun f _ => hF f, ?_⟩
     rw [semAt_plain (chk i al hL).1, hv]
     exact fin _ _ hS hk
    ·rw [if_neg hx] at h'
     exact Oper.wpIn_mono (fun a w h => fin _ _ h.1 h.2) h'
   ·rw [if_neg hw] at h' ⊢
    exact ⟨fun f _ => hF f, fin _ _ hS h'⟩
 | succ m ih =>
  intro T listed a w hT hp hmem hLu hc hs hS h
  refine ⟨fun hr => ?_, fun i hi => ?_⟩
  ·-- the least one of all may come up
   exfalso
   have key : ∀ k, k < ops.size → listed.getD k true = false → (∀ j, j < k → listed.getD j true = true) → False := fun k hk hk0 hless => by
    have ho : ops[k]? = some ops[k] := Array.getElem?_eq_getElem hk
    have : k ∈ Region.ready .any ops listed := mem_ready.2 ⟨hk0, _, ho, fun e he hb => by
     have hlt := (chk k _ ho).2.1 e he hb
     rw [← getD_true_false (by omega)]
     exact hless _ hlt⟩
    rw [hr] at this; cases this
   have all : ∀ k, k < ops.size → listed.getD k true = true := by
    intro k
    induction k using Nat.strongRecOn with
    | _ k ihk =>
     intro hk
     cases e : listed.getD k true with
     | true => rfl
     | false => exact (key k hk e fun j hj => ihk j hj (by omega)).elim
   rw [all L hLs] at hLu
   cases hLu
  ·obtain ⟨h0, o, ho, hall⟩ := mem_ready.1 hi
   have hil : i < ops.size := (Array.getElem?_eq_some_iff.1 ho).1
   have hLf : listed.getD L false = false := by rw [← getD_true_false (by omega)]; exact hLu
   by_cases hiL : i = L
   ·-- the floating one, now
    subst hiL
    rw [hL] at ho; cases ho
    have hnow := wpTA_now hF hd hQ (chk i al hL).1 (T.filterMap (ops[·]?)) a w (fun p hpm => by
     obtain ⟨j, hj, hpj⟩ := List.mem_filterMap.1 hpm
     refine ⟨(chk j p hpj).1, fun hx hw => ?_⟩
     rcases (chk j p hpj).2.2.1 ((hmem j).1 hj).2.1 hx hw with h1 | h1
     ·exact h1.1
     ·have hjl : j < ops.size := (Array.getElem?_eq_some_iff.1 hpj).1
      have h2 := waits_listed hc 10 j i h1.1 fun o' ho' e he hb => by rw [hL] at ho'; cases ho'; exact hall e he hb
      have h3 := ((hmem j).1 hj).2.2
      rw [getD_true_false (by omega), h2] at h3
      cases h3) hS h
    have hnd : ∀ j, j ∈ T ↔ j < ops.size ∧ (listed.setIfInBounds i true).getD j true = false := by
     intro j
     by_cases hji : j = i
     ·subst hji
      constructor
      ·intro hj; exact absurd rfl ((hmem j).1 hj).2.1
      ·rintro ⟨_, h1⟩; simp [Array.getD, hs, hil] at h1
     ·rw [getD_set_ne true (Ne.symm hji), hmem j]
      exact ⟨fun h => ⟨h.1, h.2.2⟩, fun h => ⟨h.1, hji, h.2⟩⟩
    have hc' : Closed ops (listed.setIfInBounds i true) := by
     intro m' o' ho' hm' e he hb
     refine getD_set_true ?_
     by_cases hmi : m' = i
     ·subst hmi; rw [hL] at ho'; cases ho'; exact hall e he hb
     ·rw [getD_set_ne false (Ne.symm hmi)] at hm'
      exact hc m' o' ho' hm' e he hb
    have next : ∀ a w, S w → wpT F n P ops Q S X (T.filterMap (ops[·]?)) a w → wpAnyIn F n P .any ops Q (m + 1) (listed.setIfInBounds i true) a w := fun a w hS h =>
     wpAnyIn_others hF hd hQ (L := i) (fun j o ho => ⟨(chk j o ho).1, (chk j o ho).2.1, fun k hk hkL hjL => ((chk j o ho).2.2.2 k hk hkL hjL).1⟩) (m + 1) T _ a w hT hp hnd (by simp [Array.getD, hs, hil]) hc' (by simp [hs]) hS h
    unfold wpOpIn
    simp only [hL]
    unfold stepT at hnow
    by_cases hw : Region.wanted al (yielded ops a.tmps) = true
    ·rw [if_pos hw] at hnow ⊢
     by_cases hx : X al = true
     ·rw [if_pos hx] at hnow
      obtain ⟨v, hv, _, hk⟩ := hnow w hS
      refine ⟨fun f _ => hF f, ?_⟩
      rw [semAt_plain (chk i al hL).1, hv]
      exact next _ _ hS hk
     ·rw [if_neg hx] at hnow
      exact Oper.wpIn_mono (fun a w h => next _ _ h.1 h.2) hnow
    ·rw [if_neg hw] at hnow ⊢
     exact ⟨fun f _ => hF f, next _ _ hS hnow⟩
   ·have hiT := (hmem i).2 ⟨hil, hiL, h0⟩
    obtain ⟨pre, post, rfl⟩ := List.append_of_mem hiT
    obtain ⟨hp1, hp2, hp3⟩ := List.pairwise_append.1 hp
    have hwo := waitsOn_false hall hLf
    rw [List.filterMap_append, List.filterMap_cons, ho] at h
    have hao : (X o = true → al.apart ops o = true) ∨ ∀ p ∈ pre.filterMap (ops[·]?), X p = true ∧ waitsOn L p = false := by
     by_cases hx : X o = true
     ·rcases (chk i o ho).2.2.1 hiL hx hwo with h1 | h1
      ·exact .inl fun _ => h1.2
      ·refine .inr fun p hpm => ?_
       obtain ⟨j, hj, hpj⟩ := List.mem_filterMap.1 hpm
       exact h1.2 j p (hp3 j hj i (List.mem_cons_self ..)) hpj
     ·exact .inl fun h => absurd h hx
    have hfirst := wpTA_first (post := post.filterMap (ops[·]?)) hF hd hQ (chk L al hL).1 (chk i o ho).1 hwo (pre.filterMap (ops[·]?)) a w hao ?_ hS h
    ·rw [← List.filterMap_append] at hfirst
     have hnd : ∀ j, j ∈ pre ++ post ↔ j < ops.size ∧ j ≠ L ∧ (listed.setIfInBounds i true).getD j true = false := by
      intro j
      by_cases hji : j = i
      ·subst hji
       constructor
       ·intro hj
        rcases List.mem_append.1 hj with h1 | h1
        ·have := hp3 j h1 j (List.mem_cons_self ..); omega
        ·have := (List.pairwise_cons.1 hp2).1 j h1; omega
       ·rintro ⟨_, _, h1⟩
        simp [Array.getD, hs, hil] at h1
      ·rw [getD_set_ne true (Ne.symm hji), ← hmem j]
       simp only [List.mem_append, List.mem_cons]
       constructor
       ·rintro (h1 | h1) <;> simp [h1]
       ·rintro (h1 | h1 | h1)
        ·exact .inl h1
        ·exact absurd h1 hji
        ·exact .inr h1
     have hLu' : (listed.setIfInBounds i true).getD L true = false := by
      rw [getD_set_ne true hiL]; exact hLu
     have hc' : Closed ops (listed.setIfInBounds i true) := by
      intro m' o' ho' hm' e he hb
      refine getD_set_true ?_
      by_cases hmi : m' = i
      ·subst hmi; rw [ho] at ho'; cases ho'; exact hall e he hb
      ·rw [getD_set_ne false (Ne.symm hmi)] at hm'
       exact hc m' o' ho' hm' e he hb
     have next : ∀ a w, S w → wpTA F n P ops Q S X al L ((pre ++ post).filterMap (ops[·]?)) a w → wpAnyIn F n P .any ops Q (m + 1) (listed.setIfInBounds i true) a w := fun a w hS h =>
      ih (pre ++ post) _ a w (by simp at hT ⊢; omega) (List.pairwise_append.2 ⟨hp1, (List.pairwise_cons.1 hp2).2, fun x hx y hy => hp3 x hx y (List.mem_cons_of_mem _ hy)⟩) hnd hLu' hc' (by simp [hs]) hS h
     unfold wpOpIn
     simp only [ho]
     unfold stepT at hfirst
     by_cases hw : Region.wanted o (yielded ops a.tmps) = true
     ·rw [if_pos hw] at hfirst ⊢
      by_cases hx : X o = true
      ·rw [if_pos hx] at hfirst
       obtain ⟨v, hv, _, hk⟩ := hfirst w hS
       refine ⟨fun f _ => hF f, ?_⟩
       rw [semAt_plain (chk i o ho).1, hv]
       exact next _ _ hS hk
      ·rw [if_neg hx] at hfirst
       exact Oper.wpIn_mono (fun a w h => next _ _ h.1 h.2) hfirst
     ·rw [if_neg hw] at hfirst ⊢
      exact ⟨fun f _ => hF f, next _ _ hS hfirst⟩
    ·intro p hpm
     obtain ⟨j, hj, hpj⟩ := List.mem_filterMap.1 hpm
     have hji : j < i := hp3 j hj i (List.mem_cons_self ..)
     have hjT := (hmem j).1 (List.mem_append_left _ hj)
     obtain ⟨hok, hok2⟩ := (chk i o ho).2.2.2 j hji hjT.2.1 hiL
     have nowait : waits ops 10 j i = true → False := fun h1 => by
      have := waits_listed hc 10 j i h1 fun o' ho' e he hb => by rw [ho] at ho'; cases ho'; exact hall e he hb
      have h2 := hjT.2.2
      rw [getD_true_false (by omega), this] at h2
      cases h2
     unfold pairOk at hok
     simp only [hpj, ho, Bool.or_eq_true, Bool.and_eq_true] at hok
     refine ⟨(chk j p hpj).1, ?_⟩
     rcases hok with h1 | h1
     ·exact ⟨h1.1, h1.2, fun hw => (hok2 p hpj hw).resolve_right nowait⟩
     ·exact (nowait h1).elim
def eraseL : Nat → List Oper → List Oper
 | _, [] => []
 | 0, _ :: l => l
 | L + 1, x :: l => x :: eraseL L l
theorem erase_filterMap : ∀ (l : List Oper) (L : Nat), ((List.range l.length).filter (fun i => i != L)).filterMap (l[·]?) = eraseL L l
 | [], L => by cases L <;> rfl
 | x :: l, 0 => by
  rw [List.length_cons, List.range_succ_eq_map, List.filter_cons, if_neg (by simp), List.filter_map, List.filterMap_map]
  have hf : (List.range l.length).filter ((fun i => i != 0) ∘ Nat.succ) = List.range l.length := by
   rw [List.filter_eq_self]; intro a _; simp
  rw [hf]
  have := filterMap_range l
  simpa [Function.comp_def, eraseL] using this
 | x :: l, L + 1 => by
  have ih := erase_filterMap l L
  rw [List.length_cons, List.range_succ_eq_map, List.filter_cons, List.filter_map]
  have h0 : ((0 : Nat) != L + 1) = true := by simp
  rw [if_pos h0, List.filterMap_cons, List.filterMap_map]
  have hf : (List.range l.length).filter ((fun i => i != L + 1) ∘ Nat.succ) = (List.range l.length).filter (fun i => i != L) := by
   refine List.filter_congr fun a _ => ?_
   simp [Function.comp, bne]
  rw [hf]
  simpa [Function.comp_def, eraseL] using ih
theorem wpIn_region_float {id : Nat} {al : Oper} {a : Act} {w : World} (S : World → Prop) (X : Oper → Bool) (L : Nat) (hF : ∀ f, F.fn f) (hd : F.depth = none) (hm : P.follows .mixedOrders = true) (hL : ops[L]? = some al) (hchk : textOkA ops X L = true) (hS : S w.drew)
  (h : Shut (wpTA F n P ops (onlyNormal Q) S X al L (eraseL L ops.toList) a w.drew)) : (Code.region id ops true).wpIn F n P Q a w := by
 have hLs : L < ops.size := (Array.getElem?_eq_some_iff.1 hL).1
 refine wpIn_mono (Q := onlyNormal Q) (wpIn_region_any hm ?_) fun e a w h => by cases e <;> first | exact h | exact h.elim
 have hlen : ((List.range ops.size).filter (fun i => i != L)).length = ops.size - 1 := by
  have h1 := congrArg List.length (erase_filterMap ops.toList L)
  have h2 : ∀ (l : List Oper) (L : Nat), L < l.length → (eraseL L l).length = l.length - 1 := by
   intro l
   induction l with
   | nil => intro L h; cases h
   | cons x l ih =>
    intro L h
    cases L with
    | zero => rfl
    | succ L => simp only [eraseL, List.length_cons]; rw [ih L (by simpa using h)]; simp at h; omega
  have h3 : ∀ r : List Nat, (∀ i ∈ r, i < ops.toList.length) → (r.filterMap (ops.toList[·]?)).length = r.length := by
   intro r
   induction r with
   | nil => intro _; rfl
   | cons i r ih =>
    intro hr
    have hi : i < ops.toList.length := hr i List.mem_cons_self
    have h5 := ih fun j hj => hr j (List.mem_cons_of_mem _ hj)
    rw [List.filterMap_cons, List.getElem?_eq_getElem hi]
    simp only [List.length_cons, h5]
  rw [h3 _ (fun i hi => List.mem_range.1 (List.mem_filter.1 hi).1), h2 _ _ (by simpa using hLs)] at h1
  simpa using h1
 have hsz : ops.size = (ops.size - 1) + 1 := by omega
 rw [hsz]
 refine wpAnyIn_float hF hd quiet_normal hL hchk _ ((List.range ops.size).filter (fun i => i != L)) _ a _ hlen (List.Pairwise.filter _ List.pairwise_lt_range) ?_ ?_ ?_ (by simp; omega) hS ?_
 ·intro i
  simp only [List.mem_filter, List.mem_range, bne_iff_ne]
  constructor
  ·intro h; exact ⟨h.1, h.2, by simp [Array.getD]; omega⟩
  ·exact fun h => ⟨h.1, h.2.1⟩
 ·simp [Array.getD]; omega
 ·intro m o _ hm
  exfalso
  simp [Array.getD] at hm
 ·have e := erase_filterMap ops.toList L
  have e2 : ((List.range ops.size).filter (fun i => i != L)).filterMap (ops[·]?) = eraseL L ops.toList := by
   rw [← e]
   simp only [Array.length_toList, Array.getElem?_toList]
  rw [e2]
  exact h.out
theorem shA_x {al : Oper} {L : Nat} {o : Oper} {rest : List Oper} {a : Act} {w : World} (hg : o.guard = none) (hx : X o = true) (hw : waitsOn L o = false)
  (h : ∀ K : Act → World → Prop, (∀ a w, Shut (wpTA F n P ops Q S X al L rest a w) → K a w) → ∀ w', S w' → ∃ v, (execOp a.eval o).run P w' = .ok (.value v) w' ∧ (execOp a.eval o).run P w = .ok (.value v) w ∧ K (a.put o.dst v) w) :
  Shut (wpTA F n P ops Q S X al L (o :: rest) a w) := by
 refine ⟨⟨fun h' => ?_, fun _ => ?_⟩⟩
 ·rcases h' with h' | h'
  ·rw [hx] at h'; cases h'
  ·rw [hw] at h'; cases h'
 ·unfold stepT
  rw [if_pos (by unfold Region.wanted; rw [hg]), if_pos hx]
  exact h _ fun a w hs => hs.out
theorem shA_c {al : Oper} {L : Nat} {o : Oper} {rest : List Oper} {a : Act} {w : World} (hg : o.guard = none) (hx : X o = false) (hw : waitsOn L o = false)
  (hnow : Shut (wpT F n P ops Q S X (al :: o :: rest) a w))
  (h : ∀ K : Act → World → Prop, (∀ a w, S w → Shut (wpTA F n P ops Q S X al L rest a w) → K a w) → o.wpIn F n P a w K Q) :
  Shut (wpTA F n P ops Q S X al L (o :: rest) a w) := by
 refine ⟨⟨fun _ => hnow.out, fun _ => ?_⟩⟩
 unfold stepT
 rw [if_pos (by unfold Region.wanted; rw [hg]), if_neg (by simp [hx])]
 exact h (fun a w => S w ∧ wpTA F n P ops Q S X al L rest a w) fun a w hS hs => ⟨hS, hs.out⟩
theorem shA_wait {al : Oper} {L : Nat} {o : Oper} {rest : List Oper} {a : Act} {w : World} (hw : waitsOn L o = true) (hnow : Shut (wpT F n P ops Q S X (al :: o :: rest) a w)) : Shut (wpTA F n P ops Q S X al L (o :: rest) a w) :=
 ⟨⟨fun _ => hnow.out, fun h' => by rw [hw] at h'; cases h'⟩⟩
end
end Go.Tm
namespace Go.Tm
open Go.RowKit Go.Proofs
theorem RepL.drop {S : Nat → Prop} {w : World} : ∀ {l : List Tree} {xs : List Value} (k : Nat), RepL S w l xs → RepL S w (l.drop k) (xs.drop (9 * k))
 | [], xs, k, h => by rw [RepL] at h; subst h; simp [RepL]
 | x :: l, xs, 0, h => by simpa using h
 | x :: l, xs, k + 1, h => by
  rw [RepL] at h
  obtain ⟨cs, rest, e, h1, h2⟩ := h
  rw [List.drop_succ_cons]
  subst e
  have hl := Rep.length h1
  rw [show 9 * (k + 1) = cs.length + 9 * k by omega, List.drop_append, List.drop_eq_nil_of_le (show cs.length ≤ cs.length + 9 * k by omega), List.nil_append, show cs.length + 9 * k - cs.length = 9 * k by omega]
  exact h2.drop k
theorem RepS.drop {S : Nat → Prop} {w : World} {l : List Tree} {b off cap : Nat} (h : RepS S w l (.slice (some ⟨b, off, none⟩) l.length cap)) (k : Nat) (hk : k ≤ l.length) : RepS S w (l.drop k) (.slice (some ⟨b, off + k * 9, none⟩) (l.length - k) (cap - k)) := by
 obtain ⟨xs, ⟨hn, h | ⟨b', off', cap', cur, f, e, hS, hb, hc, h1, h2⟩⟩, hl⟩ := h
 ·cases h.1
 ·cases e
  have hlen : (l.drop k).length = l.length - k := by rw [List.length_drop]
  refine ⟨xs.drop (9 * k), ⟨by omega, .inr ⟨b, off + k * 9, _, cur, f, by rw [hlen], hS, hb, by omega, by omega, ?_⟩⟩, hl.drop k⟩
  rw [h2, hlen, List.drop_take, List.drop_drop]
  congr 1
  ·omega
  ·congr 1; omega
theorem repL_one_cell {S : Nat → Prop} {w : World} : ∀ {l : List Tree} {xs : List Value}, RepL S w l xs → ∀ u ∈ xs, u.oneCell' = true
 | [], xs, h, u, hu => by rw [RepL] at h; subst h; cases hu
 | x :: l, xs, h, u, hu => by
  rw [RepL] at h
  obtain ⟨cs, rest, rfl, h1, h2⟩ := h
  rcases List.mem_append.1 hu with hu | hu
  ·obtain ⟨hh, m⟩ := x
   rw [rep_node] at h1
   obtain ⟨_, lv, rfl, hr⟩ := h1
   obtain ⟨a, c, rfl⟩ := hr.is_slice
   exact node_one hh a _ c u hu
  ·exact repL_one_cell h2 u hu
theorem run_append_rep {S : Nat → Prop} {w : World} {B : Nat} {v lv : Value} {l ts : List Tree} (ty : TypeId) (hown : OwnL S w B v l) (hr : RepS (fun b => S b ∧ v.ownBlock ≠ some b) w ts lv) (hlen : l.length + ts.length ≤ 1099511627776) (hB : B ≤ w.heap.size) :
  ∃ v' w', (Builtin.append_ #[25, 25] ty #[v, lv]).run Tryz.prog w = .ok v' w' ∧ OwnL S w' B v' (l ++ ts) ∧ w.grownBy w' v.ownBlock ∧ (v'.ownBlock = v.ownBlock ∨ v'.ownBlock = some w.heap.size) := by
 obtain ⟨xs, ⟨hn, h | ⟨b, off, cap, cur, f, rfl, hS, hb, hc, h1, h2⟩⟩, hl⟩ := hr
 ·obtain ⟨rfl, hz, rfl⟩ := h
  have hts : ts = [] := List.length_eq_zero_iff.1 hz
  subst hts
  obtain ⟨i, hi, hz2⟩ := Option.map_eq_some_iff.1 node_info
  simp only [Prod.mk.injEq] at hz2
  have ho := hown
  obtain ⟨ys, hrow, _⟩ := ho
  refine ⟨v, w, run_append_owned_none w B 25 ty 27 i 9 Tryz.underlying25 hi v _ ys hrow, by rw [List.append_nil]; exact hown, ⟨rfl, rfl, rfl, Nat.le_refl _, fun _ _ _ => rfl⟩, .inl rfl⟩
 ·have hcell : ∀ j u, xs[j]? = some u → w.cell? ((⟨b, off, none⟩ : Addr).add j) = some u := by
   intro j u hj
   have hadd : (⟨b, off, none⟩ : Addr).add j = ⟨b, off + j, none⟩ := by unfold Addr.add; split <;> simp_all
   rw [hadd, cell_of_row _ _ _ cur 27 f hb]
   rw [h2, List.getElem?_take] at hj
   split at hj
   ·rw [List.getElem?_drop] at hj; simpa using hj
   ·cases hj
  obtain ⟨v', w', hr, h3, h4⟩ := run_append_trees ty hown rfl hl hcell (repL_one_cell hl) hlen hB (c := cap)
  refine ⟨v', w', hr, h3, h4, ?_⟩
  obtain ⟨ys, hrow, _⟩ := hown
  obtain ⟨i, hi, hz⟩ := Option.map_eq_some_iff.1 node_info
  simp only [Prod.mk.injEq] at hz
  have hnl := hl.length
  exact append_where (P := Tryz.prog) Tryz.underlying25 hi hz.1 hz.2.1 hz.2.2 (by decide) hrow (by rw [hnl, Nat.mul_comm]) hcell (repL_one_cell hl) (by unfold maxLen; omega) (by omega) hr
theorem OwnL.base {S : Nat → Prop} {w : World} {B B' : Nat} {v : Value} {l : List Tree} (hB : B' ≤ B) (h : OwnL S w B v l) : OwnL S w B' v l := by
 obtain ⟨xs, h, hr⟩ := h
 refine ⟨xs, ⟨h.1, ?_⟩, hr⟩
 rcases h.2 with h0 | ⟨g, cap, cur, e, hb, rest⟩
 ·exact .inl h0
 ·exact .inr ⟨g, cap, cur, e, Nat.le_trans hB hb, rest⟩
theorem OwnL.form {S : Nat → Prop} {w : World} {B : Nat} {v : Value} {l : List Tree} (h : OwnL S w B v l) : (v = .slice none 0 0 ∧ l = []) ∨ ∃ g cap, v = .slice (some ⟨g, 0, none⟩) l.length cap ∧ l.length ≤ cap := by
 obtain ⟨xs, h, _⟩ := h
 rcases h.2 with ⟨e, h0⟩ | ⟨g, cap, cur, e, hb, hg, hnc, _⟩
 ·exact .inl ⟨e, List.length_eq_zero_iff.1 h0⟩
 ·exact .inr ⟨g, cap, e, hnc⟩
theorem wpList_append1 {w w' : World} {ops : Array Oper} {rest : List Oper} {o : Oper} {a : Act} {Q : Exit → Act → World → Prop} {t : TypeId} {v v' vx : Value} (hgd : o.guard = none) (s x : Operand)
  (ho : o.op = .call { callee := .builtin .append, args := #[s, x], argTypes := #[t, t] }) (hs : a.eval s = v) (hx : a.eval x = vx)
  (hrun : (Builtin.append_ #[t, t] o.type #[v, vx]).run Tryz.prog w = .ok v' w') (h : wpList Tryz.prog ops Q rest (a.put o.dst v') w') : wpList Tryz.prog ops Q (o :: rest) a w := by
 refine wpList_plain hgd fun K hK => ?_
 unfold Oper.wp execOp
 simp only [ho, resolve, invoke, builtin, Sem.run_bind, Sem.run_pure, Result.andThen_ok, List.map_toArray, List.map_cons, List.map_nil, hs, hx, hrun]
 exact hK _ _ h
theorem RepS.empty {S : Nat → Prop} {w : World} {l : List Tree} {b off n c : Nat} (h : RepS S w l (.slice (some ⟨b, off, none⟩) n c)) : RepS S w [] (.slice (some ⟨b, off, none⟩) 0 0) := by
 obtain ⟨xs, ⟨hn, h | ⟨b', off', cap', cur, f, e, hS, hb, hc, h1, h2⟩⟩, hl⟩ := h
 ·cases h.1
 ·cases e
  exact ⟨[], ⟨by simp, .inr ⟨b, off, 0, cur, f, rfl, hS, hb, Nat.le_refl _, by simp; omega, by simp⟩⟩, by rw [RepL]⟩
theorem rep_two {S : Nat → Prop} {W : World} {b : Nat} {f : Nat × Nat} {x y : Tree} {lx ly : Value} (hb : W.heap[b]? = some (.cells (nodeCs x.hd lx ++ nodeCs y.hd ly).toArray 27 f)) (hS : S b)
  (hx : x.hd.ok) (hxr : RepS S W x.l lx) (hy : y.hd.ok) (hyr : RepS S W y.l ly) : RepS S W [x, y] (.slice (some ⟨b, 0, none⟩) 2 2) := by
 refine ⟨nodeCs x.hd lx ++ nodeCs y.hd ly, ⟨by show 2 ≤ 1099511627776; omega, .inr ⟨b, 0, 2, _, f, rfl, hS, hb, Nat.le_refl _, by simp, by simp⟩⟩, ?_⟩
 rw [RepL]
 refine ⟨nodeCs x.hd lx, nodeCs y.hd ly, rfl, ?_, repL_one ?_⟩
 ·rw [← Tree.eta x, rep_node]; exact ⟨hx, lx, rfl, hxr⟩
 ·rw [← Tree.eta y, rep_node]; exact ⟨hy, ly, rfl, hyr⟩
end Go.Tm
namespace Go.Tm
open Go.RowKit Go.Proofs
theorem smK {K : Nat → Obj → Prop} {w W : World} (h : Keep K w W := by repeat with_reducible first | exact Keep.refl _ _ | refine Keep.alloc ?_ _ | refine Keep.drew ?_ | refine Keep.drewN ?_ _ | refine Keep.trans ?_ (by assumption)) : Keep K w W := h
set_option maxRecDepth 100000 in
set_option maxHeartbeats 4000000 in
theorem refSame_any : ∀ t u : Tree, ∀ (S : Nat → Prop) (lv lv' : Value) (w : World), RepS S w t.l lv → RepS S w u.l lv' → Calls Tryz.prog 14 #[nodeV t.hd lv, nodeV u.hd lv'] w fun e w' => e = .returned (.bool (t.same u)) ∧ Same w w' := by
 refine Tree.ind fun h l ih => ?_
 rintro ⟨g, m⟩ S lv lv' w hl hm
 simp only [Tree.hd_node, Tree.l_node] at hl hm ⊢
 obtain ⟨hla, a, cap, rfl, hcap, hi⟩ := hl.shape
 obtain ⟨hlb, a2, cap2, rfl, hcap2, hi2⟩ := hm.shape
 by_cases e1 : h.kind = g.kind
 ·have k1 : ((h.kind : Int) == (g.kind : Int)) = true := by simp [e1]
  have nk1 : ((h.kind : Int) != (g.kind : Int)) = false := by unfold bne; rw [k1]; rfl
  by_cases e2 : h.b = g.b
  ·have k2 : (h.b == g.b) = true := by simp [e2]
   have nk2 : (h.b != g.b) = false := by unfold bne; rw [k2]; rfl
   by_cases e3 : h.d.neg = g.d.neg
   ·have k3 : (h.d.neg == g.d.neg) = true := by simp [e3]
    have nk3 : (h.d.neg != g.d.neg) = false := by unfold bne; rw [k3]; rfl
    by_cases e4 : h.d.digits = g.d.digits
    ·have k4 : (h.d.digits.toList == g.d.digits.toList) = true := str_eq e4
     have nk4 : (h.d.digits.toList != g.d.digits.toList) = false := by unfold bne; rw [k4]; rfl
     by_cases e5 : h.d.exp = g.d.exp
     ·have k5 : ((h.d.exp : Int) == (g.d.exp : Int)) = true := by simp [e5]
      have nk5 : ((h.d.exp : Int) != (g.d.exp : Int)) = false := by unfold bne; rw [k5]; rfl
      by_cases e6 : h.u = g.u
      ·have k6 : ((h.u : Int) == (g.u : Int)) = true := by simp [e6]
       have nk6 : ((h.u : Int) != (g.u : Int)) = false := by unfold bne; rw [k6]; rfl
       by_cases e7 : h.w = g.w
       ·have k7 : ((h.w : Int) == (g.w : Int)) = true := by simp [e7]
        have nk7 : ((h.w : Int) != (g.w : Int)) = false := by unfold bne; rw [k7]; rfl
        by_cases e8 : h.s = g.s
        ·have k8 : (h.s.toList == g.s.toList) = true := str_eq e8
         have nk8 : (h.s.toList != g.s.toList) = false := by unfold bne; rw [k8]; rfl
         by_cases e9 : l.length = m.length
         ·have k9 : ((l.length : Int) == (m.length : Int)) = true := by simp [e9]
          have nk9 : ((l.length : Int) != (m.length : Int)) = false := by unfold bne; rw [k9]; rfl
          have hg := hd_ext h g e1 e2 e3 e4 e5 e6 e7 e8
          clear e1 e2 e3 e4 e5 e6 e7 e8
          have HG := Lib.hid hg
          have HL := Lib.hid e9
          clear hg e9
          go_enter Tryz.func14, Tryz.ntmps14
          go_wp2
          have hb1 : ((w.alloc (.cells #[.int .i64 h.kind, .bool h.b, .bool h.d.neg, .string h.d.digits, .int .i64 h.d.exp, .int .u64 (h.u : Int), .int .i64 h.w, .string h.s, .slice a l.length cap] 27)).alloc (.cells #[.int .i64 g.kind, .bool g.b, .bool g.d.neg, .string g.d.digits, .int .i64 g.d.exp, .int .u64 (g.u : Int), .int .i64 g.w, .string g.s, .slice a2 m.length cap2] 27)).heap[w.heap.size]? = some (.cells #[.int .i64 h.kind, .bool h.b, .bool h.d.neg, .string h.d.digits, .int .i64 h.d.exp, .int .u64 (h.u : Int), .int .i64 h.w, .string h.s, .slice a l.length cap] 27 (0, 0)) := heap_old (World.alloc_heap_new w _)
          have hb2 : ((w.alloc (.cells #[.int .i64 h.kind, .bool h.b, .bool h.d.neg, .string h.d.digits, .int .i64 h.d.exp, .int .u64 (h.u : Int), .int .i64 h.w, .string h.s, .slice a l.length cap] 27)).alloc (.cells #[.int .i64 g.kind, .bool g.b, .bool g.d.neg, .string g.d.digits, .int .i64 g.d.exp, .int .u64 (g.u : Int), .int .i64 g.w, .string g.s, .slice a2 m.length cap2] 27)).heap[w.heap.size + 1]? = some (.cells #[.int .i64 g.kind, .bool g.b, .bool g.d.neg, .string g.d.digits, .int .i64 g.d.exp, .int .u64 (g.u : Int), .int .i64 g.w, .string g.s, .slice a2 m.length cap2] 27 (0, 0)) := heap_new' (by simp)
          go_loopw [5] (fun i wr => ∃ k : Nat, k ≤ l.length ∧ i = .int .i64 (k : Int) ∧ sameL l m = sameL (l.drop k) (m.drop k) ∧ Same w wr ∧ wr.heap[w.heap.size]? = some (.cells #[.int .i64 h.kind, .bool h.b, .bool h.d.neg, .string h.d.digits, .int .i64 h.d.exp, .int .u64 (h.u : Int), .int .i64 h.w, .string h.s, .slice a l.length cap] 27 (0, 0)) ∧ wr.heap[w.heap.size + 1]? = some (.cells #[.int .i64 g.kind, .bool g.b, .bool g.d.neg, .string g.d.digits, .int .i64 g.d.exp, .int .u64 (g.u : Int), .int .i64 g.w, .string g.s, .slice a2 m.length cap2] 27 (0, 0))) (fun i _ => l.length - (RowKit.intOf i).toNat)
          case atStart => exact ⟨0, Nat.zero_le _, rfl, rfl, ((Keep.refl _ _).alloc _).alloc _, hb1, hb2⟩
          case round =>
           clear hb1 hb2
           obtain ⟨k, hk, rfl, hs, hsm, hb1, hb2⟩ := hrel
           obtain ⟨x0, x1, x2, x3, x4, x5, x6, x7, x8⟩ := cells9 hb1
           obtain ⟨y0, y1, y2, y3, y4, y5, y6, y7, y8⟩ := cells9 hb2
           by_cases hlt : k < l.length
           ·have hlt' : k < m.length := by have := HL.out; omega
            obtain ⟨b1, off1, lv1, rfl, hS1, hc1, hr1, hok1, hra1⟩ := hi k hlt
            obtain ⟨b2, off2, lv2, rfl, hS2, hc2, hr2, hok2, hra2⟩ := hi2 k hlt'
            rw [sameL_drop l m k hlt hlt'] at hs
            have ihc := fun W h1 h2 => ih _ (List.getElem_mem hlt) (m[k]'hlt') S lv1 lv2 W h1 h2
            obtain ⟨c1, hc1'⟩ : ∃ c, l[k] = c := ⟨_, rfl⟩
            obtain ⟨c2, hc2'⟩ : ∃ c, m[k] = c := ⟨_, rfl⟩
            rw [hc1'] at hs ihc hr1 hra1
            rw [hc2'] at hs ihc hr2 hra2
            obtain ⟨r, hr0⟩ : ∃ r, c1.same c2 = r := ⟨_, rfl⟩
            rw [hr0] at hs ihc
            have Hs := Lib.hid hs
            clear hs hr0 hc1 hc2 hc1' hc2' hi hi2 ih
            obtain ⟨a', cp', rfl⟩ := hr1.is_slice
            obtain ⟨a2', cp2', rfl⟩ := hr2.is_slice
            have ra1 := rangeAt_same hsm hra1
            have ra2 := rangeAt_same hsm hra2
            obtain ⟨u0, u1, u2, u3, u4, u5, u6, u7, u8⟩ := nodeAt_of ra1
            obtain ⟨v0, v1, v2, v3, v4, v5, v6, v7, v8⟩ := nodeAt_of ra2
            go_wp2_with fail
            refine (wpIn_wide (n := 0)).1 ?_
            refine wpIn_region_shut (n := 0) (fun Z => Z.heap[w.heap.size]? = some (.cells #[.int .i64 h.kind, .bool h.b, .bool h.d.neg, .string h.d.digits, .int .i64 h.d.exp, .int .u64 (h.u : Int), .int .i64 h.w, .string h.s, .slice (some ⟨b1, off1, none⟩) l.length cap] 27 (0, 0)) ∧ Z.heap[w.heap.size + 1]? = some (.cells #[.int .i64 g.kind, .bool g.b, .bool g.d.neg, .string g.d.digits, .int .i64 g.d.exp, .int .u64 (g.u : Int), .int .i64 g.w, .string g.s, .slice (some ⟨b2, off2, none⟩) m.length cap2] 27 (0, 0)) ∧ Z.rangeAt b1 (off1 + k * 9) (nodeCs c1.hd (.slice a' c1.l.length cp')) ∧ Z.rangeAt b2 (off2 + k * 9) (nodeCs c2.hd (.slice a2' c2.l.length cp2'))) reads (fun _ => trivial) rfl (by kernel_rfl) (by kernel_rfl) ⟨hb1, hb2, ra1, ra2⟩ ?_
            iterate 10 (refine shT_x rfl rfl ?_; intro K hK w' hs; obtain ⟨p0, p1, p2, p3, p4, p5, p6, p7, p8⟩ := cells9 hs.1; obtain ⟨q0, q1, q2, q3, q4, q5, q6, q7, q8⟩ := cells9 hs.2.1; obtain ⟨r0, r1, r2, r3, r4, r5, r6, r7, r8⟩ := nodeAt_of hs.2.2.1; obtain ⟨s0, s1, s2, s3, s4, s5, s6, s7, s8⟩ := nodeAt_of hs.2.2.2; go_simp; refine hK _ _ ?_; clear hK K p0 p1 p2 p3 p4 p5 p6 p7 p8 q0 q1 q2 q3 q4 q5 q6 q7 q8 r0 r1 r2 r3 r4 r5 r6 r7 r8 s0 s1 s2 s3 s4 s5 s6 s7 s8 hs w')
            refine shT_c rfl rfl ?_
            intro K hK
            go_simp
            refine (callsW (ihc _ (hr1.same smK) (hr2.same smK))).mono ?_
            rintro e w' ⟨rfl, hk'⟩
            refine hK _ _ ⟨hk'.same _ _ hb1 trivial, hk'.same _ _ hb2 trivial, rangeAt_same hk' ra1, rangeAt_same hk' ra2⟩ ?_
            clear hK K
            have hb1' := hk'.same _ _ hb1 trivial
            have hb2' := hk'.same _ _ hb2 trivial
            clear x0 x1 x2 x3 x4 x5 x6 x7 x8 y0 y1 y2 y3 y4 y5 y6 y7 y8 u0 u1 u2 u3 u4 u5 u6 u7 u8 v0 v1 v2 v3 v4 v5 v6 v7 v8
            refine shT_x rfl rfl ?_; intro K hK w' hs; obtain ⟨p0, p1, p2, p3, p4, p5, p6, p7, p8⟩ := cells9 hs.1; obtain ⟨q0, q1, q2, q3, q4, q5, q6, q7, q8⟩ := cells9 hs.2.1; obtain ⟨r0, r1, r2, r3, r4, r5, r6, r7, r8⟩ := nodeAt_of hs.2.2.1; obtain ⟨s0, s1, s2, s3, s4, s5, s6, s7, s8⟩ := nodeAt_of hs.2.2.2; go_simp; refine hK _ _ ?_; clear hK K p0 p1 p2 p3 p4 p5 p6 p7 p8 q0 q1 q2 q3 q4 q5 q6 q7 q8 r0 r1 r2 r3 r4 r5 r6 r7 r8 s0 s1 s2 s3 s4 s5 s6 s7 s8 hs w'
            refine shT_nil ?_
            have hsm' : Same w w' := hsm.trans (Keep.trans ((Keep.refl _ _).drew) hk')
            cases r with
            | true =>
             go_wp2
             go_roundw
             case rel => exact ⟨k + 1, by omega, by go_num, by simpa using Hs.out, hsm', hb1', hb2'⟩
             case measure => simp [RowKit.intOf]; omega
            | false =>
             go_wp2
             go_ret
             exact ⟨by simp [Tree.same, Hs.out], hsm'⟩
           ·obtain rfl : k = l.length := by omega
            have Hs := Lib.hid hs
            clear hs hi hi2 ih
            go_wp2
            go_ret
            refine ⟨?_, hsm⟩
            have := HL.out
            simp [Tree.same, HG.out, Hs.out, List.drop_of_length_le (show m.length ≤ l.length by omega), sameL]
         ·have hs : (Tree.node h l).same (.node g m) = false := by simp only [Tree.same, sameL_length l m e9, Bool.and_false]
          have k9 : ((l.length : Int) == (m.length : Int)) = false := by simp; omega
          have nk9 : ((l.length : Int) != (m.length : Int)) = true := by unfold bne; rw [k9]; rfl
          clear e1 e2 e3 e4 e5 e6 e7 e8 e9 hi hi2 ih
          have HS := Lib.hid hs; clear hs; go_enter Tryz.func14, Tryz.ntmps14; go_wp2; go_ret; exact ⟨by simp [HS.out], ((Keep.refl _ _).alloc _).alloc _⟩
        ·have hs : (Tree.node h l).same (.node g m) = false := by simp only [Tree.same, Bool.and_eq_false_iff, decide_eq_false_iff_not]; exact .inl fun e => e8 (by rw [e])
         have k8 : (h.s.toList == g.s.toList) = false := str_ne e8
         have nk8 : (h.s.toList != g.s.toList) = true := by unfold bne; rw [k8]; rfl
         clear e1 e2 e3 e4 e5 e6 e7 e8 hi hi2 ih
         have HS := Lib.hid hs; clear hs; go_enter Tryz.func14, Tryz.ntmps14; go_wp2; go_ret; exact ⟨by simp [HS.out], ((Keep.refl _ _).alloc _).alloc _⟩
       ·have hs : (Tree.node h l).same (.node g m) = false := by simp only [Tree.same, Bool.and_eq_false_iff, decide_eq_false_iff_not]; exact .inl fun e => e7 (by rw [e])
        have k7 : ((h.w : Int) == (g.w : Int)) = false := by simp [e7]
        have nk7 : ((h.w : Int) != (g.w : Int)) = true := by unfold bne; rw [k7]; rfl
        clear e1 e2 e3 e4 e5 e6 e7 hi hi2 ih
        have HS := Lib.hid hs; clear hs; go_enter Tryz.func14, Tryz.ntmps14; go_wp2; go_ret; exact ⟨by simp [HS.out], ((Keep.refl _ _).alloc _).alloc _⟩
      ·have hs : (Tree.node h l).same (.node g m) = false := by simp only [Tree.same, Bool.and_eq_false_iff, decide_eq_false_iff_not]; exact .inl fun e => e6 (by rw [e])
       have k6 : ((h.u : Int) == (g.u : Int)) = false := by simp; omega
       have nk6 : ((h.u : Int) != (g.u : Int)) = true := by unfold bne; rw [k6]; rfl
       clear e1 e2 e3 e4 e5 e6 hi hi2 ih
       have HS := Lib.hid hs; clear hs; go_enter Tryz.func14, Tryz.ntmps14; go_wp2; go_ret; exact ⟨by simp [HS.out], ((Keep.refl _ _).alloc _).alloc _⟩
     ·have hs : (Tree.node h l).same (.node g m) = false := by simp only [Tree.same, Bool.and_eq_false_iff, decide_eq_false_iff_not]; exact .inl fun e => e5 (by rw [e])
      have k5 : ((h.d.exp : Int) == (g.d.exp : Int)) = false := by simp [e5]
      have nk5 : ((h.d.exp : Int) != (g.d.exp : Int)) = true := by unfold bne; rw [k5]; rfl
      clear e1 e2 e3 e4 e5 hi hi2 ih
      have HS := Lib.hid hs; clear hs; go_enter Tryz.func14, Tryz.ntmps14; go_wp2; go_ret; exact ⟨by simp [HS.out], ((Keep.refl _ _).alloc _).alloc _⟩
    ·have hs : (Tree.node h l).same (.node g m) = false := by simp only [Tree.same, Bool.and_eq_false_iff, decide_eq_false_iff_not]; exact .inl fun e => e4 (by rw [e])
     have k4 : (h.d.digits.toList == g.d.digits.toList) = false := str_ne e4
     have nk4 : (h.d.digits.toList != g.d.digits.toList) = true := by unfold bne; rw [k4]; rfl
     clear e1 e2 e3 e4 hi hi2 ih
     have HS := Lib.hid hs; clear hs; go_enter Tryz.func14, Tryz.ntmps14; go_wp2; go_ret; exact ⟨by simp [HS.out], ((Keep.refl _ _).alloc _).alloc _⟩
   ·have hs : (Tree.node h l).same (.node g m) = false := by simp only [Tree.same, Bool.and_eq_false_iff, decide_eq_false_iff_not]; exact .inl fun e => e3 (by rw [e])
    have k3 : (h.d.neg == g.d.neg) = false := by simp [e3]
    have nk3 : (h.d.neg != g.d.neg) = true := by unfold bne; rw [k3]; rfl
    clear e1 e2 e3 hi hi2 ih
    have HS := Lib.hid hs; clear hs; go_enter Tryz.func14, Tryz.ntmps14; go_wp2; go_ret; exact ⟨by simp [HS.out], ((Keep.refl _ _).alloc _).alloc _⟩
  ·have hs : (Tree.node h l).same (.node g m) = false := by simp only [Tree.same, Bool.and_eq_false_iff, decide_eq_false_iff_not]; exact .inl fun e => e2 (by rw [e])
   have k2 : (h.b == g.b) = false := by simp [e2]
   have nk2 : (h.b != g.b) = true := by unfold bne; rw [k2]; rfl
   clear e1 e2 hi hi2 ih
   have HS := Lib.hid hs; clear hs; go_enter Tryz.func14, Tryz.ntmps14; go_wp2; go_ret; exact ⟨by simp [HS.out], ((Keep.refl _ _).alloc _).alloc _⟩
 ·have hs : (Tree.node h l).same (.node g m) = false := by simp only [Tree.same, Bool.and_eq_false_iff, decide_eq_false_iff_not]; exact .inl fun e => e1 (by rw [e])
  have k1 : ((h.kind : Int) == (g.kind : Int)) = false := by simp [e1]
  have nk1 : ((h.kind : Int) != (g.kind : Int)) = true := by unfold bne; rw [k1]; rfl
  clear e1 hi hi2 ih
  have HS := Lib.hid hs; clear hs; go_enter Tryz.func14, Tryz.ntmps14; go_wp2; go_ret; exact ⟨by simp [HS.out], ((Keep.refl _ _).alloc _).alloc _⟩
end Go.Tm
namespace Go.Tm
open Go.RowKit Go.Proofs
theorem bytes_all (s : ByteArray) (p : Nat → Bool) : (bytesN s).all p = true ↔ ∀ k (h : k < s.size), p (s[k]'h).toNat = true := by
 unfold bytesN
 rw [List.all_eq_true]
 constructor
 ·intro h k hk
  refine h _ (List.mem_map.2 ⟨s[k], ?_, rfl⟩)
  exact Array.getElem_mem_toList hk
 ·intro h x hx
  obtain ⟨b, hb, rfl⟩ := List.mem_map.1 hx
  obtain ⟨k, hk, rfl⟩ := List.getElem_of_mem hb
  exact h k hk
theorem natRight_eq (s : ByteArray) : natRight (bytesN s) = (decide (1 ≤ s.size) && decide (s.size ≤ 400) && !(decide (1 < s.size) && decide (nth (bytesN s) 0 = 48)) && (bytesN s).all isDig) := by
 have hl := bytesN_length s
 unfold natRight
 rw [hl]
 obtain ⟨l, hb⟩ : ∃ l, bytesN s = l := ⟨_, rfl⟩
 rw [hb] at hl ⊢
 cases l with
 | nil =>
  have : s.size = 0 := by simpa using hl.symm
  simp [this]
 | cons c l =>
  have h1 : 1 ≤ s.size := by rw [← hl]; simp
  have e : (c == 48) = decide (c = 48) := by by_cases hc : c = 48 <;> simp [hc]
  simp [h1, nth, e, Bool.and_comm]
set_option maxRecDepth 100000 in
set_option maxHeartbeats 2000000 in
theorem refRight_any (s : ByteArray) (w : World) (hs : s.size ≤ 9223372036854775807) : Calls Tryz.prog 169 #[.string s] w fun e w' => e = .returned (.bool (natRight (bytesN s))) ∧ w' = w := by
 have hn := natRight_eq s
 have ha := bytes_all s isDig
 have h0 := fun h => nth_bytes s (k := 0) h
 obtain ⟨R, hR⟩ : ∃ R, natRight (bytesN s) = R := ⟨_, rfl⟩
 obtain ⟨A, hA⟩ : ∃ A, (bytesN s).all isDig = A := ⟨_, rfl⟩
 obtain ⟨z, hz⟩ : ∃ z, nth (bytesN s) 0 = z := ⟨_, rfl⟩
 rw [hR, hA, hz] at hn
 rw [hA] at ha
 rw [hz] at h0
 rw [hR]
 have HN := Lib.hid hn
 have HA := Lib.hid ha
 clear hR hA hz hn ha
 by_cases c1 : s.size < 1
 ·have hr : R = false := by rw [HN.out]; simp [show ¬ 1 ≤ s.size by omega]
  subst hr
  clear h0 HN HA
  go_enter Tryz.func169, Tryz.ntmps169
  go_wp2
  go_ret
  exact ⟨rfl, rfl⟩
 by_cases c2 : 400 < s.size
 ·have hr : R = false := by rw [HN.out]; simp [show ¬ s.size ≤ 400 by omega]
  subst hr
  clear h0 HN HA
  go_enter Tryz.func169, Tryz.ntmps169
  go_wp2
  go_ret
  exact ⟨rfl, rfl⟩
 have hz0 := h0 (by omega)
 clear h0
 have hp0 : 0 < s.size := by omega
 by_cases c3 : 1 < s.size ∧ z = 48
 ·have hr : R = false := by rw [HN.out]; simp [c3.1, c3.2]
  obtain ⟨c3, rfl⟩ := c3
  have hz1 := hz0.symm
  subst hr
  clear hz0 HN HA
  go_enter Tryz.func169, Tryz.ntmps169
  go_wp2
  go_ret
  exact ⟨rfl, rfl⟩
 have hr : R = A := by
  rw [HN.out]
  have e1 : (decide (1 < s.size) && decide (z = 48)) = false := by rw [← Bool.not_eq_true, Bool.and_eq_true, decide_eq_true_eq, decide_eq_true_eq]; exact c3
  rw [e1]
  simp [show 1 ≤ s.size by omega, show s.size ≤ 400 by omega]
 subst hr
 have hz1 := hz0.symm
 clear hz0 HN
 have hloop : ∀ (a : Prop), a → a := fun _ h => h
 have c3' : ¬ 1 < s.size ∨ (1 < s.size ∧ ((z : Int) == 48) = false) := by
  by_cases h : 1 < s.size
  ·right; refine ⟨h, ?_⟩; rw [beq_eq_false_iff_ne]; intro e; exact c3 ⟨h, by omega⟩
  ·exact .inl h
 clear c3
 rcases c3' with c3 | ⟨c3, c4⟩
 all_goals
  go_enter Tryz.func169, Tryz.ntmps169
  go_wp2
  go_loopw [3] (fun i wr => ∃ k : Nat, k ≤ s.size ∧ i = .int .i64 k ∧ (∀ j (h : j < s.size), j < k → isDig (s[j]'h).toNat = true) ∧ wr = w) (fun i _ => s.size - (RowKit.intOf i).toNat)
  case atStart => exact ⟨0, Nat.zero_le _, rfl, fun j _ hj => absurd hj (Nat.not_lt_zero j), rfl⟩
  case round =>
   obtain ⟨k, hk, rfl, hno, rfl⟩ := hrel
   have Hno := Lib.hid hno
   clear hno hz1 hloop
   by_cases hlt : k < s.size
   ·obtain ⟨x, hx⟩ : ∃ x, (s[k]'hlt).toNat = x := ⟨_, rfl⟩
    by_cases d1 : x < 48
    ·have hA : R = false := by
      rw [← Bool.not_eq_true]
      intro e
      have := (HA.out.1 e) k hlt
      rw [hx] at this
      simp [isDig] at this; omega
     subst hA
     clear HA Hno
     go_wp2
     go_ret
     exact ⟨rfl, rfl⟩
    by_cases d2 : 57 < x
    ·have hA : R = false := by
      rw [← Bool.not_eq_true]
      intro e
      have := (HA.out.1 e) k hlt
      rw [hx] at this
      simp [isDig] at this; omega
     subst hA
     clear HA Hno
     go_wp2
     go_ret
     exact ⟨rfl, rfl⟩
    go_wp2
    go_roundw
    case rel =>
     refine ⟨k + 1, by omega, by go_num, fun j h hj => ?_, trivial⟩
     by_cases e : j = k
     ·subst e; rw [hx]; simp [isDig]; omega
     ·exact Hno.out j h (by omega)
    case measure => simp [RowKit.intOf]; omega
   ·have hA : R = true := HA.out.2 fun j h => Hno.out j h (by omega)
    subst hA
    clear HA Hno
    go_wp2
    go_ret
    exact ⟨rfl, rfl⟩
end Go.Tm
