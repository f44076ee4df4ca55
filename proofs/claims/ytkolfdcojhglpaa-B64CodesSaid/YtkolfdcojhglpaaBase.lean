/-
  Memory relations and the law of a range over a function, over any program: what the walks of this seat lean on.
-/
import Derived.RangeFuncNested
import Derived.RangeFuncBound
import Derived.RangeFuncCalls
import Derived.RangeFuncLeaves
import Derived.WalkKit
import Derived.OwnWalkIn
import Derived.TacticsInMore
import Derived.LoopNIn
import Derived.LoopIn
import Derived.WalkLawsBesides
import Derived.WalkSpells
import Derived.Lib.Hide
set_option linter.unusedVariables false
namespace Go.Tm
open Go.RowKit

/-! ### Lists of numbers, read by place -/
def nth (xs : List Nat) (i : Nat) : Nat := xs.getD i 0
def bytesN (s : ByteArray) : List Nat := s.data.toList.map (·.toNat)
theorem bytesN_length (s : ByteArray) : (bytesN s).length = s.size := by simp [bytesN]
theorem nth_bytes (s : ByteArray) {k : Nat} (h : k < s.size) : nth (bytesN s) k = (s[k]).toNat := by
  have h' : k < s.data.toList.length := by simpa using h
  simp only [nth, bytesN, List.getD_eq_getElem?_getD, List.getElem?_map, List.getElem?_eq_getElem h', Option.map_some, Option.getD_some]
  rfl
theorem nth_lt (s : ByteArray) (k : Nat) : nth (bytesN s) k < 256 := by
  unfold nth bytesN
  rw [List.getD_eq_getElem?_getD, List.getElem?_map]
  cases s.data.toList[k]? with
  | none => simp
  | some c => simpa using c.toNat_lt
theorem wrap_u64 {x : Int} (h0 : 0 ≤ x) (h1 : x < 18446744073709551616) : IntKind.u64.wrap x = x := by
  simp only [IntKind.wrap, IntKind.bits, IntKind.signed]
  simp
  omega

theorem wrap_i32 {x : Int} (h0 : -2147483648 ≤ x) (h1 : x < 2147483648) : IntKind.i32.wrap x = x := by
  simp only [IntKind.wrap, IntKind.bits, IntKind.signed]
  simp
  omega

/-! ### Blocks that lie as they lay -/

/-- Every block (number, what it holds) that meets S lies as it lay. -/
structure Keep (S : Nat → Obj → Prop) (w w' : World) : Prop where
  os : w'.os = w.os
  tape : w'.tape = w.tape
  output : w'.output = w.output
  size : w.heap.size ≤ w'.heap.size
  same : ∀ (b : Nat) (o : Obj), w.heap[b]? = some o → S b o → w'.heap[b]? = some o

abbrev All : Nat → Obj → Prop := fun _ _ => True
/-- All blocks but those of M lie as they lay. -/
abbrev Mod (M : Nat → Prop) (w w' : World) : Prop := Keep (fun b _ => ¬ M b) w w'
/-- All blocks lie as they lay. -/
abbrev Same (w w' : World) : Prop := Keep All w w'

section
variable {S S' : Nat → Obj → Prop} {a b c w w' : World}

theorem Keep.refl (S : Nat → Obj → Prop) (w : World) : Keep S w w := ⟨rfl, rfl, rfl, Nat.le_refl _, fun _ _ h _ => h⟩
theorem Keep.trans (h : Keep S a b) (k : Keep S b c) : Keep S a c :=
  ⟨k.os.trans h.os, k.tape.trans h.tape, k.output.trans h.output, Nat.le_trans h.size k.size, fun i o hi hs => k.same i o (h.same i o hi hs) hs⟩
theorem Keep.mono (h : Keep S w w') (hs : ∀ b o, w.heap[b]? = some o → S' b o → S b o) : Keep S' w w' :=
  ⟨h.os, h.tape, h.output, h.size, fun b o hb hS => h.same b o hb (hs b o hb hS)⟩
theorem Keep.of_same (h : Same w w') : Keep S w w' := h.mono fun _ _ _ _ => trivial
theorem Keep.drew (h : Keep S a w) : Keep S a w.drew := ⟨h.os, h.tape, h.output, h.size, h.same⟩
theorem Keep.drewN (h : Keep S a w) (n : Nat) : Keep S a (w.drewN n) := ⟨h.os, h.tape, h.output, h.size, h.same⟩
theorem lt_of_some {w : World} {b : Nat} {o : Obj} (h : w.heap[b]? = some o) : b < w.heap.size := (Array.getElem?_eq_some_iff.1 h).1
theorem Keep.alloc (h : Keep S a w) (o : Obj) : Keep S a (w.alloc o) :=
  h.trans ⟨rfl, rfl, rfl, by simp, fun b o' hb _ => (Below.heap_alloc w o b (lt_of_some hb)).trans hb⟩
theorem Keep.setCell (h : Keep S a w) {p : Addr} (v : Value) (hp : ∀ o, w.heap[p.block]? = some o → S p.block o → p.block < a.heap.size → False) : Keep S a (w.setCell p v) :=
  ⟨h.os, h.tape, h.output, Nat.le_trans h.size (by simp [World.setCell]), fun b o hb hS => by
    have h1 := h.same b o hb hS
    rw [Below.heap_setCell]
    · exact h1
    · rintro rfl; exact hp o h1 hS (lt_of_some hb)⟩
theorem Keep.putObj (h : Keep S a w) {r : Nat} (v : Obj) (hp : ∀ o, w.heap[r]? = some o → S r o → r < a.heap.size → False) : Keep S a (w.putObj r v) :=
  ⟨h.os, h.tape, h.output, Nat.le_trans h.size (by simp), fun b o hb hS => by
    have h1 := h.same b o hb hS
    rw [World.putObj_heap_other]
    · exact h1
    · rintro rfl; exact hp o h1 hS (lt_of_some hb)⟩
theorem Keep.grown (h : Keep S a w) {row : Option Nat} (hg : w.grownBy w' row) (hr : ∀ r, row = some r → ∀ o, w.heap[r]? = some o → S r o → r < a.heap.size → False) : Keep S a w' :=
  ⟨hg.os.trans h.os, hg.tape.trans h.tape, hg.output.trans h.output, Nat.le_trans h.size hg.size, fun b o hb hS => by
    have h1 := h.same b o hb hS
    rw [hg.block b (lt_of_some h1) (fun e => hr b e.symm o h1 hS (lt_of_some hb))]
    exact h1⟩
theorem Keep.below {B : Nat} (h : Below B w w') (hS : ∀ b o, w.heap[b]? = some o → S b o → b < B) : Keep S w w' :=
  ⟨h.os, h.tape, h.output, h.size, fun b o hb hs => (h.block b (hS b o hb hs)).trans hb⟩
theorem Keep.toBelow {B : Nat} (h : Keep S w w') (hB : B ≤ w.heap.size) (hS : ∀ b o, w.heap[b]? = some o → b < B → S b o) : Below B w w' :=
  ⟨h.os, h.tape, h.output, h.size, fun b hb => by
    have : b < w.heap.size := by omega
    obtain ⟨o, ho⟩ : ∃ o, w.heap[b]? = some o := ⟨_, Array.getElem?_eq_getElem this⟩
    rw [h.same b o ho (hS b o ho hb), ho]⟩
theorem same_below (h : Same w w') : Below w.heap.size w w' := h.toBelow (Nat.le_refl _) fun _ _ _ _ => trivial
theorem Keep.of_below (h : Below w.heap.size w w') : Same w w' := Keep.below h fun b _ hb _ => lt_of_some hb

/-- A block just laid, and one that lay. -/
theorem heap_new' {w : World} {o : Obj} {b : Nat} (hb : b = w.heap.size) : (w.alloc o).heap[b]? = some o := by subst hb; exact World.alloc_heap_new w o
theorem heap_old {w : World} {o x : Obj} {b : Nat} (h : w.heap[b]? = some x) : (w.alloc o).heap[b]? = some x := (Below.heap_alloc w o b (lt_of_some h)).trans h

/-- A cell in a kept block. -/
theorem Keep.cell (h : Keep S w w') {p : Addr} {v : Value} (hc : w.cell? p = some v) (hS : ∀ o, w.heap[p.block]? = some o → S p.block o) : w'.cell? p = some v := by
  unfold World.cell? at hc ⊢
  cases ho : w.heap[p.block]? with
  | none => rw [ho] at hc; cases hc
  | some o => rw [h.same _ o ho (hS o ho)]; rw [ho] at hc; exact hc
theorem cell_block {w : World} {p : Addr} {v : Value} (hc : w.cell? p = some v) : ∃ o, w.heap[p.block]? = some o ∧ o.isCells = true := by
  unfold World.cell? at hc
  cases ho : w.heap[p.block]? with
  | none => rw [ho] at hc; cases hc
  | some o => rw [ho] at hc; cases o <;> first | exact ⟨_, rfl, rfl⟩ | (cases hc)
theorem Keep.boxed (h : Keep S w w') {b : Nat} {t : TypeId} {v : Value} (hb : Boxed w b t v) (hS : S b (.cells #[v] t (0, 0))) : Boxed w' b t v := h.same b _ hb hS
end

theorem cell_lt {w : World} {b o : Nat} {v : Value} (hc : w.cell? ⟨b, o, none⟩ = some v) : b < w.heap.size := by
  obtain ⟨_, ho, _⟩ := cell_block hc
  exact lt_of_some ho
theorem cell_ne_loop {w : World} {p : Addr} {v : Value} {l : Nat} {r : Loop} (hc : w.cell? p = some v) (hl : w.heap[l]? = some (.loop r)) : p.block ≠ l := by
  rintro rfl
  obtain ⟨o, ho, hk⟩ := cell_block hc
  rw [hl] at ho; cases ho; cases hk

/-! ### An iterator's contract -/

/-- The iterator (function g, captured lb), called at whatever yield in world W: n elements come, the i-th with E i; between two rounds it keeps what Si names, a round keeps what Sb names; at its end Fin (it ran out) or FinX i (the round for element i said 'no more'). -/
def IterAt (P : Program) (g : Nat) (lb : Array Value) (n : Nat) (E : Nat → Array Value → World → Prop) (Sb Si : Nat → Obj → Prop) (Fin : World → Prop) (FinX : Nat → World → Prop) (W : World) : Prop :=
  ∀ (l : Nat) (J Jx : Nat → World → Prop), (∃ r, W.heap[l]? = some (.loop r)) →
    (∀ i A B, J i A → Keep Si A B → J i B) → (∀ i A B, Jx i A → Keep Si A B → Jx i B) →
    (∀ i v A, i < n → J i A → E i v A → YieldAt Fence.wide 0 P l v A fun e B =>
      Keep (fun b o => b ≠ l ∧ Sb b o) A B ∧ ((e = .returned (.bool true) ∧ J (i + 1) B) ∨ (e = .returned (.bool false) ∧ Jx i B))) →
    J 0 W →
    CallsIn Fence.wide 0 P g (#[.func (.yield l) #[] #[]] ++ lb) W fun e B => (∃ v, e = .returned v) ∧ ((J n B ∧ Fin B) ∨ (∃ i, i < n ∧ Jx i B ∧ FinX i B))

@[simp, go_sem] theorem wide_fn (f : FuncId) : Fence.wide.fn f = True := rfl
@[simp, go_sem] theorem wide_depth : Fence.wide.depth = none := rfl
attribute [go_sem] Oper.semAt_some

/-- How the body of a round may be left. -/
def roundEnd (Sb : Nat → Obj → Prop) (I : Nat → World → Prop) (Ix : Nat → Code → World → Prop) (i : Nat) (A : World) : Exit → Act → World → Prop
  | .normal, _, B => Keep Sb A B ∧ I (i + 1) B
  | .ret, _, B => Keep Sb A B ∧ Ix i .ret B
  | .exit id, _, B => Keep Sb A B ∧ Ix i (.exit id) B
  | .goto t, _, B => Keep Sb A B ∧ Ix i (.goto t) B
  | .panic _, _, _ => False
  | .outgrown, _, _ => False

variable {P : Program} {w : World}

/-- The law of 'for .. := range g', outside of every round: D is the block for the rounds' deferred calls. -/
theorem wp_range {g : Operand} {ps : Array Tmp} {assign body : Code} {Q : Exit → Act → World → Prop} {a : Act} {gf : Nat} {lb : Array Value}
    (hg : a.eval g = .func (.func gf) #[] lb) (eg : ∀ args w, (callFunc gf args).run P w = .ok (.enter gf args) w)
    (n : Nat) (E : Nat → Array Value → World → Prop) (Sb Si : Nat → Obj → Prop) (Fin : World → Prop) (FinX : Nat → World → Prop)
    (hit : ∀ W, Same w W → W.heap.size = w.heap.size + 2 → IterAt P gf lb n E Sb Si Fin FinX W)
    (hSb : ∀ b o, w.heap.size ≤ b → o.isCells = false → Sb b o) (hSi : ∀ b o, w.heap.size ≤ b → b < w.heap.size + 2 → o.isCells = false → Si b o)
    (I : Nat → World → Prop) (Ix : Nat → Code → World → Prop)
    (hI : ∀ i A B, I i A → Keep (fun b o => (b < w.heap.size ∨ o.isCells = true) ∧ Si b o) A B → I i B)
    (hIx : ∀ i c A B, Ix i c A → Keep (fun b o => (b < w.heap.size ∨ o.isCells = true) ∧ Si b o) A B → Ix i c B)
    (hE : ∀ i v A B, E i v A → Keep (fun b o => b < w.heap.size ∨ o.isCells = true) A B → E i v B)
    (hFin : ∀ A B, Fin A → Keep (fun b o => b < w.heap.size ∨ o.isCells = true) A B → Fin B)
    (hFinX : ∀ i A B, FinX i A → Keep (fun b o => b < w.heap.size ∨ o.isCells = true) A B → FinX i B)
    (hEs : ∀ i v A, E i v A → v.size = ps.size)
    (h0 : I 0 w) (Ax : Nat → Array Value → Act → World → Prop)
    (hAx : ∀ i v a' A B, Ax i v a' A → Keep (fun b o => (b < w.heap.size ∨ o.isCells = true)) A B → Ax i v a' B)
    (hassign : ∀ (l i : Nat) (v : Array Value) (A : World) (K : Act → World → Prop), i < n → I i A → E i v A → (∀ a' A', Same A A' → I i A' → E i v A' → Ax i v a' A' → K a' A') →
      assign.wpIn (Fence.wide.inRound l) 0 P (Exit.then K (fun _ _ _ => False)) { tmps := (ps.zip v).foldl (fun t (p, x) => t.setIfInBounds p x) a.tmps, defers := [] } A)
    (hbody : ∀ (l i : Nat) (v : Array Value) (a' : Act) (A : World), w.heap.size ≤ l → (∃ r, A.heap[l]? = some (.loop r)) → i < n → I i A → E i v A → Ax i v a' A →
      body.wpIn (Fence.wide.inRound l) 0 P (roundEnd Sb I Ix i A) a' A)
    (hdone : ∀ (D : Nat) (W : World), w.heap.size ≤ D → I n W → Fin W → Keep (fun b o => Sb b o ∧ Si b o) w W → W.heap[D]? = some (.deferred (some [])) →
      Q .normal { a with defers := { target := .collected D, args := #[] } :: a.defers } W)
    (hstop : ∀ (D i : Nat) (c : Code) (W : World), w.heap.size ≤ D → i < n → Ix i c W → FinX i W → Keep (fun b o => Sb b o ∧ Si b o) w W → W.heap[D]? = some (.deferred (some [])) →
      c.wpIn Fence.wide 0 P Q { a with defers := { target := .collected D, args := #[] } :: a.defers } W) :
    (Code.rangeFunc g ps assign body).wpIn Fence.wide 0 P Q a w := by
  refine wpIn_rangeFunc ?_
  intro fn hfn
  show ∃ (l : Nat) (mark : List Deferred) (w₁ : World) (d : Deferred) (w₁' : World) (f : FuncId) (args : Array Value) (w₂ : World), _
  obtain ⟨rec, hrec⟩ : ∃ rec : LoopState → Option Code → Loop, rec = fun st pe => { state := st, pending := pe, fn, tmps := a.tmps, params := ps, assign, body, defers := w.heap.size } := ⟨_, rfl⟩
  obtain ⟨W1, hW1⟩ : ∃ W1, (w.alloc (.deferred (some []))).alloc (.loop (rec .ready none)) = W1 := ⟨_, rfl⟩
  have hL1 : W1.heap[w.heap.size + 1]? = some (.loop (rec .ready none)) := by
    rw [← hW1]; have := World.alloc_heap_new (w.alloc (.deferred (some []))) (.loop (rec .ready none)); rwa [World.size_alloc] at this
  have hK1 : W1.heap[w.heap.size]? = some (.deferred (some [])) := by
    rw [← hW1]; exact (Below.heap_alloc _ _ _ (by simp)).trans (World.alloc_heap_new w _)
  have hs1 : Same w W1 := by rw [← hW1]; exact ((Keep.refl _ w).alloc _).alloc _
  have hz1 : W1.heap.size = w.heap.size + 2 := by rw [← hW1]; simp
  have hI1 : I 0 W1 := hI _ _ _ h0 (Keep.of_same hs1)
  refine ⟨w.heap.size + 1, [{ target := .collected w.heap.size, args := #[] }], W1, { target := .fn (.func gf) lb, args := #[.func (.yield (w.heap.size + 1)) #[] #[]] }, W1, gf,
    #[.func (.yield (w.heap.size + 1)) #[] #[]] ++ lb, W1, ?_, ?_, ?_, ?_, fun h => by simp at h, ?_⟩
  · rw [← hW1, hrec]; exact run_enterLoop_outer _ _ _ _ _
  · simp only [resolve, hg]
    simp [go_sem]
  · intro f' _; trivial
  · simp [invoke, go_sem, eg]
  · have turn : ∀ (A : World) (r : Loop) (o : Obj), A.heap[w.heap.size + 1]? = some (.loop r) → Keep (fun b o => b < w.heap.size ∨ o.isCells = true) A (A.putObj (w.heap.size + 1) o) := fun A r o hA =>
      (Keep.refl _ A).putObj o fun o' ho' hS _ => by rw [hA] at ho'; cases ho'; simp [Obj.isCells] at hS; omega
    have turnI : ∀ (A : World) (r : Loop) (o : Obj), A.heap[w.heap.size + 1]? = some (.loop r) → Keep (fun b o => (b < w.heap.size ∨ o.isCells = true) ∧ Si b o) A (A.putObj (w.heap.size + 1) o) := fun A r o hA =>
      (turn A r o hA).mono fun _ _ _ h => h.1
    have turnS : ∀ (A : World) (o : Obj), Keep (fun b o => Sb b o ∧ Si b o) w A → Keep (fun b o => Sb b o ∧ Si b o) w (A.putObj (w.heap.size + 1) o) := fun A o hA =>
      hA.putObj o fun _ _ _ h => by omega
    refine ((hit W1 hs1 hz1) (w.heap.size + 1)
      (fun i W => I i W ∧ W.heap[w.heap.size + 1]? = some (.loop (rec .ready none)) ∧ W.heap[w.heap.size]? = some (.deferred (some [])) ∧ Keep (fun b o => Sb b o ∧ Si b o) w W)
      (fun i W => ∃ c, Ix i c W ∧ W.heap[w.heap.size + 1]? = some (.loop (rec .done (some c))) ∧ W.heap[w.heap.size]? = some (.deferred (some [])) ∧ Keep (fun b o => Sb b o ∧ Si b o) w W)
      ⟨_, hL1⟩ ?_ ?_ ?_ ⟨hI1, hL1, hK1, Keep.of_same hs1⟩).mono ?_
    · rintro i A B ⟨h1, h2, h3, h4⟩ hk
      exact ⟨hI _ _ _ h1 (hk.mono fun _ _ _ h => h.2), hk.same _ _ h2 (hSi _ _ (by omega) (by omega) rfl), hk.same _ _ h3 (hSi _ _ (Nat.le_refl _) (by omega) rfl), h4.trans (hk.mono fun _ _ _ h => h.2)⟩
    · rintro i A B ⟨c, h1, h2, h3, h4⟩ hk
      exact ⟨c, hIx _ _ _ _ h1 (hk.mono fun _ _ _ h => h.2), hk.same _ _ h2 (hSi _ _ (by omega) (by omega) rfl), hk.same _ _ h3 (hSi _ _ (Nat.le_refl _) (by omega) rfl), h4.trans (hk.mono fun _ _ _ h => h.2)⟩
    · -- one round
      rintro i v W hin ⟨hi, hl, hk, hS⟩ he
      have hy := run_yield (P := P) (args := v) hl (by rw [hrec]; exact hEs i v W he)
      rw [hrec] at hy
      refine ⟨fn, _, assign, body, hy, roundIn_of_wpIn hfn (hassign _ i v W _ hin hi he ?_)⟩
      clear hy
      intro a' Wa hsa hia hea hax
      have hla := hsa.same _ _ hl trivial
      have hka := hsa.same _ _ hk trivial
      refine ⟨_, run_beginRound hla (by rw [hrec]), ?_⟩
      have hlt : w.heap.size + 1 < Wa.heap.size := lt_of_some hla
      have hl2 : (Wa.putObj (w.heap.size + 1) (.loop { rec .ready none with state := .busy })).heap[w.heap.size + 1]? = some (.loop { rec .ready none with state := .busy }) := World.putObj_heap_same hlt
      have hk2 : (Wa.putObj (w.heap.size + 1) (.loop { rec .ready none with state := .busy })).heap[w.heap.size]? = some (.deferred (some [])) := (World.putObj_heap_other (by omega)).trans hka
      have t2 := turn Wa _ (.loop { rec .ready none with state := .busy }) hla
      refine wpIn_mono (hbody _ i v a' _ (by omega) ⟨_, hl2⟩ hin (hI _ _ _ hia (turnI Wa _ _ hla)) (hE _ _ _ _ hea t2) (hAx _ _ _ _ _ hax t2)) ?_
      have hS2 : Keep (fun b o => Sb b o ∧ Si b o) w (Wa.putObj (w.heap.size + 1) (.loop { rec .ready none with state := .busy })) := turnS _ _ (hS.trans (Keep.of_same hsa))
      have fin : ∀ (jump : Option Code) (W3 : World), Keep Sb (Wa.putObj (w.heap.size + 1) (.loop { rec .ready none with state := .busy })) W3 →
          (Instr.endRound (w.heap.size + 1) jump).run P W3 = .ok (.bool jump.isNone) (W3.putObj (w.heap.size + 1) (.loop (rec (if jump.isNone then .ready else .done) jump))) ∧
          W3.heap[w.heap.size + 1]? = some (.loop { rec .ready none with state := .busy }) ∧
          (W3.putObj (w.heap.size + 1) (.loop (rec (if jump.isNone then .ready else .done) jump))).heap[w.heap.size + 1]? = some (.loop (rec (if jump.isNone then .ready else .done) jump)) ∧
          (W3.putObj (w.heap.size + 1) (.loop (rec (if jump.isNone then .ready else .done) jump))).heap[w.heap.size]? = some (.deferred (some [])) ∧
          Keep (fun b o => Sb b o ∧ Si b o) w (W3.putObj (w.heap.size + 1) (.loop (rec (if jump.isNone then .ready else .done) jump))) ∧
          Keep (fun b o => b ≠ w.heap.size + 1 ∧ Sb b o) W (W3.putObj (w.heap.size + 1) (.loop (rec (if jump.isNone then .ready else .done) jump))) := fun jump W3 hk3 => by
        have hl3 := hk3.same _ _ hl2 (hSb _ _ (by omega) rfl)
        have hd3 := hk3.same _ _ hk2 (hSb _ _ (Nat.le_refl _) rfl)
        have := run_endRound (P := P) jump hl3
        rw [hrec] at this ⊢
        rw [hrec] at hl3
        refine ⟨this, hl3, World.putObj_heap_same (lt_of_some hl3), (World.putObj_heap_other (by omega)).trans hd3, turnS _ _ (hS2.trans (hk3.mono fun _ _ _ h => h.1)), ?_⟩
        refine ⟨hk3.os.trans hsa.os, hk3.tape.trans hsa.tape, hk3.output.trans hsa.output, by have := hk3.size; have := hsa.size; simp at *; omega, fun b o hb hs => ?_⟩
        rw [World.putObj_heap_other hs.1]
        exact hk3.same b o ((World.putObj_heap_other hs.1).trans (hsa.same b o hb trivial)) hs.2
      rintro e a3 W3 hp
      cases e with
      | normal =>
        obtain ⟨hk3, hi3⟩ := hp
        obtain ⟨hr, hl3, hl4, hk4, hs4, hb4⟩ := fin none W3 hk3
        exact ⟨_, _, hr, hb4, .inl ⟨rfl, hI _ _ _ hi3 (turnI W3 _ _ hl3), hl4, hk4, hs4⟩⟩
      | ret =>
        obtain ⟨hk3, hi3⟩ := hp
        obtain ⟨hr, hl3, hl4, hk4, hs4, hb4⟩ := fin (some .ret) W3 hk3
        exact ⟨_, _, hr, hb4, .inr ⟨rfl, .ret, hIx _ _ _ _ hi3 (turnI W3 _ _ hl3), hl4, hk4, hs4⟩⟩
      | exit id =>
        obtain ⟨hk3, hi3⟩ := hp
        obtain ⟨hr, hl3, hl4, hk4, hs4, hb4⟩ := fin (some (.exit id)) W3 hk3
        exact ⟨_, _, hr, hb4, .inr ⟨rfl, .exit id, hIx _ _ _ _ hi3 (turnI W3 _ _ hl3), hl4, hk4, hs4⟩⟩
      | goto t =>
        obtain ⟨hk3, hi3⟩ := hp
        obtain ⟨hr, hl3, hl4, hk4, hs4, hb4⟩ := fin (some (.goto t)) W3 hk3
        exact ⟨_, _, hr, hb4, .inr ⟨rfl, .goto t, hIx _ _ _ _ hi3 (turnI W3 _ _ hl3), hl4, hk4, hs4⟩⟩
      | panic ch => exact hp.elim
      | outgrown => exact hp.elim
    · -- behind the iterator
      rintro e W2 ⟨⟨v, rfl⟩, (⟨⟨hi, hl, hk, hs⟩, hf⟩ | ⟨i, hin, ⟨c, hi, hl, hk, hs⟩, hf⟩)⟩
      · have t2 := turn W2 _ (.loop { rec .ready none with state := .exhausted }) hl
        refine ⟨none, _, by have := run_endLoop (P := P) hl (by rw [hrec]; simp); rw [hrec] at this; exact this, ?_⟩
        have := hdone w.heap.size _ (Nat.le_refl _) (hI _ _ _ hi (turnI W2 _ _ hl)) (hFin _ _ hf t2) (turnS _ _ hs) ((World.putObj_heap_other (by omega)).trans hk)
        rw [hrec] at this
        exact this
      · have t2 := turn W2 _ (.loop { rec .done (some c) with state := .exhausted }) hl
        refine ⟨some c, _, by have := run_endLoop (P := P) hl (by rw [hrec]; simp); rw [hrec] at this; exact this, ?_⟩
        have := hstop w.heap.size i c _ (Nat.le_refl _) hin (hIx _ _ _ _ hi (turnI W2 _ _ hl)) (hFinX _ _ _ hf t2) (turnS _ _ hs) ((World.putObj_heap_other (by omega)).trans hk)
        rw [hrec] at this
        exact this

/-- Calls in a round, and outside. -/
theorem callsR {f : FuncId} {args : Array Value} {R : Ending → World → Prop} {m : Nat} (l : Nat) (h : Calls P f args w R) : CallsIn (Fence.wide.inRound l) m P f args w R := CallsIn.inRound l (callsIn_wide.2 h)
theorem callsW {f : FuncId} {args : Array Value} {R : Ending → World → Prop} {m : Nat} (h : Calls P f args w R) : CallsIn Fence.wide m P f args w R := callsIn_wide.2 h
theorem RoundIn.inRound {F : Fence} {m : Nat} {l' : Nat} {f : FuncId} {tmps : Array Value} {assign body : Code} {R : Ending → World → Prop} (l : Nat) (h : RoundIn F m P l' f tmps assign body w R) : RoundIn (F.inRound l) m P l' f tmps assign body w R := h

theorem size_one {v : Array Value} {n : Nat} (hn : n = 1) (h : v.size = n) : ∃ x, v = #[x] := by
  subst hn
  rcases v with ⟨_ | ⟨x, _ | _⟩⟩ <;> simp at h
  exact ⟨x, rfl⟩
theorem size_two {v : Array Value} {n : Nat} (hn : n = 2) (h : v.size = n) : ∃ x y, v = #[x, y] := by
  subst hn
  rcases v with ⟨_ | ⟨x, _ | ⟨y, _ | _⟩⟩⟩ <;> simp at h
  exact ⟨x, y, rfl⟩

/-- The same, where the loop's variables are no boxes: the assignments leave the world alone. -/
theorem wp_rangeS {g : Operand} {ps : Array Tmp} {assign body : Code} {Q : Exit → Act → World → Prop} {a : Act} {gf : Nat} {lb : Array Value}
    (hg : a.eval g = .func (.func gf) #[] lb) (eg : ∀ args w, (callFunc gf args).run P w = .ok (.enter gf args) w)
    (n : Nat) (E : Nat → Array Value → World → Prop) (Sb Si : Nat → Obj → Prop) (Fin : World → Prop) (FinX : Nat → World → Prop)
    (hit : ∀ W, Same w W → W.heap.size = w.heap.size + 2 → IterAt P gf lb n E Sb Si Fin FinX W)
    (hSb : ∀ b o, w.heap.size ≤ b → o.isCells = false → Sb b o) (hSi : ∀ b o, w.heap.size ≤ b → b < w.heap.size + 2 → o.isCells = false → Si b o)
    (I : Nat → World → Prop) (Ix : Nat → Code → World → Prop)
    (hI : ∀ i A B, I i A → Keep (fun b o => (b < w.heap.size ∨ o.isCells = true) ∧ Si b o) A B → I i B)
    (hIx : ∀ i c A B, Ix i c A → Keep (fun b o => (b < w.heap.size ∨ o.isCells = true) ∧ Si b o) A B → Ix i c B)
    (hE : ∀ i v A B, E i v A → Keep (fun b o => b < w.heap.size ∨ o.isCells = true) A B → E i v B)
    (hFin : ∀ A B, Fin A → Keep (fun b o => b < w.heap.size ∨ o.isCells = true) A B → Fin B)
    (hFinX : ∀ i A B, FinX i A → Keep (fun b o => b < w.heap.size ∨ o.isCells = true) A B → FinX i B)
    (hEs : ∀ i v A, E i v A → v.size = ps.size)
    (h0 : I 0 w)
    (hround : ∀ (i : Nat) (v : Array Value), v.size = ps.size → ∃ a1,
      (∀ (l : Nat) (A : World) (K : Act → World → Prop), K a1 A → assign.wpIn (Fence.wide.inRound l) 0 P (Exit.then K (fun _ _ _ => False)) { tmps := (ps.zip v).foldl (fun t (p, x) => t.setIfInBounds p x) a.tmps, defers := [] } A) ∧
      ∀ (l : Nat) (A : World), w.heap.size ≤ l → (∃ r, A.heap[l]? = some (.loop r)) → i < n → I i A → E i v A → body.wpIn (Fence.wide.inRound l) 0 P (roundEnd Sb I Ix i A) a1 A)
    (hdone : ∀ (D : Nat) (W : World), w.heap.size ≤ D → I n W → Fin W → Keep (fun b o => Sb b o ∧ Si b o) w W → W.heap[D]? = some (.deferred (some [])) →
      Q .normal { a with defers := { target := .collected D, args := #[] } :: a.defers } W)
    (hstop : ∀ (D i : Nat) (c : Code) (W : World), w.heap.size ≤ D → i < n → Ix i c W → FinX i W → Keep (fun b o => Sb b o ∧ Si b o) w W → W.heap[D]? = some (.deferred (some [])) →
      c.wpIn Fence.wide 0 P Q { a with defers := { target := .collected D, args := #[] } :: a.defers } W) :
    (Code.rangeFunc g ps assign body).wpIn Fence.wide 0 P Q a w := by
  refine wp_range hg eg n E Sb Si Fin FinX hit hSb hSi I Ix hI hIx hE hFin hFinX hEs h0
    (fun i v a' _ => ∀ (l : Nat) (A : World), w.heap.size ≤ l → (∃ r, A.heap[l]? = some (.loop r)) → i < n → I i A → E i v A → body.wpIn (Fence.wide.inRound l) 0 P (roundEnd Sb I Ix i A) a' A)
    (fun _ _ _ _ _ h _ => h) ?_ (fun l i v a' A h1 h2 h3 h4 h5 h6 => h6 l A h1 h2 h3 h4 h5) hdone hstop
  intro l i v A K hi hI' hE' hK
  obtain ⟨a1, h1, h2⟩ := hround i v (hEs i v A hE')
  exact h1 l A K (hK a1 A (Keep.refl _ A) hI' hE' h2)

/-! ### What a body must leave, shutting panics out -/
#print axioms wp_rangeS
end Go.Tm
