/-
  A region that draws its order of evaluation may be walked in the order of its text: one condition S on the world, which every operation that changes the world restores; the others yield one value in every world that meets S.
-/
import Derived.Test.YtkolfdcojhglpaaBase
import Derived.OrdersIn
set_option linter.unusedVariables false
namespace Go.Tm
open Go.RowKit

section
variable {F : Fence} {n : Nat} {P : Program} {ops : Array Oper} {Q : Exit → Act → World → Prop} {S : World → Prop} {X : Oper → Bool}

/-- Deferred calls laid on an activation's own. -/
def ext (a : Act) (ds : List Deferred) : Act := { a with defers := ds ++ a.defers }
theorem ext_put (a : Act) (ds : List Deferred) (d : Option Tmp) (v : Value) : (ext a ds).put d v = ext (a.put d v) ds := by cases d <;> rfl
theorem ext_eval (a : Act) (ds : List Deferred) : (ext a ds).eval = a.eval := by funext x; cases x <;> rfl
theorem ext_nil (a : Act) : ext a [] = a := rfl
theorem ext_tmps (a : Act) (ds : List Deferred) : (ext a ds).tmps = a.tmps := rfl

/-- What comes of an operation's run, if it panics nowhere. -/
def wpV (F : Fence) (n : Nat) (P : Program) (k : List Deferred → Value → World → Prop) : Result Next → Prop
  | .ok (.value v) w' => k [] v w'
  | .ok .skip w' => k [] undef w'
  | .ok (.defer d) w' => k [d] undef w'
  | .ok (.enter f args) w' => CallsIn F (n - 1) P f args w' fun e w'' => ∃ v, e = .returned v ∧ k [] v w''
  | .ok (.row row args) w' => RowsIn F (n - 1) P row args w' (k [])
  | .ok (.round l f tmps assign body) w' => RoundIn F (n - 1) P l f tmps assign body w' fun e w'' => ∃ v, e = .returned v ∧ k [] v w''
  | _ => False

theorem wpV.mono {k k' : List Deferred → Value → World → Prop} {r : Result Next} (h : wpV F n P k r) (hk : ∀ d v w, k d v w → k' d v w) : wpV F n P k' r := by
  cases r with
  | ok x w' =>
    cases x <;> simp only [wpV] at h ⊢ <;>
      first
        | exact hk _ _ _ h
        | exact CallsIn.mono h fun e w'' ⟨v, he, hv⟩ => ⟨v, he, hk _ _ _ hv⟩
        | exact RowsIn.mono h fun _ _ hv => hk _ _ _ hv
        | exact RoundIn.mono h fun e w'' ⟨v, he, hv⟩ => ⟨v, he, hk _ _ _ hv⟩
  | halt x w' => exact h

theorem wpV.some {k : List Deferred → Value → World → Prop} {r : Result Next} (hd : F.depth = none) (h : wpV F n P k r) : ∃ d v w, k d v w := by
  have room : ∀ m, F.room m := fun m d hd' => by rw [hd] at hd'; cases hd'
  cases r with
  | ok x w' =>
    cases x <;> simp only [wpV] at h
    case value v => exact ⟨_, _, _, h⟩
    case skip => exact ⟨_, _, _, h⟩
    case defer d => exact ⟨_, _, _, h⟩
    case enter f args => obtain ⟨e, w'', fr, ⟨v, _, hv⟩, _⟩ := h.2 [] (room _); exact ⟨_, v, w'', hv⟩
    case row row args => obtain ⟨v, w'', hv, _⟩ := h default [] (room _); exact ⟨_, v, w'', hv⟩
    case round l f tmps assign body => obtain ⟨e, w'', ⟨v, _, hv⟩, _⟩ := h.2 default [] (room _); exact ⟨_, v, w'', hv⟩
  | halt x w' => exact h.elim

/-- Nothing is asked of a panic: it is shut out. -/
def Quiet (Q : Exit → Act → World → Prop) : Prop := (∀ c a w, ¬ Q (.panic c) a w) ∧ ∀ a w, ¬ Q .outgrown a w

def plainOp (o : Oper) : Bool := match o.op with | .defer _ => false | .select .. => false | _ => true

theorem plain_defer {o : Oper} (h : plainOp o = true) : ∀ c, o.op ≠ .defer c := by
  intro c hc; simp [plainOp, hc] at h
theorem plain_select {o : Oper} (h : plainOp o = true) : ∀ cs b, o.op ≠ .select cs b := by
  intro c b hc; simp [plainOp, hc] at h

theorem semAt_plain {o : Oper} (h : plainOp o = true) (r : Option Nat) (ρ : Operand → Value) : Oper.semAt r ρ o = execOp ρ o := by
  cases r with
  | none => exact Oper.semAt_none ρ o
  | some l => exact Oper.semAt_some l ρ o (plain_defer h)

theorem wpIn_iff {o : Oper} {a : Act} {w : World} {K : Act → World → Prop} (hp : plainOp o = true) (hF : ∀ f, F.fn f) (hd : F.depth = none) (hQ : Quiet Q) :
    o.wpIn F n P a w K Q ↔ wpV F n P (fun ds v w' => K (ext (a.put o.dst v) ds) w') ((execOp a.eval o).run P w) := by
  unfold Oper.wpIn
  rw [semAt_plain hp]
  generalize (execOp a.eval o).run P w = r
  constructor
  · rintro ⟨_, h⟩
    cases r with
    | ok x w' =>
      cases x <;> simp only [Oper.uponIn, wpV] at h ⊢
      case value v => exact h
      case skip => exact h
      case defer d => rw [← ext_put]; exact h
      case enter f args =>
        refine CallsIn.mono h.2 ?_
        intro e w'' he
        cases e with
        | returned v => exact ⟨v, rfl, he⟩
        | panicked c => exact absurd he (hQ.1 _ _ _)
        | outgrown => obtain ⟨a0, w0, h0⟩ := he; exact absurd h0 (hQ.2 _ _)
      case row row args => exact h.2
      case round l f tmps assign body =>
        refine RoundIn.mono h.2 ?_
        intro e w'' he
        cases e with
        | returned v => exact ⟨v, rfl, he⟩
        | panicked c => exact absurd he (hQ.1 _ _ _)
        | outgrown => obtain ⟨a0, w0, h0⟩ := he; exact absurd h0 (hQ.2 _ _)
    | halt x w' => cases x <;> simp only [Oper.uponIn, wpV] at h ⊢; exact absurd h (hQ.1 _ _ _)
  · intro h
    refine ⟨fun f _ => hF f, ?_⟩
    cases r with
    | ok x w' =>
      cases x <;> simp only [Oper.uponIn, wpV] at h ⊢
      case value v => exact h
      case skip => exact h
      case defer d => rw [← ext_put] at h; exact h
      case enter f args => exact ⟨fun h0 => (by rw [hd] at h0; cases h0), CallsIn.mono h fun e w'' ⟨v, he, hv⟩ => (by subst he; exact hv)⟩
      case row row args => exact ⟨fun h0 => (by rw [hd] at h0; cases h0), h⟩
      case round l f tmps assign body => exact ⟨fun h0 => (by rw [hd] at h0; cases h0), RoundIn.mono h fun e w'' ⟨v, he, hv⟩ => (by subst he; exact hv)⟩
    | halt x w' => exact h.elim

/-- One operation, in the order of the text. -/
def stepT (F : Fence) (n : Nat) (P : Program) (ops : Array Oper) (Q : Exit → Act → World → Prop) (S : World → Prop) (X : Oper → Bool) (o : Oper) (K : Act → World → Prop) (a : Act) (w : World) : Prop :=
  if Region.wanted o (yielded ops a.tmps) = true then
    (if X o = true then ∀ w', S w' → ∃ v, (execOp a.eval o).run P w' = .ok (.value v) w' ∧ (execOp a.eval o).run P w = .ok (.value v) w ∧ K (a.put o.dst v) w
     else o.wpIn F n P a w (fun a' w' => S w' ∧ K a' w') Q)
  else K (a.put o.dst undef) w

/-- All of them. -/
def wpT (F : Fence) (n : Nat) (P : Program) (ops : Array Oper) (Q : Exit → Act → World → Prop) (S : World → Prop) (X : Oper → Bool) : List Oper → Act → World → Prop
  | [], a, w => Q .normal a w
  | o :: rest, a, w => stepT F n P ops Q S X o (wpT F n P ops Q S X rest) a w

theorem stepT_mono {o : Oper} {K K' : Act → World → Prop} {a : Act} {w : World} (hS : S w) (hK : ∀ a w, S w → K a w → K' a w) (h : stepT F n P ops Q S X o K a w) : stepT F n P ops Q S X o K' a w := by
  unfold stepT at h ⊢
  split
  · rename_i hw
    rw [if_pos hw] at h
    split
    · rename_i hx
      rw [if_pos hx] at h
      intro w' hw'
      obtain ⟨v, h1, h2, h3⟩ := h w' hw'
      exact ⟨v, h1, h2, hK _ _ hS h3⟩
    · rename_i hx
      rw [if_neg hx] at h
      exact Oper.wpIn_mono (fun a w h => ⟨h.1, hK _ _ h.1 h.2⟩) h
  · rename_i hw
    rw [if_neg hw] at h
    exact hK _ _ hS h

/-- Two operations that are apart, not both of which change the world, change places. -/
theorem stepT_comm (hF : ∀ f, F.fn f) (hd : F.depth = none) (hQ : Quiet Q) {p o : Oper} {K : Act → World → Prop} {a : Act} {w : World} (hp : plainOp p = true) (ho : plainOp o = true)
    (hap : p.apart ops o = true) (hX : X p = true ∨ X o = true) (hS : S w)
    (h : stepT F n P ops Q S X p (fun a w => S w → stepT F n P ops Q S X o K a w) a w) : stepT F n P ops Q S X o (fun a w => S w → stepT F n P ops Q S X p K a w) a w := by
  obtain ⟨h1, h2, h3⟩ := Oper.apart_spec hap
  have eo : ∀ (a : Act) v, execOp (a.put p.dst v).eval o = execOp a.eval o := fun a v => execOp_put o (plain_select ho) a p.dst v h1
  have ep : ∀ (a : Act) v, execOp (a.put o.dst v).eval p = execOp a.eval p := fun a v => execOp_put p (plain_select hp) a o.dst v h3
  have wo : ∀ (a : Act) v, Region.wanted o (yielded ops (a.put p.dst v).tmps) = Region.wanted o (yielded ops a.tmps) := fun a v => wanted_put o a p.dst v h1
  have wp' : ∀ (a : Act) v, Region.wanted p (yielded ops (a.put o.dst v).tmps) = Region.wanted p (yielded ops a.tmps) := fun a v => wanted_put p a o.dst v h3
  have pc : ∀ (a : Act) u v, (a.put p.dst u).put o.dst v = (a.put o.dst v).put p.dst u := fun a u v => Act.put_comm a u v h2
  unfold stepT at h ⊢
  by_cases hwp : Region.wanted p (yielded ops a.tmps) = true
  · rw [if_pos hwp] at h
    by_cases hwo : Region.wanted o (yielded ops a.tmps) = true
    · rw [if_pos hwo]
      by_cases hxp : X p = true
      · rw [if_pos hxp] at h
        by_cases hxo : X o = true
        · rw [if_pos hxo]
          intro w' hw'
          obtain ⟨u, hu1, hu2, hk⟩ := h w hS
          have hk := hk hS
          rw [wo, if_pos hwo, if_pos hxo] at hk
          obtain ⟨v, hv1, hv2, hk⟩ := hk w' hw'
          rw [eo] at hv1 hv2
          refine ⟨v, hv1, hv2, fun _ => ?_⟩
          rw [wp', if_pos hwp, if_pos hxp]
          intro w1 hw1
          obtain ⟨u', hu1', hu2', _⟩ := h w1 hw1
          have e : u' = u := by have := hu2'.symm.trans hu2; simpa using this
          subst e
          rw [ep]
          exact ⟨u', hu1', hu2', by rw [← pc]; exact hk⟩
        · rw [if_neg hxo]
          obtain ⟨u, hu1, hu2, hk⟩ := h w hS
          have hk := hk hS
          rw [wo, if_pos hwo, if_neg hxo, wpIn_iff ho hF hd hQ, eo] at hk
          rw [wpIn_iff ho hF hd hQ]
          refine hk.mono fun ds v w2 ⟨hS2, hk2⟩ => ⟨hS2, fun _ => ?_⟩
          rw [ext_tmps, wp', if_pos hwp, if_pos hxp, ext_eval]
          intro w1 hw1
          obtain ⟨u', hu1', hu2', _⟩ := h w1 hw1
          have e : u' = u := by have := hu2'.symm.trans hu2; simpa using this
          subst e
          obtain ⟨u'', hu1'', hu2'', _⟩ := h w2 hS2
          have e : u'' = u' := by have := hu2''.symm.trans hu2'; simpa using this
          subst e
          rw [ep]
          exact ⟨u'', hu1', hu1'', by rw [ext_put, ← pc]; exact hk2⟩
      · rw [if_neg hxp] at h
        have hxo : X o = true := hX.resolve_left hxp
        rw [if_pos hxo]
        rw [wpIn_iff hp hF hd hQ] at h
        -- o's value, out of one outcome of p
        obtain ⟨ds0, u0, w0, hS0, hk0⟩ := h.some hd
        have hk0 := hk0 hS0
        rw [ext_tmps, wo, if_pos hwo, if_pos hxo, ext_eval] at hk0
        have key : ∃ v, ∀ w', S w' → (execOp a.eval o).run P w' = .ok (.value v) w' := by
          obtain ⟨v, _, hv2, _⟩ := hk0 w0 hS0
          rw [eo] at hv2
          refine ⟨v, fun w' hw' => ?_⟩
          obtain ⟨v', hv1', hv2', _⟩ := hk0 w' hw'
          rw [eo] at hv1' hv2'
          have e : v' = v := by have := hv2'.symm.trans hv2; simpa using this
          subst e
          exact hv1'
        obtain ⟨v, hv⟩ := key
        intro w' hw'
        refine ⟨v, hv w' hw', hv w hS, fun _ => ?_⟩
        rw [wp', if_pos hwp, if_neg hxp, wpIn_iff hp hF hd hQ, ep]
        refine h.mono fun ds u w1 ⟨hS1, hk1⟩ => ⟨hS1, ?_⟩
        have hk1 := hk1 hS1
        rw [ext_tmps, wo, if_pos hwo, if_pos hxo, ext_eval] at hk1
        obtain ⟨v1, hv1, _, hk1⟩ := hk1 w1 hS1
        rw [eo, hv w1 hS1] at hv1
        have e : v = v1 := by simpa using hv1
        subst e
        rw [← pc, ← ext_put]; exact hk1
    · rw [if_neg hwo]
      intro _
      rw [wp', if_pos hwp]
      by_cases hxp : X p = true
      · rw [if_pos hxp] at h ⊢
        intro w' hw'
        obtain ⟨u, hu1, hu2, hk⟩ := h w' hw'
        have hk := hk hS
        rw [wo, if_neg hwo] at hk
        rw [ep]
        exact ⟨u, hu1, hu2, by rw [← pc]; exact hk⟩
      · rw [if_neg hxp] at h ⊢
        rw [wpIn_iff hp hF hd hQ] at h ⊢
        rw [ep]
        refine h.mono fun ds u w1 ⟨hS1, hk1⟩ => ⟨hS1, ?_⟩
        have hk1 := hk1 hS1
        rw [ext_tmps, wo, if_neg hwo, ext_put] at hk1
        rw [← pc]; exact hk1
  · rw [if_neg hwp] at h
    have h := h hS
    by_cases hwo : Region.wanted o (yielded ops a.tmps) = true
    · rw [wo, if_pos hwo] at h
      rw [if_pos hwo]
      by_cases hxo : X o = true
      · rw [if_pos hxo] at h ⊢
        intro w' hw'
        obtain ⟨v, hv1, hv2, hk⟩ := h w' hw'
        rw [eo] at hv1 hv2
        refine ⟨v, hv1, hv2, fun _ => ?_⟩
        rw [wp', if_neg hwp, ← pc]; exact hk
      · rw [if_neg hxo] at h ⊢
        rw [wpIn_iff ho hF hd hQ] at h ⊢
        rw [eo] at h
        refine h.mono fun ds v w1 ⟨hS1, hk1⟩ => ⟨hS1, fun _ => ?_⟩
        rw [ext_tmps, wp', if_neg hwp, ext_put, ← pc]; exact hk1
    · rw [wo, if_neg hwo] at h
      rw [if_neg hwo]
      intro _
      rw [wp', if_neg hwp, ← pc]; exact h

/-- An operation that is apart from all ahead of it, and changes the world only where none of these does, may come first. -/
theorem wpT_first (hF : ∀ f, F.fn f) (hd : F.depth = none) (hQ : Quiet Q) {o : Oper} {post : List Oper} (ho : plainOp o = true) : ∀ (pre : List Oper) (a : Act) (w : World),
    (∀ p ∈ pre, plainOp p = true ∧ p.apart ops o = true ∧ (X p = true ∨ X o = true)) → S w →
    wpT F n P ops Q S X (pre ++ o :: post) a w → stepT F n P ops Q S X o (wpT F n P ops Q S X (pre ++ post)) a w
  | [], _, _, _, _, h => h
  | p :: pre, a, w, hpre, hS, h => by
    have hp := hpre p (List.mem_cons_self ..)
    have h' : stepT F n P ops Q S X p (wpT F n P ops Q S X (pre ++ o :: post)) a w := h
    have h'' := stepT_mono hS (K' := fun a w => S w → stepT F n P ops Q S X o (wpT F n P ops Q S X (pre ++ post)) a w)
      (fun a w _ hk hS' => wpT_first hF hd hQ ho pre a w (fun q hq => hpre q (List.mem_cons_of_mem _ hq)) hS' hk) h'
    exact stepT_mono hS (fun a w hS' hk => hk hS') (stepT_comm hF hd hQ hp.1 ho hp.2.1 hp.2.2 hS h'')

theorem quiet_then {K : Act → World → Prop} (h : Quiet Q) : Quiet (Exit.then K Q) := h
theorem quiet_inBlock {id : Nat} (h : Quiet Q) : Quiet (Exit.inBlock id Q) := h
theorem quiet_round {Sb : Nat → Obj → Prop} {I : Nat → World → Prop} {Ix : Nat → Code → World → Prop} {i : Nat} {A : World} : Quiet (roundEnd Sb I Ix i A) := ⟨fun _ _ _ h => h, fun _ _ h => h⟩
theorem quiet_body {fn : Func} {R : Ending → World → Prop} (h1 : ∀ c w, ¬ R (.panicked c) w) (h2 : ∀ w, ¬ R .outgrown w) : Quiet (bodyPost P fn R) := ⟨fun c _ w h => h1 c w h.2, fun _ w h => h2 w h⟩

/-- The steps of a walk in the text's order: an operation that yields one value wherever S holds; one that may change the world. -/
theorem wpT_x {o : Oper} {rest : List Oper} {a : Act} {w : World} (hg : o.guard = none) (hx : X o = true)
    (h : ∀ K : Act → World → Prop, (∀ a w, wpT F n P ops Q S X rest a w → K a w) → ∀ w', S w' → ∃ v, (execOp a.eval o).run P w' = .ok (.value v) w' ∧ (execOp a.eval o).run P w = .ok (.value v) w ∧ K (a.put o.dst v) w) :
    wpT F n P ops Q S X (o :: rest) a w := by
  unfold wpT stepT
  rw [if_pos (by simp [Region.wanted, hg]), if_pos hx]
  exact h _ fun _ _ h => h
theorem wpT_c {o : Oper} {rest : List Oper} {a : Act} {w : World} (hg : o.guard = none) (hx : X o = false)
    (h : ∀ K : Act → World → Prop, (∀ a w, S w → wpT F n P ops Q S X rest a w → K a w) → o.wpIn F n P a w K Q) :
    wpT F n P ops Q S X (o :: rest) a w := by
  unfold wpT stepT
  rw [if_pos (by simp [Region.wanted, hg]), if_neg (by simp [hx])]
  exact h _ fun _ _ h1 h2 => ⟨h1, h2⟩
/-- A region ends normally, or not at all. -/
def onlyNormal (Q : Exit → Act → World → Prop) : Exit → Act → World → Prop
  | .normal, a, w => Q .normal a w
  | _, _, _ => False
theorem quiet_normal : Quiet (onlyNormal Q) := ⟨fun _ _ _ h => h, fun _ _ h => h⟩
theorem wpT_nil {a : Act} {w : World} (h : Q .normal a w) : wpT F n P ops (onlyNormal Q) S X [] a w := h
theorem wpT_skip {o : Oper} {rest : List Oper} {a : Act} {w : World} (hw : Region.wanted o (yielded ops a.tmps) = false) (h : wpT F n P ops Q S X rest (a.put o.dst undef) w) : wpT F n P ops Q S X (o :: rest) a w := by
  unfold wpT stepT
  rw [if_neg (by simp [hw])]
  exact h
theorem wpT_gx {o : Oper} {rest : List Oper} {a : Act} {w : World} (hw : Region.wanted o (yielded ops a.tmps) = true) (hx : X o = true)
    (h : ∀ K : Act → World → Prop, (∀ a w, wpT F n P ops Q S X rest a w → K a w) → ∀ w', S w' → ∃ v, (execOp a.eval o).run P w' = .ok (.value v) w' ∧ (execOp a.eval o).run P w = .ok (.value v) w ∧ K (a.put o.dst v) w) :
    wpT F n P ops Q S X (o :: rest) a w := by
  unfold wpT stepT
  rw [if_pos hw, if_pos hx]
  exact h _ fun _ _ h => h
theorem wpT_gc {o : Oper} {rest : List Oper} {a : Act} {w : World} (hw : Region.wanted o (yielded ops a.tmps) = true) (hx : X o = false)
    (h : ∀ K : Act → World → Prop, (∀ a w, S w → wpT F n P ops Q S X rest a w → K a w) → o.wpIn F n P a w K Q) :
    wpT F n P ops Q S X (o :: rest) a w := by
  unfold wpT stepT
  rw [if_pos hw, if_neg (by simp [hx])]
  exact h _ fun _ _ h1 h2 => ⟨h1, h2⟩

/-- Operations that only read. -/
def reads (o : Oper) : Bool := match o.op with
  | .move _ | .assign _ | .pick .. | .load .. | .nilCheck _ | .binOp .. | .unOp .. | .convert .. | .fieldAddr .. | .field .. | .indexAddr .. | .index .. | .slice .. | .extract .. | .makeInterface .. | .makeFunc .. | .build .. | .typeAssert .. | .lookup .. => true
  | .call { callee := .builtin .len, .. } | .call { callee := .builtin .cap, .. } | .call { callee := .builtin .min, .. } | .call { callee := .builtin .max, .. } => true
  | _ => false

/-! ### From the text's order to whatever order is drawn -/

/-- Operation j waits for i: by an edge, or by a chain of at most k + 1 edges. -/
def waits (ops : Array Oper) : Nat → Nat → Nat → Bool
  | 0, i, j => match ops[j]? with
    | some o => o.after.toList.any fun e => Region.binds .any e && e.on == i
    | none => false
  | k + 1, i, j => match ops[j]? with
    | some o => (o.after.toList.any fun e => Region.binds .any e && e.on == i) || o.after.toList.any fun e => Region.binds .any e && waits ops k i e.on
    | none => false

def pairOk (ops : Array Oper) (X : Oper → Bool) (i j : Nat) : Bool :=
  match ops[i]?, ops[j]? with
  | some p, some o => (p.apart ops o && (X p || X o)) || waits ops 2 i j
  | _, _ => true

/-- What is asked of a region's operations: closed, for the kernel. -/
def textOk (ops : Array Oper) (X : Oper → Bool) : Bool :=
  (List.range ops.size).all fun j =>
    (match ops[j]? with
     | some o => plainOp o && o.after.all fun e => !Region.binds .any e || decide (e.on < j)
     | none => true) &&
    (List.range j).all fun i => pairOk ops X i j

def Closed (ops : Array Oper) (listed : Array Bool) : Prop := ∀ (m : Nat) o, ops[m]? = some o → listed.getD m false = true → ∀ e ∈ o.after, Region.binds .any e = true → listed.getD e.on false = true

theorem waits_listed {listed : Array Bool} (hc : Closed ops listed) : ∀ (k i j : Nat), waits ops k i j = true → (∀ o, ops[j]? = some o → ∀ e ∈ o.after, Region.binds .any e = true → listed.getD e.on false = true) → listed.getD i false = true
  | 0, i, j, h, hj => by
    unfold waits at h
    cases ho : ops[j]? with
    | none => rw [ho] at h; cases h
    | some o =>
      rw [ho] at h
      simp only [List.any_eq_true, Array.mem_toList_iff, Bool.and_eq_true, beq_iff_eq] at h
      obtain ⟨e, he, hb, rfl⟩ := h
      exact hj o ho e he hb
  | k + 1, i, j, h, hj => by
    unfold waits at h
    cases ho : ops[j]? with
    | none => rw [ho] at h; cases h
    | some o =>
      rw [ho] at h
      simp only [List.any_eq_true, Array.mem_toList_iff, Bool.and_eq_true, beq_iff_eq, Bool.or_eq_true] at h
      rcases h with ⟨e, he, hb, rfl⟩ | ⟨e, he, hb, hw⟩
      · exact hj o ho e he hb
      · exact waits_listed hc k i e.on hw fun o' ho' => hc e.on o' ho' (hj o ho e he hb)

theorem getD_true_false {l : Array Bool} {i : Nat} (h : i < l.size) : l.getD i true = l.getD i false := by simp [Array.getD, h]

theorem wpAnyIn_of_wpT (hF : ∀ f, F.fn f) (hd : F.depth = none) (hQ : Quiet Q) (hchk : textOk ops X = true) : ∀ (m : Nat) (T : List Nat) (listed : Array Bool) (a : Act) (w : World), T.length = m → T.Pairwise (· < ·) →
    (∀ i, i ∈ T ↔ i < ops.size ∧ listed.getD i true = false) → Closed ops listed → listed.size = ops.size → S w → wpT F n P ops Q S X (T.filterMap (ops[·]?)) a w → wpAnyIn F n P .any ops Q m listed a w := by
  intro m
  have chk : ∀ j o, ops[j]? = some o → plainOp o = true ∧ (∀ e ∈ o.after, Region.binds .any e = true → e.on < j) ∧ ∀ i, i < j → pairOk ops X i j = true := by
    intro j o ho
    have hlt : j < ops.size := (Array.getElem?_eq_some_iff.1 ho).1
    unfold textOk at hchk
    rw [List.all_eq_true] at hchk
    have := hchk j (List.mem_range.2 hlt)
    simp only [ho, Bool.and_eq_true, List.all_eq_true, List.mem_range, Array.all_eq_true_iff_forall_mem, Bool.or_eq_true, Bool.not_eq_true', decide_eq_true_eq] at this
    exact ⟨this.1.1, fun e he hb => (this.1.2 e he).resolve_left (by simp [hb]), this.2⟩
  induction m with
  | zero =>
    intro T listed a w hT hp hmem hc hs hS h
    obtain rfl : T = [] := List.eq_nil_of_length_eq_zero hT
    refine ⟨?_, h⟩
    rw [List.eq_nil_iff_forall_not_mem]
    intro i hi
    obtain ⟨h0, o, ho, _⟩ := mem_ready.1 hi
    have := (hmem i).2 ⟨(Array.getElem?_eq_some_iff.1 ho).1, h0⟩
    cases this
  | succ m ih =>
    intro T listed a w hT hp hmem hc hs hS h
    have inT : ∀ i ∈ Region.ready .any ops listed, i ∈ T := fun i hi => by
      obtain ⟨h0, o, ho, _⟩ := mem_ready.1 hi
      exact (hmem i).2 ⟨(Array.getElem?_eq_some_iff.1 ho).1, h0⟩
    refine ⟨fun hr => ?_, fun i hi => ?_⟩
    · -- the least one may come up
      exfalso
      cases T with
      | nil => simp at hT
      | cons t T =>
        obtain ⟨htl, ht0⟩ := (hmem t).1 (List.mem_cons_self ..)
        have ho : ops[t]? = some ops[t] := Array.getElem?_eq_getElem htl
        have : t ∈ Region.ready .any ops listed := mem_ready.2 ⟨ht0, _, ho, fun e he hb => by
          have hlt := (chk t _ ho).2.1 e he hb
          cases hl : listed.getD e.on false with
          | true => rfl
          | false =>
            have hin := (hmem e.on).2 ⟨by omega, by rw [getD_true_false (by omega)]; exact hl⟩
            rcases List.mem_cons.1 hin with h1 | h1
            · omega
            · have := (List.pairwise_cons.1 hp).1 _ h1; omega⟩
        rw [hr] at this; cases this
    · have hiT := inT i hi
      obtain ⟨h0, o, ho, hall⟩ := mem_ready.1 hi
      obtain ⟨pre, post, rfl⟩ := List.append_of_mem hiT
      obtain ⟨hp1, hp2, hp3⟩ := List.pairwise_append.1 hp
      have hil : i < ops.size := (Array.getElem?_eq_some_iff.1 ho).1
      rw [List.filterMap_append, List.filterMap_cons, ho] at h
      have hfirst := wpT_first (post := post.filterMap (ops[·]?)) hF hd hQ (chk i o ho).1 (pre.filterMap (ops[·]?)) a w ?_ hS h
      · rw [← List.filterMap_append] at hfirst
        have hnd : ∀ j, j ∈ pre ++ post ↔ j < ops.size ∧ (listed.setIfInBounds i true).getD j true = false := by
          intro j
          by_cases hji : j = i
          · subst hji
            constructor
            · intro hj
              rcases List.mem_append.1 hj with h1 | h1
              · have := hp3 j h1 j (List.mem_cons_self ..); omega
              · have := (List.pairwise_cons.1 hp2).1 j h1; omega
            · rintro ⟨_, h1⟩
              simp [Array.getD, hs, hil] at h1
          · rw [getD_set_ne true (Ne.symm hji), ← hmem j]
            simp only [List.mem_append, List.mem_cons]
            constructor
            · rintro (h1 | h1) <;> simp [h1]
            · rintro (h1 | h1 | h1)
              · exact .inl h1
              · exact absurd h1 hji
              · exact .inr h1
        have hc' : Closed ops (listed.setIfInBounds i true) := by
          intro m' o' ho' hm' e he hb
          refine getD_set_true ?_
          by_cases hmi : m' = i
          · subst hmi; rw [ho] at ho'; cases ho'; exact hall e he hb
          · rw [getD_set_ne false (Ne.symm hmi)] at hm'
            exact hc m' o' ho' hm' e he hb
        have next : ∀ a w, S w → wpT F n P ops Q S X ((pre ++ post).filterMap (ops[·]?)) a w → wpAnyIn F n P .any ops Q m (listed.setIfInBounds i true) a w := fun a w hS h =>
          ih (pre ++ post) _ a w (by simp at hT ⊢; omega) (List.pairwise_append.2 ⟨hp1, (List.pairwise_cons.1 hp2).2, fun x hx y hy => hp3 x hx y (List.mem_cons_of_mem _ hy)⟩) hnd hc' (by simp [hs]) hS h
        unfold wpOpIn
        simp only [ho]
        unfold stepT at hfirst
        by_cases hw : Region.wanted o (yielded ops a.tmps) = true
        · rw [if_pos hw] at hfirst ⊢
          by_cases hx : X o = true
          · rw [if_pos hx] at hfirst
            obtain ⟨v, hv, _, hk⟩ := hfirst w hS
            refine ⟨fun f _ => hF f, ?_⟩
            rw [semAt_plain (chk i o ho).1, hv]
            exact next _ _ hS hk
          · rw [if_neg hx] at hfirst
            exact Oper.wpIn_mono (fun a w h => next _ _ h.1 h.2) hfirst
        · rw [if_neg hw] at hfirst ⊢
          exact ⟨fun f _ => hF f, next _ _ hS hfirst⟩
      · intro p hpm
        obtain ⟨j, hj, hpj⟩ := List.mem_filterMap.1 hpm
        have hji : j < i := hp3 j hj i (List.mem_cons_self ..)
        have hjT := (hmem j).1 (List.mem_append_left _ hj)
        refine ⟨(chk j p hpj).1, ?_⟩
        have hok := (chk i o ho).2.2 j hji
        unfold pairOk at hok
        simp only [hpj, ho, Bool.or_eq_true, Bool.and_eq_true] at hok
        rcases hok with h1 | h1
        · exact h1
        · have := waits_listed hc 2 j i h1 fun o' ho' e he hb => by rw [ho] at ho'; cases ho'; exact hall e he hb
          rw [getD_true_false (by omega), this] at hjT
          cases hjT.2

theorem filterMap_range {α : Type} : ∀ l : List α, (List.range l.length).filterMap (l[·]?) = l
  | [] => rfl
  | x :: l => by
    have ih := filterMap_range l
    rw [List.length_cons, List.range_succ_eq_map, List.filterMap_cons, List.filterMap_map]
    simpa [Function.comp_def] using ih

/-- **A region that draws its order, walked in the order of its text.** -/
theorem wpIn_region_text {id : Nat} {l : List Oper} {a : Act} {w : World} (S : World → Prop) (X : Oper → Bool) (hF : ∀ f, F.fn f) (hd : F.depth = none) (hm : P.follows .mixedOrders = true) (hchk : textOk l.toArray X = true) (hS : S w.drew)
    (h : wpT F n P l.toArray (onlyNormal Q) S X l a w.drew) : (Code.region id l.toArray true).wpIn F n P Q a w := by
  refine wpIn_mono (Q := onlyNormal Q) (wpIn_region_any hm ?_) fun e a w h => by cases e <;> first | exact h | exact h.elim
  refine wpAnyIn_of_wpT hF hd quiet_normal hchk _ (List.range l.toArray.size) _ a _ (by simp) List.pairwise_lt_range ?_ ?_ (by simp) hS ?_
  · intro i
    simp only [List.mem_range]
    constructor
    · intro h; exact ⟨h, by simp [Array.getD] at h ⊢; simp [h]⟩
    · exact fun h => h.1
  · intro m o _ hm
    exfalso
    simp [Array.getD] at hm
  · have : (List.range l.toArray.size).filterMap (l.toArray[·]?) = l := by
      simp only [List.size_toArray, List.getElem?_toArray]
      exact filterMap_range l
    rw [this]
    exact h

end
end Go.Tm
