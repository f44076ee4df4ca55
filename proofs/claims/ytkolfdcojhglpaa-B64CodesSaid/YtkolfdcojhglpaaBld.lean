/-
  strings.Builder: what its methods do to a builder that the call itself has made, and what they leave alone.
-/
import Derived.Test.YtkolfdcojhglpaaOrd
import Derived.Test.YtkolfdcojhglpaaProg
import Derived.Lib.Builder
import Derived.Lib.Strings
import Derived.Laws.Externs
set_option linter.unusedVariables false
namespace Go.Tm
open Go.RowKit Go.Proofs

/-- Numbers below 256 as cells, as a string. -/
def byteVals (xs : List Nat) : List Value := xs.map fun n : Nat => Value.int .u8 (n : Int)
def strN (xs : List Nat) : ByteArray := ⟨(xs.map UInt8.ofNat).toArray⟩
theorem byteVals_length (xs : List Nat) : (byteVals xs).length = xs.length := by simp [byteVals]
theorem byteVals_snoc (xs : List Nat) (c : Nat) : byteVals (xs ++ [c]) = byteVals xs ++ [.int .u8 c] := by simp [byteVals]
theorem byteVals_append (xs ys : List Nat) : byteVals (xs ++ ys) = byteVals xs ++ byteVals ys := by simp [byteVals]
theorem byteVals_cells (xs : List Nat) (h : ∀ x ∈ xs, x < 256) : byteVals xs = Lib.byteCells (xs.map UInt8.ofNat) := by
  simp only [byteVals, Lib.byteCells, List.map_map]
  refine List.map_congr_left fun x hx => ?_
  simp [Nat.mod_eq_of_lt (h x hx)]
theorem bytesN_strN (xs : List Nat) (h : ∀ x ∈ xs, x < 256) : bytesN (strN xs) = xs := by
  simp only [bytesN, strN, List.map_map]
  conv => rhs; rw [← List.map_id xs]
  refine List.map_congr_left fun x hx => ?_
  simp [Nat.mod_eq_of_lt (h x hx)]
theorem strN_bytesN (s : ByteArray) : strN (bytesN s) = s := by
  simp only [bytesN, strN, List.map_map]
  have : (UInt8.ofNat ∘ fun x : UInt8 => x.toNat) = id := by funext x; simp
  rw [this, List.map_id]
theorem strN_size (xs : List Nat) : (strN xs).size = xs.length := by
  show (xs.map UInt8.ofNat).toArray.size = _; simp
theorem strN_inj {xs ys : List Nat} (hx : ∀ x ∈ xs, x < 256) (hy : ∀ x ∈ ys, x < 256) (h : strN xs = strN ys) : xs = ys := by
  rw [← bytesN_strN xs hx, h, bytesN_strN ys hy]
theorem bytesN_inj {s t : ByteArray} (h : bytesN s = bytesN t) : s = t := by rw [← strN_bytesN s, h, strN_bytesN t]
theorem bytesN_lt (s : ByteArray) : ∀ x ∈ bytesN s, x < 256 := by
  intro x hx
  obtain ⟨c, _, rfl⟩ := List.mem_map.1 hx
  exact c.toNat_lt

abbrev Bld (B b : Nat) (xs : List Nat) (w : World) : Prop := Lib.IsBuilder 39 5 B b (byteVals xs) w
/-- What a builder's methods leave alone: whatever is not the builder, and lay below B or is no row of bytes. -/
def BldS (B b : Nat) : Nat → Obj → Prop := fun k o => k ≠ b ∧ (k < B ∨ ∀ c f, o ≠ .cells c 5 f)

theorem bld_info : (Try.prog.info? 39).map (·.size) = some 2 := by kernel_rfl
theorem bld_lies : liesAt Try.prog Try.prog.depth 39 (2 / Try.prog.cellsOf 39) 0 39 1 = true := by kernel_rfl
theorem byte_info : (Try.prog.info? 5).map (fun i => (i.zero, i.size, i.bytes)) = some (some (.int .u8 0), 1, 1) := by kernel_rfl

set_option maxHeartbeats 400000 in
theorem copyCheck_used (b : Nat) (w : World) (h0 : w.cell? ⟨b, 0, none⟩ = some (.pointer (some ⟨b, 0, none⟩))) :
    Calls Try.prog 36 #[.pointer (some ⟨b, 0, none⟩)] w fun e w' => e = .returned (.tuple #[]) ∧ w' = w := by
  obtain ⟨j, hj, _⟩ := Option.map_eq_some_iff.1 bld_info
  go_enter Try.func36, Try.ntmps36
  go_wp2
  rw [Lib.run_neq_ptr_same w _ Try.underlying37 hj]
  go_wp2
  go_end0
  exact ⟨rfl, rfl⟩

set_option maxHeartbeats 400000 in
theorem copyCheck_fresh (b : Nat) (w : World) (h0 : w.cell? ⟨b, 0, none⟩ = some (.pointer none)) (hsh : w.shape? b = some (39, 2)) (hfz : w.frozen? ⟨b, 0, none⟩ = false) :
    Calls Try.prog 36 #[.pointer (some ⟨b, 0, none⟩)] w fun e w' => e = .returned (.tuple #[]) ∧ w' = w.setCell ⟨b, 0, none⟩ (.pointer (some ⟨b, 0, none⟩)) := by
  obtain ⟨j, hj, hjs⟩ := Option.map_eq_some_iff.1 bld_info
  go_enter Try.func36, Try.ntmps36
  go_wp2
  rw [Lib.run_to_unsafe w ⟨b, 0, none⟩ Try.underlying37 Try.underlying59 hj (by rw [hjs]; decide) hsh (Nat.zero_lt_succ 1)]
  simp only [Result.andThen]
  rw [Oper.upon_value]
  go_wp2
  rw [run_callFunc_extern Try.func37 (by kernel_rfl) (by kernel_rfl) (by kernel_rfl) (e := Extern.AbiNoEscape.same) (by kernel_rfl)]
  rw [Lib.run_noEscape]
  simp only [Result.andThen]
  rw [Oper.upon_value]
  go_wp2
  rw [Lib.run_from_unsafe w ⟨b, 0, none⟩ Try.underlying59 Try.underlying37 hj hsh bld_lies]
  simp only [Result.andThen]
  rw [Oper.upon_value]
  go_wp2
  go_end0
  exact ⟨rfl, rfl⟩

theorem copyCheck_any (B b : Nat) (xs : List Nat) (w : World) (h : Bld B b xs w) :
    Calls Try.prog 36 #[.pointer (some ⟨b, 0, none⟩)] w fun e w' => e = .returned (.tuple #[]) ∧ Lib.BuilderAt 39 5 B b (.pointer (some ⟨b, 0, none⟩)) (byteVals xs) w' ∧ Keep (fun k _ => k ≠ b) w w' := by
  rcases h with h | h
  · refine (copyCheck_fresh b w h.cell0 h.shape h.frozen0).mono ?_
    rintro e w' ⟨rfl, rfl⟩
    exact ⟨rfl, h.used _, (Keep.refl _ w).setCell _ fun o _ h _ => h rfl⟩
  · refine (copyCheck_used b w h.cell0).mono ?_
    rintro e w' ⟨rfl, rfl⟩
    exact ⟨rfl, h, Keep.refl _ _⟩

theorem bld_le {B b : Nat} {xs : List Nat} {w : World} (h : Bld B b xs w) : B ≤ b ∧ b < w.heap.size := by
  rcases h with h | h <;> exact ⟨h.1, h.lt⟩

/-- The world behind a writing method: the checked builder, a new row, the store. -/
theorem bld_kept {B b : Nat} {v v' : Value} {w w1 w2 : World} {o : Obj} {n : Nat} {xs : List Value} (h1 : Keep (fun k _ => k ≠ b) w w1) (hg : (w1.alloc o).grownBy w2 v.ownBlock) (hown : w1.ownsRow B 5 1 v n xs) :
    Keep (BldS B b) w (w2.setCell ⟨b, 1, none⟩ v') := by
  have h2 : Keep (BldS B b) w (w1.alloc o) := (h1.mono fun _ _ _ h => h.1).alloc o
  have h3 : Keep (BldS B b) w w2 := h2.grown hg fun r hr o' ho hs _ => by
    rcases hown.2 with ⟨rfl, _⟩ | ⟨g, cap, cur, rfl, hb, hgg, _⟩
    · simp [Value.ownBlock] at hr
    · simp [Value.ownBlock] at hr
      subst hr
      have : (w1.alloc o).heap[g]? = some (.cells cur 5 (0, 0)) := (Below.heap_alloc w1 o g (lt_of_some hgg)).trans hgg
      rw [this] at ho; cases ho
      rcases hs.2 with h | h
      · omega
      · exact h _ _ rfl
  exact h3.setCell _ fun o _ hs _ => hs.1 rfl

set_option maxHeartbeats 800000 in
theorem writeByte_any (B b c : Nat) (xs : List Nat) (w : World) (h : Bld B b xs w) (hlen : xs.length + 1 ≤ 140737488355328) (hBw : B ≤ w.heap.size) :
    Calls Try.prog 28 #[.pointer (some ⟨b, 0, none⟩), .int .u8 c] w fun e w' => e = .returned .nilIface ∧ Bld B b (xs ++ [c]) w' ∧ Keep (BldS B b) w w' := by
  obtain ⟨i0, hi, hz0, hz1, hz2⟩ := info_parts byte_info
  go_enter Try.func28, Try.ntmps28
  go_wp2_with (go_at_call 36; refine (copyCheck_any B b xs _ h).mono ?_)
  rintro e w1 ⟨rfl, h1, hk1⟩
  obtain ⟨hB, v, hbk, hown, hne⟩ := h1
  have c0 : w1.cell? ⟨b, 0, none⟩ = some (.pointer (some ⟨b, 0, none⟩)) := by rw [Lib.cell_of_heap hbk]; rfl
  have c1 : w1.cell? ⟨b, 1, none⟩ = some v := by rw [Lib.cell_of_heap hbk]; rfl
  go_wp2_with (at_builtin; refine wpList_append_own _ rfl _ _ 32 rfl B 5 i0 (.int .u8 0) 1 1 Try.underlying32 hi hz0 hz1 hz2 rfl (by decide) _ _ _ rfl (hown.alloc _) ⟨w1.heap.size, 0, none⟩ 1 1 [.int .u8 c] rfl rfl ?c1 ?c2 ?c3 ?c4 ?c5 ?_)
  case c1 =>
    intro j u hj
    match j, hj with
    | 0, hj => simp at hj; subst hj; simp [Addr.add]
  case c2 => intro u hu; simp at hu; subst hu; rfl
  case c3 => have := byteVals_length xs; unfold maxLen; omega
  case c4 => have := byteVals_length xs; omega
  case c5 => have := hk1.size; simp; omega
  intro v' w2 hown' hgrow _
  have hlt : b < w1.heap.size := lt_of_some hbk
  have hb2 : w2.heap[b]? = some (.cells #[.pointer (some ⟨b, 0, none⟩), v] 39 (0, 0)) := by
    rw [hgrow.block b (by simp; omega) (fun e => hne e.symm), Lib.alloc_old w1 _ b hlt]
    exact hbk
  have d0 : w2.cell? ⟨b, 0, none⟩ = some (.pointer (some ⟨b, 0, none⟩)) := by rw [Lib.cell_of_heap hb2]; rfl
  have d1 : w2.cell? ⟨b, 1, none⟩ = some v := by rw [Lib.cell_of_heap hb2]; rfl
  have f1 : w2.frozen? ⟨b, 1, none⟩ = false := Lib.frozen_of_heap hb2 1
  obtain ⟨g, cap, rfl⟩ : ∃ g cap, v' = .slice (some ⟨g, 0, none⟩) ((byteVals xs).length + 1) cap := by
    rcases hown'.2 with ⟨_, h0⟩ | ⟨g, cap, cur, hv, _⟩
    · omega
    · exact ⟨g, cap, hv⟩
  go_wp2
  go_ret
  refine ⟨rfl, .inr ?_, ?_⟩
  · rw [byteVals_snoc]
    exact Lib.BuilderAt.put (T := 39) (e := 5) hB hb2 (bs' := byteVals xs ++ [.int .u8 c]) (by simpa using hown') (by decide)
  · exact bld_kept hk1 hgrow hown

end Go.Tm
