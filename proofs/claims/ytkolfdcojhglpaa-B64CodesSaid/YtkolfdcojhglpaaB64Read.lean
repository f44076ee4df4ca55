/-
  b64.read answers the bytes of a text of signs, or the error. Conditions: the theorem's own.
-/
import Derived.Test.YtkolfdcojhglpaaB64Turned
import Derived.Test.YtkolfdcojhglpaaRow
import Derived.Test.YtkolfdcojhglpaaB64Nums
import Derived.Maps.AppendAt
set_option linter.unusedVariables false
namespace Go.Tm
open Go.RowKit Go.Proofs

/-- The bytes of signs of so many bits each, if there are such. -/
def readOut (size : Nat) (ys l : List Nat) : List Nat := outs 8 size (0, 0) (goodN ys l)
def readEnd (size : Nat) (ys l : List Nat) : St := finAt 8 size (goodN ys l) (goodN ys l).length
def readOk (size : Nat) (ys l : List Nat) : Bool := allSigns ys l && decide ((readEnd size ys l).1 = 0) && decide ((readEnd size ys l).2 < size) && decide ((readOut size ys l).length ≤ 400)
def readN (size : Nat) (ys l : List Nat) : List Nat × Int := if readOk size ys l then (readOut size ys l, 0) else ([], 30)

theorem mem_takeWhile {α : Type} (p : α → Bool) : ∀ (l : List α) (x : α), x ∈ l.takeWhile p → p x = true
  | [], _, h => by simp at h
  | y :: l, x, h => by
    by_cases hy : p y = true
    · rw [List.takeWhile_cons_of_pos hy] at h
      rcases List.mem_cons.1 h with rfl | h
      · exact hy
      · exact mem_takeWhile p l x h
    · rw [List.takeWhile_cons_of_neg hy] at h; simp at h
theorem goodN_lt (ys l : List Nat) : ∀ x ∈ goodN ys l, x < ys.length := by
  intro x hx
  obtain ⟨c, hc, rfl⟩ := List.mem_map.1 hx
  have := mem_takeWhile _ _ _ hc
  simpa [isSign] using this
theorem goodN_le (ys l : List Nat) : (goodN ys l).length ≤ l.length := by
  simp only [goodN, List.length_map]; exact (List.takeWhile_prefix _).length_le

set_option maxRecDepth 100000 in
set_option maxHeartbeats 2000000 in
theorem read_any (s : ByteArray) (size sb so cap : Nat) (ys : List Nat) (w : World) (hz1 : 1 ≤ size) (hz8 : size ≤ 8) (hyl : Hid (ys.length = 2 ^ size)) (hy : ∀ k, nth ys k < 128) (hyl2 : ys.length < 256) (hs : s.size ≤ 1073741824) (hB : BytesAt w sb so ys) (hsb : sb < w.heap.size) :
    Calls Try.prog 22 #[.string s, .int .i64 size, .slice (some ⟨sb, so, none⟩) ys.length cap] w fun e w' =>
      e = .returned (.tuple #[.string (strN (readN size ys (bytesN s)).1), .int .i64 (readN size ys (bytesN s)).2]) ∧ Same w w' := by
  refine (callsIn_wide (n := 0)).1 ?_
  refine callsIn_of_wp_marks Try.func22 rfl trivial ?_ rfl
  simp only [Try.ntmps22, List.size_toArray, List.length_cons, List.length_nil, Nat.reduceAdd, Nat.reduceSub, Array.replicate_succ, Array.replicate_zero, List.push_toArray, List.append_toArray, List.nil_append, List.cons_append]
  gi_wp2_with (gi_at_call 26; refine (callsW (pieces_any _ _ 30 _ _)).mono ?_; rintro e w' ⟨rfl, rfl⟩)
  generalize hW1 : World.alloc _ (.cells #[.int .i64 (size : Int)] 3) = W1
  have hz : W1.heap.size = w.heap.size + 8 := by rw [← hW1]; simp
  have hk1 : Same w W1 := by rw [← hW1]; exact (((((((((Keep.refl _ w).alloc _).alloc _).alloc _).alloc _).alloc _).alloc _).alloc _).alloc _)
  have b0 : Boxed W1 w.heap.size 9 (.string s) := by rw [← hW1]; repeat (first | exact heap_new' (by simp) | refine heap_old ?_)
  have b1 : Boxed W1 (w.heap.size + 1) 32 (.slice (some ⟨sb, so, none⟩) ys.length cap) := by rw [← hW1]; repeat (first | exact heap_new' (by simp) | refine heap_old ?_)
  have b2 : Boxed W1 (w.heap.size + 1 + 1) 32 (.slice none 0 0) := by rw [← hW1]; repeat (first | exact heap_new' (by simp) | refine heap_old ?_)
  have b3 : Boxed W1 (w.heap.size + 1 + 1 + 1) 4 (.bool true) := by rw [← hW1]; repeat (first | exact heap_new' (by simp) | refine heap_old ?_)
  have b4 : Turner W1 (w.heap.size + 1 + 1 + 1 + 1) 0 0 8 := by rw [← hW1]; repeat (first | exact heap_new' (by simp) | refine heap_old ?_)
  have b5 : Boxed W1 (w.heap.size + 1 + 1 + 1 + 1 + 1) 40 (.pointer (some ⟨w.heap.size + 1 + 1 + 1 + 1, 0, none⟩)) := by rw [← hW1]; repeat (first | exact heap_new' (by simp) | refine heap_old ?_)
  have b6 : Boxed W1 (w.heap.size + 1 + 1 + 1 + 1 + 1 + 1) 47 (.func (.func 30) #[] #[.pointer (some ⟨w.heap.size, 0, none⟩), .pointer (some ⟨w.heap.size + 1, 0, none⟩), .pointer (some ⟨w.heap.size + 1 + 1 + 1, 0, none⟩)]) := by rw [← hW1]; repeat (first | exact heap_new' (by simp) | refine heap_old ?_)
  have b7 : Boxed W1 (w.heap.size + 1 + 1 + 1 + 1 + 1 + 2) 3 (.int .i64 (size : Int)) := by rw [← hW1]; repeat (first | exact heap_new' (by simp) | refine heap_old ?_)
  clear hW1
  have hB1 : BytesAt W1 sb so ys := hB.keep hk1 fun _ _ => trivial
  have hgl : ∀ x ∈ goodN ys (bytesN s), x < 2 ^ size := fun x hx => by rw [← hyl.out]; exact goodN_lt ys _ x hx
  have hx : ∀ i, nth (goodN ys (bytesN s)) i < 2 ^ size := fun i => nth_lt_of _ _ (Nat.two_pow_pos _) hgl i
  obtain ⟨N, hN⟩ : ∃ N, (readOut size ys (bytesN s)).length = N := ⟨_, rfl⟩
  have hNle : N ≤ 8 * s.size := by
    have h1 := outs_len 8 size (0, 0) (goodN ys (bytesN s))
    have h2 := goodN_le ys (bytesN s)
    rw [bytesN_length] at h2
    have h3 : size * (goodN ys (bytesN s)).length ≤ 8 * s.size := Nat.mul_le_mul hz8 h2
    have h4 : (outs 8 size (0, 0) (goodN ys (bytesN s))).length = N := hN
    rw [h4] at h1
    simp only at h1
    omega
  have hol : ∀ i, nth (readOut size ys (bytesN s)) i < 256 := fun i => nth_lt_of _ 256 (by omega) (outs_lt 8 size _ _) i
  have HN := Lib.hid hN
  clear hN
  refine wp_rangeS (gf := 32) (lb := #[.pointer (some ⟨w.heap.size + 1 + 1 + 1 + 1 + 1 + 1, 0, none⟩), .pointer (some ⟨w.heap.size + 1 + 1 + 1 + 1 + 1, 0, none⟩), .pointer (some ⟨w.heap.size + 1 + 1 + 1 + 1 + 1 + 2, 0, none⟩)])
    rfl (enters_of Try.func32 (by kernel_rfl) rfl) N (fun i v _ => v = #[.int .u64 (nth (readOut size ys (bytesN s)) i)]) (BldS w.heap.size (w.heap.size + 1 + 1)) (fun b o => ((b ≠ w.heap.size + 1 + 1 + 1 + 1 ∨ ∀ c f, o ≠ .cells c 45 f) ∧ (b ≠ w.heap.size + 1 + 1 + 1 ∨ ∀ c f, o ≠ .cells c 4 f)) ∧ (b < w.heap.size + 10 ∨ o.isCells = true))
    (fun A => Turner A (w.heap.size + 1 + 1 + 1 + 1) (readEnd size ys (bytesN s)).1 (readEnd size ys (bytesN s)).2 8 ∧ A.cell? ⟨w.heap.size + 1 + 1 + 1, 0, none⟩ = some (.bool (allSigns ys (bytesN s)))) (fun _ _ => True) ?hit ?hSb ?hSi
    (fun i A => ∃ v, Boxed A (w.heap.size + 1 + 1) 32 v ∧ A.ownsRow w.heap.size 5 1 v i (byteVals ((readOut size ys (bytesN s)).take i)))
    (fun _ _ _ => False) ?hI (fun _ _ _ _ h _ => h) (fun _ _ _ _ h _ => h) ?hFin (fun _ _ _ _ _ => trivial) (fun i v A h => by rw [h]; rfl) ⟨_, b2, by simpa [byteVals] using World.ownsRow_nil W1 w.heap.size 5 1⟩ ?hround ?hdone (fun _ _ _ _ _ _ h => h.elim)
  case hit =>
    intro W2 hk2 hz2
    rw [← HN.out]
    refine pieces1_iter 8 size (by omega) (by omega) hz8 (w.heap.size + 1 + 1 + 1 + 1) (w.heap.size + 1 + 1 + 1 + 1 + 1) (w.heap.size + 1 + 1 + 1 + 1 + 1 + 1) (w.heap.size + 1 + 1 + 1 + 1 + 1 + 2) 30 #[.pointer (some ⟨w.heap.size, 0, none⟩), .pointer (some ⟨w.heap.size + 1, 0, none⟩), .pointer (some ⟨w.heap.size + 1 + 1 + 1, 0, none⟩)] (goodN ys (bytesN s)) hx
      (BldS w.heap.size (w.heap.size + 1 + 1)) (fun b o => ((b ≠ w.heap.size + 1 + 1 + 1 + 1 ∨ ∀ c f, o ≠ .cells c 45 f) ∧ (b ≠ w.heap.size + 1 + 1 + 1 ∨ ∀ c f, o ≠ .cells c 4 f)) ∧ (b < w.heap.size + 10 ∨ o.isCells = true))
      (fun b o => (b ≠ w.heap.size + 1 + 1 + 1 ∨ ∀ c f, o ≠ .cells c 4 f) ∧ (b < W2.heap.size + 3 ∨ o.isCells = true)) (fun B => B.cell? ⟨w.heap.size + 1 + 1 + 1, 0, none⟩ = some (.bool (allSigns ys (bytesN s)))) W2
      (b4.keep hk2 fun _ => trivial) (hk2.boxed b5 trivial) ((hk2.boxed b6 trivial).cell) (hk2.boxed b7 trivial) ⟨by omega, by omega⟩ ?_ ?_ ?_ ?_ (enters_of Try.func30 (by kernel_rfl) rfl) ?_ ?_
    · exact ⟨fun c f => ⟨by omega, .inr (by simp)⟩, fun c f => ⟨by omega, .inr (by simp)⟩, fun c f => ⟨by omega, .inr (by simp)⟩⟩
    · rintro b o hb (ho | ⟨c, f, rfl⟩)
      · exact ⟨by omega, .inr fun c f e => by subst e; cases ho⟩
      · exact ⟨by omega, .inr (by simp)⟩
    · rintro b o ⟨⟨h1, h2⟩, h3⟩
      refine ⟨fun c f e => ?_, h3.imp (fun h => by omega) id, h2, h3.imp (fun h => by omega) id⟩
      rcases h1 with h1 | h1
      · exact h1
      · exact absurd e (h1 c f)
    · rintro b o hb ho
      refine ⟨.inl ?_, ho⟩
      rcases hb with h | h | h | h <;> omega
    · rintro l W3 ⟨r, hl⟩ hk3 hz3
      have c0 := hk3.boxed (hk2.boxed b0 trivial) trivial
      have c1 := hk3.boxed (hk2.boxed b1 trivial) trivial
      have c3 := hk3.boxed (hk2.boxed b3 trivial) trivial
      have hR := read1_iter s ys w.heap.size (w.heap.size + 1) (w.heap.size + 1 + 1 + 1) sb so cap (fun b o => b ≠ l ∧ b ≠ w.heap.size + 1 + 1 + 1 + 1 ∧ BldS w.heap.size (w.heap.size + 1 + 1) b o)
        (fun b o => (b ≠ w.heap.size + 1 + 1 + 1 ∨ ∀ c f, o ≠ .cells c 4 f) ∧ (b < W2.heap.size + 3 ∨ o.isCells = true)) W3 hy hyl2 (by omega) c0 c1 c3 ((hB1.keep hk2 fun _ _ => trivial).keep hk3 fun _ _ => trivial)
        (by omega) ⟨by omega, by omega, by omega⟩ ?_ ?_ ?_
      · exact hR
      · refine ⟨fun c f => ⟨cell_ne_loop (hk2.boxed b0 trivial).cell hl, by omega, by omega, .inr (by simp)⟩, fun c f => ⟨cell_ne_loop (hk2.boxed b1 trivial).cell hl, by omega, by omega, .inr (by simp)⟩, fun c f => ⟨cell_ne_loop (hk2.boxed b3 trivial).cell hl, by omega, by omega, .inr (by simp)⟩, fun o => ⟨?_, by omega, by omega, .inl hsb⟩⟩
        have h0 : 0 < ys.length := by rw [hyl.out]; exact Nat.two_pow_pos _
        exact cell_ne_loop ((hB1.keep hk2 fun _ _ => trivial) 0 h0) hl
      · intro b o hb ho
        have := lt_of_some hl
        exact ⟨by omega, by omega, by omega, .inr fun c f e => by subst e; cases ho⟩
      · rintro b o ⟨h1, h2⟩
        refine ⟨fun c f e => ?_, h2.imp (fun h => by omega) id⟩
        rcases h1 with h1 | h1
        · exact h1
        · exact absurd e (h1 c f)
    · intro A B h hk
      exact hk.cell h fun o _ => .inl (by show w.heap.size + 1 + 1 + 1 < _; omega)
  case hSb =>
    intro b o hb ho
    exact ⟨by omega, .inr fun c f e => by subst e; cases ho⟩
  case hSi =>
    intro b o hb hb2 ho
    exact ⟨⟨.inl (by omega), .inl (by omega)⟩, .inl (by omega)⟩
  case hI =>
    rintro i A B ⟨v, h1, h2⟩ hk
    refine ⟨v, hk.boxed h1 ⟨.inr rfl, ⟨.inl (by omega), .inl (by omega)⟩, .inr rfl⟩, h2.1, ?_⟩
    rcases h2.2 with h | ⟨g, cap, cur, hv, hg, hgg, rest⟩
    · exact .inl h
    · exact .inr ⟨g, cap, cur, hv, hg, hk.same _ _ hgg ⟨.inr rfl, ⟨.inr (by simp), .inr (by simp)⟩, .inr rfl⟩, rest⟩
  case hFin =>
    rintro A B ⟨h, h2⟩ hk
    exact ⟨h.keep hk fun o => .inl (by omega), hk.cell h2 fun o _ => .inl (by show w.heap.size + 1 + 1 + 1 < _; omega)⟩
  case hround =>
    intro i v hv
    obtain ⟨x, rfl⟩ := size_one rfl hv
    apply Exists.intro
    apply And.intro
    · intro l2 A K hK
      gi_wp2
      exact hK
    · rintro l2 A hl2 ⟨r, hr⟩ hi ⟨v, h1, h2⟩ hxv
      have hzA := lt_of_some hr
      obtain rfl : x = .int .u64 (nth (readOut size ys (bytesN s)) i) := by simpa using hxv
      have c0 := h1.cell
      obtain ⟨i0, hi0, hz0, hz1, hz2⟩ := info_parts byte_info
      have hwr : IntKind.u8.wrap ((nth (readOut size ys (bytesN s)) i : Nat) : Int) = nth (readOut size ys (bytesN s)) i := by have := hol i; simp [IntKind.wrap, IntKind.bits, IntKind.signed]; omega
      gi_wp2_with (first
        | (gi_at_builtin; refine wpListIn_append_own _ rfl _ _ 32 rfl w.heap.size 5 i0 (.int .u8 0) 1 1 Try.underlying32 hi0 hz0 hz1 hz2 rfl (by decide) _ _ _ rfl (h2.alloc _) ⟨A.heap.size, 0, none⟩ 1 1 [.int .u8 (nth (readOut size ys (bytesN s)) i)] rfl rfl ?c1 ?c2 ?c3 ?c4 ?c5 ?_)
        | gi_in)
      case c2 => rfl
      case c3 => unfold maxLen; omega
      case c4 => omega
      case c5 => omega
      intro v' w1 hown' hgrow _
      obtain ⟨a', cap', rfl⟩ := row_slice hown'
      obtain ⟨R1, R2, R3, R4⟩ := row_appended h1 h2 (by omega) (by omega) hown' hgrow
      have d0 := R1.cell
      have d1 := R1.frozen
      clear hgrow hown' h1 h2 c0
      gi_wp2
      refine ⟨R4, _, R2, ?_⟩
      rw [take_nth _ _ (by rw [HN.out]; exact hi), byteVals_snoc]
      exact R3
  case hdone =>
    rintro D A hD ⟨v, h1, h2⟩ ⟨h3, h4⟩ hk hDB
    have ht : List.take N (readOut size ys (bytesN s)) = readOut size ys (bytesN s) := by rw [← HN.out, List.take_length]
    rw [ht] at h2
    have hx256 : ∀ x ∈ readOut size ys (bytesN s), x < 256 := outs_lt 8 size _ _
    have hs := row_string h2 hx256
    have hre : readN size ys (bytesN s) = if readOk size ys (bytesN s) then (readOut size ys (bytesN s), 0) else ([], 30) := rfl
    have hro : readOk size ys (bytesN s) = (allSigns ys (bytesN s) && decide ((readEnd size ys (bytesN s)).1 = 0) && decide ((readEnd size ys (bytesN s)).2 < size) && decide (N ≤ 400)) := by rw [← HN.out]; rfl
    have hok := finAt_ok 8 size (goodN ys (bytesN s)) (by omega) (goodN ys (bytesN s)).length (Nat.le_refl _)
    have hkA : Same w A := ⟨hk.os.trans hk1.os, hk.tape.trans hk1.tape, hk.output.trans hk1.output, by have := hk.size; omega, fun b o hb _ => hk.same b o (hk1.same b o hb trivial) (by have := lt_of_some hb; exact ⟨⟨by omega, .inl this⟩, ⟨.inl (by omega), .inl (by omega)⟩, .inl (by omega)⟩)⟩
    have hkD : Same w (A.putObj D (.deferred none)) := hkA.putObj _ fun o _ _ h => by omega
    obtain ⟨a, cp, rfl⟩ := row_slice h2
    obtain ⟨f, hf⟩ : ∃ f, readEnd size ys (bytesN s) = f := ⟨_, rfl⟩
    have hok : f.2 < 8 ∧ f.1 < 2 ^ f.2 := by rw [← hf]; exact hok
    rw [hf] at h3 hro
    obtain ⟨n, c⟩ := f
    have k0 := h3.c0
    have k1 := h3.c1
    have c0 := h1.cell
    simp only at hok k0 k1 hro
    obtain ⟨al, hal⟩ : ∃ al, allSigns ys (bytesN s) = al := ⟨_, rfl⟩
    rw [hal] at hro h4
    have Hre := Lib.hid hre
    have Hro := Lib.hid hro
    clear hre hro hf hal ht
    have hn8 := hok.2
    have p8 := pow_le c 8 (by omega)
    cases al
    · gi_wp2
      have hr : readN size ys (bytesN s) = ([], 30) := (by rw [Hre.out, Hro.out]; simp)
      refine ⟨by simp, .inl ⟨_, _, rfl, run_takeDeferred hDB, ?_⟩⟩
      exact ⟨_, results_tmp2 rfl _ _ _, by rw [hr]; rfl, hkD⟩
    · by_cases hn : n = 0
      · subst hn
        by_cases hc : c < size
        · by_cases hN : N ≤ 400
          · gi_wp2
            have hr : readN size ys (bytesN s) = (readOut size ys (bytesN s), 0) := (by rw [Hre.out, Hro.out]; simp [hc, hN])
            refine ⟨by simp, .inl ⟨_, _, rfl, run_takeDeferred hDB, ?_⟩⟩
            exact ⟨_, results_tmp2 rfl _ _ _, by rw [hr]; rfl, hkD⟩
          · gi_wp2
            have hr : readN size ys (bytesN s) = ([], 30) := (by rw [Hre.out, Hro.out]; simp [hN])
            refine ⟨by simp, .inl ⟨_, _, rfl, run_takeDeferred hDB, ?_⟩⟩
            exact ⟨_, results_tmp2 rfl _ _ _, by rw [hr]; rfl, hkD⟩
        · gi_wp2
          have hr : readN size ys (bytesN s) = ([], 30) := (by rw [Hre.out, Hro.out]; simp [hc])
          refine ⟨by simp, .inl ⟨_, _, rfl, run_takeDeferred hDB, ?_⟩⟩
          exact ⟨_, results_tmp2 rfl _ _ _, by rw [hr]; rfl, hkD⟩
      · gi_wp2
        have hr : readN size ys (bytesN s) = ([], 30) := (by rw [Hre.out, Hro.out]; simp [hn])
        refine ⟨by simp, .inl ⟨_, _, rfl, run_takeDeferred hDB, ?_⟩⟩
        exact ⟨_, results_tmp2 rfl _ _ _, by rw [hr]; rfl, hkD⟩

#print axioms read_any
end Go.Tm
