/-
  b64.turned answers the signs of bytes. Conditions: the theorem's own.
-/
import Derived.Test.YtkolfdcojhglpaaB64Pieces
import Derived.Test.YtkolfdcojhglpaaB64Number
import Derived.Test.YtkolfdcojhglpaaShelf
import Derived.IntWalk
set_option linter.unusedVariables false
namespace Go.Tm
open Go.RowKit Go.Proofs

/-- The numbers of the signs of bytes; the signs. -/
def turnedN (to : Nat) (xs : List Nat) : List Nat := outs to 8 (0, 0) xs ++ if 0 < (finAt to 8 xs xs.length).2 then [(finAt to 8 xs xs.length).1 * 2 ^ (to - (finAt to 8 xs xs.length).2)] else []
def signsOf (ys ns : List Nat) : List Nat := ns.map (nth ys)

theorem outs1_lt (to : Nat) (s : St) : ∀ x ∈ outs1 to s, x < 2 ^ to := by
  intro x hx
  obtain ⟨j, hj, rfl⟩ := List.mem_map.1 hx
  have hj := List.mem_range.1 hj
  have h0 : 0 < to := by
    rcases Nat.eq_zero_or_pos to with h | h
    · subst h; simp at hj
    · exact h
  have h1 : (j + 1) * to ≤ s.2 := (Nat.le_div_iff_mul_le h0).1 hj
  rw [Nat.succ_mul] at h1 ⊢
  have h2 : s.2 - j * to = (s.2 - (j * to + to)) + to := by omega
  rw [h2, Nat.pow_add]
  exact Nat.div_lt_of_lt_mul (Nat.mod_lt _ (Nat.mul_pos (Nat.two_pow_pos _) (Nat.two_pow_pos _)))
theorem outs_lt (to fr : Nat) : ∀ (s : St) (xs : List Nat), ∀ x ∈ outs to fr s xs, x < 2 ^ to
  | _, [], _, h => by simp [outs] at h
  | s, y :: xs, x, h => by
    simp only [outs, List.mem_append] at h
    rcases h with h | h
    · exact outs1_lt to _ x h
    · exact outs_lt to fr _ xs x h

theorem nth_lt_of (l : List Nat) (b : Nat) (hb : 0 < b) (h : ∀ x ∈ l, x < b) (k : Nat) : nth l k < b := by
  unfold nth
  rw [List.getD_eq_getElem?_getD]
  cases e : l[k]? with
  | none => exact hb
  | some x => exact h x (List.mem_of_getElem? e)

theorem signs_take (ys xs : List Nat) (k : Nat) (h : k < xs.length) : signsOf ys (xs.take (k + 1)) = signsOf ys (xs.take k) ++ [nth ys (nth xs k)] := by
  rw [take_nth xs k h]; simp [signsOf]

theorem shl_val (n d : Nat) (hn : n < 256) (hd : d ≤ 8) : IntKind.u64.wrap ((n : Int) * 2 ^ d) = ((n * 2 ^ d : Nat) : Int) := by
  have h2 := pow_le d 8 hd
  have h3 : n * 2 ^ d ≤ 255 * 256 := Nat.mul_le_mul (by omega) h2
  have e : ((n : Int) * 2 ^ d) = ((n * 2 ^ d : Nat) : Int) := by push_cast; rfl
  rw [e, wrap_u64 (by omega) (by omega)]

theorem isB_keep {S : Nat → Obj → Prop} {B b : Nat} {xs : List Nat} {w w' : World} (h : Bld B b xs w) (hk : Keep S w w') (h1 : ∀ c f, S b (.cells c 39 f)) (h2 : ∀ g c f, B ≤ g → w.heap[g]? = some (.cells c 5 f) → S g (.cells c 5 f)) : Bld B b xs w' := by
  have key : ∀ p, Lib.BuilderAt 39 5 B b p (byteVals xs) w → Lib.BuilderAt 39 5 B b p (byteVals xs) w' := by
    rintro p ⟨hB, v, hb, hown, hne⟩
    refine ⟨hB, v, hk.same _ _ hb (h1 _ _), ⟨hown.1, ?_⟩, hne⟩
    rcases hown.2 with h | ⟨g, cap, cur, hv, hg, hgg, rest⟩
    · exact .inl h
    · exact .inr ⟨g, cap, cur, hv, hg, hk.same _ _ hgg (h2 _ _ _ hg hgg), rest⟩
  rcases h with h | h
  · exact .inl (key _ h)
  · exact .inr (key _ h)

theorem bldString_any (B b : Nat) (xs : List Nat) (w : World) (h : Bld B b xs w) (hx : ∀ x ∈ xs, x < 256) (hB : B ≤ w.heap.size) :
    Calls Try.prog 29 #[.pointer (some ⟨b, 0, none⟩)] w fun e w' => e = .returned (.string (strN xs)) ∧ Keep (fun k o => k < B ∨ (k ≠ b ∧ ∀ c f, o ≠ .cells c 5 f)) w w' := by
  unfold Bld at h
  rw [byteVals_cells xs hx] at h
  refine (Try.Builder_String_any_k B b _ w (Lib.IsBuilderF.of h) hB).mono ?_
  rintro e w' ⟨rfl, _, hb, ho⟩
  refine ⟨rfl, hb.os, hb.tape, hb.output, hb.size, fun k o hk hs => ?_⟩
  rcases hs with hs | ⟨h1, h2⟩
  · exact (hb.block k hs).trans hk
  · exact ho k o hk (by simpa using h1) h2

set_option maxRecDepth 100000 in
set_option maxHeartbeats 2000000 in
theorem turned_any (s : ByteArray) (to sb so cap : Nat) (ys : List Nat) (w : World) (hto : 1 ≤ to) (hto8 : to ≤ 8) (hyl : Hid (ys.length = 2 ^ to)) (hs : s.size ≤ 1073741824) (hB : BytesAt w sb so ys) (hsb : sb < w.heap.size) (hy : ∀ k, nth ys k < 256) :
    Calls Try.prog 21 #[.string s, .int .i64 to, .slice (some ⟨sb, so, none⟩) ys.length cap] w fun e w' =>
      e = .returned (.string (strN (signsOf ys (turnedN to (bytesN s))))) ∧ Same w w' := by
  refine (callsIn_wide (n := 0)).1 ?_
  refine callsIn_of_wp_marks Try.func21 rfl trivial ?_ rfl
  simp only [Try.ntmps21, List.size_toArray, List.length_cons, List.length_nil, Nat.reduceAdd, Nat.reduceSub, Array.replicate_succ, Array.replicate_zero, List.push_toArray, List.append_toArray, List.nil_append, List.cons_append]
  gi_wp2_with (first
    | (gi_at_call 27; refine (callsW (each_any s _)).mono ?_; rintro e w' ⟨rfl, rfl⟩)
    | (gi_at_call 26; refine (callsW (pieces_any _ _ 35 _ _)).mono ?_; rintro e w' ⟨rfl, rfl⟩))
  generalize hW1 : World.alloc _ (.cells #[.int .i64 8] 3) = W1
  have hz : W1.heap.size = w.heap.size + 7 := by rw [← hW1]; simp
  have hk1 : Same w W1 := by rw [← hW1]; exact ((((((((Keep.refl _ w).alloc _).alloc _).alloc _).alloc _).alloc _).alloc _).alloc _)
  have b0 : Boxed W1 w.heap.size 32 (.slice (some ⟨sb, so, none⟩) ys.length cap) := by rw [← hW1]; repeat (first | exact heap_new' (by simp) | refine heap_old ?_)
  have b1 : Bld w.heap.size (w.heap.size + 1) [] W1 := by
    refine .inl ⟨by omega, .slice none 0 0, ?_, World.ownsRow_nil _ _ _ _, by simp [Value.ownBlock]⟩
    rw [← hW1]; repeat (first | exact heap_new' (by simp) | refine heap_old ?_)
  have b2 : Turner W1 (w.heap.size + 1 + 1) 0 0 to := by rw [← hW1]; repeat (first | exact heap_new' (by simp) | refine heap_old ?_)
  have b3 : Boxed W1 (w.heap.size + 1 + 1 + 1) 9 (.string s) := by rw [← hW1]; repeat (first | exact heap_new' (by simp) | refine heap_old ?_)
  have b4 : Boxed W1 (w.heap.size + 1 + 1 + 1 + 1) 40 (.pointer (some ⟨w.heap.size + 1 + 1, 0, none⟩)) := by rw [← hW1]; repeat (first | exact heap_new' (by simp) | refine heap_old ?_)
  have b5 : Boxed W1 (w.heap.size + 1 + 1 + 1 + 1 + 1) 47 (.func (.func 35) #[] #[.pointer (some ⟨w.heap.size + 1 + 1 + 1, 0, none⟩)]) := by rw [← hW1]; repeat (first | exact heap_new' (by simp) | refine heap_old ?_)
  have b6 : Boxed W1 (w.heap.size + 1 + 1 + 1 + 1 + 2) 3 (.int .i64 ((8 : Nat) : Int)) := by rw [← hW1]; repeat (first | exact heap_new' (by simp) | refine heap_old ?_)
  clear hW1
  have hB1 : BytesAt W1 sb so ys := hB.keep hk1 fun _ _ => trivial
  have hsz := bytesN_length s
  have hbl := bytesN_lt s
  have hx : ∀ i, nth (bytesN s) i < 2 ^ 8 := nth_lt s
  obtain ⟨N, hN⟩ : ∃ N, (outs to 8 (0, 0) (bytesN s)).length = N := ⟨_, rfl⟩
  have hNle : N ≤ 8 * s.size := by
    have h1 := outs_len to 8 (0, 0) (bytesN s)
    rw [hsz, hN] at h1
    have h2 : N ≤ N * to := Nat.le_mul_of_pos_right _ (by omega)
    omega
  have hol : ∀ i, nth (outs to 8 (0, 0) (bytesN s)) i < ys.length := fun i => by rw [hyl.out]; exact nth_lt_of _ _ (Nat.two_pow_pos _) (outs_lt to 8 _ _) i
  have Hsz := Lib.hid hsz
  have HN := Lib.hid hN
  clear hsz hN
  refine wp_rangeS (gf := 32) (lb := #[.pointer (some ⟨w.heap.size + 1 + 1 + 1 + 1 + 1, 0, none⟩), .pointer (some ⟨w.heap.size + 1 + 1 + 1 + 1, 0, none⟩), .pointer (some ⟨w.heap.size + 1 + 1 + 1 + 1 + 2, 0, none⟩)])
    rfl (enters_of Try.func32 (by kernel_rfl) rfl) N (fun i v _ => v = #[.int .u64 (nth (outs to 8 (0, 0) (bytesN s)) i)]) (BldS w.heap.size (w.heap.size + 1)) (fun b o => (b ≠ w.heap.size + 1 + 1 ∨ ∀ c f, o ≠ .cells c 45 f) ∧ (b < w.heap.size + 9 ∨ o.isCells = true))
    (fun A => Turner A (w.heap.size + 1 + 1) (finAt to 8 (bytesN s) (bytesN s).length).1 (finAt to 8 (bytesN s) (bytesN s).length).2 to ∧ True) (fun _ _ => True) ?hit ?hSb ?hSi
    (fun i A => Bld w.heap.size (w.heap.size + 1) (signsOf ys ((outs to 8 (0, 0) (bytesN s)).take i)) A ∧ Boxed A w.heap.size 32 (.slice (some ⟨sb, so, none⟩) ys.length cap) ∧ BytesAt A sb so ys)
    (fun _ _ _ => False) ?hI (fun _ _ _ _ h _ => h) (fun _ _ _ _ h _ => h) ?hFin (fun _ _ _ _ _ => trivial) (fun i v A h => by rw [h]; rfl) ⟨b1, b0, hB1⟩ ?hround ?hdone (fun _ _ _ _ _ _ h => h.elim)
  case hit =>
    intro W2 hk2 hz2
    rw [← HN.out]
    refine pieces1_iter to 8 hto hto8 (by omega) (w.heap.size + 1 + 1) (w.heap.size + 1 + 1 + 1 + 1) (w.heap.size + 1 + 1 + 1 + 1 + 1) (w.heap.size + 1 + 1 + 1 + 1 + 2) 35 #[.pointer (some ⟨w.heap.size + 1 + 1 + 1, 0, none⟩)] (bytesN s) hx
      (BldS w.heap.size (w.heap.size + 1)) (fun b o => (b ≠ w.heap.size + 1 + 1 ∨ ∀ c f, o ≠ .cells c 45 f) ∧ (b < w.heap.size + 9 ∨ o.isCells = true)) (fun _ _ => True) (fun _ => True) W2
      (b2.keep hk2 fun _ => trivial) (hk2.boxed b4 trivial) ((hk2.boxed b5 trivial).cell) (hk2.boxed b6 trivial) ⟨by omega, by omega⟩ ?_ ?_ ?_ (fun _ _ _ _ => trivial) (enters_of Try.func35 (by kernel_rfl) rfl) ?_ (fun _ _ _ _ => trivial)
    · exact ⟨fun c f => ⟨by omega, .inr (by simp)⟩, fun c f => ⟨by omega, .inr (by simp)⟩, fun c f => ⟨by omega, .inr (by simp)⟩⟩
    · rintro b o hb (ho | ⟨c, f, rfl⟩)
      · exact ⟨by omega, .inr fun c f e => by subst e; cases ho⟩
      · exact ⟨by omega, .inr (by simp)⟩
    · rintro b o ⟨h1, h2⟩
      refine ⟨fun c f e => ?_, h2.imp (fun h => by omega) id, trivial⟩
      rcases h1 with h1 | h1
      · exact h1
      · exact absurd e (h1 c f)
    · rintro l W3 ⟨r, hl⟩ hk3 _
      have b33 := hk3.boxed (hk2.boxed b3 trivial) trivial
      rw [Hsz.out]
      exact each1_iter s _ _ _ W3 (by omega) b33 fun c f => ⟨cell_ne_loop (hk2.boxed b3 trivial).cell hl, by omega, by omega, .inr (by simp)⟩
  case hSb =>
    intro b o hb ho
    exact ⟨by omega, .inr fun c f e => by subst e; cases ho⟩
  case hSi =>
    intro b o hb hb2 ho
    exact ⟨.inl (by omega), .inl (by omega)⟩
  case hI =>
    rintro i A B ⟨h1, h2, h3⟩ hk
    refine ⟨isB_keep h1 hk (fun c f => ⟨.inr rfl, .inl (by omega), .inr rfl⟩) (fun g c f _ _ => ⟨.inr rfl, .inr (by simp), .inr rfl⟩), hk.boxed h2 ⟨.inr rfl, .inl (by omega), .inr rfl⟩, h3.keep hk fun o _ => ⟨.inl (by omega), .inl (by omega), .inl (by omega)⟩⟩
  case hFin =>
    rintro A B ⟨h, _⟩ hk
    exact ⟨h.keep hk fun o => .inl (by omega), trivial⟩
  case hround =>
    intro i v hv
    obtain ⟨x, rfl⟩ := size_one rfl hv
    apply Exists.intro
    apply And.intro
    · intro l2 A K hK
      gi_wp2
      exact hK
    · rintro l2 A hl2 _ hi ⟨h1, h2, h3⟩ hxv
      obtain rfl : x = .int .u64 (nth (outs to 8 (0, 0) (bytesN s)) i) := by simpa using hxv
      have c0 := h2.cell
      have c1 := h3 _ (hol i)
      have hlt := hol i
      have hl : (signsOf ys ((outs to 8 (0, 0) (bytesN s)).take i)).length ≤ N := by rw [← HN.out]; simp [signsOf]; omega
      gi_wp2
      refine (callsR l2 (writeByte_any _ _ _ _ A h1 (by omega) (by have := (bld_le h1).2; omega))).mono ?_
      rintro e w2 ⟨rfl, hb2, hk2⟩
      gi_wp2
      refine ⟨hk2, ?_, hk2.boxed h2 ⟨by omega, .inr (by simp)⟩, h3.keep hk2 fun o _ => ⟨by omega, .inl hsb⟩⟩
      rw [signs_take _ _ _ (by rw [HN.out]; exact hi)]
      exact hb2
  case hdone =>
    rintro D A hD ⟨h1, h2, h3⟩ ⟨h4, _⟩ hk hDB
    have hok := finAt_ok to 8 (bytesN s) hto (bytesN s).length (Nat.le_refl _)
    have hfin : signsOf ys (turnedN to (bytesN s)) = signsOf ys (outs to 8 (0, 0) (bytesN s)) ++ signsOf ys (if 0 < (finAt to 8 (bytesN s) (bytesN s).length).2 then [(finAt to 8 (bytesN s) (bytesN s).length).1 * 2 ^ (to - (finAt to 8 (bytesN s) (bytesN s).length).2)] else []) := by simp [turnedN, signsOf]
    rw [← HN.out, List.take_length] at h1
    obtain ⟨f, hf⟩ : ∃ f, finAt to 8 (bytesN s) (bytesN s).length = f := ⟨_, rfl⟩
    rw [hf] at hok hfin h4
    obtain ⟨n, c⟩ := f
    have Hfin := Lib.hid hfin
    clear hf hfin
    simp only at hok h4 Hfin
    have k0 := h4.c0
    have k1 := h4.c1
    have c0 := h2.cell
    have hAz := hk.size
    have hb256 : ∀ x ∈ signsOf ys (turnedN to (bytesN s)), x < 256 := by
      intro x hx
      obtain ⟨i, _, rfl⟩ := List.mem_map.1 hx
      exact hy i
    have hkA : Same w A := ⟨hk.os.trans hk1.os, hk.tape.trans hk1.tape, hk.output.trans hk1.output, by omega, fun b o hb _ => hk.same b o (hk1.same b o hb trivial) (by have := lt_of_some hb; exact ⟨⟨by omega, .inl this⟩, .inl (by omega), .inl (by omega)⟩)⟩
    have bye : ∀ (A1 : World) (xs : List Nat), Same w A1 → A1.heap[D]? = some (.deferred (some [])) → Bld w.heap.size (w.heap.size + 1) xs A1 → xs = signsOf ys (turnedN to (bytesN s)) → w.heap.size ≤ A1.heap.size →
        Calls Try.prog 29 #[.pointer (some ⟨w.heap.size + 1, 0, none⟩)] A1 fun e w' => e = .returned (.string (strN (signsOf ys (turnedN to (bytesN s))))) ∧ Same w (w'.putObj D (.deferred none)) ∧ w'.heap[D]? = some (.deferred (some [])) := by
      rintro A1 xs hs1 hD1 hb1 rfl hz1
      refine (bldString_any _ _ _ A1 hb1 hb256 hz1).mono ?_
      rintro e w' ⟨rfl, hk'⟩
      refine ⟨rfl, ?_, hk'.same _ _ hD1 (.inr ⟨by omega, by simp⟩)⟩
      have h1 : Same w w' := ⟨hk'.os.trans hs1.os, hk'.tape.trans hs1.tape, hk'.output.trans hs1.output, Nat.le_trans hs1.size hk'.size, fun b o hb _ => hk'.same b o (hs1.same b o hb trivial) (.inl (lt_of_some hb))⟩
      exact h1.putObj _ fun o _ _ h => by omega
    by_cases hc : 0 < c
    · rw [if_pos hc] at Hfin
      have k1 := k1
      have hn2 : n * 2 ^ (to - c) < ys.length := by
        rw [hyl.out, show to = c + (to - c) by omega, Nat.pow_add, show c + (to - c) - c = to - c by omega]
        exact Nat.mul_lt_mul_of_pos_right hok.2 (Nat.two_pow_pos _)
      have hshl := shl_val n (to - c) (by have := pow_le c 8 (by omega); omega) (by omega)
      have c3 := h3 _ hn2
      obtain ⟨m, hm⟩ : ∃ m, n * 2 ^ (to - c) = m := ⟨_, rfl⟩
      obtain ⟨d, hd⟩ : ∃ d, to - c = d := ⟨_, rfl⟩
      obtain rfl : to = d + c := by omega
      rw [hm] at hn2 c3 hshl Hfin
      rw [hd] at hshl
      clear hm hd
      have hwd : IntKind.i64.wrap (d : Int) = d := IntWalk.i64_in _ (by omega)
      have hl : (signsOf ys (outs (d + c) 8 (0, 0) (bytesN s))).length ≤ N := by rw [← HN.out]; simp [signsOf]
      gi_wp2
      refine wpIn_region_text (fun A' => A'.cell? ⟨w.heap.size, 0, none⟩ = some (.slice (some ⟨sb, so, none⟩) ys.length cap) ∧ A'.cell? ⟨w.heap.size + 1 + 1, 0, none⟩ = some (.int .u64 n) ∧ A'.cell? ⟨w.heap.size + 1 + 1, 1, none⟩ = some (.int .i64 c) ∧ A'.cell? ⟨sb, so + m, none⟩ = some (.int .u8 (nth ys m))) reads (fun _ => trivial) rfl
        (by kernel_rfl) (by kernel_rfl) ⟨c0, k0, k1, c3⟩ ?_
      repeat (refine wpT_x rfl rfl ?_; intro K hK w' ⟨e1, e2, e3, e4⟩; go_simp; refine hK _ _ ?_; clear hK K e1 e2 e3 e4 w')
      refine wpT_c rfl rfl ?_
      intro K hK
      go_simp
      refine (callsW (writeByte_any _ _ _ _ A.drew h1 (by omega) (by show _ ≤ A.heap.size; omega))).mono ?_
      rintro e w2 ⟨rfl, hb2, hk2⟩
      have c02 := (hk2.boxed (w := A.drew) h2 ⟨by omega, .inr (by simp)⟩).cell
      have h42 : Turner w2 (w.heap.size + 1 + 1) n c (d + c) := hk2.same _ _ h4 ⟨by omega, .inr (by simp)⟩
      have h32 : BytesAt w2 sb so ys := BytesAt.keep (w := A.drew) h3 hk2 fun o _ => ⟨by omega, .inl hsb⟩
      refine hK _ _ ⟨c02, h42.c0, h42.c1, h32 _ hn2⟩ ?_
      clear hK K
      refine wpT_nil ?_
      have hkA2 : Same w w2 := ⟨hk2.os.trans hkA.os, hk2.tape.trans hkA.tape, hk2.output.trans hkA.output, Nat.le_trans hkA.size hk2.size, fun b o hb _ => hk2.same b o (hkA.same b o hb trivial) (by have := lt_of_some hb; exact ⟨by omega, .inl this⟩)⟩
      have hDB2 : w2.heap[D]? = some (.deferred (some [])) := hk2.same _ _ hDB ⟨by omega, .inr (by simp)⟩
      have hz2 := hkA2.size
      gi_wp2_with (gi_at_call 29; refine (callsW (bye w2 _ hkA2 hDB2 hb2 (by rw [Hfin.out]; simp [signsOf]) hz2)).mono ?_; rintro e w' ⟨rfl, hs', hd'⟩)
      refine ⟨by simp, .inl ⟨_, _, rfl, run_takeDeferred hd', ?_⟩⟩
      exact ⟨_, results_tmp rfl _ _ _, rfl, hs'⟩
    · obtain rfl : c = 0 := by omega
      gi_wp2_with (gi_at_call 29; refine (callsW (bye A _ hkA hDB h1 (by rw [Hfin.out]; simp [signsOf]) (by omega))).mono ?_; rintro e w' ⟨rfl, hs', hd'⟩)
      refine ⟨by simp, .inl ⟨_, _, rfl, run_takeDeferred hd', ?_⟩⟩
      exact ⟨_, results_tmp rfl _ _ _, rfl, hs'⟩

#print axioms turned_any
end Go.Tm
