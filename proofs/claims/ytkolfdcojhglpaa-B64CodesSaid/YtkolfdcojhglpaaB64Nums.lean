/-
  The iterator that b64.read walks gives the numbers of the signs up to the first that is none, and notes whether there was such. Conditions: the theorem's own.
-/
import Derived.Test.YtkolfdcojhglpaaB64Number
set_option linter.unusedVariables false
namespace Go.Tm
open Go.RowKit Go.Proofs

/-- The numbers of the signs that a text begins with; are they all? -/
def isSign (ys : List Nat) (c : Nat) : Bool := decide (idxN ys c < ys.length)
def goodN (ys l : List Nat) : List Nat := (l.takeWhile (isSign ys)).map (idxN ys)
def allSigns (ys l : List Nat) : Bool := l.all (isSign ys)

theorem keep_iterAt (w : World) (k : Nat) (s : ByteArray) (pos : Nat) : Keep (fun b _ => b ≠ k) w (w.iterAt k s pos) :=
  ⟨rfl, rfl, rfl, by rw [Lib.iterAt_size]; exact Nat.le_refl _, fun b o hb hn => (Lib.iterAt_other w k b s pos hn).trans hb⟩

theorem takeWhile_all {α : Type} (p : α → Bool) : ∀ (l : List α) (k : Nat), k ≤ l.length → (∀ j (h : j < k) (h' : j < l.length), p l[j] = true) → k ≤ (l.takeWhile p).length
  | l, 0, _, _ => Nat.zero_le _
  | [], k + 1, h, _ => by simp at h
  | x :: l, k + 1, h, hp => by
    have h0 : p x = true := hp 0 (by omega) (by simp)
    rw [List.takeWhile_cons_of_pos h0]
    simp only [List.length_cons]
    have := takeWhile_all p l k (by simpa using h) fun j hj hj' => hp (j + 1) (by omega) (by simpa using hj')
    omega
theorem takeWhile_stop {α : Type} (p : α → Bool) : ∀ (l : List α) (k : Nat) (hk : k < l.length), (∀ j (h : j < k) (h' : j < l.length), p l[j] = true) → p l[k] = false → (l.takeWhile p).length = k
  | [], k, hk, _, _ => by simp at hk
  | x :: l, 0, _, _, hf => by
    have : p x = false := by simpa using hf
    simp [this]
  | x :: l, k + 1, hk, hp, hf => by
    have h0 : p x = true := hp 0 (by omega) (by simp)
    rw [List.takeWhile_cons_of_pos h0]
    simp only [List.length_cons]
    rw [takeWhile_stop p l k (by simpa using hk) (fun j hj hj' => hp (j + 1) (by omega) (by simpa using hj')) hf]
theorem takeWhile_getElem {α : Type} (p : α → Bool) (l : List α) (k : Nat) (h : k < (l.takeWhile p).length) : (l.takeWhile p)[k] = l[k]'(Nat.lt_of_lt_of_le h ((List.takeWhile_prefix p).length_le)) := by
  have : l.takeWhile p <+: l := List.takeWhile_prefix p
  exact this.getElem h

theorem nth_eq {l : List Nat} {k : Nat} (h : k < l.length) : nth l k = l[k] := by simp [nth, h]

theorem goodN_nth (ys l : List Nat) (k : Nat) (h : k < l.length) (hp : ∀ j, j < k → isSign ys (nth l j) = true) (hk : isSign ys (nth l k) = true) : k < (goodN ys l).length ∧ nth (goodN ys l) k = idxN ys (nth l k) := by
  have h1 : k + 1 ≤ (l.takeWhile (isSign ys)).length := takeWhile_all _ l (k + 1) (by omega) fun j hj hj' => by
    by_cases e : j = k
    · subst e; rw [← nth_eq hj']; exact hk
    · rw [← nth_eq hj']; exact hp j (by omega)
  have h2 : k < (goodN ys l).length := by simp [goodN]; omega
  refine ⟨h2, ?_⟩
  rw [nth_eq h2]
  simp only [goodN, List.getElem_map]
  rw [takeWhile_getElem _ l k (by omega), nth_eq h]
theorem goodN_end (ys l : List Nat) (hp : ∀ j, j < l.length → isSign ys (nth l j) = true) : (goodN ys l).length = l.length ∧ allSigns ys l = true := by
  have h1 := takeWhile_all (isSign ys) l l.length (Nat.le_refl _) fun j hj hj' => by rw [← nth_eq hj']; exact hp j hj
  have h2 := (List.takeWhile_prefix (isSign ys)).length_le (l₂ := l)
  refine ⟨by simp [goodN]; omega, ?_⟩
  unfold allSigns
  rw [List.all_eq_true]
  intro x hx
  obtain ⟨j, hj, rfl⟩ := List.getElem_of_mem hx
  rw [← nth_eq hj]; exact hp j hj
theorem goodN_stop (ys l : List Nat) (k : Nat) (h : k < l.length) (hp : ∀ j, j < k → isSign ys (nth l j) = true) (hf : isSign ys (nth l k) = false) : (goodN ys l).length = k ∧ allSigns ys l = false := by
  refine ⟨?_, ?_⟩
  · simp only [goodN, List.length_map]
    exact takeWhile_stop _ l k h (fun j hj hj' => by rw [← nth_eq hj']; exact hp j hj) (by rw [← nth_eq h]; exact hf)
  · unfold allSigns
    rw [List.all_eq_false]
    exact ⟨l[k], List.getElem_mem h, by rw [← nth_eq h, hf]; simp⟩

theorem idxI_sign {ys : List Nat} {r : Nat} (h : isSign ys r = true) : idxI ys r = idxN ys r := by
  unfold idxI; rw [if_pos (by simpa [isSign] using h)]
theorem idxI_none {ys : List Nat} {r : Nat} (h : isSign ys r = false) : idxI ys r = -1 := by
  unfold idxI; rw [if_neg (by simpa [isSign] using h)]
theorem not_sign_high {ys : List Nat} {r : Nat} (hy : ∀ k, nth ys k < 128) (h : 128 ≤ r) : isSign ys r = false := by
  simp only [isSign, decide_eq_false_iff_not]
  exact idxN_none ys r fun j _ => by have := hy j; omega

set_option maxRecDepth 100000 in
set_option maxHeartbeats 1000000 in
theorem read1_iter (s : ByteArray) (ys : List Nat) (bs bg bR sb so cap : Nat) (Sb Si : Nat → Obj → Prop) (W : World) (hy : ∀ k, nth ys k < 128) (hyl : ys.length < 256)
    (hs : s.size ≤ 9223372036854775807) (hbs : Boxed W bs 9 (.string s)) (hbg : Boxed W bg 32 (.slice (some ⟨sb, so, none⟩) ys.length cap)) (hbR : Boxed W bR 4 (.bool true)) (hB : BytesAt W sb so ys) (hBb : sb < W.heap.size)
    (hne : bs ≠ bR ∧ bg ≠ bR ∧ sb ≠ bR) (hSb : (∀ c f, Sb bs (.cells c 9 f)) ∧ (∀ c f, Sb bg (.cells c 32 f)) ∧ (∀ c f, Sb bR (.cells c 4 f)) ∧ ∀ o, Sb sb o) (hSb2 : ∀ b o, W.heap.size ≤ b → o.isCells = false → Sb b o)
    (hSi : ∀ b o, Si b o → (∀ c f, o = .cells c 4 f → b ≠ bR) ∧ (b < W.heap.size ∨ o.isCells = true)) :
    IterAt Try.prog 30 #[.pointer (some ⟨bs, 0, none⟩), .pointer (some ⟨bg, 0, none⟩), .pointer (some ⟨bR, 0, none⟩)] (goodN ys (bytesN s)).length (fun i v _ => v = #[.int .u64 (nth (goodN ys (bytesN s)) i)]) Sb Si
      (fun B => B.cell? ⟨bR, 0, none⟩ = some (.bool (allSigns ys (bytesN s)))) (fun _ _ => True) W := by
  rintro l J Jx ⟨r, hl⟩ hJ hJx hY h0
  have n1 := cell_ne_loop hbs.cell hl
  have n2 := cell_ne_loop hbg.cell hl
  have n3 := cell_ne_loop hbR.cell hl
  have zl := lt_of_some hl
  have z1 := lt_of_some hbs
  have z2 := lt_of_some hbg
  have cs0 := hbs.cell
  have cg0 := hbg.cell
  have z3 := lt_of_some hbR
  have n4 : sb ≠ l ∨ ys.length = 0 := by
    by_cases h : 0 < ys.length
    · exact .inl (cell_ne_loop (hB 0 h) hl)
    · exact .inr (by omega)
  have hsz := bytesN_length s
  refine callsIn_of_wp Try.func30 rfl trivial ?_ rfl
  simp only [Try.ntmps30, List.size_toArray, List.length_cons, List.length_nil, Nat.reduceAdd, Nat.reduceSub, Array.replicate_succ, Array.replicate_zero, List.push_toArray, List.append_toArray, List.nil_append, List.cons_append]
  have Hsz := Lib.hid hsz
  clear hsz
  gi_wp2
  have hk0 : Same W (W.iter s 0) := (Keep.refl _ W).alloc _
  gi_loopw [6] (fun _ wr => ∃ k : Nat, k ≤ s.size ∧ (∀ j, j < k → isSign ys (nth (bytesN s) j) = true) ∧ wr.heap[W.heap.size]? = some (.stringIter s k) ∧ J k wr ∧ Boxed wr bs 9 (.string s) ∧ Boxed wr bg 32 (.slice (some ⟨sb, so, none⟩) ys.length cap) ∧ Boxed wr bR 4 (.bool true) ∧ BytesAt wr sb so ys)
    (fun _ wr => s.size - wr.iterPos W.heap.size)
  case atStart => exact ⟨0, Nat.zero_le _, fun j hj => absurd hj (Nat.not_lt_zero j), World.iter_heap W s 0, hJ _ _ _ h0 (Keep.of_same hk0), hk0.boxed hbs trivial, hk0.boxed hbg trivial, hk0.boxed hbR trivial, hB.keep hk0 fun _ _ => trivial⟩
  case round =>
    obtain ⟨k, hk, hp, hit, hj, cb1, cb2, bR1, hB1⟩ := hrel
    have c1 := cb1.cell
    have c2 := cb2.cell
    have Hp := Lib.hid hp
    clear hp
    have hpos : wr.iterPos W.heap.size = k := by simp [World.iterPos, hit]
    have Hpos := Lib.hid hpos
    clear hpos
    by_cases hlt : k < s.size
    · obtain ⟨W1, hW1⟩ : ∃ W1, wr.iterAt W.heap.size s (k + (Utf8.decode s k).2) = W1 := ⟨_, rfl⟩
      have hnx := fun ty => Lib.run_next_any_at (P := Try.prog) wr W.heap.size s k ty hit hlt
      rw [hW1] at hnx
      have hkk : Keep (fun b _ => b ≠ W.heap.size) wr W1 := by rw [← hW1]; exact keep_iterAt wr _ s _
      have hit1 : W1.heap[W.heap.size]? = some (.stringIter s (k + (Utf8.decode s k).2)) := by rw [← hW1]; exact Lib.iterAt_heap wr _ s k _ hit
      have Hit1 := Lib.hid hit1
      clear hW1 hit1
      have db1 := hkk.boxed cb1 (by omega)
      have db2 := hkk.boxed cb2 (by omega)
      have d1 := db1.cell
      have d2 := db2.cell
      have bR2 : Boxed W1 bR 4 (.bool true) := hkk.boxed bR1 (by omega)
      have hB2 : BytesAt W1 sb so ys := hB1.keep hkk fun o _ => by omega
      have hj2 : J k W1 := hJ _ _ _ hj (hkk.mono fun b o hb h => by
        rintro rfl
        rw [hit] at hb; cases hb
        rcases (hSi _ _ h).2 with h | h
        · omega
        · cases h)
      have d3 := bR2.cell
      have f3 := bR2.frozen
      have hle := decode_le s k
      have Hle := Lib.hid hle
      clear hle
      have hby := nth_bytes s hlt
      have Hby := Lib.hid hby
      clear hby
      by_cases hg : isSign ys (nth (bytesN s) k) = true
      · have hb128 : nth (bytesN s) k < 128 := by
          rcases Nat.lt_or_ge (nth (bytesN s) k) 128 with h | h
          · exact h
          · rw [not_sign_high hy h] at hg; cases hg
        have hdec := decode_ascii s k hlt (by rw [← Hby.out]; exact hb128)
        rw [← Hby.out] at hdec
        rw [hdec] at hnx
        have hit2 : W1.heap[W.heap.size]? = some (.stringIter s (k + 1)) := by have := Hit1.out; rw [hdec] at this; exact this
        have Hit2 := Lib.hid hit2
        have Hdec := Lib.hid hdec
        clear hit2 hdec
        have hidx := idxI_sign hg
        obtain ⟨hlg, hng⟩ := goodN_nth ys (bytesN s) k (by rw [Hsz.out]; exact hlt) Hp.out hg
        have hix : idxN ys (nth (bytesN s) k) < 256 := by
          have : idxN ys (nth (bytesN s) k) < ys.length := by simpa [isSign] using hg
          omega
        have Hidx := Lib.hid hidx
        have Hng := Lib.hid hng
        have Hg := Lib.hid hg
        clear hidx hng hg
        have hkR : Keep (fun b _ => b ≠ bR) W1 (W1.setCell ⟨bR, 0, none⟩ (.bool true)) := (Keep.refl _ W1).setCell _ fun o _ h _ => h rfl
        have hj3 := hJ _ _ _ hj2 (hkR.mono fun b o hb h e => by subst e; rw [show _ = some _ from bR2] at hb; cases hb; exact (hSi _ _ h).1 _ _ rfl rfl)
        obtain ⟨fn, tmps, assign, body, hy', hR⟩ := hY k _ _ hlg hj3 rfl
        rw [Hng.out] at hy'
        gi_wp2_with (gi_at_call 31; refine (callsW (number_any _ _ sb so cap ys hB2 (by omega) (fun k => by have := hy k; omega))).mono ?_; rintro e w' ⟨rfl, rfl⟩; rw [Hidx.out])
        refine hR.mono ?_
        rintro e W3 ⟨hk3, hj4⟩
        have bR4 : Boxed W3 bR 4 (.bool true) := hk3.boxed (bR2.set _) ⟨n3, hSb.2.2.1 _ _⟩
        have c14 := hk3.boxed (hkR.boxed db1 hne.1) ⟨n1, hSb.1 _ _⟩
        have c24 := hk3.boxed (hkR.boxed db2 hne.2.1) ⟨n2, hSb.2.1 _ _⟩
        have c14c := c14.cell
        have c24c := c24.cell
        have hB4 : BytesAt W3 sb so ys := by
          rcases n4 with n4 | n4
          · exact (hB2.keep hkR fun o _ => hne.2.2).keep hk3 fun o _ => ⟨n4, hSb.2.2.2 _⟩
          · intro j hj; omega
        have hit4 : W3.heap[W.heap.size]? = some (.stringIter s (k + 1)) := hk3.same _ _ (hkR.same _ _ Hit2.out (by omega)) ⟨by omega, hSb2 _ _ (Nat.le_refl _) rfl⟩
        have hpos4 : W3.iterPos W.heap.size = k + 1 := by simp [World.iterPos, hit4]
        have Hpos4 := Lib.hid hpos4
        clear hpos4 hR hy' hnx hj3
        rcases hj4 with ⟨rfl, hj4⟩ | ⟨rfl, hj4⟩
        · gi_wp2
          go_roundw
          case rel =>
            refine ⟨k + 1, by omega, fun j hj => ?_, hit4, hj4, c14, c24, bR4, hB4⟩
            by_cases e : j = k
            · subst e; exact Hg.out
            · exact Hp.out j (by omega)
          case measure => rw [Hpos.out, Hpos4.out]; omega
        · gi_wp2
          refine bodyPost_ret (results_none rfl _ _ _) rfl ?_
          exact ⟨⟨_, rfl⟩, .inr ⟨k, hlg, hj4, trivial⟩⟩
      · have hfalse : isSign ys (nth (bytesN s) k) = false := by simpa using hg
        have hidx : idxI ys (Utf8.decode s k).1 = -1 := by
          by_cases h : nth (bytesN s) k < 128
          · have := decode_ascii s k hlt (by rw [← Hby.out]; exact h)
            rw [this]; exact idxI_none (by rw [← Hby.out]; exact hfalse)
          · have := (decode_high s k hlt (by rw [← Hby.out]; omega)).1
            exact idxI_none (not_sign_high hy this)
        obtain ⟨e1, e2⟩ := goodN_stop ys (bytesN s) k (by rw [Hsz.out]; exact hlt) Hp.out hfalse
        have Hidx := Lib.hid hidx
        have E1 := Lib.hid e1
        have E2 := Lib.hid e2
        clear hidx e1 e2 hg hfalse
        gi_wp2_with (gi_at_call 31; refine (callsW (number_any _ _ sb so cap ys hB2 (by omega) (fun k => by have := hy k; omega))).mono ?_; rintro e w' ⟨rfl, rfl⟩; rw [Hidx.out])
        refine bodyPost_ret (results_none rfl _ _ _) rfl ?_
        have hkR : Keep Si W1 (W1.setCell ⟨bR, 0, none⟩ (.bool false)) := (Keep.refl _ W1).setCell _ fun o ho h _ => by rw [show _ = some _ from bR2] at ho; cases ho; exact (hSi _ _ h).1 _ _ rfl rfl
        exact ⟨⟨_, rfl⟩, .inl ⟨by rw [E1.out]; exact hJ _ _ _ hj2 hkR, by rw [E2.out]; exact (bR2.set _).cell⟩⟩
    · have hnx := fun ty => Lib.run_next_end_at (P := Try.prog) wr W.heap.size s k ty hit hlt
      have hks : k = s.size := by omega
      obtain ⟨e1, e2⟩ := goodN_end ys (bytesN s) fun j hj => Hp.out j (by rw [Hsz.out] at hj; omega)
      rw [Hsz.out, ← hks] at e1
      have E1 := Lib.hid e1
      have E2 := Lib.hid e2
      clear e1 e2
      subst hks
      gi_wp2
      go_end0
      exact ⟨⟨_, rfl⟩, .inl ⟨by rw [E1.out]; exact hj, by rw [E2.out]; exact bR1.cell⟩⟩

end Go.Tm
