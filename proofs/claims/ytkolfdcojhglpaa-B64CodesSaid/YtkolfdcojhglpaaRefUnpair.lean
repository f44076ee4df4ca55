/-
  The document's Unpair: what it hands back.
-/
import Derived.Test.YtkolfdcojhglpaaRefPairs
set_option linter.unusedVariables false
namespace Go.Tm
open Go.RowKit Go.Proofs

def hexV (c : Nat) : Nat := if c < 58 then c - 48 else c - 87
theorem hex_sign : ∀ c, c < 256 → (isSign digitsN c = (decide (48 ≤ c ∧ c ≤ 57) || decide (97 ≤ c ∧ c ≤ 102))) ∧ (isSign digitsN c = true → idxN digitsN c = hexV c) := by decide +kernel

/-- Two by two. -/
def joinB (ns : List Nat) (m : Nat) : List Nat := (List.range m).map fun j => 16 * nth ns (2 * j) + nth ns (2 * j + 1)
theorem joinB_succ (ns : List Nat) (m : Nat) : joinB ns (m + 1) = joinB ns m ++ [16 * nth ns (2 * m) + nth ns (2 * m + 1)] := by simp [joinB, List.range_succ]
theorem joinB_length (ns : List Nat) (m : Nat) : (joinB ns m).length = m := by simp [joinB]
theorem joinB_val (ns : List Nat) : ∀ m, 2 * m ≤ ns.length → val 8 0 (joinB ns m) = val 4 0 (ns.take (2 * m))
  | 0, _ => by simp [joinB, val]
  | m + 1, h => by
    rw [joinB_succ, val_append, joinB_val ns m (by omega), show 2 * (m + 1) = 2 * m + 1 + 1 by omega, take_nth ns (2 * m + 1) (by omega), take_nth ns (2 * m) (by omega), val_append, val_append]
    simp only [val_cons, val_nil]
    omega
theorem joinB_lt (ns : List Nat) (m : Nat) (h : ∀ k, nth ns k < 16) : ∀ x ∈ joinB ns m, x < 256 := by
  intro x hx
  obtain ⟨j, _, rfl⟩ := List.mem_map.1 hx
  have := h (2 * j); have := h (2 * j + 1); omega

theorem unpair_good (l : List Nat) (m : Nat) (hl : l.length = 2 * m) (ha : allSigns digitsN l = true) (hm : m ≤ 400) : unpairN l = (joinB (goodN digitsN l) m, 0) := by
  have hg : (goodN digitsN l).length = 2 * m := by
    have hall : ∀ x ∈ l, isSign digitsN x = true := List.all_eq_true.1 ha
    unfold goodN; rw [takeWhile_self _ _ hall, List.length_map, hl]
  have hlt : ∀ x ∈ goodN digitsN l, x < 2 ^ 4 := goodN_lt digitsN l
  have hv := outs_val 8 4 (goodN digitsN l) (0, 0) (by simp) hlt
  have hn := outs_len 8 4 (0, 0) (goodN digitsN l)
  have ho := outs_lt 8 4 (0, 0) (goodN digitsN l)
  have hok := finAt_ok 8 4 (goodN digitsN l) (by omega) (goodN digitsN l).length (Nat.le_refl _)
  have hj := joinB_val (goodN digitsN l) m (by omega)
  rw [← hg, List.take_length] at hj
  have hj2 := joinB_lt (goodN digitsN l) m fun k => nth_lt_of _ 16 (by omega) hlt k
  unfold unpairN readN readOk readEnd readOut
  rw [ha]
  rw [finAt_all] at hok ⊢
  generalize fin 8 4 (0, 0) (goodN digitsN l) = f at *
  generalize outs 8 4 (0, 0) (goodN digitsN l) = O at *
  simp only at hv hn
  have h2 : f.2 = 0 := by omega
  have h1 : f.1 = 0 := by have := hok.2; rw [h2] at this; omega
  have hO : O.length = m := by omega
  have hjo : joinB (goodN digitsN l) m = O := by
    refine (val_inj 8 _ _ 0 0 hj2 ho (by rw [joinB_length, hO]) ?_).2
    rw [hj, hv, h1, h2]; simp
  rw [hjo, h1, h2]
  simp [hO, hm]
theorem unpair_bad (l : List Nat) (h : l.length % 2 = 1 ∨ 800 < l.length ∨ allSigns digitsN l = false) : unpairN l = ([], 30) := by
  have hlt : ∀ x ∈ goodN digitsN l, x < 2 ^ 4 := goodN_lt digitsN l
  have hn := outs_len 8 4 (0, 0) (goodN digitsN l)
  unfold unpairN readN
  rw [if_neg]
  intro hr
  unfold readOk readEnd readOut at hr
  simp only [Bool.and_eq_true, decide_eq_true_eq, finAt_all] at hr
  obtain ⟨⟨⟨ha, h1⟩, h2⟩, h3⟩ := hr
  have hg : (goodN digitsN l).length = l.length := by
    have hall : ∀ x ∈ l, isSign digitsN x = true := List.all_eq_true.1 ha
    unfold goodN; rw [takeWhile_self _ _ hall, List.length_map]
  simp only [hg] at hn
  rcases h with h | h | h
  · omega
  · omega
  · rw [h] at ha; cases ha

theorem good_nth (ys l : List Nat) (ha : ∀ j, j < l.length → isSign ys (nth l j) = true) (k : Nat) (hk : k < l.length) : nth (goodN ys l) k = idxN ys (nth l k) :=
  (goodN_nth ys l k hk (fun j hj => ha j (by omega)) (ha k hk)).2

/-- What the numbers so far are, of a text whose signs so far are good. -/
def joinT (l : List Nat) (m : Nat) : List Nat := (List.range m).map fun j => 16 * idxN digitsN (nth l (2 * j)) + idxN digitsN (nth l (2 * j + 1))
theorem joinT_succ (l : List Nat) (m : Nat) : joinT l (m + 1) = joinT l m ++ [16 * idxN digitsN (nth l (2 * m)) + idxN digitsN (nth l (2 * m + 1))] := by simp [joinT, List.range_succ]

set_option maxRecDepth 100000 in
set_option maxHeartbeats 4000000 in
theorem refUnpair_any (s : ByteArray) (w : World) (hs : s.size ≤ 9223372036854775807) : Calls Try.prog 16 #[.string s] w fun e w' => e = .returned (two (unpairN (bytesN s))) ∧ Same w w' := by
  have hsz := bytesN_length s
  obtain ⟨i0, hi0, hz0, hz1, hz2⟩ := info_parts byte_info
  by_cases hodd : s.size % 2 = 1
  · have hp := unpair_bad (bytesN s) (by omega)
    have Hp := Lib.hid hp
    clear hp hsz
    have ht : (s.size : Int).tmod 2 = 1 := by rw [Int.tmod_eq_emod_of_nonneg (by omega)]; omega
    go_enter Try.func16, Try.ntmps16
    go_wp2
    go_ret2
    exact ⟨by rw [Hp.out]; rfl, Keep.refl _ _⟩
  · have ht : (s.size : Int).tmod 2 = 0 := by rw [Int.tmod_eq_emod_of_nonneg (by omega)]; omega
    by_cases hlong : 800 < s.size
    · have hp := unpair_bad (bytesN s) (by omega)
      have Hp := Lib.hid hp
      clear hp hsz
      go_enter Try.func16, Try.ntmps16
      go_wp2
      go_ret2
      exact ⟨by rw [Hp.out]; rfl, Keep.refl _ _⟩
    · obtain ⟨M, hM⟩ : ∃ M, s.size = 2 * M := ⟨s.size / 2, by omega⟩
      have Hsz := Lib.hid hsz
      clear hsz
      go_enter Try.func16, Try.ntmps16
      go_wp2
      go_loopw [4, 5] (fun v i wr => ∃ m q : Nat, m ≤ M ∧ q = 2 * m ∧ i = .int .i64 q ∧ (∀ j, j < q → isSign digitsN (nth (bytesN s) j) = true) ∧ wr.ownsRow w.heap.size 5 1 v m (byteVals (joinT (bytesN s) m)) ∧ Same w wr)
        (fun _ i _ => s.size - (intOf i).toNat)
      case atStart => exact ⟨0, 0, Nat.zero_le _, rfl, rfl, fun j hj => absurd hj (by omega), by simpa [joinT, byteVals] using World.ownsRow_nil w w.heap.size 5 1, Keep.refl _ _⟩
      case round =>
        obtain ⟨m, q, hm, hq, rfl, hgood, hown, hsm⟩ := hrel
        have Hgood := Lib.hid hgood
        clear hgood
        by_cases hlt : m < M
        · have hq1 : q + 1 < s.size := by omega
          have hq0 : q < s.size := by omega
          have hq2 : q ≤ 800 := by omega
          have Hq := Lib.hid hq
          clear hq
          obtain ⟨x0, hx0⟩ : ∃ x, (s[q]'hq0).toNat = x := ⟨_, rfl⟩
          obtain ⟨x1, hx1⟩ : ∃ x, (s[q + 1]'hq1).toNat = x := ⟨_, rfl⟩
          have z0 : x0 < 256 := by rw [← hx0]; exact s[q].toNat_lt
          have z1 : x1 < 256 := by rw [← hx1]; exact s[q + 1].toNat_lt
          have n0 : nth (bytesN s) q = x0 := by rw [nth_bytes s hq0, hx0]
          have n1 : nth (bytesN s) (q + 1) = x1 := by rw [nth_bytes s hq1, hx1]
          obtain ⟨g0, v0⟩ := hex_sign x0 z0
          obtain ⟨g1, v1⟩ := hex_sign x1 z1
          have N0 := Lib.hid n0
          have N1 := Lib.hid n1
          have G0 := Lib.hid g0
          have G1 := Lib.hid g1
          have V0 := Lib.hid v0
          have V1 := Lib.hid v1
          clear n0 n1 g0 g1 v0 v1
          have bad : ∀ j, j < s.size → isSign digitsN (nth (bytesN s) j) = false → unpairN (bytesN s) = ([], 30) := fun j hj hf => unpair_bad _ (.inr (.inr (by
            unfold allSigns; rw [List.all_eq_false]
            have hj' : j < (bytesN s).length := by rw [Hsz.out]; exact hj
            exact ⟨(bytesN s)[j], List.getElem_mem hj', by rw [← nth_eq hj', hf]; simp⟩)))
          have Bad := Lib.hid bad
          clear bad
          obtain ⟨y, hy⟩ : ∃ y, 16 * hexV x0 + hexV x1 = y := ⟨_, rfl⟩
          obtain ⟨y0, hy0⟩ : ∃ y, hexV x0 = y := ⟨_, rfl⟩
          have HY := Lib.hid hy
          have HY0 := Lib.hid hy0
          clear hy hy0
          go_wp2
          go_loop [6, 7] (fun n k => ∃ j : Nat, j ≤ 2 ∧ k = .int .i64 j ∧ ((j = 0 ∧ n = .int .i64 0) ∨ (j = 1 ∧ n = .int .i64 y0 ∧ isSign digitsN x0 = true) ∨ (j = 2 ∧ n = .int .i64 y ∧ isSign digitsN x0 = true ∧ isSign digitsN x1 = true))) (fun _ k => 2 - (intOf k).toNat)
          case atStart => exact ⟨0, by omega, rfl, .inl ⟨rfl, rfl⟩⟩
          case round =>
            obtain ⟨j, hj, rfl, hn⟩ := hrel
            rcases hn with ⟨rfl, rfl⟩ | ⟨rfl, rfl, h0⟩ | ⟨rfl, rfl, h0, h1⟩
            · by_cases d1 : 48 ≤ x0 ∧ x0 ≤ 57
              · obtain ⟨d2, d3⟩ := d1
                go_wp2
                go_round
                case rel =>
                  refine ⟨_, _, _, _, ⟨1, by omega, by first | rfl | go_num, .inr (.inl ⟨rfl, ?_, ?_⟩)⟩, rfl, rfl, rfl, rfl⟩
                  · have hv := HY0.out
                    simp only [hexV] at hv
                    refine congrArg (Value.int .i64) ?_
                    split at hv <;> omega
                  · rw [G0.out]; simp; omega
                case measure => simp [intOf]
              · by_cases d2 : 97 ≤ x0 ∧ x0 ≤ 102
                · obtain ⟨d3, d4⟩ := d2
                  have d5 : 57 < x0 := by omega
                  clear d1
                  go_wp2
                  go_round
                  case rel =>
                    refine ⟨_, _, _, _, ⟨1, by omega, by first | rfl | go_num, .inr (.inl ⟨rfl, ?_, ?_⟩)⟩, rfl, rfl, rfl, rfl⟩
                    · have hv := HY0.out
                      simp only [hexV] at hv
                      refine congrArg (Value.int .i64) ?_
                      split at hv <;> omega
                    · rw [G0.out]; simp; omega
                  case measure => simp [intOf]
                · have hb : unpairN (bytesN s) = ([], 30) := Bad.out q hq0 (by rw [N0.out, G0.out]; simp; omega)
                  have HB := Lib.hid hb
                  clear hb
                  rcases (show x0 < 48 ∨ (57 < x0 ∧ x0 < 97) ∨ 102 < x0 by omega) with d3 | ⟨d3, d4⟩ | d3
                  all_goals
                    clear d1 d2
                    go_wp2
                    go_ret2
                    exact ⟨by rw [HB.out]; rfl, hsm⟩
            · have y0b : y0 ≤ 15 := by
                have h2 := HY0.out
                have b0 : hexV x0 < 16 := by
                  rw [← V0.out h0]; have := h0; simpa [isSign, digitsN] using this
                omega
              have H0 := Lib.hid h0
              clear h0
              by_cases d1 : 48 ≤ x1 ∧ x1 ≤ 57
              · obtain ⟨d2, d3⟩ := d1
                go_wp2
                go_round
                case rel =>
                  refine ⟨_, _, _, _, ⟨2, by omega, by first | rfl | go_num, .inr (.inr ⟨rfl, ?_, H0.out, ?_⟩)⟩, rfl, rfl, rfl, rfl⟩
                  · have hv := HY.out
                    rw [HY0.out] at hv
                    simp only [hexV] at hv
                    refine congrArg (Value.int .i64) ?_
                    split at hv <;> omega
                  · rw [G1.out]; simp; omega
                case measure => simp [intOf]
              · by_cases d2 : 97 ≤ x1 ∧ x1 ≤ 102
                · obtain ⟨d3, d4⟩ := d2
                  have d5 : 57 < x1 := by omega
                  clear d1
                  go_wp2
                  go_round
                  case rel =>
                    refine ⟨_, _, _, _, ⟨2, by omega, by first | rfl | go_num, .inr (.inr ⟨rfl, ?_, H0.out, ?_⟩)⟩, rfl, rfl, rfl, rfl⟩
                    · have hv := HY.out
                      rw [HY0.out] at hv
                      simp only [hexV] at hv
                      refine congrArg (Value.int .i64) ?_
                      split at hv <;> omega
                    · rw [G1.out]; simp; omega
                  case measure => simp [intOf]
                · have hb : unpairN (bytesN s) = ([], 30) := Bad.out (q + 1) hq1 (by rw [N1.out, G1.out]; simp; omega)
                  have HB := Lib.hid hb
                  clear hb
                  rcases (show x1 < 48 ∨ (57 < x1 ∧ x1 < 97) ∨ 102 < x1 by omega) with d3 | ⟨d3, d4⟩ | d3
                  all_goals
                    clear d1 d2
                    go_wp2
                    go_ret2
                    exact ⟨by rw [HB.out]; rfl, hsm⟩
            · have y8 : (y : Int) % 256 = y := by
                have h2 := HY.out
                have b0 : hexV x0 < 16 := by
                  rw [← V0.out h0]; have := h0; simpa [isSign, digitsN] using this
                have b1 : hexV x1 < 16 := by
                  rw [← V1.out h1]; have := h1; simpa [isSign, digitsN] using this
                omega
              go_wp2_with (at_builtin; refine wpList_append_own _ rfl _ _ 32 rfl w.heap.size 5 i0 (.int .u8 0) 1 1 Try.underlying32 hi0 hz0 hz1 hz2 rfl (by decide) _ _ _ rfl (hown.alloc _) ⟨wr.heap.size, 0, none⟩ 1 1 [.int .u8 y] rfl rfl ?c1 ?c2 ?c3 ?c4 ?c5 ?_)
              case c2 => first | rfl | (intro u hu; simp at hu; subst hu; rfl)
              case c3 => unfold maxLen; omega
              case c4 => omega
              case c5 => have := hsm.size; simp; omega
              intro v' w1 hown' hgrow _
              have hsm1 : Same w w1 := same_appended (hsm.alloc _) rfl (World.ownsRow.alloc hown _) hgrow
              obtain ⟨a1, cp, rfl⟩ := row_slice hown'
              clear hgrow hown
              go_wp2
              go_roundw
              case rel =>
                refine ⟨m + 1, q + 2, by omega, by have := Hq.out; omega, by go_num, fun j hj => ?_, ?_, hsm1⟩
                · by_cases e0 : j = q
                  · subst e0; rw [N0.out]; exact h0
                  · by_cases e1 : j = q + 1
                    · subst e1; rw [N1.out]; exact h1
                    · exact Hgood.out j (by omega)
                · rw [joinT_succ, ← Hq.out, N0.out, N1.out, V0.out h0, V1.out h1, HY.out, byteVals_snoc]
                  exact hown'
              case measure => simp [intOf]; omega
        · obtain rfl : m = M := by omega
          have hq2 : q = s.size := by omega
          have hall : allSigns digitsN (bytesN s) = true := by
            unfold allSigns; rw [List.all_eq_true]
            intro x hx
            obtain ⟨j, hj, rfl⟩ := List.getElem_of_mem hx
            rw [← nth_eq hj]; exact Hgood.out j (by rw [Hsz.out] at hj; omega)
          have hlen : (bytesN s).length = 2 * m := by rw [Hsz.out]; omega
          have hp := unpair_good (bytesN s) m hlen hall (by omega)
          have hjt : joinT (bytesN s) m = joinB (goodN digitsN (bytesN s)) m := by
            unfold joinT joinB
            refine List.map_congr_left fun j hj => ?_
            have hj := List.mem_range.1 hj
            have hs := fun j (hj : j < (bytesN s).length) => Hgood.out j (by rw [Hsz.out] at hj; omega)
            rw [good_nth digitsN _ hs (2 * j) (by omega), good_nth digitsN _ hs (2 * j + 1) (by omega)]
          rw [hjt] at hown
          have hlt16 : ∀ k, nth (goodN digitsN (bytesN s)) k < 16 := fun k => nth_lt_of _ 16 (by omega) (goodN_lt digitsN _) k
          have hs := row_string hown (joinB_lt _ _ hlt16)
          obtain ⟨a, cp, rfl⟩ := row_slice hown
          have Hp := Lib.hid hp
          clear hp hlen hjt hlt16 hall
          subst hq2
          go_wp2
          go_ret2
          exact ⟨by rw [Hp.out]; rfl, hsm⟩

#print axioms refUnpair_any
end Go.Tm
