/-
  The document's Decode: what it hands back.
-/
import Derived.Test.YtkolfdcojhglpaaRefNumber
set_option linter.unusedVariables false
namespace Go.Tm
open Go.RowKit Go.Proofs

theorem val_lt (k : Nat) : ∀ (l : List Nat) (v : Nat), (∀ x ∈ l, x < 2 ^ k) → val k v l < (v + 1) * 2 ^ (k * l.length)
  | [], v, _ => by simp [val]
  | x :: l, v, h => by
    have ih := val_lt k l (v * 2 ^ k + x) fun y hy => h y (List.mem_cons_of_mem _ hy)
    have hx := h x (List.mem_cons_self ..)
    rw [val_cons, List.length_cons, Nat.mul_succ, Nat.pow_add, Nat.mul_comm (2 ^ (k * l.length)), ← Nat.mul_assoc]
    refine Nat.lt_of_lt_of_le ih (Nat.mul_le_mul_right _ ?_)
    rw [Nat.add_mul]; omega

/-- One group's number, so far: what is behind the text counts as nothing. -/
def digT (l : List Nat) (p : Nat) : Nat := if p < l.length then idxN lettersN (nth l p) else 0
def preT (l : List Nat) (q u : Nat) : Nat := val 6 0 ((List.range u).map fun t => digT l (q + t))
theorem preT_succ (l : List Nat) (q u : Nat) : preT l q (u + 1) = 64 * preT l q u + digT l (q + u) := by
  unfold preT
  rw [List.range_succ, List.map_append, val_append]
  simp only [List.map_cons, List.map_nil, val_cons, val_nil]
  omega
theorem digT_lt (l : List Nat) (p : Nat) (h : p < l.length → isSign lettersN (nth l p) = true) : digT l p < 64 := by
  unfold digT; split
  · rename_i hp
    have := h hp
    rw [isSign, decide_eq_true_eq, letters_len] at this
    exact this
  · omega
theorem preT_lt (l : List Nat) (q u : Nat) (h : ∀ t, t < u → q + t < l.length → isSign lettersN (nth l (q + t)) = true) : preT l q u < 2 ^ (6 * u) := by
  have := val_lt 6 ((List.range u).map fun t => digT l (q + t)) 0 (fun x hx => by
    obtain ⟨t, ht, rfl⟩ := List.mem_map.1 hx
    exact digT_lt l _ (h t (List.mem_range.1 ht)))
  simpa [preT] using this

set_option maxRecDepth 100000 in
set_option maxHeartbeats 4000000 in
theorem refDecode_any (s : ByteArray) (w : World) (hs : s.size ≤ 9223372036854775807) : Calls Try.prog 18 #[.string s] w fun e w' => e = .returned (two (decodeN (bytesN s))) ∧ Same w w' := by
  have hsz := bytesN_length s
  have hb := bytesN_lt s
  obtain ⟨i0, hi0, hz0, hz1, hz2⟩ := info_parts byte_info
  by_cases hodd : s.size % 4 = 1
  · have hp := decode_bad (bytesN s) (by omega)
    have Hp := Lib.hid hp
    clear hp hsz hb
    have ht : (s.size : Int).tmod 4 = 1 := by rw [Int.tmod_eq_emod_of_nonneg (by omega)]; omega
    go_enter Try.func18, Try.ntmps18
    go_wp2
    go_ret2
    exact ⟨by rw [Hp.out]; rfl, Keep.refl _ _⟩
  · obtain ⟨r4, hr4⟩ : ∃ r, (s.size : Int).tmod 4 = r := ⟨_, rfl⟩
    have hr1 : r4 ≠ 1 := by rw [← hr4, Int.tmod_eq_emod_of_nonneg (by omega)]; omega
    have hr2 : (r4 == (1 : Int)) = false := by rw [beq_eq_false_iff_ne]; exact hr1
    by_cases hlong : 540 < s.size
    · have hp := decode_bad (bytesN s) (by omega)
      have Hp := Lib.hid hp
      clear hp hsz hb
      go_enter Try.func18, Try.ntmps18
      go_wp2
      go_ret2
      exact ⟨by rw [Hp.out]; rfl, Keep.refl _ _⟩
    · have Hsz := Lib.hid hsz
      have Hb := Lib.hid hb
      clear hsz hb
      go_enter Try.func18, Try.ntmps18
      go_wp2
      clear hr4 hr1 hr2
      go_loopw [4, 5] (fun v i wr => ∃ m q N : Nat, q = 4 * m ∧ i = .int .i64 q ∧ q ≤ s.size + 3 ∧ (∀ j, j < q → j < s.size → isSign lettersN (nth (bytesN s) j) = true) ∧ wr.ownsRow w.heap.size 5 1 v N (byteVals (bytesT (bytesN s) q)) ∧ Same w wr)
        (fun _ i _ => s.size - (intOf i).toNat)
      case atStart => exact ⟨0, 0, 0, rfl, rfl, by omega, fun j hj => absurd hj (by omega), by simpa [bytesT, numsT, outs, byteVals] using World.ownsRow_nil w w.heap.size 5 1, Keep.refl _ _⟩
      case round =>
        obtain ⟨m, q, N, hq, rfl, hq3, hgood, hown, hsm⟩ := hrel
        have Hgood := Lib.hid hgood
        clear hgood
        have bad : ∀ j, j < s.size → isSign lettersN (nth (bytesN s) j) = false → decodeN (bytesN s) = ([], 30) := fun j hj hf => decode_bad _ (.inr (.inr (by
          unfold allSigns; rw [List.all_eq_false]
          have hj' : j < (bytesN s).length := by rw [Hsz.out]; exact hj
          exact ⟨(bytesN s)[j], List.getElem_mem hj', by rw [← nth_eq hj', hf]; simp⟩)))
        have Bad := Lib.hid bad
        clear bad
        by_cases hlt : q < s.size
        · have hq1 : q + 1 < s.size := by omega
          obtain ⟨kk, hkk⟩ : ∃ k, min 4 (s.size - q) = k := ⟨_, rfl⟩
          have hmin : min 4 ((s.size : Int) - q) = (kk : Int) := by omega
          have hk4 : kk ≤ 4 := by omega
          have hk2 : 2 ≤ kk := by omega
          have Hq := Lib.hid hq
          have Hkk := Lib.hid hkk
          clear hq hkk
          go_wp2
          go_loop [6, 8] (fun n j => ∃ u P : Nat, u ≤ 4 ∧ j = .int .i64 u ∧ n = .int .i64 P ∧ P = preT (bytesN s) q u ∧ ∀ t, t < u → q + t < s.size → isSign lettersN (nth (bytesN s) (q + t)) = true) (fun _ j => 4 - (intOf j).toNat)
          case atStart => exact ⟨0, 0, by omega, rfl, rfl, rfl, fun t ht => absurd ht (by omega)⟩
          case round =>
            obtain ⟨u, P, hu, rfl, rfl, hP, hsg⟩ := hrel
            have hPlt : P < 2 ^ (6 * u) := by rw [hP]; exact preT_lt _ _ _ fun t ht h => hsg t ht (by rw [Hsz.out] at h; exact h)
            have HP := Lib.hid hP
            have Hsg := Lib.hid hsg
            clear hP hsg
            by_cases hu4 : u < 4
            · have zP : P ≤ 262143 := by
                have : 2 ^ (6 * u) ≤ 2 ^ 18 := Nat.pow_le_pow_right (by omega) (by omega)
                omega
              clear hPlt
              by_cases hin : q + u < s.size
              · have hku : u < kk := by have := Hkk.out; omega
                obtain ⟨x, hx⟩ : ∃ x, (s[q + u]'hin).toNat = x := ⟨_, rfl⟩
                have zx : x < 256 := by rw [← hx]; exact s[q + u].toNat_lt
                have nx : nth (bytesN s) (q + u) = x := by rw [nth_bytes s hin, hx]
                by_cases hsgn : isSign lettersN x = true
                · obtain ⟨d, hd⟩ : ∃ d, idxN lettersN x = d := ⟨_, rfl⟩
                  have zd : d < 64 := by
                    have := hsgn
                    rw [isSign, decide_eq_true_eq, letters_len, hd] at this
                    exact this
                  have hid : idxI lettersN x = d := by rw [idxI_sign hsgn, hd]
                  have Hid' := Lib.hid hid
                  have Nx := Lib.hid nx
                  have Hd := Lib.hid hd
                  have Hsn := Lib.hid hsgn
                  clear hid nx hd hsgn
                  go_wp2_with (go_at_call 25; refine (refNumber_any x _ zx).mono ?_; rintro r w1 ⟨rfl, h9⟩; replace h9 := h9.symm; subst h9; rw [Hid'.out])
                  go_round
                  case rel =>
                    refine ⟨u + 1, 64 * P + d, by omega, by go_num, by simp, ?_, fun t ht h => ?_⟩
                    · rw [preT_succ, ← HP.out]
                      unfold digT
                      rw [if_pos (by rw [Hsz.out]; exact hin), Nx.out, Hd.out]
                    · by_cases e : t = u
                      · subst e; rw [Nx.out]; exact Hsn.out
                      · exact Hsg.out t (by omega) h
                  case measure => simp [intOf]; omega
                · have hsf : isSign lettersN x = false := by simpa using hsgn
                  have hid : idxI lettersN x = -1 := idxI_none hsf
                  have hb : decodeN (bytesN s) = ([], 30) := Bad.out (q + u) hin (by rw [nx, hsf])
                  have Hid' := Lib.hid hid
                  have HB := Lib.hid hb
                  clear hid nx hsf hsgn hb
                  go_wp2_with (go_at_call 25; refine (refNumber_any x _ zx).mono ?_; rintro r w1 ⟨rfl, h9⟩; replace h9 := h9.symm; subst h9; rw [Hid'.out])
                  go_ret2
                  exact ⟨by rw [HB.out]; rfl, hsm⟩
              · have hku : ¬ u < kk := by have := Hkk.out; omega
                go_wp2
                go_round
                case rel =>
                  refine ⟨u + 1, 64 * P, by omega, by go_num, by simp, ?_, fun t ht h => ?_⟩
                  · rw [preT_succ, ← HP.out]
                    unfold digT
                    rw [if_neg (by rw [Hsz.out]; exact hin)]
                    rfl
                  · by_cases e : t = u
                    · subst e; exact absurd h hin
                    · exact Hsg.out t (by omega) h
                case measure => simp [intOf]; omega
            · obtain rfl : u = 4 := by omega
              have n24 : P < 16777216 := by simpa using hPlt
              clear hPlt
              obtain ⟨b0, hb0⟩ : ∃ b, P / 65536 = b := ⟨_, rfl⟩
              obtain ⟨c1, hc1⟩ : ∃ b, P / 256 = b := ⟨_, rfl⟩
              obtain ⟨b1, hb1⟩ : ∃ b, c1 % 256 = b := ⟨_, rfl⟩
              obtain ⟨b2, hb2⟩ : ∃ b, P % 256 = b := ⟨_, rfl⟩
              have q0 : (P : Int) / 65536 = (b0 : Int) := by omega
              have q1 : (P : Int) / 256 = (c1 : Int) := by omega
              have q2 : (c1 : Int) % 256 = (b1 : Int) := by omega
              have q3 : (P : Int) % 256 = (b2 : Int) := by omega
              have q4 : (b0 : Int) % 256 = (b0 : Int) := by omega
              have hthree : three P = [b0, b1, b2] := by unfold three; rw [hb0, hc1, hb1, hb2]
              have Hthree := Lib.hid hthree
              have zb0 : b0 < 256 := by omega
              have zb1 : b1 < 256 := by omega
              have zb2 : b2 < 256 := by omega
              clear hb0 hc1 hb1 hb2 hthree
              have hN : N ≤ 1000 := by
                have h1 := hown.1
                have h2 := bytesT_len (bytesN s) q
                rw [byteVals_length] at h1
                rw [Hsz.out] at h2
                omega
              have hnl : (byteVals ([b0, b1, b2].take (kk - 1))).length = (kk - 1) * 1 := by rw [byteVals_length, List.length_take]; simp; omega
              go_wp2_with (at_builtin; refine wpList_append_own _ rfl _ _ 32 rfl w.heap.size 5 i0 (.int .u8 0) 1 1 Try.underlying32 hi0 hz0 hz1 hz2 rfl (by decide) _ _ _ rfl (hown.alloc _) ⟨wr.heap.size, 0, none⟩ (kk - 1) 3 (byteVals ([b0, b1, b2].take (kk - 1))) rfl hnl ?c1 ?c2 ?c3 ?c4 ?c5 ?_)
              case c1 =>
                intro j u hj
                have hj2 : j < (byteVals ([b0, b1, b2].take (kk - 1))).length := by
                  rcases Nat.lt_or_ge j (byteVals ([b0, b1, b2].take (kk - 1))).length with h | h
                  · exact h
                  · rw [List.getElem?_eq_none h] at hj; cases hj
                have hj3 : j < kk - 1 := by omega
                simp only [byteVals, List.getElem?_map, List.getElem?_take_of_lt hj3] at hj
                match j, hj3, hj with
                | 0, _, hj => simp at hj; subst hj; simp [Addr.add]
                | 1, _, hj => simp at hj; subst hj; simp [Addr.add]
                | 2, _, hj => simp at hj; subst hj; simp [Addr.add]
                | j + 3, h3, _ => exact absurd h3 (by omega)
              case c2 =>
                intro u hu
                obtain ⟨x, _, rfl⟩ := List.mem_map.1 hu
                rfl
              case c3 => unfold maxLen; omega
              case c4 => omega
              case c5 => have := hsm.size; omega
              intro v' w1 hown' hgrow _
              have hsm1 : Same w w1 := same_appended (hsm.alloc _) rfl (World.ownsRow.alloc hown _) hgrow
              obtain ⟨a1, cp, rfl⟩ := row_slice hown'
              clear hgrow hown
              have hsg4 : ∀ j, j < 4 * m + 4 → j < (bytesN s).length → isSign lettersN (nth (bytesN s) j) = true := fun j hj h => by
                rw [Hsz.out] at h
                by_cases e : j < q
                · exact Hgood.out j e h
                · have := Hsg.out (j - q) (by have := Hq.out; omega) (by omega)
                  rwa [show q + (j - q) = j by omega] at this
              have hnext := bytesT_next (bytesN s) m P hsg4 (by rw [Hsz.out, ← Hq.out]; exact hq1) (by
                rw [← Hq.out, Hsz.out]
                have hp := HP.out
                simp only [preT_succ, show preT (bytesN s) q 0 = 0 from rfl, digT, Hsz.out, Nat.add_zero] at hp
                rw [if_pos hlt, if_pos hq1] at hp
                by_cases e2 : q + 2 < s.size
                · rw [if_pos e2] at hp
                  by_cases e3 : q + 3 < s.size
                  · rw [if_pos e3] at hp; right; right; omega
                  · rw [if_neg e3] at hp; right; left; omega
                · rw [if_neg e2, if_neg (by omega)] at hp; left; omega)
              rw [← Hq.out, Hsz.out, Hkk.out, Hthree.out] at hnext
              rw [← byteVals_append, ← hnext] at hown'
              clear hnext hsg4 hnl
              go_wp2
              go_roundw
              case rel =>
                refine ⟨m + 1, q + 4, _, by have := Hq.out; omega, by go_num, by omega, fun j hj h => ?_, hown', hsm1⟩
                by_cases e : j < q
                · exact Hgood.out j e h
                · have := Hsg.out (j - q) (by omega) (by omega)
                  rwa [show q + (j - q) = j by omega] at this
              case measure => simp [intOf]; omega
        · have hall : allSigns lettersN (bytesN s) = true := by
            unfold allSigns; rw [List.all_eq_true]
            intro x hx
            obtain ⟨j, hj, rfl⟩ := List.getElem_of_mem hx
            rw [← nth_eq hj]; exact Hgood.out j (by rw [Hsz.out] at hj; omega) (by rw [Hsz.out] at hj; exact hj)
          have ht : bytesT (bytesN s) q = bytesT (bytesN s) (bytesN s).length := by
            unfold bytesT; rw [List.take_length, List.take_of_length_le (by rw [Hsz.out]; omega)]
          have hck := decode_check (bytesN s) Hb.out hall
          rw [ht] at hown
          have hB := bytesT_lt (bytesN s) (bytesN s).length
          have hBl := bytesT_len (bytesN s) (bytesN s).length
          obtain ⟨B, hBB⟩ : ∃ B, bytesT (bytesN s) (bytesN s).length = B := ⟨_, rfl⟩
          rw [hBB] at hown hck hB hBl
          rw [Hsz.out] at hBl
          have hcv := row_string hown hB
          obtain ⟨S, hS⟩ : ∃ S, strN B = S := ⟨_, rfl⟩
          have hSB : bytesN S = B := by rw [← hS]; exact bytesN_strN B hB
          have zS : S.size ≤ 9223372036854775807 := by rw [← hS, strN_size]; omega
          rw [hS] at hcv
          have hcode := fun w => refCode_any S w zS
          rw [hSB] at hcode
          obtain ⟨X, hX⟩ : ∃ X, strN (codeN B).1 = X := ⟨_, rfl⟩
          obtain ⟨e, he⟩ : ∃ e, (codeN B).2 = e := ⟨_, rfl⟩
          have hXs : (codeN B).1 = bytesN s ↔ X = s := by
            rw [← hX]
            refine ⟨fun h => by rw [h, strN_bytesN], fun h => by rw [← h, bytesN_strN _ (code_lt B)]⟩
          have htw : two (codeN B) = .tuple #[.string X, .int .i64 e] := by unfold two; rw [hX, he]
          rw [htw] at hcode
          obtain ⟨a, cp, rfl⟩ := row_slice hown
          rw [he] at hck
          have Hck := Lib.hid hck
          have HS := Lib.hid hS
          have HXs := Lib.hid hXs
          have Hcode := Lib.hid hcode
          clear hck hS hXs hcode htw hX hSB ht hall hBB hB hown
          by_cases he0 : e = 0
          · subst he0
            by_cases hx : X = s
            · have hd : decodeN (bytesN s) = (B, 0) := by rw [Hck.out, if_pos ⟨rfl, HXs.out.2 hx⟩]
              have HD := Lib.hid hd
              clear hd he
              subst hx
              go_wp2_with (go_at_call 17; refine (Hcode.out _).mono ?_; rintro r w1 ⟨rfl, hk1⟩)
              go_ret2
              exact ⟨by rw [HD.out]; unfold two; rw [HS.out]; rfl, hsm.trans hk1⟩
            · have hd : decodeN (bytesN s) = ([], 30) := by rw [Hck.out, if_neg fun h => hx (HXs.out.1 h.2)]
              have HD := Lib.hid hd
              have hxb : (X.toList == s.toList) = false := by
                rw [beq_eq_false_iff_ne]
                intro h
                rw [ByteArray.toList_eq, ByteArray.toList_eq] at h
                exact hx (ByteArray.ext (Array.toList_inj.1 h))
              clear hd he
              go_wp2_with (go_at_call 17; refine (Hcode.out _).mono ?_; rintro r w1 ⟨rfl, hk1⟩)
              go_ret2
              exact ⟨by rw [HD.out]; rfl, hsm.trans hk1⟩
          · have hd : decodeN (bytesN s) = ([], 30) := by rw [Hck.out, if_neg fun h => he0 h.1]
            have HD := Lib.hid hd
            have heb : (e == (0 : Int)) = false := by rw [beq_eq_false_iff_ne]; exact he0
            clear hd he
            go_wp2_with (go_at_call 17; refine (Hcode.out _).mono ?_; rintro r w1 ⟨rfl, hk1⟩)
            go_ret2
            exact ⟨by rw [HD.out]; rfl, hsm.trans hk1⟩

#print axioms refDecode_any
end Go.Tm
