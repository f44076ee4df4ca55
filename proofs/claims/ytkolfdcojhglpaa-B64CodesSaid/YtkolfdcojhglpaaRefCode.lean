/-
  The document's Code: what it hands back.
-/
import Derived.Test.YtkolfdcojhglpaaRefUnpair
import Derived.Test.YtkolfdcojhglpaaB64Joins
set_option linter.unusedVariables false
namespace Go.Tm
open Go.RowKit Go.Proofs

def lettersS : ByteArray := strN lettersN
theorem lettersS_size : lettersS.size = 64 := by decide
theorem lettersS_at (k : Nat) (h : k < lettersS.size) : (lettersS[k]'h).toNat = nth lettersN k := by
  have h' : k < 64 := by rw [← lettersS_size]; exact h
  have e : bytesN lettersS = lettersN := bytesN_strN _ (by decide)
  rw [← nth_bytes lettersS h, e]

set_option maxHeartbeats 400000 in
theorem refLetters_any (w : World) : Calls Try.prog 24 #[] w fun e w' => e = .returned (.string lettersS) ∧ w' = w := by
  go_enter Try.func24, Try.ntmps24
  go_wp2
  go_ret
  exact ⟨rfl, rfl⟩

theorem len_two {l : List Nat} (h : l.length = 2) : ∃ a b, l = [a, b] := by
  match l, h with
  | [a, b], _ => exact ⟨a, b, rfl⟩
theorem len_three {l : List Nat} (h : l.length = 3) : ∃ a b c, l = [a, b, c] := by
  match l, h with
  | [a, b, c], _ => exact ⟨a, b, c, rfl⟩
/-- The four pieces of three bytes. -/
def four (n : Nat) : List Nat := [n / 262144, n / 4096 % 64, n / 64 % 64, n % 64]
theorem four_lt (n : Nat) (h : n < 16777216) : ∀ x ∈ four n, x < 2 ^ 6 := by
  intro x hx; simp [four] at hx; rcases hx with rfl | rfl | rfl | rfl <;> omega
theorem turned_few (l : List Nat) (n : Nat) (hl : ∀ x ∈ l, x < 256)
    (h : (l.length = 1 ∧ n = nth l 0 * 65536) ∨ (l.length = 2 ∧ n = nth l 0 * 65536 + nth l 1 * 256) ∨ (l.length = 3 ∧ n = nth l 0 * 65536 + nth l 1 * 256 + nth l 2)) :
    turnedN 6 l = (four n).take (l.length + 1) := by
  obtain ⟨p, hp, hlen, hval, hlt⟩ := turned_val 6 (by omega) l hl
  have hn : n < 16777216 := by
    have b0 := nth_lt_of l 256 (by omega) hl 0
    have b1 := nth_lt_of l 256 (by omega) hl 1
    have b2 := nth_lt_of l 256 (by omega) hl 2
    omega
  refine (val_inj 6 _ _ 0 0 hlt (fun x hx => four_lt n hn x (List.mem_of_mem_take hx)) ?_ ?_).2
  · rw [List.length_take]; simp only [four, List.length_cons, List.length_nil]; omega
  · rw [hval]
    rcases h with ⟨h1, h2⟩ | ⟨h1, h2⟩ | ⟨h1, h2⟩
    · obtain ⟨a, rfl⟩ := List.length_eq_one_iff.1 h1
      have hp4 : p = 4 := by omega
      subst hp4
      have ha := hl a (by simp)
      have h2' : n = a * 65536 := h2
      show val 8 0 [a] * 2 ^ 4 = val 6 0 [n / 262144, n / 4096 % 64]
      simp only [val_cons, val_nil]
      omega
    · obtain ⟨a, b, rfl⟩ := len_two h1
      have hp4 : p = 2 := by omega
      subst hp4
      have ha := hl a (by simp)
      have hb := hl b (by simp)
      have h2' : n = a * 65536 + b * 256 := h2
      show val 8 0 [a, b] * 2 ^ 2 = val 6 0 [n / 262144, n / 4096 % 64, n / 64 % 64]
      simp only [val_cons, val_nil]
      omega
    · obtain ⟨a, b, c, rfl⟩ := len_three h1
      have hp4 : p = 0 := by omega
      subst hp4
      have ha := hl a (by simp)
      have hb := hl b (by simp)
      have hc := hl c (by simp)
      have h2' : n = a * 65536 + b * 256 + c := h2
      show val 8 0 [a, b, c] * 2 ^ 0 = val 6 0 [n / 262144, n / 4096 % 64, n / 64 % 64, n % 64]
      simp only [val_cons, val_nil]
      omega

/-- The code of the first bytes. -/
def codeT (l : List Nat) (k : Nat) : List Nat := signsOf lettersN (turnedN 6 (l.take k))
def fourS (n : Nat) : ByteArray := strN (signsOf lettersN (four n))
theorem strN_take (l : List Nat) (k : Nat) : strN (l.take k) = (strN l).extract 0 k := by
  apply bytesN_inj
  simp only [bytesN, strN, ByteArray.data_extract, Array.toList_extract]
  simp [List.map_take, List.extract]
theorem codeT_next (l : List Nat) (m n : Nat) (hl : ∀ x ∈ l, x < 256) (h : 3 * m < l.length)
    (hn : (3 * m + 1 = l.length ∧ n = nth l (3 * m) * 65536) ∨ (3 * m + 2 = l.length ∧ n = nth l (3 * m) * 65536 + nth l (3 * m + 1) * 256) ∨ (3 * m + 2 < l.length ∧ n = nth l (3 * m) * 65536 + nth l (3 * m + 1) * 256 + nth l (3 * m + 2))) :
    strN (codeT l (3 * (m + 1))) = strN (codeT l (3 * m)) ++ (fourS n).extract 0 (min 4 (l.length - 3 * m + 1)) := by
  have e : l.take (3 * (m + 1)) = l.take (3 * m) ++ (l.drop (3 * m)).take 3 := by
    rw [show 3 * (m + 1) = 3 * m + 3 by omega, List.take_add]
  have hd : ∀ j, nth ((l.drop (3 * m)).take 3) j = if j < 3 then nth l (3 * m + j) else 0 := by
    intro j
    simp only [nth, List.getD_eq_getElem?_getD]
    split
    · rw [List.getElem?_take_of_lt (by omega), List.getElem?_drop]
    · rw [List.getElem?_eq_none (by rw [List.length_take]; omega)]; rfl
  have hdl : ∀ x ∈ (l.drop (3 * m)).take 3, x < 256 := fun x hx => hl x (List.mem_of_mem_drop (List.mem_of_mem_take hx))
  have hlen : ((l.drop (3 * m)).take 3).length = min 3 (l.length - 3 * m) := by rw [List.length_take, List.length_drop]
  have hf := turned_few ((l.drop (3 * m)).take 3) n hdl (by
    rw [hd, hd, hd, hlen]
    simp only [show (0:Nat) < 3 by omega, show (1:Nat) < 3 by omega, show (2:Nat) < 3 by omega, if_true, Nat.add_zero]
    omega)
  unfold codeT
  rw [e, turned_append _ _ m (fun x hx => hl x (List.mem_of_mem_take hx)) (by rw [List.length_take]; omega), hf, hlen]
  simp only [signsOf, List.map_append]
  rw [strN_append]
  congr 1
  unfold fourS signsOf
  rw [← strN_take, List.map_take]
  congr 2
  omega

set_option maxRecDepth 100000 in
set_option maxHeartbeats 4000000 in
theorem refCode_any (s : ByteArray) (w : World) (hs : s.size ≤ 9223372036854775807) : Calls Try.prog 17 #[.string s] w fun e w' => e = .returned (two (codeN (bytesN s))) ∧ Same w w' := by
  have hsz := bytesN_length s
  have hb := bytesN_lt s
  obtain ⟨LS, hLS, hla⟩ : ∃ LS, lettersS = LS ∧ ∀ k (h : k < LS.size), (LS[k]'h).toNat = nth lettersN k := ⟨_, rfl, lettersS_at⟩
  have hlet := refLetters_any
  have hls := lettersS_size
  rw [hLS] at hlet hls
  refine (callsIn_wide (n := 0)).1 ?_
  refine callsIn_of_wp Try.func17 rfl trivial ?_ rfl
  simp only [Try.ntmps17, List.size_toArray, List.length_cons, List.length_nil, Nat.reduceAdd, Nat.reduceSub, Array.replicate_succ, Array.replicate_zero, List.push_toArray, List.append_toArray, List.nil_append, List.cons_append]
  by_cases h : s.size ≤ 400
  · have hp : codeN (bytesN s) = (signsOf lettersN (turnedN 6 (bytesN s)), 0) := by unfold codeN; rw [if_pos (by omega)]
    have Hp := Lib.hid hp
    have Hsz := Lib.hid hsz
    have Hb := Lib.hid hb
    have Hlet := Lib.hid hlet
    have Hla := Lib.hid hla
    have HLS := Lib.hid hLS
    clear hp hsz hb hlet hla hLS
    gi_wp2_with (gi_at_call 24; refine (callsW (Hlet.out _)).mono ?_; rintro r w1 ⟨rfl, h9⟩; replace h9 := h9.symm; subst h9)
    gi_loopw [5, 6] (fun o i wr => ∃ (m q : Nat) (O : ByteArray), q = 3 * m ∧ i = .int .i64 q ∧ o = .string O ∧ O = strN (codeT (bytesN s) q) ∧ q ≤ s.size + 2 ∧ Same w wr)
      (fun _ i _ => s.size - (intOf i).toNat)
    case atStart => exact ⟨0, 0, _, rfl, rfl, rfl, rfl, by omega, Keep.refl _ _⟩
    case round =>
      obtain ⟨m, q, O, hq, rfl, rfl, hO, hq2, hsm⟩ := hrel
      have HO := Lib.hid hO
      have Hq := Lib.hid hq
      clear hO hq
      by_cases hlt : q < s.size
      · obtain ⟨x0, hx0⟩ : ∃ x, (s[q]'hlt).toNat = x := ⟨_, rfl⟩
        have z0 : x0 < 256 := by rw [← hx0]; exact s[q].toNat_lt
        by_cases h1 : q + 1 < s.size
        · obtain ⟨x1, hx1⟩ : ∃ x, (s[q + 1]'h1).toNat = x := ⟨_, rfl⟩
          have z1 : x1 < 256 := by rw [← hx1]; exact s[q + 1].toNat_lt
          by_cases h2 : q + 2 < s.size
          · obtain ⟨x2, hx2⟩ : ∃ x, (s[q + 2]'h2).toNat = x := ⟨_, rfl⟩
            have z2 : x2 < 256 := by rw [← hx2]; exact s[q + 2].toNat_lt
            gi_wp2
            obtain ⟨n, hn⟩ : ∃ n, x0 * 65536 + x1 * 256 + x2 = n := ⟨_, rfl⟩
            have en : (x0 : Int) * 65536 + x1 * 256 + x2 = (n : Int) := by omega
            have n24 : n < 16777216 := by omega
            rw [en]
            have next := codeT_next (bytesN s) m n Hb.out (by rw [Hsz.out]; have := Hq.out; omega) (.inr (.inr ⟨by rw [Hsz.out]; have := Hq.out; omega, by rw [← Hq.out, nth_bytes s hlt, nth_bytes s h1, nth_bytes s h2, hx0, hx1, hx2, hn]⟩))
            rw [← Hq.out, ← HO.out, show 3 * (m + 1) = q + 3 by have := Hq.out; omega, Hsz.out] at next
            have Next := Lib.hid next
            clear next en hn
            obtain ⟨j0, e0⟩ : ∃ j, n / 262144 = j := ⟨_, rfl⟩
            obtain ⟨k1, f1⟩ : ∃ j, n / 4096 = j := ⟨_, rfl⟩
            obtain ⟨k2, f2⟩ : ∃ j, n / 64 = j := ⟨_, rfl⟩
            obtain ⟨j1, e1⟩ : ∃ j, k1 % 64 = j := ⟨_, rfl⟩
            obtain ⟨j2, e2⟩ : ∃ j, k2 % 64 = j := ⟨_, rfl⟩
            obtain ⟨j3, e3⟩ : ∃ j, n % 64 = j := ⟨_, rfl⟩
            have q0 : (n : Int) / 262144 = (j0 : Int) := by omega
            have q1 : (n : Int) / 4096 = (k1 : Int) := by omega
            have q2 : (n : Int) / 64 = (k2 : Int) := by omega
            have r1 : (k1 : Int).tmod 64 = (j1 : Int) := by rw [Int.tmod_eq_emod_of_nonneg (by omega)]; omega
            have r2 : (k2 : Int).tmod 64 = (j2 : Int) := by rw [Int.tmod_eq_emod_of_nonneg (by omega)]; omega
            have r3 : (n : Int).tmod 64 = (j3 : Int) := by rw [Int.tmod_eq_emod_of_nonneg (by omega)]; omega
            have w0 : IntKind.i64.wrap (j0 : Int) = j0 := IntWalk.i64_in _ (by omega)
            have w1 : IntKind.i64.wrap (k1 : Int) = k1 := IntWalk.i64_in _ (by omega)
            have w2 : IntKind.i64.wrap (k2 : Int) = k2 := IntWalk.i64_in _ (by omega)
            have b0 : (j0 : Int) < 64 := by omega
            have b1 : (j1 : Int) < 64 := by omega
            have b2 : (j2 : Int) < 64 := by omega
            have b3 : (j3 : Int) < 64 := by omega
            have hfour : four n = [j0, j1, j2, j3] := by unfold four; rw [e0, f1, f2, e1, e2, e3]
            have Hfour := Lib.hid hfour
            clear e0 f1 f2 e1 e2 e3 hfour
            refine wpIn_region_text (fun _ => True) (fun o => match o.op with | .convert 32 _ _ => false | _ => reads o) (fun _ => trivial) rfl (by kernel_rfl) (by kernel_rfl) trivial ?_
            iterate 18 (refine wpT_x rfl rfl ?_; intro K hK w' _; go_simp; refine hK _ _ ?_; clear hK K w')
            rw [Hla.out j0 (by rw [hls]; omega), Hla.out j1 (by rw [hls]; omega), Hla.out j2 (by rw [hls]; omega), Hla.out j3 (by rw [hls]; omega)]
            obtain ⟨l0, hl0⟩ : ∃ l, nth lettersN j0 = l := ⟨_, rfl⟩
            obtain ⟨l1, hl1⟩ : ∃ l, nth lettersN j1 = l := ⟨_, rfl⟩
            obtain ⟨l2, hl2⟩ : ∃ l, nth lettersN j2 = l := ⟨_, rfl⟩
            obtain ⟨l3, hl3⟩ : ∃ l, nth lettersN j3 = l := ⟨_, rfl⟩
            have hT : fourS n = strN [l0, l1, l2, l3] := by unfold fourS; rw [Hfour.out]; simp [signsOf, hl0, hl1, hl2, hl3]
            have hl256 : ∀ x ∈ [l0, l1, l2, l3], x < 256 := by
              intro x hx
              have g0 := letters_lt j0; have g1 := letters_lt j1; have g2 := letters_lt j2; have g3 := letters_lt j3
              simp at hx; rcases hx with rfl | rfl | rfl | rfl <;> omega
            rw [hl0, hl1, hl2, hl3]
            have hcv := row_string (B := wr.heap.size) (v := .slice (some ⟨wr.heap.size, 0, none⟩) 4 4) (n := 4) (xs := [l0, l1, l2, l3]) (w := (wr.alloc (.cells #[.int .u8 l0, .int .u8 l1, .int .u8 l2, .int .u8 l3] 5)).drew)
              ⟨rfl, .inr ⟨wr.heap.size, 4, _, rfl, Nat.le_refl _, World.alloc_heap_new wr _, Nat.le_refl _, by unfold maxLen; omega, rfl, rfl⟩⟩ hl256
            obtain ⟨T, hT'⟩ : ∃ T, strN [l0, l1, l2, l3] = T := ⟨_, rfl⟩
            have zT : T.size = 4 := by rw [← hT', strN_size]; rfl
            rw [hT'] at hcv hT
            have HT := Lib.hid hT
            clear hT hT' hl256 hl0 hl1 hl2 hl3
            refine wpT_c rfl rfl ?_
            intro K hK
            go_simp
            refine hK _ _ trivial ?_
            clear hK K
            refine wpT_c rfl rfl ?_
            intro K hK
            go_simp
            refine hK _ _ trivial ?_
            clear hK K
            refine wpT_x rfl rfl ?_; intro K hK w' _; go_simp; refine hK _ _ ?_; clear hK K w'
            refine wpT_nil ?_
            clear hcv
            obtain ⟨c, hc⟩ : ∃ c, min 4 (s.size - q + 1) = c := ⟨_, rfl⟩
            have hmin : min 4 ((s.size : Int) - q + 1) = (c : Int) := by omega
            have zc : c ≤ 4 := by omega
            have zO : O.size ≤ 1000 := by
              rw [HO.out, strN_size]
              have b := turned_len 6 (by omega) ((bytesN s).take q) (fun x hx => Hb.out x (List.mem_of_mem_take hx))
              rw [List.length_take, Hsz.out] at b
              simp only [codeT, signsOf, List.length_map]
              omega
            have hsm1 : Same w (wr.alloc (.cells #[.int .u8 l0, .int .u8 l1, .int .u8 l2, .int .u8 l3] 5)).drew := (hsm.alloc _).drew
            gi_wp2
            go_roundw
            case rel => exact ⟨m + 1, q + 3, _, by have := Hq.out; omega, by go_num, rfl, by rw [Next.out, HT.out, hc], by omega, hsm1⟩
            case measure => simp [intOf]; omega
          · gi_wp2
            obtain ⟨n, hn⟩ : ∃ n, x0 * 65536 + x1 * 256 = n := ⟨_, rfl⟩
            have en : (x0 : Int) * 65536 + x1 * 256 = (n : Int) := by omega
            have n24 : n < 16777216 := by omega
            rw [en]
            have next := codeT_next (bytesN s) m n Hb.out (by rw [Hsz.out]; have := Hq.out; omega) (.inr (.inl ⟨by rw [Hsz.out]; have := Hq.out; omega, by rw [← Hq.out, nth_bytes s hlt, nth_bytes s h1, hx0, hx1, hn]⟩))
            rw [← Hq.out, ← HO.out, show 3 * (m + 1) = q + 3 by have := Hq.out; omega, Hsz.out] at next
            have Next := Lib.hid next
            clear next en hn
            obtain ⟨j0, e0⟩ : ∃ j, n / 262144 = j := ⟨_, rfl⟩
            obtain ⟨k1, f1⟩ : ∃ j, n / 4096 = j := ⟨_, rfl⟩
            obtain ⟨k2, f2⟩ : ∃ j, n / 64 = j := ⟨_, rfl⟩
            obtain ⟨j1, e1⟩ : ∃ j, k1 % 64 = j := ⟨_, rfl⟩
            obtain ⟨j2, e2⟩ : ∃ j, k2 % 64 = j := ⟨_, rfl⟩
            obtain ⟨j3, e3⟩ : ∃ j, n % 64 = j := ⟨_, rfl⟩
            have q0 : (n : Int) / 262144 = (j0 : Int) := by omega
            have q1 : (n : Int) / 4096 = (k1 : Int) := by omega
            have q2 : (n : Int) / 64 = (k2 : Int) := by omega
            have r1 : (k1 : Int).tmod 64 = (j1 : Int) := by rw [Int.tmod_eq_emod_of_nonneg (by omega)]; omega
            have r2 : (k2 : Int).tmod 64 = (j2 : Int) := by rw [Int.tmod_eq_emod_of_nonneg (by omega)]; omega
            have r3 : (n : Int).tmod 64 = (j3 : Int) := by rw [Int.tmod_eq_emod_of_nonneg (by omega)]; omega
            have w0 : IntKind.i64.wrap (j0 : Int) = j0 := IntWalk.i64_in _ (by omega)
            have w1 : IntKind.i64.wrap (k1 : Int) = k1 := IntWalk.i64_in _ (by omega)
            have w2 : IntKind.i64.wrap (k2 : Int) = k2 := IntWalk.i64_in _ (by omega)
            have b0 : (j0 : Int) < 64 := by omega
            have b1 : (j1 : Int) < 64 := by omega
            have b2 : (j2 : Int) < 64 := by omega
            have b3 : (j3 : Int) < 64 := by omega
            have hfour : four n = [j0, j1, j2, j3] := by unfold four; rw [e0, f1, f2, e1, e2, e3]
            have Hfour := Lib.hid hfour
            clear e0 f1 f2 e1 e2 e3 hfour
            refine wpIn_region_text (fun _ => True) (fun o => match o.op with | .convert 32 _ _ => false | _ => reads o) (fun _ => trivial) rfl (by kernel_rfl) (by kernel_rfl) trivial ?_
            iterate 18 (refine wpT_x rfl rfl ?_; intro K hK w' _; go_simp; refine hK _ _ ?_; clear hK K w')
            rw [Hla.out j0 (by rw [hls]; omega), Hla.out j1 (by rw [hls]; omega), Hla.out j2 (by rw [hls]; omega), Hla.out j3 (by rw [hls]; omega)]
            obtain ⟨l0, hl0⟩ : ∃ l, nth lettersN j0 = l := ⟨_, rfl⟩
            obtain ⟨l1, hl1⟩ : ∃ l, nth lettersN j1 = l := ⟨_, rfl⟩
            obtain ⟨l2, hl2⟩ : ∃ l, nth lettersN j2 = l := ⟨_, rfl⟩
            obtain ⟨l3, hl3⟩ : ∃ l, nth lettersN j3 = l := ⟨_, rfl⟩
            have hT : fourS n = strN [l0, l1, l2, l3] := by unfold fourS; rw [Hfour.out]; simp [signsOf, hl0, hl1, hl2, hl3]
            have hl256 : ∀ x ∈ [l0, l1, l2, l3], x < 256 := by
              intro x hx
              have g0 := letters_lt j0; have g1 := letters_lt j1; have g2 := letters_lt j2; have g3 := letters_lt j3
              simp at hx; rcases hx with rfl | rfl | rfl | rfl <;> omega
            rw [hl0, hl1, hl2, hl3]
            have hcv := row_string (B := wr.heap.size) (v := .slice (some ⟨wr.heap.size, 0, none⟩) 4 4) (n := 4) (xs := [l0, l1, l2, l3]) (w := (wr.alloc (.cells #[.int .u8 l0, .int .u8 l1, .int .u8 l2, .int .u8 l3] 5)).drew)
              ⟨rfl, .inr ⟨wr.heap.size, 4, _, rfl, Nat.le_refl _, World.alloc_heap_new wr _, Nat.le_refl _, by unfold maxLen; omega, rfl, rfl⟩⟩ hl256
            obtain ⟨T, hT'⟩ : ∃ T, strN [l0, l1, l2, l3] = T := ⟨_, rfl⟩
            have zT : T.size = 4 := by rw [← hT', strN_size]; rfl
            rw [hT'] at hcv hT
            have HT := Lib.hid hT
            clear hT hT' hl256 hl0 hl1 hl2 hl3
            refine wpT_c rfl rfl ?_
            intro K hK
            go_simp
            refine hK _ _ trivial ?_
            clear hK K
            refine wpT_c rfl rfl ?_
            intro K hK
            go_simp
            refine hK _ _ trivial ?_
            clear hK K
            refine wpT_x rfl rfl ?_; intro K hK w' _; go_simp; refine hK _ _ ?_; clear hK K w'
            refine wpT_nil ?_
            clear hcv
            obtain ⟨c, hc⟩ : ∃ c, min 4 (s.size - q + 1) = c := ⟨_, rfl⟩
            have hmin : min 4 ((s.size : Int) - q + 1) = (c : Int) := by omega
            have zc : c ≤ 4 := by omega
            have zO : O.size ≤ 1000 := by
              rw [HO.out, strN_size]
              have b := turned_len 6 (by omega) ((bytesN s).take q) (fun x hx => Hb.out x (List.mem_of_mem_take hx))
              rw [List.length_take, Hsz.out] at b
              simp only [codeT, signsOf, List.length_map]
              omega
            have hsm1 : Same w (wr.alloc (.cells #[.int .u8 l0, .int .u8 l1, .int .u8 l2, .int .u8 l3] 5)).drew := (hsm.alloc _).drew
            gi_wp2
            go_roundw
            case rel => exact ⟨m + 1, q + 3, _, by have := Hq.out; omega, by go_num, rfl, by rw [Next.out, HT.out, hc], by omega, hsm1⟩
            case measure => simp [intOf]; omega
        · gi_wp2
          obtain ⟨n, hn⟩ : ∃ n, x0 * 65536 = n := ⟨_, rfl⟩
          have en : (x0 : Int) * 65536 = (n : Int) := by omega
          have n24 : n < 16777216 := by omega
          rw [en]
          have next := codeT_next (bytesN s) m n Hb.out (by rw [Hsz.out]; have := Hq.out; omega) (.inl ⟨by rw [Hsz.out]; have := Hq.out; omega, by rw [← Hq.out, nth_bytes s hlt, hx0, hn]⟩)
          rw [← Hq.out, ← HO.out, show 3 * (m + 1) = q + 3 by have := Hq.out; omega, Hsz.out] at next
          have Next := Lib.hid next
          clear next en hn
          obtain ⟨j0, e0⟩ : ∃ j, n / 262144 = j := ⟨_, rfl⟩
          obtain ⟨k1, f1⟩ : ∃ j, n / 4096 = j := ⟨_, rfl⟩
          obtain ⟨k2, f2⟩ : ∃ j, n / 64 = j := ⟨_, rfl⟩
          obtain ⟨j1, e1⟩ : ∃ j, k1 % 64 = j := ⟨_, rfl⟩
          obtain ⟨j2, e2⟩ : ∃ j, k2 % 64 = j := ⟨_, rfl⟩
          obtain ⟨j3, e3⟩ : ∃ j, n % 64 = j := ⟨_, rfl⟩
          have q0 : (n : Int) / 262144 = (j0 : Int) := by omega
          have q1 : (n : Int) / 4096 = (k1 : Int) := by omega
          have q2 : (n : Int) / 64 = (k2 : Int) := by omega
          have r1 : (k1 : Int).tmod 64 = (j1 : Int) := by rw [Int.tmod_eq_emod_of_nonneg (by omega)]; omega
          have r2 : (k2 : Int).tmod 64 = (j2 : Int) := by rw [Int.tmod_eq_emod_of_nonneg (by omega)]; omega
          have r3 : (n : Int).tmod 64 = (j3 : Int) := by rw [Int.tmod_eq_emod_of_nonneg (by omega)]; omega
          have w0 : IntKind.i64.wrap (j0 : Int) = j0 := IntWalk.i64_in _ (by omega)
          have w1 : IntKind.i64.wrap (k1 : Int) = k1 := IntWalk.i64_in _ (by omega)
          have w2 : IntKind.i64.wrap (k2 : Int) = k2 := IntWalk.i64_in _ (by omega)
          have b0 : (j0 : Int) < 64 := by omega
          have b1 : (j1 : Int) < 64 := by omega
          have b2 : (j2 : Int) < 64 := by omega
          have b3 : (j3 : Int) < 64 := by omega
          have hfour : four n = [j0, j1, j2, j3] := by unfold four; rw [e0, f1, f2, e1, e2, e3]
          have Hfour := Lib.hid hfour
          clear e0 f1 f2 e1 e2 e3 hfour
          refine wpIn_region_text (fun _ => True) (fun o => match o.op with | .convert 32 _ _ => false | _ => reads o) (fun _ => trivial) rfl (by kernel_rfl) (by kernel_rfl) trivial ?_
          iterate 18 (refine wpT_x rfl rfl ?_; intro K hK w' _; go_simp; refine hK _ _ ?_; clear hK K w')
          rw [Hla.out j0 (by rw [hls]; omega), Hla.out j1 (by rw [hls]; omega), Hla.out j2 (by rw [hls]; omega), Hla.out j3 (by rw [hls]; omega)]
          obtain ⟨l0, hl0⟩ : ∃ l, nth lettersN j0 = l := ⟨_, rfl⟩
          obtain ⟨l1, hl1⟩ : ∃ l, nth lettersN j1 = l := ⟨_, rfl⟩
          obtain ⟨l2, hl2⟩ : ∃ l, nth lettersN j2 = l := ⟨_, rfl⟩
          obtain ⟨l3, hl3⟩ : ∃ l, nth lettersN j3 = l := ⟨_, rfl⟩
          have hT : fourS n = strN [l0, l1, l2, l3] := by unfold fourS; rw [Hfour.out]; simp [signsOf, hl0, hl1, hl2, hl3]
          have hl256 : ∀ x ∈ [l0, l1, l2, l3], x < 256 := by
            intro x hx
            have g0 := letters_lt j0; have g1 := letters_lt j1; have g2 := letters_lt j2; have g3 := letters_lt j3
            simp at hx; rcases hx with rfl | rfl | rfl | rfl <;> omega
          rw [hl0, hl1, hl2, hl3]
          have hcv := row_string (B := wr.heap.size) (v := .slice (some ⟨wr.heap.size, 0, none⟩) 4 4) (n := 4) (xs := [l0, l1, l2, l3]) (w := (wr.alloc (.cells #[.int .u8 l0, .int .u8 l1, .int .u8 l2, .int .u8 l3] 5)).drew)
            ⟨rfl, .inr ⟨wr.heap.size, 4, _, rfl, Nat.le_refl _, World.alloc_heap_new wr _, Nat.le_refl _, by unfold maxLen; omega, rfl, rfl⟩⟩ hl256
          obtain ⟨T, hT'⟩ : ∃ T, strN [l0, l1, l2, l3] = T := ⟨_, rfl⟩
          have zT : T.size = 4 := by rw [← hT', strN_size]; rfl
          rw [hT'] at hcv hT
          have HT := Lib.hid hT
          clear hT hT' hl256 hl0 hl1 hl2 hl3
          refine wpT_c rfl rfl ?_
          intro K hK
          go_simp
          refine hK _ _ trivial ?_
          clear hK K
          refine wpT_c rfl rfl ?_
          intro K hK
          go_simp
          refine hK _ _ trivial ?_
          clear hK K
          refine wpT_x rfl rfl ?_; intro K hK w' _; go_simp; refine hK _ _ ?_; clear hK K w'
          refine wpT_nil ?_
          clear hcv
          obtain ⟨c, hc⟩ : ∃ c, min 4 (s.size - q + 1) = c := ⟨_, rfl⟩
          have hmin : min 4 ((s.size : Int) - q + 1) = (c : Int) := by omega
          have zc : c ≤ 4 := by omega
          have zO : O.size ≤ 1000 := by
            rw [HO.out, strN_size]
            have b := turned_len 6 (by omega) ((bytesN s).take q) (fun x hx => Hb.out x (List.mem_of_mem_take hx))
            rw [List.length_take, Hsz.out] at b
            simp only [codeT, signsOf, List.length_map]
            omega
          have hsm1 : Same w (wr.alloc (.cells #[.int .u8 l0, .int .u8 l1, .int .u8 l2, .int .u8 l3] 5)).drew := (hsm.alloc _).drew
          gi_wp2
          go_roundw
          case rel => exact ⟨m + 1, q + 3, _, by have := Hq.out; omega, by go_num, rfl, by rw [Next.out, HT.out, hc], by omega, hsm1⟩
          case measure => simp [intOf]; omega
      · have ht : (bytesN s).take q = bytesN s := List.take_of_length_le (by rw [Hsz.out]; omega)
        have hO2 : O = strN (signsOf lettersN (turnedN 6 (bytesN s))) := by rw [HO.out]; unfold codeT; rw [ht]
        have HO2 := Lib.hid hO2
        clear hO2 ht
        gi_wp2
        refine bodyPost_ret (results_tmp2 rfl _ _ _) rfl ?_
        exact ⟨by rw [Hp.out, HO2.out]; rfl, hsm⟩
  · have hp : codeN (bytesN s) = ([], 30) := by unfold codeN; rw [if_neg (by omega)]
    have Hp := Lib.hid hp
    clear hp hsz hb hlet hls hla
    gi_wp2
    refine bodyPost_ret (results_tmp2 rfl _ _ _) rfl ?_
    exact ⟨by rw [Hp.out]; rfl, Keep.refl _ _⟩

#print axioms refCode_any
end Go.Tm
