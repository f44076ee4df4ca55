/-
  Part 7 of what the claim leans on: contracts of the functions that the law reaches, and plain facts of what they compute (joined by wip/merge.py out of the texts named behind each mark). Conditions: the theorems' own.
-/
import Derived.Lib.ItoaLen
import Derived.Test.YthledjlechdbiaaGreatDoorSettledClaimF
set_option linter.unusedVariables false
namespace Go.Tm
open Go.RowKit Go.Proofs
theorem keep_iterAt' (w : World) (k : Nat) (s : ByteArray) (pos : Nat) : Keep (fun b _ => b ≠ k) w (w.iterAt k s pos) :=
 ⟨rfl, rfl, rfl, by rw [Lib.iterAt_size]; exact Nat.le_refl _, fun b o hb hn => (Lib.iterAt_other w k b s pos hn).trans hb⟩
def digN (l : List Nat) : Nat := (l.takeWhile isDig).length
theorem digN_le (l : List Nat) : digN l ≤ l.length := (List.takeWhile_prefix isDig).length_le
theorem digN_lt : ∀ (l : List Nat) (k : Nat), k < l.length → (∀ j, j < k → isDig (nth l j) = true) → isDig (nth l k) = true → k < digN l
 | x :: l, 0, _, _, h => by
  have h0 : isDig x = true := h
  unfold digN
  rw [List.takeWhile_cons_of_pos h0]; simp
 | x :: l, k + 1, h, hp, hk => by
  have h0 : isDig x = true := hp 0 (by omega)
  have := digN_lt l k (by simpa using h) (fun j hj => hp (j + 1) (by omega)) hk
  unfold digN at this ⊢
  rw [List.takeWhile_cons_of_pos h0]
  simp only [List.length_cons]; omega
theorem digN_stop : ∀ (l : List Nat) (k : Nat), k < l.length → (∀ j, j < k → isDig (nth l j) = true) → isDig (nth l k) = false → digN l = k
 | x :: l, 0, _, _, h => by
  have h0 : isDig x = false := h
  unfold digN
  rw [List.takeWhile_cons_of_neg (by simp [h0])]; rfl
 | x :: l, k + 1, h, hp, hk => by
  have h0 : isDig x = true := hp 0 (by omega)
  have := digN_stop l k (by simpa using h) (fun j hj => hp (j + 1) (by omega)) hk
  unfold digN at this ⊢
  rw [List.takeWhile_cons_of_pos h0]
  simp only [List.length_cons]; omega
theorem digN_end : ∀ (l : List Nat), (∀ j, j < l.length → isDig (nth l j) = true) → digN l = l.length
 | [], _ => rfl
 | x :: l, hp => by
  have h0 : isDig x = true := hp 0 (by simp)
  have := digN_end l (fun j hj => hp (j + 1) (by simpa using hj))
  unfold digN at this ⊢
  rw [List.takeWhile_cons_of_pos h0]
  simp only [List.length_cons]; omega
set_option maxRecDepth 100000 in
set_option maxHeartbeats 1000000 in
theorem runes1_iter (s : ByteArray) (bs : Nat) (Sb Si : Nat → Obj → Prop) (W : World)
  (hs : s.size ≤ 9223372036854775807) (hbs : Boxed W bs 9 (.string s)) (hSb : ∀ c f, Sb bs (.cells c 9 f)) (hSb2 : ∀ b o, W.heap.size ≤ b → o.isCells = false → Sb b o)
  (hSi : ∀ b o, Si b o → b < W.heap.size ∨ o.isCells = true) :
  IterAt Tryz.prog 272 #[.pointer (some ⟨bs, 0, none⟩)] (digN (bytesN s)) (fun i v _ => v = #[.int .i32 (nth (bytesN s) i)]) Sb Si (fun _ => True) (fun _ _ => True) W := by
 rintro l J Jx hlp hJ hJx hY h0
 obtain ⟨r, hl⟩ := hlp 0 W h0
 have n1 := cell_ne_loop hbs.cell hl
 have zl := lt_of_some hl
 have z1 := lt_of_some hbs
 have cs0 := hbs.cell
 have hsz := bytesN_length s
 refine callsIn_of_wp Tryz.func272 rfl trivial ?_ rfl
 simp only [Tryz.ntmps272, List.size_toArray, List.length_cons, List.length_nil, Nat.reduceAdd, Nat.reduceSub, Array.replicate_succ, Array.replicate_zero, List.push_toArray, List.append_toArray, List.nil_append, List.cons_append]
 have Hsz := Lib.hid hsz
 clear hsz
 refine wpIn_scope ?_
 gi_wp2
 refine wpIn_label ?_
 gi_wp2
 have hk0 : Same W (W.iter s 0) := (Keep.refl _ W).alloc _
 gi_loopw [4] (fun _ wr => ∃ k : Nat, k ≤ s.size ∧ (∀ j, j < k → isDig (nth (bytesN s) j) = true) ∧ wr.heap[W.heap.size]? = some (.stringIter s k) ∧ J k wr ∧ Boxed wr bs 9 (.string s))
  (fun _ wr => s.size - wr.iterPos W.heap.size)
 case atStart => exact ⟨0, Nat.zero_le _, fun j hj => absurd hj (Nat.not_lt_zero j), World.iter_heap W s 0, hJ _ _ _ h0 (Keep.of_same hk0), hk0.boxed hbs trivial⟩
 case round =>
  obtain ⟨k, hk, hp, hit, hj, cb1⟩ := hrel
  have c1 := cb1.cell
  have Hp := Lib.hid hp
  clear hp
  have hpos : wr.iterPos W.heap.size = k := by simp [World.iterPos, hit]
  have Hpos := Lib.hid hpos
  clear hpos
  by_cases hlt : k < s.size
  ·obtain ⟨W1, hW1⟩ : ∃ W1, wr.iterAt W.heap.size s (k + (Utf8.decode s k).2) = W1 := ⟨_, rfl⟩
   have hnx := fun ty => Lib.run_next_any_at (P := Tryz.prog) wr W.heap.size s k ty hit hlt
   rw [hW1] at hnx
   have hkk : Keep (fun b _ => b ≠ W.heap.size) wr W1 := by rw [← hW1]; exact keep_iterAt' wr _ s _
   have hit1 : W1.heap[W.heap.size]? = some (.stringIter s (k + (Utf8.decode s k).2)) := by rw [← hW1]; exact Lib.iterAt_heap wr _ s k _ hit
   have Hit1 := Lib.hid hit1
   clear hW1 hit1
   have db1 := hkk.boxed cb1 (by omega)
   have d1 := db1.cell
   have hj2 : J k W1 := hJ _ _ _ hj (hkk.mono fun b o hb h => by
    rintro rfl
    rw [hit] at hb; cases hb
    rcases hSi _ _ h with h | h
    ·omega
    ·cases h)
   have hby := nth_bytes s hlt
   have Hby := Lib.hid hby
   clear hby
   by_cases hg : isDig (nth (bytesN s) k) = true
   ·have hb128 : nth (bytesN s) k < 128 := by
     simp [isDig] at hg; omega
    have hdec := decode_ascii s k hlt (by rw [← Hby.out]; exact hb128)
    rw [← Hby.out] at hdec
    rw [hdec] at hnx
    have hit2 : W1.heap[W.heap.size]? = some (.stringIter s (k + 1)) := by have := Hit1.out; rw [hdec] at this; exact this
    have Hit2 := Lib.hid hit2
    clear hit2 hdec
    have hlg := digN_lt (bytesN s) k (by rw [Hsz.out]; exact hlt) Hp.out hg
    obtain ⟨fn, tmps, assign, body, hy', hR⟩ := hY k _ _ hlg hj2 rfl
    have hcall := fun W => isDigit_any (nth (bytesN s) k) W
    rw [hg] at hcall
    have Hg := Lib.hid hg
    clear hg
    gi_wp2_with (gi_at_call 151; refine (callsW (hcall _)).mono ?_; rintro e w' ⟨rfl, rfl⟩)
    refine hR.mono ?_
    rintro e W3 ⟨hk3, hj4⟩
    have c14 := hk3.boxed db1 ⟨n1, hSb _ _⟩
    have c14c := c14.cell
    have hit4 : W3.heap[W.heap.size]? = some (.stringIter s (k + 1)) := hk3.same _ _ Hit2.out ⟨by omega, hSb2 _ _ (Nat.le_refl _) rfl⟩
    have hpos4 : W3.iterPos W.heap.size = k + 1 := by simp [World.iterPos, hit4]
    have Hpos4 := Lib.hid hpos4
    clear hpos4 hR hy' hnx hj2 hcall
    rcases hj4 with ⟨rfl, hj4⟩ | ⟨rfl, hj4⟩
    ·gi_wp2
     go_roundw
     case rel =>
      refine ⟨k + 1, by omega, fun j hj => ?_, hit4, hj4, c14⟩
      by_cases e : j = k
      ·subst e; exact Hg.out
      ·exact Hp.out j (by omega)
     case measure => rw [Hpos.out, Hpos4.out]; omega
    ·gi_wp2
     simp only [Exit.noGoto]
     refine bodyPost_end (results_none rfl _ _ _) rfl ?_
     exact ⟨⟨_, rfl⟩, .inr ⟨k, hlg, hj4, trivial⟩⟩
   ·have hfalse : isDig (nth (bytesN s) k) = false := by simpa using hg
    have hidx : isDig (Utf8.decode s k).1 = false := by
     by_cases h : nth (bytesN s) k < 128
     ·have := decode_ascii s k hlt (by rw [← Hby.out]; exact h)
      rw [this]; rw [← Hby.out]; exact hfalse
     ·have := (decode_high s k hlt (by rw [← Hby.out]; omega)).1
      simp [isDig]; omega
    have e1 := digN_stop (bytesN s) k (by rw [Hsz.out]; exact hlt) Hp.out hfalse
    have hcall := fun W => isDigit_any (Utf8.decode s k).1 W
    rw [hidx] at hcall
    have E1 := Lib.hid e1
    clear hidx e1 hg hfalse
    gi_wp2_with (gi_at_call 151; refine (callsW (hcall _)).mono ?_; rintro e w' ⟨rfl, rfl⟩)
    simp only [Exit.noGoto]
    refine bodyPost_end (results_none rfl _ _ _) rfl ?_
    exact ⟨⟨_, rfl⟩, .inl ⟨by rw [E1.out]; exact hj2, trivial⟩⟩
  ·have hnx := fun ty => Lib.run_next_end_at (P := Tryz.prog) wr W.heap.size s k ty hit hlt
   have hks : k = s.size := by omega
   have e1 := digN_end (bytesN s) fun j hj => Hp.out j (by rw [Hsz.out] at hj; omega)
   rw [Hsz.out, ← hks] at e1
   have E1 := Lib.hid e1
   clear e1
   subst hks
   gi_wp2
   simp only [Exit.noGoto]
   refine bodyPost_end (results_none rfl _ _ _) rfl ?_
   exact ⟨⟨_, rfl⟩, .inl ⟨by rw [E1.out]; exact hj, trivial⟩⟩
end Go.Tm
namespace Go.Tm
open Go.RowKit Go.Proofs
def nextB (s : ByteArray) (cs : List Nat) : Bool := decide (0 < s.size) && cs.contains (nth (bytesN s) 0)
def tailB (s : ByteArray) : ByteArray := s.extract 1 s.size
def digsB (s : ByteArray) : ByteArray := s.extract 0 (digN (bytesN s))
def restD (s : ByteArray) : ByteArray := s.extract (digN (bytesN s)) s.size
def wholeR (s : ByteArray) : ByteArray × ByteArray := if nextB s [48] then (⟨#[48]⟩, tailB s) else (digsB s, restD s)
def partR (s : ByteArray) : ByteArray × ByteArray := if nextB s [46] = true ∧ (digsB (tailB s)).size ≠ 0 then (digsB (tailB s), restD (tailB s)) else (⟨#[]⟩, s)
abbrev RB (rb : Nat) (s : ByteArray) (w : World) : Prop := w.heap[rb]? = some (.cells #[.string s] 188 (0, 0))
def NextOut (rb : Nat) (s : ByteArray) (b : Bool) (w : World) (e : Ending) (w' : World) : Prop := e = .returned (.bool b) ∧ RB rb (if b then tailB s else s) w' ∧ Keep (fun k _ => k ≠ rb) w w'
set_option maxRecDepth 100000 in
set_option maxHeartbeats 1000000 in
theorem isNext_any (rb lb : Nat) (s : ByteArray) (cs : List Nat) (w : World) (hrb : RB rb s w) (hlb : ∀ j, j < cs.length → w.cell? ⟨lb, j, none⟩ = some (.int .u8 (nth cs j))) (hl : cs.length ≤ 10) (hs : s.size ≤ 1099511627776) :
  Calls Tryz.prog 155 #[.pointer (some ⟨rb, 0, none⟩), .slice (some ⟨lb, 0, none⟩) cs.length cs.length] w (NextOut rb s (nextB s cs) w) := by
 have c0 := cells1 hrb
 have hfz : ∀ j, w.frozen? ⟨rb, j, none⟩ = false := Lib.frozen_of_heap hrb
 have HLB := Lib.hid hlb
 clear hlb
 go_enter Tryz.func155, Tryz.ntmps155
 go_wp2
 go_loop [6, 9] (fun _ i => ∃ k : Nat, k ≤ cs.length ∧ i = .int .i64 (k : Int) ∧ nextB s cs = nextB s (cs.drop k)) (fun _ i => cs.length - (RowKit.intOf i).toNat)
 case atStart => exact ⟨0, Nat.zero_le _, rfl, rfl⟩
 case round =>
  obtain ⟨k, hk, rfl, hn⟩ := hrel
  by_cases hlt : k < cs.length
  ·have hck := HLB.out k hlt
   have hdr : cs.drop k = nth cs k :: cs.drop (k + 1) := by
    rw [List.drop_eq_getElem_cons hlt]; congr 1; simp [nth, hlt]
   rw [hdr] at hn
   by_cases h0 : s.size = 0
   ·have e1 : s.toList = [] := by
     have : s = ByteArray.empty := by simpa using h0
     rw [this, ByteArray.toList_eq]; rfl
    have hn2 : nextB s cs = nextB s (cs.drop (k + 1)) := by
     rw [hn]; unfold nextB; simp [h0]
    have HN := Lib.hid hn2
    clear hn hn2 hdr h0
    go_wp2_with fail
    go_round
    case rel => exact ⟨k + 1, by omega, by go_num, HN.out⟩
    case measure => simp [RowKit.intOf]; omega
   ·have hpos : 0 < s.size := by omega
    have hb := nth_bytes s hpos
    have e1 : s.toList.isEmpty = false := by
     rw [ByteArray.toList_eq]
     cases h : s.data.toList with
     | nil => have : s.data.toList.length = s.size := by simp
              rw [h] at this; simp at this; omega
     | cons x l => rfl
    have e2 : (s.toList == []) = false := by cases h : s.toList with
     | nil => rw [h] at e1; cases e1
     | cons x l => rfl
    clear e1
    by_cases hc : nth (bytesN s) 0 = nth cs k
    ·have hn2 : nextB s cs = true := by
      rw [hn]; unfold nextB; simp [hpos, hc]
     have hcb : ((s[0]).toNat : Int) = (nth cs k : Int) := by rw [← hb, hc]
     have HN := Lib.hid hn2
     rw [hb] at hc
     rw [← hc] at hck
     clear hn hn2 hdr h0 hcb hb hc
     go_wp2_with fail
     go_ret
     rw [HN.out]
     exact ⟨rfl, setCell_heap hrb 0 _, (Keep.refl _ _).setCell _ fun o _ h _ => h rfl⟩
    ·have hn2 : nextB s cs = nextB s (cs.drop (k + 1)) := by
      rw [hn]; unfold nextB; simp [hc]
     have hcb : (((s[0]).toNat : Int) == (nth cs k : Int)) = false := by rw [hb] at hc; simp; omega
     have HN := Lib.hid hn2
     clear hn hn2 hdr h0 hb hc
     go_wp2_with fail
     go_round
     case rel => exact ⟨k + 1, by omega, by go_num, HN.out⟩
     case measure => simp [RowKit.intOf]; omega
  ·obtain rfl : k = cs.length := by omega
   have hf : nextB s cs = false := by rw [hn, List.drop_length]; unfold nextB; simp
   have HF := Lib.hid hf
   clear hn hf
   go_wp2_with fail
   go_ret
   rw [HF.out]
   exact ⟨rfl, hrb, Keep.refl _ _⟩
set_option maxRecDepth 100000 in
theorem runes_any (s : ByteArray) (w : World) : Calls Tryz.prog 237 #[.string s] w fun e w' => e = .returned (.func (.func 272) #[] #[.pointer (some ⟨w.heap.size, 0, none⟩)]) ∧ w' = w.alloc (.cells #[.string s] 9) := by
 go_enter Tryz.func237, Tryz.ntmps237
 go_wp2
 go_ret
 exact ⟨rfl, rfl⟩
def ReadOut (rb : Nat) (r : ByteArray × ByteArray) (w : World) (e : Ending) (w' : World) : Prop := e = .returned (.string r.1) ∧ RB rb r.2 w' ∧ Keep (fun k _ => k ≠ rb) w w'
set_option maxRecDepth 100000 in
set_option maxHeartbeats 2000000 in
theorem digits_any (rb : Nat) (s : ByteArray) (w : World) (hrb : RB rb s w) (hs : s.size ≤ 1099511627776) :
  Calls Tryz.prog 206 #[.pointer (some ⟨rb, 0, none⟩)] w (ReadOut rb (digsB s, restD s) w) := by
 have hdn := digN_le (bytesN s)
 rw [bytesN_length] at hdn
 have hblt := lt_of_some hrb
 obtain ⟨d, hd⟩ : ∃ d, digN (bytesN s) = d := ⟨_, rfl⟩
 rw [hd] at hdn
 have HD := Lib.hid hd
 refine (callsIn_wide (n := 0)).1 ?_
 refine callsIn_of_wp_marks Tryz.func206 rfl trivial ?_ rfl
 simp only [Tryz.ntmps206, List.size_toArray, List.length_cons, List.length_nil, Nat.reduceAdd, Nat.reduceSub, Array.replicate_succ, Array.replicate_zero, List.push_toArray, List.append_toArray, List.nil_append, List.cons_append]
 have c0 := alloc_cell (cells1 hrb)
 gi_wp2_with (first
  | (gi_at_call 237; refine (callsW (runes_any _ _)).mono ?_; rintro e w' ⟨rfl, rfl⟩))
 clear c0
 generalize hW1 : World.alloc _ (.cells #[.string s] 9) = W1
 have hz : W1.heap.size = w.heap.size + 2 := by rw [← hW1]; simp
 have hk1 : Same w W1 := by rw [← hW1]; exact (((Keep.refl _ w).alloc _).alloc _)
 have b1 : Boxed W1 w.heap.size 3 (.int .i64 ((0 : Nat) : Int)) := by rw [← hW1]; repeat (first | exact heap_new' (by simp) | refine heap_old ?_)
 have b2 : Boxed W1 (w.heap.size + 1) 9 (.string s) := by rw [← hW1]; repeat (first | exact heap_new' (by simp) | refine heap_old ?_)
 clear hW1
 have hrb1 := hk1.same _ _ hrb trivial
 refine wp_rangeS (gf := 272) (lb := #[.pointer (some ⟨w.heap.size + 1, 0, none⟩)])
  rfl (enters_of Tryz.func272 (by kernel_rfl) rfl) d (fun i v _ => v = #[.int .i32 (nth (bytesN s) i)]) (fun b o => b ≠ w.heap.size ∨ ∀ c f, o ≠ .cells c 3 f) (fun b o => b < w.heap.size + 4 ∨ o.isCells = true)
  (fun _ => True) (fun _ _ => True) ?hit ?hSb ?hSi (fun i A => Boxed A w.heap.size 3 (.int .i64 (i : Int))) (fun _ _ _ => False) ?hI (fun _ _ _ _ h _ => h) ?hE (fun _ _ _ _ => trivial) (fun _ _ _ _ _ => trivial) ?hEs b1 ?hround ?hdone (fun _ _ _ _ _ _ h => h.elim)
 case hit =>
  intro W2 hk2 hz2
  have := runes1_iter s (w.heap.size + 1) (fun b o => b ≠ w.heap.size ∨ ∀ c f, o ≠ .cells c 3 f) (fun b o => b < w.heap.size + 4 ∨ o.isCells = true) W2 (by omega) (hk2.boxed b2 trivial) (fun c f => .inr (by simp)) (fun b o _ ho => .inr fun c f e => by subst e; cases ho) (fun b o h => by rw [hz2, hz]; exact h)
  rw [HD.out] at this
  exact this
 case hSb => exact fun b o hb ho => .inr fun c f e => by subst e; cases ho
 case hSi => exact fun b o _ h _ => .inl (by omega)
 case hI => exact fun i A B h hk => hk.boxed h ⟨.inr rfl, .inr rfl⟩
 case hE => exact fun i v A B h _ => h
 case hEs => rintro i v A rfl; rfl
 case hround =>
  intro i v hv
  obtain ⟨x, rfl⟩ := size_one rfl hv
  apply Exists.intro
  apply And.intro
  ·intro l2 A K hK
   gi_wp2
   exact hK
  ·rintro l2 A hl2 _ hi h1 _
   have c0 := h1.cell
   have f0 := h1.frozen
   gi_wp2
   refine ⟨(Keep.refl _ A).setCell _ fun o ho hs _ => ?_, by have := h1.set (.int .i64 ((i : Int) + 1)); simpa using this⟩
   have h1' : A.heap[w.heap.size]? = some (.cells #[.int .i64 (i : Int)] 3 (0, 0)) := h1
   rw [show (⟨w.heap.size, 0, none⟩ : Addr).block = w.heap.size from rfl, h1'] at ho
   cases ho
   rcases hs with hs | hs
   ·exact hs rfl
   ·exact hs _ _ rfl
 case hdone =>
  rintro D A hD h1 _ hk hDB
  have hrbA : RB rb s A := hk.same _ _ hrb1 ⟨.inl (by omega), .inl (by omega)⟩
  have c0 := cells1 hrbA
  have c1 := h1.cell
  have hkA : Same w A := ⟨hk.os.trans hk1.os, hk.tape.trans hk1.tape, hk.output.trans hk1.output, Nat.le_trans hk1.size hk.size, fun b o hb _ => hk.same b o (hk1.same b o hb trivial) ⟨.inl (by have := lt_of_some hb; omega), .inl (by have := lt_of_some hb; omega)⟩⟩
  gi_wp2_with fail
  refine wpIn_region_shut (fun Z => RB rb s Z ∧ Boxed Z w.heap.size 3 (.int .i64 (d : Int))) reads (fun _ => trivial) rfl (by kernel_rfl) (by kernel_rfl) ⟨hrbA, h1⟩ ?_
  iterate 8 (refine shT_x rfl rfl ?_; intro K hK w' hs; have z0 := cells1 hs.1; have z1 := hs.2.cell; go_simp; refine hK _ _ ?_; clear hK K z0 z1 hs w')
  refine shT_nil ?_
  gi_wp2_with fail
  refine wpIn_region_tailA (fun Z => RB rb s Z ∧ Boxed Z w.heap.size 3 (.int .i64 (d : Int))) reads (fun _ => trivial) rfl (by kernel_rfl) rfl (by kernel_rfl) (by kernel_rfl) ⟨hrbA, h1⟩ ?_
  simp only [initL]
  iterate 11 (refine shT_x rfl rfl ?_; intro K hK w' hs; have z0 := cells1 hs.1; have z1 := hs.2.cell; go_simp; refine hK _ _ ?_; clear hK K z0 z1 hs w')
  refine shT_tail (tail_last rfl ?_)
  have hfz : ∀ j, A.frozen? ⟨rb, j, none⟩ = false := Lib.frozen_of_heap hrbA
  go_simp
  gi_wp2
  have hk9 : Keep (fun k _ => k ≠ rb) A (A.setCell ⟨rb, 0, none⟩ (.string (s.extract d s.size))).drew.drew := (((Keep.refl _ _).setCell _ fun o _ h _ => h rfl).drew).drew
  have hD9 := hk9.same _ _ hDB (by omega)
  have hrb9 : RB rb (s.extract d s.size) (A.setCell ⟨rb, 0, none⟩ (.string (s.extract d s.size))).drew.drew := setCell_heap hrbA 0 _
  generalize (A.setCell ⟨rb, 0, none⟩ (.string (s.extract d s.size))).drew.drew = B at hk9 hD9 hrb9 ⊢
  refine ⟨by simp, .inl ⟨_, _, rfl, run_takeDeferred hD9, ?_⟩⟩
  have hkp := (Keep.refl (fun k o => k ≠ D ∨ o.isCells = true) B).putObj (r := D) (.deferred none) fun o ho hs _ => by rw [hD9] at ho; cases ho; rcases hs with h | h; exact h rfl; cases h
  refine ⟨_, results_tmp rfl _ _ _, ⟨?_, ?_, ?_⟩⟩
  ·unfold digsB; rw [HD.out]; rfl
  ·show RB rb (restD s) _
   unfold restD; rw [HD.out]
   exact hkp.same _ _ hrb9 (.inr rfl)
  ·exact ⟨hkp.os.trans (hk9.os.trans hkA.os), hkp.tape.trans (hk9.tape.trans hkA.tape), hkp.output.trans (hk9.output.trans hkA.output), Nat.le_trans hkA.size (Nat.le_trans hk9.size hkp.size), fun y o hy hyb => hkp.same y o (hk9.same y o (hkA.same y o hy trivial) hyb) (.inl (by have := lt_of_some hy; omega))⟩
end Go.Tm
namespace Go.Tm
open Go.RowKit Go.Proofs
theorem tail_size (s : ByteArray) : (tailB s).size ≤ s.size := by unfold tailB; rw [ByteArray.size_extract]; omega
theorem digsB_size (s : ByteArray) : (digsB s).size ≤ s.size := by unfold digsB; rw [ByteArray.size_extract]; omega
theorem restD_size (s : ByteArray) : (restD s).size ≤ s.size := by unfold restD; rw [ByteArray.size_extract]; omega
theorem isNext1 (rb : Nat) (s : ByteArray) (c : Nat) (w : World) (hrb : RB rb s w) (hs : s.size ≤ 1099511627776) :
  Calls Tryz.prog 155 #[.pointer (some ⟨rb, 0, none⟩), .slice (some ⟨w.heap.size, 0, none⟩) 1 1] (w.alloc (.cells #[.int .u8 (c : Int)] 5)) (NextOut rb s (nextB s [c]) (w.alloc (.cells #[.int .u8 (c : Int)] 5))) :=
 isNext_any rb w.heap.size s [c] _ (heap_old hrb) (fun j hj => by
  obtain rfl : j = 0 := by simpa using hj
  exact cells1 (World.alloc_heap_new w _)) (by simp) hs
theorem isNext2 (rb : Nat) (s : ByteArray) (c d : Nat) (w : World) (hrb : RB rb s w) (hs : s.size ≤ 1099511627776) :
  Calls Tryz.prog 155 #[.pointer (some ⟨rb, 0, none⟩), .slice (some ⟨w.heap.size, 0, none⟩) 2 2] (w.alloc (.cells #[.int .u8 (c : Int), .int .u8 (d : Int)] 5)) (NextOut rb s (nextB s [c, d]) (w.alloc (.cells #[.int .u8 (c : Int), .int .u8 (d : Int)] 5))) :=
 isNext_any rb w.heap.size s [c, d] _ (heap_old hrb) (fun j hj => by
  have : j = 0 ∨ j = 1 := by simp at hj; omega
  rcases this with rfl | rfl
  ·exact (cells2 (World.alloc_heap_new w _)).1
  ·exact (cells2 (World.alloc_heap_new w _)).2) (by simp) hs
theorem keep_new {rb : Nat} {w w' : World} {o : Obj} (h : Keep (fun k _ => k ≠ rb) (w.alloc o) w') : Keep (fun k _ => k ≠ rb) w w' := ((Keep.refl _ w).alloc o).trans h
set_option maxRecDepth 100000 in
set_option maxHeartbeats 1000000 in
theorem whole_rd (rb : Nat) (s : ByteArray) (w : World) (hrb : RB rb s w) (hs : s.size ≤ 1099511627776) :
  Calls Tryz.prog 156 #[.pointer (some ⟨rb, 0, none⟩)] w (ReadOut rb (wholeR s) w) := by
 have hnx := isNext1 rb s 48 w hrb hs
 obtain ⟨b, hb⟩ : ∃ b, nextB s [48] = b := ⟨_, rfl⟩
 have hw : wholeR s = if b then (⟨#[48]⟩, tailB s) else (digsB s, restD s) := by unfold wholeR; rw [hb]
 rw [hb] at hnx
 have HW := Lib.hid hw
 clear hw hb
 go_enter Tryz.func156, Tryz.ntmps156
 go_wp2_with fail
 refine hnx.mono ?_
 rintro e w1 ⟨rfl, hr1, hk1⟩
 have hkw := keep_new hk1
 clear hnx
 cases b with
 | true =>
  go_wp2_with fail
  go_ret
  rw [HW.out]
  exact ⟨rfl, hr1, hkw⟩
 | false =>
  have hdg := digits_any rb s w1 hr1 hs
  go_wp2_with fail
  refine hdg.mono ?_
  rintro e w2 ⟨rfl, hr2, hk2⟩
  go_wp2_with fail
  go_ret
  rw [HW.out]
  exact ⟨rfl, hr2, hkw.trans hk2⟩
set_option maxRecDepth 100000 in
set_option maxHeartbeats 1000000 in
theorem part_rd (rb : Nat) (s : ByteArray) (w : World) (hrb : RB rb s w) (hs : s.size ≤ 1099511627776) :
  Calls Tryz.prog 157 #[.pointer (some ⟨rb, 0, none⟩)] w (ReadOut rb (partR s) w) := by
 have hnx := isNext1 rb s 46 w hrb hs
 obtain ⟨b, hb⟩ : ∃ b, nextB s [46] = b := ⟨_, rfl⟩
 have hw : partR s = if b = true ∧ (digsB (tailB s)).size ≠ 0 then (digsB (tailB s), restD (tailB s)) else (⟨#[]⟩, s) := by unfold partR; rw [hb]
 rw [hb] at hnx
 have HW := Lib.hid hw
 clear hw hb
 have c0 := cells1 hrb
 go_enter Tryz.func157, Tryz.ntmps157
 go_wp2_with fail
 refine hnx.mono ?_
 rintro e w1 ⟨rfl, hr1, hk1⟩
 have hkw := keep_new hk1
 clear hnx c0
 cases b with
 | true =>
  have hdg := digits_any rb (tailB s) w1 hr1 (Nat.le_trans (tail_size s) hs)
  obtain ⟨D, hD⟩ : ∃ D, digsB (tailB s) = D := ⟨_, rfl⟩
  rw [hD] at hdg HW
  obtain ⟨R, hR⟩ : ∃ R, restD (tailB s) = R := ⟨_, rfl⟩
  rw [hR] at hdg HW
  clear hD hR
  go_wp2_with fail
  refine hdg.mono ?_
  rintro e w2 ⟨rfl, hr2, hk2⟩
  by_cases h0 : D.size = 0
  ·have e1 : D.toList = [] := by
    have : D = ByteArray.empty := by simpa using h0
    rw [this, ByteArray.toList_eq]; rfl
   have HW2 := Lib.hid (show partR s = (⟨#[]⟩, s) from by rw [HW.out]; simp [h0])
   have c2 := cells1 hr2
   have hfz : ∀ j, w2.frozen? ⟨rb, j, none⟩ = false := Lib.frozen_of_heap hr2
   clear h0 hdg
   go_wp2_with fail
   go_ret
   rw [HW2.out]
   exact ⟨rfl, setCell_heap hr2 0 _, (hkw.trans hk2).setCell _ fun o _ h _ => h rfl⟩
  ·have e1 : (D.toList == []) = false := by
    cases h : D.toList with
    | nil =>
     have : D.toList.length = D.size := by rw [ByteArray.toList_eq]; simp
     rw [h] at this; simp at this; omega
    | cons x l => rfl
   have HW2 := Lib.hid (show partR s = (D, R) from by rw [HW.out]; simp [h0])
   clear h0 hdg
   go_wp2_with fail
   go_ret
   rw [HW2.out]
   exact ⟨rfl, hr2, hkw.trans hk2⟩
 | false =>
  have HW2 := Lib.hid (show partR s = (⟨#[]⟩, s) from by rw [HW.out]; simp)
  have c2 := cells1 hr1
  have hfz : ∀ j, w1.frozen? ⟨rb, j, none⟩ = false := Lib.frozen_of_heap hr1
  go_wp2_with fail
  go_ret
  rw [HW2.out]
  exact ⟨rfl, setCell_heap hr1 0 _, hkw.setCell _ fun o _ h _ => h rfl⟩
def signR (s : ByteArray) : Int × ByteArray := if nextB s [45] then (-1, tailB s) else (1, if nextB s [43] then tailB s else s)
def atoiV (d : ByteArray) : Int := match Lib.atoiAll d.data.toList with
 | .ok v => v
 | .range => Lib.atoiSat d.data.toList
 | _ => 0
def atoiOk (d : ByteArray) : Bool := match Lib.atoiAll d.data.toList with
 | .ok _ => true
 | _ => false
def powerR (s : ByteArray) : (Int × Bool) × ByteArray :=
 if nextB s [101, 69] = true ∧ (digsB (signR (tailB s)).2).size ≠ 0 then
  ((wrap64 ((signR (tailB s)).1 * atoiV (digsB (signR (tailB s)).2)), atoiOk (digsB (signR (tailB s)).2) && decide ((digsB (signR (tailB s)).2).size ≤ 4)), restD (signR (tailB s)).2)
 else ((0, true), s)
def AtoiErr (b : Bool) (ev : Value) : Prop := if b then ev = .nilIface else ∃ t p, ev = .iface t (.pointer (some p))
theorem atoi_any {N : Nat} {E : Errs} (d : ByteArray) (w : World) (hG : Glob N E w) (hs : d.size ≤ 1099511627776) :
  Calls Tryz.prog 207 #[.string d] w fun e w' => ∃ ev, e = .returned (.tuple #[.int .i64 (atoiV d), ev]) ∧ AtoiErr (atoiOk d) ev ∧ Same w w' := by
 unfold atoiV atoiOk
 cases h : Lib.atoiAll d.data.toList with
 | ok v =>
  refine (Tryz.strconv_Atoi_ok d (by omega) v h w).mono ?_
  rintro e w' ⟨rfl, hk⟩
  refine ⟨_, rfl, rfl, ?_⟩
  rcases hk with rfl | ⟨t, rfl⟩
  ·exact Keep.refl _ _
  ·exact Keep.of_below (Lib.bytesWorld_below _ _ _)
 | range =>
  obtain ⟨tp, p, hv⟩ := hG.range
  refine (Tryz.strconv_Atoi_range_var d (by omega) h tp p w hv).mono ?_
  rintro e w' ⟨n, rfl, _, _, hb⟩
  exact ⟨_, rfl, ⟨_, _, rfl⟩, Keep.of_below hb⟩
 | _ =>
  obtain ⟨tp, p, hv⟩ := hG.syn
  refine (Tryz.strconv_Atoi_syntax_var d (by omega) h tp p w hv).mono ?_
  rintro e w' ⟨n, rfl, _, _, hb⟩
  exact ⟨_, rfl, ⟨_, _, rfl⟩, Keep.of_below hb⟩
def PowOut (rb : Nat) (r : (Int × Bool) × ByteArray) (w : World) (e : Ending) (w' : World) : Prop := e = .returned (.tuple #[.int .i64 r.1.1, .bool r.1.2]) ∧ RB rb r.2 w' ∧ Keep (fun k _ => k ≠ rb) w w'
theorem AtoiErr.is_iface {b : Bool} {ev : Value} (h : AtoiErr b ev) : ev = .nilIface ∨ ∃ t p, ev = .iface t (.pointer (some p)) := by
 cases b with
 | true => exact .inl h
 | false => exact .inr h
theorem atoi_bd (d : ByteArray) : -9223372036854775808 ≤ atoiV d ∧ atoiV d ≤ 9223372036854775807 := by
 unfold atoiV
 cases h : Lib.atoiAll d.data.toList with
 | range => simp only [Lib.atoiSat]; split <;> simp
 | ok v =>
  simp only
  unfold Lib.atoiAll at h
  split at h
  ·cases h
  ·dsimp only at h
   split at h
   ·cases h
   ·cases h
   ·split at h
    ·cases h
    ·split at h
     ·cases h
     ·rename_i h1 h2
      injection h with h
      subst h
      split <;> omega
 | _ => simp
set_option maxRecDepth 100000 in
set_option maxHeartbeats 2000000 in
theorem power_rd {N : Nat} {E : Errs} (rb : Nat) (s : ByteArray) (w : World) (hG : Glob N E w) (hN : N ≤ rb) (hrb : RB rb s w) (hs : s.size ≤ 1099511627776) :
  Calls Tryz.prog 158 #[.pointer (some ⟨rb, 0, none⟩)] w (PowOut rb (powerR s) w) := by
 have hnx := isNext2 rb s 101 69 w hrb hs
 have hts := Nat.le_trans (tail_size s) hs
 have htt := Nat.le_trans (tail_size (tailB s)) hts
 obtain ⟨b1, hb1⟩ : ∃ b, nextB s [101, 69] = b := ⟨_, rfl⟩
 rw [hb1] at hnx
 have HB1 := Lib.hid hb1
 clear hb1
 have c0 := cells1 hrb
 go_enter Tryz.func158, Tryz.ntmps158
 go_wp2_with fail
 refine hnx.mono ?_
 rintro e w1 ⟨rfl, hr1, hk1⟩
 have hkw := keep_new hk1
 clear hnx c0
 cases b1 with
 | false =>
  have HW2 := Lib.hid (show powerR s = ((0, true), s) from by unfold powerR; rw [HB1.out]; simp)
  have c2 := cells1 hr1
  have hfz : ∀ j, w1.frozen? ⟨rb, j, none⟩ = false := Lib.frozen_of_heap hr1
  go_wp2_with fail
  go_ret2
  rw [HW2.out]
  exact ⟨rfl, setCell_heap hr1 0 _, hkw.setCell _ fun o _ h _ => h rfl⟩
 | true =>
  simp only [if_true] at hr1
  have hnx2 := isNext1 rb (tailB s) 45 w1 hr1 hts
  obtain ⟨b2, hb2⟩ : ∃ b, nextB (tailB s) [45] = b := ⟨_, rfl⟩
  rw [hb2] at hnx2
  have HB2 := Lib.hid hb2
  clear hb2
  go_wp2_with fail
  refine hnx2.mono ?_
  rintro e w2 ⟨rfl, hr2, hk2⟩
  have hkw2 := hkw.trans (keep_new hk2)
  clear hnx2 hk2 hk1
  cases b2 with
  | true =>
   simp only [if_true] at hr2
   have hdg := digits_any rb (tailB (tailB s)) w2 hr2 htt
   obtain ⟨D, hD⟩ : ∃ D, digsB (tailB (tailB s)) = D := ⟨_, rfl⟩
   obtain ⟨R, hR⟩ : ∃ R, restD (tailB (tailB s)) = R := ⟨_, rfl⟩
   have hDz : D.size ≤ 1099511627776 := by rw [← hD]; exact Nat.le_trans (digsB_size _) htt
   have hpw : powerR s = if D.size ≠ 0 then ((wrap64 (-1 * atoiV D), atoiOk D && decide (D.size ≤ 4)), R) else ((0, true), s) := by
    unfold powerR
    rw [HB1.out]
    have hsg : signR (tailB s) = (-1, (tailB (tailB s))) := by unfold signR; simp [HB2.out]
    rw [hsg]
    simp only [hD, hR, true_and]
   rw [hD, hR] at hdg
   have HPW := Lib.hid hpw
   clear hpw hD hR
   go_wp2_with fail
   refine hdg.mono ?_
   rintro e w7 ⟨rfl, hr7, hk7⟩
   have hkw7 := hkw2.trans hk7
   have hat := atoi_any D w7 (hG.keep hkw7 fun k hlt _ => by omega) hDz
   have hbd := atoi_bd D
   obtain ⟨av, hav⟩ : ∃ v, atoiV D = v := ⟨_, rfl⟩
   obtain ⟨ao, hao⟩ : ∃ v, atoiOk D = v := ⟨_, rfl⟩
   rw [hav] at hat HPW hbd
   rw [hao] at hat HPW
   clear hav hao hdg
   go_wp2_with fail
   refine hat.mono ?_
   rintro e w8 ⟨ev, rfl, hev, hk8⟩
   have hr8 := hk8.same _ _ hr7 trivial
   have hkw8 := hkw7.trans (Keep.of_same hk8)
   clear hat
   by_cases h0 : D.size = 0
   ·have e1 : D.toList = [] := by
     have : D = ByteArray.empty := by simpa using h0
     rw [this, ByteArray.toList_eq]; rfl
    have HW2 := Lib.hid (show powerR s = ((0, true), s) from by rw [HPW.out]; simp [h0])
    have c2 := cells1 hr8
    have hfz : ∀ j, w8.frozen? ⟨rb, j, none⟩ = false := Lib.frozen_of_heap hr8
    have hev1 := hev.is_iface
    clear h0
    go_wp2_with fail
    go_ret2
    rw [HW2.out]
    exact ⟨rfl, setCell_heap hr8 0 _, hkw8.setCell _ fun o _ h _ => h rfl⟩
   ·have e1 : (D.toList == []) = false := by
     cases h : D.toList with
     | nil =>
      have : D.toList.length = D.size := by rw [ByteArray.toList_eq]; simp
      rw [h] at this; simp at this; omega
     | cons x l => rfl
    have HW2 := Lib.hid (show powerR s = ((wrap64 (-1 * av), ao && decide (D.size ≤ 4)), R) from by rw [HPW.out]; simp [h0])
    clear h0
    cases ao with
    | true =>
     have hev2 : ev = .nilIface := hev
     subst hev2
     by_cases h4 : D.size ≤ 4
     ·have h4b : decide ((D.size : Int) ≤ 4) = true := by simp; omega
      go_wp2_with fail
      go_ret2
      rw [HW2.out]
      exact ⟨by simp [h4] <;> (unfold wrap64; omega), hr8, hkw8⟩
     ·have h4b : decide ((D.size : Int) ≤ 4) = false := by simp; omega
      go_wp2_with fail
      go_ret2
      rw [HW2.out]
      exact ⟨by simp [h4] <;> (unfold wrap64; omega), hr8, hkw8⟩
    | false =>
     obtain ⟨tt, pp, rfl⟩ : ∃ t p, ev = .iface t (.pointer (some p)) := hev
     go_wp2_with fail
     go_ret2
     rw [HW2.out]
     exact ⟨by simp <;> (unfold wrap64; omega), hr8, hkw8⟩
  | false =>
   simp only [Bool.false_eq_true, if_false] at hr2
   have hnx3 := isNext1 rb (tailB s) 43 w2 hr2 hts
   obtain ⟨b3, hb3⟩ : ∃ b, nextB (tailB s) [43] = b := ⟨_, rfl⟩
   rw [hb3] at hnx3
   have HB3 := Lib.hid hb3
   clear hb3
   go_wp2_with fail
   refine hnx3.mono ?_
   rintro e w3 ⟨rfl, hr3, hk3⟩
   have hkw3 := hkw2.trans (keep_new hk3)
   clear hnx3 hk3
   cases b3 with
   | true =>
    simp only [if_true] at hr3
    have hdg := digits_any rb (tailB (tailB s)) w3 hr3 htt
    obtain ⟨D, hD⟩ : ∃ D, digsB (tailB (tailB s)) = D := ⟨_, rfl⟩
    obtain ⟨R, hR⟩ : ∃ R, restD (tailB (tailB s)) = R := ⟨_, rfl⟩
    have hDz : D.size ≤ 1099511627776 := by rw [← hD]; exact Nat.le_trans (digsB_size _) htt
    have hpw : powerR s = if D.size ≠ 0 then ((wrap64 (1 * atoiV D), atoiOk D && decide (D.size ≤ 4)), R) else ((0, true), s) := by
     unfold powerR
     rw [HB1.out]
     have hsg : signR (tailB s) = (1, (tailB (tailB s))) := by unfold signR; simp [HB2.out, HB3.out]
     rw [hsg]
     simp only [hD, hR, true_and]
    rw [hD, hR] at hdg
    have HPW := Lib.hid hpw
    clear hpw hD hR
    go_wp2_with fail
    refine hdg.mono ?_
    rintro e w7 ⟨rfl, hr7, hk7⟩
    have hkw7 := hkw3.trans hk7
    have hat := atoi_any D w7 (hG.keep hkw7 fun k hlt _ => by omega) hDz
    have hbd := atoi_bd D
    obtain ⟨av, hav⟩ : ∃ v, atoiV D = v := ⟨_, rfl⟩
    obtain ⟨ao, hao⟩ : ∃ v, atoiOk D = v := ⟨_, rfl⟩
    rw [hav] at hat HPW hbd
    rw [hao] at hat HPW
    clear hav hao hdg
    go_wp2_with fail
    refine hat.mono ?_
    rintro e w8 ⟨ev, rfl, hev, hk8⟩
    have hr8 := hk8.same _ _ hr7 trivial
    have hkw8 := hkw7.trans (Keep.of_same hk8)
    clear hat
    by_cases h0 : D.size = 0
    ·have e1 : D.toList = [] := by
      have : D = ByteArray.empty := by simpa using h0
      rw [this, ByteArray.toList_eq]; rfl
     have HW2 := Lib.hid (show powerR s = ((0, true), s) from by rw [HPW.out]; simp [h0])
     have c2 := cells1 hr8
     have hfz : ∀ j, w8.frozen? ⟨rb, j, none⟩ = false := Lib.frozen_of_heap hr8
     have hev1 := hev.is_iface
     clear h0
     go_wp2_with fail
     go_ret2
     rw [HW2.out]
     exact ⟨rfl, setCell_heap hr8 0 _, hkw8.setCell _ fun o _ h _ => h rfl⟩
    ·have e1 : (D.toList == []) = false := by
      cases h : D.toList with
      | nil =>
       have : D.toList.length = D.size := by rw [ByteArray.toList_eq]; simp
       rw [h] at this; simp at this; omega
      | cons x l => rfl
     have HW2 := Lib.hid (show powerR s = ((wrap64 (1 * av), ao && decide (D.size ≤ 4)), R) from by rw [HPW.out]; simp [h0])
     clear h0
     cases ao with
     | true =>
      have hev2 : ev = .nilIface := hev
      subst hev2
      by_cases h4 : D.size ≤ 4
      ·have h4b : decide ((D.size : Int) ≤ 4) = true := by simp; omega
       go_wp2_with fail
       go_ret2
       rw [HW2.out]
       exact ⟨by simp [h4] <;> (unfold wrap64; omega), hr8, hkw8⟩
      ·have h4b : decide ((D.size : Int) ≤ 4) = false := by simp; omega
       go_wp2_with fail
       go_ret2
       rw [HW2.out]
       exact ⟨by simp [h4] <;> (unfold wrap64; omega), hr8, hkw8⟩
     | false =>
      obtain ⟨tt, pp, rfl⟩ : ∃ t p, ev = .iface t (.pointer (some p)) := hev
      go_wp2_with fail
      go_ret2
      rw [HW2.out]
      exact ⟨by simp <;> (unfold wrap64; omega), hr8, hkw8⟩
   | false =>
    simp only [Bool.false_eq_true, if_false] at hr3
    have hdg := digits_any rb (tailB s) w3 hr3 hts
    obtain ⟨D, hD⟩ : ∃ D, digsB (tailB s) = D := ⟨_, rfl⟩
    obtain ⟨R, hR⟩ : ∃ R, restD (tailB s) = R := ⟨_, rfl⟩
    have hDz : D.size ≤ 1099511627776 := by rw [← hD]; exact Nat.le_trans (digsB_size _) hts
    have hpw : powerR s = if D.size ≠ 0 then ((wrap64 (1 * atoiV D), atoiOk D && decide (D.size ≤ 4)), R) else ((0, true), s) := by
     unfold powerR
     rw [HB1.out]
     have hsg : signR (tailB s) = (1, (tailB s)) := by unfold signR; simp [HB2.out, HB3.out]
     rw [hsg]
     simp only [hD, hR, true_and]
    rw [hD, hR] at hdg
    have HPW := Lib.hid hpw
    clear hpw hD hR
    go_wp2_with fail
    refine hdg.mono ?_
    rintro e w7 ⟨rfl, hr7, hk7⟩
    have hkw7 := hkw3.trans hk7
    have hat := atoi_any D w7 (hG.keep hkw7 fun k hlt _ => by omega) hDz
    have hbd := atoi_bd D
    obtain ⟨av, hav⟩ : ∃ v, atoiV D = v := ⟨_, rfl⟩
    obtain ⟨ao, hao⟩ : ∃ v, atoiOk D = v := ⟨_, rfl⟩
    rw [hav] at hat HPW hbd
    rw [hao] at hat HPW
    clear hav hao hdg
    go_wp2_with fail
    refine hat.mono ?_
    rintro e w8 ⟨ev, rfl, hev, hk8⟩
    have hr8 := hk8.same _ _ hr7 trivial
    have hkw8 := hkw7.trans (Keep.of_same hk8)
    clear hat
    by_cases h0 : D.size = 0
    ·have e1 : D.toList = [] := by
      have : D = ByteArray.empty := by simpa using h0
      rw [this, ByteArray.toList_eq]; rfl
     have HW2 := Lib.hid (show powerR s = ((0, true), s) from by rw [HPW.out]; simp [h0])
     have c2 := cells1 hr8
     have hfz : ∀ j, w8.frozen? ⟨rb, j, none⟩ = false := Lib.frozen_of_heap hr8
     have hev1 := hev.is_iface
     clear h0
     go_wp2_with fail
     go_ret2
     rw [HW2.out]
     exact ⟨rfl, setCell_heap hr8 0 _, hkw8.setCell _ fun o _ h _ => h rfl⟩
    ·have e1 : (D.toList == []) = false := by
      cases h : D.toList with
      | nil =>
       have : D.toList.length = D.size := by rw [ByteArray.toList_eq]; simp
       rw [h] at this; simp at this; omega
      | cons x l => rfl
     have HW2 := Lib.hid (show powerR s = ((wrap64 (1 * av), ao && decide (D.size ≤ 4)), R) from by rw [HPW.out]; simp [h0])
     clear h0
     cases ao with
     | true =>
      have hev2 : ev = .nilIface := hev
      subst hev2
      by_cases h4 : D.size ≤ 4
      ·have h4b : decide ((D.size : Int) ≤ 4) = true := by simp; omega
       go_wp2_with fail
       go_ret2
       rw [HW2.out]
       exact ⟨by simp [h4] <;> (unfold wrap64; omega), hr8, hkw8⟩
      ·have h4b : decide ((D.size : Int) ≤ 4) = false := by simp; omega
       go_wp2_with fail
       go_ret2
       rw [HW2.out]
       exact ⟨by simp [h4] <;> (unfold wrap64; omega), hr8, hkw8⟩
     | false =>
      obtain ⟨tt, pp, rfl⟩ : ∃ t p, ev = .iface t (.pointer (some p)) := hev
      go_wp2_with fail
      go_ret2
      rw [HW2.out]
      exact ⟨by simp <;> (unfold wrap64; omega), hr8, hkw8⟩
def wholeO (s : ByteArray) : ByteArray × ByteArray := wholeR (if nextB s [45] then tailB s else s)
def partO (s : ByteArray) : ByteArray × ByteArray := partR (wholeO s).2
def powerO (s : ByteArray) : (Int × Bool) × ByteArray := powerR (partO s).2
def makeO (s : ByteArray) : Dc × Int := makeB (nextB s [45]) ((wholeO s).1 ++ (partO s).1) (wrap64 ((powerO s).1.1 - ((partO s).1.size : Int)))
def parseM (s : ByteArray) : Dc × ByteArray × Int :=
 if (wholeO s).1.size = 0 ∨ (powerO s).1.2 = false then (noDc, s, 40)
 else if (makeO s).2 ≠ 0 then (noDc, s, (makeO s).2) else ((makeO s).1, (powerO s).2, 0)
theorem wholeR_size (s : ByteArray) : (wholeR s).1.size ≤ s.size + 1 ∧ (wholeR s).2.size ≤ s.size := by
 unfold wholeR
 split
 ·exact ⟨by show 1 ≤ _; omega, tail_size s⟩
 ·exact ⟨Nat.le_succ_of_le (digsB_size s), restD_size s⟩
theorem partR_size (s : ByteArray) : (partR s).1.size ≤ s.size ∧ (partR s).2.size ≤ s.size := by
 unfold partR
 split
 ·exact ⟨Nat.le_trans (digsB_size _) (tail_size s), Nat.le_trans (restD_size _) (tail_size s)⟩
 ·exact ⟨Nat.zero_le _, Nat.le_refl _⟩
theorem parse_res (T : Array Value) (W : World) (bx : Nat) (d : Dc) (r : ByteArray) (e : Int) (h2 : T.getD 2 undef = .pointer (some ⟨bx, 0, none⟩)) (h3 : T.getD 3 undef = .string r) (h4 : T.getD 4 undef = .int .i64 e)
  (hrow : W.heap[bx]? = some (.cells #[.bool d.neg, .string d.digits, .int .i64 d.exp] 23 (0, 0))) : (results Tryz.f108 T).run Tryz.prog W = .ok (.tuple #[decV d, .string r, .int .i64 e]) W := by
 have hld := run_loadVar_row (P := Tryz.prog) W bx 23 23 _ (0, 0) _ hrow Tryz.underlying23 rfl (by kernel_rfl)
 have e1 : Tryz.f108.results = #[.cell 2 23, .tmp 3, .tmp 4] := rfl
 unfold results
 rw [e1]
 simp [-Array.getD_eq_getD_getElem?, h2, h3, h4, asAddr, hld, Result.andThen]
set_option maxRecDepth 100000 in
set_option maxHeartbeats 4000000 in
theorem parse_any {N : Nat} {E : Errs} (s : ByteArray) (w : World) (hG : Glob N E w) (hN : N ≤ w.heap.size) (hs : s.size ≤ 274877906944) :
  Calls Tryz.prog 108 #[.string s] w fun e w' => e = .returned (.tuple #[decV (parseM s).1, .string (parseM s).2.1, .int .i64 (parseM s).2.2]) ∧ Same w w' := by
 have h1 : (if nextB s [45] then tailB s else s).size ≤ s.size := by
  split
  ·exact tail_size s
  ·exact Nat.le_refl _
 have h2 := wholeR_size (if nextB s [45] then tailB s else s)
 have h3 := partR_size (wholeO s).2
 have h2' : (wholeO s).1.size ≤ s.size + 1 ∧ (wholeO s).2.size ≤ s.size := by unfold wholeO; omega
 have hpm : parseM s = if (wholeO s).1.size = 0 ∨ (powerO s).1.2 = false then (noDc, s, 40) else if (makeO s).2 ≠ 0 then (noDc, s, (makeO s).2) else ((makeO s).1, (powerO s).2, 0) := rfl
 obtain ⟨R, hR⟩ : ∃ R, parseM s = R := ⟨_, rfl⟩
 rw [hR] at hpm ⊢
 have HR := Lib.hid hpm
 clear hpm hR
 have hnx := fun W (hr : RB (w.heap.size + 1) s W) => isNext1 (w.heap.size + 1) s 45 W hr (by omega)
 have hwh := fun W hr => whole_rd (w.heap.size + 1) (if nextB s [45] then tailB s else s) W hr (by omega)
 have hpt := fun W hr => part_rd (w.heap.size + 1) (wholeO s).2 W hr (by omega)
 have hpw := fun W hg hr => power_rd (N := N) (E := E) (w.heap.size + 1) (partO s).2 W hg (by omega) hr (by have : (partO s).2.size ≤ _ := h3.2; omega)
 have hp1 : (partO s).1.size ≤ s.size := by have : (partO s).1.size ≤ _ := h3.1; omega
 have hmk := fun W => make_any (nextB s [45]) ((wholeO s).1 ++ (partO s).1) (wrap64 ((powerO s).1.1 - ((partO s).1.size : Int))) W (by rw [ByteArray.size_append]; omega) (by unfold wrap64; omega)
 have hw0 : wholeR (if nextB s [45] then tailB s else s) = wholeO s := rfl
 have hp0 : partR (wholeO s).2 = partO s := rfl
 have hq0 : powerR (partO s).2 = powerO s := rfl
 have hm0 : makeB (nextB s [45]) ((wholeO s).1 ++ (partO s).1) (wrap64 ((powerO s).1.1 - ((partO s).1.size : Int))) = makeO s := rfl
 rw [hw0] at hwh
 rw [hp0] at hpt
 rw [hq0] at hpw
 rw [hm0] at hmk
 clear hw0 hp0 hq0 hm0 h1 h2 h3
 obtain ⟨⟨m1, m2⟩, hm⟩ : ∃ r, makeO s = r := ⟨_, rfl⟩
 obtain ⟨⟨⟨q1, q2⟩, q3⟩, hq⟩ : ∃ r, powerO s = r := ⟨_, rfl⟩
 obtain ⟨⟨p1, p2⟩, hp⟩ : ∃ r, partO s = r := ⟨_, rfl⟩
 obtain ⟨⟨v1, v2⟩, hv⟩ : ∃ r, wholeO s = r := ⟨_, rfl⟩
 rw [hm] at hmk HR
 rw [hq] at hpw hmk HR
 rw [hp] at hpt hpw hmk hp1
 rw [hv] at hwh hpt hmk HR h2'
 clear hm hq hp hv
 simp only at hwh hpt hpw hmk HR h2' hp1
 obtain ⟨b, hb⟩ : ∃ b, nextB s [45] = b := ⟨_, rfl⟩
 rw [hb] at hnx hwh hmk
 clear hb
 unfold NextOut at hnx
 obtain ⟨s1, hs1⟩ : ∃ s1, (if b = true then tailB s else s) = s1 := ⟨_, rfl⟩
 rw [hs1] at hwh
 simp only [hs1] at hnx
 clear hs1
 go_enter Tryz.func108, Tryz.ntmps108
 go_wp2_with fail
 have hrb0 : RB (w.heap.size + 1) s ((w.alloc (.cells #[.bool false, .string ⟨#[]⟩, .int .i64 0] 23)).alloc (.cells #[.string s] 188)) := heap_new' (by simp)
 have hbr0 : ((w.alloc (.cells #[.bool false, .string ⟨#[]⟩, .int .i64 0] 23)).alloc (.cells #[.string s] 188)).heap[w.heap.size]? = some (.cells #[.bool false, .string ⟨#[]⟩, .int .i64 0] 23 (0, 0)) := heap_old (World.alloc_heap_new w _)
 have hk0 : Same w ((w.alloc (.cells #[.bool false, .string ⟨#[]⟩, .int .i64 0] 23)).alloc (.cells #[.string s] 188)) := (by repeat with_reducible first | exact Keep.refl _ _ | refine Keep.alloc ?_ _ | refine Keep.drew ?_ | refine Keep.drewN ?_ _ | refine Keep.trans ?_ (by assumption))
 have hz0 : ((w.alloc (.cells #[.bool false, .string ⟨#[]⟩, .int .i64 0] 23)).alloc (.cells #[.string s] 188)).heap.size = w.heap.size + 1 + 1 := by simp
 have hnx0 := hnx _ hrb0
 generalize ((w.alloc (.cells #[.bool false, .string ⟨#[]⟩, .int .i64 0] 23)).alloc (.cells #[.string s] 188)) = W0 at hrb0 hbr0 hk0 hz0 hnx0 ⊢
 rw [hz0] at hnx0
 clear hz0
 refine hnx0.mono ?_
 rintro e w1 ⟨rfl, hr1, hk1⟩
 have hkw1 := (Keep.of_same hk0).trans (keep_new hk1)
 have hbr1 := (keep_new hk1).same _ _ hbr0 (by omega)
 clear hnx hnx0 hk1 hbr0 hrb0 hk0
 go_wp2_with fail
 refine (hwh _ hr1).mono ?_
 rintro e w2 ⟨rfl, hr2, hk2⟩
 have hkw2 := hkw1.trans hk2
 have hbr2 := hk2.same _ _ hbr1 (by omega)
 clear hwh hk2 hkw1 hbr1 hr1
 go_wp2_with fail
 refine (hpt _ hr2).mono ?_
 rintro e w3 ⟨rfl, hr3, hk3⟩
 have hkw3 := hkw2.trans hk3
 have hbr3 := hk3.same _ _ hbr2 (by omega)
 clear hpt hk3 hkw2 hbr2 hr2
 go_wp2_with fail
 refine (hpw _ (hG.keep hkw3 fun k hlt _ => by omega) hr3).mono ?_
 rintro e w4 ⟨rfl, hr4, hk4⟩
 have hkw4' := hkw3.trans hk4
 have hbr4 := hk4.same _ _ hbr3 (by omega)
 have hkw4 : Same w w4 := ⟨hkw4'.os, hkw4'.tape, hkw4'.output, hkw4'.size, fun k o ho _ => hkw4'.same k o ho (by have := lt_of_some ho; omega)⟩
 clear hpw hk4 hkw3 hbr3 hr3 hkw4'
 simp only at hr4
 by_cases h0 : v1.size = 0
 ·have e1 : v1.toList = [] := by
   have : v1 = ByteArray.empty := by simpa using h0
   rw [this, ByteArray.toList_eq]; rfl
  have HR1 := Lib.hid (show R = (noDc, s, 40) from by rw [HR.out, if_pos (.inl h0)])
  clear h0 hmk
  have c0 := cells3 hbr4
  obtain ⟨x0, x1, x2⟩ := c0
  have hfz : ∀ j, w4.frozen? ⟨w.heap.size, j, none⟩ = false := Lib.frozen_of_heap hbr4
  go_wp2_with fail
  (try simp only [Exit.inBlock, Exit.then])
  obtain ⟨p3, p4⟩ := put3 (x := .bool false) (y := .string ⟨#[]⟩) (z := .int .i64 0) hkw4 hbr4 (by omega)
  exact bodyPost_ret (parse_res _ _ w.heap.size noDc s 40 rfl rfl rfl p3) rfl ⟨by rw [HR1.out] <;> rfl, p4⟩
 ·have e1 : (v1.toList == []) = false := by
   cases h : v1.toList with
   | nil =>
    have : v1.toList.length = v1.size := by rw [ByteArray.toList_eq]; simp
    rw [h] at this; simp at this; omega
   | cons x l => rfl
  cases q2 with
  | false =>
   have HR1 := Lib.hid (show R = (noDc, s, 40) from by rw [HR.out, if_pos (.inr rfl)])
   clear h0 hmk
   have c0 := cells3 hbr4
   obtain ⟨x0, x1, x2⟩ := c0
   have hfz : ∀ j, w4.frozen? ⟨w.heap.size, j, none⟩ = false := Lib.frozen_of_heap hbr4
   go_wp2_with fail
   (try simp only [Exit.inBlock, Exit.then])
   obtain ⟨p3, p4⟩ := put3 (x := .bool false) (y := .string ⟨#[]⟩) (z := .int .i64 0) hkw4 hbr4 (by omega)
   exact bodyPost_ret (parse_res _ _ w.heap.size noDc s 40 rfl rfl rfl p3) rfl ⟨by rw [HR1.out] <;> rfl, p4⟩
  | true =>
   have hR2 : R = if m2 ≠ 0 then (noDc, s, m2) else (m1, q3, 0) := by rw [HR.out, if_neg (by rintro (h | h); exact h0 h; cases h)]
   have HR2 := Lib.hid hR2
   clear hR2 h0
   obtain ⟨ex, hex⟩ : ∃ ex, wrap64 (q1 - (p1.size : Int)) = ex := ⟨_, rfl⟩
   rw [hex] at hmk
   go_wp2_with fail
   rw [hex]
   refine (hmk _).mono ?_
   rintro e w5 ⟨rfl, hk5⟩
   have hbr5 := heap_old (o := .cells #[.bool m1.neg, .string m1.digits, .int .i64 m1.exp] 23) (hk5.same _ _ hbr4 trivial)
   have hrb5 : RB (w.heap.size + 1) q3 (w5.alloc (.cells #[.bool m1.neg, .string m1.digits, .int .i64 m1.exp] 23)) := heap_old (hk5.same _ _ hr4 trivial)
   have hbd5 : (w5.alloc (.cells #[.bool m1.neg, .string m1.digits, .int .i64 m1.exp] 23)).heap[w5.heap.size]? = some (.cells #[.bool m1.neg, .string m1.digits, .int .i64 m1.exp] 23 (0, 0)) := World.alloc_heap_new w5 _
   have hkw5 : Same w (w5.alloc (.cells #[.bool m1.neg, .string m1.digits, .int .i64 m1.exp] 23)) := (hkw4.trans hk5).alloc _
   have hdb : w.heap.size + 1 < w5.heap.size := lt_of_some (hk5.same _ _ hr4 trivial)
   clear hmk hkw4 hk5 hbr4 hr4 hex
   by_cases hm0 : m2 = 0
   ·subst hm0
    have HR1 := Lib.hid (show R = (m1, q3, 0) from by rw [HR2.out]; simp)
    go_wp2_with fail
    generalize (w5.alloc (.cells #[.bool m1.neg, .string m1.digits, .int .i64 m1.exp] 23)) = w6 at hbr5 hrb5 hbd5 hkw5 ⊢
    generalize w5.heap.size = db at hbd5 hdb ⊢
    have z0 := cells1 hrb5
    obtain ⟨z1, z2, z3⟩ := cells3 hbd5
    obtain ⟨x0, x1, x2⟩ := cells3 hbr5
    have hfz : ∀ j, w6.frozen? ⟨w.heap.size, j, none⟩ = false := Lib.frozen_of_heap hbr5
    refine (wpIn_wide (n := 0)).1 ?_
    refine wpIn_region_shut (n := 0) (fun Z => RB (w.heap.size + 1) q3 Z ∧ Z.heap[db]? = some (.cells #[.bool m1.neg, .string m1.digits, .int .i64 m1.exp] 23 (0, 0))) reads (fun _ => trivial) rfl (by kernel_rfl) (by kernel_rfl) ⟨hrb5, hbd5⟩ ?_
    iterate 6 (refine shT_x rfl rfl ?_; intro K hK w' hs; have z0 := cells1 hs.1; obtain ⟨z1, z2, z3⟩ := cells3 hs.2; go_simp; refine hK _ _ ?_; clear hK K z0 z1 z2 z3 hs w')
    refine shT_c rfl rfl ?_
    intro K hK
    go_simp
    obtain ⟨p3, p4⟩ := put3 (x := .bool m1.neg) (y := .string m1.digits) (z := .int .i64 m1.exp) hkw5 hbr5 (by omega)
    have hk6 : Keep (fun k _ => k ≠ w.heap.size) w6 (((w6.setCell ⟨w.heap.size, 0, none⟩ (.bool m1.neg)).setCell ⟨w.heap.size, 1, none⟩ (.string m1.digits)).setCell ⟨w.heap.size, 2, none⟩ (.int .i64 m1.exp)) := (((Keep.refl _ w6).setCell _ fun o _ h _ => h rfl).setCell _ fun o _ h _ => h rfl).setCell _ fun o _ h _ => h rfl
    refine hK _ _ ⟨hk6.same _ _ hrb5 (by omega), hk6.same _ _ hbd5 (by omega)⟩ ?_
    clear hK K
    refine shT_x rfl rfl ?_
    intro K hK w' hs
    go_simp
    refine hK _ _ ?_
    clear hK K hs w'
    refine shT_x rfl rfl ?_
    intro K hK w' hs
    go_simp
    refine hK _ _ ?_
    clear hK K hs w'
    refine shT_nil ?_
    go_wp2_with fail
    (try simp only [Exit.inBlock, Exit.then])
    exact bodyPost_ret (parse_res _ _ w.heap.size m1 q3 0 rfl rfl rfl p3) rfl ⟨by rw [HR1.out] <;> rfl, p4.drew⟩
   ·have hmb : (m2 != 0) = true := by simpa using hm0
    have HR1 := Lib.hid (show R = (noDc, s, m2) from by rw [HR2.out, if_pos hm0])
    clear hm0
    have c0 := cells3 hbr5
    obtain ⟨x0, x1, x2⟩ := c0
    have hfz : ∀ j, (w5.alloc (.cells #[.bool m1.neg, .string m1.digits, .int .i64 m1.exp] 23)).frozen? ⟨w.heap.size, j, none⟩ = false := Lib.frozen_of_heap hbr5
    go_wp2_with fail
    (try simp only [Exit.inBlock, Exit.then])
    obtain ⟨p3, p4⟩ := put3 (x := .bool false) (y := .string ⟨#[]⟩) (z := .int .i64 0) hkw5 hbr5 (by omega)
    exact bodyPost_ret (parse_res _ _ w.heap.size noDc s m2 rfl rfl rfl p3) rfl ⟨by rw [HR1.out] <;> rfl, p4⟩
end Go.Tm
namespace Go.Tm
open Go.RowKit Go.Proofs
theorem fmt_right (d : Dc) (h : decRight d = true) : formatM d = (strN (sgnN d.neg ++ bytesN (formatB d)), 0) := by
 unfold formatM
 rw [if_pos h, strN_app, strN_bytesN]
 congr 2
 cases d.neg <;> rfl
theorem fmt_bounds (d : Dc) (h : decRight d = true) : d.digits.size ≤ 100 ∧ -100 ≤ d.exp ∧ d.exp ≤ 100 := by
 unfold decRight at h
 rw [Bool.or_eq_true] at h
 rcases h with h | h
 ·have h := of_decide_eq_true h
  subst h
  decide
 ·simp only [Bool.and_eq_true, decide_eq_true_eq, within] at h
  omega
theorem same_grow {w w' : World} {k : Nat} {os : Array Obj} (e : w' = Go.Sort.grow (w.drewN k) os) : Same w w' := by
 subst e
 refine ⟨rfl, rfl, rfl, ?_, fun b o ho _ => ?_⟩
 ·show _ ≤ (w.heap ++ os).size
  rw [Array.size_append]; omega
 ·have hlt := lt_of_some ho
  show (w.heap ++ os)[b]? = some o
  rw [Array.getElem?_append_left hlt, ho]
set_option maxRecDepth 100000 in
set_option maxHeartbeats 1000000 in
theorem fmt_bad (d : Dc) (w : World) (hs : d.digits.size ≤ 1099511627776) (h : decRight d = false) :
  Calls Tryz.prog 109 #[decV d] w fun e w' => e = .returned (.tuple #[.string (formatM d).1, .int .i64 (formatM d).2]) ∧ Same w w' := by
 have hdr := fun W => decRight_any d W hs
 rw [h] at hdr
 have hR : formatM d = (⟨#[]⟩, 40) := by
  unfold formatM
  rw [h]; rfl
 rw [hR]
 clear hR h
 obtain ⟨neg, dg, ex⟩ := d
 simp only at *
 go_enter Tryz.func109, Tryz.ntmps109
 go_wp2_with fail
 refine (hdr _).mono ?_
 rintro e w1 ⟨rfl, hk1⟩
 have hkw1 : Same w w1 := (by repeat with_reducible first | exact Keep.refl _ _ | refine Keep.alloc ?_ _ | refine Keep.drew ?_ | refine Keep.drewN ?_ _ | refine Keep.trans ?_ (by assumption))
 go_wp2_with fail
 go_ret2
 exact ⟨rfl, hkw1⟩
set_option maxRecDepth 100000 in
set_option maxHeartbeats 4000000 in
theorem fmt_big (d : Dc) (w : World) (h : decRight d = true) (hw : within d.exp 20 = false) (htab : Lib.TabIs Tryz.prog w "internal/strconv.uint64pow10" .u64 Lib.pow10Tab) (hgl : ∀ W, Same w W → Lib.TabIs Tryz.prog W "internal/strconv.uint64pow10" .u64 Lib.pow10Tab) :
  Calls Tryz.prog 109 #[decV d] w fun e w' => e = .returned (.tuple #[.string (formatM d).1, .int .i64 (formatM d).2]) ∧ Same w w' := by
 obtain ⟨hd1, hd2, hd3⟩ := fmt_bounds d h
 have hdr := fun W => decRight_any d W (by omega)
 rw [h] at hdr
 have hwi := fun W => within_any d.exp 20 W (by decide)
 have hw : within d.exp 20 = false := by first | assumption | (unfold within; simp; omega)
 rw [hw] at hwi
 have hfr := fmt_right d h
 have hfb : formatB d = d.digits ++ ⟨#[101]⟩ ++ ⟨(Lib.itoa d.exp).toArray⟩ := by
  unfold formatB
  simp only [hw, if_true]
 rw [hfb] at hfr
 have hit := fun W (hW : Same w W) => Tryz.strconv_Itoa d.exp (by omega) (by omega) W (hgl W hW)
 have hil := Lib.itoa_length_le d.exp (by omega) (by omega)
 obtain ⟨it, hiq⟩ : ∃ it : ByteArray, (⟨(Lib.itoa d.exp).toArray⟩ : ByteArray) = it := ⟨_, rfl⟩
 have hisz : it.size ≤ 21 := by
  rw [← hiq]
  show (Lib.itoa d.exp).toArray.size ≤ 21
  simpa using hil
 rw [hiq] at hit hfr
 obtain ⟨de, hde⟩ : ∃ de : ByteArray, d.digits ++ ⟨#[101]⟩ = de := ⟨_, rfl⟩
 rw [hde] at hfr
 have hdz : de.size ≤ 101 := by rw [← hde, ByteArray.size_append]; show _ + 1 ≤ _; omega
 have HD := Lib.hid hde
 obtain ⟨tx, htx⟩ : ∃ tx : ByteArray, de ++ it = tx := ⟨_, rfl⟩
 rw [htx] at hfr
 have htz : tx.size ≤ 200 := by rw [← htx, ByteArray.size_append]; omega
 have HT := Lib.hid htx
 have HR := Lib.hid hfr
 clear hiq hil hde htx hfr hfb hw h
 obtain ⟨neg, dg, ex⟩ := d
 simp only at *
 go_enter Tryz.func109, Tryz.ntmps109
 go_wp2_with fail
 refine (hdr _).mono ?_
 rintro e w1 ⟨rfl, hk1⟩
 have hbx1 := hk1.same w.heap.size _ (World.alloc_heap_new w _) trivial
 have hkw1 : Same w w1 := (by repeat with_reducible first | exact Keep.refl _ _ | refine Keep.alloc ?_ _ | refine Keep.drew ?_ | refine Keep.drewN ?_ _ | refine Keep.trans ?_ (by assumption))
 have hlt1 := lt_of_some hbx1
 have hbx2 := heap_old (o := .cells #[.pointer none, .slice none 0 0] 195) hbx1
 have hB0 : Bld w1.heap.size w1.heap.size [] (w1.alloc (.cells #[.pointer none, .slice none 0 0] 195)) := .inl ⟨Nat.le_refl _, .slice none 0 0, World.alloc_heap_new _ _, World.ownsRow_nil _ _ _ _, by simp [Value.ownBlock]⟩
 have hkw2 : Same w (w1.alloc (.cells #[.pointer none, .slice none 0 0] 195)) := hkw1.alloc _
 have hz2 : w1.heap.size ≤ (w1.alloc (.cells #[.pointer none, .slice none 0 0] 195)).heap.size := by simp
 obtain ⟨bb, hbb⟩ : ∃ bb, w1.heap.size = bb := ⟨_, rfl⟩
 rw [hbb] at hB0 hz2 hlt1
 have hbw : w.heap.size ≤ bb := by have := hkw1.size; omega
 obtain ⟨c0, c1, c2⟩ := cells3 hbx2
 cases neg
 focus
  go_wp2_with fail
  generalize (w1.alloc _) = w3 at hB0 hbx2 hkw2 hz2 c0 c1 c2 ⊢
  have hxl : (sgnN false).length ≤ 1 := by decide
  have hx2 : ∀ x ∈ (sgnN false), x < 256 := by decide
  have hB3 : Bld bb bb (sgnN false) w3 := hB0
  generalize (sgnN false) = xs at hxl hx2 hB3 HR
 rotate_left
 focus
  go_wp2_with fail
  refine (writeByte_any bb bb 45 [] _ hB0 (by decide) hz2).mono ?_
  rintro e w3 ⟨rfl, hB3, hK3⟩
  replace hbx2 := hK3.same _ _ hbx2 ⟨by omega, .inl hlt1⟩
  replace hkw2 : Same w w3 := ⟨hK3.os.trans hkw2.os, hK3.tape.trans hkw2.tape, hK3.output.trans hkw2.output, Nat.le_trans hkw2.size hK3.size, fun b o hb _ => hK3.same b o (hkw2.same b o hb trivial) (by have := lt_of_some hb; exact ⟨by omega, .inl (by omega)⟩)⟩
  replace hz2 := Nat.le_trans hz2 hK3.size
  clear hB0 c0 c1 c2 hK3
  obtain ⟨c0, c1, c2⟩ := cells3 hbx2
  go_wp2_with fail
  have hxl : (sgnN true).length ≤ 1 := by decide
  have hx2 : ∀ x ∈ (sgnN true), x < 256 := by decide
  replace hB3 : Bld bb bb (sgnN true) w3 := hB3
  generalize (sgnN true) = xs at hxl hx2 hB3 HR
 all_goals
  refine (hwi _).mono ?_
  rintro x w4 ⟨rfl, h9⟩
  replace h9 := h9.symm
  subst h9
  go_wp2_with fail
  refine (wpIn_wide (n := 0)).1 ?_
  refine wpIn_region_shut (n := 0) (fun X => X.heap[w.heap.size]? = some _) reads (fun _ => trivial) rfl (by kernel_rfl) (by kernel_rfl) hbx2 ?_
  iterate 2 (refine shT_x rfl rfl ?_; intro K hK w' hs; obtain ⟨p0, p1, p2⟩ := cells3 hs; go_simp; refine hK _ _ ?_; clear hK K p0 p1 p2 hs w')
  have hcat1 : ¬ 9223372036854775807 < dg.size + 1 := by omega
  refine shT_x rfl rfl ?_
  intro K hK w' hs
  go_simp
  rw [HD.out]
  refine hK _ _ ?_
  clear hK K hs w'
  iterate 2 (refine shT_x rfl rfl ?_; intro K hK w' hs; obtain ⟨p0, p1, p2⟩ := cells3 hs; go_simp; refine hK _ _ ?_; clear hK K p0 p1 p2 hs w')
  refine shT_c rfl rfl ?_
  intro K hK
  go_simp
  refine (callsW (hit _ hkw2.drew)).mono ?_
  rintro x w5 ⟨rfl, ko, oso, hw5⟩
  have hk5 := same_grow hw5
  clear hw5
  have hbx5 := hk5.same _ _ hbx2 trivial
  have hB3d : Bld bb bb xs w3.drew := hB3
  have hB5 := isB_keep hB3d hk5 (fun c f => trivial) (fun g c f _ _ => trivial)
  have hkw5 : Same w w5 := hkw2.drew.trans hk5
  have hz5 : bb ≤ w5.heap.size := Nat.le_trans hz2 hk5.size
  refine hK _ _ hbx5 ?_
  clear hK K
  have hcat2 : ¬ 9223372036854775807 < de.size + it.size := by omega
  refine shT_x rfl rfl ?_
  intro K hK w' hs
  go_simp
  rw [HT.out]
  refine hK _ _ ?_
  clear hK K hs w'
  refine shT_c rfl rfl ?_
  intro K hK
  go_simp
  refine (callsW (writeString_any bb bb tx xs _ hB5 (by omega) hz5)).mono ?_
  rintro x w6 ⟨⟨v6, rfl⟩, hB6, hK6⟩
  have hbx6 := hK6.same _ _ hbx5 ⟨by omega, .inl hlt1⟩
  have hkw6 : Same w w6 := ⟨hK6.os.trans hkw5.os, hK6.tape.trans hkw5.tape, hK6.output.trans hkw5.output, Nat.le_trans hkw5.size hK6.size, fun b o hb _ => hK6.same b o (hkw5.same b o hb trivial) (by have := lt_of_some hb; exact ⟨by omega, .inl (by omega)⟩)⟩
  have hz6 : bb ≤ w6.heap.size := Nat.le_trans hz5 hK6.size
  refine hK _ _ hbx6 ?_
  clear hK K
  refine shT_nil ?_
  go_wp2_with fail
  refine (bldString_any bb bb (xs ++ bytesN tx) w6 hB6 (fun x hx => (List.mem_append.1 hx).elim (hx2 x) (bytesN_lt _ x)) hz6).mono ?_
  rintro x w7 ⟨rfl, hK7⟩
  have hkw7 : Same w w7 := ⟨hK7.os.trans hkw6.os, hK7.tape.trans hkw6.tape, hK7.output.trans hkw6.output, Nat.le_trans hkw6.size hK7.size, fun b o hb _ => hK7.same b o (hkw6.same b o hb trivial) (by have := lt_of_some hb; exact .inl (by omega))⟩
  go_wp2_with fail
  go_ret2
  exact ⟨by rw [HR.out]; rfl, hkw7⟩
set_option maxRecDepth 100000 in
set_option maxHeartbeats 4000000 in
theorem fmt_mid (d : Dc) (w : World) (h : decRight d = true) (h0 : d.exp < 0) (h20 : -20 ≤ d.exp) (hn : 0 < (d.digits.size : Int) + d.exp) :
  Calls Tryz.prog 109 #[decV d] w fun e w' => e = .returned (.tuple #[.string (formatM d).1, .int .i64 (formatM d).2]) ∧ Same w w' := by
 obtain ⟨hd1, hd2, hd3⟩ := fmt_bounds d h
 have hdr := fun W => decRight_any d W (by omega)
 rw [h] at hdr
 have hwi := fun W => within_any d.exp 20 W (by decide)
 have hw : within d.exp 20 = true := by first | assumption | (unfold within; simp; omega)
 rw [hw] at hwi
 have hfr := fmt_right d h
 have hfb : formatB d = d.digits.extract 0 ((d.digits.size : Int) + d.exp).toNat ++ ⟨#[46]⟩ ++ d.digits.extract ((d.digits.size : Int) + d.exp).toNat d.digits.size := by
  unfold formatB
  rw [hw]
  simp only [Bool.true_eq_false, if_false]
  rw [if_neg (by omega), if_pos hn]
 rw [hfb] at hfr
 obtain ⟨x1, hx1⟩ : ∃ x1 : ByteArray, d.digits.extract 0 ((d.digits.size : Int) + d.exp).toNat = x1 := ⟨_, rfl⟩
 obtain ⟨x3, hx3⟩ : ∃ x3 : ByteArray, d.digits.extract ((d.digits.size : Int) + d.exp).toNat d.digits.size = x3 := ⟨_, rfl⟩
 have hz1 : x1.size ≤ 100 := by rw [← hx1, ByteArray.size_extract]; omega
 have hz3 : x3.size ≤ 100 := by rw [← hx3, ByteArray.size_extract]; omega
 rw [hx1, hx3] at hfr
 obtain ⟨x2, hx2'⟩ : ∃ x2 : ByteArray, x1 ++ ⟨#[46]⟩ = x2 := ⟨_, rfl⟩
 have hzz : x2.size ≤ 101 := by rw [← hx2', ByteArray.size_append]; show _ + 1 ≤ _; omega
 rw [hx2'] at hfr
 obtain ⟨tx, htx⟩ : ∃ tx : ByteArray, x2 ++ x3 = tx := ⟨_, rfl⟩
 rw [htx] at hfr
 have htz : tx.size ≤ 300 := by rw [← htx, ByteArray.size_append]; omega
 have H1 := Lib.hid hx1
 have H3 := Lib.hid hx3
 have H2 := Lib.hid hx2'
 have HT := Lib.hid htx
 have HR := Lib.hid hfr
 have hdeg : decide ((0 : Int) ≤ d.exp) = false := decide_eq_false (by omega)
 have hgt : decide ((0 : Int) < (d.digits.size : Int) + d.exp) = true := decide_eq_true hn
 have hin : (0 : Int) ≤ (d.digits.size : Int) + d.exp ∧ (d.digits.size : Int) + d.exp ≤ d.digits.size := by omega
 clear hx1 hx3 hx2' htx hfr hfb hw h
 obtain ⟨neg, dg, ex⟩ := d
 simp only at *
 go_enter Tryz.func109, Tryz.ntmps109
 go_wp2_with fail
 refine (hdr _).mono ?_
 rintro e w1 ⟨rfl, hk1⟩
 have hbx1 := hk1.same w.heap.size _ (World.alloc_heap_new w _) trivial
 have hkw1 : Same w w1 := (by repeat with_reducible first | exact Keep.refl _ _ | refine Keep.alloc ?_ _ | refine Keep.drew ?_ | refine Keep.drewN ?_ _ | refine Keep.trans ?_ (by assumption))
 have hlt1 := lt_of_some hbx1
 have hbx2 := heap_old (o := .cells #[.pointer none, .slice none 0 0] 195) hbx1
 have hB0 : Bld w1.heap.size w1.heap.size [] (w1.alloc (.cells #[.pointer none, .slice none 0 0] 195)) := .inl ⟨Nat.le_refl _, .slice none 0 0, World.alloc_heap_new _ _, World.ownsRow_nil _ _ _ _, by simp [Value.ownBlock]⟩
 have hkw2 : Same w (w1.alloc (.cells #[.pointer none, .slice none 0 0] 195)) := hkw1.alloc _
 have hz2 : w1.heap.size ≤ (w1.alloc (.cells #[.pointer none, .slice none 0 0] 195)).heap.size := by simp
 obtain ⟨bb, hbb⟩ : ∃ bb, w1.heap.size = bb := ⟨_, rfl⟩
 rw [hbb] at hB0 hz2 hlt1
 have hbw : w.heap.size ≤ bb := by have := hkw1.size; omega
 obtain ⟨c0, c1, c2⟩ := cells3 hbx2
 cases neg
 focus
  go_wp2_with fail
  generalize (w1.alloc _) = w3 at hB0 hbx2 hkw2 hz2 c0 c1 c2 ⊢
  have hxl : (sgnN false).length ≤ 1 := by decide
  have hx2 : ∀ x ∈ (sgnN false), x < 256 := by decide
  have hB3 : Bld bb bb (sgnN false) w3 := hB0
  generalize (sgnN false) = xs at hxl hx2 hB3 HR
 rotate_left
 focus
  go_wp2_with fail
  refine (writeByte_any bb bb 45 [] _ hB0 (by decide) hz2).mono ?_
  rintro e w3 ⟨rfl, hB3, hK3⟩
  replace hbx2 := hK3.same _ _ hbx2 ⟨by omega, .inl hlt1⟩
  replace hkw2 : Same w w3 := ⟨hK3.os.trans hkw2.os, hK3.tape.trans hkw2.tape, hK3.output.trans hkw2.output, Nat.le_trans hkw2.size hK3.size, fun b o hb _ => hK3.same b o (hkw2.same b o hb trivial) (by have := lt_of_some hb; exact ⟨by omega, .inl (by omega)⟩)⟩
  replace hz2 := Nat.le_trans hz2 hK3.size
  clear hB0 c0 c1 c2 hK3
  obtain ⟨c0, c1, c2⟩ := cells3 hbx2
  go_wp2_with fail
  have hxl : (sgnN true).length ≤ 1 := by decide
  have hx2 : ∀ x ∈ (sgnN true), x < 256 := by decide
  replace hB3 : Bld bb bb (sgnN true) w3 := hB3
  generalize (sgnN true) = xs at hxl hx2 hB3 HR
 all_goals
  refine (hwi _).mono ?_
  rintro x w4 ⟨rfl, h9⟩
  replace h9 := h9.symm
  subst h9
  go_wp2_with fail
  refine (wpIn_wide (n := 0)).1 ?_
  refine wpIn_region_shut (n := 0) (fun X => X.heap[w.heap.size]? = some _) reads (fun _ => trivial) rfl (by kernel_rfl) (by kernel_rfl) hbx2 ?_
  iterate 3 (refine shT_x rfl rfl ?_; intro K hK w' hs; obtain ⟨p0, p1, p2⟩ := cells3 hs; go_simp; refine hK _ _ ?_; clear hK K p0 p1 p2 hs w')
  refine shT_x rfl rfl ?_
  intro K hK w' hs
  go_simp
  rw [H1.out]
  refine hK _ _ ?_
  clear hK K hs w'
  have hcat1 : ¬ 9223372036854775807 < x1.size + 1 := by omega
  refine shT_x rfl rfl ?_
  intro K hK w' hs
  go_simp
  rw [H2.out]
  refine hK _ _ ?_
  clear hK K hs w'
  iterate 3 (refine shT_x rfl rfl ?_; intro K hK w' hs; obtain ⟨p0, p1, p2⟩ := cells3 hs; go_simp; refine hK _ _ ?_; clear hK K p0 p1 p2 hs w')
  refine shT_x rfl rfl ?_
  intro K hK w' hs
  go_simp
  rw [H3.out]
  refine hK _ _ ?_
  clear hK K hs w'
  have hcat2 : ¬ 9223372036854775807 < x2.size + x3.size := by omega
  refine shT_x rfl rfl ?_
  intro K hK w' hs
  go_simp
  rw [HT.out]
  refine hK _ _ ?_
  clear hK K hs w'
  have hbx5 : w3.drew.heap[w.heap.size]? = _ := hbx2
  have hkw5 : Same w w3.drew := hkw2.drew
  have hB5 : Bld bb bb xs w3.drew := hB3
  have hz5 : bb ≤ w3.drew.heap.size := hz2
  refine shT_c rfl rfl ?_
  intro K hK
  go_simp
  refine (callsW (writeString_any bb bb tx xs _ hB5 (by omega) hz5)).mono ?_
  rintro x w6 ⟨⟨v6, rfl⟩, hB6, hK6⟩
  have hbx6 := hK6.same _ _ hbx5 ⟨by omega, .inl hlt1⟩
  have hkw6 : Same w w6 := ⟨hK6.os.trans hkw5.os, hK6.tape.trans hkw5.tape, hK6.output.trans hkw5.output, Nat.le_trans hkw5.size hK6.size, fun b o hb _ => hK6.same b o (hkw5.same b o hb trivial) (by have := lt_of_some hb; exact ⟨by omega, .inl (by omega)⟩)⟩
  have hz6 : bb ≤ w6.heap.size := Nat.le_trans hz5 hK6.size
  refine hK _ _ hbx6 ?_
  clear hK K
  refine shT_nil ?_
  go_wp2_with fail
  refine (bldString_any bb bb (xs ++ bytesN tx) w6 hB6 (fun x hx => (List.mem_append.1 hx).elim (hx2 x) (bytesN_lt _ x)) hz6).mono ?_
  rintro x w7 ⟨rfl, hK7⟩
  have hkw7 : Same w w7 := ⟨hK7.os.trans hkw6.os, hK7.tape.trans hkw6.tape, hK7.output.trans hkw6.output, Nat.le_trans hkw6.size hK7.size, fun b o hb _ => hK7.same b o (hkw6.same b o hb trivial) (by have := lt_of_some hb; exact .inl (by omega))⟩
  go_wp2_with fail
  go_ret2
  exact ⟨by rw [HR.out]; rfl, hkw7⟩
end Go.Tm
namespace Go.Tm
open Go.RowKit Go.Proofs
set_option maxRecDepth 100000 in
set_option maxHeartbeats 4000000 in
theorem fmt_low (d : Dc) (w : World) (h : decRight d = true) (h0 : d.exp < 0) (h20 : -20 ≤ d.exp) (hn : (d.digits.size : Int) + d.exp ≤ 0) :
  Calls Tryz.prog 109 #[decV d] w fun e w' => e = .returned (.tuple #[.string (formatM d).1, .int .i64 (formatM d).2]) ∧ Same w w' := by
 obtain ⟨hd1, hd2, hd3⟩ := fmt_bounds d h
 have hdr := fun W => decRight_any d W (by omega)
 rw [h] at hdr
 have hwi := fun W => within_any d.exp 20 W (by decide)
 have hw : within d.exp 20 = true := by first | assumption | (unfold within; simp; omega)
 rw [hw] at hwi
 have hfr := fmt_right d h
 have hfb : formatB d = ⟨#[48, 46]⟩ ++ zerosB (-((d.digits.size : Int) + d.exp)) ++ d.digits := by
  unfold formatB
  rw [hw]
  simp only [Bool.true_eq_false, if_false]
  rw [if_neg (by omega), if_neg (by omega)]
 rw [hfb] at hfr
 have hrep := fun W => repeat0_any (-((d.digits.size : Int) + d.exp)) W (by omega) (by omega)
 obtain ⟨zs, hzs⟩ : ∃ zs : ByteArray, zerosB (-((d.digits.size : Int) + d.exp)) = zs := ⟨_, rfl⟩
 have hzl : zs.size ≤ 20 := by
  rw [← hzs]
  show (List.replicate (-((d.digits.size : Int) + d.exp)).toNat (48 : UInt8)).toArray.size ≤ 20
  simp; omega
 have hzs2 : (⟨(List.replicate (-((d.digits.size : Int) + d.exp)).toNat (48 : UInt8)).toArray⟩ : ByteArray) = zs := hzs
 rw [hzs2] at hrep
 rw [hzs] at hfr
 obtain ⟨x2, hx2'⟩ : ∃ x2 : ByteArray, ⟨#[48, 46]⟩ ++ zs = x2 := ⟨_, rfl⟩
 have hzz : x2.size ≤ 22 := by rw [← hx2', ByteArray.size_append]; show 2 + _ ≤ _; omega
 rw [hx2'] at hfr
 obtain ⟨tx, htx⟩ : ∃ tx : ByteArray, x2 ++ d.digits = tx := ⟨_, rfl⟩
 rw [htx] at hfr
 have htz : tx.size ≤ 300 := by rw [← htx, ByteArray.size_append]; omega
 have H2 := Lib.hid hx2'
 have HT := Lib.hid htx
 have HR := Lib.hid hfr
 have hdeg : decide ((0 : Int) ≤ d.exp) = false := decide_eq_false (by omega)
 have hgt : decide ((0 : Int) < (d.digits.size : Int) + d.exp) = false := decide_eq_false (by omega)
 clear hzs hzs2 hx2' htx hfr hfb hw h
 obtain ⟨neg, dg, ex⟩ := d
 simp only at *
 go_enter Tryz.func109, Tryz.ntmps109
 go_wp2_with fail
 refine (hdr _).mono ?_
 rintro e w1 ⟨rfl, hk1⟩
 have hbx1 := hk1.same w.heap.size _ (World.alloc_heap_new w _) trivial
 have hkw1 : Same w w1 := (by repeat with_reducible first | exact Keep.refl _ _ | refine Keep.alloc ?_ _ | refine Keep.drew ?_ | refine Keep.drewN ?_ _ | refine Keep.trans ?_ (by assumption))
 have hlt1 := lt_of_some hbx1
 have hbx2 := heap_old (o := .cells #[.pointer none, .slice none 0 0] 195) hbx1
 have hB0 : Bld w1.heap.size w1.heap.size [] (w1.alloc (.cells #[.pointer none, .slice none 0 0] 195)) := .inl ⟨Nat.le_refl _, .slice none 0 0, World.alloc_heap_new _ _, World.ownsRow_nil _ _ _ _, by simp [Value.ownBlock]⟩
 have hkw2 : Same w (w1.alloc (.cells #[.pointer none, .slice none 0 0] 195)) := hkw1.alloc _
 have hz2 : w1.heap.size ≤ (w1.alloc (.cells #[.pointer none, .slice none 0 0] 195)).heap.size := by simp
 obtain ⟨bb, hbb⟩ : ∃ bb, w1.heap.size = bb := ⟨_, rfl⟩
 rw [hbb] at hB0 hz2 hlt1
 have hbw : w.heap.size ≤ bb := by have := hkw1.size; omega
 obtain ⟨c0, c1, c2⟩ := cells3 hbx2
 cases neg
 focus
  go_wp2_with fail
  generalize (w1.alloc _) = w3 at hB0 hbx2 hkw2 hz2 c0 c1 c2 ⊢
  have hxl : (sgnN false).length ≤ 1 := by decide
  have hx2 : ∀ x ∈ (sgnN false), x < 256 := by decide
  have hB3 : Bld bb bb (sgnN false) w3 := hB0
  generalize (sgnN false) = xs at hxl hx2 hB3 HR
 rotate_left
 focus
  go_wp2_with fail
  refine (writeByte_any bb bb 45 [] _ hB0 (by decide) hz2).mono ?_
  rintro e w3 ⟨rfl, hB3, hK3⟩
  replace hbx2 := hK3.same _ _ hbx2 ⟨by omega, .inl hlt1⟩
  replace hkw2 : Same w w3 := ⟨hK3.os.trans hkw2.os, hK3.tape.trans hkw2.tape, hK3.output.trans hkw2.output, Nat.le_trans hkw2.size hK3.size, fun b o hb _ => hK3.same b o (hkw2.same b o hb trivial) (by have := lt_of_some hb; exact ⟨by omega, .inl (by omega)⟩)⟩
  replace hz2 := Nat.le_trans hz2 hK3.size
  clear hB0 c0 c1 c2 hK3
  obtain ⟨c0, c1, c2⟩ := cells3 hbx2
  go_wp2_with fail
  have hxl : (sgnN true).length ≤ 1 := by decide
  have hx2 : ∀ x ∈ (sgnN true), x < 256 := by decide
  replace hB3 : Bld bb bb (sgnN true) w3 := hB3
  generalize (sgnN true) = xs at hxl hx2 hB3 HR
 all_goals
  refine (hwi _).mono ?_
  rintro x w4 ⟨rfl, h9⟩
  replace h9 := h9.symm
  subst h9
  go_wp2_with fail
  refine (wpIn_wide (n := 0)).1 ?_
  refine wpIn_region_shut (n := 0) (fun X => X.heap[w.heap.size]? = some _) reads (fun _ => trivial) rfl (by kernel_rfl) (by kernel_rfl) hbx2 ?_
  iterate 2 (refine shT_x rfl rfl ?_; intro K hK w' hs; obtain ⟨p0, p1, p2⟩ := cells3 hs; go_simp; refine hK _ _ ?_; clear hK K p0 p1 p2 hs w')
  refine shT_c rfl rfl ?_
  intro K hK
  go_simp
  rw [show IntKind.i64.wrap (-((dg.size : Int) + ex)) = -((dg.size : Int) + ex) from by rw [IntKind.wrap_i64]; omega]
  refine (callsW (hrep _)).mono ?_
  rintro x w5 ⟨rfl, hk5⟩
  have hbx5 := hk5.same _ _ hbx2 trivial
  have hB3d : Bld bb bb xs w3.drew := hB3
  have hB5 := isB_keep hB3d hk5 (fun c f => trivial) (fun g c f _ _ => trivial)
  have hkw5 : Same w w5 := hkw2.drew.trans hk5
  have hz5 : bb ≤ w5.heap.size := Nat.le_trans hz2 hk5.size
  refine hK _ _ hbx5 ?_
  clear hK K
  obtain ⟨f0, f1, f2⟩ := cells3 hbx5
  have hcat1 : ¬ 9223372036854775807 < 2 + zs.size := by omega
  refine shT_x rfl rfl ?_
  intro K hK w' hs
  go_simp
  rw [H2.out]
  refine hK _ _ ?_
  clear hK K hs w'
  iterate 2 (refine shT_x rfl rfl ?_; intro K hK w' hs; obtain ⟨p0, p1, p2⟩ := cells3 hs; go_simp; refine hK _ _ ?_; clear hK K p0 p1 p2 hs w')
  have hcat2 : ¬ 9223372036854775807 < x2.size + dg.size := by omega
  refine shT_x rfl rfl ?_
  intro K hK w' hs
  go_simp
  rw [HT.out]
  refine hK _ _ ?_
  clear hK K hs w'
  refine shT_c rfl rfl ?_
  intro K hK
  go_simp
  refine (callsW (writeString_any bb bb tx xs _ hB5 (by omega) hz5)).mono ?_
  rintro x w6 ⟨⟨v6, rfl⟩, hB6, hK6⟩
  have hbx6 := hK6.same _ _ hbx5 ⟨by omega, .inl hlt1⟩
  have hkw6 : Same w w6 := ⟨hK6.os.trans hkw5.os, hK6.tape.trans hkw5.tape, hK6.output.trans hkw5.output, Nat.le_trans hkw5.size hK6.size, fun b o hb _ => hK6.same b o (hkw5.same b o hb trivial) (by have := lt_of_some hb; exact ⟨by omega, .inl (by omega)⟩)⟩
  have hz6 : bb ≤ w6.heap.size := Nat.le_trans hz5 hK6.size
  refine hK _ _ hbx6 ?_
  clear hK K
  refine shT_nil ?_
  go_wp2_with fail
  refine (bldString_any bb bb (xs ++ bytesN tx) w6 hB6 (fun x hx => (List.mem_append.1 hx).elim (hx2 x) (bytesN_lt _ x)) hz6).mono ?_
  rintro x w7 ⟨rfl, hK7⟩
  have hkw7 : Same w w7 := ⟨hK7.os.trans hkw6.os, hK7.tape.trans hkw6.tape, hK7.output.trans hkw6.output, Nat.le_trans hkw6.size hK7.size, fun b o hb _ => hK7.same b o (hkw6.same b o hb trivial) (by have := lt_of_some hb; exact .inl (by omega))⟩
  go_wp2_with fail
  go_ret2
  exact ⟨by rw [HR.out]; rfl, hkw7⟩
end Go.Tm
namespace Go.Tm
open Go.RowKit Go.Proofs
theorem format_any {N : Nat} {E : Errs} (d : Dc) (w : World) (hG : Glob N E w) (hs : d.digits.size ≤ 1099511627776) :
  Calls Tryz.prog 109 #[decV d] w fun e w' => e = .returned (.tuple #[.string (formatM d).1, .int .i64 (formatM d).2]) ∧ Same w w' := by
 cases h : decRight d with
 | false => exact fmt_bad d w hs h
 | true =>
  cases hw : within d.exp 20 with
  | false => exact fmt_big d w h hw hG.pow fun W hW => (hG.same hW).pow
  | true =>
   have hb : -20 ≤ d.exp ∧ d.exp ≤ 20 := by
    unfold within at hw
    simp only [Bool.and_eq_true, decide_eq_true_eq] at hw
    exact hw
   by_cases h0 : 0 ≤ d.exp
   ·exact format_int d w hs h h0 hb.2
   ·by_cases hn : 0 < (d.digits.size : Int) + d.exp
    ·exact fmt_mid d w h (by omega) hb.1 hn
    ·exact fmt_low d w h (by omega) hb.1 (by omega)
def extX (h : Hd) : Dc × Bool :=
 if h.u ≠ 100 ∨ (parseM h.s).2.2 ≠ 0 ∨ (parseM h.s).2.1.size ≠ 0 then (noDc, false)
 else if (formatM (parseM h.s).1).2 ≠ 0 ∨ (formatM (parseM h.s).1).1 ≠ h.s then (noDc, false)
 else ((parseM h.s).1, true)
theorem parse_right_dec (s : ByteArray) (h : (parseM s).2.2 = 0) : decRight (parseM s).1 = true := by
 unfold parseM at h ⊢
 split at h
 ·cases h
 ·rename_i h1
  rw [if_neg h1]
  split at h
  ·rename_i h2; exact absurd h h2
  ·rename_i h2
   rw [if_neg h2]
   have h3 : (makeO s).2 = 0 := Decidable.not_not.1 h2
   unfold makeO at h3 ⊢
   exact makeB_right _ _ _ h3
theorem extX_right (h : Hd) (hx : (extX h).2 = true) : decRight (extX h).1 = true := by
 unfold extX at hx ⊢
 split at hx
 ·cases hx
 ·rename_i h1
  rw [if_neg h1]
  split at hx
  ·cases hx
  ·rename_i h2
   rw [if_neg h2]
   exact parse_right_dec _ (Decidable.not_not.1 fun e => h1 (.inr (.inl e)))
theorem ofExt_res (T : Array Value) (W : World) (bx : Nat) (d : Dc) (e : Bool) (h2 : T.getD 2 undef = .pointer (some ⟨bx, 0, none⟩)) (h3 : T.getD 3 undef = .bool e)
  (hrow : W.heap[bx]? = some (.cells #[.bool d.neg, .string d.digits, .int .i64 d.exp] 23 (0, 0))) : (results Tryz.f59 T).run Tryz.prog W = .ok (decB (d, e)) W := by
 have hld := run_loadVar_row (P := Tryz.prog) W bx 23 23 _ (0, 0) _ hrow Tryz.underlying23 rfl (by kernel_rfl)
 rw [results_cell_tmp rfl, h2, h3]
 simp [asAddr, hld, Result.andThen]
set_option maxRecDepth 100000 in
set_option maxHeartbeats 4000000 in
theorem ofExt_any {N : Nat} {E : Errs} (h : Hd) (a : Option Addr) (n cap : Nat) (w : World) (hG : Glob N E w) (hN : N ≤ w.heap.size) (hs : h.s.size ≤ 274877906944) :
  Calls Tryz.prog 59 #[nodeV h (.slice a n cap)] w fun e w' => e = .returned (decB (extX h)) ∧ Same w w' := by
 have hpa := fun W (hW : Same w W) => parse_any h.s W (hG.same hW) (Nat.le_trans hN hW.size) hs
 have hpd := parse_right_dec h.s
 obtain ⟨R, hR⟩ : ∃ R, extX h = R := ⟨_, rfl⟩
 have hr0 : R = if h.u ≠ 100 ∨ (parseM h.s).2.2 ≠ 0 ∨ (parseM h.s).2.1.size ≠ 0 then (noDc, false) else if (formatM (parseM h.s).1).2 ≠ 0 ∨ (formatM (parseM h.s).1).1 ≠ h.s then (noDc, false) else ((parseM h.s).1, true) := hR.symm
 rw [hR]
 clear hR
 obtain ⟨⟨d, rest, er⟩, hpq⟩ : ∃ r, parseM h.s = r := ⟨_, rfl⟩
 rw [hpq] at hpa hpd hr0
 simp only at hpa hpd hr0
 have hfm := fun W (hW : Same w W) (hdd : er = 0) => format_any (N := N) (E := E) d W (hG.same hW) (Nat.le_trans (fmt_bounds d (hpd hdd)).1 (by decide))
 obtain ⟨⟨fs, fe⟩, hfq⟩ : ∃ r, formatM d = r := ⟨_, rfl⟩
 rw [hfq] at hfm hr0
 simp only at hfm hr0
 clear hpq hfq
 have HR := Lib.hid hr0
 clear hr0
 go_enter Tryz.func59, Tryz.ntmps59
 go_wp2_with fail
 refine (hpa _ (by repeat with_reducible first | exact Keep.refl _ _ | refine Keep.alloc ?_ _ | refine Keep.drew ?_ | refine Keep.drewN ?_ _ | refine Keep.trans ?_ (by assumption))).mono ?_
 rintro x w1 ⟨rfl, hk1⟩
 have hbn1 := hk1.same w.heap.size _ (show _ = some (.cells #[.int .i64 h.kind, .bool h.b, .bool h.d.neg, .string h.d.digits, .int .i64 h.d.exp, .int .u64 (h.u : Int), .int .i64 h.w, .string h.s, .slice a n cap] 27 (0, 0)) from heap_old (World.alloc_heap_new w _)) trivial
 have hbr1 := hk1.same (w.heap.size + 1) _ (show _ = some (.cells #[.bool false, .string ⟨#[]⟩, .int .i64 0] 23 (0, 0)) from heap_new' (by simp)) trivial
 have hkw1 : Same w w1 := (by repeat with_reducible first | exact Keep.refl _ _ | refine Keep.alloc ?_ _ | refine Keep.drew ?_ | refine Keep.drewN ?_ _ | refine Keep.trans ?_ (by assumption))
 have hbn2 := heap_old (o := .cells #[.bool d.neg, .string d.digits, .int .i64 d.exp] 23) hbn1
 have hbr2 := heap_old (o := .cells #[.bool d.neg, .string d.digits, .int .i64 d.exp] 23) hbr1
 have hbx2 : (w1.alloc (.cells #[.bool d.neg, .string d.digits, .int .i64 d.exp] 23)).heap[w1.heap.size]? = some (.cells #[.bool d.neg, .string d.digits, .int .i64 d.exp] 23 (0, 0)) := World.alloc_heap_new w1 _
 have hkw2 : Same w (w1.alloc (.cells #[.bool d.neg, .string d.digits, .int .i64 d.exp] 23)) := hkw1.trans ((Keep.refl _ _).alloc _)
 obtain ⟨n0, n1, n2, n3, n4, n5, n6, n7, n8⟩ := cells9 hbn2
 obtain ⟨z0, z1, z2⟩ := cells3 hbr2
 obtain ⟨x0, x1, x2⟩ := cells3 hbx2
 obtain ⟨m0, m1, m2, m3, m4, m5, m6, m7, m8⟩ := cells9 hbn1
 have hfz : ∀ j, (w1.alloc (.cells #[.bool d.neg, .string d.digits, .int .i64 d.exp] 23)).frozen? ⟨w.heap.size + 1, j, none⟩ = false := Lib.frozen_of_heap hbr2
 by_cases hu : h.u = 100
 ·have k1 : ((h.u : Int) == 100) = true := by simp [hu]
  have nk1 : ((h.u : Int) != 100) = false := by simp [hu]
  by_cases he : er = 0
  ·subst he
   by_cases hre : rest.size = 0
   ·have k3 : rest.toList = [] := by
     have : rest = ByteArray.empty := by simpa using hre
     rw [this, ByteArray.toList_eq]; rfl
    have HR2 := Lib.hid (show R = if fe ≠ 0 ∨ fs ≠ h.s then (noDc, false) else (d, true) from by rw [HR.out, if_neg (by rintro (e | e | e); exact e hu; exact e rfl; exact e hre)])
    clear hu HR hre hpd hpa
    go_wp2_with fail
    refine (hfm _ hkw2 trivial).mono ?_
    rintro x w4 ⟨rfl, hk4⟩
    have hbn4 := hk4.same _ _ hbn2 trivial
    have hbr4 := hk4.same _ _ hbr2 trivial
    have hbx4 := hk4.same _ _ hbx2 trivial
    have hkw4 := hkw2.trans hk4
    clear n0 n1 n2 n3 n4 n5 n6 n7 n8 z0 z1 z2 x0 x1 x2 m0 m1 m2 m3 m4 m5 m6 m7 m8 hfz hfm hbn2 hbn1 hbr1 hbr2 hbx2 hk4 hkw2
    obtain ⟨n0, n1, n2, n3, n4, n5, n6, n7, n8⟩ := cells9 hbn4
    obtain ⟨z0, z1, z2⟩ := cells3 hbr4
    obtain ⟨x0, x1, x2⟩ := cells3 hbx4
    have hfz : ∀ j, w4.frozen? ⟨w.heap.size + 1, j, none⟩ = false := Lib.frozen_of_heap hbr4
    by_cases hfe : fe = 0
    ·subst hfe
     by_cases hfs : fs = h.s
     ·have k4 : (fs.toList == h.s.toList) = true := str_eq hfs
      have nk4 : (fs.toList != h.s.toList) = false := by unfold bne; rw [k4]; rfl
      have HR1 := Lib.hid (show R = (d, true) from by rw [HR2.out, if_neg (by rintro (e | e); exact e rfl; exact e hfs)])
      clear hfs HR2
      go_wp2_with fail
      (try simp only [Exit.inBlock, Exit.then])
      obtain ⟨p3, p4⟩ := put3 (x := .bool d.neg) (y := .string d.digits) (z := .int .i64 d.exp) hkw4 hbr4 (by omega)
      exact bodyPost_ret (ofExt_res _ _ (w.heap.size + 1) d true rfl rfl p3) rfl ⟨by rw [HR1.out] <;> rfl, p4⟩
     ·have k4 : (fs.toList == h.s.toList) = false := str_ne hfs
      have nk4 : (fs.toList != h.s.toList) = true := by unfold bne; rw [k4]; rfl
      have HR1 := Lib.hid (show R = (noDc, false) from by rw [HR2.out, if_pos (.inr hfs)])
      clear hfs HR2
      go_wp2_with fail; (try simp only [Exit.inBlock, Exit.then]); obtain ⟨p3, p4⟩ := put3 (x := .bool false) (y := .string ⟨#[]⟩) (z := .int .i64 0) hkw4 hbr4 (by omega); exact bodyPost_ret (ofExt_res _ _ (w.heap.size + 1) noDc false rfl rfl p3) rfl ⟨by rw [HR1.out] <;> rfl, p4⟩
    ·have k2 : ((fe : Int) == 0) = false := by simpa using hfe
     have nk2 : ((fe : Int) != 0) = true := by simpa using hfe
     have HR1 := Lib.hid (show R = (noDc, false) from by rw [HR2.out, if_pos (.inl hfe)])
     clear hfe HR2
     go_wp2_with fail; (try simp only [Exit.inBlock, Exit.then]); obtain ⟨p3, p4⟩ := put3 (x := .bool false) (y := .string ⟨#[]⟩) (z := .int .i64 0) hkw4 hbr4 (by omega); exact bodyPost_ret (ofExt_res _ _ (w.heap.size + 1) noDc false rfl rfl p3) rfl ⟨by rw [HR1.out] <;> rfl, p4⟩
   ·have k3 : (rest.toList == []) = false := beq_eq_false_iff_ne.2 fun e => hre (by rw [ByteArray.toList_eq] at e; show rest.data.size = 0; rw [← Array.length_toList, e]; rfl)
    have nk3 : (rest.toList != []) = true := by unfold bne; rw [k3]; rfl
    have HR1 := Lib.hid (show R = (noDc, false) from by rw [HR.out, if_pos (.inr (.inr hre))])
    clear hu HR hfm hpd hpa hre
    go_wp2_with fail; (try simp only [Exit.inBlock, Exit.then]); obtain ⟨p3, p4⟩ := put3 (x := .bool false) (y := .string ⟨#[]⟩) (z := .int .i64 0) hkw2 hbr2 (by omega); exact bodyPost_ret (ofExt_res _ _ (w.heap.size + 1) noDc false rfl rfl p3) rfl ⟨by rw [HR1.out] <;> rfl, p4⟩
  ·have k2 : ((er : Int) == 0) = false := by simpa using he
   have nk2 : ((er : Int) != 0) = true := by simpa using he
   have HR1 := Lib.hid (show R = (noDc, false) from by rw [HR.out, if_pos (.inr (.inl he))])
   clear hu HR hfm hpd hpa he
   go_wp2_with fail; (try simp only [Exit.inBlock, Exit.then]); obtain ⟨p3, p4⟩ := put3 (x := .bool false) (y := .string ⟨#[]⟩) (z := .int .i64 0) hkw2 hbr2 (by omega); exact bodyPost_ret (ofExt_res _ _ (w.heap.size + 1) noDc false rfl rfl p3) rfl ⟨by rw [HR1.out] <;> rfl, p4⟩
 ·have k1 : ((h.u : Int) == 100) = false := by simp; omega
  have nk1 : ((h.u : Int) != 100) = true := by simp; omega
  have HR1 := Lib.hid (show R = (noDc, false) from by rw [HR.out, if_pos (.inl hu)])
  clear hu HR hfm hpd hpa
  go_wp2_with fail; (try simp only [Exit.inBlock, Exit.then]); obtain ⟨p3, p4⟩ := put3 (x := .bool false) (y := .string ⟨#[]⟩) (z := .int .i64 0) hkw2 hbr2 (by omega); exact bodyPost_ret (ofExt_res _ _ (w.heap.size + 1) noDc false rfl rfl p3) rfl ⟨by rw [HR1.out] <;> rfl, p4⟩
end Go.Tm
namespace Go.Tm
open Go.RowKit Go.Proofs
theorem ext_all3 {N : Nat} {E : Errs} {t : Tree} {f : Int} (h : checkT t f = 0) : ∀ x ∈ t.flat, ExtC extX N E x := fun x hx h11 W lv hG hN hr => by
 obtain ⟨a, c, rfl⟩ := hr.is_slice
 exact ofExt_any x.hd a _ c W hG hN (Nat.le_trans (own_s ((checkT_all h).2.2 x hx).1) (by decide))
theorem sameOf3 {w W : World} (hk : Keep (fun k _ => k ≠ w.heap.size) w W) : Same w W := ⟨hk.os, hk.tape, hk.output, hk.size, fun k o ho _ => hk.same k o ho (by have := lt_of_some ho; omega)⟩
theorem rep_u : ∀ t : Tree, ∀ (S : Nat → Prop) (lv : Value) (w : World), t.hd.ok → RepS S w t.l lv → ∀ x ∈ t.flat, x.hd.u < 18446744073709551616 := by
 refine Tree.ind fun h l ih => ?_
 intro S lv w ho hr x hx
 rcases flat_node hx with rfl | ⟨k, hk, hxk⟩
 ·exact ho.2.2.2.1
 ·obtain ⟨-, a, cap, -, -, hg⟩ := hr.shape
  obtain ⟨i, hi, rfl⟩ := List.getElem_of_mem hk
  obtain ⟨b, off, lv', -, -, -, h1, h2, -⟩ := hg i hi
  exact ih _ hk S lv' w h2 h1 x hxk
theorem set_law {t r : Tree} (hc : checkT t 2 = 0) (hu : ∀ x ∈ t.flat, x.hd.u < 18446744073709551616) (hl : ∀ x ∈ t.flat, x.l.length ≤ 40) (hd : t.depth ≤ 1000000) (h : SetR t r) :
  commonM extX r 3 = commonM extX t 2 ∧ r.depth ≤ 1000000 ∧ ∀ x ∈ r.flat, x.l.length ≤ 40 := by
 have he : EvenM t := even_of_own fun x hx => ((checkT_all hc).2.2 x hx).1
 exact ⟨common_set extX hc hu h, by rw [(setR_size t he r h).1]; exact hd, setR_lens t he hl r h⟩
theorem set_at {N : Nat} {E : Errs} {t : Tree} (hl : ∀ x ∈ t.flat, x.l.length ≤ 40) (hd : t.depth ≤ 1000000) (hc : checkT t 2 = 0) : SettAt N E t :=
 have he : EvenM t := even_of_own fun x hx => ((checkT_all hc).2.2 x hx).1
 settled_all t hd fun x hx => ⟨he x hx, Nat.le_trans (hl x hx) (by decide)⟩
set_option maxRecDepth 100000 in
set_option maxHeartbeats 8000000 in
theorem ProjSettled.walk_any {E : Errs} (t : Tree) (lv : Value) (w : World) (hG : Glob w.heap.size E w) (hrep : t.RepW w lv) :
  Calls Tryz.prog 8 #[nodeV t.hd lv] w fun e w' => e = .returned (.bool true) ∧ Same w w' := by
 obtain ⟨ho, a, cap, rfl, hlen, hL⟩ := repW_node hrep
 have hfew := fun (W : World) (hk : Same w W) => few_any t _ W (hrep.same hk)
 have hsh := fun (W : World) (hk : Same w W) => shown_any (X := extX) extX_right (N := w.heap.size) (E := E) W (hG.same hk) hk.size
 have fok := few_ok ho
 have fde := few_depth t
 have fle := few_lens t
 have fhd := few_hd t
 obtain ⟨T, hT⟩ : ∃ T, fewT t = T := ⟨_, rfl⟩
 rw [hT] at hfew fok fde fle fhd
 rw [← fhd] at hfew
 have fde' : T.depth ≤ 1000000 := by omega
 obtain ⟨n, hn⟩ : ∃ n, t.l.length = n := ⟨_, rfl⟩
 obtain ⟨h, hh⟩ : ∃ h, t.hd = h := ⟨_, rfl⟩
 rw [hn, hh] at hfew
 rw [hn, hh]
 clear hT hn hh fhd hL hrep hlen ho fde
 obtain ⟨q, l⟩ := T
 simp only [Tree.hd_node, Tree.l_node] at hfew fok
 have hbn : (w.alloc (.cells #[.int .i64 h.kind, .bool h.b, .bool h.d.neg, .string h.d.digits, .int .i64 h.d.exp, .int .u64 (h.u : Int), .int .i64 h.w, .string h.s, .slice a n cap] 27)).heap[w.heap.size]? = some (.cells #[.int .i64 h.kind, .bool h.b, .bool h.d.neg, .string h.d.digits, .int .i64 h.d.exp, .int .u64 (h.u : Int), .int .i64 h.w, .string h.s, .slice a n cap] 27 (0, 0)) := World.alloc_heap_new w _
 have hk0 : Same w (w.alloc (.cells #[.int .i64 h.kind, .bool h.b, .bool h.d.neg, .string h.d.digits, .int .i64 h.d.exp, .int .u64 (h.u : Int), .int .i64 h.w, .string h.s, .slice a n cap] 27)) := (Keep.refl _ _).alloc _
 have hz0 : (w.alloc (.cells #[.int .i64 h.kind, .bool h.b, .bool h.d.neg, .string h.d.digits, .int .i64 h.d.exp, .int .u64 (h.u : Int), .int .i64 h.w, .string h.s, .slice a n cap] 27)).heap.size = w.heap.size + 1 := by simp
 go_enter Tryz.func8, Tryz.ntmps8
 go_wp2_with fail
 refine (hsh _ hk0).mono ?_
 rintro e w1 ⟨rfl, hk1⟩
 have hb1 := hk1.same _ _ hbn trivial
 have hkw1 := hk0.trans hk1
 have hzw := hk1.size
 rw [hz0] at hzw
 clear hk0 hk1 hz0 hbn hsh
 obtain ⟨n0, n1, n2, n3, n4, n5, n6, n7, n8⟩ := cells9 hb1
 go_wp2_with fail
 refine (hfew _ hkw1).mono ?_
 rintro e w2 ⟨lv2, rfl, hr2, hk2⟩
 have hu := rep_u (.node q l) _ _ _ fok hr2
 obtain ⟨a2, c2, rfl⟩ := hr2.is_slice
 have hb2 := hk2.same _ _ hb1 trivial
 have hkw2 := hkw1.trans hk2
 clear n0 n1 n2 n3 n4 n5 n6 n7 n8 hfew
 obtain ⟨n0, n1, n2, n3, n4, n5, n6, n7, n8⟩ := cells9 hb2
 have hfz : ∀ j, w2.frozen? ⟨w.heap.size, j, none⟩ = false := Lib.frozen_of_heap hb2
 obtain ⟨h9, hk9⟩ := put9 hb2 (.int .i64 q.kind) (.bool q.b) (.bool q.d.neg) (.string q.d.digits) (.int .i64 q.d.exp) (.int .u64 (q.u : Int)) (.int .i64 q.w) (.string q.s) (.slice a2 l.length c2)
 have hr3 : RepS AnyB ((((((((((w2.setCell ⟨w.heap.size, 0, none⟩ (.int .i64 q.kind)).setCell ⟨w.heap.size, 1, none⟩ (.bool q.b)).setCell ⟨w.heap.size, 2, none⟩ (.bool q.d.neg)).setCell ⟨w.heap.size, 3, none⟩ (.string q.d.digits)).setCell ⟨w.heap.size, 4, none⟩ (.int .i64 q.d.exp)).setCell ⟨w.heap.size, 5, none⟩ (.int .u64 (q.u : Int))).setCell ⟨w.heap.size, 6, none⟩ (.int .i64 q.w)).setCell ⟨w.heap.size, 7, none⟩ (.string q.s)).setCell ⟨w.heap.size, 8, none⟩ (.slice a2 l.length c2))) l (.slice a2 l.length c2) := (hr2.keep hk9 fun b (hb : w1.heap.size ≤ b) _ _ => by omega).mono fun _ _ _ => trivial
 have hkw3 : Keep (fun k _ => k ≠ w.heap.size) w ((((((((((w2.setCell ⟨w.heap.size, 0, none⟩ (.int .i64 q.kind)).setCell ⟨w.heap.size, 1, none⟩ (.bool q.b)).setCell ⟨w.heap.size, 2, none⟩ (.bool q.d.neg)).setCell ⟨w.heap.size, 3, none⟩ (.string q.d.digits)).setCell ⟨w.heap.size, 4, none⟩ (.int .i64 q.d.exp)).setCell ⟨w.heap.size, 5, none⟩ (.int .u64 (q.u : Int))).setCell ⟨w.heap.size, 6, none⟩ (.int .i64 q.w)).setCell ⟨w.heap.size, 7, none⟩ (.string q.s)).setCell ⟨w.heap.size, 8, none⟩ (.slice a2 l.length c2))) := (Keep.of_same hkw2).trans hk9
 have hz3 : w.heap.size ≤ ((((((((((w2.setCell ⟨w.heap.size, 0, none⟩ (.int .i64 q.kind)).setCell ⟨w.heap.size, 1, none⟩ (.bool q.b)).setCell ⟨w.heap.size, 2, none⟩ (.bool q.d.neg)).setCell ⟨w.heap.size, 3, none⟩ (.string q.d.digits)).setCell ⟨w.heap.size, 4, none⟩ (.int .i64 q.d.exp)).setCell ⟨w.heap.size, 5, none⟩ (.int .u64 (q.u : Int))).setCell ⟨w.heap.size, 6, none⟩ (.int .i64 q.w)).setCell ⟨w.heap.size, 7, none⟩ (.string q.s)).setCell ⟨w.heap.size, 8, none⟩ (.slice a2 l.length c2))).heap.size := hkw3.size
 have hst := fun W lv (hg : Glob w.heap.size E W) (hn : w.heap.size ≤ W.heap.size) hr => settle_any AnyB (.node q l) lv W hg hn (fun _ _ => trivial) fok fde' hr (fun hc => set_at fle fde' hc)
 have hcA := fun W lv (hg : Glob w.heap.size E W) (hn : w.heap.size ≤ W.heap.size) hr => common_any extX_right (.node q l) 2 AnyB lv W hg hn fde' fok hr (fun _ _ => trivial) fle (fun h => ext_all3 h)
 have hlaw := Lib.hid (fun r hc hs => set_law (t := .node q l) (r := r) hc hu fle fde' hs)
 unfold SettleOut at hst
 unfold OutC at hcA
 obtain ⟨c, hc⟩ : ∃ c, checkT (.node q l) 2 = c := ⟨_, rfl⟩
 obtain ⟨AT, e1, hA⟩ : ∃ t e, commonM extX (.node q l) 2 = (t, e) := ⟨_, _, rfl⟩
 rw [hA] at hcA
 rw [hc] at hst
 simp only [Tree.hd_node, Tree.l_node] at hcA hst
 go_wp2_with fail
 clear n0 n1 n2 n3 n4 n5 n6 n7 n8 hfz hk9 hb2 hb1 hr2 hk2 hkw1 hkw2
 generalize ((((((((((w2.setCell ⟨w.heap.size, 0, none⟩ (.int .i64 q.kind)).setCell ⟨w.heap.size, 1, none⟩ (.bool q.b)).setCell ⟨w.heap.size, 2, none⟩ (.bool q.d.neg)).setCell ⟨w.heap.size, 3, none⟩ (.string q.d.digits)).setCell ⟨w.heap.size, 4, none⟩ (.int .i64 q.d.exp)).setCell ⟨w.heap.size, 5, none⟩ (.int .u64 (q.u : Int))).setCell ⟨w.heap.size, 6, none⟩ (.int .i64 q.w)).setCell ⟨w.heap.size, 7, none⟩ (.string q.s)).setCell ⟨w.heap.size, 8, none⟩ (.slice a2 l.length c2))) = W3 at h9 hr3 hkw3 hz3 ⊢
 have hG3 : Glob w.heap.size E W3 := hG.keep hkw3 fun k hlt _ => by omega
 refine (hst _ _ hG3 hz3 hr3).mono ?_
 rintro e w4 ⟨R, lv3, rfl, hsR, hokR, hrR, hk4⟩
 have hb4 := hk4.same _ _ h9 trivial
 have hkw4 := hkw3.trans (Keep.of_same hk4)
 have hr4 := hr3.same hk4
 clear h9 hk4 hkw3 hz3 hG3 hst hr3
 by_cases hc0 : c = 0
 ·subst hc0
  have hsR' := hsR rfl
  obtain ⟨g1, g2, g3⟩ := hlaw.out R hc hsR'
  have hcB := fun W lv (hg : Glob w.heap.size E W) (hn : w.heap.size ≤ W.heap.size) hr => common_any extX_right R 3 AnyB lv W hg hn g2 hokR hr (fun _ _ => trivial) g3 (fun h => ext_all3 h)
  rw [g1, hA] at hcB
  have hsm := fun W lv lv' h1 h2 => refSame_any AT AT AnyB lv lv' W h1 h2
  rw [(same_iff _ _).2 rfl] at hsm
  unfold OutC at hcB
  obtain ⟨rh, rl⟩ := R
  obtain ⟨ah, al⟩ := AT
  obtain ⟨a4, c4, rfl⟩ := hrR.is_slice
  simp only [Tree.hd_node, Tree.l_node] at *
  clear g1 g2 g3 hlaw hsR hsR' hc hA hokR fok fle fde' hu
  have heq : ((e1 : Int) == e1) = true := by simp
  have hs45 : Same w4 (w4.alloc (.cells #[.int .i64 rh.kind, .bool rh.b, .bool rh.d.neg, .string rh.d.digits, .int .i64 rh.d.exp, .int .u64 (rh.u : Int), .int .i64 rh.w, .string rh.s, .slice a4 rl.length c4] 27)) := (Keep.refl _ _).alloc _
  have hbR : (w4.alloc (.cells #[.int .i64 rh.kind, .bool rh.b, .bool rh.d.neg, .string rh.d.digits, .int .i64 rh.d.exp, .int .u64 (rh.u : Int), .int .i64 rh.w, .string rh.s, .slice a4 rl.length c4] 27)).heap[w4.heap.size]? = some (.cells #[.int .i64 rh.kind, .bool rh.b, .bool rh.d.neg, .string rh.d.digits, .int .i64 rh.d.exp, .int .u64 (rh.u : Int), .int .i64 rh.w, .string rh.s, .slice a4 rl.length c4] 27 (0, 0)) := World.alloc_heap_new w4 _
  have hkw5 := hkw4.trans (Keep.of_same hs45)
  have hb5 := hs45.same _ _ hb4 trivial
  have hr5 := hr4.same hs45
  have hrR5 := hrR.same hs45
  obtain ⟨n0, n1, n2, n3, n4, n5, n6, n7, n8⟩ := cells9 hb5
  clear hb4 hr4 hrR hs45 hkw4
  go_wp2_with fail
  generalize (w4.alloc (.cells #[.int .i64 rh.kind, .bool rh.b, .bool rh.d.neg, .string rh.d.digits, .int .i64 rh.d.exp, .int .u64 (rh.u : Int), .int .i64 rh.w, .string rh.s, .slice a4 rl.length c4] 27)) = w5 at hbR hkw5 hb5 hr5 hrR5 n0 n1 n2 n3 n4 n5 n6 n7 n8 ⊢
  refine (hcA _ _ (hG.keep hkw5 fun k hlt _ => by omega) hkw5.size hr5).mono ?_
  rintro x w6 ⟨lv5, rfl, hokA, hrA, hk6⟩
  obtain ⟨a3, c3, rfl⟩ := hrA.is_slice
  have hs67 : Same w6 (w6.alloc (.cells #[.int .i64 ah.kind, .bool ah.b, .bool ah.d.neg, .string ah.d.digits, .int .i64 ah.d.exp, .int .u64 (ah.u : Int), .int .i64 ah.w, .string ah.s, .slice a3 al.length c3] 27)) := (Keep.refl _ _).alloc _
  have hkw7 := (hkw5.trans (Keep.of_same hk6)).trans (Keep.of_same hs67)
  have hbA : (w6.alloc (.cells #[.int .i64 ah.kind, .bool ah.b, .bool ah.d.neg, .string ah.d.digits, .int .i64 ah.d.exp, .int .u64 (ah.u : Int), .int .i64 ah.w, .string ah.s, .slice a3 al.length c3] 27)).heap[w6.heap.size]? = some (.cells #[.int .i64 ah.kind, .bool ah.b, .bool ah.d.neg, .string ah.d.digits, .int .i64 ah.d.exp, .int .u64 (ah.u : Int), .int .i64 ah.w, .string ah.s, .slice a3 al.length c3] 27 (0, 0)) := World.alloc_heap_new w6 _
  have hbR7 := hs67.same _ _ (hk6.same _ _ hbR trivial) trivial
  have hrR7 := (hrR5.same hk6).same hs67
  have hrA7 := hrA.same hs67
  clear n0 n1 n2 n3 n4 n5 n6 n7 n8 hcA hbR hkw5 hb5 hr5 hrR5 hk6 hrA hs67
  obtain ⟨n0, n1, n2, n3, n4, n5, n6, n7, n8⟩ := cells9 hbR7
  go_wp2_with fail
  generalize (w6.alloc (.cells #[.int .i64 ah.kind, .bool ah.b, .bool ah.d.neg, .string ah.d.digits, .int .i64 ah.d.exp, .int .u64 (ah.u : Int), .int .i64 ah.w, .string ah.s, .slice a3 al.length c3] 27)) = w7 at hkw7 hbA hbR7 hrR7 hrA7 n0 n1 n2 n3 n4 n5 n6 n7 n8 ⊢
  refine (hcB _ _ (hG.keep hkw7 fun k hlt _ => by omega) hkw7.size hrR7).mono ?_
  rintro x w8 ⟨lv6, rfl, hokB, hrB, hk8⟩
  obtain ⟨a5, c5, rfl⟩ := hrB.is_slice
  have hs89 : Same w8 (w8.alloc (.cells #[.int .i64 ah.kind, .bool ah.b, .bool ah.d.neg, .string ah.d.digits, .int .i64 ah.d.exp, .int .u64 (ah.u : Int), .int .i64 ah.w, .string ah.s, .slice a5 al.length c5] 27)) := (Keep.refl _ _).alloc _
  have hkw9 := (hkw7.trans (Keep.of_same hk8)).trans (Keep.of_same hs89)
  have hbB9 : (w8.alloc (.cells #[.int .i64 ah.kind, .bool ah.b, .bool ah.d.neg, .string ah.d.digits, .int .i64 ah.d.exp, .int .u64 (ah.u : Int), .int .i64 ah.w, .string ah.s, .slice a5 al.length c5] 27)).heap[w8.heap.size]? = some (.cells #[.int .i64 ah.kind, .bool ah.b, .bool ah.d.neg, .string ah.d.digits, .int .i64 ah.d.exp, .int .u64 (ah.u : Int), .int .i64 ah.w, .string ah.s, .slice a5 al.length c5] 27 (0, 0)) := World.alloc_heap_new w8 _
  have hbA9 := hs89.same _ _ (hk8.same _ _ hbA trivial) trivial
  have hrA9 := (hrA7.same hk8).same hs89
  have hrB9 := hrB.same hs89
  clear n0 n1 n2 n3 n4 n5 n6 n7 n8 hcB hbA hbR7 hkw7 hrA7 hrR7 hk8 hrB hs89
  obtain ⟨n0, n1, n2, n3, n4, n5, n6, n7, n8⟩ := cells9 hbA9
  obtain ⟨m0, m1, m2, m3, m4, m5, m6, m7, m8⟩ := cells9 hbB9
  go_wp2_with fail
  refine (hsm _ _ _ hrA9 hrB9).mono ?_
  rintro x w10 ⟨rfl, hk10⟩
  go_wp2_with fail
  go_ret
  exact ⟨rfl, sameOf3 (hkw9.trans (Keep.of_same hk10))⟩
 ·have hne : ((c : Int) != 0) = true := by simpa using hc0
  obtain ⟨rh, rl⟩ := R
  obtain ⟨a4, c4, rfl⟩ := hrR.is_slice
  simp only [Tree.hd_node, Tree.l_node] at *
  have hkw5 : Keep (fun k _ => k ≠ w.heap.size) w (w4.alloc (.cells #[.int .i64 rh.kind, .bool rh.b, .bool rh.d.neg, .string rh.d.digits, .int .i64 rh.d.exp, .int .u64 (rh.u : Int), .int .i64 rh.w, .string rh.s, .slice a4 rl.length c4] 27)) := hkw4.trans ((Keep.refl _ _).alloc _)
  clear hrR hlaw hcA hsR hc hA hokR fok fle fde' hu hc0
  go_wp2_with fail
  go_ret
  exact ⟨rfl, sameOf3 hkw5⟩
end Go.Tm
