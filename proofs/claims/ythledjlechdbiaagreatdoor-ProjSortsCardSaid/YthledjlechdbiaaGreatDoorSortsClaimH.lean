/-
  Part 8 of what the claim leans on: contracts of the functions that the law reaches, and plain facts of what they compute (joined by wip/merge.py out of the texts named behind each mark). Conditions: the theorems' own.
-/
import Derived.Test.YthledjlechdbiaaGreatDoorSortsClaimG
set_option linter.unusedVariables false
namespace Go.Tm
open Go.RowKit Go.Proofs Go.Sort Go.Shelf
def OrdOut (S : Nat → Prop) (t : Tree) (w : World) : Ending → World → Prop := fun e w' => ∃ lv', e = .returned (nodeV t.hd lv') ∧ RepS S w' t.ord.l lv' ∧ Same w w'
def OrdAt (t : Tree) : Prop := ∀ (S : Nat → Prop) (lv : Value) (w : World), t.hd.ok → RepS S w t.l lv → (∀ k, w.heap.size ≤ k → S k) → Calls Tryz.prog 31 #[nodeV t.hd lv] w (OrdOut S t w)
theorem OwnL.block {S : Nat → Prop} {w : World} {B n c : Nat} {a : Option Addr} {l : List Tree} (h : OwnL S w B (.slice a n c) l) (h0 : 0 < l.length) : ∃ g cur, a = some ⟨g, 0, .none⟩ ∧ B ≤ g ∧ w.heap[g]? = some (.cells cur 27 (0, 0)) := by
 obtain ⟨xs, ⟨hx, ⟨_, h1⟩ | ⟨g, cap, cur, e, hb, hg, _⟩⟩, _⟩ := h
 ·omega
 ·cases e; exact ⟨g, cur, rfl, hb, hg⟩
theorem OwnL.get {S : Nat → Prop} {w : World} {B g n c : Nat} {l : List Tree} (h : OwnL S w B (.slice (some ⟨g, 0, .none⟩) n c) l) (i : Nat) (hi : i < l.length) :
  ∃ lv, (l[i]).hd.ok ∧ RepS (fun b => S b ∧ b ≠ g) w (l[i]).l lv ∧ w.rangeAt g (i * 9) (nodeCs (l[i]).hd lv) := by
 obtain ⟨xs, hrow, hr⟩ := h
 have hcl := hrow.cells (g := g) rfl
 have hg := hr.get i hi
 have hx : l[i] = .node (l[i]).hd (l[i]).l := (Tree.eta _).symm
 rw [hx, rep_node] at hg
 obtain ⟨ho, lv, e, hr2⟩ := hg
 refine ⟨lv, ho, hr2.mono fun b _ hh => ⟨hh.1, fun e => hh.2 (by rw [e]; rfl)⟩, fun j v hj => ?_⟩
 rw [← e] at hj
 have hj9 : j < 9 := by
  have := (List.getElem?_eq_some_iff.1 hj).1
  simp only [List.length_take] at this; omega
 rw [List.getElem?_take_of_lt hj9, List.getElem?_drop] at hj
 have := hcl _ _ hj
 rw [Lib.add_plain] at this
 simpa [Nat.mul_comm] using this
theorem same_two {w a b c : World} {x y : Nat} (h : Same w a) (h1 : Keep (fun k _ => k ≠ x) a b) (h2 : Keep (fun k _ => k ≠ y) b c) (hx : w.heap.size ≤ x) (hy : w.heap.size ≤ y) : Same w c :=
 ⟨h2.os.trans (h1.os.trans h.os), h2.tape.trans (h1.tape.trans h.tape), h2.output.trans (h1.output.trans h.output), Nat.le_trans h.size (Nat.le_trans h1.size h2.size), fun k o hk _ => h2.same k o (h1.same k o (h.same k o hk trivial) (by have := lt_of_some hk; omega)) (by have := lt_of_some hk; omega)⟩
set_option maxRecDepth 100000 in
set_option maxHeartbeats 1000000 in
theorem inOrder_step (h : Hd) (l : List Tree) (ih : ∀ x ∈ l, OrdAt x) (hl40 : l.length ≤ 40) (hoj : OwnJ (.node h l)) : OrdAt (.node h l) := by
 intro S lv w ho hr hS
 simp only [Tree.hd_node, Tree.l_node] at ho hr
 have hord : (Tree.node h l).ord.l = if h.kind = 8 then sortM (pairsM (ordL l)) else ordL l := by rw [Tree.ord]; rfl
 have hkeys := fun h8 => ord_keys (h := h) (l := l) h8 hoj
 unfold OrdOut
 rw [hord]
 simp only [Tree.hd_node]
 have hr0 : RepS (fun x => S x ∧ (x < w.heap.size ∨ w.heap.size + 2 ≤ x)) w l lv := hr.mono fun b hb hh => ⟨hh, .inl hb⟩
 have hS0 : ∀ k, w.heap.size + 2 ≤ k → S k ∧ (k < w.heap.size ∨ w.heap.size + 2 ≤ k) := fun k hk => ⟨hS k (by omega), .inr hk⟩
 obtain ⟨S0, hSS⟩ : ∃ S0 : Nat → Prop, S0 = (fun x => S x ∧ (x < w.heap.size ∨ w.heap.size + 2 ≤ x)) := ⟨_, rfl⟩
 have hSm : ∀ b, S0 b → S b := fun b hb => by rw [hSS] at hb; exact hb.1
 have hSne : ∀ b, S0 b → b ≠ w.heap.size ∧ b ≠ w.heap.size + 1 := fun b hb => by rw [hSS] at hb; have := hb.2; omega
 replace hS0 : ∀ k, w.heap.size + 2 ≤ k → S0 k := fun k hk => by rw [hSS]; exact hS0 k hk
 rw [← hSS] at hr0
 clear hSS hr hoj hord hS
 have hcl := fun W (hs : Same w W) => cloneN_any l S0 lv W (hr0.same hs) (by omega)
 have hz0 := ordTo_zero l
 have hza := ordTo_all l
 have hzl := ordTo_len l
 obtain ⟨a, cap, rfl⟩ := hr0.is_slice
 obtain ⟨n, hn⟩ : ∃ n, l.length = n := ⟨_, rfl⟩
 rw [hn] at hcl hl40 hza hzl ⊢
 have hbn : ((w.alloc (.cells #[.int .i64 h.kind, .bool h.b, .bool h.d.neg, .string h.d.digits, .int .i64 h.d.exp, .int .u64 (h.u : Int), .int .i64 h.w, .string h.s, .slice a n cap] 27)).alloc (.cells #[.int .i64 0, .bool false, .bool false, .string ⟨#[]⟩, .int .i64 0, .int .u64 0, .int .i64 0, .string ⟨#[]⟩, .slice none 0 0] 27)).heap[w.heap.size]? = some (.cells #[.int .i64 h.kind, .bool h.b, .bool h.d.neg, .string h.d.digits, .int .i64 h.d.exp, .int .u64 (h.u : Int), .int .i64 h.w, .string h.s, .slice a n cap] 27 (0, 0)) := heap_old (World.alloc_heap_new w _)
 have hbr : ((w.alloc (.cells #[.int .i64 h.kind, .bool h.b, .bool h.d.neg, .string h.d.digits, .int .i64 h.d.exp, .int .u64 (h.u : Int), .int .i64 h.w, .string h.s, .slice a n cap] 27)).alloc (.cells #[.int .i64 0, .bool false, .bool false, .string ⟨#[]⟩, .int .i64 0, .int .u64 0, .int .i64 0, .string ⟨#[]⟩, .slice none 0 0] 27)).heap[w.heap.size + 1]? = some (.cells #[.int .i64 0, .bool false, .bool false, .string ⟨#[]⟩, .int .i64 0, .int .u64 0, .int .i64 0, .string ⟨#[]⟩, .slice none 0 0] 27 (0, 0)) := heap_new' (by simp)
 have hk1 : Same w ((w.alloc (.cells #[.int .i64 h.kind, .bool h.b, .bool h.d.neg, .string h.d.digits, .int .i64 h.d.exp, .int .u64 (h.u : Int), .int .i64 h.w, .string h.s, .slice a n cap] 27)).alloc (.cells #[.int .i64 0, .bool false, .bool false, .string ⟨#[]⟩, .int .i64 0, .int .u64 0, .int .i64 0, .string ⟨#[]⟩, .slice none 0 0] 27)) := smK
 have hz1 : ((w.alloc (.cells #[.int .i64 h.kind, .bool h.b, .bool h.d.neg, .string h.d.digits, .int .i64 h.d.exp, .int .u64 (h.u : Int), .int .i64 h.w, .string h.s, .slice a n cap] 27)).alloc (.cells #[.int .i64 0, .bool false, .bool false, .string ⟨#[]⟩, .int .i64 0, .int .u64 0, .int .i64 0, .string ⟨#[]⟩, .slice none 0 0] 27)).heap.size = w.heap.size + 2 := by simp
 replace hcl := hcl _ hk1
 clear hr0
 obtain ⟨R, hR⟩ : ∃ R, (if h.kind = 8 then sortM (pairsM (ordL l)) else ordL l) = R := ⟨_, rfl⟩
 rw [hR]
 have HR := Lib.hid hR
 clear hR
 go_enter Tryz.func31, Tryz.ntmps31
 go_wp2_with fail
 refine hcl.mono ?_
 rintro e w3 ⟨v', rfl, hown, hk3⟩
 rw [hz1] at hown
 obtain ⟨va, vc, rfl⟩ := hown.is_slice
 rw [hn] at hown
 have hbn3 := hk3.same _ _ hbn trivial
 have hbr3 := hk3.same _ _ hbr trivial
 have hkw3 := hk1.trans hk3
 have hz3 : w.heap.size + 2 ≤ w3.heap.size := by have := hk3.size; omega
 obtain ⟨n0, n1, n2, n3, n4, n5, n6, n7, n8⟩ := cells9 hbn3
 have hfz : w3.frozen? ⟨w.heap.size, 8, none⟩ = false := Lib.frozen_of_heap hbn3 8
 clear hk3 hk1 hz1 hbn hbr hcl
 have hk4 : Keep (fun b _ => b ≠ w.heap.size) w3 (w3.setCell ⟨w.heap.size, 8, none⟩ (.slice va n vc)) := (Keep.refl _ w3).setCell _ fun o _ hs _ => hs rfl
 have hbn4 : (w3.setCell ⟨w.heap.size, 8, none⟩ (.slice va n vc)).heap[w.heap.size]? = some (.cells #[.int .i64 h.kind, .bool h.b, .bool h.d.neg, .string h.d.digits, .int .i64 h.d.exp, .int .u64 (h.u : Int), .int .i64 h.w, .string h.s, .slice va n vc] 27 (0, 0)) := setCell_heap hbn3 8 (.slice va n vc)
 go_wp2_with fail
 generalize (w3.setCell ⟨w.heap.size, 8, none⟩ (.slice va n vc)) = w4 at hk4 hbn4 ⊢
 have hbr4 := hk4.same _ _ hbr3 (by omega)
 have hkw4 : Same w w4 := ⟨hk4.os.trans hkw3.os, hk4.tape.trans hkw3.tape, hk4.output.trans hkw3.output, Nat.le_trans hkw3.size hk4.size, fun k o hk _ => hk4.same k o (hkw3.same k o hk trivial) (by have := lt_of_some hk; omega)⟩
 have hown4 : OwnL S0 w4 (w.heap.size + 2) (.slice va n vc) l := hown.keep hk4 fun b hb c f => by
  rcases hb with hb | hb
  ·exact (hSne b hb).1
  ·omega
 have hz4 : w.heap.size + 2 ≤ w4.heap.size := Nat.le_trans hz3 hk4.size
 clear hk4 hbn3 hbr3 hkw3 hown n0 n1 n2 n3 n4 n5 n6 n7 n8 hfz hz3
 obtain ⟨n0, n1, n2, n3, n4, n5, n6, n7, n8⟩ := cells9 hbn4
 go_wp2_with fail
 go_loopw [12] (fun iv wr => ∃ k : Nat, k ≤ n ∧ iv = .int .i64 (k : Int) ∧ wr.heap[w.heap.size]? = some (.cells #[.int .i64 h.kind, .bool h.b, .bool h.d.neg, .string h.d.digits, .int .i64 h.d.exp, .int .u64 (h.u : Int), .int .i64 h.w, .string h.s, .slice va n vc] 27 (0, 0)) ∧ wr.heap[w.heap.size + 1]? = some (.cells #[.int .i64 0, .bool false, .bool false, .string ⟨#[]⟩, .int .i64 0, .int .u64 0, .int .i64 0, .string ⟨#[]⟩, .slice none 0 0] 27 (0, 0)) ∧
  OwnL S0 wr (w.heap.size + 2) (.slice va n vc) (ordTo l k) ∧ Same w wr ∧ w.heap.size + 2 ≤ wr.heap.size) (fun iv _ => n - (RowKit.intOf iv).toNat)
 case atStart => exact ⟨0, Nat.zero_le _, rfl, hbn4, hbr4, by rw [hz0]; exact hown4, hkw4, hz4⟩
 case round =>
  obtain ⟨k, hkn, rfl, hb, hz, hown, hsm, hsz⟩ := hrel
  clear n0 n1 n2 n3 n4 n5 n6 n7 n8 hbn4 hbr4 hown4 hkw4 hz4
  by_cases hlt : k < n
  ·have hkl : k < l.length := by omega
   obtain ⟨g, cur, rfl, hBg, hgc⟩ := hown.block (by rw [hzl]; omega)
   have hget := ordTo_get l k hkl
   have hnext := ordTo_next l k hkl
   obtain ⟨xlv, hxo, hxr, hxa⟩ := hown.get k (by rw [hzl]; exact hlt)
   have hihx := ih l[k] (List.getElem_mem hkl)
   rw [hget] at hxo hxr hxa
   have hxh : l[k].ord = .node l[k].hd l[k].ord.l := by rw [← ord_hd]; exact (Tree.eta _).symm
   rw [hxh] at hnext
   obtain ⟨xt, hxt⟩ : ∃ xt, l[k] = xt := ⟨_, rfl⟩
   rw [hxt] at hxo hxr hxa hihx hnext
   obtain ⟨ol, hol⟩ : ∃ ol, xt.ord.l = ol := ⟨_, rfl⟩
   have hcall := fun W (hs : Same wr W) => hihx (fun b => S0 b ∧ b ≠ g) xlv W hxo (hxr.same hs) (fun b hb => ⟨hS0 b (by have := hs.size; omega), by have := hs.size; have := lt_of_some hgc; omega⟩)
   unfold OrdOut at hcall
   rw [hol] at hnext hcall
   obtain ⟨q, xl⟩ := xt
   simp only [Tree.hd_node, Tree.l_node] at hxo hxr hxa hcall hnext
   obtain ⟨xa, xc, rfl⟩ := hxr.is_slice
   have HN := Lib.hid hnext
   obtain ⟨L, hL⟩ : ∃ L, ordTo l k = L := ⟨_, rfl⟩
   have hlL : k < L.length := by rw [← hL, hzl]; exact hlt
   rw [hL] at hown HN
   clear hnext hget hihx hxh hxt hol ih hL hxr
   obtain ⟨c0, c1, c2, c3, c4, c5, c6, c7, c8⟩ := nodeAt_of hxa
   go_wp2_with fail
   have hbx5 : (wr.alloc (.cells #[.int .i64 q.kind, .bool q.b, .bool q.d.neg, .string q.d.digits, .int .i64 q.d.exp, .int .u64 (q.u : Int), .int .i64 q.w, .string q.s, .slice xa xl.length xc] 27)).heap[wr.heap.size]? = some (.cells #[.int .i64 q.kind, .bool q.b, .bool q.d.neg, .string q.d.digits, .int .i64 q.d.exp, .int .u64 (q.u : Int), .int .i64 q.w, .string q.s, .slice xa xl.length xc] 27 (0, 0)) := World.alloc_heap_new wr _
   have hk5 : Same wr (wr.alloc (.cells #[.int .i64 q.kind, .bool q.b, .bool q.d.neg, .string q.d.digits, .int .i64 q.d.exp, .int .u64 (q.u : Int), .int .i64 q.w, .string q.s, .slice xa xl.length xc] 27)) := (Keep.refl _ _).alloc _
   have hz5 : (wr.alloc (.cells #[.int .i64 q.kind, .bool q.b, .bool q.d.neg, .string q.d.digits, .int .i64 q.d.exp, .int .u64 (q.u : Int), .int .i64 q.w, .string q.s, .slice xa xl.length xc] 27)).heap.size = wr.heap.size + 1 := by simp
   generalize (wr.alloc (.cells #[.int .i64 q.kind, .bool q.b, .bool q.d.neg, .string q.d.digits, .int .i64 q.d.exp, .int .u64 (q.u : Int), .int .i64 q.w, .string q.s, .slice xa xl.length xc] 27)) = W5 at hbx5 hk5 hz5 ⊢
   have hb5 := hk5.same _ _ hb trivial
   have hzr5 := hk5.same _ _ hz trivial
   have hown5 := hown.same hk5
   have hsm5 := hsm.trans hk5
   clear c0 c1 c2 c3 c4 c5 c6 c7 c8 hxa hb hz hown
   obtain ⟨n0, n1, n2, n3, n4, n5, n6, n7, n8⟩ := cells9 hb5
   obtain ⟨m0, m1, m2, m3, m4, m5, m6, m7, m8⟩ := cells9 hbx5
   refine (wpIn_wide (n := 0)).1 ?_
   refine wpIn_region_tailA (n := 0) (fun Z => Z.heap[w.heap.size]? = some (.cells #[.int .i64 h.kind, .bool h.b, .bool h.d.neg, .string h.d.digits, .int .i64 h.d.exp, .int .u64 (h.u : Int), .int .i64 h.w, .string h.s, .slice (some ⟨g, 0, none⟩) n vc] 27 (0, 0)) ∧ Z.heap[wr.heap.size]? = some (.cells #[.int .i64 q.kind, .bool q.b, .bool q.d.neg, .string q.d.digits, .int .i64 q.d.exp, .int .u64 (q.u : Int), .int .i64 q.w, .string q.s, .slice xa xl.length xc] 27 (0, 0))) reads (fun _ => trivial) rfl (by kernel_rfl) rfl (by kernel_rfl) (by kernel_rfl) ⟨hb5, hbx5⟩ ?_
   simp only [initL]
   iterate 4 (refine shT_x rfl rfl ?_; intro K hK w' hs; obtain ⟨q0, q1, q2, q3, q4, q5, q6, q7, q8⟩ := cells9 hs.1; obtain ⟨p0, p1, p2, p3, p4, p5, p6, p7, p8⟩ := cells9 hs.2; go_simp; refine hK _ _ ?_; clear hK K p0 p1 p2 p3 p4 p5 p6 p7 p8 q0 q1 q2 q3 q4 q5 q6 q7 q8 hs w')
   refine shT_c rfl rfl ?_
   intro K hK
   go_simp
   refine (callsW (hcall _ (hk5.trans smK))).mono ?_
   rintro x' w6 ⟨lv6, rfl, hr6, hk6⟩
   have hk56 : Same W5 w6 := ⟨hk6.os, hk6.tape, hk6.output, hk6.size, hk6.same⟩
   have hb6 := hk56.same _ _ hb5 trivial
   have hbx6 := hk56.same _ _ hbx5 trivial
   have hzr6 := hk56.same _ _ hzr5 trivial
   have hown6 := hown5.same hk56
   have hsm6 := hsm5.trans hk56
   have hz6 : W5.heap.size ≤ w6.heap.size := hk56.size
   obtain ⟨a6, cc6, rfl⟩ := hr6.is_slice
   refine hK _ _ ⟨hb6, hbx6⟩ ?_
   clear hK K hcall hb5 hbx5 hzr5 hown5 hsm5 hk6 hk56 n0 n1 n2 n3 n4 n5 n6 n7 n8 m0 m1 m2 m3 m4 m5 m6 m7 m8
   refine shT_x rfl rfl ?_; intro K hK w' hs; obtain ⟨q0, q1, q2, q3, q4, q5, q6, q7, q8⟩ := cells9 hs.1; obtain ⟨p0, p1, p2, p3, p4, p5, p6, p7, p8⟩ := cells9 hs.2; go_simp; refine hK _ _ ?_; clear hK K p0 p1 p2 p3 p4 p5 p6 p7 p8 q0 q1 q2 q3 q4 q5 q6 q7 q8 hs w'
   refine shT_tail (tail_last rfl ?_)
   obtain ⟨g', cur6, e6, _, hgc6⟩ := hown6.block (by omega)
   cases e6
   have hfz : ∀ j, w6.frozen? ⟨g, j, none⟩ = false := Lib.frozen_of_heap hgc6
   obtain ⟨ylv, _, _, hya⟩ := hown6.get k hlL
   obtain ⟨c0, c1, c2, c3, c4, c5, c6, c7, c8⟩ := nodeAt_of hya
   go_simp
   have hset := hown6.set k hlL q ol (.slice a6 ol.length cc6) hxo hr6
   rw [Nat.mul_comm 9 k] at hset
   have hk67 := set9_keep w6 g (k * 9) (.int .i64 q.kind) (.bool q.b) (.bool q.d.neg) (.string q.d.digits) (.int .i64 q.d.exp) (.int .u64 q.u) (.int .i64 q.w) (.string q.s) (.slice a6 ol.length cc6)
   rw [HN.out] at hset
   obtain ⟨w7, hw7⟩ : ∃ w7, World.set9 w6 g (k * 9) (.int .i64 q.kind) (.bool q.b) (.bool q.d.neg) (.string q.d.digits) (.int .i64 q.d.exp) (.int .u64 q.u) (.int .i64 q.w) (.string q.s) (.slice a6 ol.length cc6) = w7 := ⟨_, rfl⟩
   rw [hw7] at hset hk67
   unfold World.set9 at hw7
   rw [hw7]
   have hb7 := hk67.same _ _ hb6 (by omega)
   have hzr7 := hk67.same _ _ hzr6 (by omega)
   have hsm7 : Same w w7 := ⟨hk67.os.trans hsm6.os, hk67.tape.trans hsm6.tape, hk67.output.trans hsm6.output, Nat.le_trans hsm6.size hk67.size, fun y o hy _ => hk67.same y o (hsm6.same y o hy trivial) (by have := lt_of_some hy; omega)⟩
   have hz7 := hk67.size
   clear hw7 c0 c1 c2 c3 c4 c5 c6 c7 c8 hya hfz hgc6 hown6 hsm6 hr6 hzr6 hb6 hbx6 hk67
   go_wp2
   refine ⟨?_, by simp [RowKit.intOf]; omega⟩
   exact ⟨k + 1, by omega, by go_num, hb7, hzr7, hset, hsm7, by omega⟩
  ·obtain rfl : k = n := by omega
   rw [hza] at hown
   have hln : (ordL l).length = k := by rw [ordL_len, hn]
   obtain ⟨n0, n1, n2, n3, n4, n5, n6, n7, n8⟩ := cells9 hb
   by_cases h8 : h.kind = 8
   ·obtain ⟨hkt, hdis⟩ := hkeys h8
    have hR8 : R = sortM (pairsM (ordL l)) := by rw [← HR.out, if_pos h8]
    have hrepL := hown.rep hS0 (by omega)
    have hks : ∀ x ∈ ordL l, x.hd.s.size ≤ 1099511627776 := fun x hx => by
     obtain ⟨i, hi, rfl⟩ := List.getElem_of_mem hx
     obtain ⟨_, _, _, _, _, hsh⟩ := hrepL.shape
     obtain ⟨_, _, _, _, _, _, _, hok, _⟩ := hsh i hi
     exact hok.2.2.2.2.2
    obtain ⟨OL, hOL⟩ : ∃ OL, ordL l = OL := ⟨_, rfl⟩
    rw [hOL] at hkt hdis hrepL hks hln hR8
    have HR8 := Lib.hid hR8
    clear hR8 HR
    have hcol := fun W bx hr hb => collect_any S0 OL (.slice va k vc) bx W hr hb (by omega) hkt hks
    have h8b : (h.kind == 8) = true := by simpa using h8
    have hfz : wr.frozen? ⟨w.heap.size, 8, none⟩ = false := Lib.frozen_of_heap hb 8
    have hz2 : Same wr (wr.alloc (.cells #[.slice va k vc] 25)) := (Keep.refl _ _).alloc _
    have hcol2 := hcol _ wr.heap.size (hrepL.same hz2) (World.alloc_heap_new wr _)
    clear hkeys ih hza hown hcol hkt hks h8
    go_wp2_with (go_at_call 45; refine (members_any _ _ _ _).mono ?_; rintro e w' ⟨rfl, h9⟩; replace h9 := h9.symm; subst h9)
    refine hcol2.mono ?_
    rintro e w8 ⟨ms, mv, rfl, hms, hgood, hrow, hk8⟩
    have hkr8 := hz2.trans hk8
    have hb8 := hkr8.same _ _ hb trivial
    have hzr8 := hkr8.same _ _ hz trivial
    have hmlen : ms.length ≤ 20 := by
     have := congrArg List.length hms
     rw [List.length_map, pairsM_len, hln] at this
     omega
    rw [← hms] at hdis
    have hsor := sorted_any S0 ms mv _ w8 hrow hmlen hgood hdis (fun b hb => hS0 b (by have := hkr8.size; omega))
    obtain ⟨ma, mn, mc, rfl⟩ : ∃ a n c, mv = .slice a n c := by
     rcases hrow.2 with ⟨rfl, _⟩ | ⟨g, cap, cur, rfl, _⟩
     ·exact ⟨_, _, _, rfl⟩
     ·exact ⟨_, _, _, rfl⟩
    clear hcol2 hrow hgood hdis n0 n1 n2 n3 n4 n5 n6 n7 n8 hz2 hfz hrepL
    go_wp2_with fail
    refine hsor.mono ?_
    rintro e w9 ⟨v9, rfl, hr9, hk9⟩
    obtain ⟨a9, c9, rfl⟩ := hr9.is_slice
    have hkr9 := hkr8.trans hk9
    have hb9 := hk9.same _ _ hb8 trivial
    have hzr9 := hk9.same _ _ hzr8 trivial
    have hsm9 := hsm.trans hkr9
    clear hsor hk9 hb8 hzr8 hkr8 hkr9 hk8
    obtain ⟨L9, hL9⟩ : ∃ L9, (sortM (ms.map Mem.pair)).length = L9 := ⟨_, rfl⟩
    rw [hL9] at hr9 ⊢
    rw [hms] at hr9
    rw [← HR8.out] at hr9
    clear HR8 hms hL9
    obtain ⟨n0, n1, n2, n3, n4, n5, n6, n7, n8⟩ := cells9 hb9
    have hfn : ∀ j, w9.frozen? ⟨w.heap.size, j, none⟩ = false := Lib.frozen_of_heap hb9
    have hkA : Keep (fun b _ => b ≠ w.heap.size) w9 (w9.setCell ⟨w.heap.size, 8, none⟩ (.slice a9 L9 c9)) := (Keep.refl _ w9).setCell _ fun o _ hs _ => hs rfl
    have hbA : (w9.setCell ⟨w.heap.size, 8, none⟩ (.slice a9 L9 c9)).heap[w.heap.size]? = some (.cells #[.int .i64 h.kind, .bool h.b, .bool h.d.neg, .string h.d.digits, .int .i64 h.d.exp, .int .u64 (h.u : Int), .int .i64 h.w, .string h.s, .slice a9 L9 c9] 27 (0, 0)) := setCell_heap hb9 8 (.slice a9 L9 c9)
    have hzA := hkA.same _ _ hzr9 (by omega)
    obtain ⟨d0, d1, d2, d3, d4, d5, d6, d7, d8⟩ := cells9 hbA
    obtain ⟨q0, q1, q2, q3, q4, q5, q6, q7, q8⟩ := cells9 hzA
    have hfz : ∀ j, (w9.setCell ⟨w.heap.size, 8, none⟩ (.slice a9 L9 c9)).frozen? ⟨w.heap.size + 1, j, none⟩ = false := Lib.frozen_of_heap hzA
    go_wp2_with fail
    (try simp only [Exit.inBlock, Exit.then])
    generalize (w9.setCell ⟨w.heap.size, 8, none⟩ (.slice a9 L9 c9)) = wA at hkA hbA hzA ⊢
    obtain ⟨h9, hkB⟩ := put9 hzA (.int .i64 h.kind) (.bool h.b) (.bool h.d.neg) (.string h.d.digits) (.int .i64 h.d.exp) (.int .u64 h.u) (.int .i64 h.w) (.string h.s) (.slice a9 L9 c9)
    have hfin := ((hr9.keep hkA fun y hy _ _ => (hSne y hy).1).keep hkB fun y hy _ _ => (hSne y hy).2).mono fun y _ hy => hSm y hy
    have hsB := same_two hsm9 hkA hkB (by omega) (by omega)
    refine bodyPost_ret (results_cell_row rfl _ _ (w.heap.size + 1) 27 _ (0, 0) _ rfl h9 Tryz.underlying27 rfl (by kernel_rfl)) rfl ⟨_, rfl, ?_, ?_⟩
    ·exact hfin
    ·exact hsB
   ·have hR8 : R = ordL l := by rw [← HR.out, if_neg h8]
    have HR8 := Lib.hid hR8
    have h8b : (h.kind == 8) = false := by simpa using h8
    obtain ⟨q0, q1, q2, q3, q4, q5, q6, q7, q8⟩ := cells9 hz
    have hfz : ∀ j, wr.frozen? ⟨w.heap.size + 1, j, none⟩ = false := Lib.frozen_of_heap hz
    have hrepL := hown.rep hS0 (by omega)
    clear hR8 HR ih hkeys hza hown
    go_wp2_with fail
    (try simp only [Exit.inBlock, Exit.then])
    obtain ⟨h9, hk9⟩ := put9 hz (.int .i64 h.kind) (.bool h.b) (.bool h.d.neg) (.string h.d.digits) (.int .i64 h.d.exp) (.int .u64 h.u) (.int .i64 h.w) (.string h.s) (.slice va k vc)
    refine bodyPost_ret (results_cell_row rfl _ _ (w.heap.size + 1) 27 _ (0, 0) _ rfl h9 Tryz.underlying27 rfl (by kernel_rfl)) rfl ⟨_, rfl, ?_, ?_⟩
    ·rw [HR8.out]; exact (hrepL.keep hk9 fun y hy _ _ => (hSne y hy).2).mono fun y _ hy => hSm y hy
    ·exact ⟨hk9.os.trans hsm.os, hk9.tape.trans hsm.tape, hk9.output.trans hsm.output, Nat.le_trans hsm.size hk9.size, fun y o hy _ => hk9.same y o (hsm.same y o hy trivial) (by have := lt_of_some hy; omega)⟩
end Go.Tm
namespace Go.Tm
open Go.RowKit Go.Proofs
def sortTM (t : Tree) : Tree × Int := if checkT t 1 ≠ 0 then (.node (bareHd 0) [], checkT t 1) else (t.ord, 0)
def isCommonM (t : Tree) : Bool := decide ((sortTM t).2 = 0) && (sortTM t).1.same t
theorem common_res' (T : Array Value) (W : World) (bx : Nat) (h : Hd) (lv : Value) (e : Int) (h2 : T.getD 2 undef = .pointer (some ⟨bx, 0, none⟩)) (h3 : T.getD 3 undef = .int .i64 e)
  (hrow : W.heap[bx]? = some (.cells #[.int .i64 h.kind, .bool h.b, .bool h.d.neg, .string h.d.digits, .int .i64 h.d.exp, .int .u64 (h.u : Int), .int .i64 h.w, .string h.s, lv] 27 (0, 0))) : (results Tryz.f18 T).run Tryz.prog W = .ok (.tuple #[nodeV h lv, .int .i64 e]) W := by
 have hld := run_loadVar_row (P := Tryz.prog) W bx 27 27 _ (0, 0) _ hrow Tryz.underlying27 rfl (by kernel_rfl)
 rw [results_cell_tmp rfl, h2, h3]
 simp [asAddr, hld, Result.andThen]
theorem inOrder_any : ∀ t : Tree, OwnJ t → (∀ x ∈ t.flat, x.l.length ≤ 40) → OrdAt t := by
 refine Tree.ind fun h l ih ho hl => ?_
 refine inOrder_step h l (fun x hx => ih x hx (ownJ_kid ho hx) fun y hy => ?_) ?_ ho
 ·exact ((flat_all (fun x => x.l.length ≤ 40) (.node h l)).1 hl).2 x hx y hy
 ·exact ((flat_all (fun x => x.l.length ≤ 40) (.node h l)).1 hl).1
set_option maxRecDepth 100000 in
set_option maxHeartbeats 4000000 in
theorem sort_any {N : Nat} {E : Errs} (t : Tree) (S : Nat → Prop) (lv : Value) (w : World) (hG : Glob N E w) (hdep : t.depth ≤ 1000000) (ho : t.hd.ok) (hr : RepS S w t.l lv) (hS : ∀ k, w.heap.size ≤ k → S k) (hl : ∀ x ∈ t.flat, x.l.length ≤ 40) :
  Calls Tryz.prog 18 #[nodeV t.hd lv] w (OutC S (sortTM t) w) := by
 have hchk := fun W (hs : Same w W) => check_any (N := N) (E := E) 1 t lv W (hG.same hs) (by omega) ((hr.same hs).mono fun _ _ _ => trivial) ho
 obtain ⟨q, hq⟩ : ∃ q, checkT t 1 = q := ⟨_, rfl⟩
 have hrun := fun (hq0 : q = 0) W (hs : Same w W) => inOrder_any t (check_all (hq.trans hq0)) hl (fun k => S k ∧ k ≠ w.heap.size + 1) lv W ho ((hr.mono (fun k hk h => (⟨h, by omega⟩ : _ ∧ _))).same hs)
 have hsm : sortTM t = if q ≠ 0 then (.node (bareHd 0) [], q) else (t.ord, 0) := by unfold sortTM; rw [hq]
 obtain ⟨R, hR⟩ : ∃ R, sortTM t = R := ⟨_, rfl⟩
 rw [hR]
 have HR := Lib.hid (hR.symm.trans hsm)
 rw [hq] at hchk
 have hoh := ord_hd t
 obtain ⟨⟨h', l'⟩, hP⟩ : ∃ t', t.ord = t' := ⟨_, rfl⟩
 unfold OrdOut at hrun
 rw [hP] at hrun hoh HR
 obtain ⟨h, l⟩ := t
 obtain ⟨a, cap, rfl⟩ := hr.is_slice
 simp only [Tree.hd_node, Tree.l_node] at *
 replace hoh := hoh.symm
 subst hoh
 have hb1 : ((w.alloc (.cells #[.int .i64 h.kind, .bool h.b, .bool h.d.neg, .string h.d.digits, .int .i64 h.d.exp, .int .u64 (h.u : Int), .int .i64 h.w, .string h.s, .slice a l.length cap] 27)).alloc (.cells #[.int .i64 0, .bool false, .bool false, .string ⟨#[]⟩, .int .i64 0, .int .u64 0, .int .i64 0, .string ⟨#[]⟩, .slice none 0 0] 27)).heap[w.heap.size + 1]? = some (.cells #[.int .i64 0, .bool false, .bool false, .string ⟨#[]⟩, .int .i64 0, .int .u64 0, .int .i64 0, .string ⟨#[]⟩, .slice none 0 0] 27 (0, 0)) := heap_new' (by simp)
 have hb0 : ((w.alloc (.cells #[.int .i64 h.kind, .bool h.b, .bool h.d.neg, .string h.d.digits, .int .i64 h.d.exp, .int .u64 (h.u : Int), .int .i64 h.w, .string h.s, .slice a l.length cap] 27)).alloc (.cells #[.int .i64 0, .bool false, .bool false, .string ⟨#[]⟩, .int .i64 0, .int .u64 0, .int .i64 0, .string ⟨#[]⟩, .slice none 0 0] 27)).heap[w.heap.size]? = some (.cells #[.int .i64 h.kind, .bool h.b, .bool h.d.neg, .string h.d.digits, .int .i64 h.d.exp, .int .u64 (h.u : Int), .int .i64 h.w, .string h.s, .slice a l.length cap] 27 (0, 0)) := heap_old (World.alloc_heap_new w _)
 have hk0 : Same w ((w.alloc (.cells #[.int .i64 h.kind, .bool h.b, .bool h.d.neg, .string h.d.digits, .int .i64 h.d.exp, .int .u64 (h.u : Int), .int .i64 h.w, .string h.s, .slice a l.length cap] 27)).alloc (.cells #[.int .i64 0, .bool false, .bool false, .string ⟨#[]⟩, .int .i64 0, .int .u64 0, .int .i64 0, .string ⟨#[]⟩, .slice none 0 0] 27)) := smK
 have hz0 : ((w.alloc (.cells #[.int .i64 h.kind, .bool h.b, .bool h.d.neg, .string h.d.digits, .int .i64 h.d.exp, .int .u64 (h.u : Int), .int .i64 h.w, .string h.s, .slice a l.length cap] 27)).alloc (.cells #[.int .i64 0, .bool false, .bool false, .string ⟨#[]⟩, .int .i64 0, .int .u64 0, .int .i64 0, .string ⟨#[]⟩, .slice none 0 0] 27)).heap.size = w.heap.size + 2 := by simp
 obtain ⟨n0, n1, n2, n3, n4, n5, n6, n7, n8⟩ := cells9 hb0
 unfold OutC
 clear hq hsm hP hr hR
 go_enter Tryz.func18, Tryz.ntmps18
 go_wp2_with fail
 refine (hchk _ hk0).mono ?_
 rintro x w1 ⟨rfl, hk1⟩
 have hb11 := hk1.same _ _ hb1 trivial
 have hb01 := hk1.same _ _ hb0 trivial
 have hkw1 := hk0.trans hk1
 have hzw := hk1.size
 rw [hz0] at hzw
 clear hk1 hb1 hb0 hk0 hz0 hchk n0 n1 n2 n3 n4 n5 n6 n7 n8
 by_cases hq0 : q = 0
 ·replace hrun := hrun hq0
  subst hq0
  have hR0 : R = (.node h l', 0) := by rw [HR.out, if_neg (fun e => e rfl)]
  have HR0 := Lib.hid hR0
  clear hR0 HR
  obtain ⟨n0, n1, n2, n3, n4, n5, n6, n7, n8⟩ := cells9 hb01
  go_wp2_with fail
  refine (hrun w1 hkw1 (fun k hk => ⟨hS k (by omega), by omega⟩)).mono ?_
  rintro x w2 ⟨lv', rfl, hr2, hk2⟩
  obtain ⟨ra, rc, rfl⟩ := hr2.is_slice
  have hb12 := hk2.same _ _ hb11 trivial
  have hkw2 := hkw1.trans hk2
  clear n0 n1 n2 n3 n4 n5 n6 n7 n8 hrun
  obtain ⟨n0, n1, n2, n3, n4, n5, n6, n7, n8⟩ := cells9 hb12
  have hfz : ∀ j, w2.frozen? ⟨w.heap.size + 1, j, none⟩ = false := Lib.frozen_of_heap hb12
  go_wp2_with fail
  (try simp only [Exit.inBlock, Exit.then])
  obtain ⟨h9, hk9⟩ := put9 hb12 (.int .i64 h.kind) (.bool h.b) (.bool h.d.neg) (.string h.d.digits) (.int .i64 h.d.exp) (.int .u64 h.u) (.int .i64 h.w) (.string h.s) (.slice ra l'.length rc)
  refine bodyPost_ret (common_res' _ _ (w.heap.size + 1) h (.slice ra l'.length rc) 0 rfl rfl h9) rfl ⟨_, by rw [HR0.out]; rfl, by rw [HR0.out]; exact ho, ?_, ?_⟩
  ·rw [HR0.out]
   exact (hr2.keep hk9 fun y hy _ _ => hy.2).mono fun _ _ h => h.1
  ·exact ⟨hk9.os.trans hkw2.os, hk9.tape.trans hkw2.tape, hk9.output.trans hkw2.output, Nat.le_trans hkw2.size hk9.size, fun k o hk _ => hk9.same k o (hkw2.same k o hk trivial) (by have := lt_of_some hk; omega)⟩
 ·have hR0 : R = (.node (bareHd 0) [], q) := by rw [HR.out, if_pos hq0]
  have HR0 := Lib.hid hR0
  clear hR0 HR
  have hqb : ((q : Int) != 0) = true := by simpa using hq0
  clear hrun
  obtain ⟨n0, n1, n2, n3, n4, n5, n6, n7, n8⟩ := cells9 hb11
  have hfz : ∀ j, w1.frozen? ⟨w.heap.size + 1, j, none⟩ = false := Lib.frozen_of_heap hb11
  go_wp2_with fail
  (try simp only [Exit.inBlock, Exit.then])
  obtain ⟨h9, hk9⟩ := put9 hb11 (.int .i64 0) (.bool false) (.bool false) (.string ⟨#[]⟩) (.int .i64 0) (.int .u64 0) (.int .i64 0) (.string ⟨#[]⟩) (.slice none 0 0)
  refine bodyPost_ret (common_res' _ _ (w.heap.size + 1) (bareHd 0) (.slice none 0 0) q rfl rfl h9) rfl ⟨.slice none 0 0, by rw [HR0.out]; rfl, by rw [HR0.out]; exact bare_ok 0 (by decide), by rw [HR0.out]; exact RepS.nil _ _, ?_⟩
  exact ⟨hk9.os.trans hkw1.os, hk9.tape.trans hkw1.tape, hk9.output.trans hkw1.output, Nat.le_trans hkw1.size hk9.size, fun k o hk _ => hk9.same k o (hkw1.same k o hk trivial) (by have := lt_of_some hk; omega)⟩
set_option maxRecDepth 100000 in
set_option maxHeartbeats 4000000 in
theorem isCommon_any {N : Nat} {E : Errs} (t : Tree) (S : Nat → Prop) (lv : Value) (w : World) (hG : Glob N E w) (hdep : t.depth ≤ 1000000) (ho : t.hd.ok) (hr : RepS S w t.l lv) (hS : ∀ k, w.heap.size ≤ k → S k) (hl : ∀ x ∈ t.flat, x.l.length ≤ 40) :
  Calls Tryz.prog 20 #[nodeV t.hd lv] w fun e w' => e = .returned (.bool (isCommonM t)) ∧ Same w w' := by
 have hst := fun W (hs : Same w W) => sort_any t S lv W (hG.same hs) hdep ho (hr.same hs) (fun k hk => hS k (Nat.le_trans hs.size hk)) hl
 unfold isCommonM
 obtain ⟨⟨⟨h', l'⟩, q⟩, hq⟩ : ∃ r, sortTM t = r := ⟨_, rfl⟩
 rw [hq] at hst ⊢
 unfold OutC at hst
 simp only [Tree.hd_node, Tree.l_node] at hst
 have hsame := fun W lv' h1 (hs : Same w W) => same_any (.node h' l') t S lv' lv W h1 (hr.same hs)
 obtain ⟨b, hb⟩ : ∃ b, (Tree.node h' l').same t = b := ⟨_, rfl⟩
 rw [hb] at hsame ⊢
 obtain ⟨a, cap, rfl⟩ := hr.is_slice
 obtain ⟨h, l⟩ := t
 simp only [Tree.hd_node, Tree.l_node] at *
 have hb0 : (w.alloc (.cells #[.int .i64 h.kind, .bool h.b, .bool h.d.neg, .string h.d.digits, .int .i64 h.d.exp, .int .u64 (h.u : Int), .int .i64 h.w, .string h.s, .slice a l.length cap] 27)).heap[w.heap.size]? = some (.cells #[.int .i64 h.kind, .bool h.b, .bool h.d.neg, .string h.d.digits, .int .i64 h.d.exp, .int .u64 (h.u : Int), .int .i64 h.w, .string h.s, .slice a l.length cap] 27 (0, 0)) := World.alloc_heap_new w _
 have hk0 : Same w (w.alloc (.cells #[.int .i64 h.kind, .bool h.b, .bool h.d.neg, .string h.d.digits, .int .i64 h.d.exp, .int .u64 (h.u : Int), .int .i64 h.w, .string h.s, .slice a l.length cap] 27)) := smK
 obtain ⟨n0, n1, n2, n3, n4, n5, n6, n7, n8⟩ := cells9 hb0
 clear hq hb
 go_enter Tryz.func20, Tryz.ntmps20
 go_wp2_with fail
 refine (hst _ hk0).mono ?_
 rintro x w1 ⟨lv', rfl, hok', hr', hk1⟩
 obtain ⟨a', cap', rfl⟩ := hr'.is_slice
 have hb01 := hk1.same _ _ hb0 trivial
 have hkw1 := hk0.trans hk1
 have hz1 := hk1.size
 clear hk1 hb0 hk0 hst n0 n1 n2 n3 n4 n5 n6 n7 n8
 by_cases hq0 : q = 0
 ·subst hq0
  have hk2 : Same w1 (w1.alloc (.cells #[.int .i64 h'.kind, .bool h'.b, .bool h'.d.neg, .string h'.d.digits, .int .i64 h'.d.exp, .int .u64 (h'.u : Int), .int .i64 h'.w, .string h'.s, .slice a' l'.length cap'] 27)) := (Keep.refl _ _).alloc _
  obtain ⟨n0, n1, n2, n3, n4, n5, n6, n7, n8⟩ := cells9 (hk2.same _ _ hb01 trivial)
  have hcall := hsame _ _ (hr'.same hk2) (hkw1.trans hk2)
  have hkw2 := hkw1.trans hk2
  clear hsame hk2
  go_wp2_with fail
  refine hcall.mono ?_
  rintro x w3 ⟨rfl, hk3⟩
  clear n0 n1 n2 n3 n4 n5 n6 n7 n8 hcall
  go_wp2_with fail
  go_ret
  exact ⟨by cases b <;> rfl, hkw2.trans hk3⟩
 ·have hqb : ((q : Int) == 0) = false := by simpa using hq0
  clear hsame
  go_wp2_with fail
  go_ret
  refine ⟨?_, smK⟩
  simp [hq0]
end Go.Tm
namespace Go.Tm
open Go.RowKit Go.Proofs Go.Sort
theorem ord_pairs {h : Hd} {l : List Tree} (h8 : h.kind = 8) (ho : OwnJ (.node h l)) : ∃ qs : List (Tree × Tree), ordL l = unpairs qs ∧ 2 * qs.length = l.length ∧ unpairs (sortP qs) = sortM (pairsM (ordL l)) := by
 have hok := ord_keys h8 ho
 obtain ⟨o1, f1⟩ := ownJ_self ho
 have ho8 : l.length % 2 = 0 := by
  have e : ownT (.node h l) = (decide (h = bareHd 8) && decide (l.length % 2 = 0) && !isTwice (keysOf l)) := by
   unfold ownT
   simp only [Tree.hd_node, Tree.l_node, h8]
   rfl
  rw [e, Bool.and_eq_true, Bool.and_eq_true, Bool.not_eq_true'] at o1
  exact of_decide_eq_true o1.1.2
 have hf8 : (keysOf l).all (isKeyT 1) = true := by
  have e : fitsT 1 (.node h l) = (true && (keysOf l).all (isKeyT 1)) := by
   unfold fitsT
   simp only [Tree.hd_node, Tree.l_node, h8]
   rfl
  rw [e, Bool.true_and] at f1
  exact f1
 obtain ⟨ps, rfl⟩ := even_pairs l ho8
 have hkid : ∀ p ∈ ps, OwnJ p.1 := fun p hp => ownJ_kid ho (mem_unpairs.2 ⟨p, hp, .inl rfl⟩)
 rw [keys_unpairs] at hf8
 have hkt : ∀ p ∈ ps, p.1.hd = textHd p.1.hd.s ∧ p.1.l = [] := fun p hp => by
  have hk := List.all_eq_true.1 hf8 p.1 (List.mem_map.2 ⟨p, hp, rfl⟩)
  rw [isKey1] at hk
  exact text_node (of_decide_eq_true hk) (ownJ_self (hkid p hp)).1
 refine ⟨ps.map fun p => (p.1.ord, p.2.ord), ordL_unpairs ps, by rw [List.length_map, unpairs_len], ?_⟩
 rw [ordL_unpairs] at hok ⊢
 rw [pairsM_unpairs] at hok ⊢
 refine sortP_eq (fun p hp => ?_) hok.2
 obtain ⟨p', hp', rfl⟩ := List.mem_map.1 hp
 have e : p'.1.ord = .node (textHd p'.1.hd.s) [] := by
  rw [← Tree.eta p'.1, (hkt p' hp').2, ord_leaf, (hkt p' hp').1]; rfl
 simp only
 rw [e]; rfl
def RefOrdOut (t : Tree) (w : World) (e : Ending) (w' : World) : Prop := ∃ lv', e = .returned (nodeV t.hd lv') ∧ RepS (fun b => w.heap.size ≤ b) w' t.ord.l lv' ∧ Same w w'
def RefOrdAt (t : Tree) : Prop := ∀ (S : Nat → Prop) (lv : Value) (w : World), t.hd.ok → RepS S w t.l lv → Calls Tryz.prog 33 #[nodeV t.hd lv] w (RefOrdOut t w)
def ordsTo (l : List Tree) (k : Nat) : List Tree := ordL (l.take k)
theorem ordsTo_succ (l : List Tree) (k : Nat) (h : k < l.length) : ordsTo l (k + 1) = ordsTo l k ++ [(l[k]).ord] := by
 unfold ordsTo
 rw [List.take_add_one, List.getElem?_eq_getElem h, ordL_map, ordL_map, List.map_append]
 rfl
set_option maxRecDepth 100000 in
set_option maxHeartbeats 1000000 in
theorem refOrd_plain (h : Hd) (l : List Tree) (ih : ∀ x ∈ l, RefOrdAt x) (hl40 : l.length ≤ 40) (h8 : ¬ h.kind = 8) : RefOrdAt (.node h l) := by
 intro S lv w ho hrs
 simp only [Tree.l_node, Tree.hd_node] at hrs ho ⊢
 obtain ⟨_, a, cap, rfl, hcap, hget⟩ := hrs.shape
 clear hrs
 have IH := Lib.hid ih
 clear ih
 have k8 : (h.kind == 8) = false := by simpa using h8
 have HK8 := Lib.hid h8
 clear h8
 go_enter Tryz.func33, Tryz.ntmps33
 go_wp2
 have hb0 : ((w.alloc (.cells #[.int .i64 h.kind, .bool h.b, .bool h.d.neg, .string h.d.digits, .int .i64 h.d.exp, .int .u64 (h.u : Int), .int .i64 h.w, .string h.s, .slice a l.length cap] 27)).alloc (.cells #[.int .i64 0, .bool false, .bool false, .string ⟨#[]⟩, .int .i64 0, .int .u64 0, .int .i64 0, .string ⟨#[]⟩, .slice none 0 0] 27)).heap[w.heap.size]? = some (.cells #[.int .i64 h.kind, .bool h.b, .bool h.d.neg, .string h.d.digits, .int .i64 h.d.exp, .int .u64 (h.u : Int), .int .i64 h.w, .string h.s, .slice a l.length cap] 27 (0, 0)) := (by repeat (first | with_reducible exact heap_new' (by simp) | with_reducible refine heap_old ?_ | with_reducible refine heap_drew ?_))
 have hr0 : ((w.alloc (.cells #[.int .i64 h.kind, .bool h.b, .bool h.d.neg, .string h.d.digits, .int .i64 h.d.exp, .int .u64 (h.u : Int), .int .i64 h.w, .string h.s, .slice a l.length cap] 27)).alloc (.cells #[.int .i64 0, .bool false, .bool false, .string ⟨#[]⟩, .int .i64 0, .int .u64 0, .int .i64 0, .string ⟨#[]⟩, .slice none 0 0] 27)).heap[w.heap.size + 1]? = some (.cells #[.int .i64 0, .bool false, .bool false, .string ⟨#[]⟩, .int .i64 0, .int .u64 0, .int .i64 0, .string ⟨#[]⟩, .slice none 0 0] 27 (0, 0)) := (by repeat (first | with_reducible exact heap_new' (by simp) | with_reducible refine heap_old ?_ | with_reducible refine heap_drew ?_))
 have hz1 : ((w.alloc (.cells #[.int .i64 h.kind, .bool h.b, .bool h.d.neg, .string h.d.digits, .int .i64 h.d.exp, .int .u64 (h.u : Int), .int .i64 h.w, .string h.s, .slice a l.length cap] 27)).alloc (.cells #[.int .i64 0, .bool false, .bool false, .string ⟨#[]⟩, .int .i64 0, .int .u64 0, .int .i64 0, .string ⟨#[]⟩, .slice none 0 0] 27)).heap.size = w.heap.size + 2 := by simp
 have hk1 : Same w ((w.alloc (.cells #[.int .i64 h.kind, .bool h.b, .bool h.d.neg, .string h.d.digits, .int .i64 h.d.exp, .int .u64 (h.u : Int), .int .i64 h.w, .string h.s, .slice a l.length cap] 27)).alloc (.cells #[.int .i64 0, .bool false, .bool false, .string ⟨#[]⟩, .int .i64 0, .int .u64 0, .int .i64 0, .string ⟨#[]⟩, .slice none 0 0] 27)) := smK
 generalize ((w.alloc (.cells #[.int .i64 h.kind, .bool h.b, .bool h.d.neg, .string h.d.digits, .int .i64 h.d.exp, .int .u64 (h.u : Int), .int .i64 h.w, .string h.s, .slice a l.length cap] 27)).alloc (.cells #[.int .i64 0, .bool false, .bool false, .string ⟨#[]⟩, .int .i64 0, .int .u64 0, .int .i64 0, .string ⟨#[]⟩, .slice none 0 0] 27)) = W1 at hb0 hr0 hz1 hk1 ⊢
 go_loopw [3, 4] (fun ov iv wr => ∃ k : Nat, k ≤ l.length ∧ iv = .int .i64 (k : Int) ∧ OwnL (fun x => w.heap.size + 2 ≤ x) wr (w.heap.size + 2) ov (ordsTo l k) ∧ Same w wr ∧ wr.heap[w.heap.size]? = some (.cells #[.int .i64 h.kind, .bool h.b, .bool h.d.neg, .string h.d.digits, .int .i64 h.d.exp, .int .u64 (h.u : Int), .int .i64 h.w, .string h.s, .slice a l.length cap] 27 (0, 0)) ∧ wr.heap[w.heap.size + 1]? = some (.cells #[.int .i64 0, .bool false, .bool false, .string ⟨#[]⟩, .int .i64 0, .int .u64 0, .int .i64 0, .string ⟨#[]⟩, .slice none 0 0] 27 (0, 0))) (fun _ iv _ => l.length - (RowKit.intOf iv).toNat)
 case atStart => exact ⟨0, Nat.zero_le _, rfl, OwnL.nil _ _ _, hk1, hb0, hr0⟩
 case round =>
  clear hb0 hr0 hz1 hk1
  obtain ⟨k, hkl, rfl, hown, hsm, hb, hr⟩ := hrel
  obtain ⟨n0, n1, n2, n3, n4, n5, n6, n7, n8⟩ := cells9 hb
  obtain ⟨m0, m1, m2, m3, m4, m5, m6, m7, m8⟩ := cells9 hr
  have hfb : ∀ j, wr.frozen? ⟨w.heap.size, j, none⟩ = false := Lib.frozen_of_heap hb
  have hfr : ∀ j, wr.frozen? ⟨w.heap.size + 1, j, none⟩ = false := Lib.frozen_of_heap hr
  have htl : (ordsTo l k).length = k := by unfold ordsTo; rw [ordL_len, List.length_take]; omega
  obtain ⟨a0, cp0, rfl⟩ := hown.is_slice
  by_cases hlt : k < l.length
  ·rw [htl] at hown
   obtain ⟨b', off, lv', rfl, _, _, hrk, hok', hra⟩ := hget k hlt
   obtain ⟨a', cap', rfl⟩ := hrk.is_slice
   obtain ⟨c0, c1, c2, c3, c4, c5, c6, c7, c8⟩ := nodeAt_of (rangeAt_same hsm hra)
   have hcall := fun W (hW' : Same w W) => IH.out (l[k]) (List.getElem_mem hlt) S _ W hok' (hrk.same hW')
   have hst := ordsTo_succ l k hlt
   have hct : (l[k]).ord = .node (l[k]).hd (l[k]).ord.l := by rw [← ord_hd]; exact (Tree.eta _).symm
   unfold RefOrdOut at hcall
   obtain ⟨q, hq⟩ : ∃ q, (l[k]).hd = q := ⟨_, rfl⟩
   obtain ⟨cl, hcl⟩ : ∃ cl, (l[k]).ord.l = cl := ⟨_, rfl⟩
   rw [hcl] at hcall hct
   rw [hq] at hcall hct hok'
   rw [hct] at hst
   have HST := Lib.hid hst
   clear hst hct hcl
   have hszw := hsm.size
   have hlt0 := fun b (hb : wr.heap.size ≤ b) => hown.lt hb
   rw [hq] at c0 c1 c2 c3 c4 c5 c6 c7
   clear hq
   have g3 : wrap64 ((k : Int) + 1) = (k : Int) + 1 := IntWalk.wrap64_in _ (by omega)
   go_wp2_with (first
    | (go_at_call 33; refine (hcall _ smK).mono ?_; rintro e w1 ⟨lv2, rfl, hr2, hk2⟩; obtain ⟨a2, cc2, rfl⟩ := hr2.is_slice)
    | (at_builtin; refine wpList_append_trees (v := .slice a0 k cp0) (ts := [.node q cl]) (news := nodeCs q (.slice a2 cl.length cc2)) rfl _ _ rfl rfl rfl ((hown.same hk2).same ((Keep.refl _ _).alloc _)) rfl ?c2 ?c3 (node_one _ _ _ _) ?c4 ?c5 ?_))
   case c2 =>
    refine repL_one ?_
    rw [rep_node]
    refine ⟨hok', _, rfl, ?_⟩
    exact ((hr2.mono (fun b hb h => (⟨by have h' : wr.heap.size ≤ b := h; have := lt_of_some hr; omega, hlt0 b h⟩ : _ ∧ _))).same ((Keep.refl _ _).alloc _))
   case c3 =>
    intro j u hju
    exact cells_new w1 #[.int .i64 q.kind, .bool q.b, .bool q.d.neg, .string q.d.digits, .int .i64 q.d.exp, .int .u64 (q.u : Int), .int .i64 q.w, .string q.s, .slice a2 cl.length cc2] 27 j u hju
   case c4 => simp only [List.length_cons, List.length_nil, htl]; omega
   case c5 => have := hk2.size; have := lt_of_some hr; simp; omega
   intro v' w2 hown' hg
   have hsA : Same w1 (w1.alloc (.cells #[.int .i64 q.kind, .bool q.b, .bool q.d.neg, .string q.d.digits, .int .i64 q.d.exp, .int .u64 (q.u : Int), .int .i64 q.w, .string q.s, .slice a2 cl.length cc2] 27)) := smK
   have hsm2 : Same w w2 := same_grown ((hsm.trans hk2).trans hsA) (by omega) ((hown.same hk2).same hsA) hg
   have hb2 : w2.heap[w.heap.size]? = _ := (hg.block _ (by have := lt_of_some (hk2.same _ _ hb trivial); simp; omega) (fun e => hown.apart (b := w.heap.size) (by omega) e.symm)).trans (hsA.same _ _ (hk2.same _ _ hb trivial) trivial)
   have hr2' : w2.heap[w.heap.size + 1]? = _ := (hg.block _ (by have := lt_of_some (hk2.same _ _ hr trivial); simp; omega) (fun e => hown.apart (b := w.heap.size + 1) (by omega) e.symm)).trans (hsA.same _ _ (hk2.same _ _ hr trivial) trivial)
   rw [← HST.out] at hown'
   obtain ⟨a9, cc9, rfl⟩ := hown'.is_slice
   clear hg hsA hr2 hk2 hown n0 n1 n2 n3 n4 n5 n6 n7 n8 c0 c1 c2 c3 c4 c5 c6 c7 c8
   go_wp2
   go_roundw
   case rel => exact ⟨k + 1, by omega, by go_num, hown', hsm2, hb2, hr2'⟩
   case measure => simp [RowKit.intOf]; omega
  ·obtain rfl : k = l.length := by omega
   have hfull : ordsTo l l.length = ordL l := by unfold ordsTo; rw [List.take_length]
   have hrep2 := hown.rep (fun b hb => hb) (by rw [htl]; omega)
   have hkeep : ∀ (X : World) (p : Addr) (v : Value) (b : Nat), p.block ≠ b → (X.setCell p v).heap[b]? = X.heap[b]? := fun X p v b h => Below.heap_setCell X p v b (fun e => h e.symm)
   rw [hfull, ordL_len] at hrep2
   have hordl : (Tree.node h l).ord.l = ordL l := by rw [Tree.ord, if_neg HK8.out]; rfl
   obtain ⟨ol, hol⟩ : ∃ ol, ordL l = ol := ⟨_, rfl⟩
   rw [hol] at hordl hrep2
   have HOL := Lib.hid hordl
   rw [htl]
   clear hordl hfull htl hget IH HK8 hol
   go_wp2
   have hX : (wr.setCell ⟨w.heap.size, 8, none⟩ (.slice a0 l.length cp0)).heap[w.heap.size + 1]? = some (.cells #[.int .i64 0, .bool false, .bool false, .string ⟨#[]⟩, .int .i64 0, .int .u64 0, .int .i64 0, .string ⟨#[]⟩, .slice none 0 0] 27 (0, 0)) := by rw [hkeep _ _ _ _ (by show w.heap.size ≠ w.heap.size + 1; omega)]; exact hr
   obtain ⟨h9, hk9⟩ := put9 hX (.int .i64 h.kind) (.bool h.b) (.bool h.d.neg) (.string h.d.digits) (.int .i64 h.d.exp) (.int .u64 h.u) (.int .i64 h.w) (.string h.s) (.slice a0 l.length cp0)
   refine bodyPost_ret (results_cell_row rfl _ _ (w.heap.size + 1) 27 _ (0, 0) _ rfl h9 Tryz.underlying27 rfl (by kernel_rfl)) rfl ⟨.slice a0 l.length cp0, rfl, ?_, ?_⟩
   ·rw [HOL.out]
    have hk8 : Keep (fun k _ => k ≠ w.heap.size) wr (wr.setCell ⟨w.heap.size, 8, none⟩ (.slice a0 l.length cp0)) := (Keep.refl _ _).setCell _ fun o _ h _ => h rfl
    refine RepS.mono (fun b _ (hb : w.heap.size + 2 ≤ b) => (by omega : w.heap.size ≤ b)) ?_
    exact (hrep2.keep hk8 fun b (hb : w.heap.size + 2 ≤ b) _ _ => by omega).keep hk9 fun b (hb : w.heap.size + 2 ≤ b) _ _ => by omega
   ·have hk8 : Same w (wr.setCell ⟨w.heap.size, 8, none⟩ (.slice a0 l.length cp0)) := hsm.setCell (p := ⟨w.heap.size, 8, none⟩) _ (fun o _ _ h => absurd h (Nat.lt_irrefl _))
    exact ⟨hk9.os.trans hk8.os, hk9.tape.trans hk8.tape, hk9.output.trans hk8.output, Nat.le_trans hk8.size hk9.size, fun k o hk _ => hk9.same k o (hk8.same k o hk trivial) (by have := lt_of_some hk; omega)⟩
set_option maxRecDepth 100000 in
set_option maxHeartbeats 1000000 in
theorem refOrd_map (h : Hd) (l : List Tree) (ih : ∀ x ∈ l, RefOrdAt x) (hl40 : l.length ≤ 40) (h8 : h.kind = 8) (hp : ∃ qs : List (Tree × Tree), ordL l = unpairs qs ∧ 2 * qs.length = l.length ∧ unpairs (sortP qs) = sortM (pairsM (ordL l))) : RefOrdAt (.node h l) := by
 intro S lv w ho hrs
 simp only [Tree.l_node, Tree.hd_node] at hrs ho ⊢
 obtain ⟨_, a, cap, rfl, hcap, hget⟩ := hrs.shape
 clear hrs
 have IH := Lib.hid ih
 clear ih
 have k8 : (h.kind == 8) = true := by simpa using h8
 have HK8 := Lib.hid h8
 have HP := Lib.hid hp
 clear h8 hp
 go_enter Tryz.func33, Tryz.ntmps33
 go_wp2
 have hb0 : ((w.alloc (.cells #[.int .i64 h.kind, .bool h.b, .bool h.d.neg, .string h.d.digits, .int .i64 h.d.exp, .int .u64 (h.u : Int), .int .i64 h.w, .string h.s, .slice a l.length cap] 27)).alloc (.cells #[.int .i64 0, .bool false, .bool false, .string ⟨#[]⟩, .int .i64 0, .int .u64 0, .int .i64 0, .string ⟨#[]⟩, .slice none 0 0] 27)).heap[w.heap.size]? = some (.cells #[.int .i64 h.kind, .bool h.b, .bool h.d.neg, .string h.d.digits, .int .i64 h.d.exp, .int .u64 (h.u : Int), .int .i64 h.w, .string h.s, .slice a l.length cap] 27 (0, 0)) := (by repeat (first | with_reducible exact heap_new' (by simp) | with_reducible refine heap_old ?_ | with_reducible refine heap_drew ?_))
 have hr0 : ((w.alloc (.cells #[.int .i64 h.kind, .bool h.b, .bool h.d.neg, .string h.d.digits, .int .i64 h.d.exp, .int .u64 (h.u : Int), .int .i64 h.w, .string h.s, .slice a l.length cap] 27)).alloc (.cells #[.int .i64 0, .bool false, .bool false, .string ⟨#[]⟩, .int .i64 0, .int .u64 0, .int .i64 0, .string ⟨#[]⟩, .slice none 0 0] 27)).heap[w.heap.size + 1]? = some (.cells #[.int .i64 0, .bool false, .bool false, .string ⟨#[]⟩, .int .i64 0, .int .u64 0, .int .i64 0, .string ⟨#[]⟩, .slice none 0 0] 27 (0, 0)) := (by repeat (first | with_reducible exact heap_new' (by simp) | with_reducible refine heap_old ?_ | with_reducible refine heap_drew ?_))
 have hz1 : ((w.alloc (.cells #[.int .i64 h.kind, .bool h.b, .bool h.d.neg, .string h.d.digits, .int .i64 h.d.exp, .int .u64 (h.u : Int), .int .i64 h.w, .string h.s, .slice a l.length cap] 27)).alloc (.cells #[.int .i64 0, .bool false, .bool false, .string ⟨#[]⟩, .int .i64 0, .int .u64 0, .int .i64 0, .string ⟨#[]⟩, .slice none 0 0] 27)).heap.size = w.heap.size + 2 := by simp
 have hk1 : Same w ((w.alloc (.cells #[.int .i64 h.kind, .bool h.b, .bool h.d.neg, .string h.d.digits, .int .i64 h.d.exp, .int .u64 (h.u : Int), .int .i64 h.w, .string h.s, .slice a l.length cap] 27)).alloc (.cells #[.int .i64 0, .bool false, .bool false, .string ⟨#[]⟩, .int .i64 0, .int .u64 0, .int .i64 0, .string ⟨#[]⟩, .slice none 0 0] 27)) := smK
 generalize ((w.alloc (.cells #[.int .i64 h.kind, .bool h.b, .bool h.d.neg, .string h.d.digits, .int .i64 h.d.exp, .int .u64 (h.u : Int), .int .i64 h.w, .string h.s, .slice a l.length cap] 27)).alloc (.cells #[.int .i64 0, .bool false, .bool false, .string ⟨#[]⟩, .int .i64 0, .int .u64 0, .int .i64 0, .string ⟨#[]⟩, .slice none 0 0] 27)) = W1 at hb0 hr0 hz1 hk1 ⊢
 go_loopw [3, 4] (fun ov iv wr => ∃ k : Nat, k ≤ l.length ∧ iv = .int .i64 (k : Int) ∧ OwnL (fun x => w.heap.size + 2 ≤ x) wr (w.heap.size + 2) ov (ordsTo l k) ∧ Same w wr ∧ wr.heap[w.heap.size]? = some (.cells #[.int .i64 h.kind, .bool h.b, .bool h.d.neg, .string h.d.digits, .int .i64 h.d.exp, .int .u64 (h.u : Int), .int .i64 h.w, .string h.s, .slice a l.length cap] 27 (0, 0)) ∧ wr.heap[w.heap.size + 1]? = some (.cells #[.int .i64 0, .bool false, .bool false, .string ⟨#[]⟩, .int .i64 0, .int .u64 0, .int .i64 0, .string ⟨#[]⟩, .slice none 0 0] 27 (0, 0))) (fun _ iv _ => l.length - (RowKit.intOf iv).toNat)
 case atStart => exact ⟨0, Nat.zero_le _, rfl, OwnL.nil _ _ _, hk1, hb0, hr0⟩
 case round =>
  clear hb0 hr0 hz1 hk1
  obtain ⟨k, hkl, rfl, hown, hsm, hb, hr⟩ := hrel
  obtain ⟨n0, n1, n2, n3, n4, n5, n6, n7, n8⟩ := cells9 hb
  obtain ⟨m0, m1, m2, m3, m4, m5, m6, m7, m8⟩ := cells9 hr
  have hfb : ∀ j, wr.frozen? ⟨w.heap.size, j, none⟩ = false := Lib.frozen_of_heap hb
  have hfr : ∀ j, wr.frozen? ⟨w.heap.size + 1, j, none⟩ = false := Lib.frozen_of_heap hr
  have htl : (ordsTo l k).length = k := by unfold ordsTo; rw [ordL_len, List.length_take]; omega
  obtain ⟨a0, cp0, rfl⟩ := hown.is_slice
  by_cases hlt : k < l.length
  ·rw [htl] at hown
   obtain ⟨b', off, lv', rfl, _, _, hrk, hok', hra⟩ := hget k hlt
   obtain ⟨a', cap', rfl⟩ := hrk.is_slice
   obtain ⟨c0, c1, c2, c3, c4, c5, c6, c7, c8⟩ := nodeAt_of (rangeAt_same hsm hra)
   have hcall := fun W (hW' : Same w W) => IH.out (l[k]) (List.getElem_mem hlt) S _ W hok' (hrk.same hW')
   have hst := ordsTo_succ l k hlt
   have hct : (l[k]).ord = .node (l[k]).hd (l[k]).ord.l := by rw [← ord_hd]; exact (Tree.eta _).symm
   unfold RefOrdOut at hcall
   obtain ⟨q, hq⟩ : ∃ q, (l[k]).hd = q := ⟨_, rfl⟩
   obtain ⟨cl, hcl⟩ : ∃ cl, (l[k]).ord.l = cl := ⟨_, rfl⟩
   rw [hcl] at hcall hct
   rw [hq] at hcall hct hok'
   rw [hct] at hst
   have HST := Lib.hid hst
   clear hst hct hcl
   have hszw := hsm.size
   have hlt0 := fun b (hb : wr.heap.size ≤ b) => hown.lt hb
   rw [hq] at c0 c1 c2 c3 c4 c5 c6 c7
   clear hq
   have g3 : wrap64 ((k : Int) + 1) = (k : Int) + 1 := IntWalk.wrap64_in _ (by omega)
   go_wp2_with (first
    | (go_at_call 33; refine (hcall _ smK).mono ?_; rintro e w1 ⟨lv2, rfl, hr2, hk2⟩; obtain ⟨a2, cc2, rfl⟩ := hr2.is_slice)
    | (at_builtin; refine wpList_append_trees (v := .slice a0 k cp0) (ts := [.node q cl]) (news := nodeCs q (.slice a2 cl.length cc2)) rfl _ _ rfl rfl rfl ((hown.same hk2).same ((Keep.refl _ _).alloc _)) rfl ?c2 ?c3 (node_one _ _ _ _) ?c4 ?c5 ?_))
   case c2 =>
    refine repL_one ?_
    rw [rep_node]
    refine ⟨hok', _, rfl, ?_⟩
    exact ((hr2.mono (fun b hb h => (⟨by have h' : wr.heap.size ≤ b := h; have := lt_of_some hr; omega, hlt0 b h⟩ : _ ∧ _))).same ((Keep.refl _ _).alloc _))
   case c3 =>
    intro j u hju
    exact cells_new w1 #[.int .i64 q.kind, .bool q.b, .bool q.d.neg, .string q.d.digits, .int .i64 q.d.exp, .int .u64 (q.u : Int), .int .i64 q.w, .string q.s, .slice a2 cl.length cc2] 27 j u hju
   case c4 => simp only [List.length_cons, List.length_nil, htl]; omega
   case c5 => have := hk2.size; have := lt_of_some hr; simp; omega
   intro v' w2 hown' hg
   have hsA : Same w1 (w1.alloc (.cells #[.int .i64 q.kind, .bool q.b, .bool q.d.neg, .string q.d.digits, .int .i64 q.d.exp, .int .u64 (q.u : Int), .int .i64 q.w, .string q.s, .slice a2 cl.length cc2] 27)) := smK
   have hsm2 : Same w w2 := same_grown ((hsm.trans hk2).trans hsA) (by omega) ((hown.same hk2).same hsA) hg
   have hb2 : w2.heap[w.heap.size]? = _ := (hg.block _ (by have := lt_of_some (hk2.same _ _ hb trivial); simp; omega) (fun e => hown.apart (b := w.heap.size) (by omega) e.symm)).trans (hsA.same _ _ (hk2.same _ _ hb trivial) trivial)
   have hr2' : w2.heap[w.heap.size + 1]? = _ := (hg.block _ (by have := lt_of_some (hk2.same _ _ hr trivial); simp; omega) (fun e => hown.apart (b := w.heap.size + 1) (by omega) e.symm)).trans (hsA.same _ _ (hk2.same _ _ hr trivial) trivial)
   rw [← HST.out] at hown'
   obtain ⟨a9, cc9, rfl⟩ := hown'.is_slice
   clear hg hsA hr2 hk2 hown n0 n1 n2 n3 n4 n5 n6 n7 n8 c0 c1 c2 c3 c4 c5 c6 c7 c8
   go_wp2
   go_roundw
   case rel => exact ⟨k + 1, by omega, by go_num, hown', hsm2, hb2, hr2'⟩
   case measure => simp [RowKit.intOf]; omega
  ·obtain rfl : k = l.length := by omega
   have hfull : ordsTo l l.length = ordL l := by unfold ordsTo; rw [List.take_length]
   have hrep2 := hown.rep (fun b hb => hb) (by rw [htl]; omega)
   have hkeep : ∀ (X : World) (p : Addr) (v : Value) (b : Nat), p.block ≠ b → (X.setCell p v).heap[b]? = X.heap[b]? := fun X p v b h => Below.heap_setCell X p v b (fun e => h e.symm)
   rw [hfull, ordL_len] at hrep2
   obtain ⟨qs, hqs, hqn, hqe⟩ := HP.out
   have hsrt := fun W (hs : Same wr W) => refSort_any (fun b => w.heap.size + 2 ≤ b) qs (.slice a0 l.length cp0) W (by rw [← hqs]; exact hrep2.same hs) (by omega) (fun b hb => by have := hs.size; have := lt_of_some hr; omega)
   have hordl : (Tree.node h l).ord.l = unpairs (sortP qs) := by rw [Tree.ord, if_pos HK8.out, hqe]; rfl
   have hln : (unpairs (sortP qs)).length = l.length := by rw [unpairs_len, (sortP_perm qs).length_eq]; omega
   obtain ⟨ol, hol⟩ : ∃ ol, unpairs (sortP qs) = ol := ⟨_, rfl⟩
   rw [hol] at hsrt hordl hln
   have HOL := Lib.hid hordl
   rw [htl]
   clear hordl hfull htl hget IH HP HK8 hqs hqn hqe hol
   go_wp2_with fail
   refine (hsrt _ (Keep.refl _ _)).mono ?_
   rintro e w1 ⟨vs, rfl, hrs, hk1⟩
   obtain ⟨sa, sc, rfl⟩ := hrs.is_slice
   rw [hln] at hrs ⊢
   have hb1 := hk1.same _ _ hb trivial
   have hr1 := hk1.same _ _ hr trivial
   have hsm1 := hsm.trans hk1
   clear n0 n1 n2 n3 n4 n5 n6 n7 n8 m0 m1 m2 m3 m4 m5 m6 m7 m8 hfb hfr hb hr hk1 hsm hrep2 hown hsrt
   obtain ⟨n0, n1, n2, n3, n4, n5, n6, n7, n8⟩ := cells9 hb1
   obtain ⟨m0, m1, m2, m3, m4, m5, m6, m7, m8⟩ := cells9 hr1
   have hfb : ∀ j, w1.frozen? ⟨w.heap.size, j, none⟩ = false := Lib.frozen_of_heap hb1
   have hfr : ∀ j, w1.frozen? ⟨w.heap.size + 1, j, none⟩ = false := Lib.frozen_of_heap hr1
   go_wp2
   have hX : (w1.setCell ⟨w.heap.size, 8, none⟩ (.slice sa l.length sc)).heap[w.heap.size + 1]? = some (.cells #[.int .i64 0, .bool false, .bool false, .string ⟨#[]⟩, .int .i64 0, .int .u64 0, .int .i64 0, .string ⟨#[]⟩, .slice none 0 0] 27 (0, 0)) := by rw [hkeep _ _ _ _ (by show w.heap.size ≠ w.heap.size + 1; omega)]; exact hr1
   obtain ⟨h9, hk9⟩ := put9 hX (.int .i64 h.kind) (.bool h.b) (.bool h.d.neg) (.string h.d.digits) (.int .i64 h.d.exp) (.int .u64 h.u) (.int .i64 h.w) (.string h.s) (.slice sa l.length sc)
   refine bodyPost_ret (results_cell_row rfl _ _ (w.heap.size + 1) 27 _ (0, 0) _ rfl h9 Tryz.underlying27 rfl (by kernel_rfl)) rfl ⟨.slice sa l.length sc, rfl, ?_, ?_⟩
   ·rw [HOL.out]
    have hk8 : Keep (fun k _ => k ≠ w.heap.size) w1 (w1.setCell ⟨w.heap.size, 8, none⟩ (.slice sa l.length sc)) := (Keep.refl _ _).setCell _ fun o _ h _ => h rfl
    refine RepS.mono (fun b _ (hb : w.heap.size + 2 ≤ b) => (by omega : w.heap.size ≤ b)) ?_
    exact (hrs.keep hk8 fun b (hb : w.heap.size + 2 ≤ b) _ _ => by omega).keep hk9 fun b (hb : w.heap.size + 2 ≤ b) _ _ => by omega
   ·have hk8 : Same w (w1.setCell ⟨w.heap.size, 8, none⟩ (.slice sa l.length sc)) := hsm1.setCell (p := ⟨w.heap.size, 8, none⟩) _ (fun o _ _ h => absurd h (Nat.lt_irrefl _))
    exact ⟨hk9.os.trans hk8.os, hk9.tape.trans hk8.tape, hk9.output.trans hk8.output, Nat.le_trans hk8.size hk9.size, fun k o hk _ => hk9.same k o (hk8.same k o hk trivial) (by have := lt_of_some hk; omega)⟩
theorem refOrd_any : ∀ t : Tree, OwnJ t → (∀ x ∈ t.flat, x.l.length ≤ 40) → RefOrdAt t := by
 refine Tree.ind fun h l ih ho hl => ?_
 have hih : ∀ x ∈ l, RefOrdAt x := fun x hx => ih x hx (ownJ_kid ho hx) fun y hy => ((flat_all (fun x => x.l.length ≤ 40) (.node h l)).1 hl).2 x hx y hy
 have hl40 : l.length ≤ 40 := ((flat_all (fun x => x.l.length ≤ 40) (.node h l)).1 hl).1
 by_cases h8 : h.kind = 8
 ·exact refOrd_map h l hih hl40 h8 (ord_pairs h8 ho)
 ·exact refOrd_plain h l hih hl40 h8
theorem refSort_res (T : Array Value) (W : World) (bx : Nat) (h : Hd) (lv : Value) (e : Int) (h2 : T.getD 2 undef = .pointer (some ⟨bx, 0, none⟩)) (h3 : T.getD 3 undef = .int .i64 e)
  (hrow : W.heap[bx]? = some (.cells #[.int .i64 h.kind, .bool h.b, .bool h.d.neg, .string h.d.digits, .int .i64 h.d.exp, .int .u64 (h.u : Int), .int .i64 h.w, .string h.s, lv] 27 (0, 0))) : (results Tryz.f19 T).run Tryz.prog W = .ok (.tuple #[nodeV h lv, .int .i64 e]) W := by
 have hld := run_loadVar_row (P := Tryz.prog) W bx 27 27 _ (0, 0) _ hrow Tryz.underlying27 rfl (by kernel_rfl)
 rw [results_cell_tmp rfl, h2, h3]
 simp [asAddr, hld, Result.andThen]
set_option maxRecDepth 100000 in
set_option maxHeartbeats 4000000 in
theorem refSortJ_any (t : Tree) (S : Nat → Prop) (lv : Value) (w : World) (hdep : t.depth ≤ 1000000) (ho : t.hd.ok) (hr : RepS S w t.l lv) (hS : ∀ k, w.heap.size ≤ k → S k) (hl : ∀ x ∈ t.flat, x.l.length ≤ 40) :
  Calls Tryz.prog 19 #[nodeV t.hd lv] w (OutC S (sortTM t) w) := by
 have hchk := fun W (hs : Same w W) => refCheck_any t S lv W ho (by omega) (hr.same hs)
 obtain ⟨q, hq⟩ : ∃ q, checkT t 1 = q := ⟨_, rfl⟩
 have hrun := fun (hq0 : q = 0) W (hs : Same w W) => refOrd_any t (check_all (hq.trans hq0)) hl S lv W ho (hr.same hs)
 have hsm : sortTM t = if q ≠ 0 then (.node (bareHd 0) [], q) else (t.ord, 0) := by unfold sortTM; rw [hq]
 obtain ⟨R, hR⟩ : ∃ R, sortTM t = R := ⟨_, rfl⟩
 rw [hR]
 have HR := Lib.hid (hR.symm.trans hsm)
 rw [hq] at hchk
 have hoh := ord_hd t
 obtain ⟨⟨h', l'⟩, hP⟩ : ∃ t', t.ord = t' := ⟨_, rfl⟩
 unfold RefOrdOut at hrun
 rw [hP] at hrun hoh HR
 obtain ⟨h, l⟩ := t
 obtain ⟨a, cap, rfl⟩ := hr.is_slice
 simp only [Tree.hd_node, Tree.l_node] at *
 replace hoh := hoh.symm
 subst hoh
 have hb1 : ((w.alloc (.cells #[.int .i64 h.kind, .bool h.b, .bool h.d.neg, .string h.d.digits, .int .i64 h.d.exp, .int .u64 (h.u : Int), .int .i64 h.w, .string h.s, .slice a l.length cap] 27)).alloc (.cells #[.int .i64 0, .bool false, .bool false, .string ⟨#[]⟩, .int .i64 0, .int .u64 0, .int .i64 0, .string ⟨#[]⟩, .slice none 0 0] 27)).heap[w.heap.size + 1]? = some (.cells #[.int .i64 0, .bool false, .bool false, .string ⟨#[]⟩, .int .i64 0, .int .u64 0, .int .i64 0, .string ⟨#[]⟩, .slice none 0 0] 27 (0, 0)) := heap_new' (by simp)
 have hb0 : ((w.alloc (.cells #[.int .i64 h.kind, .bool h.b, .bool h.d.neg, .string h.d.digits, .int .i64 h.d.exp, .int .u64 (h.u : Int), .int .i64 h.w, .string h.s, .slice a l.length cap] 27)).alloc (.cells #[.int .i64 0, .bool false, .bool false, .string ⟨#[]⟩, .int .i64 0, .int .u64 0, .int .i64 0, .string ⟨#[]⟩, .slice none 0 0] 27)).heap[w.heap.size]? = some (.cells #[.int .i64 h.kind, .bool h.b, .bool h.d.neg, .string h.d.digits, .int .i64 h.d.exp, .int .u64 (h.u : Int), .int .i64 h.w, .string h.s, .slice a l.length cap] 27 (0, 0)) := heap_old (World.alloc_heap_new w _)
 have hk0 : Same w ((w.alloc (.cells #[.int .i64 h.kind, .bool h.b, .bool h.d.neg, .string h.d.digits, .int .i64 h.d.exp, .int .u64 (h.u : Int), .int .i64 h.w, .string h.s, .slice a l.length cap] 27)).alloc (.cells #[.int .i64 0, .bool false, .bool false, .string ⟨#[]⟩, .int .i64 0, .int .u64 0, .int .i64 0, .string ⟨#[]⟩, .slice none 0 0] 27)) := smK
 have hz0 : ((w.alloc (.cells #[.int .i64 h.kind, .bool h.b, .bool h.d.neg, .string h.d.digits, .int .i64 h.d.exp, .int .u64 (h.u : Int), .int .i64 h.w, .string h.s, .slice a l.length cap] 27)).alloc (.cells #[.int .i64 0, .bool false, .bool false, .string ⟨#[]⟩, .int .i64 0, .int .u64 0, .int .i64 0, .string ⟨#[]⟩, .slice none 0 0] 27)).heap.size = w.heap.size + 2 := by simp
 obtain ⟨n0, n1, n2, n3, n4, n5, n6, n7, n8⟩ := cells9 hb0
 unfold OutC
 clear hq hsm hP hr hR
 go_enter Tryz.func19, Tryz.ntmps19
 go_wp2_with fail
 refine (hchk _ hk0).mono ?_
 rintro x w1 ⟨rfl, hk1⟩
 have hb11 := hk1.same _ _ hb1 trivial
 have hb01 := hk1.same _ _ hb0 trivial
 have hkw1 := hk0.trans hk1
 have hzw := hk1.size
 rw [hz0] at hzw
 clear hk1 hb1 hb0 hk0 hz0 hchk n0 n1 n2 n3 n4 n5 n6 n7 n8
 by_cases hq0 : q = 0
 ·replace hrun := hrun hq0
  subst hq0
  have hR0 : R = (.node h l', 0) := by rw [HR.out, if_neg (fun e => e rfl)]
  have HR0 := Lib.hid hR0
  clear hR0 HR
  obtain ⟨n0, n1, n2, n3, n4, n5, n6, n7, n8⟩ := cells9 hb01
  go_wp2_with fail
  refine (hrun w1 hkw1).mono ?_
  rintro x w2 ⟨lv', rfl, hr2, hk2⟩
  obtain ⟨ra, rc, rfl⟩ := hr2.is_slice
  have hb12 := hk2.same _ _ hb11 trivial
  have hkw2 := hkw1.trans hk2
  clear n0 n1 n2 n3 n4 n5 n6 n7 n8 hrun
  obtain ⟨n0, n1, n2, n3, n4, n5, n6, n7, n8⟩ := cells9 hb12
  have hfz : ∀ j, w2.frozen? ⟨w.heap.size + 1, j, none⟩ = false := Lib.frozen_of_heap hb12
  go_wp2_with fail
  (try simp only [Exit.inBlock, Exit.then])
  obtain ⟨h9, hk9⟩ := put9 hb12 (.int .i64 h.kind) (.bool h.b) (.bool h.d.neg) (.string h.d.digits) (.int .i64 h.d.exp) (.int .u64 h.u) (.int .i64 h.w) (.string h.s) (.slice ra l'.length rc)
  refine bodyPost_ret (refSort_res _ _ (w.heap.size + 1) h (.slice ra l'.length rc) 0 rfl rfl h9) rfl ⟨_, by rw [HR0.out]; rfl, by rw [HR0.out]; exact ho, ?_, ?_⟩
  ·rw [HR0.out]
   exact (hr2.keep hk9 fun y (hy : w1.heap.size ≤ y) _ _ => by omega).mono fun y _ (hy : w1.heap.size ≤ y) => hS y (by omega)
  ·exact ⟨hk9.os.trans hkw2.os, hk9.tape.trans hkw2.tape, hk9.output.trans hkw2.output, Nat.le_trans hkw2.size hk9.size, fun k o hk _ => hk9.same k o (hkw2.same k o hk trivial) (by have := lt_of_some hk; omega)⟩
 ·have hR0 : R = (.node (bareHd 0) [], q) := by rw [HR.out, if_pos hq0]
  have HR0 := Lib.hid hR0
  clear hR0 HR
  have hqb : ((q : Int) != 0) = true := by simpa using hq0
  clear hrun
  obtain ⟨n0, n1, n2, n3, n4, n5, n6, n7, n8⟩ := cells9 hb11
  have hfz : ∀ j, w1.frozen? ⟨w.heap.size + 1, j, none⟩ = false := Lib.frozen_of_heap hb11
  go_wp2_with fail
  (try simp only [Exit.inBlock, Exit.then])
  obtain ⟨h9, hk9⟩ := put9 hb11 (.int .i64 0) (.bool false) (.bool false) (.string ⟨#[]⟩) (.int .i64 0) (.int .u64 0) (.int .i64 0) (.string ⟨#[]⟩) (.slice none 0 0)
  refine bodyPost_ret (refSort_res _ _ (w.heap.size + 1) (bareHd 0) (.slice none 0 0) q rfl rfl h9) rfl ⟨.slice none 0 0, by rw [HR0.out]; rfl, by rw [HR0.out]; exact bare_ok 0 (by decide), by rw [HR0.out]; exact RepS.nil _ _, ?_⟩
  exact ⟨hk9.os.trans hkw1.os, hk9.tape.trans hkw1.tape, hk9.output.trans hkw1.output, Nat.le_trans hkw1.size hk9.size, fun k o hk _ => hk9.same k o (hkw1.same k o hk trivial) (by have := lt_of_some hk; omega)⟩
set_option maxRecDepth 100000 in
set_option maxHeartbeats 4000000 in
theorem refIsCommon_any (t : Tree) (S : Nat → Prop) (lv : Value) (w : World) (hdep : t.depth ≤ 1000000) (ho : t.hd.ok) (hr : RepS S w t.l lv) (hS : ∀ k, w.heap.size ≤ k → S k) (hl : ∀ x ∈ t.flat, x.l.length ≤ 40) :
  Calls Tryz.prog 21 #[nodeV t.hd lv] w fun e w' => e = .returned (.bool (isCommonM t)) ∧ Same w w' := by
 have hst := fun W (hs : Same w W) => refSortJ_any t S lv W hdep ho (hr.same hs) (fun k hk => hS k (Nat.le_trans hs.size hk)) hl
 unfold isCommonM
 obtain ⟨⟨⟨h', l'⟩, q⟩, hq⟩ : ∃ r, sortTM t = r := ⟨_, rfl⟩
 rw [hq] at hst ⊢
 unfold OutC at hst
 simp only [Tree.hd_node, Tree.l_node] at hst
 have hsame := fun W lv' h1 (hs : Same w W) => refSame_any (.node h' l') t S lv' lv W h1 (hr.same hs)
 obtain ⟨b, hb⟩ : ∃ b, (Tree.node h' l').same t = b := ⟨_, rfl⟩
 rw [hb] at hsame ⊢
 obtain ⟨a, cap, rfl⟩ := hr.is_slice
 obtain ⟨h, l⟩ := t
 simp only [Tree.hd_node, Tree.l_node] at *
 have hb0 : (w.alloc (.cells #[.int .i64 h.kind, .bool h.b, .bool h.d.neg, .string h.d.digits, .int .i64 h.d.exp, .int .u64 (h.u : Int), .int .i64 h.w, .string h.s, .slice a l.length cap] 27)).heap[w.heap.size]? = some (.cells #[.int .i64 h.kind, .bool h.b, .bool h.d.neg, .string h.d.digits, .int .i64 h.d.exp, .int .u64 (h.u : Int), .int .i64 h.w, .string h.s, .slice a l.length cap] 27 (0, 0)) := World.alloc_heap_new w _
 have hk0 : Same w (w.alloc (.cells #[.int .i64 h.kind, .bool h.b, .bool h.d.neg, .string h.d.digits, .int .i64 h.d.exp, .int .u64 (h.u : Int), .int .i64 h.w, .string h.s, .slice a l.length cap] 27)) := smK
 obtain ⟨n0, n1, n2, n3, n4, n5, n6, n7, n8⟩ := cells9 hb0
 clear hq hb
 go_enter Tryz.func21, Tryz.ntmps21
 go_wp2_with fail
 refine (hst _ hk0).mono ?_
 rintro x w1 ⟨lv', rfl, hok', hr', hk1⟩
 obtain ⟨a', cap', rfl⟩ := hr'.is_slice
 have hb01 := hk1.same _ _ hb0 trivial
 have hkw1 := hk0.trans hk1
 have hz1 := hk1.size
 clear hk1 hb0 hk0 hst n0 n1 n2 n3 n4 n5 n6 n7 n8
 by_cases hq0 : q = 0
 ·subst hq0
  have hk2 : Same w1 (w1.alloc (.cells #[.int .i64 h'.kind, .bool h'.b, .bool h'.d.neg, .string h'.d.digits, .int .i64 h'.d.exp, .int .u64 (h'.u : Int), .int .i64 h'.w, .string h'.s, .slice a' l'.length cap'] 27)) := (Keep.refl _ _).alloc _
  obtain ⟨n0, n1, n2, n3, n4, n5, n6, n7, n8⟩ := cells9 (hk2.same _ _ hb01 trivial)
  have hcall := hsame _ _ (hr'.same hk2) (hkw1.trans hk2)
  have hkw2 := hkw1.trans hk2
  clear hsame hk2
  go_wp2_with fail
  refine hcall.mono ?_
  rintro x w3 ⟨rfl, hk3⟩
  clear n0 n1 n2 n3 n4 n5 n6 n7 n8 hcall
  go_wp2_with fail
  go_ret
  exact ⟨by cases b <;> rfl, hkw2.trans hk3⟩
 ·have hqb : ((q : Int) == 0) = false := by simpa using hq0
  clear hsame
  go_wp2_with fail
  go_ret
  refine ⟨?_, smK⟩
  simp [hq0]
end Go.Tm
namespace Go.Tm
open Go.RowKit Go.Proofs
def fewT (t : Tree) : Tree := if 400 < cnt64 (t.cut 17) then .node (cutHd t.hd) [] else t.cut 17
theorem few_hd (t : Tree) : (fewT t).hd = cutHd t.hd := by unfold fewT; split; rfl; exact cut_hd 17 t
set_option maxRecDepth 100000 in
set_option maxHeartbeats 4000000 in
theorem few_any (t : Tree) (lv : Value) (w : World) (hrep : t.RepW w lv) :
  Calls Tryz.prog 10 #[nodeV t.hd lv] w fun e w' => ∃ lv', e = .returned (nodeV (cutHd t.hd) lv') ∧ RepS (fun b => w.heap.size ≤ b) w' (fewT t).l lv' ∧ Same w w' := by
 obtain ⟨ho, a, cap, rfl, hlen, hL⟩ := repW_node hrep
 have hcut := fun (W : World) (hk : Same w W) => cut_any 17 t _ W (by omega) (hrep.same hk)
 obtain ⟨n, hn⟩ : ∃ n, t.l.length = n := ⟨_, rfl⟩
 rw [hn] at hcut ⊢
 obtain ⟨h, hh⟩ : ∃ h, t.hd = h := ⟨_, rfl⟩
 rw [hh] at hcut ⊢
 obtain ⟨q, hq⟩ : ∃ q, cutHd h = q := ⟨_, rfl⟩
 rw [hq] at hcut ⊢
 have hct : t.cut 17 = .node q (t.cut 17).l := by rw [← hq, ← hh, ← cut_hd 17]; exact (Tree.eta _).symm
 obtain ⟨cl, hcl⟩ : ∃ cl, (t.cut 17).l = cl := ⟨_, rfl⟩
 rw [hcl] at hcut hct
 have hfew : (fewT t).l = if 400 < cnt64 (.node q cl) then [] else cl := by unfold fewT; rw [hct]; split <;> rfl
 rw [hfew]
 obtain ⟨cc, hcc⟩ : ∃ cc, cnt64 (.node q cl) = cc := ⟨_, rfl⟩
 rw [hcc]
 have hcnt := fun (W : World) (lv2 : Value) (hr : RepS AnyB W cl lv2) => refCount_any (.node q cl) AnyB lv2 W hr
 rw [hcc] at hcnt
 simp only [Tree.hd_node] at hcnt
 clear hcc hfew hct hcl hh hq hn hrep hL ho
 go_enter Tryz.func10, Tryz.ntmps10
 by_cases hbig : 400 < cc
 ·rw [if_pos hbig]
  go_wp2_with (first
   | (go_at_call 25; refine (hcut _ smK).mono ?_; rintro e w1 ⟨lv2, rfl, hr2, hk2⟩; obtain ⟨a2, c2, rfl⟩ := hr2.is_slice; have hb := hk2.same w.heap.size _ (show _ = some (.cells #[.int .i64 h.kind, .bool h.b, .bool h.d.neg, .string h.d.digits, .int .i64 h.d.exp, .int .u64 h.u, .int .i64 h.w, .string h.s, .slice a n cap] 27 (0, 0)) from (by repeat (first | with_reducible exact heap_new' (by simp) | with_reducible refine heap_old ?_ | with_reducible refine heap_drew ?_))) trivial; have hr := hk2.same (w.heap.size + 1) _ (show _ = some (.cells #[.int .i64 0, .bool false, .bool false, .string ⟨#[]⟩, .int .i64 0, .int .u64 0, .int .i64 0, .string ⟨#[]⟩, .slice none 0 0] 27 (0, 0)) from (by repeat (first | with_reducible exact heap_new' (by simp) | with_reducible refine heap_old ?_ | with_reducible refine heap_drew ?_))) trivial; obtain ⟨n0, n1, n2, n3, n4, n5, n6, n7, n8⟩ := cells9 hb; obtain ⟨m0, m1, m2, m3, m4, m5, m6, m7, m8⟩ := cells9 hr; have hfb : ∀ j, w1.frozen? ⟨w.heap.size, j, none⟩ = false := Lib.frozen_of_heap hb; have hfr : ∀ j, w1.frozen? ⟨w.heap.size + 1, j, none⟩ = false := Lib.frozen_of_heap hr)
   | (go_at_call 16; fail))
  obtain ⟨h9, hk9⟩ := put9 hb (.int .i64 q.kind) (.bool q.b) (.bool q.d.neg) (.string q.d.digits) (.int .i64 q.d.exp) (.int .u64 q.u) (.int .i64 q.w) (.string q.s) (.slice a2 cl.length c2)
  have hrX := hk9.same _ _ hr (by omega)
  have hr3 : RepS (fun b => w.heap.size + 2 ≤ b) w1 cl (.slice a2 cl.length c2) := hr2.mono fun b _ (hb : _ ≤ b) => by simpa using hb
  have hrp := hr3.keep hk9 fun b (hb : w.heap.size + 2 ≤ b) _ _ => by omega
  have hkX : Same w _ := (⟨hk9.os.trans hk2.os, hk9.tape.trans hk2.tape, hk9.output.trans hk2.output, Nat.le_trans (by have := hk2.size; simp at this; omega) hk9.size, fun k o hk _ => hk9.same k o (hk2.same k o (heap_old (heap_old hk)) trivial) (by have := lt_of_some hk; omega)⟩ : Same w _)
  clear n0 n1 n2 n3 n4 n5 n6 n7 n8 m0 m1 m2 m3 m4 m5 m6 m7 m8 hfb hfr hk9 hr3 hr2 hr hb hk2
  generalize ((((((((((w1.setCell ⟨w.heap.size, 0, none⟩ (.int .i64 q.kind)).setCell ⟨w.heap.size, 1, none⟩ (.bool q.b)).setCell ⟨w.heap.size, 2, none⟩ (.bool q.d.neg)).setCell ⟨w.heap.size, 3, none⟩ (.string q.d.digits)).setCell ⟨w.heap.size, 4, none⟩ (.int .i64 q.d.exp)).setCell ⟨w.heap.size, 5, none⟩ (.int .u64 q.u)).setCell ⟨w.heap.size, 6, none⟩ (.int .i64 q.w)).setCell ⟨w.heap.size, 7, none⟩ (.string q.s)).setCell ⟨w.heap.size, 8, none⟩ (.slice a2 cl.length c2))) = X at h9 hrX hrp hkX ⊢
  refine (hcnt X _ (hrp.mono fun _ _ _ => trivial)).mono ?_
  rintro e w3 ⟨rfl, hk3⟩
  have hbc := hk3.same _ _ h9 trivial
  have hrc := hk3.same _ _ hrX trivial
  have hrp3 := hrp.same hk3
  have hkw3 : Same w w3 := hkX.trans hk3
  obtain ⟨n0, n1, n2, n3, n4, n5, n6, n7, n8⟩ := cells9 hbc
  obtain ⟨m0, m1, m2, m3, m4, m5, m6, m7, m8⟩ := cells9 hrc
  have hfb : ∀ j, w3.frozen? ⟨w.heap.size, j, none⟩ = false := Lib.frozen_of_heap hbc
  have hfr : ∀ j, w3.frozen? ⟨w.heap.size + 1, j, none⟩ = false := Lib.frozen_of_heap hrc
  have hkeep : ∀ (X : World) (p : Addr) (v : Value) (b : Nat), p.block ≠ b → (X.setCell p v).heap[b]? = X.heap[b]? := fun X p v b h => Below.heap_setCell X p v b (fun e => h e.symm)
  clear h9 hrX hrp hkX hk3
  go_wp2
  have hX : (w3.setCell ⟨w.heap.size, 8, none⟩ (.slice none 0 0)).heap[w.heap.size + 1]? = some (.cells #[.int .i64 0, .bool false, .bool false, .string ⟨#[]⟩, .int .i64 0, .int .u64 0, .int .i64 0, .string ⟨#[]⟩, .slice none 0 0] 27 (0, 0)) := by rw [hkeep _ _ _ _ (by show w.heap.size ≠ w.heap.size + 1; omega)]; exact hrc
  obtain ⟨h9, hk9⟩ := put9 hX (.int .i64 q.kind) (.bool q.b) (.bool q.d.neg) (.string q.d.digits) (.int .i64 q.d.exp) (.int .u64 q.u) (.int .i64 q.w) (.string q.s) (.slice none 0 0)
  refine bodyPost_ret (results_cell_row rfl _ _ (w.heap.size + 1) 27 _ (0, 0) _ rfl h9 Tryz.underlying27 rfl (by kernel_rfl)) rfl ⟨_, rfl, RepS.nil _ _, ?_⟩
  have hk8 : Same w (w3.setCell ⟨w.heap.size, 8, none⟩ (.slice none 0 0)) := hkw3.setCell (p := ⟨w.heap.size, 8, none⟩) _ (fun o _ _ h => absurd h (Nat.lt_irrefl _))
  exact ⟨hk9.os.trans hk8.os, hk9.tape.trans hk8.tape, hk9.output.trans hk8.output, Nat.le_trans hk8.size hk9.size, fun k o hk _ => hk9.same k o (hk8.same k o hk trivial) (by have := lt_of_some hk; omega)⟩
 ·rw [if_neg hbig]
  go_wp2_with (first
   | (go_at_call 25; refine (hcut _ smK).mono ?_; rintro e w1 ⟨lv2, rfl, hr2, hk2⟩; obtain ⟨a2, c2, rfl⟩ := hr2.is_slice; have hb := hk2.same w.heap.size _ (show _ = some (.cells #[.int .i64 h.kind, .bool h.b, .bool h.d.neg, .string h.d.digits, .int .i64 h.d.exp, .int .u64 h.u, .int .i64 h.w, .string h.s, .slice a n cap] 27 (0, 0)) from (by repeat (first | with_reducible exact heap_new' (by simp) | with_reducible refine heap_old ?_ | with_reducible refine heap_drew ?_))) trivial; have hr := hk2.same (w.heap.size + 1) _ (show _ = some (.cells #[.int .i64 0, .bool false, .bool false, .string ⟨#[]⟩, .int .i64 0, .int .u64 0, .int .i64 0, .string ⟨#[]⟩, .slice none 0 0] 27 (0, 0)) from (by repeat (first | with_reducible exact heap_new' (by simp) | with_reducible refine heap_old ?_ | with_reducible refine heap_drew ?_))) trivial; obtain ⟨n0, n1, n2, n3, n4, n5, n6, n7, n8⟩ := cells9 hb; obtain ⟨m0, m1, m2, m3, m4, m5, m6, m7, m8⟩ := cells9 hr; have hfb : ∀ j, w1.frozen? ⟨w.heap.size, j, none⟩ = false := Lib.frozen_of_heap hb; have hfr : ∀ j, w1.frozen? ⟨w.heap.size + 1, j, none⟩ = false := Lib.frozen_of_heap hr)
   | (go_at_call 16; fail))
  obtain ⟨h9, hk9⟩ := put9 hb (.int .i64 q.kind) (.bool q.b) (.bool q.d.neg) (.string q.d.digits) (.int .i64 q.d.exp) (.int .u64 q.u) (.int .i64 q.w) (.string q.s) (.slice a2 cl.length c2)
  have hrX := hk9.same _ _ hr (by omega)
  have hr3 : RepS (fun b => w.heap.size + 2 ≤ b) w1 cl (.slice a2 cl.length c2) := hr2.mono fun b _ (hb : _ ≤ b) => by simpa using hb
  have hrp := hr3.keep hk9 fun b (hb : w.heap.size + 2 ≤ b) _ _ => by omega
  have hkX : Same w _ := (⟨hk9.os.trans hk2.os, hk9.tape.trans hk2.tape, hk9.output.trans hk2.output, Nat.le_trans (by have := hk2.size; simp at this; omega) hk9.size, fun k o hk _ => hk9.same k o (hk2.same k o (heap_old (heap_old hk)) trivial) (by have := lt_of_some hk; omega)⟩ : Same w _)
  clear n0 n1 n2 n3 n4 n5 n6 n7 n8 m0 m1 m2 m3 m4 m5 m6 m7 m8 hfb hfr hk9 hr3 hr2 hr hb hk2
  generalize ((((((((((w1.setCell ⟨w.heap.size, 0, none⟩ (.int .i64 q.kind)).setCell ⟨w.heap.size, 1, none⟩ (.bool q.b)).setCell ⟨w.heap.size, 2, none⟩ (.bool q.d.neg)).setCell ⟨w.heap.size, 3, none⟩ (.string q.d.digits)).setCell ⟨w.heap.size, 4, none⟩ (.int .i64 q.d.exp)).setCell ⟨w.heap.size, 5, none⟩ (.int .u64 q.u)).setCell ⟨w.heap.size, 6, none⟩ (.int .i64 q.w)).setCell ⟨w.heap.size, 7, none⟩ (.string q.s)).setCell ⟨w.heap.size, 8, none⟩ (.slice a2 cl.length c2))) = X at h9 hrX hrp hkX ⊢
  refine (hcnt X _ (hrp.mono fun _ _ _ => trivial)).mono ?_
  rintro e w3 ⟨rfl, hk3⟩
  have hbc := hk3.same _ _ h9 trivial
  have hrc := hk3.same _ _ hrX trivial
  have hrp3 := hrp.same hk3
  have hkw3 : Same w w3 := hkX.trans hk3
  obtain ⟨n0, n1, n2, n3, n4, n5, n6, n7, n8⟩ := cells9 hbc
  obtain ⟨m0, m1, m2, m3, m4, m5, m6, m7, m8⟩ := cells9 hrc
  have hfb : ∀ j, w3.frozen? ⟨w.heap.size, j, none⟩ = false := Lib.frozen_of_heap hbc
  have hfr : ∀ j, w3.frozen? ⟨w.heap.size + 1, j, none⟩ = false := Lib.frozen_of_heap hrc
  have hkeep : ∀ (X : World) (p : Addr) (v : Value) (b : Nat), p.block ≠ b → (X.setCell p v).heap[b]? = X.heap[b]? := fun X p v b h => Below.heap_setCell X p v b (fun e => h e.symm)
  clear h9 hrX hrp hkX hk3
  go_wp2
  obtain ⟨h9, hk9⟩ := put9 hrc (.int .i64 q.kind) (.bool q.b) (.bool q.d.neg) (.string q.d.digits) (.int .i64 q.d.exp) (.int .u64 q.u) (.int .i64 q.w) (.string q.s) (.slice a2 cl.length c2)
  refine bodyPost_ret (results_cell_row rfl _ _ (w.heap.size + 1) 27 _ (0, 0) _ rfl h9 Tryz.underlying27 rfl (by kernel_rfl)) rfl ⟨_, rfl, ?_, ?_⟩
  ·refine RepS.mono (fun b _ (hb : w.heap.size + 2 ≤ b) => (by omega : w.heap.size ≤ b)) ?_
   exact hrp3.keep hk9 fun b (hb : w.heap.size + 2 ≤ b) _ _ => by omega
  ·exact ⟨hk9.os.trans hkw3.os, hk9.tape.trans hkw3.tape, hk9.output.trans hkw3.output, Nat.le_trans hkw3.size hk9.size, fun k o hk _ => hk9.same k o (hkw3.same k o hk trivial) (by have := lt_of_some hk; omega)⟩
end Go.Tm
namespace Go.Tm
theorem mem_flatL' {x : Tree} : ∀ {l : List Tree}, x ∈ flatL l → ∃ k ∈ l, x ∈ k.flat
 | [], h => by rw [flatL] at h; cases h
 | y :: l, h => by
  rw [flatL] at h
  rcases List.mem_append.1 h with h | h
  ·exact ⟨y, List.mem_cons_self, h⟩
  ·obtain ⟨k, hk, hx⟩ := mem_flatL' h
   exact ⟨k, List.mem_cons_of_mem _ hk, hx⟩
theorem flat_node {x : Tree} {h : Hd} {l : List Tree} (hx : x ∈ (Tree.node h l).flat) : x = .node h l ∨ ∃ k ∈ l, x ∈ k.flat := by
 rw [Tree.flat] at hx
 rcases List.mem_cons.1 hx with h | h
 ·exact .inl h
 ·exact .inr (mem_flatL' h)
theorem cut_depth : ∀ (d : Nat) (t : Tree), (t.cut d).depth ≤ d + 1
 | 0, t => by rw [Tree.cut, leaf_depth]; exact Nat.le_refl _
 | d + 1, t => by
  rw [Tree.cut, Tree.depth]
  have : depthL ((t.l.take 40).map (Tree.cut d)) ≤ d + 1 := depthL_all fun x hx => by
   obtain ⟨y, _, rfl⟩ := List.mem_map.1 hx
   exact cut_depth d y
  omega
theorem cut_lens : ∀ (d : Nat) (t x : Tree), x ∈ (t.cut d).flat → x.l.length ≤ 40
 | 0, t, x, hx => by
  rw [Tree.cut] at hx
  rcases flat_node hx with rfl | ⟨k, hk, _⟩
  ·exact Nat.zero_le _
  ·cases hk
 | d + 1, t, x, hx => by
  have h0 := cut_len (d + 1) t
  rw [Tree.cut] at hx h0
  rcases flat_node hx with rfl | ⟨k, hk, hxk⟩
  ·exact h0
  ·obtain ⟨y, _, rfl⟩ := List.mem_map.1 hk
   exact cut_lens d y x hxk
theorem few_depth (t : Tree) : (fewT t).depth ≤ 18 := by
 unfold fewT
 split
 ·rw [leaf_depth]; decide
 ·exact cut_depth 17 t
theorem few_lens (t x : Tree) (hx : x ∈ (fewT t).flat) : x.l.length ≤ 40 := by
 unfold fewT at hx
 split at hx
 ·rcases flat_node hx with rfl | ⟨k, hk, _⟩
  ·exact Nat.zero_le _
  ·cases hk
 ·exact cut_lens 17 t x hx
theorem few_ok {t : Tree} (h : t.hd.okW) : (fewT t).hd.ok := by rw [few_hd]; exact cutHd_ok h
end Go.Tm
namespace Go.Tm
open Go.RowKit Go.Proofs
def digN (l : List Nat) : Nat := (l.takeWhile isDig).length
end Go.Tm
namespace Go.Tm
open Go.RowKit Go.Proofs
def nextB (s : ByteArray) (cs : List Nat) : Bool := decide (0 < s.size) && cs.contains (nth (bytesN s) 0)
def tailB (s : ByteArray) : ByteArray := s.extract 1 s.size
def digsB (s : ByteArray) : ByteArray := s.extract 0 (digN (bytesN s))
def restD (s : ByteArray) : ByteArray := s.extract (digN (bytesN s)) s.size
def wholeR (s : ByteArray) : ByteArray × ByteArray := if nextB s [48] then (⟨#[48]⟩, tailB s) else (digsB s, restD s)
def partR (s : ByteArray) : ByteArray × ByteArray := if nextB s [46] = true ∧ (digsB (tailB s)).size ≠ 0 then (digsB (tailB s), restD (tailB s)) else (⟨#[]⟩, s)
end Go.Tm
namespace Go.Tm
open Go.RowKit Go.Proofs
def signR (s : ByteArray) : Int × ByteArray := if nextB s [45] then (-1, tailB s) else (1, if nextB s [43] then tailB s else s)
def atoiV (d : ByteArray) : Int := match Lib.atoiAll d.data.toList with
 | .ok v => v
 | .range => Lib.atoiSat d.data.toList
 | _ => 0
def atoiOk (d : ByteArray) : Bool := match Lib.atoiAll d.data.toList with
 | .ok _ => true
 | _ => false
def powerR (s : ByteArray) : (Int × Bool) × ByteArray :=
 if nextB s [101, 69] = true ∧ (digsB (signR (tailB s)).2).size ≠ 0 then
  ((wrap64 ((signR (tailB s)).1 * atoiV (digsB (signR (tailB s)).2)), atoiOk (digsB (signR (tailB s)).2) && decide ((digsB (signR (tailB s)).2).size ≤ 4)), restD (signR (tailB s)).2)
 else ((0, true), s)
def wholeO (s : ByteArray) : ByteArray × ByteArray := wholeR (if nextB s [45] then tailB s else s)
def partO (s : ByteArray) : ByteArray × ByteArray := partR (wholeO s).2
def powerO (s : ByteArray) : (Int × Bool) × ByteArray := powerR (partO s).2
def makeO (s : ByteArray) : Dc × Int := makeB (nextB s [45]) ((wholeO s).1 ++ (partO s).1) (wrap64 ((powerO s).1.1 - ((partO s).1.size : Int)))
def parseM (s : ByteArray) : Dc × ByteArray × Int :=
 if (wholeO s).1.size = 0 ∨ (powerO s).1.2 = false then (noDc, s, 40)
 else if (makeO s).2 ≠ 0 then (noDc, s, (makeO s).2) else ((makeO s).1, (powerO s).2, 0)
end Go.Tm
namespace Go.Tm
open Go.RowKit Go.Proofs
def extX (h : Hd) : Dc × Bool :=
 if h.u ≠ 100 ∨ (parseM h.s).2.2 ≠ 0 ∨ (parseM h.s).2.1.size ≠ 0 then (noDc, false)
 else if (formatM (parseM h.s).1).2 ≠ 0 ∨ (formatM (parseM h.s).1).1 ≠ h.s then (noDc, false)
 else ((parseM h.s).1, true)
theorem parse_right_dec (s : ByteArray) (h : (parseM s).2.2 = 0) : decRight (parseM s).1 = true := by
 unfold parseM at h ⊢
 split at h
 ·cases h
 ·rename_i h1
  rw [if_neg h1]
  split at h
  ·rename_i h2; exact absurd h h2
  ·rename_i h2
   rw [if_neg h2]
   have h3 : (makeO s).2 = 0 := Decidable.not_not.1 h2
   unfold makeO at h3 ⊢
   exact makeB_right _ _ _ h3
theorem extX_right (h : Hd) (hx : (extX h).2 = true) : decRight (extX h).1 = true := by
 unfold extX at hx ⊢
 split at hx
 ·cases hx
 ·rename_i h1
  rw [if_neg h1]
  split at hx
  ·cases hx
  ·rename_i h2
   rw [if_neg h2]
   exact parse_right_dec _ (Decidable.not_not.1 fun e => h1 (.inr (.inl e)))
end Go.Tm
namespace Go.Tm
open Go.RowKit Go.Proofs
theorem sameOf4 {w W : World} (hk : Keep (fun k _ => k ≠ w.heap.size) w W) : Same w W := ⟨hk.os, hk.tape, hk.output, hk.size, fun k o ho _ => hk.same k o ho (by have := lt_of_some ho; omega)⟩
set_option maxRecDepth 100000 in
set_option maxHeartbeats 8000000 in
theorem ProjSorts.walk_any {E : Errs} (t : Tree) (lv : Value) (w : World) (hG : Glob w.heap.size E w) (hrep : t.RepW w lv) :
  Calls Tryz.prog 6 #[nodeV t.hd lv] w fun e w' => e = .returned (.bool true) ∧ Same w w' := by
 obtain ⟨ho, a, cap, rfl, hlen, hL⟩ := repW_node hrep
 have hfew := fun (W : World) (hk : Same w W) => few_any t _ W (hrep.same hk)
 have hsh := fun (W : World) (hk : Same w W) => shown_any (X := extX) extX_right (N := w.heap.size) (E := E) W (hG.same hk) hk.size
 have fok := few_ok ho
 have fde := few_depth t
 have fle := few_lens t
 have fhd := few_hd t
 obtain ⟨T, hT⟩ : ∃ T, fewT t = T := ⟨_, rfl⟩
 rw [hT] at hfew fok fde fle fhd
 rw [← fhd] at hfew
 have fde' : T.depth ≤ 1000000 := by omega
 obtain ⟨n, hn⟩ : ∃ n, t.l.length = n := ⟨_, rfl⟩
 obtain ⟨h, hh⟩ : ∃ h, t.hd = h := ⟨_, rfl⟩
 rw [hn, hh] at hfew
 rw [hn, hh]
 clear hT hn hh fhd hL hrep hlen ho fde
 obtain ⟨q, l⟩ := T
 simp only [Tree.hd_node, Tree.l_node] at hfew fok
 have hbn : (w.alloc (.cells #[.int .i64 h.kind, .bool h.b, .bool h.d.neg, .string h.d.digits, .int .i64 h.d.exp, .int .u64 (h.u : Int), .int .i64 h.w, .string h.s, .slice a n cap] 27)).heap[w.heap.size]? = some (.cells #[.int .i64 h.kind, .bool h.b, .bool h.d.neg, .string h.d.digits, .int .i64 h.d.exp, .int .u64 (h.u : Int), .int .i64 h.w, .string h.s, .slice a n cap] 27 (0, 0)) := World.alloc_heap_new w _
 have hk0 : Same w (w.alloc (.cells #[.int .i64 h.kind, .bool h.b, .bool h.d.neg, .string h.d.digits, .int .i64 h.d.exp, .int .u64 (h.u : Int), .int .i64 h.w, .string h.s, .slice a n cap] 27)) := (Keep.refl _ _).alloc _
 have hz0 : (w.alloc (.cells #[.int .i64 h.kind, .bool h.b, .bool h.d.neg, .string h.d.digits, .int .i64 h.d.exp, .int .u64 (h.u : Int), .int .i64 h.w, .string h.s, .slice a n cap] 27)).heap.size = w.heap.size + 1 := by simp
 go_enter Tryz.func6, Tryz.ntmps6
 go_wp2_with fail
 refine (hsh _ hk0).mono ?_
 rintro e w1 ⟨rfl, hk1⟩
 have hb1 := hk1.same _ _ hbn trivial
 have hkw1 := hk0.trans hk1
 have hzw := hk1.size
 rw [hz0] at hzw
 clear hk0 hk1 hz0 hbn hsh
 obtain ⟨n0, n1, n2, n3, n4, n5, n6, n7, n8⟩ := cells9 hb1
 go_wp2_with fail
 refine (hfew _ hkw1).mono ?_
 rintro e w2 ⟨lv2, rfl, hr2, hk2⟩
 obtain ⟨a2, c2, rfl⟩ := hr2.is_slice
 have hb2 := hk2.same _ _ hb1 trivial
 have hkw2 := hkw1.trans hk2
 clear n0 n1 n2 n3 n4 n5 n6 n7 n8 hfew
 obtain ⟨n0, n1, n2, n3, n4, n5, n6, n7, n8⟩ := cells9 hb2
 have hfz : ∀ j, w2.frozen? ⟨w.heap.size, j, none⟩ = false := Lib.frozen_of_heap hb2
 obtain ⟨h9, hk9⟩ := put9 hb2 (.int .i64 q.kind) (.bool q.b) (.bool q.d.neg) (.string q.d.digits) (.int .i64 q.d.exp) (.int .u64 (q.u : Int)) (.int .i64 q.w) (.string q.s) (.slice a2 l.length c2)
 have hr3 : RepS AnyB ((((((((((w2.setCell ⟨w.heap.size, 0, none⟩ (.int .i64 q.kind)).setCell ⟨w.heap.size, 1, none⟩ (.bool q.b)).setCell ⟨w.heap.size, 2, none⟩ (.bool q.d.neg)).setCell ⟨w.heap.size, 3, none⟩ (.string q.d.digits)).setCell ⟨w.heap.size, 4, none⟩ (.int .i64 q.d.exp)).setCell ⟨w.heap.size, 5, none⟩ (.int .u64 (q.u : Int))).setCell ⟨w.heap.size, 6, none⟩ (.int .i64 q.w)).setCell ⟨w.heap.size, 7, none⟩ (.string q.s)).setCell ⟨w.heap.size, 8, none⟩ (.slice a2 l.length c2))) l (.slice a2 l.length c2) := (hr2.keep hk9 fun b (hb : w1.heap.size ≤ b) _ _ => by omega).mono fun _ _ _ => trivial
 have hkw3 : Keep (fun k _ => k ≠ w.heap.size) w ((((((((((w2.setCell ⟨w.heap.size, 0, none⟩ (.int .i64 q.kind)).setCell ⟨w.heap.size, 1, none⟩ (.bool q.b)).setCell ⟨w.heap.size, 2, none⟩ (.bool q.d.neg)).setCell ⟨w.heap.size, 3, none⟩ (.string q.d.digits)).setCell ⟨w.heap.size, 4, none⟩ (.int .i64 q.d.exp)).setCell ⟨w.heap.size, 5, none⟩ (.int .u64 (q.u : Int))).setCell ⟨w.heap.size, 6, none⟩ (.int .i64 q.w)).setCell ⟨w.heap.size, 7, none⟩ (.string q.s)).setCell ⟨w.heap.size, 8, none⟩ (.slice a2 l.length c2))) := (Keep.of_same hkw2).trans hk9
 have hz3 : w.heap.size ≤ ((((((((((w2.setCell ⟨w.heap.size, 0, none⟩ (.int .i64 q.kind)).setCell ⟨w.heap.size, 1, none⟩ (.bool q.b)).setCell ⟨w.heap.size, 2, none⟩ (.bool q.d.neg)).setCell ⟨w.heap.size, 3, none⟩ (.string q.d.digits)).setCell ⟨w.heap.size, 4, none⟩ (.int .i64 q.d.exp)).setCell ⟨w.heap.size, 5, none⟩ (.int .u64 (q.u : Int))).setCell ⟨w.heap.size, 6, none⟩ (.int .i64 q.w)).setCell ⟨w.heap.size, 7, none⟩ (.string q.s)).setCell ⟨w.heap.size, 8, none⟩ (.slice a2 l.length c2))).heap.size := hkw3.size
 have hcA := fun W lv (hg : Glob w.heap.size E W) hr => sort_any (.node q l) AnyB lv W hg fde' fok hr (fun _ _ => trivial) fle
 have hcB := fun W lv hr => refSortJ_any (.node q l) AnyB lv W fde' fok hr (fun _ _ => trivial) fle
 have hcI := fun W lv (hg : Glob w.heap.size E W) hr => isCommon_any (.node q l) AnyB lv W hg fde' fok hr (fun _ _ => trivial) fle
 have hcJ := fun W lv hr => refIsCommon_any (.node q l) AnyB lv W fde' fok hr (fun _ _ => trivial) fle
 obtain ⟨AT, e1, hA⟩ : ∃ t e, sortTM (.node q l) = (t, e) := ⟨_, _, rfl⟩
 obtain ⟨ic, hic⟩ : ∃ b, isCommonM (.node q l) = b := ⟨_, rfl⟩
 rw [hA] at hcA hcB
 rw [hic] at hcI hcJ
 have hsm := fun W lv lv' h1 h2 => refSame_any AT AT AnyB lv lv' W h1 h2
 rw [(same_iff _ _).2 rfl] at hsm
 unfold OutC at hcA hcB
 obtain ⟨ah, al⟩ := AT
 simp only [Tree.hd_node, Tree.l_node] at hcA hcB hcI hcJ hsm
 have heq : ((e1 : Int) == e1) = true := by simp
 have hii : (ic == ic) = true := by simp
 clear hA hic fle fde' fok
 go_wp2_with fail
 clear n0 n1 n2 n3 n4 n5 n6 n7 n8 hfz hk9 hb2 hb1 hr2 hk2 hkw1 hkw2
 generalize ((((((((((w2.setCell ⟨w.heap.size, 0, none⟩ (.int .i64 q.kind)).setCell ⟨w.heap.size, 1, none⟩ (.bool q.b)).setCell ⟨w.heap.size, 2, none⟩ (.bool q.d.neg)).setCell ⟨w.heap.size, 3, none⟩ (.string q.d.digits)).setCell ⟨w.heap.size, 4, none⟩ (.int .i64 q.d.exp)).setCell ⟨w.heap.size, 5, none⟩ (.int .u64 (q.u : Int))).setCell ⟨w.heap.size, 6, none⟩ (.int .i64 q.w)).setCell ⟨w.heap.size, 7, none⟩ (.string q.s)).setCell ⟨w.heap.size, 8, none⟩ (.slice a2 l.length c2))) = W3 at h9 hr3 hkw3 hz3 ⊢
 have hG3 : Glob w.heap.size E W3 := hG.keep hkw3 fun k hlt _ => by omega
 refine (hcA _ _ hG3 hr3).mono ?_
 rintro e w4 ⟨lv3, rfl, hokA, hrA, hk4⟩
 obtain ⟨a3, c3, rfl⟩ := hrA.is_slice
 have hs45 : Same w4 (w4.alloc (.cells #[.int .i64 ah.kind, .bool ah.b, .bool ah.d.neg, .string ah.d.digits, .int .i64 ah.d.exp, .int .u64 (ah.u : Int), .int .i64 ah.w, .string ah.s, .slice a3 al.length c3] 27)) := (Keep.refl _ _).alloc _
 have hb5 := hs45.same _ _ (hk4.same _ _ h9 trivial) trivial
 have hkw5 := hkw3.trans (Keep.of_same (hk4.trans hs45))
 have hr5 := (hr3.same hk4).same hs45
 have hrA5 := hrA.same hs45
 have hbA5 : (w4.alloc (.cells #[.int .i64 ah.kind, .bool ah.b, .bool ah.d.neg, .string ah.d.digits, .int .i64 ah.d.exp, .int .u64 (ah.u : Int), .int .i64 ah.w, .string ah.s, .slice a3 al.length c3] 27)).heap[w4.heap.size]? = some (.cells #[.int .i64 ah.kind, .bool ah.b, .bool ah.d.neg, .string ah.d.digits, .int .i64 ah.d.exp, .int .u64 (ah.u : Int), .int .i64 ah.w, .string ah.s, .slice a3 al.length c3] 27 (0, 0)) := World.alloc_heap_new w4 _
 obtain ⟨n0, n1, n2, n3, n4, n5, n6, n7, n8⟩ := cells9 hb5
 clear h9 hk4 hkw3 hz3 hG3 hcA hr3 hrA hs45
 go_wp2_with fail
 generalize (w4.alloc (.cells #[.int .i64 ah.kind, .bool ah.b, .bool ah.d.neg, .string ah.d.digits, .int .i64 ah.d.exp, .int .u64 (ah.u : Int), .int .i64 ah.w, .string ah.s, .slice a3 al.length c3] 27)) = w5 at hb5 hkw5 hr5 hrA5 hbA5 n0 n1 n2 n3 n4 n5 n6 n7 n8 ⊢
 generalize w4.heap.size = ba at hbA5 ⊢
 refine (hcB _ _ hr5).mono ?_
 rintro e w6 ⟨lv4, rfl, hokB, hrB, hk6⟩
 obtain ⟨a5, c5, rfl⟩ := hrB.is_slice
 have hs67 : Same w6 (w6.alloc (.cells #[.int .i64 ah.kind, .bool ah.b, .bool ah.d.neg, .string ah.d.digits, .int .i64 ah.d.exp, .int .u64 (ah.u : Int), .int .i64 ah.w, .string ah.s, .slice a5 al.length c5] 27)) := (Keep.refl _ _).alloc _
 have hs57 := hk6.trans hs67
 have hb := hs57.same _ _ hb5 trivial
 have hbA := hs57.same _ _ hbA5 trivial
 have hkw := hkw5.trans (Keep.of_same hs57)
 have hr := hr5.same hs57
 have hrA := hrA5.same hs57
 have hrB := hrB.same hs67
 have hbB : (w6.alloc (.cells #[.int .i64 ah.kind, .bool ah.b, .bool ah.d.neg, .string ah.d.digits, .int .i64 ah.d.exp, .int .u64 (ah.u : Int), .int .i64 ah.w, .string ah.s, .slice a5 al.length c5] 27)).heap[w6.heap.size]? = some (.cells #[.int .i64 ah.kind, .bool ah.b, .bool ah.d.neg, .string ah.d.digits, .int .i64 ah.d.exp, .int .u64 (ah.u : Int), .int .i64 ah.w, .string ah.s, .slice a5 al.length c5] 27 (0, 0)) := World.alloc_heap_new w6 _
 clear n0 n1 n2 n3 n4 n5 n6 n7 n8 hcB hb5 hkw5 hr5 hrA5 hbA5 hk6 hs67 hs57
 go_wp2_with fail
 generalize (w6.alloc (.cells #[.int .i64 ah.kind, .bool ah.b, .bool ah.d.neg, .string ah.d.digits, .int .i64 ah.d.exp, .int .u64 (ah.u : Int), .int .i64 ah.w, .string ah.s, .slice a5 al.length c5] 27)) = w7 at hb hbA hkw hr hrA hrB hbB ⊢
 generalize w6.heap.size = bb at hbB ⊢
 refine (wpIn_wide (n := 0)).1 ?_
 refine wpIn_region_shut (n := 0) (fun Z => Z.heap[w.heap.size]? = some (.cells #[.int .i64 q.kind, .bool q.b, .bool q.d.neg, .string q.d.digits, .int .i64 q.d.exp, .int .u64 (q.u : Int), .int .i64 q.w, .string q.s, .slice a2 l.length c2] 27 (0, 0)) ∧ Z.heap[ba]? = some (.cells #[.int .i64 ah.kind, .bool ah.b, .bool ah.d.neg, .string ah.d.digits, .int .i64 ah.d.exp, .int .u64 (ah.u : Int), .int .i64 ah.w, .string ah.s, .slice a3 al.length c3] 27 (0, 0)) ∧ Z.heap[bb]? = some (.cells #[.int .i64 ah.kind, .bool ah.b, .bool ah.d.neg, .string ah.d.digits, .int .i64 ah.d.exp, .int .u64 (ah.u : Int), .int .i64 ah.w, .string ah.s, .slice a5 al.length c5] 27 (0, 0))) reads (fun _ => trivial) rfl (by kernel_rfl) (by kernel_rfl) ⟨hb, hbA, hbB⟩ ?_
 obtain ⟨n0, n1, n2, n3, n4, n5, n6, n7, n8⟩ := cells9 hb; obtain ⟨x0, x1, x2, x3, x4, x5, x6, x7, x8⟩ := cells9 hbA; obtain ⟨y0, y1, y2, y3, y4, y5, y6, y7, y8⟩ := cells9 hbB
 iterate 2 (refine shT_x rfl rfl ?_; intro K hK w' hs; obtain ⟨p0, p1, p2, p3, p4, p5, p6, p7, p8⟩ := cells9 hs.1; obtain ⟨r0, r1, r2, r3, r4, r5, r6, r7, r8⟩ := cells9 hs.2.1; obtain ⟨s0, s1, s2, s3, s4, s5, s6, s7, s8⟩ := cells9 hs.2.2; go_simp; refine hK _ _ ?_; clear hK K p0 p1 p2 p3 p4 p5 p6 p7 p8 r0 r1 r2 r3 r4 r5 r6 r7 r8 s0 s1 s2 s3 s4 s5 s6 s7 s8 hs w')
 iterate 2 (refine shT_gx (by kernel_rfl) rfl ?_; intro K hK w' hs; obtain ⟨p0, p1, p2, p3, p4, p5, p6, p7, p8⟩ := cells9 hs.1; obtain ⟨r0, r1, r2, r3, r4, r5, r6, r7, r8⟩ := cells9 hs.2.1; obtain ⟨s0, s1, s2, s3, s4, s5, s6, s7, s8⟩ := cells9 hs.2.2; go_simp; refine hK _ _ ?_; clear hK K p0 p1 p2 p3 p4 p5 p6 p7 p8 r0 r1 r2 r3 r4 r5 r6 r7 r8 s0 s1 s2 s3 s4 s5 s6 s7 s8 hs w')
 refine shT_gc (by kernel_rfl) rfl ?_
 intro K hK
 go_simp
 have hdr : Same w7 w7.drew := (Keep.refl _ _).drew
 refine (callsW (hsm _ _ _ (hrA.same hdr) (hrB.same hdr))).mono ?_
 rintro e w8 ⟨rfl, hk8⟩
 replace hk8 : Same w7 w8 := hdr.trans hk8
 replace hb := hk8.same _ _ hb trivial
 replace hbA := hk8.same _ _ hbA trivial
 replace hbB := hk8.same _ _ hbB trivial
 replace hr := hr.same hk8
 replace hkw := hkw.trans (Keep.of_same hk8)
 refine hK _ _ ⟨hb, hbA, hbB⟩ ?_
 clear hK K hk8 hdr hrA hrB
 clear n0 n1 n2 n3 n4 n5 n6 n7 n8 x0 x1 x2 x3 x4 x5 x6 x7 x8 y0 y1 y2 y3 y4 y5 y6 y7 y8
 obtain ⟨n0, n1, n2, n3, n4, n5, n6, n7, n8⟩ := cells9 hb; obtain ⟨x0, x1, x2, x3, x4, x5, x6, x7, x8⟩ := cells9 hbA; obtain ⟨y0, y1, y2, y3, y4, y5, y6, y7, y8⟩ := cells9 hbB
 iterate 2 (refine shT_x rfl rfl ?_; intro K hK w' hs; obtain ⟨p0, p1, p2, p3, p4, p5, p6, p7, p8⟩ := cells9 hs.1; obtain ⟨r0, r1, r2, r3, r4, r5, r6, r7, r8⟩ := cells9 hs.2.1; obtain ⟨s0, s1, s2, s3, s4, s5, s6, s7, s8⟩ := cells9 hs.2.2; go_simp; refine hK _ _ ?_; clear hK K p0 p1 p2 p3 p4 p5 p6 p7 p8 r0 r1 r2 r3 r4 r5 r6 r7 r8 s0 s1 s2 s3 s4 s5 s6 s7 s8 hs w')
 iterate 3 (refine shT_gx (by kernel_rfl) rfl ?_; intro K hK w' hs; obtain ⟨p0, p1, p2, p3, p4, p5, p6, p7, p8⟩ := cells9 hs.1; obtain ⟨r0, r1, r2, r3, r4, r5, r6, r7, r8⟩ := cells9 hs.2.1; obtain ⟨s0, s1, s2, s3, s4, s5, s6, s7, s8⟩ := cells9 hs.2.2; go_simp; refine hK _ _ ?_; clear hK K p0 p1 p2 p3 p4 p5 p6 p7 p8 r0 r1 r2 r3 r4 r5 r6 r7 r8 s0 s1 s2 s3 s4 s5 s6 s7 s8 hs w')
 iterate 2 (refine shT_x rfl rfl ?_; intro K hK w' hs; obtain ⟨p0, p1, p2, p3, p4, p5, p6, p7, p8⟩ := cells9 hs.1; obtain ⟨r0, r1, r2, r3, r4, r5, r6, r7, r8⟩ := cells9 hs.2.1; obtain ⟨s0, s1, s2, s3, s4, s5, s6, s7, s8⟩ := cells9 hs.2.2; go_simp; refine hK _ _ ?_; clear hK K p0 p1 p2 p3 p4 p5 p6 p7 p8 r0 r1 r2 r3 r4 r5 r6 r7 r8 s0 s1 s2 s3 s4 s5 s6 s7 s8 hs w')
 refine shT_gx (by kernel_rfl) rfl ?_; intro K hK w' hs; obtain ⟨p0, p1, p2, p3, p4, p5, p6, p7, p8⟩ := cells9 hs.1; obtain ⟨r0, r1, r2, r3, r4, r5, r6, r7, r8⟩ := cells9 hs.2.1; obtain ⟨s0, s1, s2, s3, s4, s5, s6, s7, s8⟩ := cells9 hs.2.2; go_simp; refine hK _ _ ?_; clear hK K p0 p1 p2 p3 p4 p5 p6 p7 p8 r0 r1 r2 r3 r4 r5 r6 r7 r8 s0 s1 s2 s3 s4 s5 s6 s7 s8 hs w'
 refine shT_gc (by kernel_rfl) rfl ?_
 intro K hK
 go_simp
 refine (callsW (hcI _ _ (hG.keep hkw fun k hlt _ => by omega) hr)).mono ?_
 rintro e w9 ⟨rfl, hk8⟩
 replace hb := hk8.same _ _ hb trivial
 replace hbA := hk8.same _ _ hbA trivial
 replace hbB := hk8.same _ _ hbB trivial
 replace hr := hr.same hk8
 replace hkw := hkw.trans (Keep.of_same hk8)
 refine hK _ _ ⟨hb, hbA, hbB⟩ ?_
 clear hK K hk8
 clear n0 n1 n2 n3 n4 n5 n6 n7 n8 x0 x1 x2 x3 x4 x5 x6 x7 x8 y0 y1 y2 y3 y4 y5 y6 y7 y8
 obtain ⟨n0, n1, n2, n3, n4, n5, n6, n7, n8⟩ := cells9 hb; obtain ⟨x0, x1, x2, x3, x4, x5, x6, x7, x8⟩ := cells9 hbA; obtain ⟨y0, y1, y2, y3, y4, y5, y6, y7, y8⟩ := cells9 hbB
 refine shT_gx (by kernel_rfl) rfl ?_; intro K hK w' hs; obtain ⟨p0, p1, p2, p3, p4, p5, p6, p7, p8⟩ := cells9 hs.1; obtain ⟨r0, r1, r2, r3, r4, r5, r6, r7, r8⟩ := cells9 hs.2.1; obtain ⟨s0, s1, s2, s3, s4, s5, s6, s7, s8⟩ := cells9 hs.2.2; go_simp; refine hK _ _ ?_; clear hK K p0 p1 p2 p3 p4 p5 p6 p7 p8 r0 r1 r2 r3 r4 r5 r6 r7 r8 s0 s1 s2 s3 s4 s5 s6 s7 s8 hs w'
 refine shT_gc (by kernel_rfl) rfl ?_
 intro K hK
 go_simp
 refine (callsW (hcJ _ _ hr)).mono ?_
 rintro e w10 ⟨rfl, hk8⟩
 replace hb := hk8.same _ _ hb trivial
 replace hbA := hk8.same _ _ hbA trivial
 replace hbB := hk8.same _ _ hbB trivial
 replace hkw := hkw.trans (Keep.of_same hk8)
 refine hK _ _ ⟨hb, hbA, hbB⟩ ?_
 clear hK K hk8
 clear n0 n1 n2 n3 n4 n5 n6 n7 n8 x0 x1 x2 x3 x4 x5 x6 x7 x8 y0 y1 y2 y3 y4 y5 y6 y7 y8
 obtain ⟨n0, n1, n2, n3, n4, n5, n6, n7, n8⟩ := cells9 hb; obtain ⟨x0, x1, x2, x3, x4, x5, x6, x7, x8⟩ := cells9 hbA; obtain ⟨y0, y1, y2, y3, y4, y5, y6, y7, y8⟩ := cells9 hbB
 refine shT_gx (by kernel_rfl) rfl ?_; intro K hK w' hs; obtain ⟨p0, p1, p2, p3, p4, p5, p6, p7, p8⟩ := cells9 hs.1; obtain ⟨r0, r1, r2, r3, r4, r5, r6, r7, r8⟩ := cells9 hs.2.1; obtain ⟨s0, s1, s2, s3, s4, s5, s6, s7, s8⟩ := cells9 hs.2.2; go_simp; refine hK _ _ ?_; clear hK K p0 p1 p2 p3 p4 p5 p6 p7 p8 r0 r1 r2 r3 r4 r5 r6 r7 r8 s0 s1 s2 s3 s4 s5 s6 s7 s8 hs w'
 iterate 2 (refine shT_x rfl rfl ?_; intro K hK w' hs; obtain ⟨p0, p1, p2, p3, p4, p5, p6, p7, p8⟩ := cells9 hs.1; obtain ⟨r0, r1, r2, r3, r4, r5, r6, r7, r8⟩ := cells9 hs.2.1; obtain ⟨s0, s1, s2, s3, s4, s5, s6, s7, s8⟩ := cells9 hs.2.2; go_simp; refine hK _ _ ?_; clear hK K p0 p1 p2 p3 p4 p5 p6 p7 p8 r0 r1 r2 r3 r4 r5 r6 r7 r8 s0 s1 s2 s3 s4 s5 s6 s7 s8 hs w')
 refine shT_nil ?_
 go_wp2
 go_ret
 exact ⟨rfl, sameOf4 hkw⟩
end Go.Tm
