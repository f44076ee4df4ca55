/-
  Part 7 of what the claim leans on: contracts of the functions that the law reaches, and plain facts of what they compute (joined by wip/merge.py out of the texts named behind each mark). Conditions: the theorems' own.
-/
import Derived.Deep.QuietTactic
import Derived.BigQuiet
import Derived.Test.YthledjlechdbiaaGreatDoorSortsClaimF
set_option linter.unusedVariables false
namespace Go.Tm
open Go.RowKit Go.Proofs
theorem unpairs_get : ∀ (O : List (Tree × Tree)) (c : Nat) (h : c < O.length), (unpairs O)[2 * c]? = some O[c].1 ∧ (unpairs O)[2 * c + 1]? = some O[c].2
 | p :: O, 0, h => by rw [unpairs_cons]; exact ⟨rfl, rfl⟩
 | p :: O, c + 1, h => by
  have ih := unpairs_get O c (by simpa using h)
  rw [unpairs_cons, show 2 * (c + 1) = 2 * c + 1 + 1 by omega]
  simp only [List.getElem?_cons_succ, List.getElem_cons_succ]
  exact ih
theorem unpairs_take : ∀ (O : List (Tree × Tree)) (c : Nat), (unpairs O).take (2 * c) = unpairs (O.take c)
 | [], c => by simp [unpairs]
 | p :: O, 0 => rfl
 | p :: O, c + 1 => by rw [unpairs_cons, show 2 * (c + 1) = 2 * c + 1 + 1 by omega, List.take_succ_cons, List.take_succ_cons, unpairs_take O c, List.take_succ_cons, unpairs_cons]
theorem unpairs_drop : ∀ (O : List (Tree × Tree)) (c : Nat), (unpairs O).drop (2 * c) = unpairs (O.drop c)
 | [], c => by simp [unpairs]
 | p :: O, 0 => rfl
 | p :: O, c + 1 => by rw [unpairs_cons, show 2 * (c + 1) = 2 * c + 1 + 1 by omega, List.drop_succ_cons, List.drop_succ_cons, unpairs_drop O c, List.drop_succ_cons]
theorem ins_nodes (p : Tree × Tree) (O : List (Tree × Tree)) {c : Nat} (hc : atP p.1.hd.s O = c) : (unpairs O).take (2 * c) ++ [p.1, p.2] ++ (unpairs O).drop (2 * c) = unpairs (insP p O) := by
 rw [insP_at, hc, unpairs_take, unpairs_drop, unpairs_append, unpairs_cons]
 simp
def Old (S : Nat → Prop) (w : World) : Nat → Prop := fun b => S b ∧ b < w.heap.size
set_option maxRecDepth 100000 in
set_option maxHeartbeats 4000000 in
theorem refSort_any (S : Nat → Prop) (ps : List (Tree × Tree)) (lv : Value) (w : World) (hr : RepS S w (unpairs ps) lv) (h20 : ps.length ≤ 20) (hS : ∀ b, w.heap.size ≤ b → S b) :
  Calls Tryz.prog 48 #[lv] w fun e w' => ∃ v', e = .returned v' ∧ RepS S w' (unpairs (sortP ps)) v' ∧ Same w w' := by
 have hr0 : RepS (Old S w) w (unpairs ps) lv := hr.mono fun b hb hs => ⟨hs, hb⟩
 have hlen := unpairs_len ps
 obtain ⟨_, la, lc, rfl, hcap, hget⟩ := hr0.shape
 obtain ⟨n, hn⟩ : ∃ n, (unpairs ps).length = n := ⟨_, rfl⟩
 rw [hn] at hlen hcap hr0 ⊢
 have hn40 : n ≤ 40 := by omega
 have HN := Lib.hid hlen
 clear hr hn hlen
 go_enter Tryz.func48, Tryz.ntmps48
 go_wp2
 go_loopw [3, 4] (fun ov iv wr => ∃ (p j : Nat), p = 2 * j ∧ j ≤ ps.length ∧ iv = .int .i64 (p : Int) ∧ OwnL S wr w.heap.size ov (unpairs (sortP (ps.take j))) ∧ Same w wr) (fun _ iv _ => n - (RowKit.intOf iv).toNat)
 case atStart => exact ⟨0, 0, rfl, Nat.zero_le _, rfl, OwnL.nil _ _ _, Keep.refl _ _⟩
 case round =>
  obtain ⟨p, j, hpj, hj, rfl, hown, hsm⟩ := hrel
  by_cases hlt : j < ps.length
  ·have hO : (sortP (ps.take j)).length = j := by rw [(sortP_perm _).length_eq, List.length_take]; omega
   have hsucc := sortP_succ ps j hlt
   obtain ⟨O, hOe⟩ : ∃ O, sortP (ps.take j) = O := ⟨_, rfl⟩
   rw [hOe] at hown hO hsucc
   have hOl := unpairs_len O
   have hul := unpairs_get ps j hlt
   obtain ⟨i0, e0⟩ := List.getElem?_eq_some_iff.1 hul.1
   obtain ⟨i1, e1⟩ := List.getElem?_eq_some_iff.1 hul.2
   have hg0 := hget _ i0
   have hg1 := hget _ i1
   rw [e0] at hg0
   rw [e1] at hg1
   obtain ⟨⟨kk, kv⟩, hkv⟩ : ∃ q, ps[j] = q := ⟨_, rfl⟩
   rw [hkv] at hg0 hg1 hsucc
   rw [← hpj] at hg0 hg1
   simp only at hg0 hg1
   obtain ⟨lb, lo, kl, rfl, hSb, hcb, hkr, hkok, hkra⟩ := hg0
   obtain ⟨lb2, lo2, vl, hbb, hSb2, hcb2, hvr, hvok, hvra⟩ := hg1
   cases hbb
   obtain ⟨ka, kc, rfl⟩ := hkr.is_slice
   obtain ⟨va, vc, rfl⟩ := hvr.is_slice
   have HSU := Lib.hid hsucc
   have hnp : p + 1 < n := by have := HN.out; omega
   have HPJ := Lib.hid hpj
   have hp38 : p ≤ 38 := by omega
   have hpn : p < n := by omega
   have hpI : decide ((p : Int) + 1 < (n : Int)) = true := decide_eq_true (by omega)
   clear hul i0 e0 i1 e1 hget hOe hsucc hcb hcb2 hkv hSb2 hpj
   have hform := hown.form
   obtain ⟨m, hm⟩ : ∃ m, (unpairs O).length = m := ⟨_, rfl⟩
   rw [hm] at hOl hform
   have hm38 : m ≤ 38 := by have := HPJ.out; omega
   have HM := Lib.hid hOl
   clear hOl
   rcases hform with ⟨rfl, hO0⟩ | ⟨gb, oc, rfl, hmc⟩
   ·have hm0 : m = 0 := by rw [← hm, hO0]; rfl
    subst hm0
    have hc0 : atP kk.hd.s O = 0 := by
     have : O = [] := List.length_eq_zero_iff.1 (by have := HM.out; omega)
     rw [this]; rfl
    go_wp2_with fail
    go_loopw [5] (fun qv wr2 => qv = .int .i64 0 ∧ Same wr wr2) (fun _ _ => 0)
    case atStart => exact ⟨rfl, Keep.refl _ _⟩
    case round =>
     obtain ⟨rfl, hsm2⟩ := hrel
     have hd0 : decide ((0 : Int) < 0) = false := by decide
     go_wp2_with fail
     go_quiet (fail)
     go_wp2_with fail
     have hsm3 := hsm2.drewN nq
     generalize (wr.drewN nq) = W0 at hsm3 ⊢
     have hqc : 0 = 2 * 0 := rfl
     have HQC := Lib.hid hqc
     have hat := hc0
     clear hqc hsm2 hd0
     have hown3 : OwnL S W0 w.heap.size (.slice none 0 0) (unpairs O) := hown.same hsm3
     have hsw0 : Same w W0 := hsm.trans hsm3
     have hrepO : RepS (Old S W0) W0 (unpairs O) (.slice none 0 0) := (hown3.rep hS (by rw [hm]; omega)).mono fun b hb hs => ⟨hs, hb⟩
     have hr1' : RepS (Old S W0) W0 ((unpairs O).take 0) (.slice none 0 0) := by rw [List.take_zero]; exact RepS.nil _ _
     have hr2' : RepS (Old S W0) W0 ((unpairs O).drop 0) (.slice none 0 0) := by rw [hO0]; exact RepS.nil _ _
     have hkr' : RepS (Old S W0) W0 kk.l (.slice ka kk.l.length kc) := (hkr.same hsw0).mono fun b hb h => ⟨h.1, hb⟩
     have hvr' : RepS (Old S W0) W0 kv.l (.slice va kv.l.length vc) := (hvr.same hsw0).mono fun b hb h => ⟨h.1, hb⟩
     have ra0' := rangeAt_same hsw0 hkra
     have ra1' := rangeAt_same hsw0 hvra
     refine (wpIn_wide (n := 0)).1 ?_
     refine wpIn_region_float (n := 0) (fun Z => Z.rangeAt lb (lo + p * 9) (nodeCs kk.hd (.slice ka kk.l.length kc)) ∧ Z.rangeAt lb (lo + (p + 1) * 9) (nodeCs kv.hd (.slice va kv.l.length vc))) reads 4 (fun _ => trivial) rfl (by kernel_rfl) rfl (by kernel_rfl) ⟨ra0', ra1'⟩ ?_
     simp only [eraseL]
     have hdr : Same W0 W0.drew := (Keep.refl _ _).drew
     have hz0 : W0.drew.heap.size = W0.heap.size := rfl
     generalize W0.drew = WD at hdr hz0 ⊢
     have hsw : Same w WD := hsw0.trans hdr
     have hr1 : RepS (Old S WD) WD ((unpairs O).take 0) (.slice none 0 0) := (hr1'.same hdr).mono fun b hb h => ⟨h.1, hb⟩
     have hr2 : RepS (Old S WD) WD ((unpairs O).drop 0) (.slice none 0 0) := (hr2'.same hdr).mono fun b hb h => ⟨h.1, hb⟩
     have hkr3 : RepS (Old S WD) WD kk.l (.slice ka kk.l.length kc) := (hkr'.same hdr).mono fun b hb h => ⟨h.1, hb⟩
     have hvr3 : RepS (Old S WD) WD kv.l (.slice va kv.l.length vc) := (hvr'.same hdr).mono fun b hb h => ⟨h.1, hb⟩
     have ra0 := rangeAt_same hdr ra0'
     have ra1 := rangeAt_same hdr ra1'
     have hszw := hsw.size
     have hSn : ∀ b, WD.heap.size ≤ b → S b := fun b hb => hS b (by omega)
     clear hr1' hr2' hkr' hvr' ra0' ra1' hrepO hown3 hz0 hdr hsw0 hown hsm hsm3
     obtain ⟨x0, x1, x2, x3, x4, x5, x6, x7, x8⟩ := nodeAt_of ra0
     obtain ⟨y0, y1, y2, y3, y4, y5, y6, y7, y8⟩ := nodeAt_of ra1
     have g2 : ((p : Int) + 1).toNat = p + 1 := by omega
     have g0 : 0 ≤ (p : Int) + 1 := by omega
     have g3 : (p : Int) + 1 < n := by omega
     have g1 : IntKind.i64.wrap ((p : Int) + 1) = (p : Int) + 1 := IntWalk.i64_in _ (by omega)
     iterate 13 (refine shA_x rfl rfl rfl ?_; intro K hK w' hs; obtain ⟨r0, r1, r2, r3, r4, r5, r6, r7, r8⟩ := nodeAt_of hs.1; obtain ⟨s0, s1, s2, s3, s4, s5, s6, s7, s8⟩ := nodeAt_of hs.2; go_simp; refine hK _ _ ?_; clear hK K r0 r1 r2 r3 r4 r5 r6 r7 r8 s0 s1 s2 s3 s4 s5 s6 s7 s8 hs w')
     clear g0 g1 g2 g3 x0 x1 x2 x3 x4 x5 x6 x7 x8 y0 y1 y2 y3 y4 y5 y6 y7 y8
     refine shA_c rfl rfl rfl ?now1 ?_
     case now1 =>
      obtain ⟨v1, W1, hrunA, hown1, hgA, hvA⟩ := run_append_rep 25 (OwnL.nil S WD WD.heap.size) (hr1.mono fun b hb h => (⟨h.1, by intro e; cases e⟩ : _ ∧ _)) (by simp only [List.length_take, List.length_nil, hm]; omega) (Nat.le_refl _)
      have hkX : Same WD W1 := (Keep.refl _ _).grown hgA fun r hr => by cases hr
      refine shT_c rfl rfl ?_
      intro K hK
      refine oper_append1 _ _ rfl rfl rfl hrunA ?_
      refine hK _ _ ⟨rangeAt_same hkX ra0, rangeAt_same hkX ra1⟩ ?_
      clear hK K hrunA hgA hvA
      refine shT_c rfl rfl ?_
      intro K hK
      go_simp
      have hk2 : Same W1 (W1.alloc (.cells #[.int .i64 kk.hd.kind, .bool kk.hd.b, .bool kk.hd.d.neg, .string kk.hd.d.digits, .int .i64 kk.hd.d.exp, .int .u64 (kk.hd.u : Int), .int .i64 kk.hd.w, .string kk.hd.s, .slice ka kk.l.length kc, .int .i64 kv.hd.kind, .bool kv.hd.b, .bool kv.hd.d.neg, .string kv.hd.d.digits, .int .i64 kv.hd.d.exp, .int .u64 (kv.hd.u : Int), .int .i64 kv.hd.w, .string kv.hd.s, .slice va kv.l.length vc] 27)) := (Keep.refl _ _).alloc _
      have hbb : (W1.alloc (.cells #[.int .i64 kk.hd.kind, .bool kk.hd.b, .bool kk.hd.d.neg, .string kk.hd.d.digits, .int .i64 kk.hd.d.exp, .int .u64 (kk.hd.u : Int), .int .i64 kk.hd.w, .string kk.hd.s, .slice ka kk.l.length kc, .int .i64 kv.hd.kind, .bool kv.hd.b, .bool kv.hd.d.neg, .string kv.hd.d.digits, .int .i64 kv.hd.d.exp, .int .u64 (kv.hd.u : Int), .int .i64 kv.hd.w, .string kv.hd.s, .slice va kv.l.length vc] 27)).heap[W1.heap.size]? = some (.cells #[.int .i64 kk.hd.kind, .bool kk.hd.b, .bool kk.hd.d.neg, .string kk.hd.d.digits, .int .i64 kk.hd.d.exp, .int .u64 (kk.hd.u : Int), .int .i64 kk.hd.w, .string kk.hd.s, .slice ka kk.l.length kc, .int .i64 kv.hd.kind, .bool kv.hd.b, .bool kv.hd.d.neg, .string kv.hd.d.digits, .int .i64 kv.hd.d.exp, .int .u64 (kv.hd.u : Int), .int .i64 kv.hd.w, .string kv.hd.s, .slice va kv.l.length vc] 27 (0, 0)) := World.alloc_heap_new W1 _
      have hkX2 := hkX.trans hk2
      refine hK _ _ ⟨rangeAt_same hkX2 ra0, rangeAt_same hkX2 ra1⟩ ?_
      clear hK K
      generalize (W1.alloc (.cells #[.int .i64 kk.hd.kind, .bool kk.hd.b, .bool kk.hd.d.neg, .string kk.hd.d.digits, .int .i64 kk.hd.d.exp, .int .u64 (kk.hd.u : Int), .int .i64 kk.hd.w, .string kk.hd.s, .slice ka kk.l.length kc, .int .i64 kv.hd.kind, .bool kv.hd.b, .bool kv.hd.d.neg, .string kv.hd.d.digits, .int .i64 kv.hd.d.exp, .int .u64 (kv.hd.u : Int), .int .i64 kv.hd.w, .string kv.hd.s, .slice va kv.l.length vc] 27)) = W2 at hk2 hbb hkX2 ⊢
      have hzX := hkX.size
      obtain ⟨v2, W3, hrunB, hown2, hgB, hvB⟩ := run_append_rep 25 (hown1.same hk2) (rep_two (S := fun b => S b ∧ v1.ownBlock ≠ some b) hbb ⟨hSn _ (by omega), hown1.lt (Nat.le_refl _)⟩ hkok ((hkr3.same hkX2).mono fun b hb h => ⟨h.1, hown1.apart h.2⟩) hvok ((hvr3.same hkX2).mono fun b hb h => ⟨h.1, hown1.apart h.2⟩)) (by simp only [List.length_append, List.length_take, List.length_cons, List.length_nil, hm]; omega) hkX2.size
      refine shT_c rfl rfl ?_
      intro K hK
      refine oper_append1 _ _ rfl rfl rfl hrunB ?_
      have hkY : Same WD W3 := same_grown hkX2 (Nat.le_refl _) (hown1.same hk2) hgB
      refine hK _ _ ⟨rangeAt_same hkY ra0, rangeAt_same hkY ra1⟩ ?_
      clear hK K hrunB hvB hkY
      have hk3 : Same WD W3 := same_grown (hkX.trans hk2) (Nat.le_refl _) (hown1.same hk2) hgB
      refine shT_x rfl rfl ?_; intro K hK w' hs; go_simp; refine hK _ _ ?_; clear hK K hs w'
      refine shT_nil ?_
      obtain ⟨v3, W4, hrunC, hown4, hgC, hvC⟩ := run_append_rep 25 hown2 ((hr2.same hk3).mono fun b hb h => (⟨h.1, hown2.apart (by have := h.2; omega)⟩ : _ ∧ _)) (by simp only [List.length_append, List.length_take, List.length_drop, List.length_cons, List.length_nil, hm]; omega) (Nat.le_trans (Nat.le_refl _) hk3.size)
      have hk4 : Same WD W4 := same_grown hk3 (Nat.le_refl _) hown2 hgC
      have hres : OwnL S W4 w.heap.size v3 (unpairs (sortP (ps.take (j + 1)))) := by
       rw [HSU.out, ← ins_nodes (kk, kv) O (c := 0) hat, ← HQC.out]
       exact hown4.base (by omega)
      have hsm4 : Same w W4 := hsw.trans hk4
      have hn2 : n - (p + 2) < n - p := by omega
      clear hown2 hown1 hgB hgC hk2 hk3 hk4 hown4 hr1 hr2 hkr3 hvr3
      go_wp2_with (first | (at_builtin; refine wpList_append1 rfl _ _ rfl rfl rfl hrunC ?_))
      go_roundw
      case rel => exact ⟨p + 2, j + 1, by have := HPJ.out; omega, by omega, by go_num, hres, hsm4⟩
      case measure => simp [RowKit.intOf]; omega
     intro K hK
     go_simp
     have hkX : Same WD (WD.alloc (.cells #[.int .i64 kk.hd.kind, .bool kk.hd.b, .bool kk.hd.d.neg, .string kk.hd.d.digits, .int .i64 kk.hd.d.exp, .int .u64 (kk.hd.u : Int), .int .i64 kk.hd.w, .string kk.hd.s, .slice ka kk.l.length kc, .int .i64 kv.hd.kind, .bool kv.hd.b, .bool kv.hd.d.neg, .string kv.hd.d.digits, .int .i64 kv.hd.d.exp, .int .u64 (kv.hd.u : Int), .int .i64 kv.hd.w, .string kv.hd.s, .slice va kv.l.length vc] 27)) := (Keep.refl _ _).alloc _
     have hbb : (WD.alloc (.cells #[.int .i64 kk.hd.kind, .bool kk.hd.b, .bool kk.hd.d.neg, .string kk.hd.d.digits, .int .i64 kk.hd.d.exp, .int .u64 (kk.hd.u : Int), .int .i64 kk.hd.w, .string kk.hd.s, .slice ka kk.l.length kc, .int .i64 kv.hd.kind, .bool kv.hd.b, .bool kv.hd.d.neg, .string kv.hd.d.digits, .int .i64 kv.hd.d.exp, .int .u64 (kv.hd.u : Int), .int .i64 kv.hd.w, .string kv.hd.s, .slice va kv.l.length vc] 27)).heap[WD.heap.size]? = some (.cells #[.int .i64 kk.hd.kind, .bool kk.hd.b, .bool kk.hd.d.neg, .string kk.hd.d.digits, .int .i64 kk.hd.d.exp, .int .u64 (kk.hd.u : Int), .int .i64 kk.hd.w, .string kk.hd.s, .slice ka kk.l.length kc, .int .i64 kv.hd.kind, .bool kv.hd.b, .bool kv.hd.d.neg, .string kv.hd.d.digits, .int .i64 kv.hd.d.exp, .int .u64 (kv.hd.u : Int), .int .i64 kv.hd.w, .string kv.hd.s, .slice va kv.l.length vc] 27 (0, 0)) := World.alloc_heap_new WD _
     have hzX : (WD.alloc (.cells #[.int .i64 kk.hd.kind, .bool kk.hd.b, .bool kk.hd.d.neg, .string kk.hd.d.digits, .int .i64 kk.hd.d.exp, .int .u64 (kk.hd.u : Int), .int .i64 kk.hd.w, .string kk.hd.s, .slice ka kk.l.length kc, .int .i64 kv.hd.kind, .bool kv.hd.b, .bool kv.hd.d.neg, .string kv.hd.d.digits, .int .i64 kv.hd.d.exp, .int .u64 (kv.hd.u : Int), .int .i64 kv.hd.w, .string kv.hd.s, .slice va kv.l.length vc] 27)).heap.size = WD.heap.size + 1 := by simp
     refine hK _ _ ⟨rangeAt_same hkX ra0, rangeAt_same hkX ra1⟩ ?_
     clear hK K
     generalize (WD.alloc (.cells #[.int .i64 kk.hd.kind, .bool kk.hd.b, .bool kk.hd.d.neg, .string kk.hd.d.digits, .int .i64 kk.hd.d.exp, .int .u64 (kk.hd.u : Int), .int .i64 kk.hd.w, .string kk.hd.s, .slice ka kk.l.length kc, .int .i64 kv.hd.kind, .bool kv.hd.b, .bool kv.hd.d.neg, .string kv.hd.d.digits, .int .i64 kv.hd.d.exp, .int .u64 (kv.hd.u : Int), .int .i64 kv.hd.w, .string kv.hd.s, .slice va kv.l.length vc] 27)) = W1 at hkX hbb hzX ⊢
     refine shA_wait rfl ?_
     obtain ⟨v1, W2, hrunA, hown1, hgA, hvA⟩ := run_append_rep 25 (OwnL.nil S W1 W1.heap.size) ((hr1.same hkX).mono fun b hb h => (⟨h.1, by intro e; cases e⟩ : _ ∧ _)) (by simp only [List.length_take, List.length_nil, hm]; omega) (Nat.le_refl _)
     have hk2' : Same W1 W2 := (Keep.refl _ _).grown hgA fun r hr => by cases hr
     have hkX2 := hkX.trans hk2'
     refine shT_c rfl rfl ?_
     intro K hK
     refine oper_append1 _ _ rfl rfl rfl hrunA ?_
     refine hK _ _ ⟨rangeAt_same hkX2 ra0, rangeAt_same hkX2 ra1⟩ ?_
     clear hK K hrunA hgA hvA
     have hbb2 := hk2'.same _ _ hbb trivial
     obtain ⟨v2, W3, hrunB, hown2, hgB, hvB⟩ := run_append_rep 25 hown1 (rep_two (S := fun b => S b ∧ v1.ownBlock ≠ some b) hbb2 ⟨hSn _ (Nat.le_refl _), hown1.apart (by omega)⟩ hkok ((hkr3.same hkX2).mono fun b hb h => ⟨h.1, hown1.apart (by have := h.2; omega)⟩) hvok ((hvr3.same hkX2).mono fun b hb h => ⟨h.1, hown1.apart (by have := h.2; omega)⟩)) (by simp only [List.length_append, List.length_take, List.length_cons, List.length_nil, hm]; omega) hk2'.size
     refine shT_c rfl rfl ?_
     intro K hK
     refine oper_append1 _ _ rfl rfl rfl hrunB ?_
     have hkY : Same WD W3 := same_grown hkX2 (by omega) hown1 hgB
     refine hK _ _ ⟨rangeAt_same hkY ra0, rangeAt_same hkY ra1⟩ ?_
     clear hK K hrunB hvB hkY hbb
     have hk2 : Same W2 W2 := Keep.refl _ _
     have hk3 : Same WD W3 := same_grown hkX2 (by omega) hown1 hgB
     refine shT_x rfl rfl ?_; intro K hK w' hs; go_simp; refine hK _ _ ?_; clear hK K hs w'
     refine shT_nil ?_
     obtain ⟨v3, W4, hrunC, hown4, hgC, hvC⟩ := run_append_rep 25 hown2 ((hr2.same hk3).mono fun b hb h => (⟨h.1, hown2.apart (by have := h.2; omega)⟩ : _ ∧ _)) (by simp only [List.length_append, List.length_take, List.length_drop, List.length_cons, List.length_nil, hm]; omega) (by have h8 := hk2'.size; have h9 := hgB.size; omega)
     have hk4 : Same WD W4 := same_grown hk3 (by omega) hown2 hgC
     have hres : OwnL S W4 w.heap.size v3 (unpairs (sortP (ps.take (j + 1)))) := by
      rw [HSU.out, ← ins_nodes (kk, kv) O (c := 0) hat, ← HQC.out]
      exact hown4.base (by omega)
     have hsm4 : Same w W4 := hsw.trans hk4
     have hn2 : n - (p + 2) < n - p := by omega
     clear hown2 hown1 hgB hgC hk2 hk3 hk4 hown4 hr1 hr2 hkr3 hvr3
     go_wp2_with (first | (at_builtin; refine wpList_append1 rfl _ _ rfl rfl rfl hrunC ?_))
     go_roundw
     case rel => exact ⟨p + 2, j + 1, by have := HPJ.out; omega, by omega, by go_num, hres, hsm4⟩
     case measure => simp [RowKit.intOf]; omega
   ·go_wp2_with fail
    go_loopw [5] (fun qv wr2 => ∃ (q c : Nat), q = 2 * c ∧ c ≤ O.length ∧ qv = .int .i64 (q : Int) ∧ (∀ x (h : x < O.length), x < c → ltB O[x].1.hd.s kk.hd.s = true) ∧ Same wr wr2) (fun qv _ => m - (RowKit.intOf qv).toNat)
    case atStart => exact ⟨0, 0, rfl, Nat.zero_le _, rfl, fun x _ hx => absurd hx (Nat.not_lt_zero x), Keep.refl _ _⟩
    case round =>
     obtain ⟨q, c, hqc, hcO, rfl, hless, hsm2⟩ := hrel
     have HQ := Lib.hid hqc
     have HL := Lib.hid hless
     have hqm : q ≤ m := by have := HM.out; omega
     clear hqc hless
     have hqoc : q ≤ oc := by omega
     have hqm38 : q ≤ 38 := by omega
     by_cases hqlt : q < m
     ·have hown2 := hown.same hsm2
      have hrepI := hown2.rep hS (by rw [hm]; omega)
      obtain ⟨_, a9, c9, e9, _, hgetO⟩ := hrepI.shape
      have hcO2 : c < O.length := by have := HM.out; have := HQ.out; omega
      obtain ⟨i2, e2⟩ := List.getElem?_eq_some_iff.1 (unpairs_get O c hcO2).1
      have hgq := hgetO _ i2
      rw [e2] at hgq
      rw [← HQ.out] at hgq
      obtain ⟨qb, qo, ql, hqa, _, _, hqr, hqok, hqra⟩ := hgq
      simp only [Value.slice.injEq] at e9
      obtain ⟨e91, h91, h92⟩ := e9
      clear h91 h92
      rw [hqa] at e91
      cases e91
      obtain ⟨qa, qc, rfl⟩ := hqr.is_slice
      have hkra2 := rangeAt_same (hsm.trans hsm2) hkra
      obtain ⟨nd, hnd⟩ : ∃ x, O[c].1 = x := ⟨_, rfl⟩
      rw [hnd] at hqok hqr hqra
      have hah := fun W => refAhead_any nd.hd.s kk.hd.s W hqok.2.2.2.2.2 hkok.2.2.2.2.2
      obtain ⟨r, hr⟩ : ∃ r, ltB nd.hd.s kk.hd.s = r := ⟨_, rfl⟩
      rw [hr] at hah
      rw [Nat.zero_add] at hqra
      obtain ⟨z0, z1, z2, z3, z4, z5, z6, z7, z8⟩ := nodeAt_of hqra
      obtain ⟨k0, k1, k2, k3, k4, k5, k6, k7, k8⟩ := nodeAt_of hkra2
      have hnext : r = true → ∀ x (h : x < O.length), x < c + 1 → ltB O[x].1.hd.s kk.hd.s = true := by
       rintro rfl x hx hxc
       by_cases e : x = c
       ·subst e; rw [hnd]; exact hr
       ·exact HL.out x hx (by omega)
      have hend : r = false → atP kk.hd.s O = c := by
       rintro rfl
       exact atP_of (fun x hx hxc => HL.out x hx hxc) hcO fun _ => by rw [hnd]; exact hr
      have HNX := Lib.hid hnext
      have HEN := Lib.hid hend
      have hd1 : decide ((q : Int) < m) = true := decide_eq_true (by omega)
      clear i2 e2 hgetO hrepI hown2 hr hnext hend hqa hnd
      go_wp2_with fail
      refine (wpIn_wide (n := 0)).1 ?_
      refine wpIn_region_shut (n := 0) (fun Z => Z.rangeAt gb (q * 9) (nodeCs nd.hd (.slice qa nd.l.length qc)) ∧ Z.rangeAt lb (lo + p * 9) (nodeCs kk.hd (.slice ka kk.l.length kc))) reads (fun _ => trivial) rfl (by kernel_rfl) (by kernel_rfl) ⟨hqra, hkra2⟩ ?_
      iterate 5 (refine shT_x rfl rfl ?_; intro K hK w' hs; obtain ⟨r0, r1, r2, r3, r4, r5, r6, r7, r8⟩ := nodeAt_of hs.1; obtain ⟨s0, s1, s2, s3, s4, s5, s6, s7, s8⟩ := nodeAt_of hs.2; go_simp; refine hK _ _ ?_; clear hK K r0 r1 r2 r3 r4 r5 r6 r7 r8 s0 s1 s2 s3 s4 s5 s6 s7 s8 hs w')
      iterate 10 (refine shT_gx (by kernel_rfl) rfl ?_; intro K hK w' hs; obtain ⟨r0, r1, r2, r3, r4, r5, r6, r7, r8⟩ := nodeAt_of hs.1; obtain ⟨s0, s1, s2, s3, s4, s5, s6, s7, s8⟩ := nodeAt_of hs.2; go_simp; refine hK _ _ ?_; clear hK K r0 r1 r2 r3 r4 r5 r6 r7 r8 s0 s1 s2 s3 s4 s5 s6 s7 s8 hs w')
      refine shT_gc (by kernel_rfl) rfl ?_
      intro K hK
      go_simp
      refine (callsW (hah _)).mono ?_
      rintro e w2 ⟨rfl, hk2⟩
      refine hK _ _ ⟨rangeAt_same hk2 hqra, rangeAt_same hk2 hkra2⟩ ?_
      clear hK K z0 z1 z2 z3 z4 z5 z6 z7 z8 k0 k1 k2 k3 k4 k5 k6 k7 k8
      refine shT_x rfl rfl ?_; intro K hK w' hs; go_simp; refine hK _ _ ?_; clear hK K hs w'
      refine shT_nil ?_
      have hsm2' := hsm2.trans (Keep.trans ((Keep.refl _ _).drew) hk2)
      clear hk2 hah hqra hkra2 hqok hqr
      cases r with
      | true =>
       have hnx := HNX.out rfl
       have HNX2 := Lib.hid hnx
       clear hnx HNX HEN hd1
       go_wp2
       go_roundw
       case rel => exact ⟨q + 2, c + 1, by have := HQ.out; omega, by omega, by go_num, HNX2.out, hsm2'⟩
       case measure => simp [RowKit.intOf]; omega
      | false =>
       have hat := HEN.out rfl
       have HQC := HQ
       have hne : (oc = q) = False := by simp; omega
       have hsm3 := hsm2'
       clear HNX HEN hd1 hsm2 hsm2'
       go_wp2_with fail
       generalize w2 = W0 at hsm3 ⊢
       have hown3 : OwnL S W0 w.heap.size (.slice (some ⟨gb, 0, none⟩) m oc) (unpairs O) := hown.same hsm3
       have hsw0 : Same w W0 := hsm.trans hsm3
       have hrepO : RepS (Old S W0) W0 (unpairs O) (.slice (some ⟨gb, 0, none⟩) m oc) := (hown3.rep hS (by rw [hm]; omega)).mono fun b hb hs => ⟨hs, hb⟩
       have hr1' : RepS (Old S W0) W0 ((unpairs O).take q) (.slice (some ⟨gb, 0, none⟩) q oc) := by have h := hrepO; rw [← hm] at h; exact h.take q (by omega)
       have hr2' : RepS (Old S W0) W0 ((unpairs O).drop q) (.slice (some ⟨gb, q * 9, none⟩) (m - q) (oc - q)) := by have h := hrepO; rw [← hm] at h; have h2 := h.drop q (by omega); rw [hm, Nat.zero_add] at h2; exact h2
       have hkr' : RepS (Old S W0) W0 kk.l (.slice ka kk.l.length kc) := (hkr.same hsw0).mono fun b hb h => ⟨h.1, hb⟩
       have hvr' : RepS (Old S W0) W0 kv.l (.slice va kv.l.length vc) := (hvr.same hsw0).mono fun b hb h => ⟨h.1, hb⟩
       have ra0' := rangeAt_same hsw0 hkra
       have ra1' := rangeAt_same hsw0 hvra
       refine (wpIn_wide (n := 0)).1 ?_
       refine wpIn_region_float (n := 0) (fun Z => Z.rangeAt lb (lo + p * 9) (nodeCs kk.hd (.slice ka kk.l.length kc)) ∧ Z.rangeAt lb (lo + (p + 1) * 9) (nodeCs kv.hd (.slice va kv.l.length vc))) reads 4 (fun _ => trivial) rfl (by kernel_rfl) rfl (by kernel_rfl) ⟨ra0', ra1'⟩ ?_
       simp only [eraseL]
       have hdr : Same W0 W0.drew := (Keep.refl _ _).drew
       have hz0 : W0.drew.heap.size = W0.heap.size := rfl
       generalize W0.drew = WD at hdr hz0 ⊢
       have hsw : Same w WD := hsw0.trans hdr
       have hr1 : RepS (Old S WD) WD ((unpairs O).take q) (.slice (some ⟨gb, 0, none⟩) q oc) := (hr1'.same hdr).mono fun b hb h => ⟨h.1, hb⟩
       have hr2 : RepS (Old S WD) WD ((unpairs O).drop q) (.slice (some ⟨gb, q * 9, none⟩) (m - q) (oc - q)) := (hr2'.same hdr).mono fun b hb h => ⟨h.1, hb⟩
       have hkr3 : RepS (Old S WD) WD kk.l (.slice ka kk.l.length kc) := (hkr'.same hdr).mono fun b hb h => ⟨h.1, hb⟩
       have hvr3 : RepS (Old S WD) WD kv.l (.slice va kv.l.length vc) := (hvr'.same hdr).mono fun b hb h => ⟨h.1, hb⟩
       have ra0 := rangeAt_same hdr ra0'
       have ra1 := rangeAt_same hdr ra1'
       have hszw := hsw.size
       have hSn : ∀ b, WD.heap.size ≤ b → S b := fun b hb => hS b (by omega)
       clear hr1' hr2' hkr' hvr' ra0' ra1' hrepO hown3 hz0 hdr hsw0 hown hsm hsm3
       obtain ⟨x0, x1, x2, x3, x4, x5, x6, x7, x8⟩ := nodeAt_of ra0
       obtain ⟨y0, y1, y2, y3, y4, y5, y6, y7, y8⟩ := nodeAt_of ra1
       have g2 : ((p : Int) + 1).toNat = p + 1 := by omega
       have g0 : 0 ≤ (p : Int) + 1 := by omega
       have g3 : (p : Int) + 1 < n := by omega
       have g1 : IntKind.i64.wrap ((p : Int) + 1) = (p : Int) + 1 := IntWalk.i64_in _ (by omega)
       iterate 13 (refine shA_x rfl rfl rfl ?_; intro K hK w' hs; obtain ⟨r0, r1, r2, r3, r4, r5, r6, r7, r8⟩ := nodeAt_of hs.1; obtain ⟨s0, s1, s2, s3, s4, s5, s6, s7, s8⟩ := nodeAt_of hs.2; go_simp; refine hK _ _ ?_; clear hK K r0 r1 r2 r3 r4 r5 r6 r7 r8 s0 s1 s2 s3 s4 s5 s6 s7 s8 hs w')
       clear g0 g1 g2 g3 x0 x1 x2 x3 x4 x5 x6 x7 x8 y0 y1 y2 y3 y4 y5 y6 y7 y8
       refine shA_c rfl rfl rfl ?now1 ?_
       case now1 =>
        obtain ⟨v1, W1, hrunA, hown1, hgA, hvA⟩ := run_append_rep 25 (OwnL.nil S WD WD.heap.size) (hr1.mono fun b hb h => (⟨h.1, by intro e; cases e⟩ : _ ∧ _)) (by simp only [List.length_take, List.length_nil, hm]; omega) (Nat.le_refl _)
        have hkX : Same WD W1 := (Keep.refl _ _).grown hgA fun r hr => by cases hr
        refine shT_c rfl rfl ?_
        intro K hK
        refine oper_append1 _ _ rfl rfl rfl hrunA ?_
        refine hK _ _ ⟨rangeAt_same hkX ra0, rangeAt_same hkX ra1⟩ ?_
        clear hK K hrunA hgA hvA
        refine shT_c rfl rfl ?_
        intro K hK
        go_simp
        have hk2 : Same W1 (W1.alloc (.cells #[.int .i64 kk.hd.kind, .bool kk.hd.b, .bool kk.hd.d.neg, .string kk.hd.d.digits, .int .i64 kk.hd.d.exp, .int .u64 (kk.hd.u : Int), .int .i64 kk.hd.w, .string kk.hd.s, .slice ka kk.l.length kc, .int .i64 kv.hd.kind, .bool kv.hd.b, .bool kv.hd.d.neg, .string kv.hd.d.digits, .int .i64 kv.hd.d.exp, .int .u64 (kv.hd.u : Int), .int .i64 kv.hd.w, .string kv.hd.s, .slice va kv.l.length vc] 27)) := (Keep.refl _ _).alloc _
        have hbb : (W1.alloc (.cells #[.int .i64 kk.hd.kind, .bool kk.hd.b, .bool kk.hd.d.neg, .string kk.hd.d.digits, .int .i64 kk.hd.d.exp, .int .u64 (kk.hd.u : Int), .int .i64 kk.hd.w, .string kk.hd.s, .slice ka kk.l.length kc, .int .i64 kv.hd.kind, .bool kv.hd.b, .bool kv.hd.d.neg, .string kv.hd.d.digits, .int .i64 kv.hd.d.exp, .int .u64 (kv.hd.u : Int), .int .i64 kv.hd.w, .string kv.hd.s, .slice va kv.l.length vc] 27)).heap[W1.heap.size]? = some (.cells #[.int .i64 kk.hd.kind, .bool kk.hd.b, .bool kk.hd.d.neg, .string kk.hd.d.digits, .int .i64 kk.hd.d.exp, .int .u64 (kk.hd.u : Int), .int .i64 kk.hd.w, .string kk.hd.s, .slice ka kk.l.length kc, .int .i64 kv.hd.kind, .bool kv.hd.b, .bool kv.hd.d.neg, .string kv.hd.d.digits, .int .i64 kv.hd.d.exp, .int .u64 (kv.hd.u : Int), .int .i64 kv.hd.w, .string kv.hd.s, .slice va kv.l.length vc] 27 (0, 0)) := World.alloc_heap_new W1 _
        have hkX2 := hkX.trans hk2
        refine hK _ _ ⟨rangeAt_same hkX2 ra0, rangeAt_same hkX2 ra1⟩ ?_
        clear hK K
        generalize (W1.alloc (.cells #[.int .i64 kk.hd.kind, .bool kk.hd.b, .bool kk.hd.d.neg, .string kk.hd.d.digits, .int .i64 kk.hd.d.exp, .int .u64 (kk.hd.u : Int), .int .i64 kk.hd.w, .string kk.hd.s, .slice ka kk.l.length kc, .int .i64 kv.hd.kind, .bool kv.hd.b, .bool kv.hd.d.neg, .string kv.hd.d.digits, .int .i64 kv.hd.d.exp, .int .u64 (kv.hd.u : Int), .int .i64 kv.hd.w, .string kv.hd.s, .slice va kv.l.length vc] 27)) = W2 at hk2 hbb hkX2 ⊢
        have hzX := hkX.size
        obtain ⟨v2, W3, hrunB, hown2, hgB, hvB⟩ := run_append_rep 25 (hown1.same hk2) (rep_two (S := fun b => S b ∧ v1.ownBlock ≠ some b) hbb ⟨hSn _ (by omega), hown1.lt (Nat.le_refl _)⟩ hkok ((hkr3.same hkX2).mono fun b hb h => ⟨h.1, hown1.apart h.2⟩) hvok ((hvr3.same hkX2).mono fun b hb h => ⟨h.1, hown1.apart h.2⟩)) (by simp only [List.length_append, List.length_take, List.length_cons, List.length_nil, hm]; omega) hkX2.size
        refine shT_c rfl rfl ?_
        intro K hK
        refine oper_append1 _ _ rfl rfl rfl hrunB ?_
        have hkY : Same WD W3 := same_grown hkX2 (Nat.le_refl _) (hown1.same hk2) hgB
        refine hK _ _ ⟨rangeAt_same hkY ra0, rangeAt_same hkY ra1⟩ ?_
        clear hK K hrunB hvB hkY
        have hk3 : Same WD W3 := same_grown (hkX.trans hk2) (Nat.le_refl _) (hown1.same hk2) hgB
        refine shT_x rfl rfl ?_; intro K hK w' hs; go_simp; refine hK _ _ ?_; clear hK K hs w'
        refine shT_nil ?_
        obtain ⟨v3, W4, hrunC, hown4, hgC, hvC⟩ := run_append_rep 25 hown2 ((hr2.same hk3).mono fun b hb h => (⟨h.1, hown2.apart (by have := h.2; omega)⟩ : _ ∧ _)) (by simp only [List.length_append, List.length_take, List.length_drop, List.length_cons, List.length_nil, hm]; omega) (Nat.le_trans (Nat.le_refl _) hk3.size)
        have hk4 : Same WD W4 := same_grown hk3 (Nat.le_refl _) hown2 hgC
        have hres : OwnL S W4 w.heap.size v3 (unpairs (sortP (ps.take (j + 1)))) := by
         rw [HSU.out, ← ins_nodes (kk, kv) O (c := c) hat, ← HQC.out]
         exact hown4.base (by omega)
        have hsm4 : Same w W4 := hsw.trans hk4
        have hn2 : n - (p + 2) < n - p := by omega
        clear hown2 hown1 hgB hgC hk2 hk3 hk4 hown4 hr1 hr2 hkr3 hvr3
        go_wp2_with (first | (at_builtin; refine wpList_append1 rfl _ _ rfl rfl rfl hrunC ?_))
        go_roundw
        case rel => exact ⟨p + 2, j + 1, by have := HPJ.out; omega, by omega, by go_num, hres, hsm4⟩
        case measure => simp [RowKit.intOf]; omega
       intro K hK
       go_simp
       have hkX : Same WD (WD.alloc (.cells #[.int .i64 kk.hd.kind, .bool kk.hd.b, .bool kk.hd.d.neg, .string kk.hd.d.digits, .int .i64 kk.hd.d.exp, .int .u64 (kk.hd.u : Int), .int .i64 kk.hd.w, .string kk.hd.s, .slice ka kk.l.length kc, .int .i64 kv.hd.kind, .bool kv.hd.b, .bool kv.hd.d.neg, .string kv.hd.d.digits, .int .i64 kv.hd.d.exp, .int .u64 (kv.hd.u : Int), .int .i64 kv.hd.w, .string kv.hd.s, .slice va kv.l.length vc] 27)) := (Keep.refl _ _).alloc _
       have hbb : (WD.alloc (.cells #[.int .i64 kk.hd.kind, .bool kk.hd.b, .bool kk.hd.d.neg, .string kk.hd.d.digits, .int .i64 kk.hd.d.exp, .int .u64 (kk.hd.u : Int), .int .i64 kk.hd.w, .string kk.hd.s, .slice ka kk.l.length kc, .int .i64 kv.hd.kind, .bool kv.hd.b, .bool kv.hd.d.neg, .string kv.hd.d.digits, .int .i64 kv.hd.d.exp, .int .u64 (kv.hd.u : Int), .int .i64 kv.hd.w, .string kv.hd.s, .slice va kv.l.length vc] 27)).heap[WD.heap.size]? = some (.cells #[.int .i64 kk.hd.kind, .bool kk.hd.b, .bool kk.hd.d.neg, .string kk.hd.d.digits, .int .i64 kk.hd.d.exp, .int .u64 (kk.hd.u : Int), .int .i64 kk.hd.w, .string kk.hd.s, .slice ka kk.l.length kc, .int .i64 kv.hd.kind, .bool kv.hd.b, .bool kv.hd.d.neg, .string kv.hd.d.digits, .int .i64 kv.hd.d.exp, .int .u64 (kv.hd.u : Int), .int .i64 kv.hd.w, .string kv.hd.s, .slice va kv.l.length vc] 27 (0, 0)) := World.alloc_heap_new WD _
       have hzX : (WD.alloc (.cells #[.int .i64 kk.hd.kind, .bool kk.hd.b, .bool kk.hd.d.neg, .string kk.hd.d.digits, .int .i64 kk.hd.d.exp, .int .u64 (kk.hd.u : Int), .int .i64 kk.hd.w, .string kk.hd.s, .slice ka kk.l.length kc, .int .i64 kv.hd.kind, .bool kv.hd.b, .bool kv.hd.d.neg, .string kv.hd.d.digits, .int .i64 kv.hd.d.exp, .int .u64 (kv.hd.u : Int), .int .i64 kv.hd.w, .string kv.hd.s, .slice va kv.l.length vc] 27)).heap.size = WD.heap.size + 1 := by simp
       refine hK _ _ ⟨rangeAt_same hkX ra0, rangeAt_same hkX ra1⟩ ?_
       clear hK K
       generalize (WD.alloc (.cells #[.int .i64 kk.hd.kind, .bool kk.hd.b, .bool kk.hd.d.neg, .string kk.hd.d.digits, .int .i64 kk.hd.d.exp, .int .u64 (kk.hd.u : Int), .int .i64 kk.hd.w, .string kk.hd.s, .slice ka kk.l.length kc, .int .i64 kv.hd.kind, .bool kv.hd.b, .bool kv.hd.d.neg, .string kv.hd.d.digits, .int .i64 kv.hd.d.exp, .int .u64 (kv.hd.u : Int), .int .i64 kv.hd.w, .string kv.hd.s, .slice va kv.l.length vc] 27)) = W1 at hkX hbb hzX ⊢
       refine shA_wait rfl ?_
       obtain ⟨v1, W2, hrunA, hown1, hgA, hvA⟩ := run_append_rep 25 (OwnL.nil S W1 W1.heap.size) ((hr1.same hkX).mono fun b hb h => (⟨h.1, by intro e; cases e⟩ : _ ∧ _)) (by simp only [List.length_take, List.length_nil, hm]; omega) (Nat.le_refl _)
       have hk2' : Same W1 W2 := (Keep.refl _ _).grown hgA fun r hr => by cases hr
       have hkX2 := hkX.trans hk2'
       refine shT_c rfl rfl ?_
       intro K hK
       refine oper_append1 _ _ rfl rfl rfl hrunA ?_
       refine hK _ _ ⟨rangeAt_same hkX2 ra0, rangeAt_same hkX2 ra1⟩ ?_
       clear hK K hrunA hgA hvA
       have hbb2 := hk2'.same _ _ hbb trivial
       obtain ⟨v2, W3, hrunB, hown2, hgB, hvB⟩ := run_append_rep 25 hown1 (rep_two (S := fun b => S b ∧ v1.ownBlock ≠ some b) hbb2 ⟨hSn _ (Nat.le_refl _), hown1.apart (by omega)⟩ hkok ((hkr3.same hkX2).mono fun b hb h => ⟨h.1, hown1.apart (by have := h.2; omega)⟩) hvok ((hvr3.same hkX2).mono fun b hb h => ⟨h.1, hown1.apart (by have := h.2; omega)⟩)) (by simp only [List.length_append, List.length_take, List.length_cons, List.length_nil, hm]; omega) hk2'.size
       refine shT_c rfl rfl ?_
       intro K hK
       refine oper_append1 _ _ rfl rfl rfl hrunB ?_
       have hkY : Same WD W3 := same_grown hkX2 (by omega) hown1 hgB
       refine hK _ _ ⟨rangeAt_same hkY ra0, rangeAt_same hkY ra1⟩ ?_
       clear hK K hrunB hvB hkY hbb
       have hk2 : Same W2 W2 := Keep.refl _ _
       have hk3 : Same WD W3 := same_grown hkX2 (by omega) hown1 hgB
       refine shT_x rfl rfl ?_; intro K hK w' hs; go_simp; refine hK _ _ ?_; clear hK K hs w'
       refine shT_nil ?_
       obtain ⟨v3, W4, hrunC, hown4, hgC, hvC⟩ := run_append_rep 25 hown2 ((hr2.same hk3).mono fun b hb h => (⟨h.1, hown2.apart (by have := h.2; omega)⟩ : _ ∧ _)) (by simp only [List.length_append, List.length_take, List.length_drop, List.length_cons, List.length_nil, hm]; omega) (by have h8 := hk2'.size; have h9 := hgB.size; omega)
       have hk4 : Same WD W4 := same_grown hk3 (by omega) hown2 hgC
       have hres : OwnL S W4 w.heap.size v3 (unpairs (sortP (ps.take (j + 1)))) := by
        rw [HSU.out, ← ins_nodes (kk, kv) O (c := c) hat, ← HQC.out]
        exact hown4.base (by omega)
       have hsm4 : Same w W4 := hsw.trans hk4
       have hn2 : n - (p + 2) < n - p := by omega
       clear hown2 hown1 hgB hgC hk2 hk3 hk4 hown4 hr1 hr2 hkr3 hvr3
       go_wp2_with (first | (at_builtin; refine wpList_append1 rfl _ _ rfl rfl rfl hrunC ?_))
       go_roundw
       case rel => exact ⟨p + 2, j + 1, by have := HPJ.out; omega, by omega, by go_num, hres, hsm4⟩
       case measure => simp [RowKit.intOf]; omega
     ·have hat : atP kk.hd.s O = c := atP_of (fun x hx hxc => HL.out x hx hxc) hcO fun h => absurd h (by have := HM.out; have := HQ.out; omega)
      have HQC := HQ
      have hd1 : decide ((q : Int) < m) = false := decide_eq_false (by omega)
      go_wp2_with fail
      go_quiet (fail)
      go_wp2_with fail
      have hsm3 := hsm2.drewN nq
      clear hd1 hsm2
      generalize (wr.drewN nq) = W0 at hsm3 ⊢
      by_cases hoq : oc = q
      ·subst hoq
       obtain rfl : m = oc := by omega
       have hown3 : OwnL S W0 w.heap.size (.slice (some ⟨gb, 0, none⟩) m m) (unpairs O) := hown.same hsm3
       have hsw0 : Same w W0 := hsm.trans hsm3
       have hrepO : RepS (Old S W0) W0 (unpairs O) (.slice (some ⟨gb, 0, none⟩) m m) := (hown3.rep hS (by rw [hm]; omega)).mono fun b hb hs => ⟨hs, hb⟩
       have hr1' : RepS (Old S W0) W0 ((unpairs O).take m) (.slice (some ⟨gb, 0, none⟩) m m) := by have h : RepS (Old S W0) W0 (unpairs O) (.slice (some ⟨gb, 0, none⟩) (unpairs O).length m) := by {rw [hm]; exact hrepO}; exact h.take m (by omega)
       have hr2' : RepS (Old S W0) W0 ((unpairs O).drop m) (.slice (some ⟨gb, 0, none⟩) 0 0) := by rw [List.drop_of_length_le (by omega)]; exact hrepO.empty
       have hkr' : RepS (Old S W0) W0 kk.l (.slice ka kk.l.length kc) := (hkr.same hsw0).mono fun b hb h => ⟨h.1, hb⟩
       have hvr' : RepS (Old S W0) W0 kv.l (.slice va kv.l.length vc) := (hvr.same hsw0).mono fun b hb h => ⟨h.1, hb⟩
       have ra0' := rangeAt_same hsw0 hkra
       have ra1' := rangeAt_same hsw0 hvra
       refine (wpIn_wide (n := 0)).1 ?_
       refine wpIn_region_float (n := 0) (fun Z => Z.rangeAt lb (lo + p * 9) (nodeCs kk.hd (.slice ka kk.l.length kc)) ∧ Z.rangeAt lb (lo + (p + 1) * 9) (nodeCs kv.hd (.slice va kv.l.length vc))) reads 4 (fun _ => trivial) rfl (by kernel_rfl) rfl (by kernel_rfl) ⟨ra0', ra1'⟩ ?_
       simp only [eraseL]
       have hdr : Same W0 W0.drew := (Keep.refl _ _).drew
       have hz0 : W0.drew.heap.size = W0.heap.size := rfl
       generalize W0.drew = WD at hdr hz0 ⊢
       have hsw : Same w WD := hsw0.trans hdr
       have hr1 : RepS (Old S WD) WD ((unpairs O).take m) (.slice (some ⟨gb, 0, none⟩) m m) := (hr1'.same hdr).mono fun b hb h => ⟨h.1, hb⟩
       have hr2 : RepS (Old S WD) WD ((unpairs O).drop m) (.slice (some ⟨gb, 0, none⟩) 0 0) := (hr2'.same hdr).mono fun b hb h => ⟨h.1, hb⟩
       have hkr3 : RepS (Old S WD) WD kk.l (.slice ka kk.l.length kc) := (hkr'.same hdr).mono fun b hb h => ⟨h.1, hb⟩
       have hvr3 : RepS (Old S WD) WD kv.l (.slice va kv.l.length vc) := (hvr'.same hdr).mono fun b hb h => ⟨h.1, hb⟩
       have ra0 := rangeAt_same hdr ra0'
       have ra1 := rangeAt_same hdr ra1'
       have hszw := hsw.size
       have hSn : ∀ b, WD.heap.size ≤ b → S b := fun b hb => hS b (by omega)
       clear hr1' hr2' hkr' hvr' ra0' ra1' hrepO hown3 hz0 hdr hsw0 hown hsm hsm3
       obtain ⟨x0, x1, x2, x3, x4, x5, x6, x7, x8⟩ := nodeAt_of ra0
       obtain ⟨y0, y1, y2, y3, y4, y5, y6, y7, y8⟩ := nodeAt_of ra1
       have g2 : ((p : Int) + 1).toNat = p + 1 := by omega
       have g0 : 0 ≤ (p : Int) + 1 := by omega
       have g3 : (p : Int) + 1 < n := by omega
       have g1 : IntKind.i64.wrap ((p : Int) + 1) = (p : Int) + 1 := IntWalk.i64_in _ (by omega)
       iterate 13 (refine shA_x rfl rfl rfl ?_; intro K hK w' hs; obtain ⟨r0, r1, r2, r3, r4, r5, r6, r7, r8⟩ := nodeAt_of hs.1; obtain ⟨s0, s1, s2, s3, s4, s5, s6, s7, s8⟩ := nodeAt_of hs.2; go_simp; refine hK _ _ ?_; clear hK K r0 r1 r2 r3 r4 r5 r6 r7 r8 s0 s1 s2 s3 s4 s5 s6 s7 s8 hs w')
       clear g0 g1 g2 g3 x0 x1 x2 x3 x4 x5 x6 x7 x8 y0 y1 y2 y3 y4 y5 y6 y7 y8
       refine shA_c rfl rfl rfl ?now1 ?_
       case now1 =>
        obtain ⟨v1, W1, hrunA, hown1, hgA, hvA⟩ := run_append_rep 25 (OwnL.nil S WD WD.heap.size) (hr1.mono fun b hb h => (⟨h.1, by intro e; cases e⟩ : _ ∧ _)) (by simp only [List.length_take, List.length_nil, hm]; omega) (Nat.le_refl _)
        have hkX : Same WD W1 := (Keep.refl _ _).grown hgA fun r hr => by cases hr
        refine shT_c rfl rfl ?_
        intro K hK
        refine oper_append1 _ _ rfl rfl rfl hrunA ?_
        refine hK _ _ ⟨rangeAt_same hkX ra0, rangeAt_same hkX ra1⟩ ?_
        clear hK K hrunA hgA hvA
        refine shT_c rfl rfl ?_
        intro K hK
        go_simp
        have hk2 : Same W1 (W1.alloc (.cells #[.int .i64 kk.hd.kind, .bool kk.hd.b, .bool kk.hd.d.neg, .string kk.hd.d.digits, .int .i64 kk.hd.d.exp, .int .u64 (kk.hd.u : Int), .int .i64 kk.hd.w, .string kk.hd.s, .slice ka kk.l.length kc, .int .i64 kv.hd.kind, .bool kv.hd.b, .bool kv.hd.d.neg, .string kv.hd.d.digits, .int .i64 kv.hd.d.exp, .int .u64 (kv.hd.u : Int), .int .i64 kv.hd.w, .string kv.hd.s, .slice va kv.l.length vc] 27)) := (Keep.refl _ _).alloc _
        have hbb : (W1.alloc (.cells #[.int .i64 kk.hd.kind, .bool kk.hd.b, .bool kk.hd.d.neg, .string kk.hd.d.digits, .int .i64 kk.hd.d.exp, .int .u64 (kk.hd.u : Int), .int .i64 kk.hd.w, .string kk.hd.s, .slice ka kk.l.length kc, .int .i64 kv.hd.kind, .bool kv.hd.b, .bool kv.hd.d.neg, .string kv.hd.d.digits, .int .i64 kv.hd.d.exp, .int .u64 (kv.hd.u : Int), .int .i64 kv.hd.w, .string kv.hd.s, .slice va kv.l.length vc] 27)).heap[W1.heap.size]? = some (.cells #[.int .i64 kk.hd.kind, .bool kk.hd.b, .bool kk.hd.d.neg, .string kk.hd.d.digits, .int .i64 kk.hd.d.exp, .int .u64 (kk.hd.u : Int), .int .i64 kk.hd.w, .string kk.hd.s, .slice ka kk.l.length kc, .int .i64 kv.hd.kind, .bool kv.hd.b, .bool kv.hd.d.neg, .string kv.hd.d.digits, .int .i64 kv.hd.d.exp, .int .u64 (kv.hd.u : Int), .int .i64 kv.hd.w, .string kv.hd.s, .slice va kv.l.length vc] 27 (0, 0)) := World.alloc_heap_new W1 _
        have hkX2 := hkX.trans hk2
        refine hK _ _ ⟨rangeAt_same hkX2 ra0, rangeAt_same hkX2 ra1⟩ ?_
        clear hK K
        generalize (W1.alloc (.cells #[.int .i64 kk.hd.kind, .bool kk.hd.b, .bool kk.hd.d.neg, .string kk.hd.d.digits, .int .i64 kk.hd.d.exp, .int .u64 (kk.hd.u : Int), .int .i64 kk.hd.w, .string kk.hd.s, .slice ka kk.l.length kc, .int .i64 kv.hd.kind, .bool kv.hd.b, .bool kv.hd.d.neg, .string kv.hd.d.digits, .int .i64 kv.hd.d.exp, .int .u64 (kv.hd.u : Int), .int .i64 kv.hd.w, .string kv.hd.s, .slice va kv.l.length vc] 27)) = W2 at hk2 hbb hkX2 ⊢
        have hzX := hkX.size
        obtain ⟨v2, W3, hrunB, hown2, hgB, hvB⟩ := run_append_rep 25 (hown1.same hk2) (rep_two (S := fun b => S b ∧ v1.ownBlock ≠ some b) hbb ⟨hSn _ (by omega), hown1.lt (Nat.le_refl _)⟩ hkok ((hkr3.same hkX2).mono fun b hb h => ⟨h.1, hown1.apart h.2⟩) hvok ((hvr3.same hkX2).mono fun b hb h => ⟨h.1, hown1.apart h.2⟩)) (by simp only [List.length_append, List.length_take, List.length_cons, List.length_nil, hm]; omega) hkX2.size
        refine shT_c rfl rfl ?_
        intro K hK
        refine oper_append1 _ _ rfl rfl rfl hrunB ?_
        have hkY : Same WD W3 := same_grown hkX2 (Nat.le_refl _) (hown1.same hk2) hgB
        refine hK _ _ ⟨rangeAt_same hkY ra0, rangeAt_same hkY ra1⟩ ?_
        clear hK K hrunB hvB hkY
        have hk3 : Same WD W3 := same_grown (hkX.trans hk2) (Nat.le_refl _) (hown1.same hk2) hgB
        refine shT_x rfl rfl ?_; intro K hK w' hs; go_simp; refine hK _ _ ?_; clear hK K hs w'
        refine shT_nil ?_
        obtain ⟨v3, W4, hrunC, hown4, hgC, hvC⟩ := run_append_rep 25 hown2 ((hr2.same hk3).mono fun b hb h => (⟨h.1, hown2.apart (by have := h.2; omega)⟩ : _ ∧ _)) (by simp only [List.length_append, List.length_take, List.length_drop, List.length_cons, List.length_nil, hm]; omega) (Nat.le_trans (Nat.le_refl _) hk3.size)
        have hk4 : Same WD W4 := same_grown hk3 (Nat.le_refl _) hown2 hgC
        have hres : OwnL S W4 w.heap.size v3 (unpairs (sortP (ps.take (j + 1)))) := by
         rw [HSU.out, ← ins_nodes (kk, kv) O (c := c) hat, ← HQC.out]
         exact hown4.base (by omega)
        have hsm4 : Same w W4 := hsw.trans hk4
        have hn2 : n - (p + 2) < n - p := by omega
        clear hown2 hown1 hgB hgC hk2 hk3 hk4 hown4 hr1 hr2 hkr3 hvr3
        go_wp2_with (first | (at_builtin; refine wpList_append1 rfl _ _ rfl rfl rfl hrunC ?_))
        go_roundw
        case rel => exact ⟨p + 2, j + 1, by have := HPJ.out; omega, by omega, by go_num, hres, hsm4⟩
        case measure => simp [RowKit.intOf]; omega
       intro K hK
       go_simp
       have hkX : Same WD (WD.alloc (.cells #[.int .i64 kk.hd.kind, .bool kk.hd.b, .bool kk.hd.d.neg, .string kk.hd.d.digits, .int .i64 kk.hd.d.exp, .int .u64 (kk.hd.u : Int), .int .i64 kk.hd.w, .string kk.hd.s, .slice ka kk.l.length kc, .int .i64 kv.hd.kind, .bool kv.hd.b, .bool kv.hd.d.neg, .string kv.hd.d.digits, .int .i64 kv.hd.d.exp, .int .u64 (kv.hd.u : Int), .int .i64 kv.hd.w, .string kv.hd.s, .slice va kv.l.length vc] 27)) := (Keep.refl _ _).alloc _
       have hbb : (WD.alloc (.cells #[.int .i64 kk.hd.kind, .bool kk.hd.b, .bool kk.hd.d.neg, .string kk.hd.d.digits, .int .i64 kk.hd.d.exp, .int .u64 (kk.hd.u : Int), .int .i64 kk.hd.w, .string kk.hd.s, .slice ka kk.l.length kc, .int .i64 kv.hd.kind, .bool kv.hd.b, .bool kv.hd.d.neg, .string kv.hd.d.digits, .int .i64 kv.hd.d.exp, .int .u64 (kv.hd.u : Int), .int .i64 kv.hd.w, .string kv.hd.s, .slice va kv.l.length vc] 27)).heap[WD.heap.size]? = some (.cells #[.int .i64 kk.hd.kind, .bool kk.hd.b, .bool kk.hd.d.neg, .string kk.hd.d.digits, .int .i64 kk.hd.d.exp, .int .u64 (kk.hd.u : Int), .int .i64 kk.hd.w, .string kk.hd.s, .slice ka kk.l.length kc, .int .i64 kv.hd.kind, .bool kv.hd.b, .bool kv.hd.d.neg, .string kv.hd.d.digits, .int .i64 kv.hd.d.exp, .int .u64 (kv.hd.u : Int), .int .i64 kv.hd.w, .string kv.hd.s, .slice va kv.l.length vc] 27 (0, 0)) := World.alloc_heap_new WD _
       have hzX : (WD.alloc (.cells #[.int .i64 kk.hd.kind, .bool kk.hd.b, .bool kk.hd.d.neg, .string kk.hd.d.digits, .int .i64 kk.hd.d.exp, .int .u64 (kk.hd.u : Int), .int .i64 kk.hd.w, .string kk.hd.s, .slice ka kk.l.length kc, .int .i64 kv.hd.kind, .bool kv.hd.b, .bool kv.hd.d.neg, .string kv.hd.d.digits, .int .i64 kv.hd.d.exp, .int .u64 (kv.hd.u : Int), .int .i64 kv.hd.w, .string kv.hd.s, .slice va kv.l.length vc] 27)).heap.size = WD.heap.size + 1 := by simp
       refine hK _ _ ⟨rangeAt_same hkX ra0, rangeAt_same hkX ra1⟩ ?_
       clear hK K
       generalize (WD.alloc (.cells #[.int .i64 kk.hd.kind, .bool kk.hd.b, .bool kk.hd.d.neg, .string kk.hd.d.digits, .int .i64 kk.hd.d.exp, .int .u64 (kk.hd.u : Int), .int .i64 kk.hd.w, .string kk.hd.s, .slice ka kk.l.length kc, .int .i64 kv.hd.kind, .bool kv.hd.b, .bool kv.hd.d.neg, .string kv.hd.d.digits, .int .i64 kv.hd.d.exp, .int .u64 (kv.hd.u : Int), .int .i64 kv.hd.w, .string kv.hd.s, .slice va kv.l.length vc] 27)) = W1 at hkX hbb hzX ⊢
       refine shA_wait rfl ?_
       obtain ⟨v1, W2, hrunA, hown1, hgA, hvA⟩ := run_append_rep 25 (OwnL.nil S W1 W1.heap.size) ((hr1.same hkX).mono fun b hb h => (⟨h.1, by intro e; cases e⟩ : _ ∧ _)) (by simp only [List.length_take, List.length_nil, hm]; omega) (Nat.le_refl _)
       have hk2' : Same W1 W2 := (Keep.refl _ _).grown hgA fun r hr => by cases hr
       have hkX2 := hkX.trans hk2'
       refine shT_c rfl rfl ?_
       intro K hK
       refine oper_append1 _ _ rfl rfl rfl hrunA ?_
       refine hK _ _ ⟨rangeAt_same hkX2 ra0, rangeAt_same hkX2 ra1⟩ ?_
       clear hK K hrunA hgA hvA
       have hbb2 := hk2'.same _ _ hbb trivial
       obtain ⟨v2, W3, hrunB, hown2, hgB, hvB⟩ := run_append_rep 25 hown1 (rep_two (S := fun b => S b ∧ v1.ownBlock ≠ some b) hbb2 ⟨hSn _ (Nat.le_refl _), hown1.apart (by omega)⟩ hkok ((hkr3.same hkX2).mono fun b hb h => ⟨h.1, hown1.apart (by have := h.2; omega)⟩) hvok ((hvr3.same hkX2).mono fun b hb h => ⟨h.1, hown1.apart (by have := h.2; omega)⟩)) (by simp only [List.length_append, List.length_take, List.length_cons, List.length_nil, hm]; omega) hk2'.size
       refine shT_c rfl rfl ?_
       intro K hK
       refine oper_append1 _ _ rfl rfl rfl hrunB ?_
       have hkY : Same WD W3 := same_grown hkX2 (by omega) hown1 hgB
       refine hK _ _ ⟨rangeAt_same hkY ra0, rangeAt_same hkY ra1⟩ ?_
       clear hK K hrunB hvB hkY hbb
       have hk2 : Same W2 W2 := Keep.refl _ _
       have hk3 : Same WD W3 := same_grown hkX2 (by omega) hown1 hgB
       refine shT_x rfl rfl ?_; intro K hK w' hs; go_simp; refine hK _ _ ?_; clear hK K hs w'
       refine shT_nil ?_
       obtain ⟨v3, W4, hrunC, hown4, hgC, hvC⟩ := run_append_rep 25 hown2 ((hr2.same hk3).mono fun b hb h => (⟨h.1, hown2.apart (by have := h.2; omega)⟩ : _ ∧ _)) (by simp only [List.length_append, List.length_take, List.length_drop, List.length_cons, List.length_nil, hm]; omega) (by have h8 := hk2'.size; have h9 := hgB.size; omega)
       have hk4 : Same WD W4 := same_grown hk3 (by omega) hown2 hgC
       have hres : OwnL S W4 w.heap.size v3 (unpairs (sortP (ps.take (j + 1)))) := by
        rw [HSU.out, ← ins_nodes (kk, kv) O (c := c) hat, ← HQC.out]
        exact hown4.base (by omega)
       have hsm4 : Same w W4 := hsw.trans hk4
       have hn2 : n - (p + 2) < n - p := by omega
       clear hown2 hown1 hgB hgC hk2 hk3 hk4 hown4 hr1 hr2 hkr3 hvr3
       go_wp2_with (first | (at_builtin; refine wpList_append1 rfl _ _ rfl rfl rfl hrunC ?_))
       go_roundw
       case rel => exact ⟨p + 2, j + 1, by have := HPJ.out; omega, by omega, by go_num, hres, hsm4⟩
       case measure => simp [RowKit.intOf]; omega
      ·have hne : (oc = q) = False := by simp [hoq]
       clear hoq
       have hown3 : OwnL S W0 w.heap.size (.slice (some ⟨gb, 0, none⟩) m oc) (unpairs O) := hown.same hsm3
       have hsw0 : Same w W0 := hsm.trans hsm3
       have hrepO : RepS (Old S W0) W0 (unpairs O) (.slice (some ⟨gb, 0, none⟩) m oc) := (hown3.rep hS (by rw [hm]; omega)).mono fun b hb hs => ⟨hs, hb⟩
       have hr1' : RepS (Old S W0) W0 ((unpairs O).take q) (.slice (some ⟨gb, 0, none⟩) q oc) := by have h := hrepO; rw [← hm] at h; exact h.take q (by omega)
       have hr2' : RepS (Old S W0) W0 ((unpairs O).drop q) (.slice (some ⟨gb, q * 9, none⟩) (m - q) (oc - q)) := by have h := hrepO; rw [← hm] at h; have h2 := h.drop q (by omega); rw [hm, Nat.zero_add] at h2; exact h2
       have hkr' : RepS (Old S W0) W0 kk.l (.slice ka kk.l.length kc) := (hkr.same hsw0).mono fun b hb h => ⟨h.1, hb⟩
       have hvr' : RepS (Old S W0) W0 kv.l (.slice va kv.l.length vc) := (hvr.same hsw0).mono fun b hb h => ⟨h.1, hb⟩
       have ra0' := rangeAt_same hsw0 hkra
       have ra1' := rangeAt_same hsw0 hvra
       refine (wpIn_wide (n := 0)).1 ?_
       refine wpIn_region_float (n := 0) (fun Z => Z.rangeAt lb (lo + p * 9) (nodeCs kk.hd (.slice ka kk.l.length kc)) ∧ Z.rangeAt lb (lo + (p + 1) * 9) (nodeCs kv.hd (.slice va kv.l.length vc))) reads 4 (fun _ => trivial) rfl (by kernel_rfl) rfl (by kernel_rfl) ⟨ra0', ra1'⟩ ?_
       simp only [eraseL]
       have hdr : Same W0 W0.drew := (Keep.refl _ _).drew
       have hz0 : W0.drew.heap.size = W0.heap.size := rfl
       generalize W0.drew = WD at hdr hz0 ⊢
       have hsw : Same w WD := hsw0.trans hdr
       have hr1 : RepS (Old S WD) WD ((unpairs O).take q) (.slice (some ⟨gb, 0, none⟩) q oc) := (hr1'.same hdr).mono fun b hb h => ⟨h.1, hb⟩
       have hr2 : RepS (Old S WD) WD ((unpairs O).drop q) (.slice (some ⟨gb, q * 9, none⟩) (m - q) (oc - q)) := (hr2'.same hdr).mono fun b hb h => ⟨h.1, hb⟩
       have hkr3 : RepS (Old S WD) WD kk.l (.slice ka kk.l.length kc) := (hkr'.same hdr).mono fun b hb h => ⟨h.1, hb⟩
       have hvr3 : RepS (Old S WD) WD kv.l (.slice va kv.l.length vc) := (hvr'.same hdr).mono fun b hb h => ⟨h.1, hb⟩
       have ra0 := rangeAt_same hdr ra0'
       have ra1 := rangeAt_same hdr ra1'
       have hszw := hsw.size
       have hSn : ∀ b, WD.heap.size ≤ b → S b := fun b hb => hS b (by omega)
       clear hr1' hr2' hkr' hvr' ra0' ra1' hrepO hown3 hz0 hdr hsw0 hown hsm hsm3
       obtain ⟨x0, x1, x2, x3, x4, x5, x6, x7, x8⟩ := nodeAt_of ra0
       obtain ⟨y0, y1, y2, y3, y4, y5, y6, y7, y8⟩ := nodeAt_of ra1
       have g2 : ((p : Int) + 1).toNat = p + 1 := by omega
       have g0 : 0 ≤ (p : Int) + 1 := by omega
       have g3 : (p : Int) + 1 < n := by omega
       have g1 : IntKind.i64.wrap ((p : Int) + 1) = (p : Int) + 1 := IntWalk.i64_in _ (by omega)
       iterate 13 (refine shA_x rfl rfl rfl ?_; intro K hK w' hs; obtain ⟨r0, r1, r2, r3, r4, r5, r6, r7, r8⟩ := nodeAt_of hs.1; obtain ⟨s0, s1, s2, s3, s4, s5, s6, s7, s8⟩ := nodeAt_of hs.2; go_simp; refine hK _ _ ?_; clear hK K r0 r1 r2 r3 r4 r5 r6 r7 r8 s0 s1 s2 s3 s4 s5 s6 s7 s8 hs w')
       clear g0 g1 g2 g3 x0 x1 x2 x3 x4 x5 x6 x7 x8 y0 y1 y2 y3 y4 y5 y6 y7 y8
       refine shA_c rfl rfl rfl ?now1 ?_
       case now1 =>
        obtain ⟨v1, W1, hrunA, hown1, hgA, hvA⟩ := run_append_rep 25 (OwnL.nil S WD WD.heap.size) (hr1.mono fun b hb h => (⟨h.1, by intro e; cases e⟩ : _ ∧ _)) (by simp only [List.length_take, List.length_nil, hm]; omega) (Nat.le_refl _)
        have hkX : Same WD W1 := (Keep.refl _ _).grown hgA fun r hr => by cases hr
        refine shT_c rfl rfl ?_
        intro K hK
        refine oper_append1 _ _ rfl rfl rfl hrunA ?_
        refine hK _ _ ⟨rangeAt_same hkX ra0, rangeAt_same hkX ra1⟩ ?_
        clear hK K hrunA hgA hvA
        refine shT_c rfl rfl ?_
        intro K hK
        go_simp
        have hk2 : Same W1 (W1.alloc (.cells #[.int .i64 kk.hd.kind, .bool kk.hd.b, .bool kk.hd.d.neg, .string kk.hd.d.digits, .int .i64 kk.hd.d.exp, .int .u64 (kk.hd.u : Int), .int .i64 kk.hd.w, .string kk.hd.s, .slice ka kk.l.length kc, .int .i64 kv.hd.kind, .bool kv.hd.b, .bool kv.hd.d.neg, .string kv.hd.d.digits, .int .i64 kv.hd.d.exp, .int .u64 (kv.hd.u : Int), .int .i64 kv.hd.w, .string kv.hd.s, .slice va kv.l.length vc] 27)) := (Keep.refl _ _).alloc _
        have hbb : (W1.alloc (.cells #[.int .i64 kk.hd.kind, .bool kk.hd.b, .bool kk.hd.d.neg, .string kk.hd.d.digits, .int .i64 kk.hd.d.exp, .int .u64 (kk.hd.u : Int), .int .i64 kk.hd.w, .string kk.hd.s, .slice ka kk.l.length kc, .int .i64 kv.hd.kind, .bool kv.hd.b, .bool kv.hd.d.neg, .string kv.hd.d.digits, .int .i64 kv.hd.d.exp, .int .u64 (kv.hd.u : Int), .int .i64 kv.hd.w, .string kv.hd.s, .slice va kv.l.length vc] 27)).heap[W1.heap.size]? = some (.cells #[.int .i64 kk.hd.kind, .bool kk.hd.b, .bool kk.hd.d.neg, .string kk.hd.d.digits, .int .i64 kk.hd.d.exp, .int .u64 (kk.hd.u : Int), .int .i64 kk.hd.w, .string kk.hd.s, .slice ka kk.l.length kc, .int .i64 kv.hd.kind, .bool kv.hd.b, .bool kv.hd.d.neg, .string kv.hd.d.digits, .int .i64 kv.hd.d.exp, .int .u64 (kv.hd.u : Int), .int .i64 kv.hd.w, .string kv.hd.s, .slice va kv.l.length vc] 27 (0, 0)) := World.alloc_heap_new W1 _
        have hkX2 := hkX.trans hk2
        refine hK _ _ ⟨rangeAt_same hkX2 ra0, rangeAt_same hkX2 ra1⟩ ?_
        clear hK K
        generalize (W1.alloc (.cells #[.int .i64 kk.hd.kind, .bool kk.hd.b, .bool kk.hd.d.neg, .string kk.hd.d.digits, .int .i64 kk.hd.d.exp, .int .u64 (kk.hd.u : Int), .int .i64 kk.hd.w, .string kk.hd.s, .slice ka kk.l.length kc, .int .i64 kv.hd.kind, .bool kv.hd.b, .bool kv.hd.d.neg, .string kv.hd.d.digits, .int .i64 kv.hd.d.exp, .int .u64 (kv.hd.u : Int), .int .i64 kv.hd.w, .string kv.hd.s, .slice va kv.l.length vc] 27)) = W2 at hk2 hbb hkX2 ⊢
        have hzX := hkX.size
        obtain ⟨v2, W3, hrunB, hown2, hgB, hvB⟩ := run_append_rep 25 (hown1.same hk2) (rep_two (S := fun b => S b ∧ v1.ownBlock ≠ some b) hbb ⟨hSn _ (by omega), hown1.lt (Nat.le_refl _)⟩ hkok ((hkr3.same hkX2).mono fun b hb h => ⟨h.1, hown1.apart h.2⟩) hvok ((hvr3.same hkX2).mono fun b hb h => ⟨h.1, hown1.apart h.2⟩)) (by simp only [List.length_append, List.length_take, List.length_cons, List.length_nil, hm]; omega) hkX2.size
        refine shT_c rfl rfl ?_
        intro K hK
        refine oper_append1 _ _ rfl rfl rfl hrunB ?_
        have hkY : Same WD W3 := same_grown hkX2 (Nat.le_refl _) (hown1.same hk2) hgB
        refine hK _ _ ⟨rangeAt_same hkY ra0, rangeAt_same hkY ra1⟩ ?_
        clear hK K hrunB hvB hkY
        have hk3 : Same WD W3 := same_grown (hkX.trans hk2) (Nat.le_refl _) (hown1.same hk2) hgB
        refine shT_x rfl rfl ?_; intro K hK w' hs; go_simp; refine hK _ _ ?_; clear hK K hs w'
        refine shT_nil ?_
        obtain ⟨v3, W4, hrunC, hown4, hgC, hvC⟩ := run_append_rep 25 hown2 ((hr2.same hk3).mono fun b hb h => (⟨h.1, hown2.apart (by have := h.2; omega)⟩ : _ ∧ _)) (by simp only [List.length_append, List.length_take, List.length_drop, List.length_cons, List.length_nil, hm]; omega) (Nat.le_trans (Nat.le_refl _) hk3.size)
        have hk4 : Same WD W4 := same_grown hk3 (Nat.le_refl _) hown2 hgC
        have hres : OwnL S W4 w.heap.size v3 (unpairs (sortP (ps.take (j + 1)))) := by
         rw [HSU.out, ← ins_nodes (kk, kv) O (c := c) hat, ← HQC.out]
         exact hown4.base (by omega)
        have hsm4 : Same w W4 := hsw.trans hk4
        have hn2 : n - (p + 2) < n - p := by omega
        clear hown2 hown1 hgB hgC hk2 hk3 hk4 hown4 hr1 hr2 hkr3 hvr3
        go_wp2_with (first | (at_builtin; refine wpList_append1 rfl _ _ rfl rfl rfl hrunC ?_))
        go_roundw
        case rel => exact ⟨p + 2, j + 1, by have := HPJ.out; omega, by omega, by go_num, hres, hsm4⟩
        case measure => simp [RowKit.intOf]; omega
       intro K hK
       go_simp
       have hkX : Same WD (WD.alloc (.cells #[.int .i64 kk.hd.kind, .bool kk.hd.b, .bool kk.hd.d.neg, .string kk.hd.d.digits, .int .i64 kk.hd.d.exp, .int .u64 (kk.hd.u : Int), .int .i64 kk.hd.w, .string kk.hd.s, .slice ka kk.l.length kc, .int .i64 kv.hd.kind, .bool kv.hd.b, .bool kv.hd.d.neg, .string kv.hd.d.digits, .int .i64 kv.hd.d.exp, .int .u64 (kv.hd.u : Int), .int .i64 kv.hd.w, .string kv.hd.s, .slice va kv.l.length vc] 27)) := (Keep.refl _ _).alloc _
       have hbb : (WD.alloc (.cells #[.int .i64 kk.hd.kind, .bool kk.hd.b, .bool kk.hd.d.neg, .string kk.hd.d.digits, .int .i64 kk.hd.d.exp, .int .u64 (kk.hd.u : Int), .int .i64 kk.hd.w, .string kk.hd.s, .slice ka kk.l.length kc, .int .i64 kv.hd.kind, .bool kv.hd.b, .bool kv.hd.d.neg, .string kv.hd.d.digits, .int .i64 kv.hd.d.exp, .int .u64 (kv.hd.u : Int), .int .i64 kv.hd.w, .string kv.hd.s, .slice va kv.l.length vc] 27)).heap[WD.heap.size]? = some (.cells #[.int .i64 kk.hd.kind, .bool kk.hd.b, .bool kk.hd.d.neg, .string kk.hd.d.digits, .int .i64 kk.hd.d.exp, .int .u64 (kk.hd.u : Int), .int .i64 kk.hd.w, .string kk.hd.s, .slice ka kk.l.length kc, .int .i64 kv.hd.kind, .bool kv.hd.b, .bool kv.hd.d.neg, .string kv.hd.d.digits, .int .i64 kv.hd.d.exp, .int .u64 (kv.hd.u : Int), .int .i64 kv.hd.w, .string kv.hd.s, .slice va kv.l.length vc] 27 (0, 0)) := World.alloc_heap_new WD _
       have hzX : (WD.alloc (.cells #[.int .i64 kk.hd.kind, .bool kk.hd.b, .bool kk.hd.d.neg, .string kk.hd.d.digits, .int .i64 kk.hd.d.exp, .int .u64 (kk.hd.u : Int), .int .i64 kk.hd.w, .string kk.hd.s, .slice ka kk.l.length kc, .int .i64 kv.hd.kind, .bool kv.hd.b, .bool kv.hd.d.neg, .string kv.hd.d.digits, .int .i64 kv.hd.d.exp, .int .u64 (kv.hd.u : Int), .int .i64 kv.hd.w, .string kv.hd.s, .slice va kv.l.length vc] 27)).heap.size = WD.heap.size + 1 := by simp
       refine hK _ _ ⟨rangeAt_same hkX ra0, rangeAt_same hkX ra1⟩ ?_
       clear hK K
       generalize (WD.alloc (.cells #[.int .i64 kk.hd.kind, .bool kk.hd.b, .bool kk.hd.d.neg, .string kk.hd.d.digits, .int .i64 kk.hd.d.exp, .int .u64 (kk.hd.u : Int), .int .i64 kk.hd.w, .string kk.hd.s, .slice ka kk.l.length kc, .int .i64 kv.hd.kind, .bool kv.hd.b, .bool kv.hd.d.neg, .string kv.hd.d.digits, .int .i64 kv.hd.d.exp, .int .u64 (kv.hd.u : Int), .int .i64 kv.hd.w, .string kv.hd.s, .slice va kv.l.length vc] 27)) = W1 at hkX hbb hzX ⊢
       refine shA_wait rfl ?_
       obtain ⟨v1, W2, hrunA, hown1, hgA, hvA⟩ := run_append_rep 25 (OwnL.nil S W1 W1.heap.size) ((hr1.same hkX).mono fun b hb h => (⟨h.1, by intro e; cases e⟩ : _ ∧ _)) (by simp only [List.length_take, List.length_nil, hm]; omega) (Nat.le_refl _)
       have hk2' : Same W1 W2 := (Keep.refl _ _).grown hgA fun r hr => by cases hr
       have hkX2 := hkX.trans hk2'
       refine shT_c rfl rfl ?_
       intro K hK
       refine oper_append1 _ _ rfl rfl rfl hrunA ?_
       refine hK _ _ ⟨rangeAt_same hkX2 ra0, rangeAt_same hkX2 ra1⟩ ?_
       clear hK K hrunA hgA hvA
       have hbb2 := hk2'.same _ _ hbb trivial
       obtain ⟨v2, W3, hrunB, hown2, hgB, hvB⟩ := run_append_rep 25 hown1 (rep_two (S := fun b => S b ∧ v1.ownBlock ≠ some b) hbb2 ⟨hSn _ (Nat.le_refl _), hown1.apart (by omega)⟩ hkok ((hkr3.same hkX2).mono fun b hb h => ⟨h.1, hown1.apart (by have := h.2; omega)⟩) hvok ((hvr3.same hkX2).mono fun b hb h => ⟨h.1, hown1.apart (by have := h.2; omega)⟩)) (by simp only [List.length_append, List.length_take, List.length_cons, List.length_nil, hm]; omega) hk2'.size
       refine shT_c rfl rfl ?_
       intro K hK
       refine oper_append1 _ _ rfl rfl rfl hrunB ?_
       have hkY : Same WD W3 := same_grown hkX2 (by omega) hown1 hgB
       refine hK _ _ ⟨rangeAt_same hkY ra0, rangeAt_same hkY ra1⟩ ?_
       clear hK K hrunB hvB hkY hbb
       have hk2 : Same W2 W2 := Keep.refl _ _
       have hk3 : Same WD W3 := same_grown hkX2 (by omega) hown1 hgB
       refine shT_x rfl rfl ?_; intro K hK w' hs; go_simp; refine hK _ _ ?_; clear hK K hs w'
       refine shT_nil ?_
       obtain ⟨v3, W4, hrunC, hown4, hgC, hvC⟩ := run_append_rep 25 hown2 ((hr2.same hk3).mono fun b hb h => (⟨h.1, hown2.apart (by have := h.2; omega)⟩ : _ ∧ _)) (by simp only [List.length_append, List.length_take, List.length_drop, List.length_cons, List.length_nil, hm]; omega) (by have h8 := hk2'.size; have h9 := hgB.size; omega)
       have hk4 : Same WD W4 := same_grown hk3 (by omega) hown2 hgC
       have hres : OwnL S W4 w.heap.size v3 (unpairs (sortP (ps.take (j + 1)))) := by
        rw [HSU.out, ← ins_nodes (kk, kv) O (c := c) hat, ← HQC.out]
        exact hown4.base (by omega)
       have hsm4 : Same w W4 := hsw.trans hk4
       have hn2 : n - (p + 2) < n - p := by omega
       clear hown2 hown1 hgB hgC hk2 hk3 hk4 hown4 hr1 hr2 hkr3 hvr3
       go_wp2_with (first | (at_builtin; refine wpList_append1 rfl _ _ rfl rfl rfl hrunC ?_))
       go_roundw
       case rel => exact ⟨p + 2, j + 1, by have := HPJ.out; omega, by omega, by go_num, hres, hsm4⟩
       case measure => simp [RowKit.intOf]; omega
  ·have hfull : sortP (ps.take j) = sortP ps := by rw [List.take_of_length_le (by omega)]
   have hlenS : (unpairs (sortP ps)).length ≤ 1099511627776 := by rw [unpairs_len, (sortP_perm ps).length_eq]; omega
   rw [hfull] at hown
   have hres := hown.rep hS hlenS
   have hnp : ¬ p + 1 < n := by have := HN.out; omega
   have hp40 : p ≤ 40 := by omega
   clear hfull hget hpj
   go_wp2
   go_ret
   exact ⟨_, rfl, hres, hsm⟩
end Go.Tm
namespace Go.Tm
open Go.RowKit Go.Proofs
set_option maxRecDepth 100000 in
set_option maxHeartbeats 2000000 in
theorem refIsWidth_any (z : Int) (w : World) (hz : -9223372036854775808 ≤ z ∧ z ≤ 9223372036854775807) : Calls Tryz.prog 116 #[.int .i64 z] w fun e w' => e = .returned (.bool (decide (z = 16) || decide (z = 32) || decide (z = 64))) ∧ w' = w := by
 by_cases h1 : z = 16
 ·subst h1
  go_enter Tryz.func116, Tryz.ntmps116
  go_wp2
  go_ret
  exact ⟨rfl, rfl⟩
 by_cases h2 : z = 32
 ·subst h2
  go_enter Tryz.func116, Tryz.ntmps116
  go_wp2
  go_ret
  exact ⟨rfl, rfl⟩
 by_cases h3 : z = 64
 ·subst h3
  go_enter Tryz.func116, Tryz.ntmps116
  go_wp2
  go_ret
  exact ⟨rfl, rfl⟩
 have k1 : (z == 16) = false := by simpa using h1
 have k2 : (z == 32) = false := by simpa using h2
 have k3 : (z == 64) = false := by simpa using h3
 have hr : (decide (z = 16) || decide (z = 32) || decide (z = 64)) = false := by simp [h1, h2, h3]
 rw [hr]
 clear h1 h2 h3 hr
 go_enter Tryz.func116, Tryz.ntmps116
 go_wp2
 go_ret
 exact ⟨by simp [*], rfl⟩
theorem refSizes16 (w : World) : Calls Tryz.prog 117 #[.int .i64 16] w fun e w' => e = .returned (.tuple #[.int .i64 10, .int .i64 5]) ∧ w' = w := by
 go_enter Tryz.func117, Tryz.ntmps117
 go_wp2
 go_ret2
 exact ⟨rfl, rfl⟩
theorem widen_err16 (b : Nat) : (widen b 16).2 = if b < 65536 then 0 else 2 := by
 by_cases h : b < 65536
 ·rw [if_pos h]
  have hb : ¬ 16 < bitLen b := by have := bitLen_le 16 b h; omega
  show (if 16 < bitLen b then ((0 : Nat), (2 : Int)) else _).2 = 0
  rw [if_neg hb]
  simp only
  repeat' split
  all_goals rfl
 ·rw [if_neg h]
  have hb : 16 < bitLen b := by
   unfold bitLen
   rw [if_neg (by omega)]
   have := (Nat.le_log2 (n := b) (k := 16) (by omega)).2 (by omega)
   omega
  have e : fForm 16 = some (10, 5, 16) := rfl
  unfold widen
  rw [e]
  simp only [if_pos hb]
set_option maxRecDepth 100000 in
set_option maxHeartbeats 4000000 in
theorem refWiden16 (b : Nat) (w : World) (hb : b < 18446744073709551616) : Calls Tryz.prog 72 #[.int .u64 b, .int .i64 16] w fun e w' => (∃ x : Int, e = .returned (.tuple #[.int .u64 x, .int .i64 (widen b 16).2])) ∧ Same w w' := by
 have hw := fun W => refIsWidth_any 16 W (by decide)
 have hwd : (decide ((16 : Int) = 16) || decide ((16 : Int) = 32) || decide ((16 : Int) = 64)) = true := by decide
 rw [hwd] at hw
 rw [widen_err16]
 by_cases h0 : b < 65536
 ·rw [if_pos h0]
  have h1 : ((b : Int) / 65536 != 0) = false := by rw [show (b : Int) / 65536 = 0 by omega]; rfl
  obtain ⟨f, hf, hf2⟩ : ∃ f : Nat, bits BinOp.and IntKind.u64 (b : Int) 1023 = (f : Int) ∧ f < 1024 := ⟨_, band b 1023 hb (by decide), Nat.lt_succ_of_le Nat.and_le_right⟩
  obtain ⟨e, he, he2⟩ : ∃ e : Nat, wrap64 (bits BinOp.and IntKind.u64 ((b : Int) / 1024) 31) = (e : Int) ∧ e ≤ 31 := by
   have hq : ((b : Int) / 1024) = ((b / 1024 : Nat) : Int) := by omega
   rw [hq, show (31 : Int) = ((31 : Nat) : Int) from rfl, band _ _ (by omega) (by decide)]
   have hle : b / 1024 &&& 31 ≤ 31 := Nat.and_le_right
   exact ⟨_, w64_nat _ (by omega), hle⟩
  clear hwd h0
  by_cases c1 : e = 31
  ·have k1 : ((e : Int) == 31) = true := by simp [c1]
   clear c1 hf2 he2
   go_enter Tryz.func72, Tryz.ntmps72
   go_wp2_with (go_at_call 116; refine (hw _).mono ?_; rintro e w1 ⟨rfl, h9⟩; replace h9 := h9.symm; subst h9)
   refine (refSizes16 _).mono ?_
   rintro e1 w1 ⟨rfl, h9⟩
   replace h9 := h9.symm
   subst h9
   go_wp2_with fail
   go_quiet (fail)
   go_wp2
   go_ret2
   exact ⟨⟨_, rfl⟩, smK⟩
  have k1 : ((e : Int) == 31) = false := by simpa using (by omega : ¬ (e : Int) = 31)
  clear c1 he2
  by_cases c2 : e = 0
  ·have k2 : ((e : Int) == 0) = true := by simp [c2]
   by_cases c3 : f = 0
   ·have k3 : ((f : Int) == 0) = true := by simp [c3]
    clear c2 c3 hf2
    go_enter Tryz.func72, Tryz.ntmps72
    go_wp2_with (go_at_call 116; refine (hw _).mono ?_; rintro e w1 ⟨rfl, h9⟩; replace h9 := h9.symm; subst h9)
    refine (refSizes16 _).mono ?_
    rintro e1 w1 ⟨rfl, h9⟩
    replace h9 := h9.symm
    subst h9
    go_wp2_with fail
    go_quiet (fail)
    go_wp2
    go_ret2
    exact ⟨⟨_, rfl⟩, smK⟩
   have k3 : ((f : Int) == 0) = false := by simpa using c3
   clear c2
   go_enter Tryz.func72, Tryz.ntmps72
   go_wp2_with (go_at_call 116; refine (hw _).mono ?_; rintro e w1 ⟨rfl, h9⟩; replace h9 := h9.symm; subst h9)
   refine (refSizes16 _).mono ?_
   rintro e1 w1 ⟨rfl, h9⟩
   replace h9 := h9.symm
   subst h9
   go_wp2_with fail
   go_quiet (fail)
   go_wp2
   go_loopw [9, 10] (fun ev fv wr => ∃ (z : Int) (g : Nat), ev = .int .i64 z ∧ fv = .int .u64 (g : Int) ∧ 0 < g ∧ g < 2048 ∧ Same w wr) (fun _ fv _ => 2048 - (RowKit.intOf fv).toNat)
   case atStart => exact ⟨1, f, rfl, rfl, Nat.pos_of_ne_zero c3, Nat.lt_trans hf2 (by decide), smK⟩
   case round =>
    clear hf he k1 k2 k3 hf2 c3
    obtain ⟨z, g, rfl, rfl, hg1, hg2, hsm⟩ := hrel
    by_cases c4 : g < 1024
    ·have k4 : ((g : Int) / 1024 == 0) = true := beq_iff_eq.2 (by omega)
     have k5 : IntKind.u64.wrap (2 * (g : Int)) = ((2 * g : Nat) : Int) := by rw [wrap_u64 (by omega) (by omega)]; push_cast; rfl
     go_wp2
     go_roundw
     case rel => exact ⟨_, 2 * g, rfl, by first | rfl | rw [k5], by omega, by omega, hsm⟩
     case measure => simp [RowKit.intOf]; omega
    ·have k4 : ((g : Int) / 1024 == 0) = false := beq_eq_false_iff_ne.2 (by omega)
     go_wp2
     go_ret2
     exact ⟨⟨_, rfl⟩, smK⟩
  have k2 : ((e : Int) == 0) = false := by simpa using c2
  clear c2 hf2
  go_enter Tryz.func72, Tryz.ntmps72
  go_wp2_with (go_at_call 116; refine (hw _).mono ?_; rintro e w1 ⟨rfl, h9⟩; replace h9 := h9.symm; subst h9)
  refine (refSizes16 _).mono ?_
  rintro e1 w1 ⟨rfl, h9⟩
  replace h9 := h9.symm
  subst h9
  go_wp2_with fail
  go_quiet (fail)
  go_wp2
  go_ret2
  exact ⟨⟨_, rfl⟩, smK⟩
 ·rw [if_neg h0]
  have h1 : ((b : Int) / 65536 != 0) = true := bne_iff_ne.2 (by omega)
  clear hwd h0
  go_enter Tryz.func72, Tryz.ntmps72
  go_wp2_with (go_at_call 116; refine (hw _).mono ?_; rintro e w1 ⟨rfl, h9⟩; replace h9 := h9.symm; subst h9)
  go_ret2
  exact ⟨⟨_, rfl⟩, smK⟩
theorem refSizes32 (w : World) : Calls Tryz.prog 117 #[.int .i64 32] w fun e w' => e = .returned (.tuple #[.int .i64 23, .int .i64 8]) ∧ w' = w := by
 go_enter Tryz.func117, Tryz.ntmps117
 go_wp2
 go_ret2
 exact ⟨rfl, rfl⟩
theorem widen_err32 (b : Nat) : (widen b 32).2 = if b < 4294967296 then 0 else 2 := by
 by_cases h : b < 4294967296
 ·rw [if_pos h]
  have hb : ¬ 32 < bitLen b := by have := bitLen_le 32 b h; omega
  show (if 32 < bitLen b then ((0 : Nat), (2 : Int)) else _).2 = 0
  rw [if_neg hb]
  simp only
  repeat' split
  all_goals rfl
 ·rw [if_neg h]
  have hb : 32 < bitLen b := by
   unfold bitLen
   rw [if_neg (by omega)]
   have := (Nat.le_log2 (n := b) (k := 32) (by omega)).2 (by omega)
   omega
  have e : fForm 32 = some (23, 8, 32) := rfl
  unfold widen
  rw [e]
  simp only [if_pos hb]
set_option maxRecDepth 100000 in
set_option maxHeartbeats 4000000 in
theorem refWiden32 (b : Nat) (w : World) (hb : b < 18446744073709551616) : Calls Tryz.prog 72 #[.int .u64 b, .int .i64 32] w fun e w' => (∃ x : Int, e = .returned (.tuple #[.int .u64 x, .int .i64 (widen b 32).2])) ∧ Same w w' := by
 have hw := fun W => refIsWidth_any 32 W (by decide)
 have hwd : (decide ((32 : Int) = 16) || decide ((32 : Int) = 32) || decide ((32 : Int) = 64)) = true := by decide
 rw [hwd] at hw
 rw [widen_err32]
 by_cases h0 : b < 4294967296
 ·rw [if_pos h0]
  have h1 : ((b : Int) / 4294967296 != 0) = false := by rw [show (b : Int) / 4294967296 = 0 by omega]; rfl
  obtain ⟨f, hf, hf2⟩ : ∃ f : Nat, bits BinOp.and IntKind.u64 (b : Int) 8388607 = (f : Int) ∧ f < 8388608 := ⟨_, band b 8388607 hb (by decide), Nat.lt_succ_of_le Nat.and_le_right⟩
  obtain ⟨e, he, he2⟩ : ∃ e : Nat, wrap64 (bits BinOp.and IntKind.u64 ((b : Int) / 8388608) 255) = (e : Int) ∧ e ≤ 255 := by
   have hq : ((b : Int) / 8388608) = ((b / 8388608 : Nat) : Int) := by omega
   rw [hq, show (255 : Int) = ((255 : Nat) : Int) from rfl, band _ _ (by omega) (by decide)]
   have hle : b / 8388608 &&& 255 ≤ 255 := Nat.and_le_right
   exact ⟨_, w64_nat _ (by omega), hle⟩
  clear hwd h0
  by_cases c1 : e = 255
  ·have k1 : ((e : Int) == 255) = true := by simp [c1]
   clear c1 hf2 he2
   go_enter Tryz.func72, Tryz.ntmps72
   go_wp2_with (go_at_call 116; refine (hw _).mono ?_; rintro e w1 ⟨rfl, h9⟩; replace h9 := h9.symm; subst h9)
   refine (refSizes32 _).mono ?_
   rintro e1 w1 ⟨rfl, h9⟩
   replace h9 := h9.symm
   subst h9
   go_wp2_with fail
   go_quiet (fail)
   go_wp2
   go_ret2
   exact ⟨⟨_, rfl⟩, smK⟩
  have k1 : ((e : Int) == 255) = false := by simpa using (by omega : ¬ (e : Int) = 255)
  clear c1 he2
  by_cases c2 : e = 0
  ·have k2 : ((e : Int) == 0) = true := by simp [c2]
   by_cases c3 : f = 0
   ·have k3 : ((f : Int) == 0) = true := by simp [c3]
    clear c2 c3 hf2
    go_enter Tryz.func72, Tryz.ntmps72
    go_wp2_with (go_at_call 116; refine (hw _).mono ?_; rintro e w1 ⟨rfl, h9⟩; replace h9 := h9.symm; subst h9)
    refine (refSizes32 _).mono ?_
    rintro e1 w1 ⟨rfl, h9⟩
    replace h9 := h9.symm
    subst h9
    go_wp2_with fail
    go_quiet (fail)
    go_wp2
    go_ret2
    exact ⟨⟨_, rfl⟩, smK⟩
   have k3 : ((f : Int) == 0) = false := by simpa using c3
   clear c2
   go_enter Tryz.func72, Tryz.ntmps72
   go_wp2_with (go_at_call 116; refine (hw _).mono ?_; rintro e w1 ⟨rfl, h9⟩; replace h9 := h9.symm; subst h9)
   refine (refSizes32 _).mono ?_
   rintro e1 w1 ⟨rfl, h9⟩
   replace h9 := h9.symm
   subst h9
   go_wp2_with fail
   go_quiet (fail)
   go_wp2
   go_loopw [9, 10] (fun ev fv wr => ∃ (z : Int) (g : Nat), ev = .int .i64 z ∧ fv = .int .u64 (g : Int) ∧ 0 < g ∧ g < 16777216 ∧ Same w wr) (fun _ fv _ => 16777216 - (RowKit.intOf fv).toNat)
   case atStart => exact ⟨1, f, rfl, rfl, Nat.pos_of_ne_zero c3, Nat.lt_trans hf2 (by decide), smK⟩
   case round =>
    clear hf he k1 k2 k3 hf2 c3
    obtain ⟨z, g, rfl, rfl, hg1, hg2, hsm⟩ := hrel
    by_cases c4 : g < 8388608
    ·have k4 : ((g : Int) / 8388608 == 0) = true := beq_iff_eq.2 (by omega)
     have k5 : IntKind.u64.wrap (2 * (g : Int)) = ((2 * g : Nat) : Int) := by rw [wrap_u64 (by omega) (by omega)]; push_cast; rfl
     go_wp2
     go_roundw
     case rel => exact ⟨_, 2 * g, rfl, by first | rfl | rw [k5], by omega, by omega, hsm⟩
     case measure => simp [RowKit.intOf]; omega
    ·have k4 : ((g : Int) / 8388608 == 0) = false := beq_eq_false_iff_ne.2 (by omega)
     go_wp2
     go_ret2
     exact ⟨⟨_, rfl⟩, smK⟩
  have k2 : ((e : Int) == 0) = false := by simpa using c2
  clear c2 hf2
  go_enter Tryz.func72, Tryz.ntmps72
  go_wp2_with (go_at_call 116; refine (hw _).mono ?_; rintro e w1 ⟨rfl, h9⟩; replace h9 := h9.symm; subst h9)
  refine (refSizes32 _).mono ?_
  rintro e1 w1 ⟨rfl, h9⟩
  replace h9 := h9.symm
  subst h9
  go_wp2_with fail
  go_quiet (fail)
  go_wp2
  go_ret2
  exact ⟨⟨_, rfl⟩, smK⟩
 ·rw [if_neg h0]
  have h1 : ((b : Int) / 4294967296 != 0) = true := bne_iff_ne.2 (by omega)
  clear hwd h0
  go_enter Tryz.func72, Tryz.ntmps72
  go_wp2_with (go_at_call 116; refine (hw _).mono ?_; rintro e w1 ⟨rfl, h9⟩; replace h9 := h9.symm; subst h9)
  go_ret2
  exact ⟨⟨_, rfl⟩, smK⟩
set_option maxRecDepth 100000 in
set_option maxHeartbeats 4000000 in
theorem refWiden_any (b : Nat) (z : Int) (w : World) (hb : b < 18446744073709551616) (hz : -9223372036854775808 ≤ z ∧ z ≤ 9223372036854775807) : Calls Tryz.prog 72 #[.int .u64 b, .int .i64 z] w fun e w' => (∃ x : Int, e = .returned (.tuple #[.int .u64 x, .int .i64 (widen b z).2])) ∧ Same w w' := by
 by_cases h1 : z = 16
 ·subst h1; exact refWiden16 b w hb
 by_cases h2 : z = 32
 ·subst h2; exact refWiden32 b w hb
 by_cases h3 : z = 64
 ·subst h3
  have hr : (widen b 64).2 = 0 := by
   have hl : ¬ 64 < bitLen b := by have := bitLen_le 64 b hb; omega
   show (if 64 < bitLen b then ((0 : Nat), (2 : Int)) else _).2 = 0
   rw [if_neg hl]
   rfl
  rw [hr]
  have hw := fun W => refIsWidth_any 64 W (by decide)
  have hwd : (decide ((64 : Int) = 16) || decide ((64 : Int) = 32) || decide ((64 : Int) = 64)) = true := by decide
  rw [hwd] at hw
  clear hwd hr h1 h2
  go_enter Tryz.func72, Tryz.ntmps72
  go_wp2_with (go_at_call 116; refine (hw _).mono ?_; rintro e w1 ⟨rfl, h9⟩; replace h9 := h9.symm; subst h9)
  go_ret2
  exact ⟨⟨_, rfl⟩, smK⟩
 have hr : (widen b z).2 = 2 := by
  have hf : fForm z = none := by unfold fForm; rw [if_neg h1, if_neg h2, if_neg h3]
  unfold widen; rw [hf]
 rw [hr]
 have hw := fun W => refIsWidth_any z W hz
 have hwd : (decide (z = 16) || decide (z = 32) || decide (z = 64)) = false := by simp [h1, h2, h3]
 rw [hwd] at hw
 clear hwd hr h1 h2 h3
 go_enter Tryz.func72, Tryz.ntmps72
 go_wp2_with (go_at_call 116; refine (hw _).mono ?_; rintro e w1 ⟨rfl, h9⟩; replace h9 := h9.symm; subst h9)
 go_ret2
 exact ⟨⟨_, rfl⟩, smK⟩
end Go.Tm
namespace Go.Tm
open Go.RowKit Go.Proofs
def onlyB (h g : Hd) : Bool := decide (h = { g with kind := h.kind })
theorem same_only (h g : Hd) (l : List Tree) : (Tree.node h l).same (.node { g with kind := h.kind } l) = onlyB h g := by
 unfold onlyB
 by_cases e : h = { g with kind := h.kind }
 ·rw [decide_eq_true e, ← e]; exact (same_iff _ _).2 rfl
 ·rw [decide_eq_false e, ← Bool.not_eq_true]
  intro h2
  have := (same_iff _ _).1 h2
  injection this with h3
  exact e h3
set_option maxRecDepth 100000 in
set_option maxHeartbeats 400000 in
theorem refOnly_any (h g : Hd) (l : List Tree) (S : Nat → Prop) (lv : Value) (w : World) (hl : RepS S w l lv) :
  Calls Tryz.prog 167 #[nodeV h lv, nodeV g (.slice none 0 0)] w fun e w' => e = .returned (.bool (onlyB h g)) ∧ Same w w' := by
 obtain ⟨a, cap, rfl⟩ := hl.is_slice
 have hs := fun W h1 h2 => refSame_any (.node h l) (.node { g with kind := h.kind } l) S (.slice a l.length cap) (.slice a l.length cap) W h1 h2
 rw [same_only] at hs
 simp only [Tree.hd_node, Tree.l_node] at hs
 go_enter Tryz.func167, Tryz.ntmps167
 go_wp2_with (first | (go_at_call 14; refine (hs _ ?h1 ?h2).mono ?_; (case h1 => exact hl.same (((Keep.refl _ _).alloc _).alloc _)); (case h2 => exact hl.same (((Keep.refl _ _).alloc _).alloc _)); rintro e w' ⟨rfl, hk'⟩))
 go_ret
 exact ⟨rfl, (((Keep.refl _ _).alloc _).alloc _).trans hk'⟩
def OwnSaid (h : Hd) (l : List Tree) : Prop := ∀ (S : Nat → Prop) (lv : Value) (w : World), h.ok → RepS S w l lv → Calls Tryz.prog 115 #[nodeV h lv] w fun e w' => e = .returned (.bool (ownT (.node h l))) ∧ Same w w'
theorem own_k1 {h : Hd} {l : List Tree} (hk : h.kind = 1) : ownT (.node h l) = (l.isEmpty && onlyB h (bareHd 0)) := by
 unfold ownT
 rw [if_pos (show (Tree.node h l).hd.kind = 1 from hk)]
 rfl
set_option maxRecDepth 100000 in
set_option maxHeartbeats 2000000 in
theorem refOwn1 {h : Hd} {l : List Tree} (hk : h.kind = 1) : OwnSaid h l := by
 intro S lv w ho hr
 rw [own_k1 hk]
 obtain ⟨a, cap, rfl⟩ := hr.is_slice
 have k1 : (h.kind == 1) = true := by rw [hk]; rfl
 clear hk
 by_cases h0 : l.length = 0
 ·obtain rfl : l = [] := List.length_eq_zero_iff.1 h0
  simp only [List.length_nil, List.isEmpty_nil, Bool.true_and] at hr ⊢
  have hon := fun W (hs : Same w W) => refOnly_any h (bareHd 0) [] S _ W (hr.same hs)
  obtain ⟨D, hD⟩ : ∃ D, onlyB h (bareHd 0) = D := ⟨_, rfl⟩
  rw [hD] at hon ⊢
  clear hD h0
  have hb0 : (w.alloc (.cells (nodeCs h (.slice a 0 cap)).toArray 27)).heap[w.heap.size]? = some (.cells (nodeCs h (.slice a 0 cap)).toArray 27 (0, 0)) := World.alloc_heap_new w _
  go_enter Tryz.func115, Tryz.ntmps115
  go_wp2_with (first | (go_at_call 167; refine (hon _ smK).mono ?_; rintro e w1 ⟨rfl, hk1⟩; have hb1 := hk1.same _ _ hb0 trivial; obtain ⟨n0, n1, n2, n3, n4, n5, n6, n7, n8⟩ := cells9 hb1))
  go_ret
  exact ⟨by cases D <;> rfl, smK⟩
 ·have h1 : ((l.length : Int) == 0) = false := by rw [beq_eq_false_iff_ne]; omega
  have h2 : l.isEmpty = false := by cases l <;> simp at h0 ⊢
  rw [h2]
  clear h2
  go_enter Tryz.func115, Tryz.ntmps115
  go_wp2
  go_ret
  exact ⟨by simp, smK⟩
theorem own_k2 {h : Hd} {l : List Tree} (hk : h.kind = 2) : ownT (.node h l) = (l.isEmpty && onlyB h { bareHd 0 with b := h.b }) := by
 unfold ownT
 rw [if_neg (show ¬ (Tree.node h l).hd.kind = 1 by rw [Tree.hd_node, hk]; decide), if_pos (show (Tree.node h l).hd.kind = 2 from hk)]
 rfl
set_option maxRecDepth 100000 in
set_option maxHeartbeats 2000000 in
theorem refOwn2 {h : Hd} {l : List Tree} (hk : h.kind = 2) : OwnSaid h l := by
 intro S lv w ho hr
 rw [own_k2 hk]
 obtain ⟨a, cap, rfl⟩ := hr.is_slice
 have k1 : (h.kind == 1) = false := by rw [hk]; rfl
 have k2 : (h.kind == 2) = true := by rw [hk]; rfl
 clear hk
 by_cases h0 : l.length = 0
 ·obtain rfl : l = [] := List.length_eq_zero_iff.1 h0
  simp only [List.length_nil, List.isEmpty_nil, Bool.true_and] at hr ⊢
  have hon := fun W (hs : Same w W) => refOnly_any h { bareHd 0 with b := h.b } [] S _ W (hr.same hs)
  obtain ⟨D, hD⟩ : ∃ D, onlyB h { bareHd 0 with b := h.b } = D := ⟨_, rfl⟩
  rw [hD] at hon ⊢
  clear hD h0
  have hb0 : (w.alloc (.cells (nodeCs h (.slice a 0 cap)).toArray 27)).heap[w.heap.size]? = some (.cells (nodeCs h (.slice a 0 cap)).toArray 27 (0, 0)) := World.alloc_heap_new w _
  go_enter Tryz.func115, Tryz.ntmps115
  go_wp2_with (first | (go_at_call 167; refine (hon _ smK).mono ?_; rintro e w1 ⟨rfl, hk1⟩; have hb1 := hk1.same _ _ hb0 trivial; obtain ⟨n0, n1, n2, n3, n4, n5, n6, n7, n8⟩ := cells9 hb1))
  go_ret
  exact ⟨by cases D <;> rfl, smK⟩
 ·have h1 : ((l.length : Int) == 0) = false := by rw [beq_eq_false_iff_ne]; omega
  have h2 : l.isEmpty = false := by cases l <;> simp at h0 ⊢
  rw [h2]
  clear h2
  go_enter Tryz.func115, Tryz.ntmps115
  go_wp2
  go_ret
  exact ⟨by simp, smK⟩
theorem own_k3 {h : Hd} {l : List Tree} (hk : h.kind = 3) : ownT (.node h l) = (l.isEmpty && onlyB h { bareHd 0 with d := h.d } && decRight h.d) := by
 unfold ownT
 rw [if_neg (show ¬ (Tree.node h l).hd.kind = 1 by rw [Tree.hd_node, hk]; decide), if_neg (show ¬ (Tree.node h l).hd.kind = 2 by rw [Tree.hd_node, hk]; decide), if_pos (show (Tree.node h l).hd.kind = 3 from hk)]
 rfl
set_option maxRecDepth 100000 in
set_option maxHeartbeats 2000000 in
theorem refOwn3 {h : Hd} {l : List Tree} (hk : h.kind = 3) : OwnSaid h l := by
 intro S lv w ho hr
 rw [own_k3 hk]
 obtain ⟨a, cap, rfl⟩ := hr.is_slice
 have k1 : (h.kind == 1) = false := by rw [hk]; rfl
 have k2 : (h.kind == 2) = false := by rw [hk]; rfl
 have k3 : (h.kind == 3) = true := by rw [hk]; rfl
 clear hk
 by_cases h0 : l.length = 0
 ·obtain rfl : l = [] := List.length_eq_zero_iff.1 h0
  simp only [List.length_nil, List.isEmpty_nil, Bool.true_and] at hr ⊢
  have hon := fun W (hs : Same w W) => refOnly_any h { bareHd 0 with d := h.d } [] S _ W (hr.same hs)
  obtain ⟨D, hD⟩ : ∃ D, onlyB h { bareHd 0 with d := h.d } = D := ⟨_, rfl⟩
  rw [hD] at hon ⊢
  clear hD h0
  have hb0 : (w.alloc (.cells (nodeCs h (.slice a 0 cap)).toArray 27)).heap[w.heap.size]? = some (.cells (nodeCs h (.slice a 0 cap)).toArray 27 (0, 0)) := World.alloc_heap_new w _
  have hdr := fun W => refDecRight_any h.d W (by have := ho.2.2.2.2.1; omega) ho.2.1
  obtain ⟨R, hR⟩ : ∃ R, decRight h.d = R := ⟨_, rfl⟩
  rw [hR] at hdr ⊢
  clear hR
  cases D with
  | false =>
   go_enter Tryz.func115, Tryz.ntmps115
   go_wp2_with (first | (go_at_call 167; refine (hon _ smK).mono ?_; rintro e w1 ⟨rfl, hk1⟩; have hb1 := hk1.same _ _ hb0 trivial; obtain ⟨n0, n1, n2, n3, n4, n5, n6, n7, n8⟩ := cells9 hb1))
   go_ret
   exact ⟨by cases R <;> rfl, smK⟩
  | true =>
   go_enter Tryz.func115, Tryz.ntmps115
   go_wp2_with (first | (go_at_call 167; refine (hon _ smK).mono ?_; rintro e w1 ⟨rfl, hk1⟩; have hb1 := hk1.same _ _ hb0 trivial; obtain ⟨n0, n1, n2, n3, n4, n5, n6, n7, n8⟩ := cells9 hb1) | (go_at_call 119; refine (hdr _).mono ?_; rintro e w2 ⟨rfl, hk2⟩))
   go_ret
   exact ⟨by cases R <;> rfl, smK⟩
 ·have h1 : ((l.length : Int) == 0) = false := by rw [beq_eq_false_iff_ne]; omega
  have h2 : l.isEmpty = false := by cases l <;> simp at h0 ⊢
  rw [h2]
  clear h2
  go_enter Tryz.func115, Tryz.ntmps115
  go_wp2
  go_ret
  exact ⟨by simp, smK⟩
theorem own_k4 {h : Hd} {l : List Tree} (hk : h.kind = 4) : ownT (.node h l) = (l.isEmpty && onlyB h { bareHd 0 with u := h.u, w := h.w } && decide ((widen h.u h.w).2 = 0)) := by
 unfold ownT
 rw [if_neg (show ¬ (Tree.node h l).hd.kind = 1 by rw [Tree.hd_node, hk]; decide), if_neg (show ¬ (Tree.node h l).hd.kind = 2 by rw [Tree.hd_node, hk]; decide), if_neg (show ¬ (Tree.node h l).hd.kind = 3 by rw [Tree.hd_node, hk]; decide), if_pos (show (Tree.node h l).hd.kind = 4 from hk)]
 rfl
set_option maxRecDepth 100000 in
set_option maxHeartbeats 2000000 in
theorem refOwn4 {h : Hd} {l : List Tree} (hk : h.kind = 4) : OwnSaid h l := by
 intro S lv w ho hr
 rw [own_k4 hk]
 obtain ⟨a, cap, rfl⟩ := hr.is_slice
 have k1 : (h.kind == 1) = false := by rw [hk]; rfl
 have k2 : (h.kind == 2) = false := by rw [hk]; rfl
 have k3 : (h.kind == 3) = false := by rw [hk]; rfl
 have k4 : (h.kind == 4) = true := by rw [hk]; rfl
 clear hk
 by_cases h0 : l.length = 0
 ·obtain rfl : l = [] := List.length_eq_zero_iff.1 h0
  simp only [List.length_nil, List.isEmpty_nil, Bool.true_and] at hr ⊢
  have hon := fun W (hs : Same w W) => refOnly_any h { bareHd 0 with u := h.u, w := h.w } [] S _ W (hr.same hs)
  obtain ⟨D, hD⟩ : ∃ D, onlyB h { bareHd 0 with u := h.u, w := h.w } = D := ⟨_, rfl⟩
  rw [hD] at hon ⊢
  clear hD h0
  have hb0 : (w.alloc (.cells (nodeCs h (.slice a 0 cap)).toArray 27)).heap[w.heap.size]? = some (.cells (nodeCs h (.slice a 0 cap)).toArray 27 (0, 0)) := World.alloc_heap_new w _
  have hwd := fun W => refWiden_any h.u h.w W ho.2.2.2.1 ho.2.2.1
  obtain ⟨R, hR⟩ : ∃ R, (widen h.u h.w).2 = R := ⟨_, rfl⟩
  rw [hR] at hwd ⊢
  clear hR
  cases D with
  | false =>
   go_enter Tryz.func115, Tryz.ntmps115
   go_wp2_with (first | (go_at_call 72; refine (hwd _).mono ?_; rintro e w0 ⟨⟨x, rfl⟩, hk0⟩; have hb2 := hk0.same _ _ hb0 trivial; obtain ⟨z0, z1, z2, z3, z4, z5, z6, z7, z8⟩ := cells9 hb2) | (go_at_call 167; refine (hon _ smK).mono ?_; rintro e w1 ⟨rfl, hk1⟩))
   go_ret
   exact ⟨by simp, smK⟩
  | true =>
   by_cases c : R = 0
   ·have c1 : ((R : Int) == 0) = true := by simp [c]
    have hc : decide (R = 0) = true := decide_eq_true c
    rw [hc]
    clear c hc
    go_enter Tryz.func115, Tryz.ntmps115
    go_wp2_with (first | (go_at_call 72; refine (hwd _).mono ?_; rintro e w0 ⟨⟨x, rfl⟩, hk0⟩; have hb2 := hk0.same _ _ hb0 trivial; obtain ⟨z0, z1, z2, z3, z4, z5, z6, z7, z8⟩ := cells9 hb2) | (go_at_call 167; refine (hon _ smK).mono ?_; rintro e w1 ⟨rfl, hk1⟩))
    go_ret
    exact ⟨by simp, smK⟩
   ·have c1 : ((R : Int) == 0) = false := by simpa using c
    have hc : decide (R = 0) = false := decide_eq_false c
    rw [hc]
    clear c hc
    go_enter Tryz.func115, Tryz.ntmps115
    go_wp2_with (first | (go_at_call 72; refine (hwd _).mono ?_; rintro e w0 ⟨⟨x, rfl⟩, hk0⟩; have hb2 := hk0.same _ _ hb0 trivial; obtain ⟨z0, z1, z2, z3, z4, z5, z6, z7, z8⟩ := cells9 hb2) | (go_at_call 167; refine (hon _ smK).mono ?_; rintro e w1 ⟨rfl, hk1⟩))
    go_ret
    exact ⟨by simp, smK⟩
 ·have h1 : ((l.length : Int) == 0) = false := by rw [beq_eq_false_iff_ne]; omega
  have h2 : l.isEmpty = false := by cases l <;> simp at h0 ⊢
  rw [h2]
  clear h2
  have hwd := fun W => refWiden_any h.u h.w W ho.2.2.2.1 ho.2.2.1
  go_enter Tryz.func115, Tryz.ntmps115
  go_wp2_with (first | (go_at_call 72; refine (hwd _).mono ?_; rintro e w0 ⟨⟨x, rfl⟩, hk0⟩))
  go_ret
  exact ⟨by simp, smK⟩
theorem own_k5 {h : Hd} {l : List Tree} (hk : h.kind = 5) : ownT (.node h l) = (l.isEmpty && onlyB h { bareHd 0 with s := h.s } && decide (h.s.size ≤ 400) && utfRight h.s) := by
 unfold ownT
 rw [if_neg (show ¬ (Tree.node h l).hd.kind = 1 by rw [Tree.hd_node, hk]; decide), if_neg (show ¬ (Tree.node h l).hd.kind = 2 by rw [Tree.hd_node, hk]; decide), if_neg (show ¬ (Tree.node h l).hd.kind = 3 by rw [Tree.hd_node, hk]; decide), if_neg (show ¬ (Tree.node h l).hd.kind = 4 by rw [Tree.hd_node, hk]; decide), if_pos (show (Tree.node h l).hd.kind = 5 from hk)]
 rfl
set_option maxRecDepth 100000 in
set_option maxHeartbeats 2000000 in
theorem refOwn5 {h : Hd} {l : List Tree} (hk : h.kind = 5) : OwnSaid h l := by
 intro S lv w ho hr
 rw [own_k5 hk]
 obtain ⟨a, cap, rfl⟩ := hr.is_slice
 have k1 : (h.kind == 1) = false := by rw [hk]; rfl
 have k2 : (h.kind == 2) = false := by rw [hk]; rfl
 have k3 : (h.kind == 3) = false := by rw [hk]; rfl
 have k4 : (h.kind == 4) = false := by rw [hk]; rfl
 have k5 : (h.kind == 5) = true := by rw [hk]; rfl
 clear hk
 by_cases h0 : l.length = 0
 ·obtain rfl : l = [] := List.length_eq_zero_iff.1 h0
  simp only [List.length_nil, List.isEmpty_nil, Bool.true_and] at hr ⊢
  have hon := fun W (hs : Same w W) => refOnly_any h { bareHd 0 with s := h.s } [] S _ W (hr.same hs)
  obtain ⟨D, hD⟩ : ∃ D, onlyB h { bareHd 0 with s := h.s } = D := ⟨_, rfl⟩
  rw [hD] at hon ⊢
  clear hD h0
  have hb0 : (w.alloc (.cells (nodeCs h (.slice a 0 cap)).toArray 27)).heap[w.heap.size]? = some (.cells (nodeCs h (.slice a 0 cap)).toArray 27 (0, 0)) := World.alloc_heap_new w _
  by_cases c : h.s.size ≤ 400
  ·have hc : decide (h.s.size ≤ 400) = true := decide_eq_true c
   rw [hc]
   clear hc
   have hu := fun W => refUtf_any h.s W (by omega)
   obtain ⟨R, hR⟩ : ∃ R, Lib.validD h.s.data.toList = R := ⟨_, rfl⟩
   have hR2 : utfRight h.s = R := hR
   rw [hR] at hu
   rw [hR2]
   clear hR hR2
   cases D with
   | false =>
    go_enter Tryz.func115, Tryz.ntmps115
    go_wp2_with (first | (go_at_call 167; refine (hon _ smK).mono ?_; rintro e w1 ⟨rfl, hk1⟩; have hb1 := hk1.same _ _ hb0 trivial; obtain ⟨n0, n1, n2, n3, n4, n5, n6, n7, n8⟩ := cells9 hb1))
    go_ret
    exact ⟨by cases R <;> rfl, smK⟩
   | true =>
    go_enter Tryz.func115, Tryz.ntmps115
    go_wp2_with (first | (go_at_call 167; refine (hon _ smK).mono ?_; rintro e w1 ⟨rfl, hk1⟩; have hb1 := hk1.same _ _ hb0 trivial; obtain ⟨n0, n1, n2, n3, n4, n5, n6, n7, n8⟩ := cells9 hb1) | (go_at_call 168; refine (hu _).mono ?_; rintro e w2 ⟨rfl, h9⟩; replace h9 := h9.symm; subst h9))
    go_ret
    exact ⟨by cases R <;> rfl, smK⟩
  ·have hc : decide (h.s.size ≤ 400) = false := decide_eq_false c
   rw [hc]
   clear hc
   cases D with
   | false =>
    go_enter Tryz.func115, Tryz.ntmps115
    go_wp2_with (first | (go_at_call 167; refine (hon _ smK).mono ?_; rintro e w1 ⟨rfl, hk1⟩; have hb1 := hk1.same _ _ hb0 trivial; obtain ⟨n0, n1, n2, n3, n4, n5, n6, n7, n8⟩ := cells9 hb1))
    go_ret
    exact ⟨by first | rfl | (simp; done) | (simp; omega), smK⟩
   | true =>
    go_enter Tryz.func115, Tryz.ntmps115
    go_wp2_with (first | (go_at_call 167; refine (hon _ smK).mono ?_; rintro e w1 ⟨rfl, hk1⟩; have hb1 := hk1.same _ _ hb0 trivial; obtain ⟨n0, n1, n2, n3, n4, n5, n6, n7, n8⟩ := cells9 hb1))
    go_ret
    exact ⟨by first | rfl | (simp; done) | (simp; omega), smK⟩
 ·have h1 : ((l.length : Int) == 0) = false := by rw [beq_eq_false_iff_ne]; omega
  have h2 : l.isEmpty = false := by cases l <;> simp at h0 ⊢
  rw [h2]
  clear h2
  go_enter Tryz.func115, Tryz.ntmps115
  go_wp2
  go_ret
  exact ⟨by simp, smK⟩
theorem own_k6 {h : Hd} {l : List Tree} (hk : h.kind = 6) : ownT (.node h l) = (l.isEmpty && onlyB h { bareHd 0 with s := h.s } && decide (h.s.size ≤ 400)) := by
 unfold ownT
 rw [if_neg (show ¬ (Tree.node h l).hd.kind = 1 by rw [Tree.hd_node, hk]; decide), if_neg (show ¬ (Tree.node h l).hd.kind = 2 by rw [Tree.hd_node, hk]; decide), if_neg (show ¬ (Tree.node h l).hd.kind = 3 by rw [Tree.hd_node, hk]; decide), if_neg (show ¬ (Tree.node h l).hd.kind = 4 by rw [Tree.hd_node, hk]; decide), if_neg (show ¬ (Tree.node h l).hd.kind = 5 by rw [Tree.hd_node, hk]; decide), if_pos (show (Tree.node h l).hd.kind = 6 from hk)]
 rfl
set_option maxRecDepth 100000 in
set_option maxHeartbeats 2000000 in
theorem refOwn6 {h : Hd} {l : List Tree} (hk : h.kind = 6) : OwnSaid h l := by
 intro S lv w ho hr
 rw [own_k6 hk]
 obtain ⟨a, cap, rfl⟩ := hr.is_slice
 have k1 : (h.kind == 1) = false := by rw [hk]; rfl
 have k2 : (h.kind == 2) = false := by rw [hk]; rfl
 have k3 : (h.kind == 3) = false := by rw [hk]; rfl
 have k4 : (h.kind == 4) = false := by rw [hk]; rfl
 have k5 : (h.kind == 5) = false := by rw [hk]; rfl
 have k6 : (h.kind == 6) = true := by rw [hk]; rfl
 clear hk
 by_cases h0 : l.length = 0
 ·obtain rfl : l = [] := List.length_eq_zero_iff.1 h0
  simp only [List.length_nil, List.isEmpty_nil, Bool.true_and] at hr ⊢
  have hon := fun W (hs : Same w W) => refOnly_any h { bareHd 0 with s := h.s } [] S _ W (hr.same hs)
  obtain ⟨D, hD⟩ : ∃ D, onlyB h { bareHd 0 with s := h.s } = D := ⟨_, rfl⟩
  rw [hD] at hon ⊢
  clear hD h0
  have hb0 : (w.alloc (.cells (nodeCs h (.slice a 0 cap)).toArray 27)).heap[w.heap.size]? = some (.cells (nodeCs h (.slice a 0 cap)).toArray 27 (0, 0)) := World.alloc_heap_new w _
  by_cases c : h.s.size ≤ 400
  ·have hc : decide (h.s.size ≤ 400) = true := decide_eq_true c
   rw [hc]
   clear hc
   cases D with
   | false =>
    go_enter Tryz.func115, Tryz.ntmps115
    go_wp2_with (first | (go_at_call 167; refine (hon _ smK).mono ?_; rintro e w1 ⟨rfl, hk1⟩; have hb1 := hk1.same _ _ hb0 trivial; obtain ⟨n0, n1, n2, n3, n4, n5, n6, n7, n8⟩ := cells9 hb1))
    go_ret
    exact ⟨by first | rfl | (simp; done) | (simp; omega), smK⟩
   | true =>
    go_enter Tryz.func115, Tryz.ntmps115
    go_wp2_with (first | (go_at_call 167; refine (hon _ smK).mono ?_; rintro e w1 ⟨rfl, hk1⟩; have hb1 := hk1.same _ _ hb0 trivial; obtain ⟨n0, n1, n2, n3, n4, n5, n6, n7, n8⟩ := cells9 hb1))
    go_ret
    exact ⟨by first | rfl | (simp; done) | (simp; omega), smK⟩
  ·have hc : decide (h.s.size ≤ 400) = false := decide_eq_false c
   rw [hc]
   clear hc
   cases D with
   | false =>
    go_enter Tryz.func115, Tryz.ntmps115
    go_wp2_with (first | (go_at_call 167; refine (hon _ smK).mono ?_; rintro e w1 ⟨rfl, hk1⟩; have hb1 := hk1.same _ _ hb0 trivial; obtain ⟨n0, n1, n2, n3, n4, n5, n6, n7, n8⟩ := cells9 hb1))
    go_ret
    exact ⟨by first | rfl | (simp; done) | (simp; omega), smK⟩
   | true =>
    go_enter Tryz.func115, Tryz.ntmps115
    go_wp2_with (first | (go_at_call 167; refine (hon _ smK).mono ?_; rintro e w1 ⟨rfl, hk1⟩; have hb1 := hk1.same _ _ hb0 trivial; obtain ⟨n0, n1, n2, n3, n4, n5, n6, n7, n8⟩ := cells9 hb1))
    go_ret
    exact ⟨by first | rfl | (simp; done) | (simp; omega), smK⟩
 ·have h1 : ((l.length : Int) == 0) = false := by rw [beq_eq_false_iff_ne]; omega
  have h2 : l.isEmpty = false := by cases l <;> simp at h0 ⊢
  rw [h2]
  clear h2
  go_enter Tryz.func115, Tryz.ntmps115
  go_wp2
  go_ret
  exact ⟨by simp, smK⟩
theorem own_k7 {h : Hd} {l : List Tree} (hk : h.kind = 7) : ownT (.node h l) = onlyB h (bareHd 0) := by
 unfold ownT
 rw [if_neg (show ¬ (Tree.node h l).hd.kind = 1 by rw [Tree.hd_node, hk]; decide), if_neg (show ¬ (Tree.node h l).hd.kind = 2 by rw [Tree.hd_node, hk]; decide), if_neg (show ¬ (Tree.node h l).hd.kind = 3 by rw [Tree.hd_node, hk]; decide), if_neg (show ¬ (Tree.node h l).hd.kind = 4 by rw [Tree.hd_node, hk]; decide), if_neg (show ¬ (Tree.node h l).hd.kind = 5 by rw [Tree.hd_node, hk]; decide), if_neg (show ¬ (Tree.node h l).hd.kind = 6 by rw [Tree.hd_node, hk]; decide), if_pos (show (Tree.node h l).hd.kind = 7 from hk)]
 unfold onlyB
 rw [show bareHd 7 = { bareHd 0 with kind := h.kind } by rw [hk]; rfl]
 rfl
set_option maxRecDepth 100000 in
set_option maxHeartbeats 2000000 in
theorem refOwn7 {h : Hd} {l : List Tree} (hk : h.kind = 7) : OwnSaid h l := by
 intro S lv w ho hr
 rw [own_k7 hk]
 obtain ⟨a, cap, rfl⟩ := hr.is_slice
 have k1 : (h.kind == 1) = false := by rw [hk]; rfl
 have k2 : (h.kind == 2) = false := by rw [hk]; rfl
 have k3 : (h.kind == 3) = false := by rw [hk]; rfl
 have k4 : (h.kind == 4) = false := by rw [hk]; rfl
 have k5 : (h.kind == 5) = false := by rw [hk]; rfl
 have k6 : (h.kind == 6) = false := by rw [hk]; rfl
 have k7 : (h.kind == 7) = true := by rw [hk]; rfl
 clear hk
 have hon := fun W (hs : Same w W) => refOnly_any h (bareHd 0) l S _ W (hr.same hs)
 go_enter Tryz.func115, Tryz.ntmps115
 go_wp2_with (first | (go_at_call 167; refine (hon _ smK).mono ?_; rintro e w1 ⟨rfl, hk1⟩))
 go_ret
 exact ⟨rfl, smK⟩
theorem own_k9 {h : Hd} {l : List Tree} (hk : h.kind = 9) : ownT (.node h l) = (onlyB h { bareHd 0 with u := h.u } && decide (l.length = 1)) := by
 unfold ownT
 rw [if_neg (show ¬ (Tree.node h l).hd.kind = 1 by rw [Tree.hd_node, hk]; decide), if_neg (show ¬ (Tree.node h l).hd.kind = 2 by rw [Tree.hd_node, hk]; decide), if_neg (show ¬ (Tree.node h l).hd.kind = 3 by rw [Tree.hd_node, hk]; decide), if_neg (show ¬ (Tree.node h l).hd.kind = 4 by rw [Tree.hd_node, hk]; decide), if_neg (show ¬ (Tree.node h l).hd.kind = 5 by rw [Tree.hd_node, hk]; decide), if_neg (show ¬ (Tree.node h l).hd.kind = 6 by rw [Tree.hd_node, hk]; decide), if_neg (show ¬ (Tree.node h l).hd.kind = 7 by rw [Tree.hd_node, hk]; decide), if_neg (show ¬ (Tree.node h l).hd.kind = 8 by rw [Tree.hd_node, hk]; decide), if_pos (show (Tree.node h l).hd.kind = 9 from hk)]
 unfold onlyB
 rw [show ({ bareHd 9 with u := (Tree.node h l).hd.u } : Hd) = { ({ bareHd 0 with u := h.u } : Hd) with kind := h.kind } by rw [hk]; rfl]
 rfl
set_option maxRecDepth 100000 in
set_option maxHeartbeats 2000000 in
theorem refOwn9 {h : Hd} {l : List Tree} (hk : h.kind = 9) : OwnSaid h l := by
 intro S lv w ho hr
 rw [own_k9 hk]
 obtain ⟨a, cap, rfl⟩ := hr.is_slice
 have k1 : (h.kind == 1) = false := by rw [hk]; rfl
 have k2 : (h.kind == 2) = false := by rw [hk]; rfl
 have k3 : (h.kind == 3) = false := by rw [hk]; rfl
 have k4 : (h.kind == 4) = false := by rw [hk]; rfl
 have k5 : (h.kind == 5) = false := by rw [hk]; rfl
 have k6 : (h.kind == 6) = false := by rw [hk]; rfl
 have k7 : (h.kind == 7) = false := by rw [hk]; rfl
 have k8 : (h.kind == 8) = false := by rw [hk]; rfl
 have k9 : (h.kind == 9) = true := by rw [hk]; rfl
 clear hk
 have hon := fun W (hs : Same w W) => refOnly_any h { bareHd 0 with u := h.u } l S _ W (hr.same hs)
 obtain ⟨D, hD⟩ : ∃ D, onlyB h { bareHd 0 with u := h.u } = D := ⟨_, rfl⟩
 rw [hD] at hon ⊢
 clear hD
 by_cases h0 : l.length = 1
 ·have h1 : ((l.length : Int) == 1) = true := by simp [h0]
  rw [decide_eq_true h0]
  clear h0
  go_enter Tryz.func115, Tryz.ntmps115
  go_wp2_with (first | (go_at_call 167; refine (hon _ smK).mono ?_; rintro e w1 ⟨rfl, hk1⟩))
  go_ret
  exact ⟨by simp, smK⟩
 ·have h1 : ((l.length : Int) == 1) = false := by rw [beq_eq_false_iff_ne]; omega
  rw [decide_eq_false h0]
  clear h0
  go_enter Tryz.func115, Tryz.ntmps115
  go_wp2
  go_ret
  exact ⟨by simp, smK⟩
theorem own_k10 {h : Hd} {l : List Tree} (hk : h.kind = 10) : ownT (.node h l) = (l.isEmpty && onlyB h { bareHd 0 with u := h.u } && decide (h.u ≤ 255) && (decide (h.u < 20) || decide (h.u = 23) || decide (31 < h.u))) := by
 unfold ownT
 rw [if_neg (show ¬ (Tree.node h l).hd.kind = 1 by rw [Tree.hd_node, hk]; decide), if_neg (show ¬ (Tree.node h l).hd.kind = 2 by rw [Tree.hd_node, hk]; decide), if_neg (show ¬ (Tree.node h l).hd.kind = 3 by rw [Tree.hd_node, hk]; decide), if_neg (show ¬ (Tree.node h l).hd.kind = 4 by rw [Tree.hd_node, hk]; decide), if_neg (show ¬ (Tree.node h l).hd.kind = 5 by rw [Tree.hd_node, hk]; decide), if_neg (show ¬ (Tree.node h l).hd.kind = 6 by rw [Tree.hd_node, hk]; decide), if_neg (show ¬ (Tree.node h l).hd.kind = 7 by rw [Tree.hd_node, hk]; decide), if_neg (show ¬ (Tree.node h l).hd.kind = 8 by rw [Tree.hd_node, hk]; decide), if_neg (show ¬ (Tree.node h l).hd.kind = 9 by rw [Tree.hd_node, hk]; decide), if_pos (show (Tree.node h l).hd.kind = 10 from hk)]
 rfl
set_option maxRecDepth 100000 in
set_option maxHeartbeats 2000000 in
theorem refOwn10 {h : Hd} {l : List Tree} (hk : h.kind = 10) : OwnSaid h l := by
 intro S lv w ho hr
 rw [own_k10 hk]
 obtain ⟨a, cap, rfl⟩ := hr.is_slice
 have k1 : (h.kind == 1) = false := by rw [hk]; rfl
 have k2 : (h.kind == 2) = false := by rw [hk]; rfl
 have k3 : (h.kind == 3) = false := by rw [hk]; rfl
 have k4 : (h.kind == 4) = false := by rw [hk]; rfl
 have k5 : (h.kind == 5) = false := by rw [hk]; rfl
 have k6 : (h.kind == 6) = false := by rw [hk]; rfl
 have k7 : (h.kind == 7) = false := by rw [hk]; rfl
 have k8 : (h.kind == 8) = false := by rw [hk]; rfl
 have k9 : (h.kind == 9) = false := by rw [hk]; rfl
 have k10 : (h.kind == 10) = true := by rw [hk]; rfl
 clear hk
 by_cases h0 : l.length = 0
 ·obtain rfl : l = [] := List.length_eq_zero_iff.1 h0
  simp only [List.length_nil, List.isEmpty_nil, Bool.true_and] at hr ⊢
  have hon := fun W (hs : Same w W) => refOnly_any h { bareHd 0 with u := h.u } [] S _ W (hr.same hs)
  obtain ⟨D, hD⟩ : ∃ D, onlyB h { bareHd 0 with u := h.u } = D := ⟨_, rfl⟩
  rw [hD] at hon ⊢
  clear hD h0
  have hb0 : (w.alloc (.cells (nodeCs h (.slice a 0 cap)).toArray 27)).heap[w.heap.size]? = some (.cells (nodeCs h (.slice a 0 cap)).toArray 27 (0, 0)) := World.alloc_heap_new w _
  have hq : (decide (h.u ≤ 255) && (decide (h.u < 20) || decide (h.u = 23) || decide (31 < h.u))) = (decide (h.u ≤ 19) || decide (h.u = 23) || (decide (32 ≤ h.u) && decide (h.u ≤ 255))) := by
   rw [Bool.eq_iff_iff]; simp; omega
  rw [Bool.and_assoc, hq]
  clear hq
  cases D with
  | false =>
   go_enter Tryz.func115, Tryz.ntmps115
   go_wp2_with (first | (go_at_call 167; refine (hon _ smK).mono ?_; rintro e w1 ⟨rfl, hk1⟩; have hb1 := hk1.same _ _ hb0 trivial; obtain ⟨n0, n1, n2, n3, n4, n5, n6, n7, n8⟩ := cells9 hb1))
   go_ret
   exact ⟨by simp, smK⟩
  | true =>
   by_cases c1 : h.u ≤ 19
   ·have hc : (decide (h.u ≤ 19) || decide (h.u = 23) || (decide (32 ≤ h.u) && decide (h.u ≤ 255))) = true := by rw [decide_eq_true c1]; rfl
    rw [hc]
    clear hc
    go_enter Tryz.func115, Tryz.ntmps115
    go_wp2_with (first | (go_at_call 167; refine (hon _ smK).mono ?_; rintro e w1 ⟨rfl, hk1⟩; have hb1 := hk1.same _ _ hb0 trivial; obtain ⟨n0, n1, n2, n3, n4, n5, n6, n7, n8⟩ := cells9 hb1))
    go_ret
    exact ⟨by first | rfl | (simp; done) | (simp; omega), smK⟩
   by_cases c2 : h.u = 23
   ·have hc : (decide (h.u ≤ 19) || decide (h.u = 23) || (decide (32 ≤ h.u) && decide (h.u ≤ 255))) = true := by rw [decide_eq_true c2]; simp
    have c3 : ((h.u : Int) == 23) = true := by simp [c2]
    rw [hc]
    clear hc c2
    go_enter Tryz.func115, Tryz.ntmps115
    go_wp2_with (first | (go_at_call 167; refine (hon _ smK).mono ?_; rintro e w1 ⟨rfl, hk1⟩; have hb1 := hk1.same _ _ hb0 trivial; obtain ⟨n0, n1, n2, n3, n4, n5, n6, n7, n8⟩ := cells9 hb1))
    go_ret
    exact ⟨by first | rfl | (simp; done) | (simp; omega), smK⟩
   have c3 : ((h.u : Int) == 23) = false := by simp; omega
   by_cases c4 : 32 ≤ h.u
   ·by_cases c5 : h.u ≤ 255
    ·have hc : (decide (h.u ≤ 19) || decide (h.u = 23) || (decide (32 ≤ h.u) && decide (h.u ≤ 255))) = true := by rw [decide_eq_true c4, decide_eq_true c5]; simp
     rw [hc]
     clear hc c2
     go_enter Tryz.func115, Tryz.ntmps115
     go_wp2_with (first | (go_at_call 167; refine (hon _ smK).mono ?_; rintro e w1 ⟨rfl, hk1⟩; have hb1 := hk1.same _ _ hb0 trivial; obtain ⟨n0, n1, n2, n3, n4, n5, n6, n7, n8⟩ := cells9 hb1))
     go_ret
     exact ⟨by first | rfl | (simp; done) | (simp; omega), smK⟩
    ·have hc : (decide (h.u ≤ 19) || decide (h.u = 23) || (decide (32 ≤ h.u) && decide (h.u ≤ 255))) = false := by rw [decide_eq_false c5, decide_eq_false c1, decide_eq_false c2]; simp
     rw [hc]
     clear hc c2
     go_enter Tryz.func115, Tryz.ntmps115
     go_wp2_with (first | (go_at_call 167; refine (hon _ smK).mono ?_; rintro e w1 ⟨rfl, hk1⟩; have hb1 := hk1.same _ _ hb0 trivial; obtain ⟨n0, n1, n2, n3, n4, n5, n6, n7, n8⟩ := cells9 hb1))
     go_ret
     exact ⟨by first | rfl | (simp; done) | (simp; omega), smK⟩
   ·have hc : (decide (h.u ≤ 19) || decide (h.u = 23) || (decide (32 ≤ h.u) && decide (h.u ≤ 255))) = false := by rw [decide_eq_false c4, decide_eq_false c1, decide_eq_false c2]; simp
    rw [hc]
    clear hc c2
    go_enter Tryz.func115, Tryz.ntmps115
    go_wp2_with (first | (go_at_call 167; refine (hon _ smK).mono ?_; rintro e w1 ⟨rfl, hk1⟩; have hb1 := hk1.same _ _ hb0 trivial; obtain ⟨n0, n1, n2, n3, n4, n5, n6, n7, n8⟩ := cells9 hb1))
    go_ret
    exact ⟨by first | rfl | (simp; done) | (simp; omega), smK⟩
 ·have h1 : ((l.length : Int) == 0) = false := by rw [beq_eq_false_iff_ne]; omega
  have h2 : l.isEmpty = false := by cases l <;> simp at h0 ⊢
  rw [h2]
  clear h2
  go_enter Tryz.func115, Tryz.ntmps115
  go_wp2
  go_ret
  exact ⟨by simp, smK⟩
theorem own_k11 {h : Hd} {l : List Tree} (hk : h.kind = 11) : ownT (.node h l) = (l.isEmpty && onlyB h { bareHd 0 with u := h.u, s := h.s } && decide (h.u ≤ 255) && decide (h.s.size ≤ 400)) := by
 unfold ownT
 rw [if_neg (show ¬ (Tree.node h l).hd.kind = 1 by rw [Tree.hd_node, hk]; decide), if_neg (show ¬ (Tree.node h l).hd.kind = 2 by rw [Tree.hd_node, hk]; decide), if_neg (show ¬ (Tree.node h l).hd.kind = 3 by rw [Tree.hd_node, hk]; decide), if_neg (show ¬ (Tree.node h l).hd.kind = 4 by rw [Tree.hd_node, hk]; decide), if_neg (show ¬ (Tree.node h l).hd.kind = 5 by rw [Tree.hd_node, hk]; decide), if_neg (show ¬ (Tree.node h l).hd.kind = 6 by rw [Tree.hd_node, hk]; decide), if_neg (show ¬ (Tree.node h l).hd.kind = 7 by rw [Tree.hd_node, hk]; decide), if_neg (show ¬ (Tree.node h l).hd.kind = 8 by rw [Tree.hd_node, hk]; decide), if_neg (show ¬ (Tree.node h l).hd.kind = 9 by rw [Tree.hd_node, hk]; decide), if_neg (show ¬ (Tree.node h l).hd.kind = 10 by rw [Tree.hd_node, hk]; decide), if_pos (show (Tree.node h l).hd.kind = 11 from hk)]
 rfl
set_option maxRecDepth 100000 in
set_option maxHeartbeats 2000000 in
theorem refOwn11 {h : Hd} {l : List Tree} (hk : h.kind = 11) : OwnSaid h l := by
 intro S lv w ho hr
 rw [own_k11 hk]
 obtain ⟨a, cap, rfl⟩ := hr.is_slice
 have k1 : (h.kind == 1) = false := by rw [hk]; rfl
 have k2 : (h.kind == 2) = false := by rw [hk]; rfl
 have k3 : (h.kind == 3) = false := by rw [hk]; rfl
 have k4 : (h.kind == 4) = false := by rw [hk]; rfl
 have k5 : (h.kind == 5) = false := by rw [hk]; rfl
 have k6 : (h.kind == 6) = false := by rw [hk]; rfl
 have k7 : (h.kind == 7) = false := by rw [hk]; rfl
 have k8 : (h.kind == 8) = false := by rw [hk]; rfl
 have k9 : (h.kind == 9) = false := by rw [hk]; rfl
 have k10 : (h.kind == 10) = false := by rw [hk]; rfl
 have k11 : (h.kind == 11) = true := by rw [hk]; rfl
 clear hk
 by_cases h0 : l.length = 0
 ·obtain rfl : l = [] := List.length_eq_zero_iff.1 h0
  simp only [List.length_nil, List.isEmpty_nil, Bool.true_and] at hr ⊢
  have hon := fun W (hs : Same w W) => refOnly_any h { bareHd 0 with u := h.u, s := h.s } [] S _ W (hr.same hs)
  obtain ⟨D, hD⟩ : ∃ D, onlyB h { bareHd 0 with u := h.u, s := h.s } = D := ⟨_, rfl⟩
  rw [hD] at hon ⊢
  clear hD h0
  have hb0 : (w.alloc (.cells (nodeCs h (.slice a 0 cap)).toArray 27)).heap[w.heap.size]? = some (.cells (nodeCs h (.slice a 0 cap)).toArray 27 (0, 0)) := World.alloc_heap_new w _
  by_cases c0 : h.u ≤ 255
  ·have hc0 : decide (h.u ≤ 255) = true := decide_eq_true c0
   rw [hc0]
   clear hc0
   by_cases c : h.s.size ≤ 400
   ·have hc : decide (h.s.size ≤ 400) = true := decide_eq_true c
    rw [hc]
    clear hc
    cases D
    all_goals
     go_enter Tryz.func115, Tryz.ntmps115
     go_wp2_with (first | (go_at_call 167; refine (hon _ smK).mono ?_; rintro e w1 ⟨rfl, hk1⟩; have hb1 := hk1.same _ _ hb0 trivial; obtain ⟨n0, n1, n2, n3, n4, n5, n6, n7, n8⟩ := cells9 hb1))
     go_ret
     exact ⟨by first | rfl | (simp; done) | (simp; omega), smK⟩
   ·have hc : decide (h.s.size ≤ 400) = false := decide_eq_false c
    rw [hc]
    clear hc
    cases D
    all_goals
     go_enter Tryz.func115, Tryz.ntmps115
     go_wp2_with (first | (go_at_call 167; refine (hon _ smK).mono ?_; rintro e w1 ⟨rfl, hk1⟩; have hb1 := hk1.same _ _ hb0 trivial; obtain ⟨n0, n1, n2, n3, n4, n5, n6, n7, n8⟩ := cells9 hb1))
     go_ret
     exact ⟨by first | rfl | (simp; done) | (simp; omega), smK⟩
  ·have hc0 : decide (h.u ≤ 255) = false := decide_eq_false c0
   rw [hc0]
   clear hc0
   cases D
   all_goals
    go_enter Tryz.func115, Tryz.ntmps115
    go_wp2_with (first | (go_at_call 167; refine (hon _ smK).mono ?_; rintro e w1 ⟨rfl, hk1⟩; have hb1 := hk1.same _ _ hb0 trivial; obtain ⟨n0, n1, n2, n3, n4, n5, n6, n7, n8⟩ := cells9 hb1))
    go_ret
    exact ⟨by simp, smK⟩
 ·have h1 : ((l.length : Int) == 0) = false := by rw [beq_eq_false_iff_ne]; omega
  have h2 : l.isEmpty = false := by cases l <;> simp at h0 ⊢
  rw [h2]
  clear h2
  go_enter Tryz.func115, Tryz.ntmps115
  go_wp2
  go_ret
  exact ⟨by simp, smK⟩
set_option maxRecDepth 100000 in
set_option maxHeartbeats 2000000 in
theorem refOwnNo {h : Hd} {l : List Tree} (hk : ∀ i : Int, 1 ≤ i → i ≤ 11 → h.kind ≠ i) : OwnSaid h l := by
 intro S lv w ho hr
 obtain ⟨a, cap, rfl⟩ := hr.is_slice
 have e1 := hk 1 (by decide) (by decide)
 have e2 := hk 2 (by decide) (by decide)
 have e3 := hk 3 (by decide) (by decide)
 have e4 := hk 4 (by decide) (by decide)
 have e5 := hk 5 (by decide) (by decide)
 have e6 := hk 6 (by decide) (by decide)
 have e7 := hk 7 (by decide) (by decide)
 have e8 := hk 8 (by decide) (by decide)
 have e9 := hk 9 (by decide) (by decide)
 have e10 := hk 10 (by decide) (by decide)
 have e11 := hk 11 (by decide) (by decide)
 have hno : ownT (.node h l) = false := by
  unfold ownT
  rw [if_neg (show ¬ (Tree.node h l).hd.kind = 1 from e1), if_neg (show ¬ (Tree.node h l).hd.kind = 2 from e2), if_neg (show ¬ (Tree.node h l).hd.kind = 3 from e3), if_neg (show ¬ (Tree.node h l).hd.kind = 4 from e4), if_neg (show ¬ (Tree.node h l).hd.kind = 5 from e5), if_neg (show ¬ (Tree.node h l).hd.kind = 6 from e6), if_neg (show ¬ (Tree.node h l).hd.kind = 7 from e7), if_neg (show ¬ (Tree.node h l).hd.kind = 8 from e8), if_neg (show ¬ (Tree.node h l).hd.kind = 9 from e9), if_neg (show ¬ (Tree.node h l).hd.kind = 10 from e10), if_neg (show ¬ (Tree.node h l).hd.kind = 11 from e11)]
 have k1 : (h.kind == 1) = false := by rw [beq_eq_false_iff_ne]; exact e1
 have k2 : (h.kind == 2) = false := by rw [beq_eq_false_iff_ne]; exact e2
 have k3 : (h.kind == 3) = false := by rw [beq_eq_false_iff_ne]; exact e3
 have k4 : (h.kind == 4) = false := by rw [beq_eq_false_iff_ne]; exact e4
 have k5 : (h.kind == 5) = false := by rw [beq_eq_false_iff_ne]; exact e5
 have k6 : (h.kind == 6) = false := by rw [beq_eq_false_iff_ne]; exact e6
 have k7 : (h.kind == 7) = false := by rw [beq_eq_false_iff_ne]; exact e7
 have k8 : (h.kind == 8) = false := by rw [beq_eq_false_iff_ne]; exact e8
 have k9 : (h.kind == 9) = false := by rw [beq_eq_false_iff_ne]; exact e9
 have k10 : (h.kind == 10) = false := by rw [beq_eq_false_iff_ne]; exact e10
 have k11 : (h.kind == 11) = false := by rw [beq_eq_false_iff_ne]; exact e11
 rw [hno]
 clear hk hno e1 e2 e3 e4 e5 e6 e7 e8 e9 e10 e11
 go_enter Tryz.func115, Tryz.ntmps115
 go_wp2
 go_ret
 exact ⟨rfl, smK⟩
end Go.Tm
namespace Go.Tm
theorem keysOf_get : ∀ (l : List Tree) (a : Nat), (keysOf l)[a]? = l[2 * a]?
 | [], a => by simp [keysOf]
 | [x], 0 => rfl
 | [x], a + 1 => by simp [keysOf]
 | x :: y :: l, 0 => rfl
 | x :: y :: l, a + 1 => by
  rw [keysOf, List.getElem?_cons_succ, keysOf_get l a, show 2 * (a + 1) = 2 * a + 1 + 1 by omega, List.getElem?_cons_succ, List.getElem?_cons_succ]
theorem twice_found {l : List Tree} {a c : Nat} (hc : c < a) (ha : 2 * a < l.length) (he : l[2 * a] = l[2 * c]) : isTwice (keysOf l) = true := by
 cases h : isTwice (keysOf l) with
 | true => rfl
 | false =>
  have hn := (twice_iff _).1 h
  have ka : (keysOf l)[a]? = some l[2 * a] := by rw [keysOf_get, List.getElem?_eq_getElem ha]
  have kc : (keysOf l)[c]? = some l[2 * a] := by rw [keysOf_get, List.getElem?_eq_getElem (show 2 * c < l.length by omega), he]
  obtain ⟨ha', ea⟩ := List.getElem?_eq_some_iff.1 ka
  obtain ⟨hc', ec⟩ := List.getElem?_eq_some_iff.1 kc
  exact absurd (ec.trans ea.symm) ((List.pairwise_iff_getElem.1 hn) c a hc' ha' hc)
theorem twice_not {l : List Tree} (h : ∀ (a c : Nat) (ha : 2 * a < l.length) (hc : c < a), l[2 * a] ≠ l[2 * c]) : isTwice (keysOf l) = false := by
 refine (twice_iff _).2 (List.pairwise_iff_getElem.2 fun c a hc ha hca e => ?_)
 have ka : (keysOf l)[a]? = some (keysOf l)[a] := List.getElem?_eq_getElem ha
 have kc : (keysOf l)[c]? = some (keysOf l)[c] := List.getElem?_eq_getElem hc
 rw [keysOf_get] at ka kc
 obtain ⟨ha', ea⟩ := List.getElem?_eq_some_iff.1 ka
 obtain ⟨hc', ec⟩ := List.getElem?_eq_some_iff.1 kc
 exact h a c ha' hca (by rw [ea, ec, e])
end Go.Tm
namespace Go.Tm
open Go.RowKit Go.Proofs
theorem own_k8 {h : Hd} {l : List Tree} (hk : h.kind = 8) : ownT (.node h l) = (onlyB h (bareHd 0) && decide (l.length % 2 = 0) && !isTwice (keysOf l)) := by
 unfold ownT
 rw [if_neg (show ¬ (Tree.node h l).hd.kind = 1 by rw [Tree.hd_node, hk]; decide), if_neg (show ¬ (Tree.node h l).hd.kind = 2 by rw [Tree.hd_node, hk]; decide), if_neg (show ¬ (Tree.node h l).hd.kind = 3 by rw [Tree.hd_node, hk]; decide), if_neg (show ¬ (Tree.node h l).hd.kind = 4 by rw [Tree.hd_node, hk]; decide), if_neg (show ¬ (Tree.node h l).hd.kind = 5 by rw [Tree.hd_node, hk]; decide), if_neg (show ¬ (Tree.node h l).hd.kind = 6 by rw [Tree.hd_node, hk]; decide), if_neg (show ¬ (Tree.node h l).hd.kind = 7 by rw [Tree.hd_node, hk]; decide), if_pos (show (Tree.node h l).hd.kind = 8 from hk)]
 unfold onlyB
 rw [show bareHd 8 = { bareHd 0 with kind := h.kind } by rw [hk]; rfl]
 rfl
set_option maxRecDepth 100000 in
set_option maxHeartbeats 4000000 in
theorem refOwn8 {h : Hd} {l : List Tree} (hk : h.kind = 8) : OwnSaid h l := by
 intro S lv w ho hr
 rw [own_k8 hk]
 obtain ⟨hlen, a, cap, rfl, hcap, hi⟩ := hr.shape
 have k1 : (h.kind == 1) = false := by rw [hk]; rfl
 have k2 : (h.kind == 2) = false := by rw [hk]; rfl
 have k3 : (h.kind == 3) = false := by rw [hk]; rfl
 have k4 : (h.kind == 4) = false := by rw [hk]; rfl
 have k5 : (h.kind == 5) = false := by rw [hk]; rfl
 have k6 : (h.kind == 6) = false := by rw [hk]; rfl
 have k7 : (h.kind == 7) = false := by rw [hk]; rfl
 have k8 : (h.kind == 8) = true := by rw [hk]; rfl
 clear hk
 have hon := fun W (hs : Same w W) => refOnly_any h (bareHd 0) l S _ W (hr.same hs)
 obtain ⟨D, hD⟩ : ∃ D, onlyB h (bareHd 0) = D := ⟨_, rfl⟩
 rw [hD] at hon ⊢
 clear hD
 have hb0 : (w.alloc (.cells #[.int .i64 h.kind, .bool h.b, .bool h.d.neg, .string h.d.digits, .int .i64 h.d.exp, .int .u64 (h.u : Int), .int .i64 h.w, .string h.s, .slice a l.length cap] 27)).heap[w.heap.size]? = some (.cells #[.int .i64 h.kind, .bool h.b, .bool h.d.neg, .string h.d.digits, .int .i64 h.d.exp, .int .u64 (h.u : Int), .int .i64 h.w, .string h.s, .slice a l.length cap] 27 (0, 0)) := World.alloc_heap_new w _
 cases D with
 | false =>
  go_enter Tryz.func115, Tryz.ntmps115
  go_wp2_with (first | (go_at_call 167; refine (hon _ smK).mono ?_; rintro e w1 ⟨rfl, hk1⟩))
  go_ret
  exact ⟨rfl, smK⟩
 | true =>
  by_cases he : l.length % 2 = 0
  ·have m2 : ((l.length : Int) % 2 == 1) = false := by rw [beq_eq_false_iff_ne]; omega
   have m1 : ((l.length : Int).tmod 2 == 1) = false := by rw [Int.tmod_eq_emod_of_nonneg (by omega)]; exact m2
   rw [decide_eq_true he]
   have HE := Lib.hid he
   clear he
   go_enter Tryz.func115, Tryz.ntmps115
   go_wp2_with fail
   refine (hon _ smK).mono ?_
   rintro e w1 ⟨rfl, hk1⟩
   have hb1 := hk1.same _ _ hb0 trivial
   have hkw : Same w w1 := smK
   obtain ⟨n0, n1, n2, n3, n4, n5, n6, n7, n8⟩ := cells9 hb1
   clear hb0 hk1 hon
   go_wp2_with fail
   go_loopw [6] (fun i wr => ∃ p : Nat, p ≤ l.length ∧ p % 2 = 0 ∧ i = .int .i64 (p : Int) ∧ (∀ (x y : Nat) (hx : 2 * x < l.length) (hy : y < x), 2 * x < p → l[2 * x] ≠ l[2 * y]) ∧ Same w wr ∧ wr.heap[w.heap.size]? = some (.cells #[.int .i64 h.kind, .bool h.b, .bool h.d.neg, .string h.d.digits, .int .i64 h.d.exp, .int .u64 (h.u : Int), .int .i64 h.w, .string h.s, .slice a l.length cap] 27 (0, 0))) (fun i _ => l.length - (RowKit.intOf i).toNat)
   case atStart => exact ⟨0, Nat.zero_le _, rfl, rfl, fun x y hx hy h => absurd h (by omega), hkw, hb1⟩
   case round =>
    clear n0 n1 n2 n3 n4 n5 n6 n7 n8 m1 m2 k1 k2 k3 k4 k5 k6 k7 k8 hkw hb1
    obtain ⟨p, hp, hpe, rfl, hno, hsm, hb⟩ := hrel
    have HNO := Lib.hid hno
    clear hno
    obtain ⟨n0, n1, n2, n3, n4, n5, n6, n7, n8⟩ := cells9 hb
    by_cases hlt : p < l.length
    ·go_wp2_with fail
     go_loopw [7] (fun i wr => ∃ q : Nat, q ≤ p ∧ q % 2 = 0 ∧ i = .int .i64 (q : Int) ∧ (∀ (y : Nat) (hy : 2 * y < l.length), 2 * y < q → l[p] ≠ l[2 * y]) ∧ Same w wr ∧ wr.heap[w.heap.size]? = some (.cells #[.int .i64 h.kind, .bool h.b, .bool h.d.neg, .string h.d.digits, .int .i64 h.d.exp, .int .u64 (h.u : Int), .int .i64 h.w, .string h.s, .slice a l.length cap] 27 (0, 0))) (fun i _ => p - (RowKit.intOf i).toNat)
     case atStart => exact ⟨0, Nat.zero_le _, rfl, rfl, fun y hy h => absurd h (by omega), hsm, hb⟩
     case round =>
      clear n0 n1 n2 n3 n4 n5 n6 n7 n8 hsm hb
      obtain ⟨q, hq, hqe, rfl, hno, hsm, hb⟩ := hrel
      have HN2 := Lib.hid hno
      clear hno
      by_cases hlt2 : q < p
      ·have hlt3 : q < l.length := by omega
       obtain ⟨b1, off1, lv1, rfl, hS1, hc1, hr1, hok1, hra1⟩ := hi p hlt
       obtain ⟨b2, off2, lv2, hbb, hS2, hc2, hr2, hok2, hra2⟩ := hi q hlt3
       cases hbb
       have hfound : l[p] = l[q] → isTwice (keysOf l) = true := by
        obtain ⟨x, rfl⟩ : ∃ x, p = 2 * x := ⟨p / 2, by omega⟩
        obtain ⟨y, rfl⟩ : ∃ y, q = 2 * y := ⟨q / 2, by omega⟩
        exact twice_found (by omega) hlt
       have hnext : ¬ l[p] = l[q] → ∀ (y : Nat) (hy : 2 * y < l.length), 2 * y < q + 2 → l[p] ≠ l[2 * y] := by
        intro hne y hy hyq
        by_cases e : 2 * y = q
        ·subst e; exact hne
        ·exact HN2.out y hy (by omega)
       have hss := fun (W : World) (h1 : RepS S W (l[p]'hlt).l lv1) (h2 : RepS S W (l[q]'hlt3).l lv2) => refSame_any (l[p]'hlt) (l[q]'hlt3) S lv1 lv2 W h1 h2
       obtain ⟨c1, hc1'⟩ : ∃ c, l[p] = c := ⟨_, rfl⟩
       obtain ⟨c2, hc2'⟩ : ∃ c, l[q] = c := ⟨_, rfl⟩
       rw [hc1'] at hss hr1 hra1
       rw [hc2'] at hss hr2 hra2
       rw [hc1', hc2'] at hfound hnext
       obtain ⟨r, hr0⟩ : ∃ r, c1.same c2 = r := ⟨_, rfl⟩
       have hse := same_iff c1 c2
       rw [hr0] at hss hse
       rw [← hse] at hfound hnext
       have HF := Lib.hid hfound
       have HX := Lib.hid hnext
       clear hr0 hc1 hc2 hse hfound hnext hi HN2 HNO
       obtain ⟨a', cp', rfl⟩ := hr1.is_slice
       obtain ⟨a2', cp2', rfl⟩ := hr2.is_slice
       have ra1 := rangeAt_same hsm hra1
       have ra2 := rangeAt_same hsm hra2
       obtain ⟨x0, x1, x2, x3, x4, x5, x6, x7, x8⟩ := cells9 hb
       obtain ⟨u0, u1, u2, u3, u4, u5, u6, u7, u8⟩ := nodeAt_of ra1
       obtain ⟨v0, v1, v2, v3, v4, v5, v6, v7, v8⟩ := nodeAt_of ra2
       go_wp2_with fail
       refine (wpIn_wide (n := 0)).1 ?_
       refine wpIn_region_shut (n := 0) (fun Z => Z.heap[w.heap.size]? = some (.cells #[.int .i64 h.kind, .bool h.b, .bool h.d.neg, .string h.d.digits, .int .i64 h.d.exp, .int .u64 (h.u : Int), .int .i64 h.w, .string h.s, .slice (some ⟨b1, off1, none⟩) l.length cap] 27 (0, 0)) ∧ Z.rangeAt b1 (off1 + p * 9) (nodeCs c1.hd (.slice a' c1.l.length cp')) ∧ Z.rangeAt b1 (off1 + q * 9) (nodeCs c2.hd (.slice a2' c2.l.length cp2'))) reads (fun _ => trivial) rfl (by kernel_rfl) (by kernel_rfl) ⟨hb, ra1, ra2⟩ ?_
       iterate 10 (refine shT_x rfl rfl ?_; intro K hK w' hs; obtain ⟨p0, p1, p2, p3, p4, p5, p6, p7, p8⟩ := cells9 hs.1; obtain ⟨r0, r1, r2, r3, r4, r5, r6, r7, r8⟩ := nodeAt_of hs.2.1; obtain ⟨s0, s1, s2, s3, s4, s5, s6, s7, s8⟩ := nodeAt_of hs.2.2; go_simp; refine hK _ _ ?_; clear hK K p0 p1 p2 p3 p4 p5 p6 p7 p8 r0 r1 r2 r3 r4 r5 r6 r7 r8 s0 s1 s2 s3 s4 s5 s6 s7 s8 hs w')
       refine shT_c rfl rfl ?_
       intro K hK
       go_simp
       refine (callsW (hss _ (hr1.same smK) (hr2.same smK))).mono ?_
       rintro e w' ⟨rfl, hk'⟩
       have hb' := hk'.same _ _ hb trivial
       refine hK _ _ ⟨hb', rangeAt_same hk' ra1, rangeAt_same hk' ra2⟩ ?_
       clear hK K x0 x1 x2 x3 x4 x5 x6 x7 x8 u0 u1 u2 u3 u4 u5 u6 u7 u8 v0 v1 v2 v3 v4 v5 v6 v7 v8
       refine shT_nil ?_
       have hsm' : Same w w' := hsm.trans (Keep.trans ((Keep.refl _ _).drew) hk')
       cases r with
       | true =>
        have hr2 := HF.out rfl
        have HR := Lib.hid hr2
        clear hr2 HX HF
        go_wp2
        go_ret
        exact ⟨by rw [HR.out]; rfl, hsm'⟩
       | false =>
        have hx := HX.out (by decide)
        have HX2 := Lib.hid hx
        clear hx HX HF
        go_wp2
        go_roundw
        case rel => exact ⟨q + 2, by omega, by omega, by go_num, by rw [hc1'] at *; exact HX2.out, hsm', hb'⟩
        case measure => simp [RowKit.intOf]; omega
      ·obtain rfl : q = p := by omega
       go_wp2
       go_roundw
       case rel =>
        refine ⟨q + 2, by have := HE.out; omega, by omega, by go_num, fun x y hx hy hxp => ?_, hsm, hb⟩
        by_cases e : 2 * x = q
        ·subst e; exact HN2.out y (by omega) (by omega)
        ·exact HNO.out x y hx hy (by omega)
       case measure => simp [RowKit.intOf]; omega
    ·have hr : isTwice (keysOf l) = false := twice_not fun x y hx hy => HNO.out x y hx hy (by omega)
     have HR := Lib.hid hr
     clear hr HNO
     go_wp2
     go_ret
     exact ⟨by rw [HR.out]; rfl, hsm⟩
  ·have m2 : ((l.length : Int) % 2 == 1) = true := by rw [beq_iff_eq]; omega
   have m1 : ((l.length : Int).tmod 2 == 1) = true := by rw [Int.tmod_eq_emod_of_nonneg (by omega)]; exact m2
   rw [decide_eq_false he]
   clear he
   go_enter Tryz.func115, Tryz.ntmps115
   go_wp2_with (first | (go_at_call 167; refine (hon _ smK).mono ?_; rintro e w1 ⟨rfl, hk1⟩; have hb1 := hk1.same _ _ hb0 trivial; obtain ⟨n0, n1, n2, n3, n4, n5, n6, n7, n8⟩ := cells9 hb1))
   go_ret
   exact ⟨by rfl, smK⟩
theorem refOwn_any (h : Hd) (l : List Tree) : OwnSaid h l := by
 by_cases h1 : h.kind = 1
 ·exact refOwn1 h1
 by_cases h2 : h.kind = 2
 ·exact refOwn2 h2
 by_cases h3 : h.kind = 3
 ·exact refOwn3 h3
 by_cases h4 : h.kind = 4
 ·exact refOwn4 h4
 by_cases h5 : h.kind = 5
 ·exact refOwn5 h5
 by_cases h6 : h.kind = 6
 ·exact refOwn6 h6
 by_cases h7 : h.kind = 7
 ·exact refOwn7 h7
 by_cases h8 : h.kind = 8
 ·exact refOwn8 h8
 by_cases h9 : h.kind = 9
 ·exact refOwn9 h9
 by_cases h10 : h.kind = 10
 ·exact refOwn10 h10
 by_cases h11 : h.kind = 11
 ·exact refOwn11 h11
 exact refOwnNo fun i hi1 hi2 e => by omega
end Go.Tm
namespace Go.Tm
open Go.RowKit Go.Proofs
set_option maxRecDepth 100000 in
set_option maxHeartbeats 1000000 in
theorem refCount_any : ∀ t : Tree, ∀ (S : Nat → Prop) (lv : Value) (w : World), RepS S w t.l lv → Calls Tryz.prog 16 #[nodeV t.hd lv] w fun e w' => e = .returned (.int .i64 (cnt64 t)) ∧ Same w w' := by
 refine Tree.ind fun h l ih => ?_
 intro S lv w hl
 simp only [Tree.hd_node, Tree.l_node] at hl ⊢
 obtain ⟨hlen, a, cap, rfl, hcap, hi⟩ := hl.shape
 have hcn : cnt64 (.node h l) = wrap64 ((1 + countL l : Nat) : Int) := by unfold cnt64; simp only [Tree.count]
 rw [hcn]
 clear hcn
 go_enter Tryz.func16, Tryz.ntmps16
 go_wp2
 go_loopw [3, 4] (fun v i wr => ∃ k : Nat, k ≤ l.length ∧ i = .int .i64 k ∧ v = .int .i64 (wrap64 ((1 + countL (l.take k) : Nat) : Int)) ∧ Same w wr ∧ wr.heap[w.heap.size]? = some (.cells #[.int .i64 h.kind, .bool h.b, .bool h.d.neg, .string h.d.digits, .int .i64 h.d.exp, .int .u64 h.u, .int .i64 h.w, .string h.s, .slice a l.length cap] 27 (0, 0)))
  (fun _ i _ => l.length - (RowKit.intOf i).toNat)
 case atStart => exact ⟨0, Nat.zero_le _, rfl, by rw [List.take_zero, show ((1 + countL [] : Nat) : Int) = 1 from rfl, IntWalk.wrap64_in (1 : Int) (by omega)], (Keep.refl _ _).alloc _, World.alloc_heap_new w _⟩
 case round =>
  obtain ⟨k, hk, rfl, rfl, hsm, hbx⟩ := hrel
  obtain ⟨n0, n1, n2, n3, n4, n5, n6, n7, n8⟩ := cells9 hbx
  obtain ⟨q, hq⟩ : ∃ q, wrap64 ((1 + countL (l.take k) : Nat) : Int) = q := ⟨_, rfl⟩
  by_cases hlt : k < l.length
  ·obtain ⟨b, off, lv', rfl, hS, hb, hr, hok, hra⟩ := hi k hlt
   obtain ⟨a', cap', rfl⟩ := hr.is_slice
   obtain ⟨c0, c1, c2, c3, c4, c5, c6, c7, c8⟩ := nodeAt_of (rangeAt_same hsm hra)
   have hst := countL_take l k hlt
   obtain ⟨cc, hcc⟩ : ∃ q, cnt64 (l[k]) = q := ⟨_, rfl⟩
   have hq2 : wrap64 ((1 + countL (l.take (k + 1)) : Nat) : Int) = wrap64 (q + cc) := by
    rw [← hq, ← hcc, hst]; unfold cnt64; rw [wrap64_add]; congr 1; push_cast; omega
   have HQ2 := Lib.hid hq2
   have ihc := fun (W : World) (hr2 : RepS S W (l[k]).l (.slice a' (l[k]).l.length cap')) => ih _ (List.getElem_mem hlt) S _ W hr2
   rw [hcc] at ihc
   rw [hq]
   clear hst hq2 hq hcc
   go_wp2_with (first | (go_at_call 16; refine (ihc _ (hr.same hsm)).mono ?_; rintro e w' ⟨rfl, hk'⟩))
   go_roundw
   case rel => exact ⟨k + 1, by omega, by go_num, by rw [HQ2.out], hsm.trans hk', hk'.same _ _ hbx trivial⟩
   case measure => simp [RowKit.intOf]; omega
  ·obtain rfl : k = l.length := by omega
   rw [List.take_length] at hq
   rw [List.take_length, hq]
   go_wp2
   go_ret
   exact ⟨by rw [hq]; rfl, hsm⟩
end Go.Tm
namespace Go.Tm
open Go.RowKit Go.Proofs
set_option maxRecDepth 100000 in
set_option maxHeartbeats 1000000 in
theorem refDepth_any : ∀ t : Tree, ∀ (S : Nat → Prop) (lv : Value) (w : World), t.depth ≤ 1099511627776 → RepS S w t.l lv → Calls Tryz.prog 17 #[nodeV t.hd lv] w fun e w' => e = .returned (.int .i64 t.depth) ∧ Same w w' := by
 refine Tree.ind fun h l ih => ?_
 intro S lv w hc hl
 simp only [Tree.hd_node, Tree.l_node] at hl ⊢
 obtain ⟨hlen, a, cap, rfl, hcap, hi⟩ := hl.shape
 go_enter Tryz.func17, Tryz.ntmps17
 go_wp2
 go_loopw [3, 4] (fun v i wr => ∃ k : Nat, k ≤ l.length ∧ i = .int .i64 k ∧ v = .int .i64 (depthL (l.take k)) ∧ Same w wr ∧ wr.heap[w.heap.size]? = some (.cells #[.int .i64 h.kind, .bool h.b, .bool h.d.neg, .string h.d.digits, .int .i64 h.d.exp, .int .u64 h.u, .int .i64 h.w, .string h.s, .slice a l.length cap] 27 (0, 0)))
  (fun _ i _ => l.length - (RowKit.intOf i).toNat)
 case atStart => exact ⟨0, Nat.zero_le _, rfl, by simp [depthL], (Keep.refl _ _).alloc _, World.alloc_heap_new w _⟩
 case round =>
  obtain ⟨k, hk, rfl, rfl, hsm, hbx⟩ := hrel
  obtain ⟨n0, n1, n2, n3, n4, n5, n6, n7, n8⟩ := cells9 hbx
  by_cases hlt : k < l.length
  ·obtain ⟨b, off, lv', rfl, hS, hb, hr, hok, hra⟩ := hi k hlt
   obtain ⟨a', cap', rfl⟩ := hr.is_slice
   obtain ⟨c0, c1, c2, c3, c4, c5, c6, c7, c8⟩ := nodeAt_of (rangeAt_same hsm hra)
   go_wp2_with (first | (go_at_call 17; refine (ih _ (List.getElem_mem hlt) S _ _ ?hc (hr.same hsm)).mono ?_; (case hc => (have := depthL_get l k hlt; simp only [Tree.depth] at hc; omega)); rintro e w' ⟨rfl, hk'⟩))
   go_roundw
   case rel => exact ⟨k + 1, by omega, by go_num, by rw [depthL_take l k hlt]; congr 1; (try split) <;> omega, hsm.trans hk', hk'.same _ _ hbx trivial⟩
   case measure => simp [RowKit.intOf]; omega
  ·obtain rfl : k = l.length := by omega
   have hw : wrap64 ((depthL l : Int) + 1) = ((depthL l + 1 : Nat) : Int) := by rw [IntWalk.wrap64_in _ (by simp only [Tree.depth] at hc; omega)]; rfl
   go_wp2
   go_ret
   exact ⟨by simp [Tree.depth, hw], hsm⟩
end Go.Tm
namespace Go.Tm
open Go.RowKit Go.Proofs
theorem flat_allB (p : Tree → Bool) (h : Hd) (l : List Tree) : (Tree.node h l).flat.all p = (p (.node h l) && l.all fun x => x.flat.all p) := by
 have key : ∀ l : List Tree, (flatL l).all p = l.all fun x => x.flat.all p := by
  intro l
  induction l with
  | nil => rw [flatL]; rfl
  | cons x l ih => rw [flatL, List.all_append, ih, List.all_cons]
 rw [Tree.flat, List.all_cons, key]
set_option maxRecDepth 100000 in
set_option maxHeartbeats 1000000 in
theorem refAll_any : ∀ t : Tree, ∀ (S : Nat → Prop) (lv : Value) (w : World), t.hd.ok → RepS S w t.l lv → Calls Tryz.prog 71 #[nodeV t.hd lv] w fun e w' => e = .returned (.bool (t.flat.all ownT)) ∧ Same w w' := by
 refine Tree.ind fun h l ih => ?_
 intro S lv w ho hl
 simp only [Tree.hd_node, Tree.l_node] at ho hl ⊢
 obtain ⟨hlen, a, cap, rfl, hcap, hi⟩ := hl.shape
 rw [flat_allB]
 have hown := fun W (hs : Same w W) => refOwn_any h l S _ W ho (hl.same hs)
 obtain ⟨D, hD⟩ : ∃ D, ownT (.node h l) = D := ⟨_, rfl⟩
 rw [hD] at hown ⊢
 clear hD
 have hb0 : (w.alloc (.cells #[.int .i64 h.kind, .bool h.b, .bool h.d.neg, .string h.d.digits, .int .i64 h.d.exp, .int .u64 (h.u : Int), .int .i64 h.w, .string h.s, .slice a l.length cap] 27)).heap[w.heap.size]? = some (.cells #[.int .i64 h.kind, .bool h.b, .bool h.d.neg, .string h.d.digits, .int .i64 h.d.exp, .int .u64 (h.u : Int), .int .i64 h.w, .string h.s, .slice a l.length cap] 27 (0, 0)) := World.alloc_heap_new w _
 cases D with
 | false =>
  go_enter Tryz.func71, Tryz.ntmps71
  go_wp2_with (first | (go_at_call 115; refine (hown _ smK).mono ?_; rintro e w1 ⟨rfl, hk1⟩))
  go_ret
  exact ⟨rfl, smK⟩
 | true =>
  go_enter Tryz.func71, Tryz.ntmps71
  go_wp2_with fail
  refine (hown _ smK).mono ?_
  rintro e w1 ⟨rfl, hk1⟩
  have hb1 := hk1.same _ _ hb0 trivial
  have hkw : Same w w1 := smK
  clear hb0 hk1 hown
  go_wp2
  go_loopw [3] (fun i wr => ∃ k : Nat, k ≤ l.length ∧ i = .int .i64 k ∧ ((l.take k).all fun x => x.flat.all ownT) = true ∧ Same w wr ∧ wr.heap[w.heap.size]? = some (.cells #[.int .i64 h.kind, .bool h.b, .bool h.d.neg, .string h.d.digits, .int .i64 h.d.exp, .int .u64 (h.u : Int), .int .i64 h.w, .string h.s, .slice a l.length cap] 27 (0, 0)))
   (fun i _ => l.length - (RowKit.intOf i).toNat)
  case atStart => exact ⟨0, Nat.zero_le _, rfl, by rw [List.take_zero]; rfl, hkw, hb1⟩
  case round =>
   clear hb1 hkw
   obtain ⟨k, hk, rfl, hall, hsm, hbx⟩ := hrel
   have HA := Lib.hid hall
   clear hall
   obtain ⟨n0, n1, n2, n3, n4, n5, n6, n7, n8⟩ := cells9 hbx
   by_cases hlt : k < l.length
   ·obtain ⟨b, off, lv', rfl, hS, hb, hr, hok, hra⟩ := hi k hlt
    obtain ⟨a', cap', rfl⟩ := hr.is_slice
    obtain ⟨c0, c1, c2, c3, c4, c5, c6, c7, c8⟩ := nodeAt_of (rangeAt_same hsm hra)
    have hst : ((l.take (k + 1)).all fun x => x.flat.all ownT) = l[k].flat.all ownT := by
     rw [List.take_succ_eq_append_getElem hlt, List.all_append, HA.out]; simp
    have ihc := fun (W : World) (hr2 : RepS S W (l[k]).l (.slice a' (l[k]).l.length cap')) => ih _ (List.getElem_mem hlt) S _ W hok hr2
    obtain ⟨R, hR⟩ : ∃ R, l[k].flat.all ownT = R := ⟨_, rfl⟩
    rw [hR] at hst ihc
    have hno : R = false → (l.all fun x => x.flat.all ownT) = false := by
     rintro rfl
     rw [← Bool.not_eq_true, List.all_eq_true]
     intro h
     have := h _ (List.getElem_mem hlt)
     rw [hR] at this; cases this
    have HS := Lib.hid hst
    have HN := Lib.hid hno
    clear hst hno hR
    cases R with
    | false =>
     have hn := HN.out rfl
     have HN2 := Lib.hid hn
     clear hn HN HS
     go_wp2_with (first | (go_at_call 71; refine (ihc _ (hr.same hsm)).mono ?_; rintro e w' ⟨rfl, hk'⟩))
     go_ret
     exact ⟨by rw [HN2.out]; rfl, hsm.trans hk'⟩
    | true =>
     go_wp2_with (first | (go_at_call 71; refine (ihc _ (hr.same hsm)).mono ?_; rintro e w' ⟨rfl, hk'⟩))
     go_roundw
     case rel => exact ⟨k + 1, by omega, by go_num, HS.out, hsm.trans hk', hk'.same _ _ hbx trivial⟩
     case measure => simp [RowKit.intOf]; omega
   ·obtain rfl : k = l.length := by omega
    have hx := HA.out
    rw [List.take_length] at hx
    have HX := Lib.hid hx
    clear hx HA
    go_wp2
    go_ret
    exact ⟨by rw [HX.out]; rfl, hsm⟩
set_option maxRecDepth 100000 in
set_option maxHeartbeats 1000000 in
theorem refTreeRight_any (t : Tree) (S : Nat → Prop) (lv : Value) (w : World) (ho : t.hd.ok) (hc : t.depth ≤ 1099511627776) (hl : RepS S w t.l lv) : Calls Tryz.prog 46 #[nodeV t.hd lv] w fun e w' => e = .returned (.bool (decide (cnt64 t ≤ 300) && decide (t.depth ≤ 16) && t.flat.all ownT)) ∧ Same w w' := by
 obtain ⟨a, cap, rfl⟩ := hl.is_slice
 have h1 := fun W (hs : Same w W) => refCount_any t S _ W (hl.same hs)
 have h2 := fun W (hs : Same w W) => refDepth_any t S _ W hc (hl.same hs)
 have h3 := fun W (hs : Same w W) => refAll_any t S _ W ho (hl.same hs)
 have hcw : -9223372036854775808 ≤ cnt64 t ∧ cnt64 t ≤ 9223372036854775807 := by unfold cnt64 wrap64; omega
 obtain ⟨c, hc1⟩ : ∃ c, cnt64 t = c := ⟨_, rfl⟩
 obtain ⟨d, hd1⟩ : ∃ d, t.depth = d := ⟨_, rfl⟩
 obtain ⟨R, hR⟩ : ∃ R, t.flat.all ownT = R := ⟨_, rfl⟩
 rw [hc1] at h1 hcw ⊢
 rw [hd1] at h2 hc ⊢
 rw [hR] at h3 ⊢
 obtain ⟨h, l⟩ := t
 simp only [Tree.hd_node, Tree.l_node] at h1 h2 h3 hl ho ⊢
 have hb0 : (w.alloc (.cells #[.int .i64 h.kind, .bool h.b, .bool h.d.neg, .string h.d.digits, .int .i64 h.d.exp, .int .u64 (h.u : Int), .int .i64 h.w, .string h.s, .slice a l.length cap] 27)).heap[w.heap.size]? = some (.cells #[.int .i64 h.kind, .bool h.b, .bool h.d.neg, .string h.d.digits, .int .i64 h.d.exp, .int .u64 (h.u : Int), .int .i64 h.w, .string h.s, .slice a l.length cap] 27 (0, 0)) := World.alloc_heap_new w _
 clear hc1 hd1 hR hl ho
 by_cases c1 : c ≤ 300
 ·rw [decide_eq_true c1]
  by_cases c2 : d ≤ 16
  ·rw [decide_eq_true c2]
   go_enter Tryz.func46, Tryz.ntmps46
   go_wp2_with fail
   refine (h1 _ smK).mono ?_
   rintro e w1 ⟨rfl, hk1⟩
   have hb1 := hk1.same _ _ hb0 trivial
   obtain ⟨n0, n1, n2, n3, n4, n5, n6, n7, n8⟩ := cells9 hb1
   go_wp2_with fail
   refine (h2 _ smK).mono ?_
   rintro e w2 ⟨rfl, hk2⟩
   have hb2 := hk2.same _ _ hb1 trivial
   obtain ⟨m0, m1, m2, m3, m4, m5, m6, m7, m8⟩ := cells9 hb2
   go_wp2_with fail
   refine (h3 _ smK).mono ?_
   rintro e w3 ⟨rfl, hk3⟩
   go_wp2
   go_ret
   exact ⟨by simp, smK⟩
  ·rw [decide_eq_false c2]
   go_enter Tryz.func46, Tryz.ntmps46
   go_wp2_with fail
   refine (h1 _ smK).mono ?_
   rintro e w1 ⟨rfl, hk1⟩
   have hb1 := hk1.same _ _ hb0 trivial
   obtain ⟨n0, n1, n2, n3, n4, n5, n6, n7, n8⟩ := cells9 hb1
   go_wp2_with fail
   refine (h2 _ smK).mono ?_
   rintro e w2 ⟨rfl, hk2⟩
   go_wp2
   go_ret
   exact ⟨by first | rfl | simp, smK⟩
 ·rw [decide_eq_false c1]
  go_enter Tryz.func46, Tryz.ntmps46
  go_wp2_with fail
  refine (h1 _ smK).mono ?_
  rintro e w1 ⟨rfl, hk1⟩
  go_wp2
  go_ret
  exact ⟨by first | rfl | simp, smK⟩
end Go.Tm
namespace Go.Tm
open Go.RowKit Go.Proofs
theorem isKey1 (t : Tree) : isKeyT 1 t = decide (t.hd.kind = 5) := by
 unfold isKeyT
 by_cases h : t.hd.kind = 5 <;> simp [h]
set_option maxRecDepth 100000 in
set_option maxHeartbeats 1000000 in
theorem refKey_any (h : Hd) (l : List Tree) (S : Nat → Prop) (lv : Value) (w : World) (hl : RepS S w l lv) : Calls Tryz.prog 75 #[nodeV h lv, .int .i64 1] w fun e w' => e = .returned (.bool (isKeyT 1 (.node h l))) ∧ Same w w' := by
 obtain ⟨a, cap, rfl⟩ := hl.is_slice
 rw [isKey1, Tree.hd_node]
 by_cases h5 : h.kind = 5
 ·have k3 : (h.kind == 3) = false := by rw [h5]; rfl
  have k5 : (h.kind == 5) = true := by rw [h5]; rfl
  rw [decide_eq_true h5]
  clear h5
  go_enter Tryz.func75, Tryz.ntmps75
  go_wp2
  go_ret
  exact ⟨rfl, smK⟩
 ·have k5 : (h.kind == 5) = false := by rw [beq_eq_false_iff_ne]; exact h5
  rw [decide_eq_false h5]
  by_cases h3 : h.kind = 3
  ·have k3 : (h.kind == 3) = true := by rw [h3]; rfl
   clear h5 h3
   go_enter Tryz.func75, Tryz.ntmps75
   go_wp2
   go_ret
   exact ⟨by first | rfl | simp, smK⟩
  ·have k3 : (h.kind == 3) = false := by rw [beq_eq_false_iff_ne]; exact h3
   clear h5 h3
   go_enter Tryz.func75, Tryz.ntmps75
   go_wp2
   go_ret
   exact ⟨by first | rfl | simp, smK⟩
def FitsSaid (t : Tree) : Prop := ∀ (S : Nat → Prop) (lv : Value) (w : World), t.hd.ok → RepS S w t.l lv → Calls Tryz.prog 47 #[nodeV t.hd lv, .int .i64 1] w fun e w' => e = .returned (.bool (t.flat.all (fitsT 1))) ∧ Same w w'
set_option maxRecDepth 100000 in
set_option maxHeartbeats 4000000 in
theorem refFits4 {h : Hd} {l : List Tree} (ih : ∀ x ∈ l, FitsSaid x) (hk : h.kind = 4) : FitsSaid (.node h l) := by
 intro S lv w ho hl
 simp only [Tree.hd_node, Tree.l_node] at ho hl ⊢
 obtain ⟨hlen, a, cap, rfl, hcap, hi⟩ := hl.shape
 rw [flat_allB]
 have hR : fitsT 1 (.node h l) = false := by unfold fitsT; rw [Tree.hd_node, hk]; rfl
 rw [hR]
 have k4 : (h.kind == 4) = true := by rw [hk]; rfl
 clear hk hR
 have hb1 : (w.alloc (.cells #[.int .i64 h.kind, .bool h.b, .bool h.d.neg, .string h.d.digits, .int .i64 h.d.exp, .int .u64 (h.u : Int), .int .i64 h.w, .string h.s, .slice a l.length cap] 27)).heap[w.heap.size]? = some (.cells #[.int .i64 h.kind, .bool h.b, .bool h.d.neg, .string h.d.digits, .int .i64 h.d.exp, .int .u64 (h.u : Int), .int .i64 h.w, .string h.s, .slice a l.length cap] 27 (0, 0)) := World.alloc_heap_new w _
 have hkw : Same w (w.alloc (.cells #[.int .i64 h.kind, .bool h.b, .bool h.d.neg, .string h.d.digits, .int .i64 h.d.exp, .int .u64 (h.u : Int), .int .i64 h.w, .string h.s, .slice a l.length cap] 27)) := (Keep.refl _ _).alloc _
 obtain ⟨n0, n1, n2, n3, n4, n5, n6, n7, n8⟩ := cells9 hb1
 have hwd := fun W => refWiden_any h.u h.w W ho.2.2.2.1 ho.2.2.1
 go_enter Tryz.func47, Tryz.ntmps47
 go_wp2_with fail
 refine (hwd _).mono ?_
 rintro e w1 ⟨⟨x, rfl⟩, hk1⟩
 have hb2 := hk1.same _ _ hb1 trivial
 have hkw2 := hkw.trans hk1
 clear n0 n1 n2 n3 n4 n5 n6 n7 n8 hb1 hkw hk1 hwd
 obtain ⟨n0, n1, n2, n3, n4, n5, n6, n7, n8⟩ := cells9 hb2
 go_wp2_with fail
 go_quiet (fail)
 have hb1 := hb2
 have hkw := hkw2
 clear hb2 hkw2
 go_wp2
 go_loopw [5, 12] (fun v i wr => ∃ k : Nat, k ≤ l.length ∧ i = .int .i64 k ∧ v = .bool (false && (l.take k).all fun x => x.flat.all (fitsT 1)) ∧ Same w wr ∧ wr.heap[w.heap.size]? = some (.cells #[.int .i64 h.kind, .bool h.b, .bool h.d.neg, .string h.d.digits, .int .i64 h.d.exp, .int .u64 (h.u : Int), .int .i64 h.w, .string h.s, .slice a l.length cap] 27 (0, 0))) (fun _ i _ => l.length - (RowKit.intOf i).toNat)
 case atStart => exact ⟨0, Nat.zero_le _, rfl, by rw [List.take_zero]; first | rfl | simp, (hkw.drewN _), hb1⟩
 case round =>
  clear hb1 hkw n0 n1 n2 n3 n4 n5 n6 n7 n8
  obtain ⟨k, hk, rfl, rfl, hsm, hbx⟩ := hrel
  obtain ⟨n0, n1, n2, n3, n4, n5, n6, n7, n8⟩ := cells9 hbx
  obtain ⟨q, hq⟩ : ∃ q, (false && (l.take k).all fun x => x.flat.all (fitsT 1)) = q := ⟨_, rfl⟩
  rw [hq]
  by_cases hlt : k < l.length
  ·obtain ⟨b, off, lv', rfl, hS, hb, hr, hok, hra⟩ := hi k hlt
   obtain ⟨a', cap', rfl⟩ := hr.is_slice
   obtain ⟨c0, c1, c2, c3, c4, c5, c6, c7, c8⟩ := nodeAt_of (rangeAt_same hsm hra)
   have hst : (false && (l.take (k + 1)).all fun x => x.flat.all (fitsT 1)) = (q && l[k].flat.all (fitsT 1)) := by
    rw [← hq, List.take_succ_eq_append_getElem hlt, List.all_append, ← Bool.and_assoc]; simp
   have ihc := fun (W : World) (hr2 : RepS S W (l[k]).l (.slice a' (l[k]).l.length cap')) => ih _ (List.getElem_mem hlt) S _ W hok hr2
   obtain ⟨Z, hZ⟩ : ∃ Z, l[k].flat.all (fitsT 1) = Z := ⟨_, rfl⟩
   rw [hZ] at hst ihc
   have HS := Lib.hid hst
   clear hst hZ hq
   cases q with
   | false =>
    go_wp2
    go_roundw
    case rel => exact ⟨k + 1, by omega, by go_num, by rw [HS.out]; first | rfl | simp, hsm, hbx⟩
    case measure => simp [RowKit.intOf]; omega
   | true =>
    go_wp2_with (first | (go_at_call 47; refine (ihc _ (hr.same hsm)).mono ?_; rintro e w' ⟨rfl, hk'⟩))
    go_roundw
    case rel => exact ⟨k + 1, by omega, by go_num, by rw [HS.out]; first | rfl | simp, hsm.trans hk', hk'.same _ _ hbx trivial⟩
    case measure => simp [RowKit.intOf]; omega
  ·obtain rfl : k = l.length := by omega
   rw [List.take_length] at hq
   have HQ := Lib.hid hq
   clear hq
   go_wp2
   go_ret
   exact ⟨by rw [HQ.out]; rfl, hsm⟩
set_option maxRecDepth 100000 in
set_option maxHeartbeats 4000000 in
theorem refFits3 {h : Hd} {l : List Tree} (ih : ∀ x ∈ l, FitsSaid x) (hk : h.kind = 3) : FitsSaid (.node h l) := by
 intro S lv w ho hl
 simp only [Tree.hd_node, Tree.l_node] at ho hl ⊢
 obtain ⟨hlen, a, cap, rfl, hcap, hi⟩ := hl.shape
 rw [flat_allB]
 have hR : fitsT 1 (.node h l) = true := by unfold fitsT; rw [Tree.hd_node, hk]; rfl
 rw [hR]
 have k4 : (h.kind == 4) = false := by rw [hk]; rfl
 have k3 : (h.kind == 3) = true := by rw [hk]; rfl
 clear hk hR
 have hb1 : (w.alloc (.cells #[.int .i64 h.kind, .bool h.b, .bool h.d.neg, .string h.d.digits, .int .i64 h.d.exp, .int .u64 (h.u : Int), .int .i64 h.w, .string h.s, .slice a l.length cap] 27)).heap[w.heap.size]? = some (.cells #[.int .i64 h.kind, .bool h.b, .bool h.d.neg, .string h.d.digits, .int .i64 h.d.exp, .int .u64 (h.u : Int), .int .i64 h.w, .string h.s, .slice a l.length cap] 27 (0, 0)) := World.alloc_heap_new w _
 have hkw : Same w (w.alloc (.cells #[.int .i64 h.kind, .bool h.b, .bool h.d.neg, .string h.d.digits, .int .i64 h.d.exp, .int .u64 (h.u : Int), .int .i64 h.w, .string h.s, .slice a l.length cap] 27)) := (Keep.refl _ _).alloc _
 obtain ⟨n0, n1, n2, n3, n4, n5, n6, n7, n8⟩ := cells9 hb1
 have htn := fun W => refToInt_any h.d W ho.2.2.2.2.1 ho.2.1
 go_enter Tryz.func47, Tryz.ntmps47
 go_wp2_with fail
 refine (htn _).mono ?_
 rintro e w1 ⟨⟨x0, x1, x2, rfl⟩, hk1⟩
 have hb2 := hk1.same _ _ hb1 trivial
 have hkw2 := hkw.trans hk1
 clear n0 n1 n2 n3 n4 n5 n6 n7 n8 hb1 hkw hk1 htn
 obtain ⟨n0, n1, n2, n3, n4, n5, n6, n7, n8⟩ := cells9 hb2
 have hb1 := hb2
 have hkw := hkw2
 clear hb2 hkw2
 go_wp2
 go_loopw [5, 12] (fun v i wr => ∃ k : Nat, k ≤ l.length ∧ i = .int .i64 k ∧ v = .bool (true && (l.take k).all fun x => x.flat.all (fitsT 1)) ∧ Same w wr ∧ wr.heap[w.heap.size]? = some (.cells #[.int .i64 h.kind, .bool h.b, .bool h.d.neg, .string h.d.digits, .int .i64 h.d.exp, .int .u64 (h.u : Int), .int .i64 h.w, .string h.s, .slice a l.length cap] 27 (0, 0))) (fun _ i _ => l.length - (RowKit.intOf i).toNat)
 case atStart => exact ⟨0, Nat.zero_le _, rfl, by rw [List.take_zero]; first | rfl | simp, hkw, hb1⟩
 case round =>
  clear hb1 hkw n0 n1 n2 n3 n4 n5 n6 n7 n8
  obtain ⟨k, hk, rfl, rfl, hsm, hbx⟩ := hrel
  obtain ⟨n0, n1, n2, n3, n4, n5, n6, n7, n8⟩ := cells9 hbx
  obtain ⟨q, hq⟩ : ∃ q, (true && (l.take k).all fun x => x.flat.all (fitsT 1)) = q := ⟨_, rfl⟩
  rw [hq]
  by_cases hlt : k < l.length
  ·obtain ⟨b, off, lv', rfl, hS, hb, hr, hok, hra⟩ := hi k hlt
   obtain ⟨a', cap', rfl⟩ := hr.is_slice
   obtain ⟨c0, c1, c2, c3, c4, c5, c6, c7, c8⟩ := nodeAt_of (rangeAt_same hsm hra)
   have hst : (true && (l.take (k + 1)).all fun x => x.flat.all (fitsT 1)) = (q && l[k].flat.all (fitsT 1)) := by
    rw [← hq, List.take_succ_eq_append_getElem hlt, List.all_append, ← Bool.and_assoc]; simp
   have ihc := fun (W : World) (hr2 : RepS S W (l[k]).l (.slice a' (l[k]).l.length cap')) => ih _ (List.getElem_mem hlt) S _ W hok hr2
   obtain ⟨Z, hZ⟩ : ∃ Z, l[k].flat.all (fitsT 1) = Z := ⟨_, rfl⟩
   rw [hZ] at hst ihc
   have HS := Lib.hid hst
   clear hst hZ hq
   cases q with
   | false =>
    go_wp2
    go_roundw
    case rel => exact ⟨k + 1, by omega, by go_num, by rw [HS.out]; first | rfl | simp, hsm, hbx⟩
    case measure => simp [RowKit.intOf]; omega
   | true =>
    go_wp2_with (first | (go_at_call 47; refine (ihc _ (hr.same hsm)).mono ?_; rintro e w' ⟨rfl, hk'⟩))
    go_roundw
    case rel => exact ⟨k + 1, by omega, by go_num, by rw [HS.out]; first | rfl | simp, hsm.trans hk', hk'.same _ _ hbx trivial⟩
    case measure => simp [RowKit.intOf]; omega
  ·obtain rfl : k = l.length := by omega
   rw [List.take_length] at hq
   have HQ := Lib.hid hq
   clear hq
   go_wp2
   go_ret
   exact ⟨by rw [HQ.out]; rfl, hsm⟩
set_option maxRecDepth 100000 in
set_option maxHeartbeats 4000000 in
theorem refFits6 {h : Hd} {l : List Tree} (ih : ∀ x ∈ l, FitsSaid x) (hk : h.kind = 6) : FitsSaid (.node h l) := by
 intro S lv w ho hl
 simp only [Tree.hd_node, Tree.l_node] at ho hl ⊢
 obtain ⟨hlen, a, cap, rfl, hcap, hi⟩ := hl.shape
 rw [flat_allB]
 have hR : fitsT 1 (.node h l) = false := by unfold fitsT; rw [Tree.hd_node, hk]; rfl
 rw [hR]
 have k4 : (h.kind == 4) = false := by rw [hk]; rfl
 have k3 : (h.kind == 3) = false := by rw [hk]; rfl
 have k6 : (h.kind == 6) = true := by rw [hk]; rfl
 clear hk hR
 have hb1 : (w.alloc (.cells #[.int .i64 h.kind, .bool h.b, .bool h.d.neg, .string h.d.digits, .int .i64 h.d.exp, .int .u64 (h.u : Int), .int .i64 h.w, .string h.s, .slice a l.length cap] 27)).heap[w.heap.size]? = some (.cells #[.int .i64 h.kind, .bool h.b, .bool h.d.neg, .string h.d.digits, .int .i64 h.d.exp, .int .u64 (h.u : Int), .int .i64 h.w, .string h.s, .slice a l.length cap] 27 (0, 0)) := World.alloc_heap_new w _
 have hkw : Same w (w.alloc (.cells #[.int .i64 h.kind, .bool h.b, .bool h.d.neg, .string h.d.digits, .int .i64 h.d.exp, .int .u64 (h.u : Int), .int .i64 h.w, .string h.s, .slice a l.length cap] 27)) := (Keep.refl _ _).alloc _
 obtain ⟨n0, n1, n2, n3, n4, n5, n6, n7, n8⟩ := cells9 hb1
 go_enter Tryz.func47, Tryz.ntmps47
 go_wp2
 go_loopw [5, 12] (fun v i wr => ∃ k : Nat, k ≤ l.length ∧ i = .int .i64 k ∧ v = .bool (false && (l.take k).all fun x => x.flat.all (fitsT 1)) ∧ Same w wr ∧ wr.heap[w.heap.size]? = some (.cells #[.int .i64 h.kind, .bool h.b, .bool h.d.neg, .string h.d.digits, .int .i64 h.d.exp, .int .u64 (h.u : Int), .int .i64 h.w, .string h.s, .slice a l.length cap] 27 (0, 0))) (fun _ i _ => l.length - (RowKit.intOf i).toNat)
 case atStart => exact ⟨0, Nat.zero_le _, rfl, by rw [List.take_zero]; first | rfl | simp, hkw, hb1⟩
 case round =>
  clear hb1 hkw n0 n1 n2 n3 n4 n5 n6 n7 n8
  obtain ⟨k, hk, rfl, rfl, hsm, hbx⟩ := hrel
  obtain ⟨n0, n1, n2, n3, n4, n5, n6, n7, n8⟩ := cells9 hbx
  obtain ⟨q, hq⟩ : ∃ q, (false && (l.take k).all fun x => x.flat.all (fitsT 1)) = q := ⟨_, rfl⟩
  rw [hq]
  by_cases hlt : k < l.length
  ·obtain ⟨b, off, lv', rfl, hS, hb, hr, hok, hra⟩ := hi k hlt
   obtain ⟨a', cap', rfl⟩ := hr.is_slice
   obtain ⟨c0, c1, c2, c3, c4, c5, c6, c7, c8⟩ := nodeAt_of (rangeAt_same hsm hra)
   have hst : (false && (l.take (k + 1)).all fun x => x.flat.all (fitsT 1)) = (q && l[k].flat.all (fitsT 1)) := by
    rw [← hq, List.take_succ_eq_append_getElem hlt, List.all_append, ← Bool.and_assoc]; simp
   have ihc := fun (W : World) (hr2 : RepS S W (l[k]).l (.slice a' (l[k]).l.length cap')) => ih _ (List.getElem_mem hlt) S _ W hok hr2
   obtain ⟨Z, hZ⟩ : ∃ Z, l[k].flat.all (fitsT 1) = Z := ⟨_, rfl⟩
   rw [hZ] at hst ihc
   have HS := Lib.hid hst
   clear hst hZ hq
   cases q with
   | false =>
    go_wp2
    go_roundw
    case rel => exact ⟨k + 1, by omega, by go_num, by rw [HS.out]; first | rfl | simp, hsm, hbx⟩
    case measure => simp [RowKit.intOf]; omega
   | true =>
    go_wp2_with (first | (go_at_call 47; refine (ihc _ (hr.same hsm)).mono ?_; rintro e w' ⟨rfl, hk'⟩))
    go_roundw
    case rel => exact ⟨k + 1, by omega, by go_num, by rw [HS.out]; first | rfl | simp, hsm.trans hk', hk'.same _ _ hbx trivial⟩
    case measure => simp [RowKit.intOf]; omega
  ·obtain rfl : k = l.length := by omega
   rw [List.take_length] at hq
   have HQ := Lib.hid hq
   clear hq
   go_wp2
   go_ret
   exact ⟨by rw [HQ.out]; rfl, hsm⟩
set_option maxRecDepth 100000 in
set_option maxHeartbeats 4000000 in
theorem refFits9 {h : Hd} {l : List Tree} (ih : ∀ x ∈ l, FitsSaid x) (hk : h.kind = 9) : FitsSaid (.node h l) := by
 intro S lv w ho hl
 simp only [Tree.hd_node, Tree.l_node] at ho hl ⊢
 obtain ⟨hlen, a, cap, rfl, hcap, hi⟩ := hl.shape
 rw [flat_allB]
 have hR : fitsT 1 (.node h l) = false := by unfold fitsT; rw [Tree.hd_node, hk]; rfl
 rw [hR]
 have k4 : (h.kind == 4) = false := by rw [hk]; rfl
 have k3 : (h.kind == 3) = false := by rw [hk]; rfl
 have k6 : (h.kind == 6) = false := by rw [hk]; rfl
 have k9 : (h.kind == 9) = true := by rw [hk]; rfl
 clear hk hR
 have hb1 : (w.alloc (.cells #[.int .i64 h.kind, .bool h.b, .bool h.d.neg, .string h.d.digits, .int .i64 h.d.exp, .int .u64 (h.u : Int), .int .i64 h.w, .string h.s, .slice a l.length cap] 27)).heap[w.heap.size]? = some (.cells #[.int .i64 h.kind, .bool h.b, .bool h.d.neg, .string h.d.digits, .int .i64 h.d.exp, .int .u64 (h.u : Int), .int .i64 h.w, .string h.s, .slice a l.length cap] 27 (0, 0)) := World.alloc_heap_new w _
 have hkw : Same w (w.alloc (.cells #[.int .i64 h.kind, .bool h.b, .bool h.d.neg, .string h.d.digits, .int .i64 h.d.exp, .int .u64 (h.u : Int), .int .i64 h.w, .string h.s, .slice a l.length cap] 27)) := (Keep.refl _ _).alloc _
 obtain ⟨n0, n1, n2, n3, n4, n5, n6, n7, n8⟩ := cells9 hb1
 go_enter Tryz.func47, Tryz.ntmps47
 go_wp2
 go_loopw [5, 12] (fun v i wr => ∃ k : Nat, k ≤ l.length ∧ i = .int .i64 k ∧ v = .bool (false && (l.take k).all fun x => x.flat.all (fitsT 1)) ∧ Same w wr ∧ wr.heap[w.heap.size]? = some (.cells #[.int .i64 h.kind, .bool h.b, .bool h.d.neg, .string h.d.digits, .int .i64 h.d.exp, .int .u64 (h.u : Int), .int .i64 h.w, .string h.s, .slice a l.length cap] 27 (0, 0))) (fun _ i _ => l.length - (RowKit.intOf i).toNat)
 case atStart => exact ⟨0, Nat.zero_le _, rfl, by rw [List.take_zero]; first | rfl | simp, hkw, hb1⟩
 case round =>
  clear hb1 hkw n0 n1 n2 n3 n4 n5 n6 n7 n8
  obtain ⟨k, hk, rfl, rfl, hsm, hbx⟩ := hrel
  obtain ⟨n0, n1, n2, n3, n4, n5, n6, n7, n8⟩ := cells9 hbx
  obtain ⟨q, hq⟩ : ∃ q, (false && (l.take k).all fun x => x.flat.all (fitsT 1)) = q := ⟨_, rfl⟩
  rw [hq]
  by_cases hlt : k < l.length
  ·obtain ⟨b, off, lv', rfl, hS, hb, hr, hok, hra⟩ := hi k hlt
   obtain ⟨a', cap', rfl⟩ := hr.is_slice
   obtain ⟨c0, c1, c2, c3, c4, c5, c6, c7, c8⟩ := nodeAt_of (rangeAt_same hsm hra)
   have hst : (false && (l.take (k + 1)).all fun x => x.flat.all (fitsT 1)) = (q && l[k].flat.all (fitsT 1)) := by
    rw [← hq, List.take_succ_eq_append_getElem hlt, List.all_append, ← Bool.and_assoc]; simp
   have ihc := fun (W : World) (hr2 : RepS S W (l[k]).l (.slice a' (l[k]).l.length cap')) => ih _ (List.getElem_mem hlt) S _ W hok hr2
   obtain ⟨Z, hZ⟩ : ∃ Z, l[k].flat.all (fitsT 1) = Z := ⟨_, rfl⟩
   rw [hZ] at hst ihc
   have HS := Lib.hid hst
   clear hst hZ hq
   cases q with
   | false =>
    go_wp2
    go_roundw
    case rel => exact ⟨k + 1, by omega, by go_num, by rw [HS.out]; first | rfl | simp, hsm, hbx⟩
    case measure => simp [RowKit.intOf]; omega
   | true =>
    go_wp2_with (first | (go_at_call 47; refine (ihc _ (hr.same hsm)).mono ?_; rintro e w' ⟨rfl, hk'⟩))
    go_roundw
    case rel => exact ⟨k + 1, by omega, by go_num, by rw [HS.out]; first | rfl | simp, hsm.trans hk', hk'.same _ _ hbx trivial⟩
    case measure => simp [RowKit.intOf]; omega
  ·obtain rfl : k = l.length := by omega
   rw [List.take_length] at hq
   have HQ := Lib.hid hq
   clear hq
   go_wp2
   go_ret
   exact ⟨by rw [HQ.out]; rfl, hsm⟩
set_option maxRecDepth 100000 in
set_option maxHeartbeats 4000000 in
theorem refFits10 {h : Hd} {l : List Tree} (ih : ∀ x ∈ l, FitsSaid x) (hk : h.kind = 10) : FitsSaid (.node h l) := by
 intro S lv w ho hl
 simp only [Tree.hd_node, Tree.l_node] at ho hl ⊢
 obtain ⟨hlen, a, cap, rfl, hcap, hi⟩ := hl.shape
 rw [flat_allB]
 have hR : fitsT 1 (.node h l) = false := by unfold fitsT; rw [Tree.hd_node, hk]; rfl
 rw [hR]
 have k4 : (h.kind == 4) = false := by rw [hk]; rfl
 have k3 : (h.kind == 3) = false := by rw [hk]; rfl
 have k6 : (h.kind == 6) = false := by rw [hk]; rfl
 have k9 : (h.kind == 9) = false := by rw [hk]; rfl
 have k10 : (h.kind == 10) = true := by rw [hk]; rfl
 clear hk hR
 have hb1 : (w.alloc (.cells #[.int .i64 h.kind, .bool h.b, .bool h.d.neg, .string h.d.digits, .int .i64 h.d.exp, .int .u64 (h.u : Int), .int .i64 h.w, .string h.s, .slice a l.length cap] 27)).heap[w.heap.size]? = some (.cells #[.int .i64 h.kind, .bool h.b, .bool h.d.neg, .string h.d.digits, .int .i64 h.d.exp, .int .u64 (h.u : Int), .int .i64 h.w, .string h.s, .slice a l.length cap] 27 (0, 0)) := World.alloc_heap_new w _
 have hkw : Same w (w.alloc (.cells #[.int .i64 h.kind, .bool h.b, .bool h.d.neg, .string h.d.digits, .int .i64 h.d.exp, .int .u64 (h.u : Int), .int .i64 h.w, .string h.s, .slice a l.length cap] 27)) := (Keep.refl _ _).alloc _
 obtain ⟨n0, n1, n2, n3, n4, n5, n6, n7, n8⟩ := cells9 hb1
 go_enter Tryz.func47, Tryz.ntmps47
 go_wp2
 go_loopw [5, 12] (fun v i wr => ∃ k : Nat, k ≤ l.length ∧ i = .int .i64 k ∧ v = .bool (false && (l.take k).all fun x => x.flat.all (fitsT 1)) ∧ Same w wr ∧ wr.heap[w.heap.size]? = some (.cells #[.int .i64 h.kind, .bool h.b, .bool h.d.neg, .string h.d.digits, .int .i64 h.d.exp, .int .u64 (h.u : Int), .int .i64 h.w, .string h.s, .slice a l.length cap] 27 (0, 0))) (fun _ i _ => l.length - (RowKit.intOf i).toNat)
 case atStart => exact ⟨0, Nat.zero_le _, rfl, by rw [List.take_zero]; first | rfl | simp, hkw, hb1⟩
 case round =>
  clear hb1 hkw n0 n1 n2 n3 n4 n5 n6 n7 n8
  obtain ⟨k, hk, rfl, rfl, hsm, hbx⟩ := hrel
  obtain ⟨n0, n1, n2, n3, n4, n5, n6, n7, n8⟩ := cells9 hbx
  obtain ⟨q, hq⟩ : ∃ q, (false && (l.take k).all fun x => x.flat.all (fitsT 1)) = q := ⟨_, rfl⟩
  rw [hq]
  by_cases hlt : k < l.length
  ·obtain ⟨b, off, lv', rfl, hS, hb, hr, hok, hra⟩ := hi k hlt
   obtain ⟨a', cap', rfl⟩ := hr.is_slice
   obtain ⟨c0, c1, c2, c3, c4, c5, c6, c7, c8⟩ := nodeAt_of (rangeAt_same hsm hra)
   have hst : (false && (l.take (k + 1)).all fun x => x.flat.all (fitsT 1)) = (q && l[k].flat.all (fitsT 1)) := by
    rw [← hq, List.take_succ_eq_append_getElem hlt, List.all_append, ← Bool.and_assoc]; simp
   have ihc := fun (W : World) (hr2 : RepS S W (l[k]).l (.slice a' (l[k]).l.length cap')) => ih _ (List.getElem_mem hlt) S _ W hok hr2
   obtain ⟨Z, hZ⟩ : ∃ Z, l[k].flat.all (fitsT 1) = Z := ⟨_, rfl⟩
   rw [hZ] at hst ihc
   have HS := Lib.hid hst
   clear hst hZ hq
   cases q with
   | false =>
    go_wp2
    go_roundw
    case rel => exact ⟨k + 1, by omega, by go_num, by rw [HS.out]; first | rfl | simp, hsm, hbx⟩
    case measure => simp [RowKit.intOf]; omega
   | true =>
    go_wp2_with (first | (go_at_call 47; refine (ihc _ (hr.same hsm)).mono ?_; rintro e w' ⟨rfl, hk'⟩))
    go_roundw
    case rel => exact ⟨k + 1, by omega, by go_num, by rw [HS.out]; first | rfl | simp, hsm.trans hk', hk'.same _ _ hbx trivial⟩
    case measure => simp [RowKit.intOf]; omega
  ·obtain rfl : k = l.length := by omega
   rw [List.take_length] at hq
   have HQ := Lib.hid hq
   clear hq
   go_wp2
   go_ret
   exact ⟨by rw [HQ.out]; rfl, hsm⟩
set_option maxRecDepth 100000 in
set_option maxHeartbeats 4000000 in
theorem refFits11 {h : Hd} {l : List Tree} (ih : ∀ x ∈ l, FitsSaid x) (hk : h.kind = 11) : FitsSaid (.node h l) := by
 intro S lv w ho hl
 simp only [Tree.hd_node, Tree.l_node] at ho hl ⊢
 obtain ⟨hlen, a, cap, rfl, hcap, hi⟩ := hl.shape
 rw [flat_allB]
 have hR : fitsT 1 (.node h l) = false := by unfold fitsT; rw [Tree.hd_node, hk]; rfl
 rw [hR]
 have k4 : (h.kind == 4) = false := by rw [hk]; rfl
 have k3 : (h.kind == 3) = false := by rw [hk]; rfl
 have k6 : (h.kind == 6) = false := by rw [hk]; rfl
 have k9 : (h.kind == 9) = false := by rw [hk]; rfl
 have k10 : (h.kind == 10) = false := by rw [hk]; rfl
 have k11 : (h.kind == 11) = true := by rw [hk]; rfl
 clear hk hR
 have hb1 : (w.alloc (.cells #[.int .i64 h.kind, .bool h.b, .bool h.d.neg, .string h.d.digits, .int .i64 h.d.exp, .int .u64 (h.u : Int), .int .i64 h.w, .string h.s, .slice a l.length cap] 27)).heap[w.heap.size]? = some (.cells #[.int .i64 h.kind, .bool h.b, .bool h.d.neg, .string h.d.digits, .int .i64 h.d.exp, .int .u64 (h.u : Int), .int .i64 h.w, .string h.s, .slice a l.length cap] 27 (0, 0)) := World.alloc_heap_new w _
 have hkw : Same w (w.alloc (.cells #[.int .i64 h.kind, .bool h.b, .bool h.d.neg, .string h.d.digits, .int .i64 h.d.exp, .int .u64 (h.u : Int), .int .i64 h.w, .string h.s, .slice a l.length cap] 27)) := (Keep.refl _ _).alloc _
 obtain ⟨n0, n1, n2, n3, n4, n5, n6, n7, n8⟩ := cells9 hb1
 go_enter Tryz.func47, Tryz.ntmps47
 go_wp2
 go_loopw [5, 12] (fun v i wr => ∃ k : Nat, k ≤ l.length ∧ i = .int .i64 k ∧ v = .bool (false && (l.take k).all fun x => x.flat.all (fitsT 1)) ∧ Same w wr ∧ wr.heap[w.heap.size]? = some (.cells #[.int .i64 h.kind, .bool h.b, .bool h.d.neg, .string h.d.digits, .int .i64 h.d.exp, .int .u64 (h.u : Int), .int .i64 h.w, .string h.s, .slice a l.length cap] 27 (0, 0))) (fun _ i _ => l.length - (RowKit.intOf i).toNat)
 case atStart => exact ⟨0, Nat.zero_le _, rfl, by rw [List.take_zero]; first | rfl | simp, hkw, hb1⟩
 case round =>
  clear hb1 hkw n0 n1 n2 n3 n4 n5 n6 n7 n8
  obtain ⟨k, hk, rfl, rfl, hsm, hbx⟩ := hrel
  obtain ⟨n0, n1, n2, n3, n4, n5, n6, n7, n8⟩ := cells9 hbx
  obtain ⟨q, hq⟩ : ∃ q, (false && (l.take k).all fun x => x.flat.all (fitsT 1)) = q := ⟨_, rfl⟩
  rw [hq]
  by_cases hlt : k < l.length
  ·obtain ⟨b, off, lv', rfl, hS, hb, hr, hok, hra⟩ := hi k hlt
   obtain ⟨a', cap', rfl⟩ := hr.is_slice
   obtain ⟨c0, c1, c2, c3, c4, c5, c6, c7, c8⟩ := nodeAt_of (rangeAt_same hsm hra)
   have hst : (false && (l.take (k + 1)).all fun x => x.flat.all (fitsT 1)) = (q && l[k].flat.all (fitsT 1)) := by
    rw [← hq, List.take_succ_eq_append_getElem hlt, List.all_append, ← Bool.and_assoc]; simp
   have ihc := fun (W : World) (hr2 : RepS S W (l[k]).l (.slice a' (l[k]).l.length cap')) => ih _ (List.getElem_mem hlt) S _ W hok hr2
   obtain ⟨Z, hZ⟩ : ∃ Z, l[k].flat.all (fitsT 1) = Z := ⟨_, rfl⟩
   rw [hZ] at hst ihc
   have HS := Lib.hid hst
   clear hst hZ hq
   cases q with
   | false =>
    go_wp2
    go_roundw
    case rel => exact ⟨k + 1, by omega, by go_num, by rw [HS.out]; first | rfl | simp, hsm, hbx⟩
    case measure => simp [RowKit.intOf]; omega
   | true =>
    go_wp2_with (first | (go_at_call 47; refine (ihc _ (hr.same hsm)).mono ?_; rintro e w' ⟨rfl, hk'⟩))
    go_roundw
    case rel => exact ⟨k + 1, by omega, by go_num, by rw [HS.out]; first | rfl | simp, hsm.trans hk', hk'.same _ _ hbx trivial⟩
    case measure => simp [RowKit.intOf]; omega
  ·obtain rfl : k = l.length := by omega
   rw [List.take_length] at hq
   have HQ := Lib.hid hq
   clear hq
   go_wp2
   go_ret
   exact ⟨by rw [HQ.out]; rfl, hsm⟩
set_option maxRecDepth 100000 in
set_option maxHeartbeats 4000000 in
theorem refFitsNo {h : Hd} {l : List Tree} (ih : ∀ x ∈ l, FitsSaid x) (hk : h.kind ≠ 4 ∧ h.kind ≠ 3 ∧ h.kind ≠ 6 ∧ h.kind ≠ 9 ∧ h.kind ≠ 10 ∧ h.kind ≠ 11 ∧ h.kind ≠ 8) : FitsSaid (.node h l) := by
 intro S lv w ho hl
 simp only [Tree.hd_node, Tree.l_node] at ho hl ⊢
 obtain ⟨hlen, a, cap, rfl, hcap, hi⟩ := hl.shape
 rw [flat_allB]
 obtain ⟨e4, e3, e6, e9, e10, e11, e8⟩ := hk
 have hR : fitsT 1 (.node h l) = true := by
  unfold fitsT
  rw [if_neg (show ¬ (Tree.node h l).hd.kind = 4 from e4), if_neg (show ¬ (Tree.node h l).hd.kind = 3 from e3), if_neg (show ¬ (Tree.node h l).hd.kind = 6 from e6), if_neg (show ¬ ((Tree.node h l).hd.kind = 9 ∨ (Tree.node h l).hd.kind = 10) from fun h => h.elim e9 e10), if_neg (show ¬ (Tree.node h l).hd.kind = 11 from e11), if_neg (show ¬ (Tree.node h l).hd.kind = 8 from e8)]
  rfl
 rw [hR]
 have k4 : (h.kind == 4) = false := by rw [beq_eq_false_iff_ne]; exact e4
 have k3 : (h.kind == 3) = false := by rw [beq_eq_false_iff_ne]; exact e3
 have k6 : (h.kind == 6) = false := by rw [beq_eq_false_iff_ne]; exact e6
 have k9 : (h.kind == 9) = false := by rw [beq_eq_false_iff_ne]; exact e9
 have k10 : (h.kind == 10) = false := by rw [beq_eq_false_iff_ne]; exact e10
 have k11 : (h.kind == 11) = false := by rw [beq_eq_false_iff_ne]; exact e11
 have k8 : (h.kind == 8) = false := by rw [beq_eq_false_iff_ne]; exact e8
 clear e4 e3 e6 e9 e10 e11 e8 hR
 have hb1 : (w.alloc (.cells #[.int .i64 h.kind, .bool h.b, .bool h.d.neg, .string h.d.digits, .int .i64 h.d.exp, .int .u64 (h.u : Int), .int .i64 h.w, .string h.s, .slice a l.length cap] 27)).heap[w.heap.size]? = some (.cells #[.int .i64 h.kind, .bool h.b, .bool h.d.neg, .string h.d.digits, .int .i64 h.d.exp, .int .u64 (h.u : Int), .int .i64 h.w, .string h.s, .slice a l.length cap] 27 (0, 0)) := World.alloc_heap_new w _
 have hkw : Same w (w.alloc (.cells #[.int .i64 h.kind, .bool h.b, .bool h.d.neg, .string h.d.digits, .int .i64 h.d.exp, .int .u64 (h.u : Int), .int .i64 h.w, .string h.s, .slice a l.length cap] 27)) := (Keep.refl _ _).alloc _
 obtain ⟨n0, n1, n2, n3, n4, n5, n6, n7, n8⟩ := cells9 hb1
 go_enter Tryz.func47, Tryz.ntmps47
 go_wp2
 go_loopw [5, 12] (fun v i wr => ∃ k : Nat, k ≤ l.length ∧ i = .int .i64 k ∧ v = .bool (true && (l.take k).all fun x => x.flat.all (fitsT 1)) ∧ Same w wr ∧ wr.heap[w.heap.size]? = some (.cells #[.int .i64 h.kind, .bool h.b, .bool h.d.neg, .string h.d.digits, .int .i64 h.d.exp, .int .u64 (h.u : Int), .int .i64 h.w, .string h.s, .slice a l.length cap] 27 (0, 0))) (fun _ i _ => l.length - (RowKit.intOf i).toNat)
 case atStart => exact ⟨0, Nat.zero_le _, rfl, by rw [List.take_zero]; first | rfl | simp, hkw, hb1⟩
 case round =>
  clear hb1 hkw n0 n1 n2 n3 n4 n5 n6 n7 n8
  obtain ⟨k, hk, rfl, rfl, hsm, hbx⟩ := hrel
  obtain ⟨n0, n1, n2, n3, n4, n5, n6, n7, n8⟩ := cells9 hbx
  obtain ⟨q, hq⟩ : ∃ q, (true && (l.take k).all fun x => x.flat.all (fitsT 1)) = q := ⟨_, rfl⟩
  rw [hq]
  by_cases hlt : k < l.length
  ·obtain ⟨b, off, lv', rfl, hS, hb, hr, hok, hra⟩ := hi k hlt
   obtain ⟨a', cap', rfl⟩ := hr.is_slice
   obtain ⟨c0, c1, c2, c3, c4, c5, c6, c7, c8⟩ := nodeAt_of (rangeAt_same hsm hra)
   have hst : (true && (l.take (k + 1)).all fun x => x.flat.all (fitsT 1)) = (q && l[k].flat.all (fitsT 1)) := by
    rw [← hq, List.take_succ_eq_append_getElem hlt, List.all_append, ← Bool.and_assoc]; simp
   have ihc := fun (W : World) (hr2 : RepS S W (l[k]).l (.slice a' (l[k]).l.length cap')) => ih _ (List.getElem_mem hlt) S _ W hok hr2
   obtain ⟨Z, hZ⟩ : ∃ Z, l[k].flat.all (fitsT 1) = Z := ⟨_, rfl⟩
   rw [hZ] at hst ihc
   have HS := Lib.hid hst
   clear hst hZ hq
   cases q with
   | false =>
    go_wp2
    go_roundw
    case rel => exact ⟨k + 1, by omega, by go_num, by rw [HS.out]; first | rfl | simp, hsm, hbx⟩
    case measure => simp [RowKit.intOf]; omega
   | true =>
    go_wp2_with (first | (go_at_call 47; refine (ihc _ (hr.same hsm)).mono ?_; rintro e w' ⟨rfl, hk'⟩))
    go_roundw
    case rel => exact ⟨k + 1, by omega, by go_num, by rw [HS.out]; first | rfl | simp, hsm.trans hk', hk'.same _ _ hbx trivial⟩
    case measure => simp [RowKit.intOf]; omega
  ·obtain rfl : k = l.length := by omega
   rw [List.take_length] at hq
   have HQ := Lib.hid hq
   clear hq
   go_wp2
   go_ret
   exact ⟨by rw [HQ.out]; rfl, hsm⟩
set_option maxRecDepth 100000 in
set_option maxHeartbeats 4000000 in
theorem refFits8 {h : Hd} {l : List Tree} (ih : ∀ x ∈ l, FitsSaid x) (hk : h.kind = 8) : FitsSaid (.node h l) := by
 intro S lv w ho hl
 simp only [Tree.hd_node, Tree.l_node] at ho hl ⊢
 obtain ⟨hlen, a, cap, rfl, hcap, hi⟩ := hl.shape
 rw [flat_allB]
 have hR : fitsT 1 (.node h l) = (keysOf l).all (isKeyT 1) := by unfold fitsT; rw [Tree.hd_node, hk]; rfl
 rw [hR]
 have k4 : (h.kind == 4) = false := by rw [hk]; rfl
 have k3 : (h.kind == 3) = false := by rw [hk]; rfl
 have k6 : (h.kind == 6) = false := by rw [hk]; rfl
 have k9 : (h.kind == 9) = false := by rw [hk]; rfl
 have k10 : (h.kind == 10) = false := by rw [hk]; rfl
 have k11 : (h.kind == 11) = false := by rw [hk]; rfl
 have k8 : (h.kind == 8) = true := by rw [hk]; rfl
 clear hk hR
 have hb1 : (w.alloc (.cells #[.int .i64 h.kind, .bool h.b, .bool h.d.neg, .string h.d.digits, .int .i64 h.d.exp, .int .u64 (h.u : Int), .int .i64 h.w, .string h.s, .slice a l.length cap] 27)).heap[w.heap.size]? = some (.cells #[.int .i64 h.kind, .bool h.b, .bool h.d.neg, .string h.d.digits, .int .i64 h.d.exp, .int .u64 (h.u : Int), .int .i64 h.w, .string h.s, .slice a l.length cap] 27 (0, 0)) := World.alloc_heap_new w _
 have hkw : Same w (w.alloc (.cells #[.int .i64 h.kind, .bool h.b, .bool h.d.neg, .string h.d.digits, .int .i64 h.d.exp, .int .u64 (h.u : Int), .int .i64 h.w, .string h.s, .slice a l.length cap] 27)) := (Keep.refl _ _).alloc _
 obtain ⟨n0, n1, n2, n3, n4, n5, n6, n7, n8⟩ := cells9 hb1
 go_enter Tryz.func47, Tryz.ntmps47
 go_wp2
 go_loopw [5, 11] (fun v i wr => ∃ p : Nat, p ≤ l.length + 1 ∧ p % 2 = 0 ∧ i = .int .i64 p ∧ v = .bool ((keysOf (l.take p)).all (isKeyT 1)) ∧ Same w wr ∧ wr.heap[w.heap.size]? = some (.cells #[.int .i64 h.kind, .bool h.b, .bool h.d.neg, .string h.d.digits, .int .i64 h.d.exp, .int .u64 (h.u : Int), .int .i64 h.w, .string h.s, .slice a l.length cap] 27 (0, 0))) (fun _ i _ => l.length + 1 - (RowKit.intOf i).toNat)
 case atStart => exact ⟨0, Nat.zero_le _, rfl, rfl, by rw [List.take_zero]; rfl, hkw, hb1⟩
 case round =>
  clear hb1 hkw n0 n1 n2 n3 n4 n5 n6 n7 n8
  obtain ⟨p, hp, hpe, rfl, rfl, hsm, hbx⟩ := hrel
  obtain ⟨n0, n1, n2, n3, n4, n5, n6, n7, n8⟩ := cells9 hbx
  obtain ⟨q, hq⟩ : ∃ q, ((keysOf (l.take p)).all (isKeyT 1)) = q := ⟨_, rfl⟩
  rw [hq]
  by_cases hlt : p < l.length
  ·obtain ⟨b, off, lv', rfl, hS, hb, hr, hok, hra⟩ := hi p hlt
   obtain ⟨a', cap', rfl⟩ := hr.is_slice
   obtain ⟨c0, c1, c2, c3, c4, c5, c6, c7, c8⟩ := nodeAt_of (rangeAt_same hsm hra)
   have hst : ((keysOf (l.take (p + 2))).all (isKeyT 1)) = (q && isKeyT 1 l[p]) := by
    rw [← hq]
    obtain ⟨y, rfl⟩ : ∃ y, p = 2 * y := ⟨p / 2, by omega⟩
    rw [show 2 * y + 2 = 2 * (y + 1) by omega, keysOf_take y l hlt, List.all_append]; simp
   have hky := fun (W : World) (hr2 : RepS S W (l[p]).l (.slice a' (l[p]).l.length cap')) => refKey_any l[p].hd l[p].l S _ W hr2
   rw [Tree.eta] at hky
   obtain ⟨Z, hZ⟩ : ∃ Z, isKeyT 1 l[p] = Z := ⟨_, rfl⟩
   rw [hZ] at hst hky
   have HS := Lib.hid hst
   clear hst hZ hq
   cases q with
   | false =>
    go_wp2
    go_roundw
    case rel => exact ⟨p + 2, by omega, by omega, by go_num, by rw [HS.out]; first | rfl | simp, hsm, hbx⟩
    case measure => simp [RowKit.intOf]; omega
   | true =>
    go_wp2_with (first | (go_at_call 75; refine (hky _ (hr.same hsm)).mono ?_; rintro e w' ⟨rfl, hk'⟩))
    go_roundw
    case rel => exact ⟨p + 2, by omega, by omega, by go_num, by rw [HS.out]; first | rfl | simp, hsm.trans hk', hk'.same _ _ hbx trivial⟩
    case measure => simp [RowKit.intOf]; omega
  ·rw [List.take_of_length_le (by omega)] at hq
   have hb1 := hbx
   have hkw := hsm
   clear hbx hsm
   have HQ8 := Lib.hid hq
   clear hq
   go_wp2
   go_loopw [5, 12] (fun v i wr => ∃ k : Nat, k ≤ l.length ∧ i = .int .i64 k ∧ v = .bool (q && (l.take k).all fun x => x.flat.all (fitsT 1)) ∧ Same w wr ∧ wr.heap[w.heap.size]? = some (.cells #[.int .i64 h.kind, .bool h.b, .bool h.d.neg, .string h.d.digits, .int .i64 h.d.exp, .int .u64 (h.u : Int), .int .i64 h.w, .string h.s, .slice a l.length cap] 27 (0, 0))) (fun _ i _ => l.length - (RowKit.intOf i).toNat)
   case atStart => exact ⟨0, Nat.zero_le _, rfl, by rw [List.take_zero]; first | rfl | simp, hkw, hb1⟩
   case round =>
    clear hb1 hkw n0 n1 n2 n3 n4 n5 n6 n7 n8
    obtain ⟨k, hk, rfl, rfl, hsm, hbx⟩ := hrel
    obtain ⟨n0, n1, n2, n3, n4, n5, n6, n7, n8⟩ := cells9 hbx
    obtain ⟨q2, hq⟩ : ∃ q2, (q && (l.take k).all fun x => x.flat.all (fitsT 1)) = q2 := ⟨_, rfl⟩
    rw [hq]
    by_cases hlt : k < l.length
    ·obtain ⟨b, off, lv', rfl, hS, hb, hr, hok, hra⟩ := hi k hlt
     obtain ⟨a', cap', rfl⟩ := hr.is_slice
     obtain ⟨c0, c1, c2, c3, c4, c5, c6, c7, c8⟩ := nodeAt_of (rangeAt_same hsm hra)
     have hst : (q && (l.take (k + 1)).all fun x => x.flat.all (fitsT 1)) = (q2 && l[k].flat.all (fitsT 1)) := by
      rw [← hq, List.take_succ_eq_append_getElem hlt, List.all_append, ← Bool.and_assoc]; simp
     have ihc := fun (W : World) (hr2 : RepS S W (l[k]).l (.slice a' (l[k]).l.length cap')) => ih _ (List.getElem_mem hlt) S _ W hok hr2
     obtain ⟨Z, hZ⟩ : ∃ Z, l[k].flat.all (fitsT 1) = Z := ⟨_, rfl⟩
     rw [hZ] at hst ihc
     have HS := Lib.hid hst
     clear hst hZ hq
     cases q2 with
     | false =>
      go_wp2
      go_roundw
      case rel => exact ⟨k + 1, by omega, by go_num, by rw [HS.out]; first | rfl | simp, hsm, hbx⟩
      case measure => simp [RowKit.intOf]; omega
     | true =>
      go_wp2_with (first | (go_at_call 47; refine (ihc _ (hr.same hsm)).mono ?_; rintro e w' ⟨rfl, hk'⟩))
      go_roundw
      case rel => exact ⟨k + 1, by omega, by go_num, by rw [HS.out]; first | rfl | simp, hsm.trans hk', hk'.same _ _ hbx trivial⟩
      case measure => simp [RowKit.intOf]; omega
    ·obtain rfl : k = l.length := by omega
     rw [List.take_length] at hq
     have HQ := Lib.hid hq
     clear hq
     go_wp2
     go_ret
     exact ⟨by rw [HQ8.out, HQ.out]; rfl, hsm⟩
theorem refFits_any : ∀ t : Tree, FitsSaid t := by
 refine Tree.ind fun h l ih => ?_
 by_cases h4 : h.kind = 4
 ·exact refFits4 ih h4
 by_cases h3 : h.kind = 3
 ·exact refFits3 ih h3
 by_cases h6 : h.kind = 6
 ·exact refFits6 ih h6
 by_cases h9 : h.kind = 9
 ·exact refFits9 ih h9
 by_cases h10 : h.kind = 10
 ·exact refFits10 ih h10
 by_cases h11 : h.kind = 11
 ·exact refFits11 ih h11
 by_cases h8 : h.kind = 8
 ·exact refFits8 ih h8
 exact refFitsNo ih ⟨h4, h3, h6, h9, h10, h11, h8⟩
set_option maxRecDepth 100000 in
set_option maxHeartbeats 1000000 in
theorem refCheck_any (t : Tree) (S : Nat → Prop) (lv : Value) (w : World) (ho : t.hd.ok) (hc : t.depth ≤ 1099511627776) (hl : RepS S w t.l lv) : Calls Tryz.prog 32 #[nodeV t.hd lv, .int .i64 1] w fun e w' => e = .returned (.int .i64 (checkT t 1)) ∧ Same w w' := by
 obtain ⟨a, cap, rfl⟩ := hl.is_slice
 have h1 := fun W (hs : Same w W) => refTreeRight_any t S _ W ho hc (hl.same hs)
 have h2 := fun W (hs : Same w W) => refFits_any t S _ W ho (hl.same hs)
 have hres : checkT t 1 = if (decide (cnt64 t ≤ 300) && decide (t.depth ≤ 16) && t.flat.all ownT) = true then (if t.flat.all (fitsT 1) = true then 0 else 61) else 60 := by
  unfold checkT
  rw [check_from]
  by_cases c1 : cnt64 t ≤ 300
  ·by_cases c2 : t.depth ≤ 16
   ·rw [if_neg (by omega), decide_eq_true c1, decide_eq_true c2]; rfl
   ·rw [if_pos (by omega), decide_eq_false c2]; simp
  ·rw [if_pos (by omega), decide_eq_false c1]; simp
 obtain ⟨A, hA⟩ : ∃ A, (decide (cnt64 t ≤ 300) && decide (t.depth ≤ 16) && t.flat.all ownT) = A := ⟨_, rfl⟩
 obtain ⟨B, hB⟩ : ∃ B, t.flat.all (fitsT 1) = B := ⟨_, rfl⟩
 rw [hA] at h1 hres
 rw [hB] at h2 hres
 rw [hres]
 obtain ⟨h, l⟩ := t
 simp only [Tree.hd_node, Tree.l_node] at h1 h2 hl ho ⊢
 have hb0 : (w.alloc (.cells #[.int .i64 h.kind, .bool h.b, .bool h.d.neg, .string h.d.digits, .int .i64 h.d.exp, .int .u64 (h.u : Int), .int .i64 h.w, .string h.s, .slice a l.length cap] 27)).heap[w.heap.size]? = some (.cells #[.int .i64 h.kind, .bool h.b, .bool h.d.neg, .string h.d.digits, .int .i64 h.d.exp, .int .u64 (h.u : Int), .int .i64 h.w, .string h.s, .slice a l.length cap] 27 (0, 0)) := World.alloc_heap_new w _
 clear hA hB hres hl ho hc
 cases A with
 | false =>
  go_enter Tryz.func32, Tryz.ntmps32
  go_wp2_with (first | (go_at_call 46; refine (h1 _ smK).mono ?_; rintro e w1 ⟨rfl, hk1⟩))
  go_ret
  exact ⟨rfl, smK⟩
 | true =>
  cases B
  all_goals
   go_enter Tryz.func32, Tryz.ntmps32
   go_wp2_with (first | (go_at_call 46; refine (h1 _ smK).mono ?_; rintro e w1 ⟨rfl, hk1⟩; have hb1 := hk1.same _ _ hb0 trivial; obtain ⟨n0, n1, n2, n3, n4, n5, n6, n7, n8⟩ := cells9 hb1) | (go_at_call 47; refine (h2 _ smK).mono ?_; rintro e w2 ⟨rfl, hk2⟩))
   go_ret
   exact ⟨rfl, smK⟩
end Go.Tm
namespace Go.Tm
open Go.RowKit Go.Proofs
theorem RepS.row {S : Nat → Prop} {w : World} {l : List Tree} {lv : Value} (h : RepS S w l lv) : (lv = .slice none 0 0 ∧ l = []) ∨ ∃ ad c xs, lv = .slice (some ad) l.length c ∧ RepL S w l xs ∧ ∀ j u, xs[j]? = some u → w.cell? (ad.add j) = some u := by
 obtain ⟨xs, ⟨hn, h | ⟨b, off, cap, cur, f, e, hS, hb, hc, h1, h2⟩⟩, hl⟩ := h
 ·exact .inl ⟨h.1, List.length_eq_zero_iff.1 h.2.1⟩
 ·refine .inr ⟨⟨b, off, none⟩, cap, xs, e, hl, fun j u hj => ?_⟩
  rw [Lib.add_plain]
  rw [h2] at hj
  have hj9 : j < 9 * l.length := by
   have := (List.getElem?_eq_some_iff.1 hj).1
   simp only [List.length_take] at this; omega
  rw [List.getElem?_take_of_lt hj9, List.getElem?_drop] at hj
  unfold World.cell?
  simp only [hb]
  simpa using hj
set_option maxRecDepth 100000 in
set_option maxHeartbeats 2000000 in
theorem cloneN_any (l : List Tree) (S : Nat → Prop) (lv : Value) (w : World) (hl : RepS S w l lv) (hlen : l.length ≤ 1000) :
  Calls Tryz.prog 42 #[lv] w fun e w' => ∃ v', e = .returned v' ∧ OwnL S w' w.heap.size v' l ∧ Same w w' := by
 have hnil : ∀ (W : World) (a : Option Addr) (n c : Nat), (binOp .eql 25 (.slice a n c) (.slice none 0 0)).run Tryz.prog W = .ok (.bool a.isNone) W := fun W a n c => Lib.run_eql_slice_nil W _ _ a n c 0 0 Tryz.underlying25
 rcases hl.row with ⟨rfl, rfl⟩ | ⟨ad, c, xs, rfl, hrep, hcells⟩
 ·go_enter Tryz.func42, Tryz.ntmps42
  go_wp2
  go_ret
  exact ⟨_, rfl, OwnL.nil _ _ _, smK⟩
 ·have hown0 : OwnL S (w.alloc (.cells #[] 27)) w.heap.size (.slice (some ⟨w.heap.size, 0, none⟩) 0 0) [] := ⟨[], World.ownsRow_made w #[] 0 (Nat.le_refl _) (by decide) rfl, by rw [RepL]⟩
  have hs : Same w (w.alloc (.cells #[] 27)) := (Keep.refl _ _).alloc _
  have hn : RepL (fun b => S b ∧ (Value.slice (some ⟨w.heap.size, 0, none⟩) 0 0).ownBlock ≠ some b) (w.alloc (.cells #[] 27)) l xs := (hrep.mono fun b hb h => ⟨h, by simp [Value.ownBlock]; omega⟩).keep hs fun _ _ _ _ => trivial
  go_enter Tryz.func42, Tryz.ntmps42
  go_wp2_with (at_builtin; refine wpList_append_trees (v := .slice (some ⟨w.heap.size, 0, none⟩) 0 0) (ts := l) (news := xs) (ad := ad) (c := c) (m := l.length) rfl _ _ rfl rfl rfl hown0 rfl hn ?c3 (repL_cells hrep) ?c4 ?c5 ?_)
  case c3 => exact fun j u hu => hs.cell (hcells j u hu) fun _ _ => trivial
  case c4 => simp only [List.length_nil]; omega
  case c5 => simp
  intro v' w1 hown hg
  have hk1 : Same w w1 := hs.grown hg fun r hr o ho _ hlt => by simp [Value.ownBlock] at hr; omega
  go_wp2
  go_ret
  exact ⟨_, rfl, by simpa using hown, hk1⟩
end Go.Tm
namespace Go.Tm
open Go.RowKit Go.Proofs
theorem RepL.set {S : Nat → Prop} {w : World} {t : Tree} {cs : List Value} (ht : t.Rep S w cs) : ∀ {l : List Tree} {xs : List Value} (i : Nat), i < l.length → RepL S w l xs → RepL S w (l.set i t) (xs.take (9 * i) ++ cs ++ xs.drop (9 * (i + 1)))
 | x :: l, xs, 0, _, h => by
  rw [RepL] at h
  obtain ⟨c0, rest, rfl, h1, h2⟩ := h
  have h9 := Rep.length h1
  rw [List.set_cons_zero, RepL]
  refine ⟨cs, rest, ?_, ht, h2⟩
  rw [Nat.mul_zero, List.take_zero, List.nil_append, show 9 * (0 + 1) = c0.length by omega, List.drop_left]
 | x :: l, xs, i + 1, hi, h => by
  rw [RepL] at h
  obtain ⟨c0, rest, rfl, h1, h2⟩ := h
  have h9 := Rep.length h1
  have ih := RepL.set ht i (by simpa using hi) h2
  rw [List.set_cons_succ, RepL]
  refine ⟨c0, rest.take (9 * i) ++ cs ++ rest.drop (9 * (i + 1)), ?_, h1, ih⟩
  have e1 : (c0 ++ rest).take (9 * (i + 1)) = c0 ++ rest.take (9 * i) := by
   rw [show 9 * (i + 1) = c0.length + 9 * i by omega]; exact List.take_length_add_append _
  have e2 : (c0 ++ rest).drop (9 * (i + 1 + 1)) = rest.drop (9 * (i + 1)) := by
   rw [show 9 * (i + 1 + 1) = c0.length + 9 * (i + 1) by omega]; exact List.drop_length_add_append _
  rw [e1, e2, List.append_assoc, List.append_assoc, List.append_assoc]
def setMany (L : List Value) (o : Nat) : List Value → List Value
 | [] => L
 | c :: cs => setMany (L.set o c) (o + 1) cs
theorem setMany_eq : ∀ (cs : List Value) (o : Nat) (L : List Value), o + cs.length ≤ L.length → setMany L o cs = L.take o ++ cs ++ L.drop (o + cs.length)
 | [], o, L, h => by simp [setMany]
 | c :: cs, o, L, h => by
  simp only [List.length_cons] at h
  rw [setMany, setMany_eq cs (o + 1) (L.set o c) (by rw [List.length_set]; omega)]
  have h1 : (L.set o c).take (o + 1) = L.take o ++ [c] := by
   rw [List.set_eq_take_append_cons_drop, if_pos (by omega)]
   have : (L.take o).length = o := by rw [List.length_take]; omega
   conv => lhs; rw [show o + 1 = (L.take o).length + 1 by omega]
   rw [List.take_length_add_append]
   simp
  have h2 : (L.set o c).drop (o + 1 + cs.length) = L.drop (o + (c :: cs).length) := by
   rw [List.drop_set_of_lt (by omega), List.length_cons]
   congr 1; omega
  rw [h1, h2]
  simp
theorem setMany_len : ∀ (cs : List Value) (o : Nat) (L : List Value), (setMany L o cs).length = L.length
 | [], _, _ => rfl
 | c :: cs, o, L => by rw [setMany, setMany_len cs, List.length_set]
def World.set9 (w : World) (g o : Nat) (a0 a1 a2 a3 a4 a5 a6 a7 a8 : Value) : World :=
 (((((((((w.setCell ⟨g, o, none⟩ a0).setCell ⟨g, o + 1, none⟩ a1).setCell ⟨g, o + 2, none⟩ a2).setCell ⟨g, o + 3, none⟩ a3).setCell ⟨g, o + 4, none⟩ a4).setCell ⟨g, o + 5, none⟩ a5).setCell ⟨g, o + 6, none⟩ a6).setCell ⟨g, o + 7, none⟩ a7).setCell ⟨g, o + 8, none⟩ a8)
theorem set9_keep (w : World) (g o : Nat) (a0 a1 a2 a3 a4 a5 a6 a7 a8 : Value) : Keep (fun k _ => k ≠ g) w (World.set9 w g o a0 a1 a2 a3 a4 a5 a6 a7 a8) := by
 unfold World.set9
 repeat (first | with_reducible exact Keep.refl _ _ | with_reducible refine Keep.setCell ?_ _ ?_ | exact fun o _ h _ => h rfl)
theorem set9_heap {w : World} {g o : Nat} {cur : Array Value} {t : TypeId} {f : Nat × Nat} (h : w.heap[g]? = some (.cells cur t f)) (a0 a1 a2 a3 a4 a5 a6 a7 a8 : Value) :
  ∃ cur', (World.set9 w g o a0 a1 a2 a3 a4 a5 a6 a7 a8).heap[g]? = some (.cells cur' t f) ∧ cur'.toList = setMany cur.toList o [a0, a1, a2, a3, a4, a5, a6, a7, a8] :=
 ⟨_, setCell_heap (setCell_heap (setCell_heap (setCell_heap (setCell_heap (setCell_heap (setCell_heap (setCell_heap (setCell_heap h o a0) (o + 1) a1) (o + 2) a2) (o + 3) a3) (o + 4) a4) (o + 5) a5) (o + 6) a6) (o + 7) a7) (o + 8) a8, by simp [setMany]⟩
theorem OwnL.set {S : Nat → Prop} {w : World} {B g n cap : Nat} {l : List Tree} (h : OwnL S w B (.slice (some ⟨g, 0, .none⟩) n cap) l) (i : Nat) (hi : i < l.length) (q : Hd) (m : List Tree) (mv : Value) (hq : q.ok) (hm : RepS (fun b => S b ∧ b ≠ g) w m mv) :
  OwnL S (World.set9 w g (9 * i) (.int .i64 q.kind) (.bool q.b) (.bool q.d.neg) (.string q.d.digits) (.int .i64 q.d.exp) (.int .u64 q.u) (.int .i64 q.w) (.string q.s) mv) B (.slice (some ⟨g, 0, .none⟩) n cap) (l.set i (.node q m)) := by
 obtain ⟨xs, ⟨hx, hr⟩, hrep⟩ := h
 rcases hr with ⟨e, _⟩ | ⟨g', cap', cur, e, hb, hg, hnc, hcm, hcs, htk⟩
 ·cases e
 ·cases e
  obtain ⟨cur', hg', hcl⟩ := set9_heap (o := 9 * i) hg (.int .i64 q.kind) (.bool q.b) (.bool q.d.neg) (.string q.d.digits) (.int .i64 q.d.exp) (.int .u64 q.u) (.int .i64 q.w) (.string q.s) mv
  have hk := set9_keep w g (9 * i) (.int .i64 q.kind) (.bool q.b) (.bool q.d.neg) (.string q.d.digits) (.int .i64 q.d.exp) (.int .u64 q.u) (.int .i64 q.w) (.string q.s) mv
  have hset : RepL (fun b => S b ∧ (Value.slice (some ⟨g, 0, .none⟩) l.length cap).ownBlock ≠ some b) w (l.set i (.node q m)) (xs.take (9 * i) ++ nodeCs q mv ++ xs.drop (9 * (i + 1))) :=
   RepL.set (rep_node.2 ⟨hq, mv, rfl, hm.mono fun b _ hh => ⟨hh.1, by simp [Value.ownBlock]; exact fun e => hh.2 e.symm⟩⟩) i hi hrep
  have hlen : cur.toList.length = cap * 9 := by rw [Array.length_toList, hcs]
  have hmany := setMany_eq (nodeCs q mv) (9 * i) cur.toList (by simp only [List.length_cons, List.length_nil]; omega)
  refine ⟨xs.take (9 * i) ++ nodeCs q mv ++ xs.drop (9 * (i + 1)), ⟨?_, .inr ⟨g, cap, cur', ?_, hb, hg', ?_, hcm, ?_, ?_⟩⟩, ?_⟩
  ·rw [List.length_set]
   simp only [List.length_append, List.length_take, List.length_drop, List.length_cons, List.length_nil]
   omega
  ·rw [List.length_set]
  ·rw [List.length_set]; omega
  ·rw [← Array.length_toList, hcl, setMany_len, hlen]
  ·rw [List.length_set, hcl]
   rw [show ([.int .i64 q.kind, .bool q.b, .bool q.d.neg, .string q.d.digits, .int .i64 q.d.exp, .int .u64 q.u, .int .i64 q.w, .string q.s, mv] : List Value) = nodeCs q mv from rfl, hmany, ← htk]
   have hA : (cur.toList.take (9 * i)).length = 9 * i := by rw [List.length_take]; omega
   rw [List.take_take, Nat.min_eq_left (by omega), List.drop_take, List.append_assoc, List.append_assoc]
   obtain ⟨R, hR⟩ : ∃ R, l.length * 9 = (cur.toList.take (9 * i)).length + ((nodeCs q mv).length + R) := ⟨l.length * 9 - 9 * i - 9, by rw [hA]; simp only [List.length_cons, List.length_nil]; omega⟩
   have hR2 : l.length * 9 - 9 * (i + 1) = R := by rw [hR, hA]; simp only [List.length_cons, List.length_nil]; omega
   rw [hR2, hR, List.take_length_add_append, List.take_length_add_append]
   rw [show 9 * i + (nodeCs q mv).length = 9 * (i + 1) from rfl]
  ·exact hset.keep hk fun b hh c f => by
    intro e
    exact hh.2 (by rw [e]; rfl)
end Go.Tm
