/-
  Part 6 of what the claim leans on: contracts of the functions that the law reaches, and plain facts of what they compute (joined by wip/merge.py out of the texts named behind each mark). Conditions: the theorems' own.
-/
import Derived.Shelf.SlSortCmp.KitK
import Derived.RangeFuncBox
import Derived.KernelRfl
import Derived.MapKept
import Derived.Deep.QuietTactic
import Derived.BigQuiet
import Derived.Test.YthledjlechdbiaaGreatDoorSortsClaimE
set_option linter.unusedVariables false
namespace Go.Tm
open Go.RowKit Go.Proofs Go.Sort Go.Shelf Go.Lib
def insRen : Ren := ⟨fun | 20 => 164 | n => n, fun | 24 => 71 | 22 => 68 | 3 => 3 | 25 => 87 | 4 => 4 | 0 => 0 | n => n, fun n => n⟩
theorem insLays : SlLaysF0.n20 Tryz.prog insRen := {
 mixed := by kernel_rfl
 f20 := ⟨"slices.insertionSortCmpFunc[targum/proj.member]", of_decide_eq_true (by kernel_rfl), Tryz.func164.trans (congrArg some (by kernel_rfl))⟩
 t0 := Tryz.underlying0
 a0 := Tryz.isAgg0
 z0 := Tryz.sizeOf0
 v0 := Tryz.zeroValue0
 t3 := Tryz.underlying3
 a3 := Tryz.isAgg3
 z3 := Tryz.sizeOf3
 v3 := Tryz.zeroValue3
 t4 := Tryz.underlying4
 a4 := Tryz.isAgg4
 z4 := Tryz.sizeOf4
 v4 := Tryz.zeroValue4
 t22 := Tryz.underlying68
 a22 := Tryz.isAgg68
 z22 := Tryz.sizeOf68
 v22 := Tryz.zeroValue68
 t25 := Tryz.underlying87
 a25 := Tryz.isAgg87
 z25 := Tryz.sizeOf87
 v25 := Tryz.zeroValue87 }
structure Mem where
 s : ByteArray
 g : Hd
 a : Option Addr
 n : Nat
 c : Nat
 l : List Tree
 ka : Option Addr
 kc : Nat
instance : Inhabited Mem := ⟨⟨⟨#[]⟩, bareHd 0, none, 0, 0, [], none, 0⟩⟩
def Mem.cs (m : Mem) : List Value := memCs (textHd m.s) m.g (.slice m.ka 0 m.kc) (.slice m.a m.n m.c)
def Mem.pair (m : Mem) : ByteArray × Tree := (m.s, .node m.g m.l)
theorem Mem.cs_len (m : Mem) : m.cs.length = 18 := rfl
theorem Mem.cs_one (m : Mem) : ∀ v ∈ m.cs, v.oneCell' = true := by
 intro v hv
 simp [Mem.cs] at hv
 rcases hv with rfl | rfl | rfl | rfl | rfl | rfl | rfl | rfl | rfl | rfl | rfl | rfl | rfl | rfl | rfl | rfl | rfl | rfl <;> rfl
def memCf (x y : Mem) : Int := cmpB x.s y.s
set_option maxRecDepth 100000 in
set_option maxHeartbeats 2000000 in
theorem memCmp_any (x y : Mem) (W : World) : Calls Tryz.prog 68 #[.agg x.cs.toArray, .agg y.cs.toArray] W fun e w' => e = .returned (.int .i64 (memCf x y)) ∧ ∃ q os', w' = grow (W.drewN q) os' := by
 have hc := fun W' => cmp_any x.s y.s W'
 unfold memCf
 generalize cmpB x.s y.s = r at hc ⊢
 obtain ⟨s1, g1, a1, n1, c1, l1, ka1, kc1⟩ := x
 obtain ⟨s2, g2, a2, n2, c2, l2, ka2, kc2⟩ := y
 show Calls Tryz.prog 68 #[memV (textHd s1) g1 (.slice ka1 0 kc1) (.slice a1 n1 c1), memV (textHd s2) g2 (.slice ka2 0 kc2) (.slice a2 n2 c2)] W _
 go_enter Tryz.func68, Tryz.ntmps68
 go_wp2_with (go_at_call 114; refine (hc _).mono ?_; rintro e w1 ⟨rfl, h9⟩; replace h9 := h9.symm; subst h9)
 go_ret
 exact ⟨rfl, 0, _, by rw [alloc_eq_grow, alloc_eq_grow, grow_grow]; rfl⟩
theorem insSort_any (blk cap a b : Nat) (d : Array Mem) (w : World) (hH : HoldsK Mem.cs 18 w blk 0 d) (hblk : blk < w.heap.size) (hab : a ≤ b) (hb : b ≤ d.size) (hsz : d.size < 4611686018427387904) :
  Calls Tryz.prog 164 #[.slice (some ⟨blk, 0, none⟩) d.size cap, .int .i64 a, .int .i64 b, .func (.func 68) #[] #[]] w fun e w' =>
   e = .returned (.tuple #[]) ∧ ∃ n os, w' = sortWorldK Mem.cs 18 w blk 0 n (Sort.insertionSort (ltOf memCf) d a b) os := by
 refine AnyQ.insertionSortCmpFunc insLays 18 Tryz.isAgg71 Tryz.sizeOf71 Mem.cs (fun _ => rfl) Mem.cs_one memCf 68 #[] blk 0 cap a b d w (enters_of Tryz.func68 (by kernel_rfl) rfl) ?_ hH hblk hab hb hsz
 intro m os dk _ x y
 exact memCmp_any x y _
theorem swo_mem : SWO (ltOf memCf) where
 irrefl x := swo_ltB.irrefl x.s
 trans x y z := swo_ltB.trans x.s y.s z.s
 ntrans x y z := swo_ltB.ntrans x.s y.s z.s
set_option maxRecDepth 100000 in
set_option maxHeartbeats 2000000 in
theorem stable_any (blk cap : Nat) (d : Array Mem) (w : World) (hH : HoldsK Mem.cs 18 w blk 0 d) (hblk : blk < w.heap.size) (h20 : d.size ≤ 20) :
  Calls Tryz.prog 113 #[.slice (some ⟨blk, 0, none⟩) d.size cap, .int .i64 (d.size : Int), .func (.func 68) #[] #[]] w fun e w' =>
   e = .returned (.tuple #[]) ∧ ∃ d', PermIn 0 d.size d d' ∧ SortedIn (ltOf memCf) 0 d.size d' ∧ SWK Mem.cs 18 w blk 0 d' w' := by
 by_cases h : d.size = 20
 ·have h1 := fun cap => insSort_any blk cap 0 20 d w hH hblk (by omega) (by omega) (by omega)
  have hh := insertionSort_holds (lt := ltOf memCf) swo_mem d 0 20 (by omega) (by omega)
  obtain ⟨d1, hd1⟩ : ∃ d1, Sort.insertionSort (ltOf memCf) d 0 20 = d1 := ⟨_, rfl⟩
  rw [hd1] at h1 hh
  have hs1 : d1.size = d.size := hh.1.1
  have h2 : ∀ W, SWK Mem.cs 18 w blk 0 d1 W → Calls Tryz.prog 164 #[.slice (some ⟨blk, 0, none⟩) 20 cap, .int .i64 (20 : Nat), .int .i64 (20 : Nat), .func (.func 68) #[] #[]] W fun e w' =>
    e = .returned (.tuple #[]) ∧ SWK Mem.cs 18 w blk 0 d1 w' := by
   intro W hW
   have := insSort_any blk cap 20 20 d1 W (hW.holds hblk hH hs1) (hW.lt hblk) (by omega) (by omega) (by omega)
   rw [hs1, h] at this
   refine this.mono ?_
   rintro e w' ⟨he, n, os, hw⟩
   have e20 : Sort.insertionSort (ltOf memCf) d1 20 20 = d1 := by unfold Sort.insertionSort; rw [insOuter_stop _ _ _ _ _ (by omega)]
   rw [e20] at hw
   refine ⟨he, ?_⟩
   rw [hw]
   exact hW.on hblk n d1 os rfl
  rw [h] at h1 ⊢
  have HP := Lib.hid hh
  clear hh hH hd1
  go_enter Tryz.func113, Tryz.ntmps113
  go_wp2
  refine wp_loop_rounds 2 ?_
  rw [rounds_succ]
  go_wp2_with (go_at_call 164; refine (h1 _).mono ?_; rintro e w1 ⟨rfl, n1, os1, h9⟩; have hW1 : SWK Mem.cs 18 w blk 0 d1 w1 := ⟨n1, os1, h9⟩; clear h9 h1)
  rw [rounds_succ]
  go_wp2_with (go_at_call 164; refine (h2 _ hW1).mono ?_; rintro e w2 ⟨rfl, hW2⟩)
  refine wp_loop_rounds 1 ?_
  rw [rounds_succ]
  go_wp2
  go_end0
  exact ⟨rfl, d1, HP.out.1, HP.out.2, hW2⟩
 ·have h1 := insSort_any blk cap 0 d.size d w hH hblk (by omega) (by omega) (by omega)
  have hh := insertionSort_holds (lt := ltOf memCf) swo_mem d 0 d.size (by omega) (by omega)
  obtain ⟨d1, hd1⟩ : ∃ d1, Sort.insertionSort (ltOf memCf) d 0 d.size = d1 := ⟨_, rfl⟩
  rw [hd1] at h1 hh
  obtain ⟨n, hn⟩ : ∃ n, d.size = n := ⟨_, rfl⟩
  rw [hn] at h1 hh h20 h ⊢
  have HP := Lib.hid hh
  clear hh hH hd1
  go_enter Tryz.func113, Tryz.ntmps113
  go_wp2
  refine wp_loop_rounds 1 ?_
  rw [rounds_succ]
  go_wp2_with (go_at_call 164; refine h1.mono ?_; rintro e w1 ⟨rfl, n1, os1, h9⟩; have hW1 : SWK Mem.cs 18 w blk 0 d1 w1 := ⟨n1, os1, h9⟩; clear h9 h1)
  refine wp_loop_rounds 1 ?_
  rw [rounds_succ]
  go_wp2
  go_end0
  exact ⟨rfl, d1, HP.out.1, HP.out.2, hW1⟩
set_option maxRecDepth 100000 in
set_option maxHeartbeats 2000000 in
theorem sortStable_any (blk cap : Nat) (d : Array Mem) (w : World) (hH : HoldsK Mem.cs 18 w blk 0 d) (hblk : blk < w.heap.size) (h20 : d.size ≤ 20) :
  Calls Tryz.prog 67 #[.slice (some ⟨blk, 0, none⟩) d.size cap, .func (.func 68) #[] #[]] w fun e w' =>
   e = .returned (.tuple #[]) ∧ ∃ d', PermIn 0 d.size d d' ∧ SortedIn (ltOf memCf) 0 d.size d' ∧ SWK Mem.cs 18 w blk 0 d' w' := by
 have h1 := stable_any blk cap d w hH hblk h20
 clear hH
 obtain ⟨n, hn⟩ : ∃ n, d.size = n := ⟨_, rfl⟩
 rw [hn] at h1 ⊢
 go_enter Tryz.func67, Tryz.ntmps67
 go_wp2_with (go_at_call 113; refine h1.mono ?_; rintro e w1 ⟨rfl, hP⟩)
 go_end0
 exact ⟨rfl, hP⟩
end Go.Tm
namespace Go.Tm
open Go.RowKit Go.Proofs Go.Sort Go.Shelf Go.Lib
theorem mem_info : (Tryz.prog.info? 71).map (fun i => (i.zero, i.size, i.bytes)) = some (some (memV (bareHd 0) (bareHd 0) (.slice none 0 0) (.slice none 0 0)), 18, 208) := by kernel_rfl
def flatM (l : List Mem) : List Value := l.flatMap Mem.cs
theorem flatM_cons (m : Mem) (l : List Mem) : flatM (m :: l) = m.cs ++ flatM l := by simp [flatM]
theorem flatM_append (l k : List Mem) : flatM (l ++ k) = flatM l ++ flatM k := by simp [flatM]
theorem flatM_len : ∀ l : List Mem, (flatM l).length = l.length * 18
 | [] => rfl
 | m :: l => by rw [flatM_cons, List.length_append, flatM_len l, Mem.cs_len, List.length_cons]; omega
theorem flatM_one : ∀ l : List Mem, ∀ v ∈ flatM l, v.oneCell' = true := by
 intro l v hv
 obtain ⟨m, _, h⟩ := List.mem_flatMap.1 hv
 exact Mem.cs_one m v h
theorem flatM_get : ∀ (l : List Mem) (i j : Nat) (hi : i < l.length), j < 18 → (flatM l)[i * 18 + j]? = (l[i].cs)[j]?
 | m :: l, 0, j, _, hj => by
  rw [flatM_cons, Nat.zero_mul, Nat.zero_add, List.getElem?_append_left (by rw [Mem.cs_len]; exact hj)]; rfl
 | m :: l, i + 1, j, hi, hj => by
  have := flatM_get l i j (by simpa using hi) hj
  rw [flatM_cons, List.getElem?_append_right (by rw [Mem.cs_len]; omega), Mem.cs_len, show (i + 1) * 18 + j - 18 = i * 18 + j by omega, this]; rfl
theorem holdsK_of_own {w : World} {B g cap : Nat} {l : List Mem} (h : w.ownsRow B 71 18 (.slice (some ⟨g, 0, none⟩) l.length cap) l.length (flatM l)) : HoldsK Mem.cs 18 w g 0 l.toArray := by
 rcases h.2 with ⟨h0, _⟩ | ⟨g', cap', cur, e, hb, hg, h1, _, h3, h4⟩
 ·cases h0
 cases e
 intro j hj
 have hj' : j < l.length * 18 := by simpa using hj
 refine ⟨?_, Lib.frozen_of_heap hg _⟩
 have hi : j / 18 < l.length := by omega
 have hm : j % 18 < 18 := Nat.mod_lt _ (by decide)
 have hfl := flatM_get l (j / 18) (j % 18) hi hm
 rw [show j / 18 * 18 + j % 18 = j by omega, ← h4, List.getElem?_take_of_lt hj'] at hfl
 show w.cell? ⟨g, 0 + j, none⟩ = some (flatK Mem.cs 18 l.toArray)[j]!
 rw [get_flatK _ _ _ _ (by simpa using hj'), Nat.zero_add]
 unfold World.cell?
 simp only [hg]
 have e1 : l.toArray[j / 18]! = l[j / 18] := by rw [getElem!_pos _ _ (by simpa using hi)]; simp
 rw [e1]
 have hl : j % 18 < (l[j / 18].cs).length := by rw [Mem.cs_len]; exact hm
 have e2 : (l[j / 18].cs)[j % 18]! = (l[j / 18].cs)[j % 18] := getElem!_pos (l[j / 18].cs) (j % 18) hl
 rw [e2, ← List.getElem?_eq_getElem hl, ← hfl]
 simp
theorem keep_swk {w w' : World} {blk : Nat} {d : Array Mem} (h : SWK Mem.cs 18 w blk 0 d w') : Keep (fun b _ => b ≠ blk) w w' := by
 obtain ⟨n, os, rfl⟩ := h
 refine ⟨rfl, rfl, rfl, ?_, ?_⟩
 ·show w.heap.size ≤ ((w.heap.modify blk _) ++ os).size
  simp
 ·intro b o hb hne
  show ((w.heap.modify blk _) ++ os)[b]? = some o
  rw [Array.getElem?_append_left (by simpa using lt_of_some hb), Array.getElem?_modify, if_neg (Ne.symm hne)]
  exact hb
set_option maxRecDepth 100000 in
set_option maxHeartbeats 2000000 in
theorem clone_any (l : List Mem) (lv : Value) (B : Nat) (w : World) (h : w.ownsRow B 71 18 lv l.length (flatM l)) (hlen : l.length ≤ 1000) :
  Calls Tryz.prog 66 #[lv] w fun e w' => Same w w' ∧
   ((l = [] ∧ e = .returned (.slice none 0 0)) ∨ ∃ r q, e = .returned (.slice (some ⟨r, 0, none⟩) l.length q) ∧ w.heap.size ≤ r ∧ w'.ownsRow w.heap.size 71 18 (.slice (some ⟨r, 0, none⟩) l.length q) l.length (flatM l)) := by
 obtain ⟨i0, hi0, hz0, hz1, hz2⟩ := info_parts mem_info
 have hnil : ∀ (W : World) (a : Option Addr) (n c : Nat), (binOp .eql 68 (.slice a n c) (.slice none 0 0)).run Tryz.prog W = .ok (.bool a.isNone) W := fun W a n c => Lib.run_eql_slice_nil W _ _ a n c 0 0 Tryz.underlying68
 rcases h.2 with ⟨rfl, h0⟩ | ⟨g, cap, cur, rfl, hb, hg, h1, h2, h3, h4⟩
 ·obtain rfl : l = [] := List.length_eq_zero_iff.1 h0
  go_enter Tryz.func66, Tryz.ntmps66
  go_wp2
  go_ret
  exact ⟨smK, .inl ⟨by first | trivial | rfl, rfl⟩⟩
 ·have hcells := h.cells (g := g) rfl
  have hfl := flatM_len l
  have hfo := flatM_one l
  obtain ⟨n, hn⟩ : ∃ n, l.length = n := ⟨_, rfl⟩
  rw [hn] at hfl hlen ⊢
  obtain ⟨F, hF⟩ : ∃ F, flatM l = F := ⟨_, rfl⟩
  rw [hF] at hfl hcells hfo ⊢
  clear h h4 hF
  go_enter Tryz.func66, Tryz.ntmps66
  go_wp2_with (at_builtin; refine wpList_append_own _ rfl _ _ 68 rfl w.heap.size 71 i0 (memV (bareHd 0) (bareHd 0) (.slice none 0 0) (.slice none 0 0)) 18 208 Tryz.underlying68 hi0 hz0 hz1 hz2 rfl (by decide) _ 0 [] rfl (World.ownsRow_made w #[] 0 (Nat.le_refl _) (by decide) rfl) ⟨g, 0, none⟩ n cap F rfl hfl ?c1 hfo ?c3 ?c4 ?c5 ?_)
  case c1 => exact fun j u hu => alloc_cell (hcells j u hu) _
  case c3 => unfold maxLen; omega
  case c4 => omega
  case c5 => simp
  intro v' w1 hown hgrow _
  have hk1 : Same w w1 := ((Keep.refl _ w).alloc _).grown hgrow (fun r hr o' ho _ hlt => by simp [Value.ownBlock] at hr; omega)
  rcases hown.2 with ⟨rfl, h0⟩ | ⟨r, q, cur', rfl, hr, hrest⟩
  ·go_wp2
   go_ret
   refine ⟨hk1, .inl ⟨List.length_eq_zero_iff.1 (hn.trans h0), rfl⟩⟩
  ·go_wp2
   go_ret
   exact ⟨hk1, .inr ⟨r, q, rfl, hr, hown⟩⟩
end Go.Tm
namespace Go.Tm
open Go.RowKit Go.Proofs Go.Sort Go.Shelf Go.Lib
set_option maxRecDepth 100000 in
set_option maxHeartbeats 2000000 in
theorem insSort_nil (w : World) : Calls Tryz.prog 164 #[.slice none 0 0, .int .i64 0, .int .i64 0, .func (.func 68) #[] #[]] w fun e w' => e = .returned (.tuple #[]) ∧ Same w w' := by
 go_enter Tryz.func164, Tryz.ntmps164
 go_wp2
 refine wp_loop_rounds 1 ?_
 rw [rounds_succ]
 go_wp2
 go_end0
 exact ⟨rfl, smK⟩
set_option maxRecDepth 100000 in
set_option maxHeartbeats 2000000 in
theorem stable_nil (w : World) : Calls Tryz.prog 113 #[.slice none 0 0, .int .i64 0, .func (.func 68) #[] #[]] w fun e w' => e = .returned (.tuple #[]) ∧ Same w w' := by
 go_enter Tryz.func113, Tryz.ntmps113
 go_wp2
 refine wp_loop_rounds 1 ?_
 rw [rounds_succ]
 go_wp2_with (go_at_call 164; refine (insSort_nil _).mono ?_; rintro e w1 ⟨rfl, hk1⟩)
 refine wp_loop_rounds 1 ?_
 rw [rounds_succ]
 go_wp2
 go_end0
 exact ⟨rfl, smK⟩
set_option maxRecDepth 100000 in
set_option maxHeartbeats 2000000 in
theorem sortStable_nil (w : World) : Calls Tryz.prog 67 #[.slice none 0 0, .func (.func 68) #[] #[]] w fun e w' => e = .returned (.tuple #[]) ∧ Same w w' := by
 go_enter Tryz.func67, Tryz.ntmps67
 go_wp2_with (go_at_call 113; refine (stable_nil _).mono ?_; rintro e w1 ⟨rfl, hk1⟩)
 go_end0
 exact ⟨rfl, smK⟩
def Mem.trees (m : Mem) : List Tree := [.node (textHd m.s) [], .node m.g m.l]
def Mem.good (S : Nat → Prop) (w : World) (m : Mem) : Prop := m.s.size ≤ 1099511627776 ∧ m.g.ok ∧ RepS S w m.l (.slice m.a m.n m.c) ∧ RepS S w [] (.slice m.ka 0 m.kc)
theorem Mem.good.same {S : Nat → Prop} {w w' : World} {m : Mem} (h : m.good S w) (hk : Same w w') : m.good S w' := ⟨h.1, h.2.1, h.2.2.1.same hk, h.2.2.2.same hk⟩
theorem range_of_holds {w : World} {g : Nat} {d : Array Mem} (h : HoldsK Mem.cs 18 w g 0 d) (i : Nat) (hi : i < d.size) : w.rangeAt g (i * 18) d[i].cs := by
 intro j v hj
 have hj18 : j < 18 := by
  have := (List.getElem?_eq_some_iff.1 hj).1
  rwa [Mem.cs_len] at this
 have hlt : i * 18 + j < d.size * 18 := by omega
 have := (h (i * 18 + j) (by simpa using hlt)).1
 rw [Nat.zero_add] at this
 rw [this]
 show some (flatK Mem.cs 18 d)[i * 18 + j]! = some v
 rw [get_flatK _ _ _ _ hlt, show (i * 18 + j) / 18 = i by omega, show (i * 18 + j) % 18 = j by omega, getElem!_pos d i hi]
 have hl : j < (d[i].cs).length := by rw [Mem.cs_len]; exact hj18
 have e2 : (d[i].cs)[j]! = (d[i].cs)[j] := getElem!_pos (d[i].cs) j hl
 rw [e2, ← List.getElem?_eq_getElem hl, hj]
theorem text_ok {s : ByteArray} (h : s.size ≤ 1099511627776) : (textHd s).ok := by
 refine ⟨⟨?_, ?_⟩, ⟨?_, ?_⟩, ⟨?_, ?_⟩, ?_, ?_, h⟩ <;> first | decide | (simp [textHd, bareHd, noDc]; done) | exact Nat.zero_le _
theorem sortM_mem (l : List Mem) (dl : List Mem) (h : dl.map Mem.pair = (l.map Mem.pair).mergeSort leB) : sortM (l.map Mem.pair) = dl.flatMap Mem.trees := by
 unfold sortM
 rw [← h, List.flatMap_map]
 rfl
theorem take_flat (l : List Mem) (i : Nat) (hi : i < l.length) : (l.take i).flatMap Mem.trees ++ [.node (textHd l[i].s) [], .node l[i].g l[i].l] = (l.take (i + 1)).flatMap Mem.trees := by
 rw [List.take_succ_eq_append_getElem hi, List.flatMap_append]
 simp [Mem.trees]
theorem flat_len : ∀ l : List Mem, (l.flatMap Mem.trees).length = 2 * l.length
 | [] => rfl
 | m :: l => by rw [List.flatMap_cons, List.length_append, flat_len l, List.length_cons]; simp [Mem.trees]; omega
set_option maxRecDepth 100000 in
set_option maxHeartbeats 8000000 in
theorem sorted_any (S : Nat → Prop) (l : List Mem) (lv : Value) (B : Nat) (w : World) (h : w.ownsRow B 71 18 lv l.length (flatM l)) (hlen : l.length ≤ 20)
  (hg : ∀ m ∈ l, m.good S w) (hd : (l.map Mem.pair).Pairwise fun x y => x.1 ≠ y.1) (hS : ∀ b, w.heap.size ≤ b → S b) :
  Calls Tryz.prog 43 #[lv] w fun e w' => ∃ v', e = .returned v' ∧ RepS S w' (sortM (l.map Mem.pair)) v' ∧ Same w w' := by
 have hcl := clone_any l lv B w h (by omega)
 obtain ⟨la, ln, lc, rfl⟩ : ∃ a n c, lv = .slice a n c := by
  rcases h.2 with ⟨rfl, _⟩ | ⟨g, cap, cur, rfl, _⟩
  ·exact ⟨_, _, _, rfl⟩
  ·exact ⟨_, _, _, rfl⟩
 clear h
 go_enter Tryz.func43, Tryz.ntmps43
 go_wp2_with fail
 refine hcl.mono ?_
 rintro e w1 ⟨hk1, h9⟩
 rcases h9 with ⟨rfl, rfl⟩ | ⟨r, q, rfl, hr, ho⟩
 ·go_wp2_with (go_at_call 67; refine (sortStable_nil _).mono ?_; rintro e w2 ⟨rfl, hk2⟩)
  refine wp_loop_rounds 1 ?_
  rw [rounds_succ]
  go_wp2
  go_ret
  exact ⟨_, rfl, by simpa [sortM] using RepS.nil S _, smK⟩
 ·go_wp2_with fail
  have hH := holdsK_of_own ho
  have hrl : r < w1.heap.size := (ho.lt r rfl).2
  have hss := sortStable_any r q l.toArray w1 hH hrl (by simpa using hlen)
  rw [List.size_toArray] at hss
  refine hss.mono ?_
  rintro e w2 ⟨rfl, d, hp, hs, hW⟩
  have hkey := sort_keys Mem.pair l.toArray d hp hs (by simpa using hd)
  have hsz : d.size = l.length := by simpa using hp.1
  have hHd := hW.holds hrl hH (by simpa using hsz)
  have hk2 := keep_swk hW
  have hkS : Same w w2 := ⟨hk2.os.trans hk1.os, hk2.tape.trans hk1.tape, hk2.output.trans hk1.output, Nat.le_trans hk1.size hk2.size, fun b o hb _ => hk2.same b o (hk1.same b o hb trivial) (by have := lt_of_some hb; omega)⟩
  have hmem : ∀ m ∈ d.toList, m.good S w2 := by
   intro m hm
   have hpm : m ∈ l := by
    obtain ⟨_, _, hperm⟩ := hp
    have e1 : d.extract 0 l.length = d := by rw [← hsz]; exact Array.extract_size
    have e2 : l.toArray.extract 0 l.length = l.toArray := by have := @Array.extract_size _ l.toArray; rwa [List.size_toArray] at this
    rw [e1, e2] at hperm
    simpa using hperm.mem_iff.1 hm
   exact (hg m hpm).same hkS
  have hres := sortM_mem l d.toList (by simpa using hkey)
  have HRES := Lib.hid hres
  obtain ⟨dl, hdl⟩ : ∃ dl, d.toList = dl := ⟨_, rfl⟩
  have hll : dl.length = l.length := by rw [← hdl, ← hsz]; simp
  have hra : ∀ i (hi : i < dl.length), w2.rangeAt r (i * 18) dl[i].cs := by
   intro i hi
   have := range_of_holds hHd i (by omega)
   subst hdl
   simpa using this
  rw [hdl] at hmem HRES
  rw [← hll] at hlen
  rw [← hll]
  have hz2 := hkS.size
  have hSn : ∀ b, w2.heap.size ≤ b → S b := fun b hb => hS b (by omega)
  clear hres hkey hss hp hs hW hHd hsz hdl hH ho hg hd hcl hll hS
  obtain ⟨n, hn⟩ : ∃ n, dl.length = n := ⟨_, rfl⟩
  go_wp2
  go_loopw [3, 12] (fun v iv wr => ∃ i : Nat, i ≤ dl.length ∧ iv = .int .i64 (i : Int) ∧ OwnL S wr w2.heap.size v ((dl.take i).flatMap Mem.trees) ∧ Same w2 wr)
   (fun _ iv _ => dl.length - (RowKit.intOf iv).toNat)
  case atStart => exact ⟨0, by omega, rfl, by simpa using OwnL.nil S w2 w2.heap.size, Keep.refl _ _⟩
  case round =>
   obtain ⟨i, hi, rfl, hown, hsm⟩ := hrel
   have hfl := flat_len (dl.take i)
   rw [List.length_take] at hfl
   by_cases hlt : i < dl.length
   ·have hga := hmem dl[i] (List.getElem_mem hlt)
    have hrr := rangeAt_same hsm (hra i hlt)
    have htf := take_flat dl i hlt
    obtain ⟨m, hm⟩ : ∃ m, dl[i] = m := ⟨_, rfl⟩
    rw [hm] at hga hrr htf
    obtain ⟨tl, htl⟩ : ∃ tl, (dl.take i).flatMap Mem.trees = tl := ⟨_, rfl⟩
    rw [htl] at htf hown hfl
    have HTF := Lib.hid htf
    obtain ⟨a0, cp0, hv⟩ := hown.is_slice
    subst hv
    clear htf hm htl
    obtain ⟨s, g, ma, mn, mc, ml, ka, kc⟩ := m
    obtain ⟨hg1, hg2, hg3, hg4⟩ := hga
    simp only at hg1 hg2 hg3 hg4
    have hcs : (Mem.cs ⟨s, g, ma, mn, mc, ml, ka, kc⟩) = nodeCs (textHd s) (.slice ka 0 kc) ++ nodeCs g (.slice ma mn mc) := rfl
    have hln : (Mem.cs ⟨s, g, ma, mn, mc, ml, ka, kc⟩).length = 18 := rfl
    have hone := Mem.cs_one ⟨s, g, ma, mn, mc, ml, ka, kc⟩
    obtain ⟨MC, hMC⟩ : ∃ MC, Mem.cs ⟨s, g, ma, mn, mc, ml, ka, kc⟩ = MC := ⟨_, rfl⟩
    rw [hMC] at hrr hcs hln hone
    have hall : MC.toArray.all (·.oneCell') = true := by rw [List.all_toArray]; exact List.all_eq_true.2 hone
    have hi18 : (Tryz.prog.info? 71).map (·.size) = some MC.toArray.size := by rw [List.size_toArray, hln]; kernel_rfl
    have hi18b : (Tryz.prog.info? 71).map (·.size) = some MC.length := by rw [hln]; kernel_rfl
    have h18s : MC.toArray.size = 18 := by rw [List.size_toArray, hln]
    have HCS := Lib.hid hcs
    have htl2 : tl.length ≤ 40 := by omega
    clear hfl hMC hcs
    have hk3 : Same wr (wr.alloc (.cells MC.toArray 71)) := (Keep.refl _ _).alloc _
    have hz3 : (wr.alloc (.cells MC.toArray 71)).heap.size = wr.heap.size + 1 := by simp
    have hr3 : (wr.alloc (.cells MC.toArray 71)).rangeAt wr.heap.size 0 MC := fun j v hj => by
     rw [Nat.zero_add, cell_of_row _ _ j MC.toArray 71 (0, 0) (World.alloc_heap_new wr _)]
     simpa using hj
    obtain ⟨W3, hW3⟩ : ∃ W3, wr.alloc (.cells MC.toArray 71) = W3 := ⟨_, rfl⟩
    rw [hW3] at hk3 hz3 hr3
    have hr30 : W3.rangeAt wr.heap.size 0 (nodeCs (textHd s) (.slice ka 0 kc)) := fun j v hj => hr3 j v (by rw [HCS.out, List.getElem?_append_left (List.getElem?_eq_some_iff.1 hj).1]; exact hj)
    have hr39 : W3.rangeAt wr.heap.size 9 (nodeCs g (.slice ma mn mc)) := fun j v hj => by
     have := hr3 (9 + j) v (by rw [HCS.out, List.getElem?_append_right (by simp)]; simpa using hj)
     rwa [Nat.zero_add] at this
    have hown3 := hown.same hk3
    clear hr3
    go_wp2_with (first
     | (refine wpList_load_mid rfl 71 _ rfl r (i * 18) rfl MC _ hrr Tryz.underlying71 rfl hi18b ?_)
     | (refine wpList_store_row rfl 71 _ _ rfl wr.heap.size MC.toArray rfl rfl 71 _ (heap_alloc_last _ _) hi18 (by rw [h18s]; rfl) hall ?_; rw [World.setRow_alloc_new, hW3]; clear hW3 hi18 hi18b hall h18s hone hln)
     | (refine wpList_load_mid rfl 27 _ rfl wr.heap.size 0 rfl (nodeCs (textHd s) (.slice ka 0 kc)) _ hr30 Tryz.underlying27 rfl (by kernel_rfl) ?_)
     | (refine wpList_load_mid rfl 27 _ rfl wr.heap.size 9 rfl (nodeCs g (.slice ma mn mc)) _ hr39 Tryz.underlying27 rfl (by kernel_rfl) ?_)
     | (at_builtin; refine wpList_append_trees (v := .slice a0 tl.length cp0) (ts := [.node (textHd s) [], .node g ml]) (news := nodeCs (textHd s) (.slice ka 0 kc) ++ nodeCs g (.slice ma mn mc)) rfl _ _ rfl rfl rfl (hown3.same ((Keep.refl _ _).alloc _)) rfl ?d2 ?d3 ?d6 ?d4 ?d5 ?_))
    case d2 =>
     rw [RepL]
     refine ⟨nodeCs (textHd s) (.slice ka 0 kc), nodeCs g (.slice ma mn mc), rfl, ?_, repL_one ?_⟩
     ·rw [rep_node]; exact ⟨text_ok hg1, _, rfl, (((hg4.mono (fun b hb h => (⟨h, hown.apart hb⟩ : _ ∧ _))).same hsm).same hk3).same ((Keep.refl _ _).alloc _)⟩
     ·rw [rep_node]; exact ⟨hg2, _, rfl, (((hg3.mono (fun b hb h => (⟨h, hown.apart hb⟩ : _ ∧ _))).same hsm).same hk3).same ((Keep.refl _ _).alloc _)⟩
    case d6 => exact ⟨rfl, rfl, rfl, rfl, rfl, rfl, rfl, rfl, rfl, rfl, rfl, rfl, rfl, rfl, rfl, rfl, rfl, rfl⟩
    case d4 => first | omega | (simp only [List.length_cons, List.length_nil]; omega)
    case d5 => have := hsm.size; simp; omega
    intro v' w3 hown' hg
    have hsm1 : Same w2 w3 := same_grown ((hsm.trans hk3).alloc _) (Nat.le_refl _) (hown3.same ((Keep.refl _ _).alloc _)) hg
    obtain ⟨a1, cp1, hv1⟩ := hown'.is_slice
    subst hv1
    rw [HTF.out] at hown' ⊢
    obtain ⟨tl3, htl3⟩ : ∃ tl, (dl.take (i + 1)).flatMap Mem.trees = tl := ⟨_, rfl⟩
    rw [htl3] at hown' ⊢
    have HT3 := Lib.hid htl3
    clear htl3 hr30 hr39 hrr
    go_wp2
    refine ⟨?_, by simp [RowKit.intOf]; omega⟩
    exact ⟨i + 1, by omega, by go_num, by rw [HT3.out]; exact hown', hsm1⟩
   ·obtain rfl : i = dl.length := by omega
    rw [List.take_length] at hown hfl
    obtain ⟨tl, htl⟩ : ∃ tl, dl.flatMap Mem.trees = tl := ⟨_, rfl⟩
    rw [htl] at HRES hown hfl
    obtain ⟨a0, cp0, hv⟩ := hown.is_slice
    subst hv
    clear htl
    go_wp2
    go_ret
    exact ⟨_, rfl, by rw [HRES.out]; exact hown.rep hSn (by omega), hkS.trans hsm⟩
end Go.Tm
namespace Go.Tm
open Go.RowKit Go.Proofs
def GivesM (S : Nat → Prop) (l : List Tree) (i : Nat) (v : Array Value) (A : World) : Prop := ∃ (h0 : 2 * i < l.length) (h1 : 2 * i + 1 < l.length) (lv mv : Value), v = #[memV (l[2 * i]).hd (l[2 * i + 1]).hd lv mv] ∧ RepS S A (l[2 * i]).l lv ∧ RepS S A (l[2 * i + 1]).l mv ∧ (l[2 * i]).hd.ok ∧ (l[2 * i + 1]).hd.ok
set_option maxRecDepth 100000 in
set_option maxHeartbeats 4000000 in
theorem members1_iter (S : Nat → Prop) (l : List Tree) (lv : Value) (bx : Nat) (Sb Si : Nat → Obj → Prop) (W : World) (hr : RepS S W l lv) (hbx : Boxed W bx 25 lv) (hSb1 : ∀ c f, Sb bx (.cells c 25 f)) (hSb2 : ∀ b c f, Sb b (.cells c 27 f)) :
  IterAt Tryz.prog 70 #[.pointer (some ⟨bx, 0, none⟩)] (l.length / 2) (GivesM S l) Sb Si (fun _ => True) (fun _ _ => True) W := by
 rintro lp J Jx hlp hJ hJx hY h0
 obtain ⟨r, hl⟩ := hlp 0 W h0
 have hne := cell_ne_loop hbx.cell hl
 obtain ⟨hlen, a, cap, rfl, hcap, hi⟩ := hr.shape
 refine callsIn_of_wp Tryz.func70 rfl trivial ?_ rfl
 simp only [Tryz.ntmps70, List.size_toArray, List.length_cons, List.length_nil, Nat.reduceAdd, Nat.reduceSub, Array.replicate_succ, Array.replicate_zero, List.push_toArray, List.append_toArray, List.nil_append, List.cons_append]
 gi_wp2
 gi_loopw [3] (fun i wr => ∃ k : Nat, k ≤ l.length / 2 ∧ i = .int .i64 ((2 * k : Nat) : Int) ∧ J k wr ∧ Boxed wr bx 25 (.slice a l.length cap) ∧ Keep (fun b o => ∃ c f, o = .cells c 27 f) W wr) (fun i _ => l.length - (RowKit.intOf i).toNat)
 case atStart => exact ⟨0, Nat.zero_le _, rfl, h0, hbx, Keep.refl _ _⟩
 case round =>
  obtain ⟨k, hk, rfl, hj, hc0, hkk⟩ := hrel
  have hc := hc0.cell
  obtain ⟨r1, hl1⟩ := hlp k wr hj
  by_cases hlt : k < l.length / 2
  ·have i0 : 2 * k < l.length := by omega
   have i1 : 2 * k + 1 < l.length := by omega
   obtain ⟨b, off, lv0, rfl, hS0, hb0, hr0, hok0, hra0⟩ := hi (2 * k) i0
   obtain ⟨b', off', lv1, e1, hS1, hb1, hr1, hok1, hra1⟩ := hi (2 * k + 1) i1
   cases e1
   obtain ⟨cur, fz, hbk⟩ := hb0
   have hK : ∀ o, W.heap[b]? = some o → ∃ c f, o = .cells c 27 f := fun o ho => by rw [hbk] at ho; cases ho; exact ⟨_, _, rfl⟩
   have ra0 := rangeAt_keep hkk hK hra0
   have ra1 := rangeAt_keep hkk hK hra1
   have hr0' := hr0.keep hkk fun _ _ c f => ⟨c, f, rfl⟩
   have hr1' := hr1.keep hkk fun _ _ c f => ⟨c, f, rfl⟩
   have hbk2 := hkk.same _ _ hbk ⟨_, _, rfl⟩
   have hdr : Same wr wr.drew := (Keep.refl _ _).drew
   obtain ⟨fn, tmps, assign, body, hy, hR⟩ := hY k _ wr.drew hlt (hJ _ _ _ hj (Keep.of_same hdr)) ⟨i0, i1, lv0, lv1, rfl, hr0'.same hdr, hr1'.same hdr, hok0, hok1⟩
   have hblp : b ≠ lp := by rintro rfl; rw [hbk2] at hl1; cases hl1
   generalize (l[2 * k]).hd = hd0 at ra0 hy
   generalize (l[2 * k + 1]).hd = hd1 at ra1 hy
   obtain ⟨q, hq⟩ : ∃ q, 2 * k = q := ⟨_, rfl⟩
   rw [hq] at ra0 ra1 i0 i1 ⊢
   obtain ⟨p, hp⟩ : ∃ p, q + 1 = p := ⟨_, rfl⟩
   rw [hp] at ra1 i1
   have hp0 : (p : Int) < (l.length : Int) := by omega
   have hq0 : (q : Int) < (l.length : Int) := by omega
   have e1 : (q : Int) + 1 = (p : Int) := by omega
   obtain ⟨c0, c1, c2, c3, c4, c5, c6, c7, c8⟩ := nodeAt_of ra0
   obtain ⟨d0, d1, d2, d3, d4, d5, d6, d7, d8⟩ := nodeAt_of ra1
   gi_wp2
   have hwp : IntKind.i64.wrap (p : Int) = (p : Int) := by rw [IntKind.wrap_i64]; omega
   have hwq : IntKind.i64.wrap (q : Int) = (q : Int) := by rw [IntKind.wrap_i64]; omega
   refine wpIn_region_shut (fun X => Boxed X bx 25 (.slice (some ⟨b, off, none⟩) l.length cap) ∧ X.rangeAt b (off + q * 9) (nodeCs hd0 lv0) ∧ X.rangeAt b (off + p * 9) (nodeCs hd1 lv1)) reads (fun _ => trivial) rfl (by kernel_rfl) (by kernel_rfl) ⟨hc0, ra0, ra1⟩ ?_
   iterate 11 (refine shT_x rfl rfl ?_; intro K hK w' hs; have y0 := hs.1.cell; obtain ⟨f0, f1, f2, f3, f4, f5, f6, f7, f8⟩ := nodeAt_of hs.2.1; obtain ⟨g0, g1, g2, g3, g4, g5, g6, g7, g8⟩ := nodeAt_of hs.2.2; go_simp; refine hK _ _ ?_; clear hK K f0 f1 f2 f3 f4 f5 f6 f7 f8 g0 g1 g2 g3 g4 g5 g6 g7 g8 y0 hs w')
   refine shT_c rfl rfl ?_
   intro K hK
   go_simp
   refine hR.mono ?_
   rintro e W3 ⟨hkp, hcase⟩
   have hc3 : Boxed W3 bx 25 (.slice (some ⟨b, off, none⟩) l.length cap) := hkp.same _ _ hc0 ⟨hne, hSb1 _ _⟩
   have hKb : ∀ o, wr.drew.heap[b]? = some o → b ≠ lp ∧ Sb b o := fun o ho => by
    have h5 : wr.heap[b]? = some o := ho
    rw [hbk2] at h5; cases h5; exact ⟨hblp, hSb2 _ _ _⟩
   have rb0 := rangeAt_keep hkp hKb (show wr.drew.rangeAt b (off + q * 9) (nodeCs hd0 lv0) from ra0)
   have rb1 := rangeAt_keep hkp hKb (show wr.drew.rangeAt b (off + p * 9) (nodeCs hd1 lv1) from ra1)
   have hkq : Keep (fun b o => b ≠ lp ∧ Sb b o) wr W3 := ⟨hkp.os, hkp.tape, hkp.output, hkp.size, fun k o hk hs => hkp.same k o hk hs⟩
   have hk3 : Keep (fun b o => ∃ c f, o = .cells c 27 f) W W3 := by
    refine hkk.trans (hkq.mono ?_)
    rintro k2 o hb2 ⟨c, f, rfl⟩
    refine ⟨?_, hSb2 _ _ _⟩
    rintro rfl
    rw [hb2] at hl1; cases hl1
   rcases hcase with ⟨rfl, hj3⟩ | ⟨rfl, hj3⟩
   ·refine hK _ _ ⟨hc3, rb0, rb1⟩ ?_
    clear hK K
    refine shT_x rfl rfl ?_
    intro K hK w' hs
    go_simp
    refine hK _ _ ?_
    clear hK K hs w'
    refine shT_nil ?_
    clear hwp hwq
    have e2 : (q : Int) + 2 = ((2 * (k + 1) : Nat) : Int) := by omega
    gi_wp2
    exact ⟨⟨k + 1, by omega, by push_cast; rfl, hj3, hc3, hk3⟩, by simp [RowKit.intOf]; omega⟩
   ·refine hK _ _ ⟨hc3, rb0, rb1⟩ ?_
    clear hK K
    refine shT_x rfl rfl ?_
    intro K hK w' hs
    go_simp
    refine hK _ _ ?_
    clear hK K hs w'
    refine shT_nil ?_
    clear hwp hwq
    gi_wp2
    refine bodyPost_ret (results_none rfl _ _ _) rfl ?_
    exact ⟨⟨_, rfl⟩, .inr ⟨k, hlt, hj3, trivial⟩⟩
  ·obtain rfl : k = l.length / 2 := by omega
   obtain ⟨q, hq⟩ : ∃ q, 2 * (l.length / 2) = q := ⟨_, rfl⟩
   have hq1 : ¬ ((q : Int) + 1 < (l.length : Int)) := by omega
   rw [hq]
   gi_wp2
   go_end0
   exact ⟨⟨_, rfl⟩, .inl hj⟩
end Go.Tm
namespace Go.Tm
open Go.RowKit Go.Proofs Go.Sort Go.Shelf
def esOf (ms : List Mem) : Array MapEntry := (ms.zipIdx.map fun x => { key := .string x.1.s, val := .bool true, born := x.2 }).toArray
theorem esOf_push (ms : List Mem) (m : Mem) : (esOf ms).push { key := .string m.s, val := .bool true, born := ms.length } = esOf (ms ++ [m]) := by
 unfold esOf
 rw [List.zipIdx_append]
 simp
theorem esOf_mem {ms : List Mem} {x : MapEntry} (h : x ∈ (esOf ms).toList) : (∃ m ∈ ms, x.key = .string m.s) ∧ x.val = .bool true := by
 simp only [esOf, List.mem_map] at h
 obtain ⟨y, hy, rfl⟩ := h
 exact ⟨⟨y.1, List.fst_mem_of_mem_zipIdx hy, rfl⟩, rfl⟩
theorem esOf_has {ms : List Mem} {m : Mem} (h : m ∈ ms) : ∃ x ∈ (esOf ms).toList, x.key = .string m.s := by
 obtain ⟨i, hi, rfl⟩ := List.getElem_of_mem h
 refine ⟨{ key := .string ms[i].s, val := .bool true, born := i }, ?_, rfl⟩
 simp only [esOf, List.mem_map]
 exact ⟨(ms[i], i), by rw [List.mem_zipIdx_iff_getElem?]; simp [hi], rfl⟩
theorem find_seen (ms : List Mem) (s : ByteArray) (h : s ∈ ms.map (·.s)) : ∃ j, Instr.findNow .string (.string s) (esOf ms).toList 0 = some (some (j, .bool true)) := by
 have hk : ∀ x ∈ (esOf ms).toList, MapKept.IsKey .string x.key := fun x hx => by obtain ⟨⟨m, _, e⟩, _⟩ := esOf_mem hx; rw [e]; trivial
 obtain ⟨m, hm, rfl⟩ := List.mem_map.1 h
 rcases MapKept.findNow_spec (d := .string) (k := .string m.s) trivial (esOf ms).toList 0 hk with ⟨_, h2⟩ | ⟨j, e, h1, h2, _⟩
 ·obtain ⟨x, hx, he⟩ := esOf_has hm
  exact absurd he (h2 x hx)
 ·refine ⟨0 + j, ?_⟩
  rw [h1, (esOf_mem (List.mem_of_getElem? h2)).2]
theorem find_new (ms : List Mem) (s : ByteArray) (h : s ∉ ms.map (·.s)) : Instr.findNow .string (.string s) (esOf ms).toList 0 = some none := by
 have hk : ∀ x ∈ (esOf ms).toList, MapKept.IsKey .string x.key := fun x hx => by obtain ⟨⟨m, _, e⟩, _⟩ := esOf_mem hx; rw [e]; trivial
 rcases MapKept.findNow_spec (d := .string) (k := .string s) trivial (esOf ms).toList 0 hk with ⟨h1, _⟩ | ⟨j, e, _, h2, h3⟩
 ·exact h1
 ·obtain ⟨⟨m, hm, e2⟩, _⟩ := esOf_mem (List.mem_of_getElem? h2)
  rw [e2] at h3
  cases h3
  exact absurd (List.mem_map.2 ⟨m, hm, rfl⟩) h
theorem contB (s : ByteArray) : ∀ l : List ByteArray, l.contains s = true ↔ s ∈ l
 | [] => by simp
 | x :: l => by
  rw [List.contains_cons, Bool.or_eq_true, contB s l, List.mem_cons, MapKept.bytes_beq]
theorem projP_two (X : Hd → Dc × Bool) (l : List Tree) (i : Nat) (seen : List ByteArray) (h : 2 * i + 1 < l.length) :
  projP X (l.drop (2 * i)) seen = (if (renderM l[2 * i]).2 = false ∨ seen.contains (renderM l[2 * i]).1 then ([], max (l[2 * i + 1].proj X).2 2)
   else (((renderM l[2 * i]).1, (l[2 * i + 1].proj X).1) :: (projP X (l.drop (2 * (i + 1))) ((renderM l[2 * i]).1 :: seen)).1, max (l[2 * i + 1].proj X).2 (projP X (l.drop (2 * (i + 1))) ((renderM l[2 * i]).1 :: seen)).2)) := by
 have e : l.drop (2 * i) = l[2 * i] :: l[2 * i + 1] :: l.drop (2 * (i + 1)) := by
  rw [List.drop_eq_getElem_cons (by omega), List.drop_eq_getElem_cons (by omega)]; rfl
 rw [e, projP]
theorem projP_end (X : Hd → Dc × Bool) (l : List Tree) (seen : List ByteArray) : projP X (l.drop (2 * (l.length / 2))) seen = ([], 0) := by
 have h : (l.drop (2 * (l.length / 2))).length ≤ 1 := by rw [List.length_drop]; omega
 rcases hd : l.drop (2 * (l.length / 2)) with _ | ⟨x, _ | ⟨y, r⟩⟩
 ·rw [projP]; intro k x l h; cases h
 ·rw [projP]; intro k x l h; cases h
 ·rw [hd] at h; simp at h
def PSpl (X : Hd → Dc × Bool) (l : List Tree) (i : Nat) (ms : List Mem) (er : Nat) : Prop := projP X l [] = (ms.map Mem.pair ++ (projP X (l.drop (2 * i)) (ms.map (·.s)).reverse).1, max er (projP X (l.drop (2 * i)) (ms.map (·.s)).reverse).2)
structure PInv (E : Errs) (S : Nat → Prop) (w : World) (b st : Nat) (ncs : Array Value) (i : Nat) (ms : List Mem) (lv : Value) (er : Nat) (A : World) : Prop where
 len : ms.length = i
 er2 : er ≤ 2
 dist : (ms.map Mem.pair).Pairwise fun x y => x.1 ≠ y.1
 good : ∀ m ∈ ms, m.good (fun x => S x ∧ x ≠ w.heap.size + 2) A
 p : Boxed A w.heap.size 43 (.pointer (some ⟨b, 0, none⟩))
 n : A.heap[w.heap.size + 1]? = some (.cells ncs 27 (0, 0))
 r : A.heap[w.heap.size + 2]? = some (.cells #[.int .i64 0, .bool false, .bool false, .string ⟨#[]⟩, .int .i64 0, .int .u64 0, .int .i64 0, .string ⟨#[]⟩, .slice none 0 0] 27 (0, 0))
 lb : Boxed A (w.heap.size + 3) 68 lv
 row : A.ownsRow (w.heap.size + 7) 71 18 lv i (flatM ms)
 mp : A.heap[w.heap.size + 4]? = some (.map (esOf ms) i)
 sb : Boxed A (w.heap.size + 5) 139 (.map (some (w.heap.size + 4)))
 pb : PB E b (max st er) A
 fr : Keep (fun k _ => k ≠ b) w A
 sz : w.heap.size + 7 ≤ A.heap.size
theorem PInv.keep {K : Nat → Obj → Prop} {E : Errs} {S : Nat → Prop} {w : World} {b st : Nat} {ncs : Array Value} {i : Nat} {ms : List Mem} {lv : Value} {er : Nat} {A B : World} (h : PInv E S w b st ncs i ms lv er A) (hb : b < w.heap.size)
  (hk : Keep K A B) (hK : ∀ k o, k < w.heap.size + 6 ∨ o.isCells = true → K k o) : PInv E S w b st ncs i ms lv er B where
 len := h.len
 er2 := h.er2
 dist := h.dist
 good m hm := ⟨(h.good m hm).1, (h.good m hm).2.1, (h.good m hm).2.2.1.keep hk fun k _ c f => hK _ _ (.inr rfl), (h.good m hm).2.2.2.keep hk fun k _ c f => hK _ _ (.inr rfl)⟩
 p := hk.boxed h.p (hK _ _ (.inr rfl))
 n := hk.same _ _ h.n (hK _ _ (.inr rfl))
 r := hk.same _ _ h.r (hK _ _ (.inr rfl))
 lb := hk.boxed h.lb (hK _ _ (.inr rfl))
 row := own_keep h.row hk fun _ _ _ _ => hK _ _ (.inr rfl)
 mp := hk.same _ _ h.mp (hK _ _ (.inl (by omega)))
 sb := hk.boxed h.sb (hK _ _ (.inr rfl))
 pb := hk.same _ _ h.pb (hK _ _ (.inr rfl))
 fr := ⟨hk.os.trans h.fr.os, hk.tape.trans h.fr.tape, hk.output.trans h.fr.output, Nat.le_trans h.fr.size hk.size, fun k o hko hne => hk.same k o (h.fr.same k o hko hne) (hK _ _ (.inl (by have := lt_of_some hko; omega)))⟩
 sz := Nat.le_trans h.sz hk.size
theorem PInv.step {E : Errs} {S : Nat → Prop} {w : World} {b st : Nat} {ncs : Array Value} {i : Nat} {ms : List Mem} {lv : Value} {er er' : Nat} {A B : World} (h : PInv E S w b st ncs i ms lv er A) (hb : b < w.heap.size)
  (hk : Keep (fun k _ => k ≠ b) A B) (hpb : PB E b (max st er') B) (her : er' ≤ 2) : PInv E S w b st ncs i ms lv er' B where
 len := h.len
 er2 := her
 dist := h.dist
 good m hm := ⟨(h.good m hm).1, (h.good m hm).2.1, (h.good m hm).2.2.1.keepP h.pb hk, (h.good m hm).2.2.2.keepP h.pb hk⟩
 p := hk.boxed h.p (by omega)
 n := hk.same _ _ h.n (by omega)
 r := hk.same _ _ h.r (by omega)
 lb := hk.boxed h.lb (by omega)
 row := own_keep h.row hk fun g _ hg _ => by omega
 mp := hk.same _ _ h.mp (by omega)
 sb := hk.boxed h.sb (by omega)
 pb := hpb
 fr := ⟨hk.os.trans h.fr.os, hk.tape.trans h.fr.tape, hk.output.trans h.fr.output, Nat.le_trans h.fr.size hk.size, fun k o hko hne => hk.same k o (h.fr.same k o hko hne) hne⟩
 sz := Nat.le_trans h.sz hk.size
def PairK (w : World) (b : Nat) : Nat → Obj → Prop := fun k o => k ≠ b ∧ k ≠ w.heap.size + 3 ∧ k ≠ w.heap.size + 4 ∧ (k < w.heap.size + 7 ∨ ∀ c f, o ≠ .cells c 71 f)
theorem PInv.node_ok {E : Errs} {S : Nat → Prop} {w : World} {b st : Nat} {ncs : Array Value} {i : Nat} {ms : List Mem} {lv : Value} {er : Nat} {A : World} (h : PInv E S w b st ncs i ms lv er A) (k : Nat) (o : Obj) (ho : A.heap[k]? = some o) (hT : ∃ c f, o = .cells c 27 f) : PairK w b k o := by
 obtain ⟨c, f, rfl⟩ := hT
 refine ⟨?_, ?_, ?_, .inr fun c' f' e => by cases e⟩
 ·rintro rfl; have := h.pb; rw [this] at ho; cases ho
 ·rintro rfl; have : A.heap[w.heap.size + 3]? = _ := h.lb; rw [this] at ho; cases ho
 ·rintro rfl; rw [h.mp] at ho; cases ho
theorem PInv.own {E : Errs} {S : Nat → Prop} {w : World} {b st : Nat} {ncs : Array Value} {i : Nat} {ms : List Mem} {lv : Value} {er : Nat} {A : World} (h : PInv E S w b st ncs i ms lv er A) (k : Nat) (hk : lv.ownBlock = some k) : w.heap.size + 7 ≤ k ∧ ∃ c, A.heap[k]? = some (.cells c 71 (0, 0)) := by
 rcases h.row.2 with ⟨rfl, _⟩ | ⟨g, cap, cur, rfl, hg, hgg, _⟩
 ·cases hk
 ·simp only [Value.ownBlock, Option.some.injEq] at hk
  subst hk
  exact ⟨hg, cur, hgg⟩
theorem PInv.push {E : Errs} {S : Nat → Prop} {w : World} {b st : Nat} {ncs : Array Value} {i : Nat} {ms : List Mem} {lv v' : Value} {er : Nat} {A B : World} {m : Mem} (h : PInv E S w b st ncs i ms lv er A) (hb : b < w.heap.size)
  (hk : Keep (fun k _ => k ≠ w.heap.size + 3 ∧ k ≠ w.heap.size + 4 ∧ lv.ownBlock ≠ some k) A B) (hlb : Boxed B (w.heap.size + 3) 68 v') (hrow : B.ownsRow (w.heap.size + 7) 71 18 v' (i + 1) (flatM ms ++ m.cs))
  (hmp : B.heap[w.heap.size + 4]? = some (.map ((esOf ms).push { key := .string m.s, val := .bool true, born := i }) (i + 1))) (hnew : m.s ∉ ms.map (·.s)) (hgood : m.good (fun x => S x ∧ x ≠ w.heap.size + 2) B) : PInv E S w b st ncs (i + 1) (ms ++ [m]) v' er B := by
 have hne : ∀ k, k < w.heap.size + 7 → lv.ownBlock ≠ some k := fun k hlt e => by have := (h.own k e).1; omega
 have hkn : Keep (fun k o => (∃ c f, o = .cells c 27 f) ∨ (k ≠ w.heap.size + 3 ∧ k ≠ w.heap.size + 4 ∧ lv.ownBlock ≠ some k)) A B :=
  ⟨hk.os, hk.tape, hk.output, hk.size, fun k o ho hK => by
   rcases hK with ⟨c, f, rfl⟩ | hK
   ·refine hk.same k _ ho ⟨?_, ?_, ?_⟩
    ·rintro rfl; have : A.heap[w.heap.size + 3]? = _ := h.lb; rw [this] at ho; cases ho
    ·rintro rfl; rw [h.mp] at ho; cases ho
    ·intro e; obtain ⟨_, c', hc⟩ := h.own k e; rw [hc] at ho; cases ho
   ·exact hk.same k o ho hK⟩
 exact {
  len := by rw [List.length_append, h.len]; rfl
  er2 := h.er2
  dist := by
   rw [List.map_append, List.pairwise_append]
   refine ⟨h.dist, by simp, ?_⟩
   intro x hx y hy
   simp only [List.map_cons, List.map_nil, List.mem_singleton] at hy
   subst hy
   obtain ⟨m', hm', rfl⟩ := List.mem_map.1 hx
   intro e
   exact hnew (List.mem_map.2 ⟨m', hm', e⟩)
  good := fun m' hm' => by
   rcases List.mem_append.1 hm' with h1 | h1
   ·exact ⟨(h.good m' h1).1, (h.good m' h1).2.1, (h.good m' h1).2.2.1.keep hkn fun _ _ c f => .inl ⟨c, f, rfl⟩, (h.good m' h1).2.2.2.keep hkn fun _ _ c f => .inl ⟨c, f, rfl⟩⟩
   ·rw [List.mem_singleton.1 h1]; exact hgood
  p := hk.boxed h.p ⟨by omega, by omega, hne _ (by omega)⟩
  n := hk.same _ _ h.n ⟨by omega, by omega, hne _ (by omega)⟩
  r := hk.same _ _ h.r ⟨by omega, by omega, hne _ (by omega)⟩
  lb := hlb
  row := by rw [flatM_append]; simpa [flatM] using hrow
  mp := by rw [← esOf_push, h.len]; exact hmp
  sb := hk.boxed h.sb ⟨by omega, by omega, hne _ (by omega)⟩
  pb := hk.same _ _ h.pb ⟨by omega, by omega, hne _ (by omega)⟩
  fr := ⟨hk.os.trans h.fr.os, hk.tape.trans h.fr.tape, hk.output.trans h.fr.output, Nat.le_trans h.fr.size hk.size, fun k o hko hneb => hk.same k o (h.fr.same k o hko hneb) (by have := lt_of_some hko; exact ⟨by omega, by omega, hne _ (by omega)⟩)⟩
  sz := Nat.le_trans h.sz hk.size }
theorem PInv.node_keep {E : Errs} {S : Nat → Prop} {w : World} {b st : Nat} {ncs : Array Value} {i : Nat} {ms : List Mem} {lv : Value} {er : Nat} {A B : World} (h : PInv E S w b st ncs i ms lv er A)
  (hk : Keep (fun k _ => k ≠ w.heap.size + 3 ∧ k ≠ w.heap.size + 4 ∧ lv.ownBlock ≠ some k) A B) : Keep (fun k o => (∃ c f, o = .cells c 27 f) ∨ (k ≠ w.heap.size + 3 ∧ k ≠ w.heap.size + 4 ∧ lv.ownBlock ≠ some k)) A B :=
 ⟨hk.os, hk.tape, hk.output, hk.size, fun k o ho hK => by
  rcases hK with ⟨c, f, rfl⟩ | hK
  ·refine hk.same k _ ho ⟨?_, ?_, ?_⟩
   ·rintro rfl; have : A.heap[w.heap.size + 3]? = _ := h.lb; rw [this] at ho; cases ho
   ·rintro rfl; rw [h.mp] at ho; cases ho
   ·intro e; obtain ⟨_, c', hc⟩ := h.own k e; rw [hc] at ho; cases ho
  ·exact hk.same k o ho hK⟩
theorem render_size (t : Tree) : (renderM t).2 = true → (renderM t).1.size ≤ 400 := by
 unfold renderM
 split
 ·intro h; cases h
 ·split
  ·intro h; cases h
  ·intro _; show (keyText t.hd).size ≤ 400; omega
theorem PInv.frame {E : Errs} {S : Nat → Prop} {w : World} {b st : Nat} {ncs : Array Value} {i : Nat} {ms : List Mem} {lv : Value} {er : Nat} {A A7 B : World} (h7 : PInv E S w b st ncs i ms lv er A7) (h1 : Keep (fun k _ => k ≠ b) A A7)
  (hk : Keep (fun k _ => k ≠ w.heap.size + 3 ∧ k ≠ w.heap.size + 4 ∧ lv.ownBlock ≠ some k) A7 B) : Keep (PairK w b) A B :=
 ⟨hk.os.trans h1.os, hk.tape.trans h1.tape, hk.output.trans h1.output, Nat.le_trans h1.size hk.size, fun k o ho hK => by
  have h2 := h1.same k o ho hK.1
  refine hk.same k o h2 ⟨hK.2.1, hK.2.2.1, fun e => ?_⟩
  obtain ⟨hge, c, hc⟩ := h7.own k e
  rw [hc] at h2
  cases h2
  rcases hK.2.2.2 with h | h
  ·omega
  ·exact h _ _ rfl⟩
theorem PSpl.next {X : Hd → Dc × Bool} {l : List Tree} {i : Nat} {ms : List Mem} {er e : Nat} {m : Mem} (h : PSpl X l i ms er)
  (ht : projP X (l.drop (2 * i)) (ms.map (·.s)).reverse = (m.pair :: (projP X (l.drop (2 * (i + 1))) (m.s :: (ms.map (·.s)).reverse)).1, max e (projP X (l.drop (2 * (i + 1))) (m.s :: (ms.map (·.s)).reverse)).2)) :
  PSpl X l (i + 1) (ms ++ [m]) (max er e) := by
 unfold PSpl at h ⊢
 rw [h, ht]
 simp [Nat.max_assoc]
theorem Keep.ors {K : Nat → Obj → Prop} {w w' : World} (h : Keep K w w') (T : Nat → Obj → Prop) (hT : ∀ k o, w.heap[k]? = some o → T k o → K k o) : Keep (fun k o => T k o ∨ K k o) w w' :=
 ⟨h.os, h.tape, h.output, h.size, fun k o ho hk => h.same k o ho (hk.elim (hT k o ho) id)⟩
end Go.Tm
namespace Go.Tm
open Go.RowKit Go.Proofs Go.Sort Go.Shelf
theorem memCs_all (k0 g0 : Hd) (ka ga : Option Addr) (kn kc gn gc : Nat) : (memCs k0 g0 (.slice ka kn kc) (.slice ga gn gc)).toArray.all (·.oneCell') = true := by
 rw [List.all_toArray, List.all_eq_true]
 intro v hv
 simp at hv
 rcases hv with rfl | rfl | rfl | rfl | rfl | rfl | rfl | rfl | rfl | rfl | rfl | rfl | rfl | rfl | rfl | rfl | rfl | rfl <;> rfl
set_option maxRecDepth 100000 in
set_option maxHeartbeats 8000000 in
theorem ppairs_any {X : Hd → Dc × Bool} {N d : Nat} {E : Errs} (hN : NodeAt' X N E d) (hle : ∀ t : Tree, (t.proj X).2 ≤ 2) (h : Hd) (l : List Tree) (S : Nat → Prop) (lv : Value) (w : World) (st b : Nat) (hd : depthL l ≤ d) (hG : Glob N E w) (hNb : N ≤ b) (hst : st ≤ 2) (hr : RepS S w l lv)
  (hS : ∀ k, w.heap.size ≤ k → S k) (hok : ∀ x ∈ l, TreeOk X N E x) (hb : PB E b st w) (hl40 : l.length ≤ 40) (hdd : depthL l ≤ 1000000) :
  Calls Tryz.prog 65 #[.pointer (some ⟨b, 0, none⟩), nodeV h lv] w (Outs E S b st (.node (bareHd 8) (sortM (projP X l []).1), (projP X l []).2) w) := by
 have hi18 : (Tryz.prog.info? 71).map (·.size) = some 18 := by kernel_rfl
 have hi9 : (Tryz.prog.info? 27).map (·.size) = some 9 := by kernel_rfl
 obtain ⟨hlen, a, cap, rfl, hcap, hi⟩ := hr.shape
 have hblt := lt_of_some hb
 unfold Outs
 simp only [Tree.hd_node, Tree.l_node]
 refine (callsIn_wide (n := 0)).1 ?_
 refine callsIn_of_wp_marks Tryz.func65 rfl trivial ?_ rfl
 simp only [Tryz.ntmps65, List.size_toArray, List.length_cons, List.length_nil, Nat.reduceAdd, Nat.reduceSub, Array.replicate_succ, Array.replicate_zero, List.push_toArray, List.append_toArray, List.nil_append, List.cons_append]
 gi_wp2
 refine wpIn_scope ?_
 gi_wp2
 rw [run_makeMap]
 gi_wp2
 refine wpIn_label ?_
 gi_wp2_with (gi_at_call 45; refine (callsW (members_any _ _ _ _)).mono ?_; rintro e w' ⟨rfl, h9⟩; replace h9 := h9.symm; subst h9)
 have hW : ∃ W1, ((((((((w.alloc (.cells #[.pointer (some ⟨b, 0, none⟩)] 43)).alloc (.cells #[.int .i64 h.kind, .bool h.b, .bool h.d.neg, .string h.d.digits, .int .i64 h.d.exp, .int .u64 (h.u : Int), .int .i64 h.w, .string h.s, .slice a l.length cap] 27)).alloc (.cells #[.int .i64 0, .bool false, .bool false, .string ⟨#[]⟩, .int .i64 0, .int .u64 0, .int .i64 0, .string ⟨#[]⟩, .slice none 0 0] 27)).alloc (.cells #[.slice none 0 0] 68)).alloc (.map #[] 0)).alloc (.cells #[.map (some (w.heap.size + 1 + 1 + 1 + 1))] 139)).alloc (.cells #[.slice a l.length cap] 25)) = W1) := ⟨_, rfl⟩
 obtain ⟨W1, hW1⟩ := hW
 rw [hW1]
 have hk1 : Same w W1 := by rw [← hW1]; exact smK
 have hz1 : W1.heap.size = w.heap.size + 7 := by rw [← hW1]; simp
 have hI0 : PInv E S w b st #[.int .i64 h.kind, .bool h.b, .bool h.d.neg, .string h.d.digits, .int .i64 h.d.exp, .int .u64 (h.u : Int), .int .i64 h.w, .string h.s, .slice a l.length cap] 0 [] (.slice none 0 0) 0 W1 := {
  len := rfl
  er2 := by decide
  dist := List.Pairwise.nil
  good := fun m hm => by cases hm
  p := by rw [← hW1]; repeat (first | exact World.alloc_heap_new w _ | refine heap_old ?_)
  n := by rw [← hW1]; exact heap_old (heap_old (heap_old (heap_old (heap_old (heap_new' (by simp))))))
  r := by rw [← hW1]; exact heap_old (heap_old (heap_old (heap_old (heap_new' (by simp)))))
  lb := by rw [← hW1]; exact heap_old (heap_old (heap_old (heap_new' (by simp))))
  row := World.ownsRow_nil _ _ _ _
  mp := by rw [← hW1]; exact heap_old (heap_old (heap_new' (by simp)))
  sb := by rw [← hW1]; exact heap_old (heap_new' (by simp))
  pb := by rw [Nat.max_zero]; exact hk1.same _ _ hb trivial
  fr := Keep.of_same hk1
  sz := by omega }
 have hbm : Boxed W1 (w.heap.size + 6) 25 (.slice a l.length cap) := by rw [← hW1]; exact heap_new' (by simp)
 have hS0 : PSpl X l 0 [] 0 := by unfold PSpl; simp
 clear hW1
 refine wp_range (gf := 70) (lb := #[.pointer (some ⟨w.heap.size + 6, 0, none⟩)])
  rfl (enters_of Tryz.func70 (by kernel_rfl) rfl) (l.length / 2) (GivesM (fun x => S x ∧ x < w.heap.size) l)
  (fun k o => (∃ c f, o = .cells c 27 f) ∨ PairK w b k o) (fun _ _ => True)
  (fun _ => True) (fun _ _ => True) ?hit ?hSb (fun _ _ _ _ _ => trivial)
  (fun i A => ∃ ms lv er, PSpl X l i ms er ∧ PInv E S w b st #[.int .i64 h.kind, .bool h.b, .bool h.d.neg, .string h.d.digits, .int .i64 h.d.exp, .int .u64 (h.u : Int), .int .i64 h.w, .string h.s, .slice a l.length cap] i ms lv er A)
  (fun i c A => c = .exit 0 ∧ ∃ ms lv er, projP X l [] = (ms.map Mem.pair, er) ∧ PInv E S w b st #[.int .i64 h.kind, .bool h.b, .bool h.d.neg, .string h.d.digits, .int .i64 h.d.exp, .int .u64 (h.u : Int), .int .i64 h.w, .string h.s, .slice a l.length cap] i ms lv er A)
  ?hI ?hIx ?hE (fun _ _ _ _ => trivial) (fun _ _ _ _ _ => trivial) ?hEs ⟨[], .slice none 0 0, 0, hS0, hI0⟩
  (fun i v a' A => ∃ bx cs, v = #[.agg cs] ∧ A.heap[bx]? = some (.cells cs 71 (0, 0)) ∧ w.heap.size + 7 ≤ bx ∧ a' = { tmps := #[.pointer (some ⟨b, 0, none⟩), nodeV h (.slice a l.length cap), .pointer (some ⟨w.heap.size, 0, none⟩), .pointer (some ⟨w.heap.size + 1, 0, none⟩), .pointer (some ⟨w.heap.size + 1 + 1, 0, none⟩), .pointer (some ⟨w.heap.size + 1 + 1 + 1, 0, none⟩), .pointer (some ⟨w.heap.size + 1 + 1 + 1 + 1 + 1, 0, none⟩), .pointer (some ⟨bx, 0, none⟩), undef, undef, undef, .map (some (w.heap.size + 1 + 1 + 1 + 1)), .pointer (some ⟨w.heap.size + 1, 8, none⟩), .slice a l.length cap, .func (.func 70) #[] #[.pointer (some ⟨w.heap.size + 1 + 1 + 1 + 1 + 1 + 1, 0, none⟩)], .agg cs, undef, undef, undef, undef, undef, undef, undef, undef, undef, undef, undef, undef, undef, undef, undef, undef, undef, undef, undef, undef, undef, undef, undef, undef, undef, undef, undef, undef, undef, undef, undef, undef], defers := [] }) ?hAx ?hassign ?hbody ?hdone ?hstop
 case hit =>
  intro W2 hk2 hz2
  exact members1_iter (fun x => S x ∧ x < w.heap.size) l _ _ _ _ W2 (((hr.mono fun y hy hh => ⟨hh, hy⟩).same hk1).same hk2) (hk2.boxed hbm trivial) (fun c f => .inr ⟨by omega, by omega, by omega, .inl (by omega)⟩) (fun k c f => .inl ⟨c, f, rfl⟩)
 case hSb => exact fun k o hk ho => .inr ⟨by omega, by omega, by omega, .inr fun c f e => by subst e; cases ho⟩
 case hI =>
  rintro i A B ⟨ms, lv, er, h1, h2⟩ hk
  exact ⟨ms, lv, er, h1, h2.keep hblt hk fun k o h => ⟨h.imp_left fun h => by omega, trivial⟩⟩
 case hIx =>
  rintro i c A B ⟨h0, ms, lv, er, h1, h2⟩ hk
  exact ⟨h0, ms, lv, er, h1, h2.keep hblt hk fun k o h => ⟨h.imp_left fun h => by omega, trivial⟩⟩
 case hE =>
  rintro i v A B ⟨h0, h1, lv, mv, e, r0, r1, o0, o1⟩ hk
  exact ⟨h0, h1, lv, mv, e, r0.keep hk fun _ _ _ _ => .inr rfl, r1.keep hk fun _ _ _ _ => .inr rfl, o0, o1⟩
 case hEs =>
  rintro i v A ⟨h0, h1, lv, mv, e, _⟩
  rw [e]; rfl
 case hAx =>
  rintro i v a' A B ⟨bx, cs, e, h1, h2, h3⟩ hk
  exact ⟨bx, cs, e, hk.same _ _ h1 (.inr rfl), h2, h3⟩
 case hassign =>
  rintro lp i v A K hi ⟨ms, lv, er, hs1, hp1⟩ hE' hK
  have hE2 := hE'
  obtain ⟨h0, h1, klv, glv, rfl, r0, r1, o0, o1⟩ := hE'
  obtain ⟨k0, hk0⟩ : ∃ k0, (l[2 * i]).hd = k0 := ⟨_, rfl⟩
  obtain ⟨g0, hg0⟩ : ∃ g0, (l[2 * i + 1]).hd = g0 := ⟨_, rfl⟩
  obtain ⟨ka, kc, rfl⟩ := r0.is_slice
  obtain ⟨ga, gc, rfl⟩ := r1.is_slice
  rw [hk0, hg0] at hK hE2 ⊢
  obtain ⟨kn, hkn⟩ : ∃ n, (l[2 * i]).l.length = n := ⟨_, rfl⟩
  obtain ⟨gn, hgn⟩ : ∃ n, (l[2 * i + 1]).l.length = n := ⟨_, rfl⟩
  rw [hkn, hgn] at hK hE2 ⊢
  clear r0 r1 o0 o1 hk0 hg0 hkn hgn h0 h1 hi hr
  refine wpIn_region_lit ?_
  refine wpListIn_plain rfl fun K2 hK2 => ?_
  go_simp
  refine hK2 _ _ ?_
  clear hK2 K2
  refine wpListIn_store_row rfl 71 _ _ rfl A.heap.size (memCs k0 g0 (.slice ka kn kc) (.slice ga gn gc)).toArray rfl rfl 71 _ (heap_alloc_last _ _) hi18 rfl (memCs_all _ _ _ _ _ _ _ _) ?_
  rw [World.setRow_alloc_new]
  refine wpListIn_nil ?_
  refine hK _ _ ((Keep.refl _ _).alloc _) ⟨ms, lv, er, hs1, hp1.keep hblt ((Keep.refl All _).alloc _) fun _ _ _ => trivial⟩ ?_ ⟨A.heap.size, _, rfl, World.alloc_heap_new A _, hp1.sz, rfl⟩
  obtain ⟨h0, h1, lv, mv, e, r0, r1, o0, o1⟩ := hE2
  exact ⟨h0, h1, lv, mv, e, r0.same ((Keep.refl _ _).alloc _), r1.same ((Keep.refl _ _).alloc _), o0, o1⟩
 case hbody =>
  rintro lp i v a' A hlp ⟨rr, hrl⟩ hi2 ⟨ms, lv, er, hs1, hp1⟩ ⟨h0, h1, klv, glv, hv, r0, r1, o0, o1⟩ ⟨bx, cs, rfl, hbx, hbxz, rfl⟩
  have hptw := projP_two X l i (ms.map (·.s)).reverse h1
  have hok0 := hok l[2 * i] (List.getElem_mem h0)
  have hok1 := hok l[2 * i + 1] (List.getElem_mem h1)
  have hd0 := depthL_get l (2 * i) h0
  have hd1 := depthL_get l (2 * i + 1) h1
  obtain ⟨kt, hkt⟩ : ∃ t, l[2 * i] = t := ⟨_, rfl⟩
  obtain ⟨gt, hgt⟩ : ∃ t, l[2 * i + 1] = t := ⟨_, rfl⟩
  rw [hkt] at hptw hok0 hd0 r0 o0 hv
  rw [hgt] at hptw hok1 hd1 r1 o1 hv
  obtain ⟨ka, kc, rfl⟩ := r0.is_slice
  obtain ⟨ga, gc, rfl⟩ := r1.is_slice
  have hcs : cs = (memCs kt.hd gt.hd (.slice ka kt.l.length kc) (.slice ga gt.l.length gc)).toArray := by
   have := congrArg (fun v : Array Value => v[0]?) hv
   simp only [List.getElem?_toArray] at this
   injection (Option.some.inj this) with e
  subst hcs
  have hra : A.rangeAt bx 0 (memCs kt.hd gt.hd (.slice ka kt.l.length kc) (.slice ga gt.l.length gc)) := fun j v hj => by
   rw [Nat.zero_add, cell_of_row _ _ j _ _ _ hbx]
   simpa using hj
  have hra0 : A.rangeAt bx 0 (nodeCs kt.hd (.slice ka kt.l.length kc)) := fun j v hj => hra j v (by rw [show memCs kt.hd gt.hd (.slice ka kt.l.length kc) (.slice ga gt.l.length gc) = nodeCs kt.hd (.slice ka kt.l.length kc) ++ nodeCs gt.hd (.slice ga gt.l.length gc) from rfl, List.getElem?_append_left (List.getElem?_eq_some_iff.1 hj).1]; exact hj)
  have hra9 : A.rangeAt bx 9 (nodeCs gt.hd (.slice ga gt.l.length gc)) := fun j v hj => by
   have := hra (9 + j) v (by rw [show memCs kt.hd gt.hd (.slice ka kt.l.length kc) (.slice ga gt.l.length gc) = nodeCs kt.hd (.slice ka kt.l.length kc) ++ nodeCs gt.hd (.slice ga gt.l.length gc) from rfl, List.getElem?_append_right (by simp)]; simpa using hj)
   rwa [Nat.zero_add] at this
  have hG1 := hG.keepP hNb hp1.fr
  have hpb := hp1.pb
  have her := hp1.er2
  have hren := fun W (hs : Same A W) => render_any (N := N) (E := E) (fun x => S x ∧ x < w.heap.size) kt (.slice ka kt.l.length kc) W (hG1.same hs) o0 (r0.same hs) (by omega)
  obtain ⟨⟨ks, kb⟩, hR⟩ : ∃ q, renderM kt = q := ⟨_, rfl⟩
  have hks := render_size kt
  rw [hR] at hren hptw hks
  simp only at hren hptw hks
  have hnd := fun W (hs : Same A W) => hN gt (fun x => S x ∧ x ≠ w.heap.size + 2) (.slice ga gt.l.length gc) W (max st er) b (by omega) (hG1.same hs) hNb (by omega) o1 (((r1.mono (S' := fun x => S x ∧ x ≠ w.heap.size + 2) fun y hy hh => ⟨hh.1, by omega⟩)).same hs) (fun y hy => ⟨hS y (by have := hs.size; have := hp1.sz; omega), by have := hs.size; have := hp1.sz; omega⟩) hok1 (hs.same _ _ hpb trivial)
  unfold Outs at hnd
  obtain ⟨⟨gh, gl⟩, ge, hP⟩ : ∃ t e, gt.proj X = (t, e) := ⟨_, _, rfl⟩
  have hge : ge ≤ 2 := by have := hle gt; rw [hP] at this; exact this
  rw [hP] at hnd hptw
  simp only [Tree.hd_node, Tree.l_node] at hnd hptw
  have HPTW := Lib.hid hptw
  have cp := hp1.p.cell
  clear hptw hP hR hN hi hok hv hkt hgt
  gi_wp2_with (refine wpListIn_load_mid rfl 27 _ rfl bx 0 rfl (nodeCs kt.hd (.slice ka kt.l.length kc)) _ hra0 Tryz.underlying27 rfl hi9 ?_)
  refine (callsR lp (hren A (Keep.refl _ _))).mono ?_
  rintro e A2 ⟨rfl, hkA2⟩
  have hp2 := hp1.keep hblt hkA2 fun _ _ _ => trivial
  have hra2 := rangeAt_same hkA2 hra9
  have cp2 := hp2.p.cell
  clear cp hra0 hra9 hren hra
  gi_wp2_with (refine wpListIn_load_mid rfl 27 _ rfl bx 9 rfl (nodeCs gt.hd (.slice ga gt.l.length gc)) _ hra2 Tryz.underlying27 rfl hi9 ?_)
  refine (callsR lp (hnd A2 hkA2)).mono ?_
  rintro e A6 ⟨lv6, rfl, hok6, hr6, hPB6, hk6⟩
  obtain ⟨a6, cc6, rfl⟩ := hr6.is_slice
  have hp6 : PInv E S w b st #[.int .i64 h.kind, .bool h.b, .bool h.d.neg, .string h.d.digits, .int .i64 h.d.exp, .int .u64 (h.u : Int), .int .i64 h.w, .string h.s, .slice a l.length cap] i ms lv (max er ge) A6 := hp2.step hblt hk6 (by rw [← Nat.max_assoc]; exact hPB6) (by omega)
  have hk7 : Same A6 (A6.alloc (.cells #[.int .i64 gh.kind, .bool gh.b, .bool gh.d.neg, .string gh.d.digits, .int .i64 gh.d.exp, .int .u64 (gh.u : Int), .int .i64 gh.w, .string gh.s, .slice a6 gl.length cc6] 27)) := (Keep.refl _ _).alloc _
  have hb7 : (A6.alloc (.cells #[.int .i64 gh.kind, .bool gh.b, .bool gh.d.neg, .string gh.d.digits, .int .i64 gh.d.exp, .int .u64 (gh.u : Int), .int .i64 gh.w, .string gh.s, .slice a6 gl.length cc6] 27)).heap[A6.heap.size]? = some (.cells #[.int .i64 gh.kind, .bool gh.b, .bool gh.d.neg, .string gh.d.digits, .int .i64 gh.d.exp, .int .u64 (gh.u : Int), .int .i64 gh.w, .string gh.s, .slice a6 gl.length cc6] 27 (0, 0)) := World.alloc_heap_new _ _
  obtain ⟨A7, hA7⟩ : ∃ A7, A6.alloc (.cells #[.int .i64 gh.kind, .bool gh.b, .bool gh.d.neg, .string gh.d.digits, .int .i64 gh.d.exp, .int .u64 (gh.u : Int), .int .i64 gh.w, .string gh.s, .slice a6 gl.length cc6] 27) = A7 := ⟨_, rfl⟩
  rw [hA7] at hk7 hb7
  have hp7 := hp6.keep hblt hk7 fun _ _ _ => trivial
  have hG7 := hG.keepP hNb hp7.fr
  have hr7 := hr6.same hk7
  have hkA7 : Keep (fun k _ => k ≠ b) A A7 := (Keep.trans (Keep.of_same hkA2) hk6).trans (Keep.of_same hk7)
  have cp7 := hp7.p.cell
  have cs7 : A7.cell? ⟨w.heap.size + 1 + 1 + 1 + 1 + 1, 0, none⟩ = some (.map (some (w.heap.size + 1 + 1 + 1 + 1))) := hp7.sb.cell
  have hk7g := hG7.keys
  obtain ⟨la, lc, rfl⟩ : ∃ a c, lv = .slice a i c := by
   rcases hp7.row.2 with ⟨rfl, h0⟩ | ⟨g, cap, cur, rfl, _⟩
   ·exact ⟨none, 0, by rw [h0]⟩
   ·exact ⟨_, _, rfl⟩
  clear cp2 hra2 hnd
  have HSPL := Lib.hid hs1
  by_cases hbad : kb = false ∨ ks ∈ ms.map (·.s)
  ·have hptw2 := HPTW.out
   rw [if_pos (by rcases hbad with h | h; exact .inl h; exact .inr ((contB _ _).2 (List.mem_reverse.2 h)))] at hptw2
   have HBAD := Lib.hid hptw2
   clear hptw2
   cases kb with
   | false =>
    gi_wp2
    refine (callsR lp (fails_any (max st (max er ge)) 2 b A7 hG7 (by omega) (.inr rfl) hp7.pb)).mono ?_
    rintro e A8 ⟨rfl, hpb8, hk8⟩
    have hp8 : PInv E S w b st #[.int .i64 h.kind, .bool h.b, .bool h.d.neg, .string h.d.digits, .int .i64 h.d.exp, .int .u64 (h.u : Int), .int .i64 h.w, .string h.s, .slice a l.length cap] i ms (.slice la i lc) (max (max er ge) 2) A8 := hp7.step hblt hk8 (by rw [← Nat.max_assoc]; exact hpb8) (by omega)
    gi_wp2
    have hkA8 : Keep (fun k _ => k ≠ b) A A8 := hkA7.trans hk8
    refine ⟨(Keep.ors (K := PairK w b) ⟨hkA8.os, hkA8.tape, hkA8.output, hkA8.size, fun k o ho hK => hkA8.same k o ho hK.1⟩ _ hp1.node_ok), rfl, ms, .slice la i lc, max (max er ge) 2, ?_, hp8⟩
    rw [HSPL.out, HBAD.out]
    simp [Nat.max_assoc]
   | true =>
    have hin : ks ∈ ms.map (·.s) := hbad.resolve_left (by simp)
    obtain ⟨j, hj⟩ := find_seen ms ks hin
    have hlk : (Instr.lookup 139 (.map (some (w.heap.size + 1 + 1 + 1 + 1))) (.string ks) false).run Tryz.prog A7 = .ok (.bool true) A7 :=
     run_lookup_ok (d := .string) (i := j) (v := .bool true) (.string ks) Tryz.underlying139 Tryz.underlying9 trivial hp7.mp hj false
    gi_wp2
    refine (callsR lp (fails_any (max st (max er ge)) 2 b A7 hG7 (by omega) (.inr rfl) hp7.pb)).mono ?_
    rintro e A8 ⟨rfl, hpb8, hk8⟩
    have hp8 : PInv E S w b st #[.int .i64 h.kind, .bool h.b, .bool h.d.neg, .string h.d.digits, .int .i64 h.d.exp, .int .u64 (h.u : Int), .int .i64 h.w, .string h.s, .slice a l.length cap] i ms (.slice la i lc) (max (max er ge) 2) A8 := hp7.step hblt hk8 (by rw [← Nat.max_assoc]; exact hpb8) (by omega)
    gi_wp2
    have hkA8 : Keep (fun k _ => k ≠ b) A A8 := hkA7.trans hk8
    refine ⟨(Keep.ors (K := PairK w b) ⟨hkA8.os, hkA8.tape, hkA8.output, hkA8.size, fun k o ho hK => hkA8.same k o ho hK.1⟩ _ hp1.node_ok), rfl, ms, .slice la i lc, max (max er ge) 2, ?_, hp8⟩
    rw [HSPL.out, HBAD.out]
    simp [Nat.max_assoc]
  ·have hkb : kb = true := by
    cases kb with
    | true => rfl
    | false => exact absurd (.inl rfl) hbad
   subst hkb
   have hnew : ks ∉ ms.map (·.s) := fun h => hbad (.inr h)
   have hptw2 := HPTW.out
   rw [if_neg (by rintro (h | h); cases h; exact hnew (List.mem_reverse.1 ((contB _ _).1 h)))] at hptw2
   have HNEW := Lib.hid hptw2
   clear hptw2 hbad
   have hksz : ks.size ≤ 1099511627776 := Nat.le_trans (hks rfl) (by decide)
   have hlk : (Instr.lookup 139 (.map (some (w.heap.size + 1 + 1 + 1 + 1))) (.string ks) false).run Tryz.prog A7 = .ok (.bool false) A7 :=
    run_lookup_none (d := .string) (z := .bool false) (.string ks) Tryz.underlying139 Tryz.underlying9 trivial (fun w => by kernel_rfl) hp7.mp (find_new ms ks hnew) false
   have hup : (Instr.mapUpdate 139 (.map (some (w.heap.size + 1 + 1 + 1 + 1))) (.string ks) (.bool true)).run Tryz.prog A7 = .ok () (A7.putObj (w.heap.size + 4) (.map ((esOf ms).push { key := .string ks, val := .bool true, born := i }) (i + 1))) :=
    run_mapUpdate_new (d := .string) (.string ks) (.bool true) Tryz.underlying139 Tryz.underlying9 trivial hp7.mp (find_new ms ks hnew)
   obtain ⟨A9, hA9⟩ : ∃ A9, A7.putObj (w.heap.size + 4) (.map ((esOf ms).push { key := .string ks, val := .bool true, born := i }) (i + 1)) = A9 := ⟨_, rfl⟩
   have hk9 : Keep (fun k _ => k ≠ w.heap.size + 4) A7 A9 := by rw [← hA9]; exact (Keep.refl _ A7).putObj _ fun o _ hs _ => hs rfl
   have hmp9 : A9.heap[w.heap.size + 4]? = some (.map ((esOf ms).push { key := .string ks, val := .bool true, born := i }) (i + 1)) := by rw [← hA9]; exact World.putObj_heap_same (lt_of_some hp7.mp)
   rw [hA9] at hup
   have hrow9 := own_keep hp7.row hk9 fun g _ hg _ => by omega
   have hlb9 : Boxed A9 (w.heap.size + 3) 68 (.slice la i lc) := hk9.boxed hp7.lb (by omega)
   have cl9 : A9.cell? ⟨w.heap.size + 1 + 1 + 1, 0, none⟩ = some (.slice la i lc) := hlb9.cell
   have hz7 := hp7.sz
   have hb9 := hk9.same _ _ hb7 (by have := lt_of_some hp6.mp; have := hp6.sz; omega)
   obtain ⟨n0, n1, n2, n3, n4, n5, n6, n7, n8⟩ := cells9 hb9
   obtain ⟨m0, hm0, hmz0, hmz1, hmz2⟩ := info_parts mem_info
   have hi20 : i ≤ 20 := by omega
   have hcsm : (Mem.cs ⟨ks, gh, a6, gl.length, cc6, gl, none, 0⟩).length = 18 := rfl
   clear hrl
   gi_wp2_with (gi_at_builtin; refine wpListIn_append_own _ rfl _ _ 68 rfl (w.heap.size + 7) 71 m0 (memV (bareHd 0) (bareHd 0) (.slice none 0 0) (.slice none 0 0)) 18 208 Tryz.underlying68 hm0 hmz0 hmz1 hmz2 rfl (by decide) _ _ _ rfl (hrow9.alloc _) ⟨A9.heap.size, 0, none⟩ 1 1 (Mem.cs ⟨ks, gh, a6, gl.length, cc6, gl, none, 0⟩) rfl hcsm ?c1 ?c2 ?c3 ?c4 ?c5 ?_)
   case c1 => exact fun j u hu => cells_new _ _ _ j u hu
   case c2 => exact Mem.cs_one _
   case c3 => unfold maxLen; omega
   case c4 => omega
   case c5 => have := hk9.size; simp; omega
   intro v' A10 hown' hgrow _
   obtain ⟨va, vc, rfl⟩ : ∃ a c, v' = .slice a (i + 1) c := by
    rcases hown'.2 with ⟨_, h0⟩ | ⟨g, cap, cur, rfl, _⟩
    ·omega
    ·exact ⟨_, _, rfl⟩
   have hone : ∀ k, k < w.heap.size + 7 → (Value.slice la i lc).ownBlock ≠ some k := fun k hlt e => by have := (hp7.own k e).1; omega
   have hk10 : Keep (fun k _ => (Value.slice la i lc).ownBlock ≠ some k) A9 A10 := ((Keep.refl _ A9).alloc _).grown hgrow fun r hr o _ hs _ => hs hr
   have hlb10 : Boxed A10 (w.heap.size + 3) 68 (.slice la i lc) := hk10.boxed hlb9 (hone _ (by omega))
   have cl10 : A10.cell? ⟨w.heap.size + 1 + 1 + 1, 0, none⟩ = some (.slice la i lc) := hlb10.cell
   have fz10 : A10.frozen? ⟨w.heap.size + 1 + 1 + 1, 0, none⟩ = false := hlb10.frozen
   clear hgrow cl9 n0 n1 n2 n3 n4 n5 n6 n7 n8 hlk hup cs7 cp7 hk7g
   gi_wp2
   have hk11 : Keep (fun k _ => k ≠ w.heap.size + 3) A10 (A10.setCell ⟨w.heap.size + 3, 0, none⟩ (.slice va (i + 1) vc)) := (Keep.refl _ A10).setCell _ fun o _ hs _ => hs rfl
   have hlb11 : Boxed (A10.setCell ⟨w.heap.size + 3, 0, none⟩ (.slice va (i + 1) vc)) (w.heap.size + 3) 68 (.slice va (i + 1) vc) := hlb10.set _
   show (Keep _ A (A10.setCell ⟨w.heap.size + 3, 0, none⟩ (.slice va (i + 1) vc))) ∧ _
   generalize (A10.setCell ⟨w.heap.size + 3, 0, none⟩ (.slice va (i + 1) vc)) = A11 at hk11 hlb11
   have hkall : Keep (fun k _ => k ≠ w.heap.size + 3 ∧ k ≠ w.heap.size + 4 ∧ (Value.slice la i lc).ownBlock ≠ some k) A7 A11 :=
    ⟨hk11.os.trans (hk10.os.trans hk9.os), hk11.tape.trans (hk10.tape.trans hk9.tape), hk11.output.trans (hk10.output.trans hk9.output), Nat.le_trans hk9.size (Nat.le_trans hk10.size hk11.size), fun k o ho hK => hk11.same k o (hk10.same k o (hk9.same k o ho hK.2.1) hK.2.2) hK.1⟩
   have hrow11 := own_keep hown' hk11 fun g _ hg _ => by omega
   have hmp11 := hk11.same _ _ (hk10.same _ _ hmp9 (hone _ (by omega))) (by omega)
   have hgood : (Mem.mk ks gh a6 gl.length cc6 gl none 0).good (fun x => S x ∧ x ≠ w.heap.size + 2) A11 := ⟨hksz, hok6, hr7.keep (hp7.node_keep hkall) fun _ _ c f => .inl ⟨c, f, rfl⟩, RepS.nil _ _⟩
   exact ⟨Keep.ors (hp7.frame hkA7 hkall) _ hp1.node_ok, ms ++ [⟨ks, gh, a6, gl.length, cc6, gl, none, 0⟩], _, max er ge, HSPL.out.next (m := ⟨ks, gh, a6, gl.length, cc6, gl, none, 0⟩) HNEW.out, hp7.push hblt hkall hlb11 hrow11 hmp11 hnew hgood⟩
 case hdone =>
  rintro D A hD ⟨ms, lv, er, hs1, hp⟩ _ hkD hDB
  have hend := projP_end X l (ms.map (·.s)).reverse
  have hproj : projP X l [] = (ms.map Mem.pair, er) := by
   have h9 := hs1
   unfold PSpl at h9
   rw [hend] at h9
   simpa using h9
  clear hend hs1
  have HPR := Lib.hid hproj
  clear hproj
  clear hN hok hi hr hS0 hI0 hbm
  have hlen20 : ms.length ≤ 20 := by rw [hp.len]; omega
  have hsr := fun W (hs : Same A W) => sorted_any (fun x => S x ∧ x ≠ w.heap.size + 2) ms lv (w.heap.size + 7) W (by rw [hp.len]; exact own_same hp.row hs) hlen20 (fun m hm => (hp.good m hm).same hs) hp.dist (fun k hk => ⟨hS k (by have := hs.size; have := hp.sz; omega), by have := hs.size; have := hp.sz; omega⟩)
  obtain ⟨la, ln, lc, rfl⟩ : ∃ a n c, lv = .slice a n c := by
   rcases hp.row.2 with ⟨rfl, _⟩ | ⟨g, cap, cur, rfl, _⟩
   ·exact ⟨_, _, _, rfl⟩
   ·exact ⟨_, _, _, rfl⟩
  have cl : A.cell? ⟨w.heap.size + 1 + 1 + 1, 0, none⟩ = some (.slice la ln lc) := hp.lb.cell
  gi_wp2_with fail
  refine (callsW (hsr _ (Keep.refl _ _))).mono ?_
  rintro e A2 ⟨v2, rfl, hrep2, hk2⟩
  have hr2 := hk2.same _ _ hp.r trivial
  have hpb2 := hk2.same _ _ hp.pb trivial
  have hD2 := hk2.same _ _ hDB trivial
  have hfr2 := hp.fr.trans (Keep.of_same hk2)
  obtain ⟨va, vc, rfl⟩ := hrep2.is_slice
  obtain ⟨p0, p1, p2, p3, p4, p5, p6, p7, p8⟩ := cells9 hr2
  have hfz : ∀ j, A2.frozen? ⟨w.heap.size + 2, j, none⟩ = false := Lib.frozen_of_heap hr2
  gi_wp2
  obtain ⟨h9, hk9⟩ := put9 hr2 (.int .i64 8) (.bool false) (.bool false) (.string ⟨#[]⟩) (.int .i64 0) (.int .u64 0) (.int .i64 0) (.string ⟨#[]⟩) (.slice va (sortM (ms.map Mem.pair)).length vc)
  have hD9 := hk9.same _ _ hD2 (by omega)
  have hpb9 := hk9.same _ _ hpb2 (by omega)
  have hrep9 := hrep2.keep hk9 fun y hy _ _ => hy.2
  clear p0 p1 p2 p3 p4 p5 p6 p7 p8 hfz cl hsr
  refine ⟨by simp, .inl ⟨_, _, rfl, run_takeDeferred hD9, ?_⟩⟩
  have hrow := (World.putObj_heap_other (o := .deferred none) (by omega : w.heap.size + 2 ≠ D)).trans h9
  have hkp := (Keep.refl (fun k o => k ≠ D ∨ o.isCells = true) _).putObj (r := D) (.deferred none) fun o ho hs _ => by rw [hD9] at ho; cases ho; rcases hs with h | h; exact h rfl; cases h
  refine ⟨_, results_cell_row rfl _ _ (w.heap.size + 2) 27 _ (0, 0) _ rfl hrow Tryz.underlying27 rfl (by kernel_rfl), ⟨_, rfl, bare_ok 8 (by decide), ?_, ?_, ?_⟩⟩
  ·rw [HPR.out]; exact (hrep9.keep hkp fun _ _ _ _ => .inr rfl).mono fun _ _ h => h.1
  ·rw [HPR.out]; exact hkp.same _ _ hpb9 (.inr rfl)
  ·exact ⟨hkp.os.trans (hk9.os.trans hfr2.os), hkp.tape.trans (hk9.tape.trans hfr2.tape), hkp.output.trans (hk9.output.trans hfr2.output), Nat.le_trans hfr2.size (Nat.le_trans hk9.size hkp.size), fun y o hy hyb => hkp.same y o (hk9.same y o (hfr2.same y o hy hyb) (by have := lt_of_some hy; omega)) (.inl (by have := lt_of_some hy; omega))⟩
 case hstop =>
  rintro D i c A hD hi2 ⟨rfl, ms, lv, er, hproj, hp⟩ _ hkD hDB
  have HPR := Lib.hid hproj
  clear hproj
  clear hN hok hi hr hS0 hI0 hbm
  have hlen20 : ms.length ≤ 20 := by rw [hp.len]; omega
  have hsr := fun W (hs : Same A W) => sorted_any (fun x => S x ∧ x ≠ w.heap.size + 2) ms lv (w.heap.size + 7) W (by rw [hp.len]; exact own_same hp.row hs) hlen20 (fun m hm => (hp.good m hm).same hs) hp.dist (fun k hk => ⟨hS k (by have := hs.size; have := hp.sz; omega), by have := hs.size; have := hp.sz; omega⟩)
  obtain ⟨la, ln, lc, rfl⟩ : ∃ a n c, lv = .slice a n c := by
   rcases hp.row.2 with ⟨rfl, _⟩ | ⟨g, cap, cur, rfl, _⟩
   ·exact ⟨_, _, _, rfl⟩
   ·exact ⟨_, _, _, rfl⟩
  have cl : A.cell? ⟨w.heap.size + 1 + 1 + 1, 0, none⟩ = some (.slice la ln lc) := hp.lb.cell
  gi_wp2_with fail
  refine (callsW (hsr _ (Keep.refl _ _))).mono ?_
  rintro e A2 ⟨v2, rfl, hrep2, hk2⟩
  have hr2 := hk2.same _ _ hp.r trivial
  have hpb2 := hk2.same _ _ hp.pb trivial
  have hD2 := hk2.same _ _ hDB trivial
  have hfr2 := hp.fr.trans (Keep.of_same hk2)
  obtain ⟨va, vc, rfl⟩ := hrep2.is_slice
  obtain ⟨p0, p1, p2, p3, p4, p5, p6, p7, p8⟩ := cells9 hr2
  have hfz : ∀ j, A2.frozen? ⟨w.heap.size + 2, j, none⟩ = false := Lib.frozen_of_heap hr2
  gi_wp2
  obtain ⟨h9, hk9⟩ := put9 hr2 (.int .i64 8) (.bool false) (.bool false) (.string ⟨#[]⟩) (.int .i64 0) (.int .u64 0) (.int .i64 0) (.string ⟨#[]⟩) (.slice va (sortM (ms.map Mem.pair)).length vc)
  have hD9 := hk9.same _ _ hD2 (by omega)
  have hpb9 := hk9.same _ _ hpb2 (by omega)
  have hrep9 := hrep2.keep hk9 fun y hy _ _ => hy.2
  clear p0 p1 p2 p3 p4 p5 p6 p7 p8 hfz cl hsr
  refine ⟨by simp, .inl ⟨_, _, rfl, run_takeDeferred hD9, ?_⟩⟩
  have hrow := (World.putObj_heap_other (o := .deferred none) (by omega : w.heap.size + 2 ≠ D)).trans h9
  have hkp := (Keep.refl (fun k o => k ≠ D ∨ o.isCells = true) _).putObj (r := D) (.deferred none) fun o ho hs _ => by rw [hD9] at ho; cases ho; rcases hs with h | h; exact h rfl; cases h
  refine ⟨_, results_cell_row rfl _ _ (w.heap.size + 2) 27 _ (0, 0) _ rfl hrow Tryz.underlying27 rfl (by kernel_rfl), ⟨_, rfl, bare_ok 8 (by decide), ?_, ?_, ?_⟩⟩
  ·rw [HPR.out]; exact (hrep9.keep hkp fun _ _ _ _ => .inr rfl).mono fun _ _ h => h.1
  ·rw [HPR.out]; exact hkp.same _ _ hpb9 (.inr rfl)
  ·exact ⟨hkp.os.trans (hk9.os.trans hfr2.os), hkp.tape.trans (hk9.tape.trans hfr2.tape), hkp.output.trans (hk9.output.trans hfr2.output), Nat.le_trans hfr2.size (Nat.le_trans hk9.size hkp.size), fun y o hy hyb => hkp.same y o (hk9.same y o (hfr2.same y o hy hyb) (by have := lt_of_some hy; omega)) (.inl (by have := lt_of_some hy; omega))⟩
end Go.Tm
namespace Go.Tm
open Go.RowKit Go.Proofs
def formsA : Array MapEntry := #[{ key := .int .i64 2, val := .func (.func 60) #[] #[], born := 0 }, { key := .int .i64 5, val := .func (.func 60) #[] #[], born := 1 }, { key := .int .i64 6, val := .func (.func 61) #[] #[], born := 2 }, { key := .int .i64 11, val := .func (.func 62) #[] #[], born := 3 }, { key := .int .i64 9, val := .func (.func 63) #[] #[], born := 4 }, { key := .int .i64 7, val := .func (.func 64) #[] #[], born := 5 }, { key := .int .i64 8, val := .func (.func 65) #[] #[], born := 6 }]
def formV' (k : Int) : Value := if k = 2 ∨ k = 5 then .func (.func 60) #[] #[] else if k = 6 then .func (.func 61) #[] #[] else if k = 11 then .func (.func 62) #[] #[] else if k = 9 then .func (.func 63) #[] #[] else if k = 7 then .func (.func 64) #[] #[] else if k = 8 then .func (.func 65) #[] #[] else .nilFunc
def isFormB (k : Int) : Bool := decide (k = 2 ∨ k = 5 ∨ k = 6 ∨ k = 11 ∨ k = 9 ∨ k = 7 ∨ k = 8)
set_option maxRecDepth 100000 in
set_option maxHeartbeats 2000000 in
theorem pforms_any (w : World) : Calls Tryz.prog 39 #[] w fun e w' => ∃ b, e = .returned (.map (some b)) ∧ w'.heap[b]? = some (.map formsA 7) ∧ Same w w' := by
 go_enter Tryz.func39, Tryz.ntmps39
 go_wp2
 rw [run_makeMap]
 obtain ⟨X, hX⟩ : ∃ X, w.alloc (.map #[] 0) = X := ⟨_, rfl⟩
 have hs : Same w X := by rw [← hX]; exact smK
 have hm : X.heap[w.heap.size]? = some (.map (formsA.extract 0 0) 0) := by rw [← hX]; exact World.alloc_heap_new w _
 rw [hX]
 clear hX
 go_wp2
 rw [run_mapUpdate_new (d := .int .i64) (.int .i64 2) (.func (.func 60) #[] #[]) Tryz.underlying63 Tryz.underlying3 rfl hm (by rfl)]
 generalize hX : World.putObj _ _ _ = X; replace hs : Same w X := by rw [← hX]; exact hs.putObj _ fun o _ _ h => by omega
 replace hm : X.heap[w.heap.size]? = some (.map (formsA.extract 0 1) 1) := by rw [← hX]; exact World.putObj_heap_same (lt_of_some hm)
 clear hX
 go_wp2
 rw [run_mapUpdate_new (d := .int .i64) (.int .i64 5) (.func (.func 60) #[] #[]) Tryz.underlying63 Tryz.underlying3 rfl hm (by rfl)]
 generalize hX : World.putObj _ _ _ = X; replace hs : Same w X := by rw [← hX]; exact hs.putObj _ fun o _ _ h => by omega
 replace hm : X.heap[w.heap.size]? = some (.map (formsA.extract 0 2) 2) := by rw [← hX]; exact World.putObj_heap_same (lt_of_some hm)
 clear hX
 go_wp2
 rw [run_mapUpdate_new (d := .int .i64) (.int .i64 6) (.func (.func 61) #[] #[]) Tryz.underlying63 Tryz.underlying3 rfl hm (by rfl)]
 generalize hX : World.putObj _ _ _ = X; replace hs : Same w X := by rw [← hX]; exact hs.putObj _ fun o _ _ h => by omega
 replace hm : X.heap[w.heap.size]? = some (.map (formsA.extract 0 3) 3) := by rw [← hX]; exact World.putObj_heap_same (lt_of_some hm)
 clear hX
 go_wp2
 rw [run_mapUpdate_new (d := .int .i64) (.int .i64 11) (.func (.func 62) #[] #[]) Tryz.underlying63 Tryz.underlying3 rfl hm (by rfl)]
 generalize hX : World.putObj _ _ _ = X; replace hs : Same w X := by rw [← hX]; exact hs.putObj _ fun o _ _ h => by omega
 replace hm : X.heap[w.heap.size]? = some (.map (formsA.extract 0 4) 4) := by rw [← hX]; exact World.putObj_heap_same (lt_of_some hm)
 clear hX
 go_wp2
 rw [run_mapUpdate_new (d := .int .i64) (.int .i64 9) (.func (.func 63) #[] #[]) Tryz.underlying63 Tryz.underlying3 rfl hm (by rfl)]
 generalize hX : World.putObj _ _ _ = X; replace hs : Same w X := by rw [← hX]; exact hs.putObj _ fun o _ _ h => by omega
 replace hm : X.heap[w.heap.size]? = some (.map (formsA.extract 0 5) 5) := by rw [← hX]; exact World.putObj_heap_same (lt_of_some hm)
 clear hX
 go_wp2
 rw [run_mapUpdate_new (d := .int .i64) (.int .i64 7) (.func (.func 64) #[] #[]) Tryz.underlying63 Tryz.underlying3 rfl hm (by rfl)]
 generalize hX : World.putObj _ _ _ = X; replace hs : Same w X := by rw [← hX]; exact hs.putObj _ fun o _ _ h => by omega
 replace hm : X.heap[w.heap.size]? = some (.map (formsA.extract 0 6) 6) := by rw [← hX]; exact World.putObj_heap_same (lt_of_some hm)
 clear hX
 go_wp2
 rw [run_mapUpdate_new (d := .int .i64) (.int .i64 8) (.func (.func 65) #[] #[]) Tryz.underlying63 Tryz.underlying3 rfl hm (by rfl)]
 generalize hX : World.putObj _ _ _ = X; replace hs : Same w X := by rw [← hX]; exact hs.putObj _ fun o _ _ h => by omega
 replace hm : X.heap[w.heap.size]? = some (.map (formsA.extract 0 7) 7) := by rw [← hX]; exact World.putObj_heap_same (lt_of_some hm)
 clear hX
 go_wp2
 go_ret
 exact ⟨_, rfl, hm, hs⟩
theorem lookup_forms (A : World) (kb : Nat) (k : Int) (hm : A.heap[kb]? = some (.map formsA 7)) :
  (Instr.lookup 63 (.map (some kb)) (.int .i64 k) true).run Tryz.prog A = .ok (.tuple #[formV' k, .bool (isFormB k)]) A := by
 by_cases h1 : k = 2 ∨ k = 5 ∨ k = 6 ∨ k = 11 ∨ k = 9 ∨ k = 7 ∨ k = 8
 ·have hb : isFormB k = true := decide_eq_true h1
  rw [hb]
  rcases h1 with rfl | rfl | rfl | rfl | rfl | rfl | rfl
  ·exact run_lookup_ok (d := .int .i64) (i := 0) (v := formV' 2) (.int .i64 2) Tryz.underlying63 Tryz.underlying3 rfl hm (by rfl) true
  ·exact run_lookup_ok (d := .int .i64) (i := 1) (v := formV' 5) (.int .i64 5) Tryz.underlying63 Tryz.underlying3 rfl hm (by rfl) true
  ·exact run_lookup_ok (d := .int .i64) (i := 2) (v := formV' 6) (.int .i64 6) Tryz.underlying63 Tryz.underlying3 rfl hm (by rfl) true
  ·exact run_lookup_ok (d := .int .i64) (i := 3) (v := formV' 11) (.int .i64 11) Tryz.underlying63 Tryz.underlying3 rfl hm (by rfl) true
  ·exact run_lookup_ok (d := .int .i64) (i := 4) (v := formV' 9) (.int .i64 9) Tryz.underlying63 Tryz.underlying3 rfl hm (by rfl) true
  ·exact run_lookup_ok (d := .int .i64) (i := 5) (v := formV' 7) (.int .i64 7) Tryz.underlying63 Tryz.underlying3 rfl hm (by rfl) true
  ·exact run_lookup_ok (d := .int .i64) (i := 6) (v := formV' 8) (.int .i64 8) Tryz.underlying63 Tryz.underlying3 rfl hm (by rfl) true
 ·have hb : isFormB k = false := decide_eq_false h1
  have hv : formV' k = .nilFunc := by unfold formV'; rw [if_neg (by omega), if_neg (by omega), if_neg (by omega), if_neg (by omega), if_neg (by omega), if_neg (by omega)]
  rw [hb, hv]
  refine run_lookup_none (d := .int .i64) (z := .nilFunc) _ Tryz.underlying63 Tryz.underlying3 ?_ (fun w => by kernel_rfl) hm ?_ true
  ·rfl
  ·have hs : ∀ j : Int, k ≠ j → Instr.sameNow (.int .i64) (.int .i64 k) (.int .i64 j) = some false := fun j h => by
    have h5 : (k == j) = false := by rw [beq_eq_false_iff_ne]; exact h
    show some (k == j) = _
    rw [h5]
   simp [formsA, Instr.findNow, hs 2 (by omega), hs 5 (by omega), hs 6 (by omega), hs 11 (by omega), hs 9 (by omega), hs 7 (by omega), hs 8 (by omega)]
end Go.Tm
namespace Go.Tm
theorem makeB_right (neg : Bool) (s : ByteArray) (e : Int) (h : (makeB neg s e).2 = 0) : decRight (makeB neg s e).1 = true := by
 unfold makeB at h ⊢
 by_cases h1 : s.size = 0 ∨ 400 < s.size ∨ within e 1000 = false ∨ (bytesN s).all isDig = false
 ·rw [if_pos h1] at h; cases h
 ·rw [if_neg h1] at h ⊢
  dsimp only at h ⊢
  split at h
  ·rename_i h2; rw [if_pos h2]; decide
  ·rename_i h2
   rw [if_neg h2]
   split at h
   ·rename_i h3; rw [if_pos h3]; exact h3
   ·cases h
theorem toDecM_right (b : Nat) (h : (toDecM b).2 = 0) : decRight (toDecM b).1 = true := by
 unfold toDecM at h ⊢
 by_cases h1 : b >>> 52 &&& 2047 = 2047
 ·rw [if_pos h1] at h; cases h
 ·rw [if_neg h1] at h ⊢
  by_cases h2 : fracOf b = 0
  ·rw [if_pos h2]; decide
  ·rw [if_neg h2] at h ⊢
   unfold toDecF at h ⊢
   dsimp only at h ⊢
   generalize powerM _ _ = p at h ⊢
   by_cases h3 : p.2 ≠ 0
   ·rw [if_pos h3] at h; exact absurd h (by decide)
   ·rw [if_neg h3] at h ⊢
    generalize prodM _ _ = q at h ⊢
    by_cases h4 : q.2 = false
    ·rw [if_pos h4] at h; exact absurd h (by decide)
    ·rw [if_neg h4] at h ⊢
     exact makeB_right _ _ _ h
theorem decimal_right {X : Hd → Dc × Bool} (hX : ∀ h, (X h).2 = true → decRight (X h).1 = true) (t : Tree) (h : (decimalM X t).2 = true) : decRight (decimalM X t).1 = true := by
 unfold decimalM at h ⊢
 by_cases h3 : t.hd.kind = 3
 ·rw [if_pos h3] at h ⊢; exact h
 ·rw [if_neg h3] at h ⊢
  by_cases h4 : t.hd.kind = 4
  ·rw [if_pos h4] at h ⊢
   unfold ofFloatM at h ⊢
   by_cases h5 : (widen t.hd.u t.hd.w).2 ≠ 0
   ·rw [if_pos h5] at h; cases h
   ·rw [if_neg h5] at h ⊢; exact toDecM_right _ (of_decide_eq_true h)
  ·rw [if_neg h4] at h ⊢
   by_cases h9 : t.hd.kind = 9
   ·rw [if_pos h9] at h ⊢
    unfold ofTagM at h ⊢
    split at h
    ·cases h
    ·rename_i h6
     rw [if_neg h6]
     dsimp only at h ⊢
     split at h
     ·cases h
     ·rename_i h7; rw [if_neg h7]; exact makeB_right _ _ _ (of_decide_eq_true h)
   ·rw [if_neg h9] at h ⊢
    by_cases h11 : t.hd.kind = 11
    ·rw [if_pos h11] at h ⊢; exact hX _ h
    ·rw [if_neg h11] at h; cases h
theorem codeT_le (s : ByteArray) : (codeT s).2 ≤ 2 := by
 show (if s.size ≤ 400 then 0 else 1) ≤ 2
 split <;> omega
mutual
theorem Tree.proj_le (X : Hd → Dc × Bool) : ∀ t : Tree, (t.proj X).2 ≤ 2
 | .node h l => by
  rw [Tree.proj]
  have h1 := projT_le X l
  have h2 := projL_le X l
  have h3 := projP_le X l []
  repeat' split
  all_goals first | exact Nat.zero_le _ | exact codeT_le _ | assumption
theorem projT_le (X : Hd → Dc × Bool) : ∀ l : List Tree, (projT X l).2 ≤ 2
 | [] => by rw [projT]; exact Nat.zero_le _
 | x :: l => by rw [projT]; exact Tree.proj_le X x
theorem projL_le (X : Hd → Dc × Bool) : ∀ l : List Tree, (projL X l).2 ≤ 2
 | [] => by rw [projL]; exact Nat.zero_le _
 | x :: l => by
  have h1 := Tree.proj_le X x
  have h2 := projL_le X l
  rw [projL]
  show max _ _ ≤ 2
  omega
theorem projP_le (X : Hd → Dc × Bool) : ∀ (l : List Tree) (seen : List ByteArray), (projP X l seen).2 ≤ 2
 | [], seen => by rw [projP]; exact Nat.zero_le _; intro k x l h; cases h
 | [_], seen => by rw [projP]; exact Nat.zero_le _; intro k x l h; cases h
 | k :: x :: l, seen => by
  have h1 := Tree.proj_le X x
  have h2 := projP_le X l ((renderM k).1 :: seen)
  rw [projP]
  split
  ·show max _ _ ≤ 2
   omega
  ·show max _ _ ≤ 2
   omega
end
end Go.Tm
namespace Go.Tm
open Go.RowKit Go.Proofs
theorem turned_le (xs : List Nat) : (turnedN 6 xs).length ≤ 8 * xs.length + 1 := by
 have h := outs_len 6 8 (0, 0) xs
 unfold turnedN
 rw [List.length_append]
 have h2 : ∀ (c : Prop) [Decidable c] (y : Nat), (if c then [y] else []).length ≤ 1 := fun c _ y => by split <;> simp
 have := h2 (0 < (finAt 6 8 xs xs.length).2) ((finAt 6 8 xs xs.length).1 * 2 ^ (6 - (finAt 6 8 xs xs.length).2))
 simp only at h
 omega
theorem code_size (s : ByteArray) : (strN (codeN (bytesN s)).1).size ≤ 3201 := by
 rw [strN_size]
 unfold codeN
 split
 ·rename_i h
  have := turned_le (bytesN s)
  simp only [signsOf, List.length_map]
  omega
 ·simp
theorem code_ok (s : ByteArray) : (codeT s).1.hd.ok := text_ok (Nat.le_trans (code_size s) (by decide))
theorem right_bounds {d : Dc} (h : decRight d = true) : d.digits.size ≤ 100 ∧ -1000 ≤ d.exp ∧ d.exp ≤ 1000 := by
 unfold decRight at h
 rw [Bool.or_eq_true] at h
 rcases h with h | h
 ·rw [of_decide_eq_true h]; decide
 ·simp only [Bool.and_eq_true] at h
  obtain ⟨⟨⟨_, h1⟩, h2⟩, _⟩ := h
  refine ⟨of_decide_eq_true h1, ?_⟩
  unfold within at h2
  simp at h2
  omega
theorem num_ok {d : Dc} (h : decRight d = true) : ({ bareHd 3 with d := d } : Hd).ok := by
 obtain ⟨h1, h2, h3⟩ := right_bounds h
 exact ⟨by show (-9223372036854775808 : Int) ≤ 3 ∧ (3 : Int) ≤ 9223372036854775807; decide, by show -9223372036854775808 ≤ d.exp ∧ d.exp ≤ 9223372036854775807; omega, by show (-9223372036854775808 : Int) ≤ 0 ∧ (0 : Int) ≤ 9223372036854775807; decide, by show 0 < 18446744073709551616; decide, by show d.digits.size ≤ 1099511627776; omega, Nat.zero_le _⟩
def formFn (k : Int) : Nat := if k = 2 ∨ k = 5 then 60 else if k = 6 then 61 else if k = 11 then 62 else if k = 9 then 63 else if k = 7 then 64 else 65
theorem form_kind {k : Int} (h : isFormB k = true) : k = 2 ∨ k = 5 ∨ k = 6 ∨ k = 11 ∨ k = 9 ∨ k = 7 ∨ k = 8 := of_decide_eq_true h
theorem form_val {k : Int} (h : isFormB k = true) : formV' k = .func (.func (formFn k)) #[] #[] := by
 rcases form_kind h with rfl | rfl | rfl | rfl | rfl | rfl | rfl <;> rfl
theorem form_enters (k : Int) (args : Array Value) (w : World) (h : isFormB k = true) : (callFunc (formFn k) args).run Tryz.prog w = .ok (.enter (formFn k) args) w := by
 rcases form_kind h with rfl | rfl | rfl | rfl | rfl | rfl | rfl
 ·exact enters_of Tryz.func60 (by kernel_rfl) rfl args w
 ·exact enters_of Tryz.func60 (by kernel_rfl) rfl args w
 ·exact enters_of Tryz.func61 (by kernel_rfl) rfl args w
 ·exact enters_of Tryz.func62 (by kernel_rfl) rfl args w
 ·exact enters_of Tryz.func63 (by kernel_rfl) rfl args w
 ·exact enters_of Tryz.func64 (by kernel_rfl) rfl args w
 ·exact enters_of Tryz.func65 (by kernel_rfl) rfl args w
theorem tag_len {h : Hd} {l : List Tree} (e : h.kind = 9) (hown : ownT (.node h l) = true) : l.length = 1 := by
 unfold ownT at hown
 simp only [Tree.hd_node, Tree.l_node, e] at hown
 simp at hown
 exact of_decide_eq_true hown.2
def formM (X : Hd → Dc × Bool) (h : Hd) (l : List Tree) : Tree × Nat :=
 if h.kind = 2 ∨ h.kind = 5 then (.node h l, 0)
 else if h.kind = 6 then codeT h.s
 else if h.kind = 11 then codeT (extText h)
 else if h.kind = 9 then projT X l
 else if h.kind = 7 then (.node (bareHd 7) (projL X l).1, (projL X l).2)
 else (.node (bareHd 8) (sortM (projP X l []).1), (projP X l []).2)
theorem proj_eq (X : Hd → Dc × Bool) (h : Hd) (l : List Tree) : (Tree.node h l).proj X = if (decimalM X (.node h l)).2 then (numT (decimalM X (.node h l)).1, 0) else if isFormB h.kind = true then formM X h l else (.node (bareHd 1) [], 0) := by
 rw [Tree.proj]
 split
 ·rfl
 ·by_cases hf : isFormB h.kind = true
  ·rw [if_pos hf]
   unfold formM
   rcases form_kind hf with e | e | e | e | e | e | e <;> simp [e]
  ·rw [if_neg hf]
   have hn : ¬ (h.kind = 2 ∨ h.kind = 5 ∨ h.kind = 6 ∨ h.kind = 11 ∨ h.kind = 9 ∨ h.kind = 7 ∨ h.kind = 8) := fun h' => hf (decide_eq_true h')
   rw [if_neg (by omega), if_neg (by omega), if_neg (by omega), if_neg (by omega), if_neg (by omega), if_neg (by omega)]
theorem form_run {X : Hd → Dc × Bool} {N d : Nat} {E : Errs} (hN : NodeAt' X N E d) (h : Hd) (l : List Tree) (S : Nat → Prop) (lv : Value) (w : World) (st b : Nat) (hk : isFormB h.kind = true) (hd : (Tree.node h l).depth ≤ d + 1) (hdm : d ≤ 1000000) (hG : Glob N E w) (hNb : N ≤ b) (hst : st ≤ 2) (ho : h.ok) (hr : RepS S w l lv)
  (hS : ∀ k, w.heap.size ≤ k → S k) (hok : TreeOk X N E (.node h l)) (hb : PB E b st w) :
  Calls Tryz.prog (formFn h.kind) #[.pointer (some ⟨b, 0, none⟩), nodeV h lv] w (Outs E S b st (formM X h l) w) := by
 have hdl : depthL l ≤ d := by rw [Tree.depth] at hd; omega
 have hown := (hok _ (self_flat _)).1
 have hs4 := own_s hown
 simp only [Tree.hd_node] at hs4
 obtain ⟨a, cap, rfl⟩ := hr.is_slice
 unfold formM
 rcases form_kind hk with e | e | e | e | e | e | e
 ·rw [if_pos (by omega), show formFn h.kind = 60 by rw [e]; rfl]
  refine (psame_any h a l.length cap _ w).mono ?_
  rintro x w' ⟨rfl, hs⟩
  exact ⟨_, rfl, ho, hr.same hs, by rw [Nat.max_zero]; exact hs.same _ _ hb trivial, Keep.of_same hs⟩
 ·rw [if_pos (by omega), show formFn h.kind = 60 by rw [e]; rfl]
  refine (psame_any h a l.length cap _ w).mono ?_
  rintro x w' ⟨rfl, hs⟩
  exact ⟨_, rfl, ho, hr.same hs, by rw [Nat.max_zero]; exact hs.same _ _ hb trivial, Keep.of_same hs⟩
 ·rw [if_neg (by omega), if_pos e, show formFn h.kind = 61 by rw [e]; rfl]
  refine (praw_any st b h a l.length cap w hG hst (by omega) hb).mono ?_
  rintro x w' ⟨rfl, hb', hk'⟩
  refine ⟨_, rfl, code_ok _, RepS.nil _ _, ?_, hk'⟩
  have : (if h.s.size ≤ 400 then st else max st 1) = max st (codeT h.s).2 := by
   show _ = max st (if h.s.size ≤ 400 then 0 else 1)
   split <;> omega
  rw [this] at hb'
  exact hb'
 ·rw [if_neg (by omega), if_neg (by omega), if_pos e, show formFn h.kind = 62 by rw [e]; rfl]
  refine (pext_any st b h a l.length cap w hG hst (by omega) ho.2.2.2.1 hb).mono ?_
  rintro x w' ⟨rfl, hb', hk'⟩
  refine ⟨_, rfl, code_ok _, RepS.nil _ _, ?_, hk'⟩
  have : (if (extText h).size ≤ 400 then st else max st 1) = max st (codeT (extText h)).2 := by
   show _ = max st (if (extText h).size ≤ 400 then 0 else 1)
   split <;> omega
  rw [this] at hb'
  exact hb'
 ·rw [if_neg (by omega), if_neg (by omega), if_neg (by omega), if_pos e, show formFn h.kind = 63 by rw [e]; rfl]
  have hlen : l.length = 1 := tag_len (h := h) (l := l) e hown
  obtain ⟨c, rfl⟩ : ∃ c, l = [c] := by
   match l, hlen with
   | [c], _ => exact ⟨c, rfl⟩
  rw [projT]
  have hdc := depthL_get [c] 0 (by simp)
  simp only [List.getElem_cons_zero] at hdc
  exact ptag_any hN h c S _ w st b (by omega) hG hNb hst hr hS (hok.kid (by simp)) hb
 ·rw [if_neg (by omega), if_neg (by omega), if_neg (by omega), if_neg (by omega), if_pos e, show formFn h.kind = 64 by rw [e]; rfl]
  exact parray_any hN (Tree.proj_le X) h l S _ w st b hdl hG hNb hst hr hS (fun x hx => hok.kid hx) hb
 ·rw [if_neg (by omega), if_neg (by omega), if_neg (by omega), if_neg (by omega), if_neg (by omega), show formFn h.kind = 65 by rw [e]; rfl]
  exact ppairs_any hN (Tree.proj_le X) h l S _ w st b hdl hG hNb hst hr hS (fun x hx => hok.kid hx) hb ((hok _ (self_flat _)).2.2 e) (by omega)
end Go.Tm
namespace Go.Tm
open Go.RowKit Go.Proofs
def readsN (o : Oper) : Bool := match o.op with
 | .lookup .. => false
 | _ => reads o
set_option maxRecDepth 100000 in
set_option maxHeartbeats 8000000 in
theorem pnode_step {X : Hd → Dc × Bool} {N d : Nat} {E : Errs} (hN : NodeAt' X N E d) (hX : ∀ h, (X h).2 = true → decRight (X h).1 = true) (hdm : d ≤ 1000000) : NodeAt' X N E (d + 1) := by
 intro t S lv w st b htd hG hNb hst ho hr hS hok hb
 have hdec := fun W (hs : Same w W) => decimal_any X S t lv W (hG.same hs) ho (hr.same hs) (fun x hx => own_s (hok x hx).1) (fun h11 W' hs' => (hok t (self_flat t)).2.1 h11 W' lv ((hG.same hs).same hs') (Nat.le_trans (Nat.le_trans hNb (Nat.le_of_lt (lt_of_some hb))) (hs.trans hs').size) (((hr.same hs).same hs').mono fun _ _ _ => trivial))
 obtain ⟨a, cap, rfl⟩ := hr.is_slice
 have hblt := lt_of_some hb
 have hdr := decimal_right hX t
 obtain ⟨h, l⟩ := t
 simp only [Tree.hd_node, Tree.l_node] at *
 have hpe := proj_eq X h l
 have hrun := fun W (hs : Same w W) (hz : w.heap.size + 2 ≤ W.heap.size) hk => form_run hN h l (fun k => S k ∧ k ≠ w.heap.size + 1) (.slice a l.length cap) W st b hk htd hdm (hG.same hs) hNb hst ho
  ((hr.mono (fun k hk h => (⟨h, by omega⟩ : _ ∧ _))).same hs) (fun k hk => ⟨hS k (by omega), by omega⟩) hok (hs.same _ _ hb trivial)
 have hfv := @form_val h.kind
 have hfe := form_enters h.kind
 obtain ⟨⟨dd, ok⟩, hD⟩ : ∃ q, decimalM X (.node h l) = q := ⟨_, rfl⟩
 rw [hD] at hdec hpe hdr
 obtain ⟨g, hg⟩ : ∃ g, formFn h.kind = g := ⟨_, rfl⟩
 rw [hg] at hfv hfe hrun
 obtain ⟨R, hR⟩ : ∃ R, (Tree.node h l).proj X = R := ⟨_, rfl⟩
 rw [hR] at hpe ⊢
 have HR := Lib.hid hpe
 clear hpe hD hg hN hX hR
 unfold Outs at hrun ⊢
 have hb0 : ((w.alloc (.cells #[.int .i64 h.kind, .bool h.b, .bool h.d.neg, .string h.d.digits, .int .i64 h.d.exp, .int .u64 (h.u : Int), .int .i64 h.w, .string h.s, .slice a l.length cap] 27)).alloc (.cells #[.int .i64 0, .bool false, .bool false, .string ⟨#[]⟩, .int .i64 0, .int .u64 0, .int .i64 0, .string ⟨#[]⟩, .slice none 0 0] 27)).heap[w.heap.size]? = some (.cells #[.int .i64 h.kind, .bool h.b, .bool h.d.neg, .string h.d.digits, .int .i64 h.d.exp, .int .u64 (h.u : Int), .int .i64 h.w, .string h.s, .slice a l.length cap] 27 (0, 0)) := heap_old (World.alloc_heap_new w _)
 have hb1 : ((w.alloc (.cells #[.int .i64 h.kind, .bool h.b, .bool h.d.neg, .string h.d.digits, .int .i64 h.d.exp, .int .u64 (h.u : Int), .int .i64 h.w, .string h.s, .slice a l.length cap] 27)).alloc (.cells #[.int .i64 0, .bool false, .bool false, .string ⟨#[]⟩, .int .i64 0, .int .u64 0, .int .i64 0, .string ⟨#[]⟩, .slice none 0 0] 27)).heap[w.heap.size + 1]? = some (.cells #[.int .i64 0, .bool false, .bool false, .string ⟨#[]⟩, .int .i64 0, .int .u64 0, .int .i64 0, .string ⟨#[]⟩, .slice none 0 0] 27 (0, 0)) := heap_new' (by simp)
 have hk0 : Same w ((w.alloc (.cells #[.int .i64 h.kind, .bool h.b, .bool h.d.neg, .string h.d.digits, .int .i64 h.d.exp, .int .u64 (h.u : Int), .int .i64 h.w, .string h.s, .slice a l.length cap] 27)).alloc (.cells #[.int .i64 0, .bool false, .bool false, .string ⟨#[]⟩, .int .i64 0, .int .u64 0, .int .i64 0, .string ⟨#[]⟩, .slice none 0 0] 27)) := smK
 have hz0 : ((w.alloc (.cells #[.int .i64 h.kind, .bool h.b, .bool h.d.neg, .string h.d.digits, .int .i64 h.d.exp, .int .u64 (h.u : Int), .int .i64 h.w, .string h.s, .slice a l.length cap] 27)).alloc (.cells #[.int .i64 0, .bool false, .bool false, .string ⟨#[]⟩, .int .i64 0, .int .u64 0, .int .i64 0, .string ⟨#[]⟩, .slice none 0 0] 27)).heap.size = w.heap.size + 2 := by simp
 have hdec0 := hdec _ hk0
 go_enter Tryz.func26, Tryz.ntmps26
 go_wp2_with fail
 refine hdec0.mono ?_
 rintro x w1 ⟨rfl, hk1⟩
 have hb01 := hk1.same _ _ hb0 trivial
 have hb11 := hk1.same _ _ hb1 trivial
 have hkw1 := hk0.trans hk1
 have hzw := hk1.size
 rw [hz0] at hzw
 clear hk1 hb0 hb1 hk0 hz0 hdec hdec0
 have hb02 := heap_old (o := (.cells #[.bool dd.neg, .string dd.digits, .int .i64 dd.exp] 23)) hb01
 have hb12 := heap_old (o := (.cells #[.bool dd.neg, .string dd.digits, .int .i64 dd.exp] 23)) hb11
 have hkw2 : Same w (w1.alloc (.cells #[.bool dd.neg, .string dd.digits, .int .i64 dd.exp] 23)) := hkw1.alloc _
 have hz2 : (w1.alloc (.cells #[.bool dd.neg, .string dd.digits, .int .i64 dd.exp] 23)).heap.size = w1.heap.size + 1 := by simp
 obtain ⟨c0, c1, c2, c3, c4, c5, c6, c7, c8⟩ := cells9 hb12
 have hfz : ∀ j, (w1.alloc (.cells #[.bool dd.neg, .string dd.digits, .int .i64 dd.exp] 23)).frozen? ⟨w.heap.size + 1, j, none⟩ = false := Lib.frozen_of_heap hb12
 cases ok with
 | true =>
  have HR1 := Lib.hid (show R = (numT dd, 0) from by rw [HR.out]; simp)
  go_wp2_with fail
  (try simp only [Exit.inBlock, Exit.then])
  obtain ⟨h9, hk9⟩ := put9 hb12 (.int .i64 3) (.bool false) (.bool dd.neg) (.string dd.digits) (.int .i64 dd.exp) (.int .u64 0) (.int .i64 0) (.string ⟨#[]⟩) (.slice none 0 0)
  refine bodyPost_ret (results_cell_row rfl _ _ (w.heap.size + 1) 27 _ (0, 0) _ rfl h9 Tryz.underlying27 rfl (by kernel_rfl)) rfl ⟨_, by rw [HR1.out]; rfl, by rw [HR1.out]; exact num_ok (hdr (by trivial)), by rw [HR1.out]; exact RepS.nil _ _, ?_, ?_⟩
  ·rw [HR1.out, Nat.max_zero]; exact hk9.same _ _ (hkw2.same _ _ hb trivial) (by omega)
  ·exact ⟨hk9.os.trans hkw2.os, hk9.tape.trans hkw2.tape, hk9.output.trans hkw2.output, Nat.le_trans hkw2.size hk9.size, fun k o hk hne => hk9.same k o (hkw2.same k o hk trivial) (by have := lt_of_some hk; omega)⟩
 | false =>
  clear hb01 hb11 hkw1 hdr c0 c1 c2 c3 c4 c5 c6 c7 c8 hfz
  cases hkb : isFormB h.kind with
  | false =>
   have HR1 := Lib.hid (show R = (.node (bareHd 1) [], 0) from by rw [HR.out]; simp [hkb])
   go_wp2_with fail
   generalize w1.alloc (.cells #[.bool dd.neg, .string dd.digits, .int .i64 dd.exp] 23) = W2 at hb02 hb12 hkw2 hz2 ⊢
   obtain ⟨y0, y1, y2, y3, y4, y5, y6, y7, y8⟩ := cells9 hb02
   refine (wpIn_wide (n := 0)).1 ?_
   refine wpIn_region_shut (n := 0) (fun Z => Z.heap[w.heap.size]? = some (.cells #[.int .i64 h.kind, .bool h.b, .bool h.d.neg, .string h.d.digits, .int .i64 h.d.exp, .int .u64 (h.u : Int), .int .i64 h.w, .string h.s, .slice a l.length cap] 27 (0, 0))) readsN (fun _ => trivial) rfl (by kernel_rfl) (by kernel_rfl) hb02 ?_
   refine shT_c rfl rfl ?_; intro K hK; go_simp; refine (callsW (pforms_any _)).mono ?_; rintro x w3 ⟨mb, rfl, hm3, hk3⟩; have hb03 := hk3.same _ _ hb02 trivial; have hb13 := hk3.same _ _ hb12 trivial; have hkw3 : Same w w3 := hkw2.trans (Keep.trans ((Keep.refl _ _).drew) hk3); have hz3 : W2.heap.size ≤ w3.heap.size := hk3.size; refine hK _ _ hb03 ?_; clear hK K y0 y1 y2 y3 y4 y5 y6 y7 y8; obtain ⟨z0, z1, z2, z3, z4, z5, z6, z7, z8⟩ := cells9 hb03; obtain ⟨u0, u1, u2, u3, u4, u5, u6, u7, u8⟩ := cells9 hb13; have hfz : ∀ j, w3.frozen? ⟨w.heap.size + 1, j, none⟩ = false := Lib.frozen_of_heap hb13; have L := lookup_forms w3 mb h.kind hm3; refine shT_x rfl rfl ?_; intro K hK w' hs; obtain ⟨p0, p1, p2, p3, p4, p5, p6, p7, p8⟩ := cells9 hs; go_simp; refine hK _ _ ?_; clear hK K p0 p1 p2 p3 p4 p5 p6 p7 p8 hs w'; refine shT_x rfl rfl ?_; intro K hK w' hs; obtain ⟨p0, p1, p2, p3, p4, p5, p6, p7, p8⟩ := cells9 hs; go_simp; refine hK _ _ ?_; clear hK K p0 p1 p2 p3 p4 p5 p6 p7 p8 hs w'
   rw [hkb] at L
   obtain ⟨fv, hfv2⟩ : ∃ fv, formV' h.kind = fv := ⟨_, rfl⟩
   rw [hfv2] at L
   refine shT_c rfl rfl ?_; intro K hK; go_simp; refine hK _ _ hb03 ?_; clear hK K L; refine shT_x rfl rfl ?_; intro K hK w' hs; obtain ⟨p0, p1, p2, p3, p4, p5, p6, p7, p8⟩ := cells9 hs; go_simp; refine hK _ _ ?_; clear hK K p0 p1 p2 p3 p4 p5 p6 p7 p8 hs w'; refine shT_x rfl rfl ?_; intro K hK w' hs; obtain ⟨p0, p1, p2, p3, p4, p5, p6, p7, p8⟩ := cells9 hs; go_simp; refine hK _ _ ?_; clear hK K p0 p1 p2 p3 p4 p5 p6 p7 p8 hs w'; refine shT_x rfl rfl ?_; intro K hK w' hs; obtain ⟨p0, p1, p2, p3, p4, p5, p6, p7, p8⟩ := cells9 hs; go_simp; refine hK _ _ ?_; clear hK K p0 p1 p2 p3 p4 p5 p6 p7 p8 hs w'; refine shT_x rfl rfl ?_; intro K hK w' hs; obtain ⟨p0, p1, p2, p3, p4, p5, p6, p7, p8⟩ := cells9 hs; go_simp; refine hK _ _ ?_; clear hK K p0 p1 p2 p3 p4 p5 p6 p7 p8 hs w'; refine shT_x rfl rfl ?_; intro K hK w' hs; obtain ⟨p0, p1, p2, p3, p4, p5, p6, p7, p8⟩ := cells9 hs; go_simp; refine hK _ _ ?_; clear hK K p0 p1 p2 p3 p4 p5 p6 p7 p8 hs w'; refine shT_nil ?_
   go_wp2_with fail
   (try simp only [Exit.inBlock, Exit.then])
   obtain ⟨h9, hk9⟩ := put9 hb13 (.int .i64 1) (.bool false) (.bool false) (.string ⟨#[]⟩) (.int .i64 0) (.int .u64 0) (.int .i64 0) (.string ⟨#[]⟩) (.slice none 0 0)
   refine bodyPost_ret (results_cell_row rfl _ _ (w.heap.size + 1) 27 _ (0, 0) _ rfl h9 Tryz.underlying27 rfl (by kernel_rfl)) rfl ⟨_, by rw [HR1.out]; rfl, by rw [HR1.out]; exact bare_ok 1 (by decide), by rw [HR1.out]; exact RepS.nil _ _, ?_, ?_⟩
   ·rw [HR1.out, Nat.max_zero]; exact hk9.same _ _ (hkw3.same _ _ hb trivial) (by omega)
   ·exact ⟨hk9.os.trans hkw3.os, hk9.tape.trans hkw3.tape, hk9.output.trans hkw3.output, Nat.le_trans hkw3.size hk9.size, fun k o hk hne => hk9.same k o (hkw3.same k o hk trivial) (by have := lt_of_some hk; omega)⟩
  | true =>
   obtain ⟨⟨h', l'⟩, e', hP⟩ : ∃ t e, formM X h l = (t, e) := ⟨_, _, rfl⟩
   have HR1 := Lib.hid (show R = (.node h' l', e') from by rw [HR.out]; simp [hkb, hP])
   rw [hP] at hrun
   simp only [Tree.hd_node, Tree.l_node] at hrun
   have hrun2 := fun W (hs : Same w W) (hz : w.heap.size + 2 ≤ W.heap.size) => hrun W hs hz hkb
   have hent := fun args W => hfe args W hkb
   have hfv2 := hfv hkb
   clear hrun hfe hfv hP
   go_wp2_with fail
   generalize w1.alloc (.cells #[.bool dd.neg, .string dd.digits, .int .i64 dd.exp] 23) = W2 at hb02 hb12 hkw2 hz2 ⊢
   obtain ⟨y0, y1, y2, y3, y4, y5, y6, y7, y8⟩ := cells9 hb02
   refine (wpIn_wide (n := 0)).1 ?_
   refine wpIn_region_shut (n := 0) (fun Z => Z.heap[w.heap.size]? = some (.cells #[.int .i64 h.kind, .bool h.b, .bool h.d.neg, .string h.d.digits, .int .i64 h.d.exp, .int .u64 (h.u : Int), .int .i64 h.w, .string h.s, .slice a l.length cap] 27 (0, 0))) readsN (fun _ => trivial) rfl (by kernel_rfl) (by kernel_rfl) hb02 ?_
   refine shT_c rfl rfl ?_; intro K hK; go_simp; refine (callsW (pforms_any _)).mono ?_; rintro x w3 ⟨mb, rfl, hm3, hk3⟩; have hb03 := hk3.same _ _ hb02 trivial; have hb13 := hk3.same _ _ hb12 trivial; have hkw3 : Same w w3 := hkw2.trans (Keep.trans ((Keep.refl _ _).drew) hk3); have hz3 : W2.heap.size ≤ w3.heap.size := hk3.size; refine hK _ _ hb03 ?_; clear hK K y0 y1 y2 y3 y4 y5 y6 y7 y8; obtain ⟨z0, z1, z2, z3, z4, z5, z6, z7, z8⟩ := cells9 hb03; obtain ⟨u0, u1, u2, u3, u4, u5, u6, u7, u8⟩ := cells9 hb13; have hfz : ∀ j, w3.frozen? ⟨w.heap.size + 1, j, none⟩ = false := Lib.frozen_of_heap hb13; have L := lookup_forms w3 mb h.kind hm3; refine shT_x rfl rfl ?_; intro K hK w' hs; obtain ⟨p0, p1, p2, p3, p4, p5, p6, p7, p8⟩ := cells9 hs; go_simp; refine hK _ _ ?_; clear hK K p0 p1 p2 p3 p4 p5 p6 p7 p8 hs w'; refine shT_x rfl rfl ?_; intro K hK w' hs; obtain ⟨p0, p1, p2, p3, p4, p5, p6, p7, p8⟩ := cells9 hs; go_simp; refine hK _ _ ?_; clear hK K p0 p1 p2 p3 p4 p5 p6 p7 p8 hs w'
   rw [hkb, hfv2] at L
   clear hfv2 hkb
   refine shT_c rfl rfl ?_; intro K hK; go_simp; refine hK _ _ hb03 ?_; clear hK K L; refine shT_x rfl rfl ?_; intro K hK w' hs; obtain ⟨p0, p1, p2, p3, p4, p5, p6, p7, p8⟩ := cells9 hs; go_simp; refine hK _ _ ?_; clear hK K p0 p1 p2 p3 p4 p5 p6 p7 p8 hs w'; refine shT_x rfl rfl ?_; intro K hK w' hs; obtain ⟨p0, p1, p2, p3, p4, p5, p6, p7, p8⟩ := cells9 hs; go_simp; refine hK _ _ ?_; clear hK K p0 p1 p2 p3 p4 p5 p6 p7 p8 hs w'; refine shT_x rfl rfl ?_; intro K hK w' hs; obtain ⟨p0, p1, p2, p3, p4, p5, p6, p7, p8⟩ := cells9 hs; go_simp; refine hK _ _ ?_; clear hK K p0 p1 p2 p3 p4 p5 p6 p7 p8 hs w'; refine shT_x rfl rfl ?_; intro K hK w' hs; obtain ⟨p0, p1, p2, p3, p4, p5, p6, p7, p8⟩ := cells9 hs; go_simp; refine hK _ _ ?_; clear hK K p0 p1 p2 p3 p4 p5 p6 p7 p8 hs w'; refine shT_x rfl rfl ?_; intro K hK w' hs; obtain ⟨p0, p1, p2, p3, p4, p5, p6, p7, p8⟩ := cells9 hs; go_simp; refine hK _ _ ?_; clear hK K p0 p1 p2 p3 p4 p5 p6 p7 p8 hs w'; refine shT_nil ?_
   go_wp2_with fail
   refine (hrun2 _ hkw3 (by omega)).mono ?_
   rintro x w4 ⟨lv', rfl, hok', hr', hb4, hk4⟩
   have hb14 := hk4.same (w.heap.size + 1) _ hb13 (by omega)
   obtain ⟨ra, rc, rfl⟩ := hr'.is_slice
   clear z0 z1 z2 z3 z4 z5 z6 z7 z8 u0 u1 u2 u3 u4 u5 u6 u7 u8 hfz hrun2 hent
   obtain ⟨c0, c1, c2, c3, c4, c5, c6, c7, c8⟩ := cells9 hb14
   have hfz : ∀ j, w4.frozen? ⟨w.heap.size + 1, j, none⟩ = false := Lib.frozen_of_heap hb14
   have hk5 : Keep (fun k _ => k ≠ b) w w4 := (Keep.of_same hkw3).trans hk4
   go_wp2_with fail
   (try simp only [Exit.inBlock, Exit.then])
   obtain ⟨h9, hk9⟩ := put9 hb14 (.int .i64 h'.kind) (.bool h'.b) (.bool h'.d.neg) (.string h'.d.digits) (.int .i64 h'.d.exp) (.int .u64 h'.u) (.int .i64 h'.w) (.string h'.s) (.slice ra l'.length rc)
   refine bodyPost_ret (results_cell_row rfl _ _ (w.heap.size + 1) 27 _ (0, 0) _ rfl h9 Tryz.underlying27 rfl (by kernel_rfl)) rfl ⟨_, by rw [HR1.out]; rfl, by rw [HR1.out]; exact hok', ?_, ?_, ?_⟩
   ·rw [HR1.out]; exact (hr'.keep hk9 fun k hk _ _ => hk.2).mono fun _ _ h => h.1
   ·rw [HR1.out]; exact hk9.same _ _ hb4 (by omega)
   ·exact ⟨hk9.os.trans hk5.os, hk9.tape.trans hk5.tape, hk9.output.trans hk5.output, Nat.le_trans hk5.size hk9.size, fun k o hk hne => hk9.same k o (hk5.same k o hk hne) (by have := lt_of_some hk; omega)⟩
theorem pnode_all {X : Hd → Dc × Bool} {N : Nat} {E : Errs} (hX : ∀ h, (X h).2 = true → decRight (X h).1 = true) : ∀ d : Nat, d ≤ 1000000 → NodeAt' X N E d
 | 0, _ => fun t _ _ _ _ _ h0 => by
  obtain ⟨h, l⟩ := t
  rw [Tree.depth] at h0
  omega
 | d + 1, hd => pnode_step (pnode_all hX d (by omega)) hX (by omega)
end Go.Tm
namespace Go.Tm
theorem depth_pos (t : Tree) : 1 ≤ t.depth := by cases t; rw [Tree.depth]; omega
theorem depthL_all {D : Nat} : ∀ {l : List Tree}, (∀ x ∈ l, x.depth ≤ D) → depthL l ≤ D
 | [], _ => by rw [depthL]; omega
 | y :: l, h => by
  rw [depthL]
  have h1 := h y List.mem_cons_self
  have h2 := depthL_all fun x hx => h x (List.mem_cons_of_mem _ hx)
  omega
theorem leaf_depth (h : Hd) : (Tree.node h []).depth = 1 := by rw [Tree.depth, depthL]
theorem sort_depth {D : Nat} (l : List (ByteArray × Tree)) (hD : l ≠ [] → 1 ≤ D) (h : ∀ p ∈ l, p.2.depth ≤ D) : depthL (sortM l) ≤ D := by
 refine depthL_all fun x hx => ?_
 unfold sortM at hx
 obtain ⟨p, hp, hx⟩ := List.mem_flatMap.1 hx
 have hp' := List.mem_mergeSort.1 hp
 rcases List.mem_cons.1 hx with rfl | hx
 ·rw [leaf_depth]; exact hD (List.ne_nil_of_mem hp')
 ·rw [List.mem_singleton.1 hx]; exact h p hp'
theorem codeT_depth (s : ByteArray) : (codeT s).1.depth = 1 := leaf_depth _
mutual
theorem Tree.proj_depth (X : Hd → Dc × Bool) : ∀ t : Tree, (t.proj X).1.depth ≤ t.depth
 | .node h l => by
  have hp := depth_pos (.node h l)
  have h1 := projT_depth X l
  have h2 := projL_depth X l
  have h3 := projP_depth X l []
  have h4 := projP_nil X l []
  rw [Tree.proj]
  split
  ·exact Nat.le_trans (Nat.le_of_eq (leaf_depth _)) hp
  ·split
   ·exact Nat.le_refl _
   ·split
    ·rw [codeT_depth]; exact hp
    ·split
     ·rw [codeT_depth]; exact hp
     ·split
      ·exact h1
      ·split
       ·rw [Tree.depth, Tree.depth]; show depthL (projL X l).1 + 1 ≤ _; omega
       ·split
        ·rw [Tree.depth, Tree.depth]
         have := sort_depth (D := depthL l) (projP X l []).1 h4 h3
         omega
        ·exact Nat.le_trans (Nat.le_of_eq (leaf_depth _)) hp
theorem projT_depth (X : Hd → Dc × Bool) : ∀ l : List Tree, (projT X l).1.depth ≤ depthL l + 1
 | [] => by rw [projT, leaf_depth]; omega
 | x :: l => by
  have := Tree.proj_depth X x
  rw [projT, depthL]
  omega
theorem projL_depth (X : Hd → Dc × Bool) : ∀ l : List Tree, depthL (projL X l).1 ≤ depthL l
 | [] => by rw [projL]; exact Nat.le_refl _
 | x :: l => by
  have h1 := Tree.proj_depth X x
  have h2 := projL_depth X l
  rw [projL]
  show depthL (_ :: _) ≤ _
  rw [depthL, depthL]
  omega
theorem projP_depth (X : Hd → Dc × Bool) : ∀ (l : List Tree) (seen : List ByteArray), ∀ p ∈ (projP X l seen).1, p.2.depth ≤ depthL l
 | [], seen, p, hp => by rw [projP] at hp; cases hp; intro k x l h; cases h
 | [_], seen, p, hp => by rw [projP] at hp; cases hp; intro k x l h; cases h
 | k :: x :: l, seen, p, hp => by
  have h1 := Tree.proj_depth X x
  have h2 := projP_depth X l ((renderM k).1 :: seen) p
  rw [projP] at hp
  rw [depthL, depthL]
  split at hp
  ·cases hp
  ·rcases List.mem_cons.1 hp with rfl | hp
   ·show (x.proj X).1.depth ≤ _; omega
   ·have := h2 hp; omega
theorem projP_nil (X : Hd → Dc × Bool) : ∀ (l : List Tree) (seen : List ByteArray), (projP X l seen).1 ≠ [] → 1 ≤ depthL l
 | [], seen, h => by rw [projP] at h; exact absurd rfl h; intro k x l h; cases h
 | [y], seen, h => by have := depth_pos y; rw [depthL]; omega
 | k :: x :: l, seen, h => by have := depth_pos k; rw [depthL]; omega
end
theorem check_all {t : Tree} {form : Int} (h : checkT t form = 0) : ∀ x ∈ t.flat, ownT x = true ∧ fitsT form x = true := by
 unfold checkT at h
 split at h
 ·cases h
 ·rw [check_from] at h
  split at h
  ·rename_i h1
   split at h
   ·rename_i h2
    exact fun x hx => ⟨List.all_eq_true.1 h1 x hx, List.all_eq_true.1 h2 x hx⟩
   ·cases h
  ·cases h
theorem no_ext {t : Tree} (h : checkT t 2 = 0) : ∀ x ∈ t.flat, x.hd.kind ≠ 11 := fun x hx e => by
 have := (check_all h x hx).2
 unfold fitsT at this
 rw [if_neg (by omega), if_neg (by omega), if_neg (by omega), if_neg (by omega), if_pos e] at this
 cases of_decide_eq_true this
end Go.Tm
namespace Go.Tm
open Go.RowKit Go.Proofs
theorem common_res (T : Array Value) (W : World) (bx : Nat) (h : Hd) (lv : Value) (e : Int) (h2 : T.getD 4 undef = .pointer (some ⟨bx, 0, none⟩)) (h3 : T.getD 5 undef = .int .i64 e)
  (hrow : W.heap[bx]? = some (.cells #[.int .i64 h.kind, .bool h.b, .bool h.d.neg, .string h.d.digits, .int .i64 h.d.exp, .int .u64 (h.u : Int), .int .i64 h.w, .string h.s, lv] 27 (0, 0))) : (results Tryz.f11 T).run Tryz.prog W = .ok (.tuple #[nodeV h lv, .int .i64 e]) W := by
 have hld := run_loadVar_row (P := Tryz.prog) W bx 27 27 _ (0, 0) _ hrow Tryz.underlying27 rfl (by kernel_rfl)
 rw [results_cell_tmp rfl, h2, h3]
 simp [asAddr, hld, Result.andThen]
def OutC (S : Nat → Prop) (r : Tree × Int) (w : World) : Ending → World → Prop := fun x w' =>
 ∃ lv', x = .returned (.tuple #[nodeV r.1.hd lv', .int .i64 r.2]) ∧ r.1.hd.ok ∧ RepS S w' r.1.l lv' ∧ Same w w'
theorem common_zero {X : Hd → Dc × Bool} {t : Tree} {form q : Int} (h : checkT t form = q) (hq : q ≠ 0) : commonM X t form = (.node (bareHd 0) [], q) := by
 unfold commonM; rw [h, if_pos hq]
set_option maxRecDepth 100000 in
set_option maxHeartbeats 8000000 in
theorem common_any {X : Hd → Dc × Bool} {N : Nat} {E : Errs} (hX : ∀ h, (X h).2 = true → decRight (X h).1 = true) (t : Tree) (form : Int) (S : Nat → Prop) (lv : Value) (w : World) (hG : Glob N E w) (hNw : N ≤ w.heap.size) (hdep : t.depth ≤ 1000000) (ho : t.hd.ok) (hr : RepS S w t.l lv)
  (hS : ∀ k, w.heap.size ≤ k → S k) (hl : ∀ x ∈ t.flat, x.l.length ≤ 40) (hE : checkT t form = 0 → ∀ x ∈ t.flat, ExtC X N E x) :
  Calls Tryz.prog 11 #[nodeV t.hd lv, .int .i64 form] w (OutC S (commonM X t form) w) := by
 obtain ⟨a, cap, rfl⟩ := hr.is_slice
 obtain ⟨q, hq⟩ : ∃ q, checkT t form = q := ⟨_, rfl⟩
 have hchk := fun W (hs : Same w W) => check_any form t (.slice a t.l.length cap) W (hG.same hs) (by omega) ((hr.same hs).mono fun _ _ _ => trivial) ho
 rw [hq] at hchk
 have hzero := @common_zero X t form q hq
 have hyes : q = 0 → TreeOk X N E t := fun e x hx => ⟨(check_all (hq.trans e) x hx).1, hE (hq.trans e) x hx, fun _ => hl x hx⟩
 have hcm : q = 0 → commonM X t form = if (t.proj X).2 ≠ 0 then (.node (bareHd 0) [], toldN (t.proj X).2) else if checkT (t.proj X).1 2 = 60 then (.node (bareHd 0) [], 60) else ((t.proj X).1, 0) := fun e => by
  unfold commonM; rw [hq, if_neg (by simpa using e)]
 have hpd := Tree.proj_depth X t
 have hple := Tree.proj_le X t
 have hrun := fun hok W (hs : Same w W) (hz : w.heap.size + 2 ≤ W.heap.size) b (hNb : N ≤ b) (hb : PB E b 0 W) => pnode_all (N := N) (E := E) hX t.depth hdep t (fun k => S k ∧ k ≠ w.heap.size + 1) (.slice a t.l.length cap) W 0 b (Nat.le_refl _) (hG.same hs) hNb (by omega) ho
  ((hr.mono (fun k hk h => (⟨h, by omega⟩ : _ ∧ _))).same hs) (fun k hk => ⟨hS k (by omega), by omega⟩) hok hb
 obtain ⟨⟨h', l'⟩, e', hP⟩ : ∃ t' e, t.proj X = (t', e) := ⟨_, _, rfl⟩
 rw [hP] at hrun hcm hpd hple
 unfold Outs at hrun
 simp only [Tree.hd_node, Tree.l_node, Nat.zero_max] at hrun hcm hpd hple
 obtain ⟨h, l⟩ := t
 simp only [Tree.hd_node, Tree.l_node] at *
 obtain ⟨R, hR⟩ : ∃ R, commonM X (.node h l) form = R := ⟨_, rfl⟩
 rw [hR] at hzero hcm ⊢
 have hb1 : ((w.alloc (.cells #[.int .i64 h.kind, .bool h.b, .bool h.d.neg, .string h.d.digits, .int .i64 h.d.exp, .int .u64 (h.u : Int), .int .i64 h.w, .string h.s, .slice a l.length cap] 27)).alloc (.cells #[.int .i64 0, .bool false, .bool false, .string ⟨#[]⟩, .int .i64 0, .int .u64 0, .int .i64 0, .string ⟨#[]⟩, .slice none 0 0] 27)).heap[w.heap.size + 1]? = some (.cells #[.int .i64 0, .bool false, .bool false, .string ⟨#[]⟩, .int .i64 0, .int .u64 0, .int .i64 0, .string ⟨#[]⟩, .slice none 0 0] 27 (0, 0)) := heap_new' (by simp)
 have hb0 : ((w.alloc (.cells #[.int .i64 h.kind, .bool h.b, .bool h.d.neg, .string h.d.digits, .int .i64 h.d.exp, .int .u64 (h.u : Int), .int .i64 h.w, .string h.s, .slice a l.length cap] 27)).alloc (.cells #[.int .i64 0, .bool false, .bool false, .string ⟨#[]⟩, .int .i64 0, .int .u64 0, .int .i64 0, .string ⟨#[]⟩, .slice none 0 0] 27)).heap[w.heap.size]? = some (.cells #[.int .i64 h.kind, .bool h.b, .bool h.d.neg, .string h.d.digits, .int .i64 h.d.exp, .int .u64 (h.u : Int), .int .i64 h.w, .string h.s, .slice a l.length cap] 27 (0, 0)) := heap_old (World.alloc_heap_new w _)
 have hk0 : Same w ((w.alloc (.cells #[.int .i64 h.kind, .bool h.b, .bool h.d.neg, .string h.d.digits, .int .i64 h.d.exp, .int .u64 (h.u : Int), .int .i64 h.w, .string h.s, .slice a l.length cap] 27)).alloc (.cells #[.int .i64 0, .bool false, .bool false, .string ⟨#[]⟩, .int .i64 0, .int .u64 0, .int .i64 0, .string ⟨#[]⟩, .slice none 0 0] 27)) := smK
 have hz0 : ((w.alloc (.cells #[.int .i64 h.kind, .bool h.b, .bool h.d.neg, .string h.d.digits, .int .i64 h.d.exp, .int .u64 (h.u : Int), .int .i64 h.w, .string h.s, .slice a l.length cap] 27)).alloc (.cells #[.int .i64 0, .bool false, .bool false, .string ⟨#[]⟩, .int .i64 0, .int .u64 0, .int .i64 0, .string ⟨#[]⟩, .slice none 0 0] 27)).heap.size = w.heap.size + 2 := by simp
 have hchk0 := hchk _ hk0
 clear hq hR hP hchk hl hE
 unfold OutC
 go_enter Tryz.func11, Tryz.ntmps11
 go_wp2_with fail
 refine hchk0.mono ?_
 rintro x w1 ⟨rfl, hk1⟩
 have hb11 := hk1.same _ _ hb1 trivial
 have hb01 := hk1.same _ _ hb0 trivial
 have hkw1 := hk0.trans hk1
 have hzw := hk1.size
 rw [hz0] at hzw
 clear hk1 hb1 hb0 hk0 hz0 hchk0
 by_cases hq0 : q = 0
 ·have hok := hyes hq0
  replace hcm := hcm hq0
  subst hq0
  clear hzero hyes
  have HCM := Lib.hid hcm
  clear hcm
  obtain ⟨n0, n1, n2, n3, n4, n5, n6, n7, n8⟩ := cells9 (heap_old (o := .cells #[.nilIface] 47) hb01)
  go_wp2_with fail
  have hb2 : (w1.alloc (.cells #[.nilIface] 47)).heap[w1.heap.size]? = some (.cells #[.nilIface] 47 (0, 0)) := World.alloc_heap_new w1 _
  have hkw2 : Same w (w1.alloc (.cells #[.nilIface] 47)) := hkw1.alloc _
  have hb12 := heap_old (o := .cells #[.nilIface] 47) hb11
  refine (hrun hok _ hkw2 (by simp; omega) w1.heap.size (by omega) hb2).mono ?_
  rintro x w3 ⟨lv', rfl, hok', hr', hb3, hk3⟩
  obtain ⟨ra, rc, rfl⟩ := hr'.is_slice
  have hb13 := hk3.same (w.heap.size + 1) _ hb12 (by omega)
  have hkw3 : Keep (fun k _ => k ≠ w1.heap.size) w w3 := (Keep.of_same hkw2).trans hk3
  have hG3 : Glob N E w3 := (hG.same hkw2).keep hk3 fun k hlt _ => by omega
  have hz3 : w1.heap.size + 1 ≤ w3.heap.size := by have := hk3.size; simp at this; omega
  have hk4 : Same w3 (w3.alloc (.cells #[.int .i64 h'.kind, .bool h'.b, .bool h'.d.neg, .string h'.d.digits, .int .i64 h'.d.exp, .int .u64 (h'.u : Int), .int .i64 h'.w, .string h'.s, .slice ra l'.length rc] 27)) := (Keep.refl _ _).alloc _
  have ho4 : (w3.alloc (.cells #[.int .i64 h'.kind, .bool h'.b, .bool h'.d.neg, .string h'.d.digits, .int .i64 h'.d.exp, .int .u64 (h'.u : Int), .int .i64 h'.w, .string h'.s, .slice ra l'.length rc] 27)).heap[w3.heap.size]? = some (.cells #[.int .i64 h'.kind, .bool h'.b, .bool h'.d.neg, .string h'.d.digits, .int .i64 h'.d.exp, .int .u64 (h'.u : Int), .int .i64 h'.w, .string h'.s, .slice ra l'.length rc] 27 (0, 0)) := World.alloc_heap_new w3 _
  have hb14 := hk4.same _ _ hb13 trivial
  have hp4 := hk4.same _ _ hb3 trivial
  have hG4 := hG3.same hk4
  have hr4 := hr'.same hk4
  have hkw4 : Keep (fun k _ => k ≠ w1.heap.size) w (w3.alloc (.cells #[.int .i64 h'.kind, .bool h'.b, .bool h'.d.neg, .string h'.d.digits, .int .i64 h'.d.exp, .int .u64 (h'.u : Int), .int .i64 h'.w, .string h'.s, .slice ra l'.length rc] 27)) := hkw3.trans (Keep.of_same hk4)
  clear hrun hok hb01 hb11 hb12 hb2 hr' hb3 hb13 hk3 hkw2 hkw3 hk4 hG3 n0 n1 n2 n3 n4 n5 n6 n7 n8
  have he3 : e' = 0 ∨ e' ≠ 0 := by omega
  rcases he3 with rfl | he12
  ·have p0 : (w3.alloc (.cells #[.int .i64 h'.kind, .bool h'.b, .bool h'.d.neg, .string h'.d.digits, .int .i64 h'.d.exp, .int .u64 (h'.u : Int), .int .i64 h'.w, .string h'.s, .slice ra l'.length rc] 27)).cell? ⟨w1.heap.size, 0, none⟩ = some .nilIface := cells1 hp4
   obtain ⟨rb, hrb⟩ : ∃ rb, decide (checkT (.node h' l') 2 = 60) = rb := ⟨_, rfl⟩
   have hcal := treeRight_any (.node h' l') (.slice ra l'.length rc) _ hG4 (by omega) (hr4.mono fun _ _ _ => trivial) hok'
   rw [hrb] at hcal
   simp only [Tree.hd_node] at hcal
   have HCM2 := Lib.hid (show R = if checkT (.node h' l') 2 = 60 then (.node (bareHd 0) [], 60) else (.node h' l', 0) from by rw [HCM.out]; rfl)
   go_wp2_with fail
   refine hcal.mono ?_
   rintro x w5 ⟨rfl, hk5⟩
   have ho5 := hk5.same _ _ ho4 trivial
   have hb15 := hk5.same _ _ hb14 trivial
   have hp5 := hk5.same _ _ hp4 trivial
   have hG5 := hG4.same hk5
   have hr5 := hr4.same hk5
   have hkw5 := hkw4.trans (Keep.of_same hk5)
   clear p0 hcal ho4 hb14 hp4 hG4 hr4 hkw4 hk5
   have p0 : w5.cell? ⟨w1.heap.size, 0, none⟩ = some .nilIface := cells1 hp5
   cases rb with
   | true =>
    have HCM3 := Lib.hid (show R = (.node (bareHd 0) [], 60) from by rw [HCM2.out, if_pos (of_decide_eq_true hrb)])
    have gP := hG5.ptree
    have hcal : Calls Tryz.prog 28 #[.pointer (some ⟨w1.heap.size, 0, none⟩), .iface errT (.pointer (some E.ptree))] w5 fun x w' => x = .returned (.tuple #[]) ∧ PB E w1.heap.size 1 w' ∧ Keep (fun k _ => k ≠ w1.heap.size) w5 w' := fails_any 0 1 w1.heap.size w5 hG5 (by omega) (.inl rfl) hp5
    clear hrb
    go_wp2_with fail
    refine hcal.mono ?_
    rintro x w6 ⟨rfl, hp6, hk6⟩
    have hb16 := hk6.same _ _ hb15 (by omega)
    have hG6 : Glob N E w6 := hG5.keep hk6 fun k hlt _ => by omega
    have hkw6 := hkw5.trans hk6
    have hto : Calls Tryz.prog 29 #[.iface errT (.pointer (some E.ptree))] w6 fun e w' => e = .returned (.int .i64 60) ∧ w' = w6 := told_any 1 w6 hG6 (by omega)
    clear p0 gP hcal hb15 hp5 hG5 hr5 hkw5 hk6 ho5
    have p0 : w6.cell? ⟨w1.heap.size, 0, none⟩ = some (.iface errT (.pointer (some E.ptree))) := cells1 hp6
    go_wp2_with fail
    refine hto.mono ?_
    rintro x w7 ⟨rfl, h9⟩; replace h9 := h9.symm; subst h9
    obtain ⟨c0, c1, c2, c3, c4, c5, c6, c7, c8⟩ := cells9 hb16
    have hfz : ∀ j, w6.frozen? ⟨w.heap.size + 1, j, none⟩ = false := Lib.frozen_of_heap hb16
    clear hto
    go_wp2_with fail
    (try simp only [Exit.inBlock, Exit.then])
    obtain ⟨h9, hk9⟩ := put9 hb16 (.int .i64 0) (.bool false) (.bool false) (.string ⟨#[]⟩) (.int .i64 0) (.int .u64 0) (.int .i64 0) (.string ⟨#[]⟩) (.slice none 0 0)
    refine bodyPost_ret (common_res _ _ (w.heap.size + 1) (bareHd 0) (.slice none 0 0) 60 rfl rfl h9) rfl ⟨_, by rw [HCM3.out]; rfl, ?_, ?_, ?_⟩
    ·rw [HCM3.out]; exact bare_ok 0 (by decide)
    ·rw [HCM3.out]; exact RepS.nil _ _
    ·exact ⟨hk9.os.trans hkw6.os, hk9.tape.trans hkw6.tape, hk9.output.trans hkw6.output, Nat.le_trans hkw6.size hk9.size, fun k o hk _ => hk9.same k o (hkw6.same k o hk (by have := lt_of_some hk; omega)) (by have := lt_of_some hk; omega)⟩
   | false =>
    have HCM3 := Lib.hid (show R = (.node h' l', 0) from by rw [HCM2.out, if_neg (of_decide_eq_false hrb)])
    obtain ⟨c0, c1, c2, c3, c4, c5, c6, c7, c8⟩ := cells9 hb15
    obtain ⟨d0, d1, d2, d3, d4, d5, d6, d7, d8⟩ := cells9 ho5
    have hfz : ∀ j, w5.frozen? ⟨w.heap.size + 1, j, none⟩ = false := Lib.frozen_of_heap hb15
    clear hrb
    go_wp2_with fail
    (try simp only [Exit.inBlock, Exit.then])
    obtain ⟨h9, hk9⟩ := put9 hb15 (.int .i64 h'.kind) (.bool h'.b) (.bool h'.d.neg) (.string h'.d.digits) (.int .i64 h'.d.exp) (.int .u64 h'.u) (.int .i64 h'.w) (.string h'.s) (.slice ra l'.length rc)
    refine bodyPost_ret (common_res _ _ (w.heap.size + 1) h' (.slice ra l'.length rc) 0 rfl rfl h9) rfl ⟨_, by rw [HCM3.out]; rfl, ?_, ?_, ?_⟩
    ·rw [HCM3.out]; exact hok'
    ·rw [HCM3.out]; exact (hr5.keep hk9 fun k hk _ _ => hk.2).mono fun _ _ h => h.1
    ·exact ⟨hk9.os.trans hkw5.os, hk9.tape.trans hkw5.tape, hk9.output.trans hkw5.output, Nat.le_trans hkw5.size hk9.size, fun k o hk _ => hk9.same k o (hkw5.same k o hk (by have := lt_of_some hk; omega)) (by have := lt_of_some hk; omega)⟩
  ·have HCM3 := Lib.hid (show R = (.node (bareHd 0) [], toldN e') from by rw [HCM.out]; simp [he12])
   obtain ⟨av, hav⟩ : ∃ av : Addr, perr E e' = .iface errT (.pointer (some av)) := by
    have : e' = 1 ∨ e' = 2 := by omega
    rcases this with rfl | rfl <;> exact ⟨_, rfl⟩
   have hto := fun W hg => told_any (N := N) (E := E) e' W hg hple
   have p0 := cells1 hp4
   rw [hav] at hto p0
   obtain ⟨tv, htv⟩ : ∃ tv, toldN e' = tv := ⟨_, rfl⟩
   rw [htv] at hto HCM3
   clear htv
   go_wp2_with fail
   refine (hto _ hG4).mono ?_
   rintro x w7 ⟨rfl, h9⟩; replace h9 := h9.symm; subst h9
   obtain ⟨c0, c1, c2, c3, c4, c5, c6, c7, c8⟩ := cells9 hb14
   have hfz : ∀ j, (w3.alloc (.cells #[.int .i64 h'.kind, .bool h'.b, .bool h'.d.neg, .string h'.d.digits, .int .i64 h'.d.exp, .int .u64 (h'.u : Int), .int .i64 h'.w, .string h'.s, .slice ra l'.length rc] 27)).frozen? ⟨w.heap.size + 1, j, none⟩ = false := Lib.frozen_of_heap hb14
   clear hto
   go_wp2_with fail
   (try simp only [Exit.inBlock, Exit.then])
   obtain ⟨h9, hk9⟩ := put9 hb14 (.int .i64 0) (.bool false) (.bool false) (.string ⟨#[]⟩) (.int .i64 0) (.int .u64 0) (.int .i64 0) (.string ⟨#[]⟩) (.slice none 0 0)
   refine bodyPost_ret (common_res _ _ (w.heap.size + 1) (bareHd 0) (.slice none 0 0) tv rfl rfl h9) rfl ⟨_, by rw [HCM3.out]; rfl, ?_, ?_, ?_⟩
   ·rw [HCM3.out]; exact bare_ok 0 (by decide)
   ·rw [HCM3.out]; exact RepS.nil _ _
   ·exact ⟨hk9.os.trans hkw4.os, hk9.tape.trans hkw4.tape, hk9.output.trans hkw4.output, Nat.le_trans hkw4.size hk9.size, fun k o hk _ => hk9.same k o (hkw4.same k o hk (by have := lt_of_some hk; omega)) (by have := lt_of_some hk; omega)⟩
 ·have HZ := Lib.hid (hzero hq0)
  have hqb : (q != 0) = true := by simpa using hq0
  have hqd : decide (q = 0) = false := by simpa using hq0
  clear hyes hcm hrun
  obtain ⟨c0, c1, c2, c3, c4, c5, c6, c7, c8⟩ := cells9 hb11
  have hfz : ∀ j, w1.frozen? ⟨w.heap.size + 1, j, none⟩ = false := Lib.frozen_of_heap hb11
  go_wp2_with fail
  (try simp only [Exit.inBlock, Exit.then])
  obtain ⟨h9, hk9⟩ := put9 hb11 (.int .i64 0) (.bool false) (.bool false) (.string ⟨#[]⟩) (.int .i64 0) (.int .u64 0) (.int .i64 0) (.string ⟨#[]⟩) (.slice none 0 0)
  refine bodyPost_ret (common_res _ _ (w.heap.size + 1) (bareHd 0) (.slice none 0 0) q rfl rfl h9) rfl ⟨_, by rw [HZ.out]; rfl, ?_, ?_, ?_⟩
  ·rw [HZ.out]; exact bare_ok 0 (by decide)
  ·rw [HZ.out]; exact RepS.nil _ _
  ·exact ⟨hk9.os.trans hkw1.os, hk9.tape.trans hkw1.tape, hk9.output.trans hkw1.output, Nat.le_trans hkw1.size hk9.size, fun k o hk _ => hk9.same k o (hkw1.same k o hk trivial) (by have := lt_of_some hk; omega)⟩
end Go.Tm
namespace Go.Tm
def numHd (neg : Bool) (s : ByteArray) (e : Int) : Hd := ⟨3, false, ⟨neg, s, e⟩, 0, 0, ⟨#[]⟩⟩
def nullT : Tree := .node (bareHd 1) []
def treeA : Tree := .node { bareHd 9 with u := 4 } [.node (bareHd 7) [.node (numHd true ⟨#[49]⟩ 0) [], .node (numHd false ⟨#[49, 53]⟩ 0) []]]
def treeB : Tree := .node { bareHd 6 with s := ⟨#[255]⟩ } []
def treeC : Tree := .node (bareHd 8) [.node (numHd false ⟨#[50]⟩ 0) [], nullT, .node (numHd false ⟨#[49]⟩ 0) [], nullT]
variable (X : Hd → Dc × Bool)
theorem commonA : commonM X treeA 2 = (.node (numHd false ⟨#[49, 53]⟩ (-1)) [], 0) := by kernel_rfl
theorem commonB : commonM X treeB 4 = (.node (textHd ⟨#[95, 119]⟩) [], 0) := by kernel_rfl
theorem projC : projP X treeC.l [] = ([(⟨#[50]⟩, nullT), (⟨#[49]⟩, nullT)], 0) := by kernel_rfl
theorem checkC : checkT treeC 2 = 0 := by kernel_rfl
theorem decC : decimalM X treeC = (noDc, false) := by kernel_rfl
theorem sortC : sortM [(⟨#[50]⟩, nullT), (⟨#[49]⟩, nullT)] = [.node (textHd ⟨#[49]⟩) [], nullT, .node (textHd ⟨#[50]⟩) [], nullT] := by
 have h : leB (⟨#[50]⟩, nullT) (⟨#[49]⟩, nullT) = false := by kernel_rfl
 unfold sortM
 simp [List.mergeSort, List.MergeSort.Internal.splitInTwo, h]
theorem commonC : commonM X treeC 2 = (.node (bareHd 8) [.node (textHd ⟨#[49]⟩) [], nullT, .node (textHd ⟨#[50]⟩) [], nullT], 0) := by
 have hp : treeC.proj X = (.node (bareHd 8) [.node (textHd ⟨#[49]⟩) [], nullT, .node (textHd ⟨#[50]⟩) [], nullT], 0) := by
  have h := projC X
  have hd := decC X
  unfold treeC at h hd ⊢
  rw [Tree.proj, hd]
  simp only [Tree.l_node] at h
  simp only [h, sortC]
  simp [bareHd]
 have hc : checkT (.node (bareHd 8) [.node (textHd ⟨#[49]⟩) [], nullT, .node (textHd ⟨#[50]⟩) [], nullT]) 2 = 0 := by kernel_rfl
 unfold commonM
 rw [checkC, hp]
 simp [hc]
end Go.Tm
namespace Go.Tm
open Go.RowKit Go.Proofs
set_option maxRecDepth 100000 in
set_option maxHeartbeats 400000 in
theorem lawnum_any (neg : Bool) (s : ByteArray) (w : World) : Calls Tryz.prog 24 #[.bool neg, .string s] w fun e w' => e = .returned (.agg #[.int .i64 3, .bool false, .bool neg, .string s, .int .i64 0, .int .u64 0, .int .i64 0, .string ⟨#[]⟩, .slice none 0 0]) ∧ Same w w' := by
 go_enter Tryz.func24, Tryz.ntmps24
 go_wp2
 refine bodyPost_ret (results_cell_row rfl _ _ w.heap.size 27 _ (0, 0) _ rfl (heap_alloc_last _ _) Tryz.underlying27 rfl (by kernel_rfl)) rfl ⟨rfl, (Keep.refl _ _).alloc _⟩
theorem numHd_ok (neg : Bool) (s : ByteArray) (e : Int) (hs : s.size ≤ 1000) (he : -1000 ≤ e ∧ e ≤ 1000) : (numHd neg s e).ok :=
 ⟨by show (-9223372036854775808 : Int) ≤ 3 ∧ (3 : Int) ≤ 9223372036854775807; decide, by show -9223372036854775808 ≤ e ∧ e ≤ 9223372036854775807; omega, by show (-9223372036854775808 : Int) ≤ 0 ∧ (0 : Int) ≤ 9223372036854775807; decide, by show 0 < _; decide, by show s.size ≤ _; omega, Nat.zero_le _⟩
theorem leaf_rep {S : Nat → Prop} {w : World} {h : Hd} (ho : h.ok) : (Tree.node h []).Rep S w (nodeCs h (.slice none 0 0)) := rep_node.2 ⟨ho, _, rfl, RepS.nil _ _⟩
theorem repL_cons {S : Nat → Prop} {w : World} {x : Tree} {l : List Tree} {cs rest : List Value} (h1 : x.Rep S w cs) (h2 : RepL S w l rest) : RepL S w (x :: l) (cs ++ rest) := by
 rw [RepL]; exact ⟨cs, rest, rfl, h1, h2⟩
theorem tree_lens {t : Tree} (n : Nat) (h : t.flat.all (fun x => decide (x.l.length ≤ n)) = true) : ∀ x ∈ t.flat, x.l.length ≤ n := fun x hx => of_decide_eq_true (List.all_eq_true.1 h x hx)
theorem ext_none {X : Hd → Dc × Bool} {N : Nat} {E : Errs} {t : Tree} (h : checkT t 2 = 0) : ∀ x ∈ t.flat, ExtC X N E x := fun x hx h11 => absurd h11 (no_ext h x hx)
theorem commonA_any {X : Hd → Dc × Bool} {N : Nat} {E : Errs} (hX : ∀ h, (X h).2 = true → decRight (X h).1 = true) (lv : Value) (W : World) (hG : Glob N E W) (hN : N ≤ W.heap.size) (hr : RepS AnyB W treeA.l lv) :
  Calls Tryz.prog 11 #[.agg #[.int .i64 9, .bool false, .bool false, .string ⟨#[]⟩, .int .i64 0, .int .u64 4, .int .i64 0, .string ⟨#[]⟩, lv], .int .i64 2] W fun x w' => ∃ la ln lc, x = .returned (.tuple #[.agg #[.int .i64 3, .bool false, .bool false, .string ⟨#[49, 53]⟩, .int .i64 (-1), .int .u64 0, .int .i64 0, .string ⟨#[]⟩, .slice la ln lc], .int .i64 0]) ∧ Same W w' := by
 have h := common_any (N := N) (E := E) hX treeA 2 AnyB lv W hG hN (by decide) (by unfold treeA Hd.ok bareHd noDc; decide) hr (fun _ _ => trivial) (tree_lens 40 (by kernel_rfl)) (fun h => ext_none h)
 refine h.mono ?_
 rintro x w' ⟨lv', rfl, _, hr', hk⟩
 obtain ⟨a, c, rfl⟩ := hr'.is_slice
 rw [commonA]
 exact ⟨_, _, _, rfl, hk⟩
theorem commonB_any {X : Hd → Dc × Bool} {N : Nat} {E : Errs} (hX : ∀ h, (X h).2 = true → decRight (X h).1 = true) (W : World) (hG : Glob N E W) (hN : N ≤ W.heap.size) :
  Calls Tryz.prog 11 #[.agg #[.int .i64 6, .bool false, .bool false, .string ⟨#[]⟩, .int .i64 0, .int .u64 0, .int .i64 0, .string ⟨#[255]⟩, .slice none 0 0], .int .i64 4] W fun x w' => ∃ la ln lc, x = .returned (.tuple #[.agg #[.int .i64 5, .bool false, .bool false, .string ⟨#[]⟩, .int .i64 0, .int .u64 0, .int .i64 0, .string ⟨#[95, 119]⟩, .slice la ln lc], .int .i64 0]) ∧ Same W w' := by
 have h := common_any (N := N) (E := E) hX treeB 4 AnyB (.slice none 0 0) W hG hN (by decide) (by unfold treeB Hd.ok bareHd noDc; decide) (RepS.nil _ _) (fun _ _ => trivial) (tree_lens 40 (by kernel_rfl)) (fun _ x hx h11 => by
  rw [List.mem_singleton.1 (show x ∈ [treeB] from hx)] at h11; cases h11)
 refine h.mono ?_
 rintro x w' ⟨lv', rfl, _, hr', hk⟩
 obtain ⟨a, c, rfl⟩ := hr'.is_slice
 rw [commonB]
 exact ⟨_, _, _, rfl, hk⟩
theorem commonC_any {X : Hd → Dc × Bool} {N : Nat} {E : Errs} (hX : ∀ h, (X h).2 = true → decRight (X h).1 = true) (S : Nat → Prop) (lv : Value) (W : World) (hG : Glob N E W) (hN : N ≤ W.heap.size) (hS : ∀ k, W.heap.size ≤ k → S k) (hr : RepS S W treeC.l lv) :
  Calls Tryz.prog 11 #[.agg #[.int .i64 8, .bool false, .bool false, .string ⟨#[]⟩, .int .i64 0, .int .u64 0, .int .i64 0, .string ⟨#[]⟩, lv], .int .i64 2] W fun x w' => ∃ b off cap lv', x = .returned (.tuple #[.agg #[.int .i64 8, .bool false, .bool false, .string ⟨#[]⟩, .int .i64 0, .int .u64 0, .int .i64 0, .string ⟨#[]⟩, .slice (some ⟨b, off, none⟩) 4 cap], .int .i64 0]) ∧ 4 ≤ cap ∧ S b ∧ w'.rangeAt b off (nodeCs (textHd ⟨#[49]⟩) lv') ∧ Same W w' := by
 have h := common_any (N := N) (E := E) hX treeC 2 S lv W hG hN (by decide) (by unfold treeC Hd.ok bareHd noDc; decide) hr hS (tree_lens 40 (by kernel_rfl)) (fun h => ext_none h)
 refine h.mono ?_
 rintro x w' ⟨lv', rfl, _, hr', hk⟩
 rw [commonC] at hr' ⊢
 obtain ⟨_, a, cap, rfl, hc, hi⟩ := hr'.shape
 obtain ⟨b, off, lv2, rfl, hSb, _, _, _, hra⟩ := hi 0 (by decide)
 exact ⟨b, off, cap, lv2, rfl, hc, hSb, by simpa using hra, hk⟩
theorem repA {W : World} {b1 b2 : Nat} {f g : Nat × Nat} (h1 : W.heap[b1]? = some (.cells #[.int .i64 3, .bool false, .bool true, .string ⟨#[49]⟩, .int .i64 0, .int .u64 0, .int .i64 0, .string ⟨#[]⟩, .slice none 0 0, .int .i64 3, .bool false, .bool false, .string ⟨#[49, 53]⟩, .int .i64 0, .int .u64 0, .int .i64 0, .string ⟨#[]⟩, .slice none 0 0] 27 f)) (h2 : W.heap[b2]? = some (.cells #[.int .i64 7, .bool false, .bool false, .string ⟨#[]⟩, .int .i64 0, .int .u64 0, .int .i64 0, .string ⟨#[]⟩, .slice (some ⟨b1, 0, none⟩) 2 2] 27 g)) : RepS AnyB W treeA.l (.slice (some ⟨b2, 0, none⟩) 1 1) := by
 refine repS_row (l := [.node (bareHd 7) [.node (numHd true ⟨#[49]⟩ 0) [], .node (numHd false ⟨#[49, 53]⟩ 0) []]]) h2 trivial (repL_one (rep_node.2 ⟨bare_ok 7 (by decide), _, rfl, ?_⟩)) (by simp) (by simp)
 refine repS_row (l := [.node (numHd true ⟨#[49]⟩ 0) [], .node (numHd false ⟨#[49, 53]⟩ 0) []]) h1 trivial ?_ (by simp) (by simp)
 exact repL_cons (leaf_rep (numHd_ok true ⟨#[49]⟩ 0 (by decide) (by decide))) (repL_one (leaf_rep (numHd_ok false ⟨#[49, 53]⟩ 0 (by decide) (by decide))))
theorem repC {S : Nat → Prop} {W : World} {b1 : Nat} {f : Nat × Nat} (hS : S b1) (h1 : W.heap[b1]? = some (.cells #[.int .i64 3, .bool false, .bool false, .string ⟨#[50]⟩, .int .i64 0, .int .u64 0, .int .i64 0, .string ⟨#[]⟩, .slice none 0 0, .int .i64 1, .bool false, .bool false, .string ⟨#[]⟩, .int .i64 0, .int .u64 0, .int .i64 0, .string ⟨#[]⟩, .slice none 0 0, .int .i64 3, .bool false, .bool false, .string ⟨#[49]⟩, .int .i64 0, .int .u64 0, .int .i64 0, .string ⟨#[]⟩, .slice none 0 0, .int .i64 1, .bool false, .bool false, .string ⟨#[]⟩, .int .i64 0, .int .u64 0, .int .i64 0, .string ⟨#[]⟩, .slice none 0 0] 27 f)) : RepS S W treeC.l (.slice (some ⟨b1, 0, none⟩) 4 4) := by
 refine repS_row (l := [.node (numHd false ⟨#[50]⟩ 0) [], nullT, .node (numHd false ⟨#[49]⟩ 0) [], nullT]) h1 hS ?_ (by simp) (by simp)
 exact repL_cons (leaf_rep (numHd_ok false ⟨#[50]⟩ 0 (by decide) (by decide))) (repL_cons (leaf_rep (bare_ok 1 (by decide))) (repL_cons (leaf_rep (numHd_ok false ⟨#[49]⟩ 0 (by decide) (by decide))) (repL_one (leaf_rep (bare_ok 1 (by decide))))))
def shownR (w6 : World) (ba bb bn0 b1 : Nat) (aa : Option Addr) (an ac : Nat) (ba2 : Option Addr) (bn bc : Nat) : Exit → Act → World → Prop := fun _ a W => ∃ (b6 b4 cb co cc : Nat) (clv : Value), a = { tmps := #[.bool false, .pointer (some ⟨ba, 0, none⟩), .int .i64 0, .pointer (some ⟨bb, 0, none⟩), .int .i64 0, .pointer (some ⟨bn0, 0, none⟩), .pointer (some ⟨b6, 0, none⟩), .int .i64 0, .tuple #[.agg #[.int .i64 3, .bool false, .bool false, .string ⟨#[49, 53]⟩, .int .i64 (-1), .int .u64 0, .int .i64 0, .string ⟨#[]⟩, .slice aa an ac], .int .i64 0], .agg #[.int .i64 3, .bool false, .bool true, .string ⟨#[49]⟩, .int .i64 0, .int .u64 0, .int .i64 0, .string ⟨#[]⟩, .slice none 0 0], .agg #[.int .i64 3, .bool false, .bool false, .string ⟨#[49, 53]⟩, .int .i64 0, .int .u64 0, .int .i64 0, .string ⟨#[]⟩, .slice none 0 0], .slice (some ⟨b1, 0, none⟩) 2 2, .agg #[.int .i64 7, .bool false, .bool false, .string ⟨#[]⟩, .int .i64 0, .int .u64 0, .int .i64 0, .string ⟨#[]⟩, .slice (some ⟨b1, 0, none⟩) 2 2], .slice (some ⟨b1 + 1, 0, none⟩) 1 1, .agg #[.int .i64 9, .bool false, .bool false, .string ⟨#[]⟩, .int .i64 0, .int .u64 4, .int .i64 0, .string ⟨#[]⟩, .slice (some ⟨b1 + 1, 0, none⟩) 1 1], .tuple #[.agg #[.int .i64 3, .bool false, .bool false, .string ⟨#[49, 53]⟩, .int .i64 (-1), .int .u64 0, .int .i64 0, .string ⟨#[]⟩, .slice aa an ac], .int .i64 0], .agg #[.int .i64 3, .bool false, .bool false, .string ⟨#[49, 53]⟩, .int .i64 (-1), .int .u64 0, .int .i64 0, .string ⟨#[]⟩, .slice aa an ac], .int .i64 0, .tuple #[.agg #[.int .i64 5, .bool false, .bool false, .string ⟨#[]⟩, .int .i64 0, .int .u64 0, .int .i64 0, .string ⟨#[95, 119]⟩, .slice ba2 bn bc], .int .i64 0], .agg #[.int .i64 6, .bool false, .bool false, .string ⟨#[]⟩, .int .i64 0, .int .u64 0, .int .i64 0, .string ⟨#[255]⟩, .slice none 0 0], .tuple #[.agg #[.int .i64 5, .bool false, .bool false, .string ⟨#[]⟩, .int .i64 0, .int .u64 0, .int .i64 0, .string ⟨#[95, 119]⟩, .slice ba2 bn bc], .int .i64 0], .agg #[.int .i64 5, .bool false, .bool false, .string ⟨#[]⟩, .int .i64 0, .int .u64 0, .int .i64 0, .string ⟨#[95, 119]⟩, .slice ba2 bn bc], .int .i64 0, .agg #[.int .i64 1, .bool false, .bool false, .string ⟨#[]⟩, .int .i64 0, .int .u64 0, .int .i64 0, .string ⟨#[]⟩, .slice none 0 0], .tuple #[.agg #[.int .i64 8, .bool false, .bool false, .string ⟨#[]⟩, .int .i64 0, .int .u64 0, .int .i64 0, .string ⟨#[]⟩, .slice (some ⟨cb, co, none⟩) 4 cc], .int .i64 0], .agg #[.int .i64 3, .bool false, .bool false, .string ⟨#[50]⟩, .int .i64 0, .int .u64 0, .int .i64 0, .string ⟨#[]⟩, .slice none 0 0], .agg #[.int .i64 1, .bool false, .bool false, .string ⟨#[]⟩, .int .i64 0, .int .u64 0, .int .i64 0, .string ⟨#[]⟩, .slice none 0 0], .agg #[.int .i64 3, .bool false, .bool false, .string ⟨#[49]⟩, .int .i64 0, .int .u64 0, .int .i64 0, .string ⟨#[]⟩, .slice none 0 0], .agg #[.int .i64 1, .bool false, .bool false, .string ⟨#[]⟩, .int .i64 0, .int .u64 0, .int .i64 0, .string ⟨#[]⟩, .slice none 0 0], .slice (some ⟨b4, 0, none⟩) 4 4, .agg #[.int .i64 8, .bool false, .bool false, .string ⟨#[]⟩, .int .i64 0, .int .u64 0, .int .i64 0, .string ⟨#[]⟩, .slice (some ⟨b4, 0, none⟩) 4 4], .tuple #[.agg #[.int .i64 8, .bool false, .bool false, .string ⟨#[]⟩, .int .i64 0, .int .u64 0, .int .i64 0, .string ⟨#[]⟩, .slice (some ⟨cb, co, none⟩) 4 cc], .int .i64 0], .agg #[.int .i64 8, .bool false, .bool false, .string ⟨#[]⟩, .int .i64 0, .int .u64 0, .int .i64 0, .string ⟨#[]⟩, .slice (some ⟨cb, co, none⟩) 4 cc], .int .i64 0, undef, undef, undef, undef, undef, undef, undef, undef, undef, undef, undef, undef, undef, undef, undef, undef, undef, undef, undef, undef, undef, undef, undef, undef, undef, undef, undef, undef, undef, undef, undef, undef, undef, undef, undef], defers := [] } ∧ W.heap[b6]? = some (.cells #[.int .i64 8, .bool false, .bool false, .string ⟨#[]⟩, .int .i64 0, .int .u64 0, .int .i64 0, .string ⟨#[]⟩, .slice (some ⟨cb, co, none⟩) 4 cc] 27 (0, 0)) ∧ 4 ≤ cc ∧ W.rangeAt cb co (nodeCs (textHd ⟨#[49]⟩) clv) ∧ Same w6 W
set_option maxRecDepth 100000 in
set_option maxHeartbeats 4000000 in
theorem shown_any {X : Hd → Dc × Bool} {N : Nat} {E : Errs} (hX : ∀ h, (X h).2 = true → decRight (X h).1 = true) (w : World) (hG : Glob N E w) (hN : N ≤ w.heap.size) :
  Calls Tryz.prog 9 #[] w fun e w' => e = .returned (.bool true) ∧ Same w w' := by
 go_enter Tryz.func9, Tryz.ntmps9
 go_wp2_with fail
 refine (lawnum_any _ _ _).mono ?_
 rintro e w1 ⟨rfl, hk1⟩
 go_wp2_with fail
 refine (lawnum_any _ _ _).mono ?_
 rintro e w2 ⟨rfl, hk2⟩
 have hkw2 := hk1.trans hk2
 clear hk1 hk2
 go_wp2_with fail
 obtain ⟨b1, hb1⟩ : ∃ b1, w2.heap.size = b1 := ⟨_, rfl⟩
 rw [hb1]
 have hkw : Same w ((w2.alloc (.cells #[.int .i64 3, .bool false, .bool true, .string ⟨#[49]⟩, .int .i64 0, .int .u64 0, .int .i64 0, .string ⟨#[]⟩, .slice none 0 0, .int .i64 3, .bool false, .bool false, .string ⟨#[49, 53]⟩, .int .i64 0, .int .u64 0, .int .i64 0, .string ⟨#[]⟩, .slice none 0 0] 27)).alloc (.cells #[.int .i64 7, .bool false, .bool false, .string ⟨#[]⟩, .int .i64 0, .int .u64 0, .int .i64 0, .string ⟨#[]⟩, .slice (some ⟨b1, 0, none⟩) 2 2] 27)) := smK
 refine (commonA_any hX _ _ (hG.same hkw) (Nat.le_trans hN hkw.size) (repA (b1 := b1) (b2 := b1 + 1) (by rw [← hb1]; exact heap_old (World.alloc_heap_new w2 _)) (by rw [← hb1]; exact heap_new' (by simp)))).mono ?_
 rintro x w3 ⟨aa, an, ac, rfl, hk3⟩
 have hkw3 := hkw.trans hk3
 clear hkw hk3 hkw2
 go_wp2_with fail
 have hbA : (w3.alloc (.cells #[.int .i64 3, .bool false, .bool false, .string ⟨#[49, 53]⟩, .int .i64 (-1), .int .u64 0, .int .i64 0, .string ⟨#[]⟩, .slice aa an ac] 27)).heap[w3.heap.size]? = some (.cells #[.int .i64 3, .bool false, .bool false, .string ⟨#[49, 53]⟩, .int .i64 (-1), .int .u64 0, .int .i64 0, .string ⟨#[]⟩, .slice aa an ac] 27 (0, 0)) := World.alloc_heap_new w3 _
 have hkw4 : Same w (w3.alloc (.cells #[.int .i64 3, .bool false, .bool false, .string ⟨#[49, 53]⟩, .int .i64 (-1), .int .u64 0, .int .i64 0, .string ⟨#[]⟩, .slice aa an ac] 27)) := hkw3.alloc _
 generalize (w3.alloc (.cells #[.int .i64 3, .bool false, .bool false, .string ⟨#[49, 53]⟩, .int .i64 (-1), .int .u64 0, .int .i64 0, .string ⟨#[]⟩, .slice aa an ac] 27)) = w4 at hbA hkw4 ⊢
 generalize w3.heap.size = ba at hbA ⊢
 clear hkw3
 refine (commonB_any hX _ (hG.same hkw4) (Nat.le_trans hN hkw4.size)).mono ?_
 rintro x w5 ⟨ba2, bn, bc, rfl, hk5⟩
 have hkw5 := hkw4.trans hk5
 have hbA5 := hk5.same _ _ hbA trivial
 clear hkw4 hk5 hbA
 go_wp2_with fail
 have hbB : ((w5.alloc (.cells #[.int .i64 5, .bool false, .bool false, .string ⟨#[]⟩, .int .i64 0, .int .u64 0, .int .i64 0, .string ⟨#[95, 119]⟩, .slice ba2 bn bc] 27)).alloc (.cells #[.int .i64 1, .bool false, .bool false, .string ⟨#[]⟩, .int .i64 0, .int .u64 0, .int .i64 0, .string ⟨#[]⟩, .slice none 0 0] 27)).heap[w5.heap.size]? = some (.cells #[.int .i64 5, .bool false, .bool false, .string ⟨#[]⟩, .int .i64 0, .int .u64 0, .int .i64 0, .string ⟨#[95, 119]⟩, .slice ba2 bn bc] 27 (0, 0)) := heap_old (World.alloc_heap_new w5 _)
 have hbN : ((w5.alloc (.cells #[.int .i64 5, .bool false, .bool false, .string ⟨#[]⟩, .int .i64 0, .int .u64 0, .int .i64 0, .string ⟨#[95, 119]⟩, .slice ba2 bn bc] 27)).alloc (.cells #[.int .i64 1, .bool false, .bool false, .string ⟨#[]⟩, .int .i64 0, .int .u64 0, .int .i64 0, .string ⟨#[]⟩, .slice none 0 0] 27)).heap[w5.heap.size + 1]? = some (.cells #[.int .i64 1, .bool false, .bool false, .string ⟨#[]⟩, .int .i64 0, .int .u64 0, .int .i64 0, .string ⟨#[]⟩, .slice none 0 0] 27 (0, 0)) := heap_new' (by simp)
 have hbA6 : ((w5.alloc (.cells #[.int .i64 5, .bool false, .bool false, .string ⟨#[]⟩, .int .i64 0, .int .u64 0, .int .i64 0, .string ⟨#[95, 119]⟩, .slice ba2 bn bc] 27)).alloc (.cells #[.int .i64 1, .bool false, .bool false, .string ⟨#[]⟩, .int .i64 0, .int .u64 0, .int .i64 0, .string ⟨#[]⟩, .slice none 0 0] 27)).heap[ba]? = some (.cells #[.int .i64 3, .bool false, .bool false, .string ⟨#[49, 53]⟩, .int .i64 (-1), .int .u64 0, .int .i64 0, .string ⟨#[]⟩, .slice aa an ac] 27 (0, 0)) := heap_old (heap_old hbA5)
 have hkw6 : Same w ((w5.alloc (.cells #[.int .i64 5, .bool false, .bool false, .string ⟨#[]⟩, .int .i64 0, .int .u64 0, .int .i64 0, .string ⟨#[95, 119]⟩, .slice ba2 bn bc] 27)).alloc (.cells #[.int .i64 1, .bool false, .bool false, .string ⟨#[]⟩, .int .i64 0, .int .u64 0, .int .i64 0, .string ⟨#[]⟩, .slice none 0 0] 27)) := smK
 generalize ((w5.alloc (.cells #[.int .i64 5, .bool false, .bool false, .string ⟨#[]⟩, .int .i64 0, .int .u64 0, .int .i64 0, .string ⟨#[95, 119]⟩, .slice ba2 bn bc] 27)).alloc (.cells #[.int .i64 1, .bool false, .bool false, .string ⟨#[]⟩, .int .i64 0, .int .u64 0, .int .i64 0, .string ⟨#[]⟩, .slice none 0 0] 27)) = w6 at hbB hbN hbA6 hkw6 ⊢
 generalize w5.heap.size + 1 = bn0 at hbN ⊢
 generalize w5.heap.size = bb at hbB ⊢
 clear hkw5 hbA5
 obtain ⟨x0, x1, x2, x3, x4, x5, x6, x7, x8⟩ := cells9 hbN
 refine (wpIn_wide (n := 0)).1 ?_
 refine wpIn_mono (Q := onlyNormal (shownR w6 ba bb bn0 b1 aa an ac ba2 bn bc)) ?reg ?post
 case reg =>
  refine wpIn_region_float (n := 0) (fun Z => Z.heap[bn0]? = some (.cells #[.int .i64 1, .bool false, .bool false, .string ⟨#[]⟩, .int .i64 0, .int .u64 0, .int .i64 0, .string ⟨#[]⟩, .slice none 0 0] 27 (0, 0))) reads 10 (fun _ => trivial) rfl (by kernel_rfl) rfl (by kernel_rfl) hbN ?_
  simp only [eraseL]
  refine shA_c rfl rfl rfl ?now1 ?_
  case now1 =>
   clear x0 x1 x2 x3 x4 x5 x6 x7 x8
   refine shT_c rfl rfl ?_
   intro K hK
   go_simp
   refine hK _ _ (heap_old hbN) ?_
   clear hK K
   have hz_ : (w6.alloc (.cells #[.int .i64 0, .bool false, .bool false, .string ⟨#[]⟩, .int .i64 0, .int .u64 0, .int .i64 0, .string ⟨#[]⟩, .slice none 0 0] 27)).drew.heap[w6.heap.size]? = some (.cells #[.int .i64 0, .bool false, .bool false, .string ⟨#[]⟩, .int .i64 0, .int .u64 0, .int .i64 0, .string ⟨#[]⟩, .slice none 0 0] 27 (0, 0)) := World.alloc_heap_new w6 _
   have hN_ : (w6.alloc (.cells #[.int .i64 0, .bool false, .bool false, .string ⟨#[]⟩, .int .i64 0, .int .u64 0, .int .i64 0, .string ⟨#[]⟩, .slice none 0 0] 27)).drew.heap[bn0]? = some (.cells #[.int .i64 1, .bool false, .bool false, .string ⟨#[]⟩, .int .i64 0, .int .u64 0, .int .i64 0, .string ⟨#[]⟩, .slice none 0 0] 27 (0, 0)) := heap_old hbN
   have hk_ : Same w6 (w6.alloc (.cells #[.int .i64 0, .bool false, .bool false, .string ⟨#[]⟩, .int .i64 0, .int .u64 0, .int .i64 0, .string ⟨#[]⟩, .slice none 0 0] 27)).drew := Keep.drew (Keep.alloc (Keep.refl _ _) _)
   have hbn6 : bn0 ≠ w6.heap.size := by have := lt_of_some hbN; omega
   have hge : w6.heap.size ≤ w6.heap.size := Nat.le_refl _
   generalize (w6.alloc (.cells #[.int .i64 0, .bool false, .bool false, .string ⟨#[]⟩, .int .i64 0, .int .u64 0, .int .i64 0, .string ⟨#[]⟩, .slice none 0 0] 27)).drew = wv at hz_ hN_ hk_ ⊢
   obtain ⟨b6, hb6⟩ : ∃ b6, w6.heap.size = b6 := ⟨_, rfl⟩
   rw [hb6] at hz_ hbn6 ⊢
   replace hge : w6.heap.size ≤ b6 := by omega
   clear hb6
   obtain ⟨x0, x1, x2, x3, x4, x5, x6, x7, x8⟩ := cells9 hN_
   clear x0 x1 x2 x3 x4 x5 x6 x7 x8
   refine shT_c rfl rfl ?_
   intro K hK
   go_simp
   refine (callsW (lawnum_any _ _ _)).mono ?_
   rintro e wv ⟨rfl, hkv⟩
   replace hN_ := hkv.same _ _ hN_ trivial
   replace hz_ := hkv.same _ _ hz_ trivial
   replace hk_ := Keep.trans hk_ hkv
   refine hK _ _ hN_ ?_
   clear hK K hkv
   obtain ⟨x0, x1, x2, x3, x4, x5, x6, x7, x8⟩ := cells9 hN_
   refine shT_x rfl rfl ?_; intro K hK w' hs; obtain ⟨p0, p1, p2, p3, p4, p5, p6, p7, p8⟩ := cells9 hs; go_simp; refine hK _ _ ?_; clear hK K p0 p1 p2 p3 p4 p5 p6 p7 p8 hs w'
   clear x0 x1 x2 x3 x4 x5 x6 x7 x8
   refine shT_c rfl rfl ?_
   intro K hK
   go_simp
   refine (callsW (lawnum_any _ _ _)).mono ?_
   rintro e wv ⟨rfl, hkv⟩
   replace hN_ := hkv.same _ _ hN_ trivial
   replace hz_ := hkv.same _ _ hz_ trivial
   replace hk_ := Keep.trans hk_ hkv
   refine hK _ _ hN_ ?_
   clear hK K hkv
   obtain ⟨x0, x1, x2, x3, x4, x5, x6, x7, x8⟩ := cells9 hN_
   refine shT_x rfl rfl ?_; intro K hK w' hs; obtain ⟨p0, p1, p2, p3, p4, p5, p6, p7, p8⟩ := cells9 hs; go_simp; refine hK _ _ ?_; clear hK K p0 p1 p2 p3 p4 p5 p6 p7 p8 hs w'
   clear x0 x1 x2 x3 x4 x5 x6 x7 x8
   refine shT_c rfl rfl ?_
   intro K hK
   go_simp
   refine hK _ _ (heap_old hN_) ?_
   clear hK K
   have hb4_ : (wv.alloc (.cells #[.int .i64 3, .bool false, .bool false, .string ⟨#[50]⟩, .int .i64 0, .int .u64 0, .int .i64 0, .string ⟨#[]⟩, .slice none 0 0, .int .i64 1, .bool false, .bool false, .string ⟨#[]⟩, .int .i64 0, .int .u64 0, .int .i64 0, .string ⟨#[]⟩, .slice none 0 0, .int .i64 3, .bool false, .bool false, .string ⟨#[49]⟩, .int .i64 0, .int .u64 0, .int .i64 0, .string ⟨#[]⟩, .slice none 0 0, .int .i64 1, .bool false, .bool false, .string ⟨#[]⟩, .int .i64 0, .int .u64 0, .int .i64 0, .string ⟨#[]⟩, .slice none 0 0] 27)).heap[wv.heap.size]? = some (.cells #[.int .i64 3, .bool false, .bool false, .string ⟨#[50]⟩, .int .i64 0, .int .u64 0, .int .i64 0, .string ⟨#[]⟩, .slice none 0 0, .int .i64 1, .bool false, .bool false, .string ⟨#[]⟩, .int .i64 0, .int .u64 0, .int .i64 0, .string ⟨#[]⟩, .slice none 0 0, .int .i64 3, .bool false, .bool false, .string ⟨#[49]⟩, .int .i64 0, .int .u64 0, .int .i64 0, .string ⟨#[]⟩, .slice none 0 0, .int .i64 1, .bool false, .bool false, .string ⟨#[]⟩, .int .i64 0, .int .u64 0, .int .i64 0, .string ⟨#[]⟩, .slice none 0 0] 27 (0, 0)) := World.alloc_heap_new wv _
   have h46 : wv.heap.size ≠ b6 := by have := lt_of_some hz_; omega
   replace hN_ := heap_old (o := .cells #[.int .i64 3, .bool false, .bool false, .string ⟨#[50]⟩, .int .i64 0, .int .u64 0, .int .i64 0, .string ⟨#[]⟩, .slice none 0 0, .int .i64 1, .bool false, .bool false, .string ⟨#[]⟩, .int .i64 0, .int .u64 0, .int .i64 0, .string ⟨#[]⟩, .slice none 0 0, .int .i64 3, .bool false, .bool false, .string ⟨#[49]⟩, .int .i64 0, .int .u64 0, .int .i64 0, .string ⟨#[]⟩, .slice none 0 0, .int .i64 1, .bool false, .bool false, .string ⟨#[]⟩, .int .i64 0, .int .u64 0, .int .i64 0, .string ⟨#[]⟩, .slice none 0 0] 27) hN_
   replace hz_ := heap_old (o := .cells #[.int .i64 3, .bool false, .bool false, .string ⟨#[50]⟩, .int .i64 0, .int .u64 0, .int .i64 0, .string ⟨#[]⟩, .slice none 0 0, .int .i64 1, .bool false, .bool false, .string ⟨#[]⟩, .int .i64 0, .int .u64 0, .int .i64 0, .string ⟨#[]⟩, .slice none 0 0, .int .i64 3, .bool false, .bool false, .string ⟨#[49]⟩, .int .i64 0, .int .u64 0, .int .i64 0, .string ⟨#[]⟩, .slice none 0 0, .int .i64 1, .bool false, .bool false, .string ⟨#[]⟩, .int .i64 0, .int .u64 0, .int .i64 0, .string ⟨#[]⟩, .slice none 0 0] 27) hz_
   replace hk_ := Keep.alloc hk_ (.cells #[.int .i64 3, .bool false, .bool false, .string ⟨#[50]⟩, .int .i64 0, .int .u64 0, .int .i64 0, .string ⟨#[]⟩, .slice none 0 0, .int .i64 1, .bool false, .bool false, .string ⟨#[]⟩, .int .i64 0, .int .u64 0, .int .i64 0, .string ⟨#[]⟩, .slice none 0 0, .int .i64 3, .bool false, .bool false, .string ⟨#[49]⟩, .int .i64 0, .int .u64 0, .int .i64 0, .string ⟨#[]⟩, .slice none 0 0, .int .i64 1, .bool false, .bool false, .string ⟨#[]⟩, .int .i64 0, .int .u64 0, .int .i64 0, .string ⟨#[]⟩, .slice none 0 0] 27)
   generalize (wv.alloc (.cells #[.int .i64 3, .bool false, .bool false, .string ⟨#[50]⟩, .int .i64 0, .int .u64 0, .int .i64 0, .string ⟨#[]⟩, .slice none 0 0, .int .i64 1, .bool false, .bool false, .string ⟨#[]⟩, .int .i64 0, .int .u64 0, .int .i64 0, .string ⟨#[]⟩, .slice none 0 0, .int .i64 3, .bool false, .bool false, .string ⟨#[49]⟩, .int .i64 0, .int .u64 0, .int .i64 0, .string ⟨#[]⟩, .slice none 0 0, .int .i64 1, .bool false, .bool false, .string ⟨#[]⟩, .int .i64 0, .int .u64 0, .int .i64 0, .string ⟨#[]⟩, .slice none 0 0] 27)) = wu at hb4_ hN_ hz_ hk_ ⊢
   generalize wv.heap.size = b4 at hb4_ h46 ⊢
   obtain ⟨x0, x1, x2, x3, x4, x5, x6, x7, x8⟩ := cells9 hN_
   refine shT_x rfl rfl ?_; intro K hK w' hs; obtain ⟨p0, p1, p2, p3, p4, p5, p6, p7, p8⟩ := cells9 hs; go_simp; refine hK _ _ ?_; clear hK K p0 p1 p2 p3 p4 p5 p6 p7 p8 hs w'
   clear x0 x1 x2 x3 x4 x5 x6 x7 x8
   refine shT_c rfl rfl ?_
   intro K hK
   go_simp
   refine (callsW (commonC_any hX (fun k => k ≠ b6) _ _ (hG.same (hkw6.trans hk_)) (Nat.le_trans hN (Keep.size (hkw6.trans hk_))) (fun k hk => by have := lt_of_some hz_; omega) (repC h46 hb4_))).mono ?_
   rintro x wt ⟨cb, co, cc, clv, rfl, hcc, hne, hrc, hkt⟩
   replace hN_ := hkt.same _ _ hN_ trivial
   replace hz_ := hkt.same _ _ hz_ trivial
   replace hk_ := Keep.trans hk_ hkt
   refine hK _ _ hN_ ?_
   clear hK K hkt
   iterate 3 (refine shT_x rfl rfl ?_; intro K hK w' hs; obtain ⟨p0, p1, p2, p3, p4, p5, p6, p7, p8⟩ := cells9 hs; go_simp; refine hK _ _ ?_; clear hK K p0 p1 p2 p3 p4 p5 p6 p7 p8 hs w')
   obtain ⟨z0, z1, z2, z3, z4, z5, z6, z7, z8⟩ := cells9 hz_
   have hfz : ∀ j, wt.frozen? ⟨b6, j, none⟩ = false := Lib.frozen_of_heap hz_
   refine shT_c rfl rfl ?_
   intro K hK
   go_simp
   obtain ⟨h9, hk9⟩ := put9 hz_ (.int .i64 8) (.bool false) (.bool false) (.string ⟨#[]⟩) (.int .i64 0) (.int .u64 0) (.int .i64 0) (.string ⟨#[]⟩) (.slice (some ⟨cb, co, none⟩) 4 cc)
   refine hK _ _ (hk9.same _ _ hN_ hbn6) ?_
   clear hK K
   refine shT_x rfl rfl ?_
   intro K hK w' hs
   go_simp
   refine hK _ _ ?_
   clear hK K hs w'
   refine shT_nil ?_
   exact ⟨b6, b4, cb, co, cc, clv, rfl, h9, hcc, rangeAt_keep hk9 (fun o _ => hne) hrc, ⟨hk9.os.trans hk_.os, hk9.tape.trans hk_.tape, hk9.output.trans hk_.output, Nat.le_trans hk_.size hk9.size, fun k o hk _ => hk9.same k o (hk_.same k o hk trivial) (by have := lt_of_some hk; omega)⟩⟩
  intro K hK
  go_simp
  refine (callsW (lawnum_any _ _ _)).mono ?_
  rintro e w7 ⟨rfl, hk7⟩
  have hbN7 := hk7.same _ _ hbN trivial
  have hk67 : Same w6 w7 := Keep.trans ((Keep.refl _ _).drew) hk7
  refine hK _ _ hbN7 ?_
  clear hK K x0 x1 x2 x3 x4 x5 x6 x7 x8
  obtain ⟨x0, x1, x2, x3, x4, x5, x6, x7, x8⟩ := cells9 hbN7
  refine shA_x rfl rfl rfl ?_; intro K hK w' hs; obtain ⟨p0, p1, p2, p3, p4, p5, p6, p7, p8⟩ := cells9 hs; go_simp; refine hK _ _ ?_; clear hK K p0 p1 p2 p3 p4 p5 p6 p7 p8 hs w'
  refine shA_c rfl rfl rfl ?now2 ?_
  case now2 =>
   clear x0 x1 x2 x3 x4 x5 x6 x7 x8
   refine shT_c rfl rfl ?_
   intro K hK
   go_simp
   refine hK _ _ (heap_old hbN7) ?_
   clear hK K
   have hz_ : (w7.alloc (.cells #[.int .i64 0, .bool false, .bool false, .string ⟨#[]⟩, .int .i64 0, .int .u64 0, .int .i64 0, .string ⟨#[]⟩, .slice none 0 0] 27)).heap[w7.heap.size]? = some (.cells #[.int .i64 0, .bool false, .bool false, .string ⟨#[]⟩, .int .i64 0, .int .u64 0, .int .i64 0, .string ⟨#[]⟩, .slice none 0 0] 27 (0, 0)) := World.alloc_heap_new w7 _
   have hN_ : (w7.alloc (.cells #[.int .i64 0, .bool false, .bool false, .string ⟨#[]⟩, .int .i64 0, .int .u64 0, .int .i64 0, .string ⟨#[]⟩, .slice none 0 0] 27)).heap[bn0]? = some (.cells #[.int .i64 1, .bool false, .bool false, .string ⟨#[]⟩, .int .i64 0, .int .u64 0, .int .i64 0, .string ⟨#[]⟩, .slice none 0 0] 27 (0, 0)) := heap_old hbN7
   have hk_ : Same w6 (w7.alloc (.cells #[.int .i64 0, .bool false, .bool false, .string ⟨#[]⟩, .int .i64 0, .int .u64 0, .int .i64 0, .string ⟨#[]⟩, .slice none 0 0] 27)) := Keep.alloc hk67 _
   have hbn6 : bn0 ≠ w7.heap.size := by have := lt_of_some (show w7.heap[bn0]? = some _ from hbN7); omega
   have hge : w6.heap.size ≤ w7.heap.size := (show Same w6 w7 from hk67).size
   generalize (w7.alloc (.cells #[.int .i64 0, .bool false, .bool false, .string ⟨#[]⟩, .int .i64 0, .int .u64 0, .int .i64 0, .string ⟨#[]⟩, .slice none 0 0] 27)) = wv at hz_ hN_ hk_ ⊢
   generalize w7.heap.size = b6 at hz_ hbn6 hge ⊢
   obtain ⟨x0, x1, x2, x3, x4, x5, x6, x7, x8⟩ := cells9 hN_
   clear x0 x1 x2 x3 x4 x5 x6 x7 x8
   refine shT_c rfl rfl ?_
   intro K hK
   go_simp
   refine (callsW (lawnum_any _ _ _)).mono ?_
   rintro e wv ⟨rfl, hkv⟩
   replace hN_ := hkv.same _ _ hN_ trivial
   replace hz_ := hkv.same _ _ hz_ trivial
   replace hk_ := Keep.trans hk_ hkv
   refine hK _ _ hN_ ?_
   clear hK K hkv
   obtain ⟨x0, x1, x2, x3, x4, x5, x6, x7, x8⟩ := cells9 hN_
   refine shT_x rfl rfl ?_; intro K hK w' hs; obtain ⟨p0, p1, p2, p3, p4, p5, p6, p7, p8⟩ := cells9 hs; go_simp; refine hK _ _ ?_; clear hK K p0 p1 p2 p3 p4 p5 p6 p7 p8 hs w'
   clear x0 x1 x2 x3 x4 x5 x6 x7 x8
   refine shT_c rfl rfl ?_
   intro K hK
   go_simp
   refine hK _ _ (heap_old hN_) ?_
   clear hK K
   have hb4_ : (wv.alloc (.cells #[.int .i64 3, .bool false, .bool false, .string ⟨#[50]⟩, .int .i64 0, .int .u64 0, .int .i64 0, .string ⟨#[]⟩, .slice none 0 0, .int .i64 1, .bool false, .bool false, .string ⟨#[]⟩, .int .i64 0, .int .u64 0, .int .i64 0, .string ⟨#[]⟩, .slice none 0 0, .int .i64 3, .bool false, .bool false, .string ⟨#[49]⟩, .int .i64 0, .int .u64 0, .int .i64 0, .string ⟨#[]⟩, .slice none 0 0, .int .i64 1, .bool false, .bool false, .string ⟨#[]⟩, .int .i64 0, .int .u64 0, .int .i64 0, .string ⟨#[]⟩, .slice none 0 0] 27)).heap[wv.heap.size]? = some (.cells #[.int .i64 3, .bool false, .bool false, .string ⟨#[50]⟩, .int .i64 0, .int .u64 0, .int .i64 0, .string ⟨#[]⟩, .slice none 0 0, .int .i64 1, .bool false, .bool false, .string ⟨#[]⟩, .int .i64 0, .int .u64 0, .int .i64 0, .string ⟨#[]⟩, .slice none 0 0, .int .i64 3, .bool false, .bool false, .string ⟨#[49]⟩, .int .i64 0, .int .u64 0, .int .i64 0, .string ⟨#[]⟩, .slice none 0 0, .int .i64 1, .bool false, .bool false, .string ⟨#[]⟩, .int .i64 0, .int .u64 0, .int .i64 0, .string ⟨#[]⟩, .slice none 0 0] 27 (0, 0)) := World.alloc_heap_new wv _
   have h46 : wv.heap.size ≠ b6 := by have := lt_of_some hz_; omega
   replace hN_ := heap_old (o := .cells #[.int .i64 3, .bool false, .bool false, .string ⟨#[50]⟩, .int .i64 0, .int .u64 0, .int .i64 0, .string ⟨#[]⟩, .slice none 0 0, .int .i64 1, .bool false, .bool false, .string ⟨#[]⟩, .int .i64 0, .int .u64 0, .int .i64 0, .string ⟨#[]⟩, .slice none 0 0, .int .i64 3, .bool false, .bool false, .string ⟨#[49]⟩, .int .i64 0, .int .u64 0, .int .i64 0, .string ⟨#[]⟩, .slice none 0 0, .int .i64 1, .bool false, .bool false, .string ⟨#[]⟩, .int .i64 0, .int .u64 0, .int .i64 0, .string ⟨#[]⟩, .slice none 0 0] 27) hN_
   replace hz_ := heap_old (o := .cells #[.int .i64 3, .bool false, .bool false, .string ⟨#[50]⟩, .int .i64 0, .int .u64 0, .int .i64 0, .string ⟨#[]⟩, .slice none 0 0, .int .i64 1, .bool false, .bool false, .string ⟨#[]⟩, .int .i64 0, .int .u64 0, .int .i64 0, .string ⟨#[]⟩, .slice none 0 0, .int .i64 3, .bool false, .bool false, .string ⟨#[49]⟩, .int .i64 0, .int .u64 0, .int .i64 0, .string ⟨#[]⟩, .slice none 0 0, .int .i64 1, .bool false, .bool false, .string ⟨#[]⟩, .int .i64 0, .int .u64 0, .int .i64 0, .string ⟨#[]⟩, .slice none 0 0] 27) hz_
   replace hk_ := Keep.alloc hk_ (.cells #[.int .i64 3, .bool false, .bool false, .string ⟨#[50]⟩, .int .i64 0, .int .u64 0, .int .i64 0, .string ⟨#[]⟩, .slice none 0 0, .int .i64 1, .bool false, .bool false, .string ⟨#[]⟩, .int .i64 0, .int .u64 0, .int .i64 0, .string ⟨#[]⟩, .slice none 0 0, .int .i64 3, .bool false, .bool false, .string ⟨#[49]⟩, .int .i64 0, .int .u64 0, .int .i64 0, .string ⟨#[]⟩, .slice none 0 0, .int .i64 1, .bool false, .bool false, .string ⟨#[]⟩, .int .i64 0, .int .u64 0, .int .i64 0, .string ⟨#[]⟩, .slice none 0 0] 27)
   generalize (wv.alloc (.cells #[.int .i64 3, .bool false, .bool false, .string ⟨#[50]⟩, .int .i64 0, .int .u64 0, .int .i64 0, .string ⟨#[]⟩, .slice none 0 0, .int .i64 1, .bool false, .bool false, .string ⟨#[]⟩, .int .i64 0, .int .u64 0, .int .i64 0, .string ⟨#[]⟩, .slice none 0 0, .int .i64 3, .bool false, .bool false, .string ⟨#[49]⟩, .int .i64 0, .int .u64 0, .int .i64 0, .string ⟨#[]⟩, .slice none 0 0, .int .i64 1, .bool false, .bool false, .string ⟨#[]⟩, .int .i64 0, .int .u64 0, .int .i64 0, .string ⟨#[]⟩, .slice none 0 0] 27)) = wu at hb4_ hN_ hz_ hk_ ⊢
   generalize wv.heap.size = b4 at hb4_ h46 ⊢
   obtain ⟨x0, x1, x2, x3, x4, x5, x6, x7, x8⟩ := cells9 hN_
   refine shT_x rfl rfl ?_; intro K hK w' hs; obtain ⟨p0, p1, p2, p3, p4, p5, p6, p7, p8⟩ := cells9 hs; go_simp; refine hK _ _ ?_; clear hK K p0 p1 p2 p3 p4 p5 p6 p7 p8 hs w'
   clear x0 x1 x2 x3 x4 x5 x6 x7 x8
   refine shT_c rfl rfl ?_
   intro K hK
   go_simp
   refine (callsW (commonC_any hX (fun k => k ≠ b6) _ _ (hG.same (hkw6.trans hk_)) (Nat.le_trans hN (Keep.size (hkw6.trans hk_))) (fun k hk => by have := lt_of_some hz_; omega) (repC h46 hb4_))).mono ?_
   rintro x wt ⟨cb, co, cc, clv, rfl, hcc, hne, hrc, hkt⟩
   replace hN_ := hkt.same _ _ hN_ trivial
   replace hz_ := hkt.same _ _ hz_ trivial
   replace hk_ := Keep.trans hk_ hkt
   refine hK _ _ hN_ ?_
   clear hK K hkt
   iterate 3 (refine shT_x rfl rfl ?_; intro K hK w' hs; obtain ⟨p0, p1, p2, p3, p4, p5, p6, p7, p8⟩ := cells9 hs; go_simp; refine hK _ _ ?_; clear hK K p0 p1 p2 p3 p4 p5 p6 p7 p8 hs w')
   obtain ⟨z0, z1, z2, z3, z4, z5, z6, z7, z8⟩ := cells9 hz_
   have hfz : ∀ j, wt.frozen? ⟨b6, j, none⟩ = false := Lib.frozen_of_heap hz_
   refine shT_c rfl rfl ?_
   intro K hK
   go_simp
   obtain ⟨h9, hk9⟩ := put9 hz_ (.int .i64 8) (.bool false) (.bool false) (.string ⟨#[]⟩) (.int .i64 0) (.int .u64 0) (.int .i64 0) (.string ⟨#[]⟩) (.slice (some ⟨cb, co, none⟩) 4 cc)
   refine hK _ _ (hk9.same _ _ hN_ hbn6) ?_
   clear hK K
   refine shT_x rfl rfl ?_
   intro K hK w' hs
   go_simp
   refine hK _ _ ?_
   clear hK K hs w'
   refine shT_nil ?_
   exact ⟨b6, b4, cb, co, cc, clv, rfl, h9, hcc, rangeAt_keep hk9 (fun o _ => hne) hrc, ⟨hk9.os.trans hk_.os, hk9.tape.trans hk_.tape, hk9.output.trans hk_.output, Nat.le_trans hk_.size hk9.size, fun k o hk _ => hk9.same k o (hk_.same k o hk trivial) (by have := lt_of_some hk; omega)⟩⟩
  intro K hK
  go_simp
  refine (callsW (lawnum_any _ _ _)).mono ?_
  rintro e w8 ⟨rfl, hk8⟩
  have hbN8 := hk8.same _ _ hbN7 trivial
  refine hK _ _ hbN8 ?_
  clear hK K x0 x1 x2 x3 x4 x5 x6 x7 x8
  obtain ⟨x0, x1, x2, x3, x4, x5, x6, x7, x8⟩ := cells9 hbN8
  refine shA_x rfl rfl rfl ?_; intro K hK w' hs; obtain ⟨p0, p1, p2, p3, p4, p5, p6, p7, p8⟩ := cells9 hs; go_simp; refine hK _ _ ?_; clear hK K p0 p1 p2 p3 p4 p5 p6 p7 p8 hs w'
  have hk68 : Same w6 w8 := hk67.trans hk8
  clear x0 x1 x2 x3 x4 x5 x6 x7 x8 hbN7 hk7
  refine shA_c rfl rfl rfl ?now3 ?_
  case now3 =>
   refine shT_c rfl rfl ?_
   intro K hK
   go_simp
   refine hK _ _ (heap_old hbN8) ?_
   clear hK K
   have hz_ : (w8.alloc (.cells #[.int .i64 0, .bool false, .bool false, .string ⟨#[]⟩, .int .i64 0, .int .u64 0, .int .i64 0, .string ⟨#[]⟩, .slice none 0 0] 27)).heap[w8.heap.size]? = some (.cells #[.int .i64 0, .bool false, .bool false, .string ⟨#[]⟩, .int .i64 0, .int .u64 0, .int .i64 0, .string ⟨#[]⟩, .slice none 0 0] 27 (0, 0)) := World.alloc_heap_new w8 _
   have hN_ : (w8.alloc (.cells #[.int .i64 0, .bool false, .bool false, .string ⟨#[]⟩, .int .i64 0, .int .u64 0, .int .i64 0, .string ⟨#[]⟩, .slice none 0 0] 27)).heap[bn0]? = some (.cells #[.int .i64 1, .bool false, .bool false, .string ⟨#[]⟩, .int .i64 0, .int .u64 0, .int .i64 0, .string ⟨#[]⟩, .slice none 0 0] 27 (0, 0)) := heap_old hbN8
   have hk_ : Same w6 (w8.alloc (.cells #[.int .i64 0, .bool false, .bool false, .string ⟨#[]⟩, .int .i64 0, .int .u64 0, .int .i64 0, .string ⟨#[]⟩, .slice none 0 0] 27)) := Keep.alloc hk68 _
   have hbn6 : bn0 ≠ w8.heap.size := by have := lt_of_some (show w8.heap[bn0]? = some _ from hbN8); omega
   have hge : w6.heap.size ≤ w8.heap.size := (show Same w6 w8 from hk68).size
   generalize (w8.alloc (.cells #[.int .i64 0, .bool false, .bool false, .string ⟨#[]⟩, .int .i64 0, .int .u64 0, .int .i64 0, .string ⟨#[]⟩, .slice none 0 0] 27)) = wv at hz_ hN_ hk_ ⊢
   generalize w8.heap.size = b6 at hz_ hbn6 hge ⊢
   obtain ⟨x0, x1, x2, x3, x4, x5, x6, x7, x8⟩ := cells9 hN_
   clear x0 x1 x2 x3 x4 x5 x6 x7 x8
   refine shT_c rfl rfl ?_
   intro K hK
   go_simp
   refine hK _ _ (heap_old hN_) ?_
   clear hK K
   have hb4_ : (wv.alloc (.cells #[.int .i64 3, .bool false, .bool false, .string ⟨#[50]⟩, .int .i64 0, .int .u64 0, .int .i64 0, .string ⟨#[]⟩, .slice none 0 0, .int .i64 1, .bool false, .bool false, .string ⟨#[]⟩, .int .i64 0, .int .u64 0, .int .i64 0, .string ⟨#[]⟩, .slice none 0 0, .int .i64 3, .bool false, .bool false, .string ⟨#[49]⟩, .int .i64 0, .int .u64 0, .int .i64 0, .string ⟨#[]⟩, .slice none 0 0, .int .i64 1, .bool false, .bool false, .string ⟨#[]⟩, .int .i64 0, .int .u64 0, .int .i64 0, .string ⟨#[]⟩, .slice none 0 0] 27)).heap[wv.heap.size]? = some (.cells #[.int .i64 3, .bool false, .bool false, .string ⟨#[50]⟩, .int .i64 0, .int .u64 0, .int .i64 0, .string ⟨#[]⟩, .slice none 0 0, .int .i64 1, .bool false, .bool false, .string ⟨#[]⟩, .int .i64 0, .int .u64 0, .int .i64 0, .string ⟨#[]⟩, .slice none 0 0, .int .i64 3, .bool false, .bool false, .string ⟨#[49]⟩, .int .i64 0, .int .u64 0, .int .i64 0, .string ⟨#[]⟩, .slice none 0 0, .int .i64 1, .bool false, .bool false, .string ⟨#[]⟩, .int .i64 0, .int .u64 0, .int .i64 0, .string ⟨#[]⟩, .slice none 0 0] 27 (0, 0)) := World.alloc_heap_new wv _
   have h46 : wv.heap.size ≠ b6 := by have := lt_of_some hz_; omega
   replace hN_ := heap_old (o := .cells #[.int .i64 3, .bool false, .bool false, .string ⟨#[50]⟩, .int .i64 0, .int .u64 0, .int .i64 0, .string ⟨#[]⟩, .slice none 0 0, .int .i64 1, .bool false, .bool false, .string ⟨#[]⟩, .int .i64 0, .int .u64 0, .int .i64 0, .string ⟨#[]⟩, .slice none 0 0, .int .i64 3, .bool false, .bool false, .string ⟨#[49]⟩, .int .i64 0, .int .u64 0, .int .i64 0, .string ⟨#[]⟩, .slice none 0 0, .int .i64 1, .bool false, .bool false, .string ⟨#[]⟩, .int .i64 0, .int .u64 0, .int .i64 0, .string ⟨#[]⟩, .slice none 0 0] 27) hN_
   replace hz_ := heap_old (o := .cells #[.int .i64 3, .bool false, .bool false, .string ⟨#[50]⟩, .int .i64 0, .int .u64 0, .int .i64 0, .string ⟨#[]⟩, .slice none 0 0, .int .i64 1, .bool false, .bool false, .string ⟨#[]⟩, .int .i64 0, .int .u64 0, .int .i64 0, .string ⟨#[]⟩, .slice none 0 0, .int .i64 3, .bool false, .bool false, .string ⟨#[49]⟩, .int .i64 0, .int .u64 0, .int .i64 0, .string ⟨#[]⟩, .slice none 0 0, .int .i64 1, .bool false, .bool false, .string ⟨#[]⟩, .int .i64 0, .int .u64 0, .int .i64 0, .string ⟨#[]⟩, .slice none 0 0] 27) hz_
   replace hk_ := Keep.alloc hk_ (.cells #[.int .i64 3, .bool false, .bool false, .string ⟨#[50]⟩, .int .i64 0, .int .u64 0, .int .i64 0, .string ⟨#[]⟩, .slice none 0 0, .int .i64 1, .bool false, .bool false, .string ⟨#[]⟩, .int .i64 0, .int .u64 0, .int .i64 0, .string ⟨#[]⟩, .slice none 0 0, .int .i64 3, .bool false, .bool false, .string ⟨#[49]⟩, .int .i64 0, .int .u64 0, .int .i64 0, .string ⟨#[]⟩, .slice none 0 0, .int .i64 1, .bool false, .bool false, .string ⟨#[]⟩, .int .i64 0, .int .u64 0, .int .i64 0, .string ⟨#[]⟩, .slice none 0 0] 27)
   generalize (wv.alloc (.cells #[.int .i64 3, .bool false, .bool false, .string ⟨#[50]⟩, .int .i64 0, .int .u64 0, .int .i64 0, .string ⟨#[]⟩, .slice none 0 0, .int .i64 1, .bool false, .bool false, .string ⟨#[]⟩, .int .i64 0, .int .u64 0, .int .i64 0, .string ⟨#[]⟩, .slice none 0 0, .int .i64 3, .bool false, .bool false, .string ⟨#[49]⟩, .int .i64 0, .int .u64 0, .int .i64 0, .string ⟨#[]⟩, .slice none 0 0, .int .i64 1, .bool false, .bool false, .string ⟨#[]⟩, .int .i64 0, .int .u64 0, .int .i64 0, .string ⟨#[]⟩, .slice none 0 0] 27)) = wu at hb4_ hN_ hz_ hk_ ⊢
   generalize wv.heap.size = b4 at hb4_ h46 ⊢
   obtain ⟨x0, x1, x2, x3, x4, x5, x6, x7, x8⟩ := cells9 hN_
   refine shT_x rfl rfl ?_; intro K hK w' hs; obtain ⟨p0, p1, p2, p3, p4, p5, p6, p7, p8⟩ := cells9 hs; go_simp; refine hK _ _ ?_; clear hK K p0 p1 p2 p3 p4 p5 p6 p7 p8 hs w'
   clear x0 x1 x2 x3 x4 x5 x6 x7 x8
   refine shT_c rfl rfl ?_
   intro K hK
   go_simp
   refine (callsW (commonC_any hX (fun k => k ≠ b6) _ _ (hG.same (hkw6.trans hk_)) (Nat.le_trans hN (Keep.size (hkw6.trans hk_))) (fun k hk => by have := lt_of_some hz_; omega) (repC h46 hb4_))).mono ?_
   rintro x wt ⟨cb, co, cc, clv, rfl, hcc, hne, hrc, hkt⟩
   replace hN_ := hkt.same _ _ hN_ trivial
   replace hz_ := hkt.same _ _ hz_ trivial
   replace hk_ := Keep.trans hk_ hkt
   refine hK _ _ hN_ ?_
   clear hK K hkt
   iterate 3 (refine shT_x rfl rfl ?_; intro K hK w' hs; obtain ⟨p0, p1, p2, p3, p4, p5, p6, p7, p8⟩ := cells9 hs; go_simp; refine hK _ _ ?_; clear hK K p0 p1 p2 p3 p4 p5 p6 p7 p8 hs w')
   obtain ⟨z0, z1, z2, z3, z4, z5, z6, z7, z8⟩ := cells9 hz_
   have hfz : ∀ j, wt.frozen? ⟨b6, j, none⟩ = false := Lib.frozen_of_heap hz_
   refine shT_c rfl rfl ?_
   intro K hK
   go_simp
   obtain ⟨h9, hk9⟩ := put9 hz_ (.int .i64 8) (.bool false) (.bool false) (.string ⟨#[]⟩) (.int .i64 0) (.int .u64 0) (.int .i64 0) (.string ⟨#[]⟩) (.slice (some ⟨cb, co, none⟩) 4 cc)
   refine hK _ _ (hk9.same _ _ hN_ hbn6) ?_
   clear hK K
   refine shT_x rfl rfl ?_
   intro K hK w' hs
   go_simp
   refine hK _ _ ?_
   clear hK K hs w'
   refine shT_nil ?_
   exact ⟨b6, b4, cb, co, cc, clv, rfl, h9, hcc, rangeAt_keep hk9 (fun o _ => hne) hrc, ⟨hk9.os.trans hk_.os, hk9.tape.trans hk_.tape, hk9.output.trans hk_.output, Nat.le_trans hk_.size hk9.size, fun k o hk _ => hk9.same k o (hk_.same k o hk trivial) (by have := lt_of_some hk; omega)⟩⟩
  intro K hK
  go_simp
  refine hK _ _ (heap_old hbN8) ?_
  clear hK K
  refine shA_x rfl rfl rfl ?_; intro K hK w' hs; obtain ⟨p0, p1, p2, p3, p4, p5, p6, p7, p8⟩ := cells9 hs; go_simp; refine hK _ _ ?_; clear hK K p0 p1 p2 p3 p4 p5 p6 p7 p8 hs w'
  refine shA_c rfl rfl rfl ?now4 ?_
  case now4 =>
   have hb4_ : (w8.alloc (.cells #[.int .i64 3, .bool false, .bool false, .string ⟨#[50]⟩, .int .i64 0, .int .u64 0, .int .i64 0, .string ⟨#[]⟩, .slice none 0 0, .int .i64 1, .bool false, .bool false, .string ⟨#[]⟩, .int .i64 0, .int .u64 0, .int .i64 0, .string ⟨#[]⟩, .slice none 0 0, .int .i64 3, .bool false, .bool false, .string ⟨#[49]⟩, .int .i64 0, .int .u64 0, .int .i64 0, .string ⟨#[]⟩, .slice none 0 0, .int .i64 1, .bool false, .bool false, .string ⟨#[]⟩, .int .i64 0, .int .u64 0, .int .i64 0, .string ⟨#[]⟩, .slice none 0 0] 27)).heap[w8.heap.size]? = some (.cells #[.int .i64 3, .bool false, .bool false, .string ⟨#[50]⟩, .int .i64 0, .int .u64 0, .int .i64 0, .string ⟨#[]⟩, .slice none 0 0, .int .i64 1, .bool false, .bool false, .string ⟨#[]⟩, .int .i64 0, .int .u64 0, .int .i64 0, .string ⟨#[]⟩, .slice none 0 0, .int .i64 3, .bool false, .bool false, .string ⟨#[49]⟩, .int .i64 0, .int .u64 0, .int .i64 0, .string ⟨#[]⟩, .slice none 0 0, .int .i64 1, .bool false, .bool false, .string ⟨#[]⟩, .int .i64 0, .int .u64 0, .int .i64 0, .string ⟨#[]⟩, .slice none 0 0] 27 (0, 0)) := World.alloc_heap_new w8 _
   have hk69 : Same w6 (w8.alloc (.cells #[.int .i64 3, .bool false, .bool false, .string ⟨#[50]⟩, .int .i64 0, .int .u64 0, .int .i64 0, .string ⟨#[]⟩, .slice none 0 0, .int .i64 1, .bool false, .bool false, .string ⟨#[]⟩, .int .i64 0, .int .u64 0, .int .i64 0, .string ⟨#[]⟩, .slice none 0 0, .int .i64 3, .bool false, .bool false, .string ⟨#[49]⟩, .int .i64 0, .int .u64 0, .int .i64 0, .string ⟨#[]⟩, .slice none 0 0, .int .i64 1, .bool false, .bool false, .string ⟨#[]⟩, .int .i64 0, .int .u64 0, .int .i64 0, .string ⟨#[]⟩, .slice none 0 0] 27)) := Keep.alloc hk68 _
   have hbN9 := heap_old (o := .cells #[.int .i64 3, .bool false, .bool false, .string ⟨#[50]⟩, .int .i64 0, .int .u64 0, .int .i64 0, .string ⟨#[]⟩, .slice none 0 0, .int .i64 1, .bool false, .bool false, .string ⟨#[]⟩, .int .i64 0, .int .u64 0, .int .i64 0, .string ⟨#[]⟩, .slice none 0 0, .int .i64 3, .bool false, .bool false, .string ⟨#[49]⟩, .int .i64 0, .int .u64 0, .int .i64 0, .string ⟨#[]⟩, .slice none 0 0, .int .i64 1, .bool false, .bool false, .string ⟨#[]⟩, .int .i64 0, .int .u64 0, .int .i64 0, .string ⟨#[]⟩, .slice none 0 0] 27) hbN8
   have h46 : w8.heap.size ≠ (w8.alloc (.cells #[.int .i64 3, .bool false, .bool false, .string ⟨#[50]⟩, .int .i64 0, .int .u64 0, .int .i64 0, .string ⟨#[]⟩, .slice none 0 0, .int .i64 1, .bool false, .bool false, .string ⟨#[]⟩, .int .i64 0, .int .u64 0, .int .i64 0, .string ⟨#[]⟩, .slice none 0 0, .int .i64 3, .bool false, .bool false, .string ⟨#[49]⟩, .int .i64 0, .int .u64 0, .int .i64 0, .string ⟨#[]⟩, .slice none 0 0, .int .i64 1, .bool false, .bool false, .string ⟨#[]⟩, .int .i64 0, .int .u64 0, .int .i64 0, .string ⟨#[]⟩, .slice none 0 0] 27)).heap.size := by simp
   generalize (w8.alloc (.cells #[.int .i64 3, .bool false, .bool false, .string ⟨#[50]⟩, .int .i64 0, .int .u64 0, .int .i64 0, .string ⟨#[]⟩, .slice none 0 0, .int .i64 1, .bool false, .bool false, .string ⟨#[]⟩, .int .i64 0, .int .u64 0, .int .i64 0, .string ⟨#[]⟩, .slice none 0 0, .int .i64 3, .bool false, .bool false, .string ⟨#[49]⟩, .int .i64 0, .int .u64 0, .int .i64 0, .string ⟨#[]⟩, .slice none 0 0, .int .i64 1, .bool false, .bool false, .string ⟨#[]⟩, .int .i64 0, .int .u64 0, .int .i64 0, .string ⟨#[]⟩, .slice none 0 0] 27)) = w9 at hb4_ hk69 hbN9 h46 ⊢
   generalize w8.heap.size = b4 at hb4_ h46 ⊢
   refine shT_c rfl rfl ?_
   intro K hK
   go_simp
   refine hK _ _ (heap_old hbN9) ?_
   clear hK K
   have hz_ : (w9.alloc (.cells #[.int .i64 0, .bool false, .bool false, .string ⟨#[]⟩, .int .i64 0, .int .u64 0, .int .i64 0, .string ⟨#[]⟩, .slice none 0 0] 27)).heap[w9.heap.size]? = some (.cells #[.int .i64 0, .bool false, .bool false, .string ⟨#[]⟩, .int .i64 0, .int .u64 0, .int .i64 0, .string ⟨#[]⟩, .slice none 0 0] 27 (0, 0)) := World.alloc_heap_new w9 _
   have hN_ : (w9.alloc (.cells #[.int .i64 0, .bool false, .bool false, .string ⟨#[]⟩, .int .i64 0, .int .u64 0, .int .i64 0, .string ⟨#[]⟩, .slice none 0 0] 27)).heap[bn0]? = some (.cells #[.int .i64 1, .bool false, .bool false, .string ⟨#[]⟩, .int .i64 0, .int .u64 0, .int .i64 0, .string ⟨#[]⟩, .slice none 0 0] 27 (0, 0)) := heap_old hbN9
   have hk_ : Same w6 (w9.alloc (.cells #[.int .i64 0, .bool false, .bool false, .string ⟨#[]⟩, .int .i64 0, .int .u64 0, .int .i64 0, .string ⟨#[]⟩, .slice none 0 0] 27)) := Keep.alloc hk69 _
   have hbn6 : bn0 ≠ w9.heap.size := by have := lt_of_some (show w9.heap[bn0]? = some _ from hbN9); omega
   have hge : w6.heap.size ≤ w9.heap.size := (show Same w6 w9 from hk69).size
   replace hb4_ := heap_old (o := .cells #[.int .i64 0, .bool false, .bool false, .string ⟨#[]⟩, .int .i64 0, .int .u64 0, .int .i64 0, .string ⟨#[]⟩, .slice none 0 0] 27) hb4_
   generalize (w9.alloc (.cells #[.int .i64 0, .bool false, .bool false, .string ⟨#[]⟩, .int .i64 0, .int .u64 0, .int .i64 0, .string ⟨#[]⟩, .slice none 0 0] 27)) = wu at hz_ hN_ hk_ hb4_ ⊢
   generalize w9.heap.size = b6 at hz_ hbn6 hge h46 ⊢
   obtain ⟨x0, x1, x2, x3, x4, x5, x6, x7, x8⟩ := cells9 hN_
   clear x0 x1 x2 x3 x4 x5 x6 x7 x8
   refine shT_c rfl rfl ?_
   intro K hK
   go_simp
   refine (callsW (commonC_any hX (fun k => k ≠ b6) _ _ (hG.same (hkw6.trans hk_)) (Nat.le_trans hN (Keep.size (hkw6.trans hk_))) (fun k hk => by have := lt_of_some hz_; omega) (repC h46 hb4_))).mono ?_
   rintro x wt ⟨cb, co, cc, clv, rfl, hcc, hne, hrc, hkt⟩
   replace hN_ := hkt.same _ _ hN_ trivial
   replace hz_ := hkt.same _ _ hz_ trivial
   replace hk_ := Keep.trans hk_ hkt
   refine hK _ _ hN_ ?_
   clear hK K hkt
   iterate 3 (refine shT_x rfl rfl ?_; intro K hK w' hs; obtain ⟨p0, p1, p2, p3, p4, p5, p6, p7, p8⟩ := cells9 hs; go_simp; refine hK _ _ ?_; clear hK K p0 p1 p2 p3 p4 p5 p6 p7 p8 hs w')
   obtain ⟨z0, z1, z2, z3, z4, z5, z6, z7, z8⟩ := cells9 hz_
   have hfz : ∀ j, wt.frozen? ⟨b6, j, none⟩ = false := Lib.frozen_of_heap hz_
   refine shT_c rfl rfl ?_
   intro K hK
   go_simp
   obtain ⟨h9, hk9⟩ := put9 hz_ (.int .i64 8) (.bool false) (.bool false) (.string ⟨#[]⟩) (.int .i64 0) (.int .u64 0) (.int .i64 0) (.string ⟨#[]⟩) (.slice (some ⟨cb, co, none⟩) 4 cc)
   refine hK _ _ (hk9.same _ _ hN_ hbn6) ?_
   clear hK K
   refine shT_x rfl rfl ?_
   intro K hK w' hs
   go_simp
   refine hK _ _ ?_
   clear hK K hs w'
   refine shT_nil ?_
   exact ⟨b6, b4, cb, co, cc, clv, rfl, h9, hcc, rangeAt_keep hk9 (fun o _ => hne) hrc, ⟨hk9.os.trans hk_.os, hk9.tape.trans hk_.tape, hk9.output.trans hk_.output, Nat.le_trans hk_.size hk9.size, fun k o hk _ => hk9.same k o (hk_.same k o hk trivial) (by have := lt_of_some hk; omega)⟩⟩
  intro K hK
  go_simp
  have hkw9 : Same w (w8.alloc (.cells #[.int .i64 3, .bool false, .bool false, .string ⟨#[50]⟩, .int .i64 0, .int .u64 0, .int .i64 0, .string ⟨#[]⟩, .slice none 0 0, .int .i64 1, .bool false, .bool false, .string ⟨#[]⟩, .int .i64 0, .int .u64 0, .int .i64 0, .string ⟨#[]⟩, .slice none 0 0, .int .i64 3, .bool false, .bool false, .string ⟨#[49]⟩, .int .i64 0, .int .u64 0, .int .i64 0, .string ⟨#[]⟩, .slice none 0 0, .int .i64 1, .bool false, .bool false, .string ⟨#[]⟩, .int .i64 0, .int .u64 0, .int .i64 0, .string ⟨#[]⟩, .slice none 0 0] 27)) := (hkw6.trans hk68).alloc _
  refine (callsW (commonC_any hX AnyB _ _ (hG.same hkw9) (Nat.le_trans hN hkw9.size) (fun _ _ => trivial) (repC trivial (World.alloc_heap_new w8 _)))).mono ?_
  rintro x w10 ⟨cb, co, cc, clv, rfl, hcc, _, hrc, hk10⟩
  have hbN10 := hk10.same _ _ (heap_old hbN8) trivial
  have hk6 : Same w6 w10 := (hk68.alloc _).trans hk10
  refine hK _ _ hbN10 ?_
  clear hK K hkw9 hk10 hbN8
  iterate 3 (refine shA_x rfl rfl rfl ?_; intro K hK w' hs; obtain ⟨p0, p1, p2, p3, p4, p5, p6, p7, p8⟩ := cells9 hs; go_simp; refine hK _ _ ?_; clear hK K p0 p1 p2 p3 p4 p5 p6 p7 p8 hs w')
  refine shA_wait rfl ?_
  refine shT_c rfl rfl ?_
  intro K hK
  go_simp
  refine hK _ _ (heap_old hbN10) ?_
  clear hK K
  refine shT_c rfl rfl ?_
  intro K hK
  go_simp
  refine hK _ _ (heap_old hbN10) ?_
  clear hK K
  refine shT_x rfl rfl ?_
  intro K hK w' hs
  go_simp
  refine hK _ _ ?_
  clear hK K hs w'
  refine shT_nil ?_
  exact ⟨w10.heap.size, w8.heap.size, cb, co, cc, clv, rfl, World.alloc_heap_new w10 _, hcc, rangeAt_same ((Keep.refl _ _).alloc _) hrc, hk6.alloc _⟩
 case post =>
  intro e a W h
  cases e <;> first | exact h.elim | skip
  obtain ⟨b6, b4, cb, co, cc, clv, rfl, h6, hcc, hrc, hk6⟩ := h
  have hA := hk6.same _ _ hbA6 trivial
  have hB := hk6.same _ _ hbB trivial
  clear hbN hbA6 hbB x0 x1 x2 x3 x4 x5 x6 x7 x8
  obtain ⟨a0, a1, a2, a3, a4, a5, a6, a7, a8⟩ := cells9 hA
  obtain ⟨e0, e1, e2, e3, e4, e5, e6, e7, e8⟩ := cells9 hB
  obtain ⟨c0, c1, c2, c3, c4, c5, c6, c7, c8⟩ := cells9 h6
  obtain ⟨d0, d1, d2, d3, d4, d5, d6, d7, d8⟩ := nodeAt_of hrc
  have hkw : Same w W := hkw6.trans hk6
  change _ = some (Value.string ⟨#[49]⟩) at d7
  clear hA hB h6 hrc
  go_wp2
  go_ret
  exact ⟨rfl, hkw⟩
end Go.Tm
namespace Go.Tm
open Go.Sort
def revP : List Tree → List Tree
 | k :: x :: l => revP l ++ [k, x]
 | _ => []
mutual
def Tree.turn : Tree → Tree
 | .node h l => .node h (if h.kind = 8 ∧ l.length % 2 = 0 then revP (turnL l) else turnL l)
def turnL : List Tree → List Tree
 | [] => []
 | x :: l => x.turn :: turnL l
end
def unpairs (ps : List (Tree × Tree)) : List Tree := ps.flatMap fun p => [p.1, p.2]
theorem unpairs_cons (p : Tree × Tree) (ps : List (Tree × Tree)) : unpairs (p :: ps) = p.1 :: p.2 :: unpairs ps := rfl
theorem unpairs_append (a b : List (Tree × Tree)) : unpairs (a ++ b) = unpairs a ++ unpairs b := by simp [unpairs]
theorem even_pairs : ∀ l : List Tree, l.length % 2 = 0 → ∃ ps, l = unpairs ps
 | [], _ => ⟨[], rfl⟩
 | [_], h => by simp at h
 | k :: x :: l, h => by
  obtain ⟨ps, hp⟩ := even_pairs l (by simp at h; omega)
  exact ⟨(k, x) :: ps, by rw [unpairs_cons, ← hp]⟩
theorem unpairs_len (ps : List (Tree × Tree)) : (unpairs ps).length = 2 * ps.length := by
 induction ps with
 | nil => rfl
 | cons p ps ih => rw [unpairs_cons]; simp only [List.length_cons, ih]; omega
theorem keys_unpairs (ps : List (Tree × Tree)) : keysOf (unpairs ps) = ps.map Prod.fst := by
 induction ps with
 | nil => rfl
 | cons p ps ih => rw [unpairs_cons, keysOf, ih]; rfl
theorem mem_unpairs {x : Tree} {ps : List (Tree × Tree)} : x ∈ unpairs ps ↔ ∃ p ∈ ps, x = p.1 ∨ x = p.2 := by simp [unpairs]
theorem mem_flatL {x : Tree} : ∀ {l : List Tree}, x ∈ flatL l ↔ ∃ k ∈ l, x ∈ k.flat
 | [] => by simp [flatL]
 | y :: l => by rw [flatL, List.mem_append, mem_flatL (l := l)]; simp
theorem flat_all (P : Tree → Prop) (t : Tree) : (∀ x ∈ t.flat, P x) ↔ P t ∧ ∀ k ∈ t.l, ∀ x ∈ k.flat, P x := by
 obtain ⟨h, l⟩ := t
 rw [Tree.flat, Tree.l_node]
 constructor
 ·intro H
  exact ⟨H _ List.mem_cons_self, fun k hk x hx => H x (List.mem_cons_of_mem _ (mem_flatL.2 ⟨k, hk, hx⟩))⟩
 ·rintro ⟨h1, h2⟩ x hx
  rcases List.mem_cons.1 hx with rfl | hx
  ·exact h1
  ·obtain ⟨k, hk, hx⟩ := mem_flatL.1 hx
   exact h2 k hk x hx
theorem twice_iff (l : List Tree) : isTwice l = false ↔ l.Nodup := by
 rw [List.nodup_iff_pairwise_ne, List.pairwise_iff_getElem]
 constructor
 ·intro h i j hi hj hij e
  have : isTwice l = true := by
   unfold isTwice
   rw [List.any_eq_true]
   refine ⟨j, List.mem_range.2 hj, ?_⟩
   unfold twiceAt
   rw [List.getElem?_eq_getElem hj]
   simp only
   rw [List.any_eq_true]
   refine ⟨l[i], ?_, (same_iff _ _).2 e.symm⟩
   rw [List.mem_take_iff_getElem]
   exact ⟨i, by omega, rfl⟩
  rw [this] at h; cases h
 ·intro h
  cases hh : isTwice l with
  | false => rfl
  | true =>
   unfold isTwice at hh
   rw [List.any_eq_true] at hh
   obtain ⟨j, hj, h2⟩ := hh
   have hj := List.mem_range.1 hj
   unfold twiceAt at h2
   rw [List.getElem?_eq_getElem hj] at h2
   simp only at h2
   rw [List.any_eq_true] at h2
   obtain ⟨y, hy, h3⟩ := h2
   rw [List.mem_take_iff_getElem] at hy
   obtain ⟨i, hi, rfl⟩ := hy
   exact absurd ((same_iff _ _).1 h3).symm (h i j (by omega) hj (by omega))
variable (X : Hd → Dc × Bool)
end Go.Tm
namespace Go.Tm
open Go.Sort
def pairsM : List Tree → List (ByteArray × Tree)
 | k :: x :: l => (k.hd.s, x) :: pairsM l
 | _ => []
mutual
def Tree.ord : Tree → Tree
 | .node h l => .node h (if h.kind = 8 then sortM (pairsM (ordL l)) else ordL l)
def ordL : List Tree → List Tree
 | [] => []
 | x :: l => x.ord :: ordL l
end
theorem ordL_map : ∀ l : List Tree, ordL l = l.map Tree.ord
 | [] => by rw [ordL]; rfl
 | x :: l => by rw [ordL, ordL_map l]; rfl
theorem ord_hd (t : Tree) : t.ord.hd = t.hd := by cases t; rw [Tree.ord]; rfl
theorem ord_leaf (h : Hd) : (Tree.node h []).ord = .node h [] := by
 rw [Tree.ord, ordL]
 split
 ·rw [show pairsM [] = [] from rfl]; simp [sortM]
 ·rfl
theorem leB_trans (a b c : ByteArray × Tree) (h1 : leB a b = true) (h2 : leB b c = true) : leB a c = true := by
 have h1' : ltB b.1 a.1 = false := by simpa [leB, ltB] using h1
 have h2' : ltB c.1 b.1 = false := by simpa [leB, ltB] using h2
 show (!ltB c.1 a.1) = true
 rw [swo_ltB.ntrans _ _ _ h2' h1']; rfl
theorem leB_total (a b : ByteArray × Tree) : (leB a b || leB b a) = true := by
 show ((!ltB b.1 a.1) || (!ltB a.1 b.1)) = true
 cases h : ltB b.1 a.1 with
 | false => rfl
 | true => rw [swo_ltB.asymmA h]; rfl
theorem bareT_eq {h : Hd} {l : List Tree} {g : Hd} (hb : bareT (.node h l) g = true) : l = [] ∧ h = { g with kind := h.kind } := by
 unfold bareT at hb
 simp only [Bool.and_eq_true, List.isEmpty_iff, Tree.l_node, Tree.hd_node] at hb
 exact ⟨hb.1, of_decide_eq_true hb.2⟩
end Go.Tm
namespace Go.Tm
open Go.RowKit Go.Proofs Go.Sort Go.Shelf
def KeyTexts (l : List Tree) : Prop := ∀ i (h : 2 * i + 1 < l.length), l[2 * i].hd = textHd l[2 * i].hd.s ∧ l[2 * i].l = []
theorem pairsM_len : ∀ l : List Tree, (pairsM l).length = l.length / 2
 | [] => rfl
 | [_] => by rw [pairsM]; simp; intro k x l h; cases h
 | k :: x :: l => by rw [pairsM, List.length_cons, pairsM_len l, List.length_cons, List.length_cons]; omega
theorem pairsM_get : ∀ (l : List Tree) (i : Nat) (h : 2 * i + 1 < l.length), (pairsM l)[i]'(by rw [pairsM_len]; omega) = (l[2 * i].hd.s, l[2 * i + 1])
 | k :: x :: l, 0, _ => rfl
 | k :: x :: l, i + 1, h => by
  have := pairsM_get l i (by simp only [List.length_cons] at h; omega)
  simpa [pairsM, Nat.mul_add] using this
 | [_], i, h => by simp at h
theorem fold_get : ∀ (L : List Value) (k : Nat) (z : Array Value) (i : Nat), k + L.length ≤ z.size → ((L.zipIdx k).foldl (fun (cs : Array Value) x => cs.setIfInBounds x.snd x.fst) z)[i]? = if k ≤ i ∧ i < k + L.length then L[i - k]? else z[i]?
 | [], k, z, i, _ => by rw [List.zipIdx_nil, List.foldl_nil, if_neg (by simp)]
 | v :: L, k, z, i, h => by
  simp only [List.length_cons] at h
  rw [List.zipIdx_cons, List.foldl_cons, fold_get L (k + 1) _ i (by rw [Array.size_setIfInBounds]; omega)]
  simp only [List.length_cons]
  by_cases h1 : k + 1 ≤ i ∧ i < k + 1 + L.length
  ·rw [if_pos h1, if_pos (by omega), show i - k = (i - (k + 1)) + 1 by omega, List.getElem?_cons_succ]
  ·rw [if_neg h1, Array.getElem?_setIfInBounds]
   by_cases h2 : k = i
   ·subst h2
    rw [if_pos rfl, if_pos (by omega), if_pos (by omega), Nat.sub_self]; rfl
   ·rw [if_neg h2, if_neg (by omega)]
theorem fold_set (L : List Value) (z : Array Value) (h : L.length = z.size) (j : Nat) : ((L.zipIdx.foldl (fun (cs : Array Value) x => cs.setIfInBounds x.snd x.fst) z).toList)[j]? = L[j]? := by
 rw [Array.getElem?_toList, fold_get L 0 z j (by omega)]
 by_cases hj : j < L.length
 ·rw [if_pos (by omega)]; rfl
 ·rw [if_neg (by omega), List.getElem?_eq_none (by omega), Array.getElem?_eq_none (by omega)]
structure CInv (S : Nat → Prop) (w : World) (l : List Tree) (i : Nat) (ms : List Mem) (lv : Value) (A : World) : Prop where
 len : ms.length = i
 prs : ms.map Mem.pair = (pairsM l).take i
 good : ∀ m ∈ ms, m.good S A
 sb : Boxed A w.heap.size 68 lv
 row : A.ownsRow (w.heap.size + 1) 71 18 lv i (flatM ms)
 fr : Same w A
 sz : w.heap.size + 1 ≤ A.heap.size
theorem CInv.keep {K : Nat → Obj → Prop} {S : Nat → Prop} {w : World} {l : List Tree} {i : Nat} {ms : List Mem} {lv : Value} {A B : World} (h : CInv S w l i ms lv A) (hk : Keep K A B) (hK : ∀ k o, k < w.heap.size + 1 ∨ o.isCells = true → K k o) : CInv S w l i ms lv B where
 len := h.len
 prs := h.prs
 good m hm := ⟨(h.good m hm).1, (h.good m hm).2.1, (h.good m hm).2.2.1.keep hk fun k _ c f => hK _ _ (.inr rfl), (h.good m hm).2.2.2.keep hk fun k _ c f => hK _ _ (.inr rfl)⟩
 sb := hk.boxed h.sb (hK _ _ (.inr rfl))
 row := own_keep h.row hk fun _ _ _ _ => hK _ _ (.inr rfl)
 fr := ⟨hk.os.trans h.fr.os, hk.tape.trans h.fr.tape, hk.output.trans h.fr.output, Nat.le_trans h.fr.size hk.size, fun k o hko _ => hk.same k o (h.fr.same k o hko trivial) (hK _ _ (.inl (by have := lt_of_some hko; omega)))⟩
 sz := Nat.le_trans h.sz hk.size
def SeqK (w : World) : Nat → Obj → Prop := fun k o => (∃ c f, o = .cells c 27 f) ∨ (k ≠ w.heap.size ∧ (k < w.heap.size + 1 ∨ ∀ c f, o ≠ .cells c 71 f))
theorem CInv.own {S : Nat → Prop} {w : World} {l : List Tree} {i : Nat} {ms : List Mem} {lv : Value} {A : World} (h : CInv S w l i ms lv A) (k : Nat) (hk : lv.ownBlock = some k) : w.heap.size + 1 ≤ k ∧ ∃ c, A.heap[k]? = some (.cells c 71 (0, 0)) := by
 rcases h.row.2 with ⟨rfl, _⟩ | ⟨g, cap, cur, rfl, hg, hgg, _⟩
 ·cases hk
 ·simp only [Value.ownBlock, Option.some.injEq] at hk
  subst hk
  exact ⟨hg, cur, hgg⟩
set_option maxRecDepth 100000 in
set_option maxHeartbeats 8000000 in
theorem appendSeq_any (S : Nat → Prop) (l : List Tree) (lv : Value) (bx : Nat) (w : World) (hr : RepS S w l lv) (hbx : Boxed w bx 25 lv) (hl40 : l.length ≤ 40) (hkt : KeyTexts l) (hok : ∀ x ∈ l, x.hd.s.size ≤ 1099511627776) :
  Calls Tryz.prog 69 #[.slice none 0 0, .func (.func 70) #[] #[.pointer (some ⟨bx, 0, none⟩)]] w fun e w' => ∃ ms v', e = .returned v' ∧ ms.map Mem.pair = pairsM l ∧ (∀ m ∈ ms, m.good S w') ∧ w'.ownsRow (w.heap.size + 1) 71 18 v' ms.length (flatM ms) ∧ Same w w' := by
 have hi18 : (Tryz.prog.info? 71).map (·.size) = some 18 := by kernel_rfl
 have hbl : bx < w.heap.size := lt_of_some hbx
 refine (callsIn_wide (n := 0)).1 ?_
 refine callsIn_of_wp_marks Tryz.func69 rfl trivial ?_ rfl
 simp only [Tryz.ntmps69, List.size_toArray, List.length_cons, List.length_nil, Nat.reduceAdd, Nat.reduceSub, Array.replicate_succ, Array.replicate_zero, List.push_toArray, List.append_toArray, List.nil_append, List.cons_append]
 gi_wp2
 obtain ⟨W1, hW1⟩ : ∃ W1, w.alloc (.cells #[.slice none 0 0] 68) = W1 := ⟨_, rfl⟩
 rw [hW1]
 have hk1 : Same w W1 := by rw [← hW1]; exact (Keep.refl _ _).alloc _
 have hz1 : W1.heap.size = w.heap.size + 1 := by rw [← hW1]; simp
 have hI0 : CInv S w l 0 [] (.slice none 0 0) W1 := {
  len := rfl
  prs := by simp
  good := fun m hm => by cases hm
  sb := by rw [← hW1]; exact World.alloc_heap_new w _
  row := World.ownsRow_nil _ _ _ _
  fr := hk1
  sz := by omega }
 clear hW1
 refine wp_range (gf := 70) (lb := #[.pointer (some ⟨bx, 0, none⟩)])
  rfl (enters_of Tryz.func70 (by kernel_rfl) rfl) (l.length / 2) (GivesM S l)
  (SeqK w) (fun _ _ => True) (fun _ => True) (fun _ _ => True) ?hit ?hSb (fun _ _ _ _ _ => trivial)
  (fun i A => ∃ ms lv, CInv S w l i ms lv A) (fun _ _ _ => False) ?hI ?hIx ?hE (fun _ _ _ _ => trivial) (fun _ _ _ _ _ => trivial) ?hEs ⟨[], .slice none 0 0, hI0⟩
  (fun i v a' A => ∃ b2 cs, v = #[.agg cs] ∧ A.heap[b2]? = some (.cells cs 71 (0, 0)) ∧ w.heap.size + 1 ≤ b2 ∧ a' = { tmps := #[.slice none 0 0, .func (.func 70) #[] #[.pointer (some ⟨bx, 0, none⟩)], .pointer (some ⟨w.heap.size, 0, none⟩), undef, .slice none 0 0, .pointer (some ⟨b2, 0, none⟩), .func (.func 70) #[] #[.pointer (some ⟨bx, 0, none⟩)], .agg cs, undef, undef, undef, undef, undef], defers := [] }) ?hAx ?hassign ?hbody ?hdone ?hstop
 case hit =>
  intro W2 hk2 hz2
  exact members1_iter S l _ _ _ _ W2 ((hr.same hk1).same hk2) (hk2.boxed (hk1.boxed hbx trivial) trivial) (fun c f => .inr ⟨by omega, .inl (by omega)⟩) (fun k c f => .inl ⟨c, f, rfl⟩)
 case hSb => exact fun k o hk ho => .inr ⟨by omega, .inr fun c f e => by subst e; cases ho⟩
 case hI =>
  rintro i A B ⟨ms, lv, h2⟩ hk
  exact ⟨ms, lv, h2.keep hk fun k o h => ⟨h.imp_left fun h => by omega, trivial⟩⟩
 case hIx => rintro _ _ _ _ h; exact h.elim
 case hE =>
  rintro i v A B ⟨h0, h1, lv, mv, e, r0, r1, o0, o1⟩ hk
  exact ⟨h0, h1, lv, mv, e, r0.keep hk fun _ _ _ _ => .inr rfl, r1.keep hk fun _ _ _ _ => .inr rfl, o0, o1⟩
 case hEs =>
  rintro i v A ⟨h0, h1, lv, mv, e, _⟩
  rw [e]; rfl
 case hAx =>
  rintro i v a' A B ⟨b2, cs, e, h1, h2, h3⟩ hk
  exact ⟨b2, cs, e, hk.same _ _ h1 (.inr rfl), h2, h3⟩
 case hassign =>
  rintro lp i v A K hi ⟨ms, lv2, hp1⟩ hE' hK
  have hE2 := hE'
  obtain ⟨h0, h1, klv, glv, rfl, r0, r1, o0, o1⟩ := hE'
  obtain ⟨k0, hk0⟩ : ∃ k0, (l[2 * i]).hd = k0 := ⟨_, rfl⟩
  obtain ⟨g0, hg0⟩ : ∃ g0, (l[2 * i + 1]).hd = g0 := ⟨_, rfl⟩
  obtain ⟨ka, kc, rfl⟩ := r0.is_slice
  obtain ⟨ga, gc, rfl⟩ := r1.is_slice
  rw [hk0, hg0] at hK hE2 ⊢
  obtain ⟨kn, hkn⟩ : ∃ n, (l[2 * i]).l.length = n := ⟨_, rfl⟩
  obtain ⟨gn, hgn⟩ : ∃ n, (l[2 * i + 1]).l.length = n := ⟨_, rfl⟩
  rw [hkn, hgn] at hK hE2 ⊢
  clear r0 r1 o0 o1 hk0 hg0 hkn hgn h0 h1 hr
  refine wpIn_region_lit ?_
  refine wpListIn_plain rfl fun K2 hK2 => ?_
  go_simp
  refine hK2 _ _ ?_
  clear hK2 K2
  refine wpListIn_store_row rfl 71 _ _ rfl A.heap.size (memCs k0 g0 (.slice ka kn kc) (.slice ga gn gc)).toArray rfl rfl 71 _ (heap_alloc_last _ _) hi18 rfl (memCs_all _ _ _ _ _ _ _ _) ?_
  rw [World.setRow_alloc_new]
  refine wpListIn_nil ?_
  refine hK _ _ ((Keep.refl _ _).alloc _) ⟨ms, lv2, hp1.keep ((Keep.refl All _).alloc _) fun _ _ _ => trivial⟩ ?_ ⟨A.heap.size, _, rfl, World.alloc_heap_new A _, hp1.sz, rfl⟩
  obtain ⟨h0, h1, lv, mv, e, r0, r1, o0, o1⟩ := hE2
  exact ⟨h0, h1, lv, mv, e, r0.same ((Keep.refl _ _).alloc _), r1.same ((Keep.refl _ _).alloc _), o0, o1⟩
 case hbody =>
  rintro lp i v a' A hlp ⟨rr, hrl⟩ hi2 ⟨ms, lv2, hp1⟩ ⟨h0, h1, klv, glv, hv, r0, r1, o0, o1⟩ ⟨b2, cs, rfl, hb2, hb2z, rfl⟩
  have hpg := pairsM_get l i h1
  have hkt1 := hkt i h1
  have hks := hok l[2 * i] (List.getElem_mem h0)
  have htake : (pairsM l).take (i + 1) = (pairsM l).take i ++ [(l[2 * i].hd.s, l[2 * i + 1])] := by
   rw [List.take_succ_eq_append_getElem (by rw [pairsM_len]; omega), hpg]
  obtain ⟨kt, hkt'⟩ : ∃ t, l[2 * i] = t := ⟨_, rfl⟩
  obtain ⟨gt, hgt⟩ : ∃ t, l[2 * i + 1] = t := ⟨_, rfl⟩
  rw [hkt'] at hkt1 hks htake r0 o0 hv
  rw [hgt] at htake r1 o1 hv
  obtain ⟨kh, kl⟩ := kt
  obtain ⟨hkh, rfl⟩ := hkt1
  obtain ⟨gh, gl⟩ := gt
  simp only [Tree.hd_node, Tree.l_node] at hkh hks htake r0 r1 o0 o1 hv
  obtain ⟨ka, kc, rfl⟩ := r0.is_slice
  obtain ⟨ga, gc, rfl⟩ := r1.is_slice
  have hcs : cs = (Mem.cs ⟨kh.s, gh, ga, gl.length, gc, gl, ka, kc⟩).toArray := by
   have := congrArg (fun v : Array Value => v[0]?) hv
   simp only [List.getElem?_toArray] at this
   injection (Option.some.inj this) with e
   rw [e, Mem.cs]
   show _ = (memCs (textHd kh.s) gh _ _).toArray
   rw [← hkh]
   rfl
  have hcsm : (Mem.cs ⟨kh.s, gh, ga, gl.length, gc, gl, ka, kc⟩).length = 18 := rfl
  obtain ⟨M, hM⟩ : ∃ M : Mem, M = ⟨kh.s, gh, ga, gl.length, gc, gl, ka, kc⟩ := ⟨_, rfl⟩
  rw [← hM] at hcs hcsm
  have hgood : ∀ B, Same A B → M.good S B := fun B hs => by subst hM; exact ⟨hks, o1, r1.same hs, r0.same hs⟩
  have hpair : M.pair = (kh.s, .node gh gl) := by subst hM; rfl
  have hone := Mem.cs_one M
  obtain ⟨L, hL⟩ : ∃ L, M.cs = L := ⟨_, rfl⟩
  rw [hL] at hcs hcsm hone
  subst hcs
  have hra : A.rangeAt b2 0 L := fun j v hj => by
   rw [Nat.zero_add, cell_of_row _ _ j _ _ _ hb2]
   simpa using hj
  have hi18b : (Tryz.prog.info? 71).map (·.size) = some L.length := by rw [hcsm]; exact hi18
  have cs7 := hp1.sb.cell
  have fs7 := hp1.sb.frozen
  obtain ⟨la, lc, rfl⟩ : ∃ a c, lv2 = .slice a i c := by
   rcases hp1.row.2 with ⟨rfl, h0⟩ | ⟨g, cap, cur, rfl, _⟩
   ·exact ⟨none, 0, by rw [h0]⟩
   ·exact ⟨_, _, rfl⟩
  obtain ⟨m0, hm0, hmz0, hmz1, hmz2⟩ := info_parts mem_info
  have hz7 := hp1.sz
  have HT := Lib.hid htake
  have HG := Lib.hid hgood
  clear hv hkh hM r0 r1 o0 o1 htake hgood hb2 hr hbx hrl hkt' hgt hpg
  gi_wp2_with (first
   | (refine wpListIn_load_mid rfl 71 _ rfl b2 0 rfl L _ hra Tryz.underlying71 rfl hi18b ?_)
   | (gi_at_builtin; refine wpListIn_append_own _ rfl _ _ 68 rfl (w.heap.size + 1) 71 m0 (memV (bareHd 0) (bareHd 0) (.slice none 0 0) (.slice none 0 0)) 18 208 Tryz.underlying68 hm0 hmz0 hmz1 hmz2 rfl (by decide) _ _ _ rfl (hp1.row.alloc _) ⟨A.heap.size, 0, none⟩ 1 1 L rfl hcsm ?c1 ?c2 ?c3 ?c4 ?c5 ?_))
  case c1 => exact fun j u hu => cells_new _ _ _ j u (by rw [fold_set L _ (by rw [hcsm]; rfl)]; exact hu)
  case c2 => exact hone
  case c3 => unfold maxLen; omega
  case c4 => omega
  case c5 => simp; omega
  intro v' A10 hown' hgrow _
  obtain ⟨va, vc, rfl⟩ : ∃ a c, v' = .slice a (i + 1) c := by
   rcases hown'.2 with ⟨_, h0⟩ | ⟨g, cap, cur, rfl, _⟩
   ·omega
   ·exact ⟨_, _, rfl⟩
  have hone2 : ∀ k, k < w.heap.size + 1 → (Value.slice la i lc).ownBlock ≠ some k := fun k hlt e => by have := (hp1.own k e).1; omega
  have hk10 : Keep (fun k _ => (Value.slice la i lc).ownBlock ≠ some k) A A10 := ((Keep.refl _ A).alloc _).grown hgrow fun r hr o _ hs _ => hs hr
  have hlb10 : Boxed A10 w.heap.size 68 (.slice la i lc) := hk10.boxed hp1.sb (hone2 _ (by omega))
  have cl10 := hlb10.cell
  have fz10 := hlb10.frozen
  clear hgrow hra
  gi_wp2
  have hk11 : Keep (fun k _ => k ≠ w.heap.size) A10 (A10.setCell ⟨w.heap.size, 0, none⟩ (.slice va (i + 1) vc)) := (Keep.refl _ A10).setCell _ fun o _ hs _ => hs rfl
  have hlb11 : Boxed (A10.setCell ⟨w.heap.size, 0, none⟩ (.slice va (i + 1) vc)) w.heap.size 68 (.slice va (i + 1) vc) := hlb10.set _
  show (Keep _ A (A10.setCell ⟨w.heap.size, 0, none⟩ (.slice va (i + 1) vc))) ∧ _
  generalize (A10.setCell ⟨w.heap.size, 0, none⟩ (.slice va (i + 1) vc)) = A11 at hk11 hlb11
  have hkall : Keep (fun k _ => k ≠ w.heap.size ∧ (Value.slice la i lc).ownBlock ≠ some k) A A11 :=
   ⟨hk11.os.trans hk10.os, hk11.tape.trans hk10.tape, hk11.output.trans hk10.output, Nat.le_trans hk10.size hk11.size, fun k o ho hK => hk11.same k o (hk10.same k o ho hK.2) hK.1⟩
  have hkn : Keep (SeqK w) A A11 := hkall.mono fun k o ho hK => by
   rcases hK with ⟨c, f, rfl⟩ | ⟨h1, h2⟩
   ·refine ⟨?_, ?_⟩
    ·rintro rfl; have := hp1.sb; unfold Boxed at this; rw [this] at ho; cases ho
    ·intro e; obtain ⟨_, c', hc⟩ := hp1.own k e; rw [hc] at ho; cases ho
   ·refine ⟨h1, fun e => ?_⟩
    obtain ⟨h3, c', hc⟩ := hp1.own k e
    rw [hc] at ho; cases ho
    rcases h2 with h2 | h2
    ·omega
    ·exact h2 _ _ rfl
  have hsm : ∀ m : Mem, m.good S A → m.good S A11 := fun m hm => ⟨hm.1, hm.2.1, hm.2.2.1.keep hkn fun _ _ c f => .inl ⟨c, f, rfl⟩, hm.2.2.2.keep hkn fun _ _ c f => .inl ⟨c, f, rfl⟩⟩
  refine ⟨hkn, ms ++ [M], .slice va (i + 1) vc, ?_⟩
  exact {
   len := by rw [List.length_append, hp1.len]; rfl
   prs := by rw [HT.out, List.map_append, hp1.prs, List.map_cons, List.map_nil, hpair]
   good := fun m hm => by
    rcases List.mem_append.1 hm with h | h
    ·exact hsm m (hp1.good m h)
    ·rw [List.mem_singleton.1 h]; exact hsm _ (HG.out A (Keep.refl _ _))
   sb := hlb11
   row := by
    rw [flatM_append]
    have := own_keep hown' hk11 fun g _ hg _ => (by omega : g ≠ w.heap.size)
    simpa [flatM, hL] using this
   fr := ⟨hkall.os.trans hp1.fr.os, hkall.tape.trans hp1.fr.tape, hkall.output.trans hp1.fr.output, Nat.le_trans hp1.fr.size hkall.size, fun k o hko _ => hkall.same k o (hp1.fr.same k o hko trivial) (by have := lt_of_some hko; exact ⟨by omega, hone2 _ (by omega)⟩)⟩
   sz := Nat.le_trans hp1.sz hkall.size }
 case hdone =>
  rintro D A hD ⟨ms, lv2, hp⟩ _ hkD hDB
  have hlenp := pairsM_len l
  have hall : ms.map Mem.pair = pairsM l := by rw [hp.prs, ← hlenp, List.take_length]
  have HALL := Lib.hid hall
  obtain ⟨la, ln, lc, rfl⟩ : ∃ a n c, lv2 = .slice a n c := by
   rcases hp.row.2 with ⟨rfl, _⟩ | ⟨g, cap, cur, rfl, _⟩
   ·exact ⟨_, _, _, rfl⟩
   ·exact ⟨_, _, _, rfl⟩
  have cl := hp.sb.cell
  clear hall hr hI0 hkt hok hlenp
  gi_wp2
  have hkp := (Keep.refl (fun k o => k ≠ D ∨ o.isCells = true) A).putObj (r := D) (.deferred none) fun o ho hs _ => by rw [hDB] at ho; cases ho; rcases hs with h | h; exact h rfl; cases h
  refine ⟨by simp, .inl ⟨_, _, rfl, run_takeDeferred hDB, ?_⟩⟩
  refine ⟨_, results_tmp rfl _ _ _, ms, _, rfl, HALL.out, fun m hm => ?_, ?_, ?_⟩
  ·have := hp.good m hm
   exact ⟨this.1, this.2.1, this.2.2.1.keep hkp fun _ _ _ _ => .inr rfl, this.2.2.2.keep hkp fun _ _ _ _ => .inr rfl⟩
  ·rw [hp.len]
   exact own_keep hp.row hkp fun _ _ _ _ => .inr rfl
  ·exact ⟨hkp.os.trans hp.fr.os, hkp.tape.trans hp.fr.tape, hkp.output.trans hp.fr.output, Nat.le_trans hp.fr.size hkp.size, fun k o hko _ => hkp.same k o (hp.fr.same k o hko trivial) (.inl (by have := lt_of_some hko; omega))⟩
 case hstop => rintro D i c A _ _ h; exact h.elim
set_option maxRecDepth 100000 in
set_option maxHeartbeats 2000000 in
theorem collect_any (S : Nat → Prop) (l : List Tree) (lv : Value) (bx : Nat) (w : World) (hr : RepS S w l lv) (hbx : Boxed w bx 25 lv) (hl40 : l.length ≤ 40) (hkt : KeyTexts l) (hok : ∀ x ∈ l, x.hd.s.size ≤ 1099511627776) :
  Calls Tryz.prog 44 #[.func (.func 70) #[] #[.pointer (some ⟨bx, 0, none⟩)]] w fun e w' => ∃ ms v', e = .returned v' ∧ ms.map Mem.pair = pairsM l ∧ (∀ m ∈ ms, m.good S w') ∧ w'.ownsRow (w.heap.size + 1) 71 18 v' ms.length (flatM ms) ∧ Same w w' := by
 have ha := appendSeq_any S l lv bx w hr hbx hl40 hkt hok
 clear hr hbx hkt hok
 go_enter Tryz.func44, Tryz.ntmps44
 go_wp2_with (go_at_call 69; refine ha.mono ?_; rintro e w1 ⟨ms, v', rfl, h1, h2, h3, h4⟩)
 go_ret
 exact ⟨ms, _, rfl, h1, h2, h3, h4⟩
end Go.Tm
namespace Go.Tm
open Go.Sort
abbrev OwnJ (t : Tree) : Prop := ∀ x ∈ t.flat, ownT x = true ∧ fitsT 1 x = true
theorem ownJ_kid {h : Hd} {l : List Tree} (ho : OwnJ (.node h l)) {x : Tree} (hx : x ∈ l) : OwnJ x := ((flat_all (fun x => ownT x = true ∧ fitsT 1 x = true) (.node h l)).1 ho).2 x hx
theorem ownJ_self {t : Tree} (ho : OwnJ t) : ownT t = true ∧ fitsT 1 t = true := ((flat_all (fun x => ownT x = true ∧ fitsT 1 x = true) t).1 ho).1
theorem text_node {t : Tree} (h5 : t.hd.kind = 5) (ho : ownT t = true) : t.hd = textHd t.hd.s ∧ t.l = [] := by
 obtain ⟨h, l⟩ := t
 simp only [Tree.hd_node, Tree.l_node] at h5 ⊢
 have hb : bareT (.node h l) { bareHd 5 with s := h.s } = true := by
  have e : ownT (.node h l) = (bareT (.node h l) { bareHd 5 with s := h.s } && decide (h.s.size ≤ 400) && utfRight h.s) := by
   unfold ownT
   simp only [Tree.hd_node, h5]
   rfl
  rw [e, Bool.and_eq_true, Bool.and_eq_true] at ho
  exact ho.1.1
 obtain ⟨e1, e2⟩ := bareT_eq hb
 refine ⟨?_, e1⟩
 rw [e2, h5]
 rfl
theorem pairsM_unpairs : ∀ ps : List (Tree × Tree), pairsM (unpairs ps) = ps.map fun p => (p.1.hd.s, p.2)
 | [] => rfl
 | p :: ps => by rw [unpairs_cons, pairsM, pairsM_unpairs ps]; rfl
theorem ordL_unpairs (ps : List (Tree × Tree)) : ordL (unpairs ps) = unpairs (ps.map fun p => (p.1.ord, p.2.ord)) := by
 rw [ordL_map]
 unfold unpairs
 rw [List.map_flatMap, List.flatMap_map]
 rfl
theorem keyTexts_unpairs : ∀ ps : List (Tree × Tree), (∀ p ∈ ps, p.1.hd = textHd p.1.hd.s ∧ p.1.l = []) → KeyTexts (unpairs ps)
 | [], _, i, h => absurd h (by simp [unpairs])
 | p :: ps, hp, 0, h => hp p List.mem_cons_self
 | p :: ps, hp, i + 1, h => by
  have := keyTexts_unpairs ps (fun q hq => hp q (List.mem_cons_of_mem _ hq)) i (by simp only [unpairs_cons, List.length_cons] at h; omega)
  simpa [unpairs_cons, Nat.mul_add] using this
theorem ord_keys {h : Hd} {l : List Tree} (h8 : h.kind = 8) (ho : OwnJ (.node h l)) : KeyTexts (ordL l) ∧ (pairsM (ordL l)).Pairwise fun x y => x.1 ≠ y.1 := by
 obtain ⟨o1, f1⟩ := ownJ_self ho
 have ho8 : l.length % 2 = 0 ∧ isTwice (keysOf l) = false := by
  have e : ownT (.node h l) = (decide (h = bareHd 8) && decide (l.length % 2 = 0) && !isTwice (keysOf l)) := by
   unfold ownT
   simp only [Tree.hd_node, Tree.l_node, h8]
   rfl
  rw [e, Bool.and_eq_true, Bool.and_eq_true, Bool.not_eq_true'] at o1
  exact ⟨of_decide_eq_true o1.1.2, o1.2⟩
 have hf8 : (keysOf l).all (isKeyT 1) = true := by
  have e : fitsT 1 (.node h l) = (true && (keysOf l).all (isKeyT 1)) := by
   unfold fitsT
   simp only [Tree.hd_node, Tree.l_node, h8]
   rfl
  rw [e, Bool.true_and] at f1
  exact f1
 obtain ⟨ps, rfl⟩ := even_pairs l ho8.1
 have hkid : ∀ p ∈ ps, OwnJ p.1 ∧ OwnJ p.2 := fun p hp => ⟨ownJ_kid ho (mem_unpairs.2 ⟨p, hp, .inl rfl⟩), ownJ_kid ho (mem_unpairs.2 ⟨p, hp, .inr rfl⟩)⟩
 have hnd := (twice_iff _).1 ho8.2
 rw [keys_unpairs] at hnd hf8
 have hkt : ∀ p ∈ ps, p.1.hd = textHd p.1.hd.s ∧ p.1.l = [] := fun p hp => by
  have hk := List.all_eq_true.1 hf8 p.1 (List.mem_map.2 ⟨p, hp, rfl⟩)
  refine text_node ?_ (ownJ_self (hkid p hp).1).1
  unfold isKeyT at hk
  by_cases h5 : p.1.hd.kind = 5
  ·exact h5
  ·rw [if_neg h5, if_pos rfl] at hk; cases hk
 have hord : ∀ p ∈ ps, p.1.ord = p.1 := fun p hp => by
  rw [← Tree.eta p.1, (hkt p hp).2]; exact ord_leaf _
 rw [ordL_unpairs]
 refine ⟨keyTexts_unpairs _ ?_, ?_⟩
 ·intro q hq
  obtain ⟨p, hp, rfl⟩ := List.mem_map.1 hq
  rw [hord p hp]; exact hkt p hp
 ·rw [pairsM_unpairs, List.map_map, List.pairwise_map]
  refine (List.Pairwise.and_mem.1 (List.pairwise_map.1 hnd)).imp fun {a b} hab e => hab.2.2 ?_
  simp only [Function.comp_apply] at e
  rw [hord a hab.1, hord b hab.2.1] at e
  rw [← Tree.eta a.1, ← Tree.eta b.1, (hkt a hab.1).1, (hkt b hab.2.1).1, (hkt a hab.1).2, (hkt b hab.2.1).2, e]
theorem ordL_len (l : List Tree) : (ordL l).length = l.length := by rw [ordL_map, List.length_map]
def ordTo (l : List Tree) (k : Nat) : List Tree := ordL (l.take k) ++ l.drop k
theorem ordTo_zero (l : List Tree) : ordTo l 0 = l := by simp [ordTo, ordL]
theorem ordTo_all (l : List Tree) : ordTo l l.length = ordL l := by simp [ordTo]
theorem ordTo_len (l : List Tree) (k : Nat) : (ordTo l k).length = l.length := by
 unfold ordTo
 rw [List.length_append, ordL_len, List.length_take, List.length_drop]; omega
theorem ordTo_get (l : List Tree) (k : Nat) (h : k < l.length) : (ordTo l k)[k]'(by rw [ordTo_len]; exact h) = l[k] := by
 unfold ordTo
 rw [List.getElem_append_right (by rw [ordL_len, List.length_take]; omega)]
 simp only [ordL_len, List.length_take, List.getElem_drop]
 congr 1; omega
theorem ordTo_next (l : List Tree) (k : Nat) (h : k < l.length) : (ordTo l k).set k l[k].ord = ordTo l (k + 1) := by
 unfold ordTo
 have e1 : (ordL (l.take k)).length = k := by rw [ordL_len, List.length_take]; omega
 rw [List.set_append_right _ _ (by omega), e1, Nat.sub_self, List.drop_eq_getElem_cons h, List.set_cons_zero, List.take_succ_eq_append_getElem h, ordL_map, ordL_map, List.map_append]
 simp
end Go.Tm
namespace Go.Tm
open Go.Sort
def atP (s : ByteArray) : List (Tree × Tree) → Nat
 | [] => 0
 | q :: l => if ltB q.1.hd.s s then atP s l + 1 else 0
def insP (p : Tree × Tree) : List (Tree × Tree) → List (Tree × Tree)
 | [] => [p]
 | q :: l => if ltB q.1.hd.s p.1.hd.s then q :: insP p l else p :: q :: l
def sortP (ps : List (Tree × Tree)) : List (Tree × Tree) := ps.foldl (fun o p => insP p o) []
theorem insP_at (p : Tree × Tree) : ∀ l : List (Tree × Tree), insP p l = l.take (atP p.1.hd.s l) ++ p :: l.drop (atP p.1.hd.s l)
 | [] => rfl
 | q :: l => by
  unfold insP atP
  split
  ·rw [insP_at p l]; rfl
  ·rfl
theorem atP_of {s : ByteArray} : ∀ {l : List (Tree × Tree)} {k : Nat}, (∀ j (h : j < l.length), j < k → ltB l[j].1.hd.s s = true) → k ≤ l.length → (∀ h : k < l.length, ltB l[k].1.hd.s s = false) → atP s l = k
 | [], k, _, hk, _ => by
  have : k = 0 := by simpa using hk
  subst this; rfl
 | q :: l, 0, _, _, h0 => by
  unfold atP
  have := h0 (by simp)
  simp only [List.getElem_cons_zero] at this
  rw [if_neg (by rw [this]; decide)]
 | q :: l, k + 1, h, hk, h1 => by
  unfold atP
  have := h 0 (by simp) (by omega)
  simp only [List.getElem_cons_zero] at this
  rw [if_pos this, atP_of (k := k) (fun j hj hjk => ?_) (by simpa using hk) (fun hlt => ?_)]
  ·have := h (j + 1) (by simpa using hj) (by omega)
   simpa using this
  ·have := h1 (by simpa using hlt)
   simpa using this
theorem insP_perm (p : Tree × Tree) : ∀ l : List (Tree × Tree), (insP p l).Perm (p :: l)
 | [] => List.Perm.refl _
 | q :: l => by
  unfold insP
  split
  ·exact ((insP_perm p l).cons q).trans (List.Perm.swap p q l)
  ·exact List.Perm.refl _
abbrev keyP (p : Tree × Tree) : ByteArray × Tree := (p.1.hd.s, p.2)
theorem insP_sorted (p : Tree × Tree) : ∀ l : List (Tree × Tree), l.Pairwise (fun x y => leB (keyP x) (keyP y) = true) → (insP p l).Pairwise (fun x y => leB (keyP x) (keyP y) = true)
 | [], _ => List.pairwise_singleton _ _
 | q :: l, h => by
  rw [List.pairwise_cons] at h
  unfold insP
  by_cases hq : ltB q.1.hd.s p.1.hd.s = true
  ·rw [if_pos hq, List.pairwise_cons]
   refine ⟨fun y hy => ?_, insP_sorted p l h.2⟩
   rcases List.mem_cons.1 ((insP_perm p l).mem_iff.1 hy) with rfl | hy'
   ·show (!ltB _ _) = true
    rw [swo_ltB.asymmA hq]; rfl
   ·exact h.1 y hy'
  ·rw [if_neg hq, List.pairwise_cons]
   have hq' : ltB q.1.hd.s p.1.hd.s = false := by simpa using hq
   refine ⟨fun y hy => ?_, List.pairwise_cons.2 h⟩
   rcases List.mem_cons.1 hy with rfl | hy'
   ·show (!ltB _ _) = true
    rw [hq']; rfl
   ·have h2 := h.1 y hy'
    have h3 : ltB y.1.hd.s q.1.hd.s = false := by simpa [leB, ltB] using h2
    show (!ltB _ _) = true
    rw [swo_ltB.ntrans _ _ _ h3 hq']; rfl
theorem foldP : ∀ (ps o : List (Tree × Tree)), o.Pairwise (fun x y => leB (keyP x) (keyP y) = true) → (ps.foldl (fun o p => insP p o) o).Pairwise (fun x y => leB (keyP x) (keyP y) = true) ∧ (ps.foldl (fun o p => insP p o) o).Perm (o ++ ps)
 | [], o, h => ⟨h, by simp⟩
 | p :: ps, o, h => by
  obtain ⟨h1, h2⟩ := foldP ps (insP p o) (insP_sorted p o h)
  refine ⟨h1, h2.trans ?_⟩
  exact ((insP_perm p o).append_right ps).trans (List.perm_middle.symm)
theorem sortP_perm (ps : List (Tree × Tree)) : (sortP ps).Perm ps := by
 have := (foldP ps [] List.Pairwise.nil).2
 rw [List.nil_append] at this
 exact this
theorem sortP_succ (ps : List (Tree × Tree)) (k : Nat) (h : k < ps.length) : sortP (ps.take (k + 1)) = insP ps[k] (sortP (ps.take k)) := by
 unfold sortP
 rw [List.take_succ_eq_append_getElem h, List.foldl_append]
 rfl
theorem sortP_eq {ps : List (Tree × Tree)} (hk : ∀ p ∈ ps, p.1 = .node (textHd p.1.hd.s) []) (hd : (ps.map keyP).Pairwise fun x y => x.1 ≠ y.1) : unpairs (sortP ps) = sortM (ps.map keyP) := by
 have hs := (foldP ps [] List.Pairwise.nil).1
 have hpm := sortP_perm ps
 have he : (sortP ps).map keyP = (ps.map keyP).mergeSort leB := by
  refine List.Perm.eq_of_pairwise (le := fun x y => leB x y = true) ?_ ?_ (List.pairwise_mergeSort leB_trans leB_total _) ((hpm.map keyP).trans (List.mergeSort_perm _ _).symm)
  ·intro a b ha hb h1 h2
   have ha' := (hpm.map keyP).mem_iff.1 ha
   have hb' := (List.mergeSort_perm _ _).mem_iff.1 hb
   refine key_unique hd ha' hb' (ltB_anti ?_ ?_)
   ·simpa [leB, ltB] using h2
   ·simpa [leB, ltB] using h1
  ·rw [List.pairwise_map]; exact hs
 unfold sortM
 rw [← he]
 unfold unpairs
 rw [List.flatMap_map]
 have hall : ∀ p ∈ sortP ps, p.1 = .node (textHd p.1.hd.s) [] := fun p hp => hk p (hpm.mem_iff.1 hp)
 generalize sortP ps = qs at hall
 induction qs with
 | nil => rfl
 | cons q qs ih =>
  rw [List.flatMap_cons, List.flatMap_cons, ih fun p hp => hall p (List.mem_cons_of_mem _ hp)]
  congr 1
  rw [hall q List.mem_cons_self]
end Go.Tm
namespace Go.Tm
open Go.RowKit Go.Proofs
theorem drop_bytes (s : ByteArray) (k : Nat) (h : k < s.size) : s.data.toList.drop k = s[k] :: s.data.toList.drop (k + 1) := by
 have h' : k < s.data.toList.length := by simpa using h
 rw [List.drop_eq_getElem_cons h']
 rfl
theorem less_step (s t : ByteArray) (k : Nat) (h1 : k < s.size) (h2 : k < t.size) : (s.data.toList.drop k < t.data.toList.drop k) ↔ (s[k].toNat < t[k].toNat ∨ (s[k].toNat = t[k].toNat ∧ s.data.toList.drop (k + 1) < t.data.toList.drop (k + 1))) := by
 rw [drop_bytes s k h1, drop_bytes t k h2, List.cons_lt_cons_iff, UInt8.lt_iff_toNat_lt, ← UInt8.toNat_inj]
theorem ltB_data (s t : ByteArray) : ltB s t = decide (s.data.toList < t.data.toList) := by
 rw [ltB_eq, ByteArray.toList_eq, ByteArray.toList_eq]
set_option maxRecDepth 100000 in
set_option maxHeartbeats 2000000 in
theorem refAhead_any (s t : ByteArray) (w : World) (hs : s.size ≤ 1099511627776) (ht : t.size ≤ 1099511627776) : Calls Tryz.prog 76 #[.string s, .string t] w fun e w' => e = .returned (.bool (ltB s t)) ∧ Same w w' := by
 rw [ltB_data]
 obtain ⟨R, hR⟩ : ∃ R, decide (s.data.toList < t.data.toList) = R := ⟨_, rfl⟩
 rw [hR]
 have hs0 : decide (s.data.toList.drop 0 < t.data.toList.drop 0) = R := by rw [List.drop_zero, List.drop_zero]; exact hR
 have H0 := Lib.hid hs0
 clear hR hs0
 go_enter Tryz.func76, Tryz.ntmps76
 go_wp2
 go_loopw [5] (fun i wr => ∃ k : Nat, k ≤ s.size ∧ k ≤ t.size ∧ i = .int .i64 k ∧ decide (s.data.toList.drop k < t.data.toList.drop k) = R ∧ Same w wr) (fun i _ => s.size - (RowKit.intOf i).toNat)
 case atStart => exact ⟨0, Nat.zero_le _, Nat.zero_le _, rfl, H0.out, smK⟩
 case round =>
  clear H0
  obtain ⟨k, hk1, hk2, rfl, hd, hsm⟩ := hrel
  by_cases hlt : k < s.size
  ·by_cases hlt2 : k < t.size
   ·have hst := less_step s t k hlt hlt2
    obtain ⟨x, hx⟩ : ∃ x, (s[k]'hlt).toNat = x := ⟨_, rfl⟩
    obtain ⟨y, hy⟩ : ∃ y, (t[k]'hlt2).toNat = y := ⟨_, rfl⟩
    rw [hx, hy] at hst
    by_cases e : x = y
    ·have hq : decide (s.data.toList.drop (k + 1) < t.data.toList.drop (k + 1)) = R := by
      rw [← hd]
      refine decide_eq_decide.2 ?_
      rw [hst]
      constructor
      ·exact fun h => .inr ⟨e, h⟩
      ·rintro (h | h)
       ·omega
       ·exact h.2
     have HQ := Lib.hid hq
     have k1 : ((x : Int) != (y : Int)) = false := by simp [e]
     clear hq hd hst e
     go_wp2
     go_quiet (fail)
     go_wp2
     go_roundw
     case rel => exact ⟨k + 1, by omega, by omega, by go_num, HQ.out, smK⟩
     case measure => simp [RowKit.intOf]; omega
    ·have hq : decide ((x : Int) < y) = R := by
      rw [← hd]
      refine decide_eq_decide.2 ?_
      rw [hst]
      constructor
      ·exact fun h => .inl (by omega)
      ·rintro (h | h)
       ·omega
       ·exact absurd h.1 e
     have k1 : ((x : Int) != (y : Int)) = true := bne_iff_ne.2 (by omega)
     have HQ := Lib.hid hq
     clear hq hd hst e
     go_wp2
     go_quiet (fail)
     go_wp2
     go_quiet (fail)
     go_wp2
     go_ret
     exact ⟨by rw [← HQ.out]; simp, smK⟩
   ·have e : k = t.size := by omega
    have hq : R = false := by
     rw [← hd, decide_eq_false_iff_not, List.drop_of_length_le (l := t.data.toList) (by simp; omega)]
     exact List.not_lt_nil _
    have k1 : decide ((s.size : Int) < t.size) = false := decide_eq_false (by omega)
    have HQ := Lib.hid hq
    clear hq hd e
    go_wp2
    go_ret
    exact ⟨by rw [HQ.out]; simp; omega, smK⟩
  ·have e : k = s.size := by omega
   have hq : R = decide ((s.size : Int) < t.size) := by
    rw [← hd]
    refine decide_eq_decide.2 ?_
    rw [List.drop_of_length_le (l := s.data.toList) (by simp; omega)]
    by_cases h : s.size < t.size
    ·refine ⟨fun _ => by omega, fun _ => ?_⟩
     rw [drop_bytes t k (by omega)]
     exact List.nil_lt_cons _ _
    ·refine ⟨fun h2 => ?_, fun h2 => by omega⟩
     rw [List.drop_of_length_le (l := t.data.toList) (by simp; omega)] at h2
     exact absurd h2 (List.not_lt_nil _)
   have HQ := Lib.hid hq
   clear hq hd e
   go_wp2
   go_ret
   exact ⟨by rw [HQ.out]; simp, smK⟩
end Go.Tm
namespace Go.Tm
open Go.RowKit Go.Proofs
theorem oper_append1 {F : Fence} {n : Nat} {w w' : World} {o : Oper} {a : Act} {K : Act → World → Prop} {Q : Exit → Act → World → Prop} {t : TypeId} {v v' vx : Value} (s x : Operand)
  (ho : o.op = .call { callee := .builtin .append, args := #[s, x], argTypes := #[t, t] }) (hs : a.eval s = v) (hx : a.eval x = vx)
  (hrun : (Builtin.append_ #[t, t] o.type #[v, vx]).run Tryz.prog w = .ok v' w') (hK : K (a.put o.dst v') w') : o.wpIn F n Tryz.prog a w K Q := by
 unfold Oper.wpIn
 refine ⟨?_, ?_⟩
 ·simp [Oper.about, ho, resolve, Target.leads, Sem.run_pure]
 ·rw [Oper.semAt_plain F _ _ (by rw [ho]; intro c hc'; cases hc')]
  simp [execOp, ho, resolve, invoke, builtin, hs, hx, hrun, Result.andThen]
  exact hK
theorem OwnL.none {S : Nat → Prop} {w : World} {B n c : Nat} {l : List Tree} (h : OwnL S w B (.slice none n c) l) : l = [] ∧ n = 0 ∧ c = 0 := by
 obtain ⟨xs, h, hr⟩ := h
 rcases h.2 with ⟨e, h0⟩ | ⟨g, cap, cur, e, _⟩
 ·cases e
  exact ⟨List.length_eq_zero_iff.1 h0, rfl, rfl⟩
 ·cases e
theorem repL_cells {S : Nat → Prop} {w : World} : ∀ {l : List Tree} {xs : List Value}, RepL S w l xs → ∀ u ∈ xs, u.oneCell' = true
 | [], xs, h, u, hu => by rw [RepL] at h; subst h; cases hu
 | .node h k :: l, xs, hh, u, hu => by
  rw [RepL] at hh
  obtain ⟨cs, rest, rfl, h1, h2⟩ := hh
  rcases List.mem_append.1 hu with hu | hu
  ·obtain ⟨_, lv, rfl, h3⟩ := rep_node.1 h1
   obtain ⟨a, c, rfl⟩ := h3.is_slice
   exact node_one _ _ _ _ u hu
  ·exact repL_cells h2 u hu
end Go.Tm
