/-
  The iterator of (*turner).pieces gives the bits of another iterator in pieces of another size. Conditions: the theorem's own.
-/
import Derived.Test.YtkolfdcojhglpaaB64Turn
import Derived.Test.YtkolfdcojhglpaaBits
set_option linter.unusedVariables false
namespace Go.Tm
open Go.RowKit Go.Proofs

set_option maxRecDepth 100000 in
set_option maxHeartbeats 2000000 in
theorem pieces1_iter (to fr : Nat) (hto : 1 ≤ to) (hto8 : to ≤ 8) (hfr8 : fr ≤ 8) (t bt bl bf g : Nat) (lb : Array Value) (xs : List Nat) (hx : ∀ i, nth xs i < 2 ^ fr)
    (Sb Si Sii : Nat → Obj → Prop) (FinI : World → Prop) (W : World)
    (hT : Turner W t 0 0 to) (hbt : Boxed W bt 40 (.pointer (some ⟨t, 0, none⟩))) (hbl : W.cell? ⟨bl, 0, none⟩ = some (.func (.func g) #[] lb)) (hbf : Boxed W bf 3 (.int .i64 fr))
    (hne : bt ≠ t ∧ bf ≠ t)
    (hSb : (∀ c f, Sb t (.cells c 45 f)) ∧ (∀ c f, Sb bt (.cells c 40 f)) ∧ ∀ c f, Sb bf (.cells c 3 f)) (hSb2 : ∀ b o, W.heap.size ≤ b → (o.isCells = false ∨ ∃ c f, o = .cells c 53 f) → Sb b o)
    (hSi : ∀ b o, Si b o → (∀ c f, o = .cells c 45 f → b ≠ t) ∧ (b < W.heap.size ∨ o.isCells = true) ∧ Sii b o)
    (hSii : ∀ b o, (b = t ∨ b = bt ∨ b = bf ∨ W.heap.size ≤ b) → (b < W.heap.size + 3 ∨ o.isCells = true) → Sii b o)
    (eg : ∀ args w, (callFunc g args).run Try.prog w = .ok (.enter g args) w)
    (hit : ∀ l W1, (∃ r, W.heap[l]? = some (.loop r)) → Same W W1 → W1.heap.size = W.heap.size + 3 → IterAt Try.prog g lb xs.length (fun i v _ => v = #[.int .u64 (nth xs i)]) (fun b o => b ≠ l ∧ b ≠ t ∧ Sb b o) Sii FinI (fun _ _ => True) W1)
    (hFinI : ∀ A B, FinI A → Keep (fun b o => b < W.heap.size ∨ o.isCells = true) A B → FinI B) :
    IterAt Try.prog 32 #[.pointer (some ⟨bl, 0, none⟩), .pointer (some ⟨bt, 0, none⟩), .pointer (some ⟨bf, 0, none⟩)] (outs to fr (0, 0) xs).length (fun i v _ => v = #[.int .u64 (nth (outs to fr (0, 0) xs) i)]) Sb Si
      (fun B => Turner B t (finAt to fr xs xs.length).1 (finAt to fr xs xs.length).2 to ∧ FinI B) (fun _ _ => True) W := by
  rintro l J Jx ⟨r, hl⟩ hJ hJx hY h0
  have neT : ∀ {A : World} {n c : Nat}, Turner A t n c to → ∀ b o, A.heap[b]? = some o → Si b o → b ≠ t := fun hT b o hb hs e => by
    subst e; rw [show _ = some _ from hT] at hb; cases hb; exact (hSi _ _ hs).1 _ _ rfl rfl
  have n1 := cell_ne_loop hT.c0 hl
  have n2 := cell_ne_loop hbt.cell hl
  have n3 := cell_ne_loop hbf.cell hl
  have hlt := lt_of_some hl
  refine callsIn_of_wp_marks Try.func32 rfl trivial ?_ rfl
  simp only [Try.ntmps32, List.size_toArray, List.length_cons, List.length_nil, Nat.reduceAdd, Nat.reduceSub, Array.replicate_succ, Array.replicate_zero, List.push_toArray, List.append_toArray, List.nil_append, List.cons_append]
  have hb0 : (W.alloc (.cells #[.func (.yield l) #[] #[]] 53)).heap.size = W.heap.size + 1 := by simp
  have hk0 : Same W (W.alloc (.cells #[.func (.yield l) #[] #[]] 53)) := (Keep.refl _ W).alloc _
  have hby := Boxed.new W 53 (.func (.yield l) #[] #[])
  have hbl1 := hk0.cell hbl fun _ _ => trivial
  have hbt1 := hbt.cell
  have hbf1 := hbf.cell
  gi_wp2
  refine wp_rangeS (gf := g) (lb := lb) rfl eg xs.length (fun i v _ => v = #[.int .u64 (nth xs i)]) (fun b o => b ≠ l ∧ b ≠ t ∧ Sb b o) Sii FinI (fun _ _ => True)
    (fun W1 h1 h2 => hit l W1 ⟨r, hl⟩ (hk0.trans h1) (by rw [hb0] at h2; omega)) ?hSb ?hSi
    (fun i A => Turner A t (finAt to fr xs i).1 (finAt to fr xs i).2 to ∧ Boxed A bt 40 (.pointer (some ⟨t, 0, none⟩)) ∧ Boxed A bf 3 (.int .i64 fr) ∧
      Boxed A W.heap.size 53 (.func (.yield l) #[] #[]) ∧ J (outsAt to fr xs i) A)
    (fun i c A => c = .ret ∧ ∃ k, k < (outs to fr (0, 0) xs).length ∧ Jx k A) ?hI ?hIx (fun _ _ _ _ h _ => h) (fun A B h hk => hFinI A B h (hk.mono fun b o _ h => h.imp (fun h => by rw [hb0]; omega) id)) (fun _ _ _ _ _ => trivial) (fun i v A h => by rw [h]; rfl) ?h0 ?hround ?hdone ?hstop
  case hSb =>
    intro b o hb ho
    rw [hb0] at hb
    have := lt_of_some hT
    exact ⟨by omega, by omega, hSb2 b o (by omega) (.inl ho)⟩
  case hSi =>
    intro b o hb hb2 _
    rw [hb0] at hb hb2
    exact hSii b o (by omega) (.inl (by omega))
  case hI =>
    rintro i A B ⟨h1, h2, h3, h4, h5⟩ hk
    have z1 := lt_of_some hT
    have z2 := lt_of_some hbt
    have z3 := lt_of_some hbf
    refine ⟨h1.keep hk fun o => ⟨.inl (by rw [hb0]; omega), hSii _ _ (by simp) (.inl (by omega))⟩, hk.boxed h2 ⟨.inl (by rw [hb0]; omega), hSii _ _ (by simp) (.inr rfl)⟩, hk.boxed h3 ⟨.inl (by rw [hb0]; omega), hSii _ _ (by simp) (.inr rfl)⟩,
      hk.boxed h4 ⟨.inl (by rw [hb0]; omega), hSii _ _ (by simp) (.inr rfl)⟩, hJ _ _ _ h5 (hk.mono fun b o _ h => ⟨?_, (hSi b o h).2.2⟩)⟩
    exact (hSi b o h).2.1.imp (fun h => by rw [hb0]; omega) id
  case hIx =>
    rintro i c A B ⟨rfl, k, hk1, h5⟩ hk
    refine ⟨rfl, k, hk1, hJx _ _ _ h5 (hk.mono fun b o _ h => ⟨?_, (hSi b o h).2.2⟩)⟩
    exact (hSi b o h).2.1.imp (fun h => by rw [hb0]; omega) id
  case h0 =>
    exact ⟨hT.keep hk0 fun _ => trivial, hk0.boxed hbt trivial, hk0.boxed hbf trivial, hby, hJ 0 _ _ h0 (Keep.of_same hk0)⟩
  case hround =>
    intro i v hv
    obtain ⟨x, rfl⟩ := size_one rfl hv
    apply Exists.intro
    apply And.intro
    · intro l2 A K hK
      gi_wp2
      exact hK
    · rintro l2 A hl2 ⟨r2, hr2⟩ hi ⟨h1, hb2, hb3, h4, h5⟩ hxv
      have h2 := hb2.cell
      have h3 := hb3.cell
      obtain rfl : x = .int .u64 (nth xs i) := by simpa using hxv
      gi_wp2
      refine wpIn_region_text (fun A' => A'.cell? ⟨bt, 0, none⟩ = some (.pointer (some ⟨t, 0, none⟩)) ∧ A'.cell? ⟨bf, 0, none⟩ = some (.int .i64 fr)) reads (fun _ => trivial) rfl
        (by kernel_rfl) (by kernel_rfl) ⟨h2, h3⟩ ?_
      repeat (refine wpT_x rfl rfl ?_; intro K hK w' ⟨e1, e2⟩; go_simp; refine hK _ _ ?_; clear hK K e1 e2 w')
      refine wpT_c rfl rfl ?_
      intro K hK
      go_simp
      have hok := finAt_ok to fr xs hto i (by omega)
      have p8 := pow_le (finAt to fr xs i).2 8 (by omega)
      refine (callsR l2 (add_any A.drew t _ _ to (nth xs i) fr h1 (by omega) (by omega) hfr8 (hx i))).mono ?_
      rintro e w3 ⟨rfl, hk3, hT3⟩
      have hb23 := hk3.boxed hb2 hne.1
      have hb33 := hk3.boxed hb3 hne.2
      have h23 := hb23.cell
      have h33 := hb33.cell
      refine hK _ _ ⟨h23, h33⟩ ?_
      clear hK K
      have hkA : Keep (fun b o => b ≠ l ∧ b ≠ t ∧ Sb b o) A w3 := (Keep.refl _ A).drew.trans (hk3.mono fun b o _ h => h.2.1)
      have h43 : Boxed w3 W.heap.size 53 (.func (.yield l) #[] #[]) := hk3.boxed h4 (by have := lt_of_some hT; omega)
      have h53 : J (outsAt to fr xs i) w3 := hJ _ _ _ h5 ((Keep.refl _ A).drew.trans (hk3.mono fun b o hb h => neT h1 b o hb h))
      have hn' : (finAt to fr xs i).1 * 2 ^ fr + nth xs i < 2 ^ ((finAt to fr xs i).2 + fr) := by
        have h6 := hx i
        have h7 : (finAt to fr xs i).1 * 2 ^ fr + 2 ^ fr ≤ 2 ^ (finAt to fr xs i).2 * 2 ^ fr := by rw [← Nat.succ_mul]; exact Nat.mul_le_mul_right _ (by omega)
        rw [Nat.pow_add]; omega
      have hle := outsAt_le to fr xs i hi
      have hnx : ∀ j, j < ((finAt to fr xs i).2 + fr) / to → nth (outs to fr (0, 0) xs) (outsAt to fr xs i + j) = _ := fun j => nth_outs to fr xs i j hi
      have hsu := outsAt_succ to fr xs i hi
      have hfu := finAt_succ to fr xs i hi
      have hc' : (finAt to fr xs i).2 + fr < 16 := by omega
      simp only [feed] at hfu
      obtain ⟨m, hm⟩ : ∃ m, ((finAt to fr xs i).2 + fr) / to = m := ⟨_, rfl⟩
      rw [hm] at hle hnx hsu
      generalize (finAt to fr xs i).1 * 2 ^ fr + nth xs i = n' at *
      generalize (finAt to fr xs i).2 + fr = c' at *
      generalize outsAt to fr xs i = K0 at *
      have Hnx := Lib.hid hnx
      have Hsu := Lib.hid hsu
      have Hfu := Lib.hid hfu
      have Hm := Lib.hid hm
      clear hnx hsu hfu hm hk3 hxv
      have hT0 : Turner w3 t (n' % 2 ^ (c' - 0 * to)) (c' - 0 * to) to := by rw [Nat.zero_mul, Nat.sub_zero, Nat.mod_eq_of_lt hn']; exact hT3
      clear hT3
      refine wpT_nil ?_
      gi_wp2
      gi_loopw [14] (fun _ wr => ∃ j : Nat, j ≤ m ∧ Turner wr t (n' % 2 ^ (c' - j * to)) (c' - j * to) to ∧ Boxed wr bt 40 (.pointer (some ⟨t, 0, none⟩)) ∧ Boxed wr bf 3 (.int .i64 fr) ∧ Boxed wr W.heap.size 53 (.func (.yield l) #[] #[]) ∧ J (K0 + j) wr ∧ Keep (fun b o => b ≠ l ∧ b ≠ t ∧ Sb b o) A wr)
        (fun _ wr => (intOf ((wr.cell? ⟨t, 1, none⟩).getD undef)).toNat)
      case atStart => exact ⟨0, Nat.zero_le _, hT0, hb23, hb33, h43, h53, hkA⟩
      case round =>
        obtain ⟨j, hj, g1, gb2, gb3, g4, g5, g6⟩ := hrel
        have g2 := gb2.cell
        have g3 := gb3.cell
        have k1 := g1.c1
        have k2 := g1.c2
        by_cases hjm : j < m
        · have hq : (j + 1) * to ≤ c' := by rw [← Hm.out] at hjm; exact (Nat.le_div_iff_mul_le (by omega)).1 hjm
          rw [Nat.succ_mul] at hq
          have hx0 := Hnx.out j hjm
          rw [Nat.succ_mul] at hx0
          obtain ⟨d, hd⟩ : ∃ d, c' - (j * to + to) = d := ⟨_, rfl⟩
          have hd2 : c' - j * to = d + to := by omega
          have hdt : d + to < 16 := by omega
          have hd3 : c' - (j + 1) * to = d := by rw [Nat.succ_mul]; exact hd
          have Hd3 := Lib.hid hd3
          clear hd3
          rw [hd2] at g1 k1 hx0
          rw [hd] at hx0
          have Hx0 := Lib.hid hx0
          clear hx0 hd hd2
          obtain ⟨q, hq'⟩ : ∃ q, n' % 2 ^ (d + to) = q := ⟨_, rfl⟩
          have hqlt : q < 2 ^ (d + to) := by rw [← hq']; exact Nat.mod_lt _ (Nat.two_pow_pos _)
          rw [hq'] at g1
          have Hq := Lib.hid hq'
          clear hq'
          gi_wp2
          refine wpIn_region_text (fun A' => A'.cell? ⟨bt, 0, none⟩ = some (.pointer (some ⟨t, 0, none⟩)) ∧ A'.cell? ⟨t, 1, none⟩ = some (.int .i64 ((d + to : Nat) : Int)) ∧ A'.cell? ⟨t, 2, none⟩ = some (.int .i64 to)) reads (fun _ => trivial) rfl
            (by kernel_rfl) (by kernel_rfl) ⟨g2, k1, k2⟩ ?_
          repeat (refine wpT_x rfl rfl ?_; intro K hK w' ⟨e1, e2, e3⟩; go_simp; refine hK _ _ ?_; clear hK K e1 e2 e3 w')
          refine wpT_nil ?_
          gi_wp2
          have g7 := g4.cell
          refine wpIn_region_text (fun A' => A'.cell? ⟨W.heap.size, 0, none⟩ = some (.func (.yield l) #[] #[]) ∧ A'.cell? ⟨bt, 0, none⟩ = some (.pointer (some ⟨t, 0, none⟩)) ∧ A'.cell? ⟨t, 2, none⟩ = some (.int .i64 to)) reads (fun _ => trivial) rfl
            (by kernel_rfl) (by kernel_rfl) ⟨g7, g2, k2⟩ ?_
          repeat (refine wpT_x rfl rfl ?_; intro K hK w' ⟨e1, e2, e3⟩; go_simp; refine hK _ _ ?_; clear hK K e1 e2 e3 w')
          refine wpT_c rfl rfl ?_
          intro K hK
          go_simp
          refine (callsR l2 (take_any wr.drew.drew t q d to g1 hqlt hdt)).mono ?_
          rintro e w4 ⟨rfl, hk4, hT4⟩
          have zT := lt_of_some hT
          have g74 := hk4.cell g7 fun o _ => (by show W.heap.size ≠ t; omega)
          have gb24 : Boxed w4 bt 40 (.pointer (some ⟨t, 0, none⟩)) := hk4.boxed gb2 hne.1
          have gb34 : Boxed w4 bf 3 (.int .i64 fr) := hk4.boxed gb3 hne.2
          have g24 := gb24.cell
          have g44 : Boxed w4 W.heap.size 53 (.func (.yield l) #[] #[]) := hk4.boxed g4 (by omega)
          have g54 : J (K0 + j) w4 := hJ _ _ _ g5 ((((Keep.refl _ wr).drew).drew).trans (hk4.mono fun b o hb h => neT g1 b o hb h))
          have g64 : Keep (fun b o => b ≠ l ∧ b ≠ t ∧ Sb b o) A w4 := (g6.drew.drew).trans (hk4.mono fun b o _ h => h.2.1)
          refine hK _ _ ⟨g74, g24, hT4.c2⟩ ?_
          clear hK K hk4
          refine wpT_c rfl rfl ?_
          intro K hK
          obtain ⟨fn, tmps, assign, body, hy, hR⟩ := hY (K0 + j) _ w4 (by omega) g54 rfl
          rw [Hx0.out, Hq.out] at hy
          push_cast at hy
          go_simp
          refine (RoundIn.inRound l2 hR).mono ?_
          rintro e w5 ⟨hk5, hj5⟩
          have hT5 : Turner w5 t (q % 2 ^ d) d to := hk5.same _ _ hT4 ⟨n1, hSb.1 _ _⟩
          have g75 : Boxed w5 W.heap.size 53 (.func (.yield l) #[] #[]) := hk5.boxed g44 ⟨by omega, hSb2 _ _ (Nat.le_refl _) (.inr ⟨_, _, rfl⟩)⟩
          have gb25 := hk5.boxed gb24 ⟨n2, hSb.2.1 _ _⟩
          have gb35 := hk5.boxed gb34 ⟨n3, hSb.2.2 _ _⟩
          have g25 := gb25.cell
          have g65 : Keep (fun b o => b ≠ l ∧ b ≠ t ∧ Sb b o) A w5 := g64.trans (hk5.mono fun b o _ h => ⟨h.1, h.2.2⟩)
          have c75 := g75.cell
          have c25 := hT5.c2
          have c15 := hT5.c1
          clear hR hy
          rcases hj5 with ⟨rfl, hj5⟩ | ⟨rfl, hj5⟩
          · refine hK _ _ ⟨c75, g25, c25⟩ ?_
            clear hK K
            repeat (refine wpT_x rfl rfl ?_; intro K hK w' ⟨e1, e2, e3⟩; go_simp; refine hK _ _ ?_; clear hK K e1 e2 e3 w')
            refine wpT_nil ?_
            gi_wp2
            go_roundw
            case rel =>
              refine ⟨j + 1, by omega, ?_, gb25, gb35, g75, hj5, g65⟩
              rw [Hd3.out]
              have e : q % 2 ^ d = n' % 2 ^ d := by rw [← Hq.out, Nat.mod_mod_of_dvd _ (Nat.pow_dvd_pow 2 (Nat.le_add_right d to))]
              rw [← e]; exact hT5
            case measure => simp [intOf, k1, c15]; omega
          · refine hK _ _ ⟨c75, g25, c25⟩ ?_
            clear hK K
            repeat (refine wpT_x rfl rfl ?_; intro K hK w' ⟨e1, e2, e3⟩; go_simp; refine hK _ _ ?_; clear hK K e1 e2 e3 w')
            refine wpT_nil ?_
            gi_wp2
            exact ⟨g65, rfl, K0 + j, by omega, hj5⟩
        · obtain rfl : j = m := by omega
          have hlt2 : c' - j * to < to := by
            have := Nat.mod_lt c' (show 0 < to by omega)
            have := Nat.div_add_mod c' to
            rw [Hm.out, Nat.mul_comm] at this
            omega
          have he : c' - j * to = c' % to := by
            have := Nat.div_add_mod c' to
            rw [Hm.out, Nat.mul_comm] at this
            omega
          rw [he] at g1 k1 hlt2
          have He := Lib.hid he
          clear he
          gi_wp2
          refine wpIn_region_text (fun A' => A'.cell? ⟨bt, 0, none⟩ = some (.pointer (some ⟨t, 0, none⟩)) ∧ A'.cell? ⟨t, 1, none⟩ = some (.int .i64 ((c' % to : Nat) : Int)) ∧ A'.cell? ⟨t, 2, none⟩ = some (.int .i64 to)) reads (fun _ => trivial) rfl
            (by kernel_rfl) (by kernel_rfl) ⟨g2, k1, k2⟩ ?_
          repeat (refine wpT_x rfl rfl ?_; intro K hK w' ⟨e1, e2, e3⟩; go_simp; refine hK _ _ ?_; clear hK K e1 e2 e3 w')
          refine wpT_nil ?_
          gi_wp2
          exact ⟨g6.drew, by rw [Hfu.out]; exact g1, gb2, gb3, g4, by rw [Hsu.out]; exact hJ _ _ _ g5 (Keep.refl _ wr).drew⟩
  case hdone =>
    rintro D B hD ⟨h1, h2, h3, h4, h5⟩ hF _ hDB
    rw [hb0] at hD
    have hk : Keep Si B (B.putObj D (.deferred none)) := (Keep.refl _ B).putObj _ fun o ho hs _ => by
      rw [hDB] at ho; cases ho
      rcases (hSi _ _ hs).2.1 with h | h
      · omega
      · cases h
    have hk2 : Keep (fun b o => b < W.heap.size ∨ o.isCells = true) B (B.putObj D (.deferred none)) := (Keep.refl _ B).putObj _ fun o ho hs _ => by
      rw [hDB] at ho; cases ho
      rcases hs with h | h
      · omega
      · cases h
    have zT := lt_of_some hT
    gi_wp2
    refine ⟨by simp, .inl ⟨_, _, rfl, run_takeDeferred hDB, ?_⟩⟩
    refine ⟨_, results_none rfl _ _ _, ⟨_, rfl⟩, .inl ⟨hJ _ _ _ (by rw [← outsAt_all]; exact h5) hk, h1.keep hk2 fun o => .inl zT, hFinI _ _ hF hk2⟩⟩
  case hstop =>
    rintro D i c B hD hi ⟨rfl, k, hk1, h5⟩ _ _ hDB
    rw [hb0] at hD
    have hk : Keep Si B (B.putObj D (.deferred none)) := (Keep.refl _ B).putObj _ fun o ho hs _ => by
      rw [hDB] at ho; cases ho
      rcases (hSi _ _ hs).2.1 with h | h
      · omega
      · cases h
    gi_wp2
    refine ⟨by simp, .inl ⟨_, _, rfl, run_takeDeferred hDB, ?_⟩⟩
    exact ⟨_, results_none rfl _ _ _, ⟨_, rfl⟩, .inr ⟨k, hk1, hJx _ _ _ h5 hk, trivial⟩⟩

#print axioms pieces1_iter
end Go.Tm
