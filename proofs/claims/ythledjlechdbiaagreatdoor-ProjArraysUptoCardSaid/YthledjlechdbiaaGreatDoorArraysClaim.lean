/-
  What is proved: for every input the law ProjArrays (targum/targumlaw16.ProjArrays) returns true and leaves its arguments as they were. Conditions: none beyond the statement's own (what it reads is of bulk at most 1048576; the listed package variables hold what start-up laid: the card ties them).
  The frame is turned from a worked proof of the kit (Pindig); wip/gen_end.py prints it.
-/
import Derived.Test.YthledjlechdbiaaGreatDoorArraysClaimF
import Derived.Test.YthledjlechdbiaaGreatDoorRows
import Derived.Test.YthledjlechdbiaaGreatDoorCards
import Derived.Test.YthledjlechdbiaaGreatDoorTie
import Derived.WalkKit
import Derived.ProofKit
import Derived.OpenShut
import Derived.Lay
import Derived.SevenTiedAt
import Derived.Deep.DeepHandedRow

set_option linter.unusedVariables false
namespace Go.Proofs.YthledjlechdbiaaGreatDoor.projArraysUpto
open Go.ChangeShapes Go.WideShapes Go.ChangeAt Go.RowKit
theorem own : ownKnob Tryz.prog.godebug = none := by kernel_rfl
theorem reads (os : Os) {H : Type} (enc : TypeId × Value → H) : ∃ places, DataW.whole enc Tryz.prog ((World.laidAll Tryz.prog os Rows.projArraysUptoRow.laid).forCall (fun _ _ => 0) ⟨#[], #[.slice none 0 0, .int .i64 0], []⟩).memory Tryz.f5.params.toList Rows.projArraysSpec.vars false #[Value.slice none 0 0, Value.int .i64 0].toList 8 = some ([.nil, .lit (.int .i64 0)], [], places) :=
  ⟨[], by kernel_rfl⟩
theorem okw (os : Os) : Input.okWideB Tryz.prog ((World.laidAll Tryz.prog os Rows.projArraysUptoRow.laid).forCall (fun _ _ => 0) ⟨#[], #[.slice none 0 0, .int .i64 0], []⟩) 5 ⟨#[], #[.slice none 0 0, .int .i64 0], []⟩ = true := by kernel_rfl
set_option maxRecDepth 100000 in
theorem lifted (os : Os) (started : os.Started) (H : Type) (enc : TypeId × Value → H) (F : Stop.Interp) :
    ReturnsInHanded {} Tryz.checked os 5 .any ((Rows.OpenSpec.upto Rows.projArraysSpec).preRow enc Tryz.prog Tryz.f5 [] false Rows.projArraysUptoRow.laid)
      (((Rows.OpenSpec.upto Rows.projArraysSpec).at F).post enc Tryz.prog Tryz.f5 false true false false) := by
  obtain ⟨places, hx⟩ := reads os enc
  refine returnsInHanded_of_row (C := Tryz.checked) (s := Rows.OpenSpec.upto Rows.projArraysSpec) own started (by kernel_rfl) Tryz.func5
    ⟨World.laidAll Tryz.prog os Rows.projArraysUptoRow.laid, fun _ _ => 0, ⟨#[], #[.slice none 0 0, .int .i64 0], []⟩, World.laidAll_os _ _ _, World.shaped_of_ZipB (by kernel_rfl) (by kernel_rfl), (Input.okWide_of_okWideB (base := 0) (okw os)).1, (Input.okWide_of_okWideB (okw os)).2,
      OpenSpec.preRow_of_cond 8 hx (by kernel_rfl) (fun k hk => by cases hk; kernel_rfl) (by kernel_rfl) (by rw [MakeChecks.laidMetH_plain _ _ _ (by kernel_rfl)]; exact laidMet_laidAll _ (by kernel_rfl) (by kernel_rfl)),
      by simp only [Assume.holds]; exact ⟨by simp, by simp, fun _ => Modest.zero, by simp, by simp⟩⟩ ?_
  intro W base args ds gs before hval0 hW _ hcond _ hL _ _
  have hval : ∀ (j : Nat) t v, Tryz.f5.params[j]? = some t → args[j]? = some v → Value.okWide Tryz.prog W .any base t v := hval0
  have hW' := hW
  have hcnd := hcond _ rfl
  obtain ⟨p, q, hA0, hV, rfl, _, _⟩ := hW
  have hA : DataW.TrodAll enc Tryz.prog W 0 (fun _ => true) true Tryz.f5.params.toList args.toList ds p := hA0
  rw [Tryz.params5] at hA hval
  obtain ⟨v0, v1, d0, d1, p0, p1, rfl, rfl, rfl, h0, h1⟩ := trodAll_two hA
  obtain ⟨rfl, rfl⟩ := trodVars_none hV
  obtain ⟨ts0, hrep0, hbulk⟩ := Go.Tm.list_of_trod (okWide_slice Tryz.underlying25 (hval 0 25 v0 rfl rfl)) h0
  obtain ⟨x1, rfl, rfl, rfl, wx1⟩ := open_int Tryz.underlying3 (hval 1 3 v1 rfl rfl) h1
  have hcount : Go.Tm.countL ts0 ≤ 1152921504606846976 := by
    have h5 := hbulk _ Go.Tm.bulk_like
    have h6 := Go.Tm.bulk_first hcnd
    omega
  rw [MakeChecks.laidMetH_plain _ _ _ (by kernel_rfl)] at hL
  obtain ⟨E, hG⟩ := Go.Tm.glob_of_laid hL
  have hlt_p0 : ∀ x ∈ p0, x.block < W.heap.size := fun x hx => hW'.lt x (by simp; exact hx)
  refine (Go.Tm.ProjArrays.walk_any ts0 x1 v0 W hG hrep0 hcount).mono fun e W' ⟨he, hk⟩ => ?_
  subst he
  exact ⟨_, rfl, Go.Tm.post_of_kept (pa := p0 ++ ([] ++ ([]))) (pv := []) hW' (fun _ _ _ => (trodAll_cons_mk (shut_bool Tryz.underlying4 _) trodAll_mk0))
    (fun sp hsp => (trodAll_cons_mk (Go.Tm.list_stays h0 hk hlt_p0 (fun x hx => hsp x (by simp; exact hx))) (trodAll_cons_mk (shut_int Tryz.underlying3 wx1) trodAll_mk0))) (fun _ _ => rfl) (by simp)
    hk (ok_one (by kernel_rfl) rfl (okWide_bool_mk Tryz.underlying4 _))⟩
theorem k0 : (Rows.projArraysUptoRow.wf (OpenSpec.ofChange Rows.projArraysSpec)) = true := by kernel_rfl
theorem k1 : (laidOutB Tryz.prog) = true := by kernel_rfl
theorem k2 : (mapsRowed Tryz.prog) = true := by kernel_rfl
theorem k3 : (Tryz.f5.params.all (Tryz.prog.readableRec ·)) = true := by kernel_rfl
theorem k4 : (namedTie Tryz.prog Rows.projArraysUptoRow.named Rows.projArraysSpec.vars) = true := by kernel_rfl
theorem k5 : ((Rows.projArraysUptoRow.stops == [])) = true := by kernel_rfl
theorem k6 : ((Tryz.prog.stops == [])) = true := by kernel_rfl
theorem k7 : ((Rows.projArraysUptoRow.knobs == [])) = true := by kernel_rfl
theorem k8 : ((Tryz.prog.stopKnobs == [])) = true := by kernel_rfl
theorem k9 : ((Rows.projArraysUptoRow.inPlace == Tryz.prog.inPlace 5)) = true := by kernel_rfl
theorem k10 : ((Rows.projArraysUptoRow.unfollowed == Tryz.prog.unfollowed 5)) = true := by kernel_rfl
theorem k11 : ((Rows.projArraysUptoRow.recurses == Tryz.prog.recurses 5)) = true := by kernel_rfl
theorem k12 : ((Rows.projArraysUptoRow.named == Tryz.prog.varsNamed 5)) = true := by kernel_rfl
theorem k13 : ((Rows.projArraysUptoRow.maps == (Tryz.f5.params.toList ++ Rows.projArraysSpec.plain.varTypes Tryz.prog).any (Tryz.prog.mapsRec ·))) = true := by kernel_rfl
theorem k14 : ((Rows.projArraysUptoRow.ifaces == (Tryz.f5.params.toList ++ Rows.projArraysSpec.plain.varTypes Tryz.prog).any (Tryz.prog.ifacesRec ·))) = true := by kernel_rfl
theorem k15 : ((Rows.projArraysUptoRow.mapsOut == Tryz.prog.mapsAmong Tryz.f5.resultTypes.toList)) = true := by kernel_rfl
theorem k16 : ((Rows.projArraysUptoRow.loops == (Tryz.f5.params.toList ++ Rows.projArraysSpec.plain.varTypes Tryz.prog).any (Tryz.prog.loopsFrom ·))) = true := by kernel_rfl
theorem k17 : ((Rows.projArraysUptoRow.wideKeys == (Tryz.f5.params.toList ++ Rows.projArraysSpec.plain.varTypes Tryz.prog ++ Tryz.f5.resultTypes.toList).any (Tryz.prog.wideKeysFrom ·))) = true := by kernel_rfl
theorem k18 : (Rows.projArraysSpec.vars.all (Tryz.prog.varReadable ·)) = true := by kernel_rfl
theorem k19 : (Tryz.f5.resultTypes.all (fun t => Tryz.prog.readableRec t && decide (t < Tryz.prog.types.size))) = true := by kernel_rfl
theorem k20 : ((Rows.projArraysUptoRow.ifacesOut == Tryz.f5.resultTypes.toList.any (Tryz.prog.ifacesRec ·))) = true := by kernel_rfl
theorem k21 : ((Rows.projArraysUptoRow.loopsOut == Tryz.f5.resultTypes.toList.any (Tryz.prog.loopsFrom ·))) = true := by kernel_rfl
theorem k22 : ((Rows.projArraysUptoRow.plainKeys == Tryz.prog.plainKeys)) = true := by kernel_rfl
theorem k23 : (Rows.projArraysUptoRow.shortTexts.isNone) = true := by kernel_rfl
theorem k24 : (Tryz.prog.stopsHeard) = true := by kernel_rfl
theorem k25 : (Tryz.prog.mayEnter) = true := by kernel_rfl
theorem k26 : ((Rows.projArraysUptoRow.lifted == Tryz.prog.liftsFinal)) = true := by kernel_rfl
theorem k27 : ((Tryz.prog.make == some Rows.projArraysUptoRow.make)) = true := by kernel_rfl
theorem k29 : ((Rows.projArraysUptoRow.pinned == Rows.projArraysUptoRow.pinnedBy)) = true := by kernel_rfl
theorem k30 : ((Rows.projArraysUptoRow.veiled == (Tryz.f5.params.toList ++ Rows.projArraysSpec.plain.varTypes Tryz.prog ++ Tryz.f5.resultTypes.toList).any (Tryz.prog.veiledRec ·))) = true := by kernel_rfl
theorem k31 : (Rows.projArraysUptoRow.veiledFits Tryz.prog Tryz.f5.params.toList (Tryz.f5.params.toList ++ Rows.projArraysSpec.plain.varTypes Tryz.prog ++ Tryz.f5.resultTypes.toList)) = true := by kernel_rfl
set_option maxRecDepth 100000 in
theorem closed : joinedFacts Tryz.prog 5 Tryz.f5 Rows.projArraysSpec Rows.projArraysUptoRow = true := by
  unfold joinedFacts
  rw [k0, k1, k2, k3, k4, k5, k6, k7, k8, k9, k10, k11, k12, k13, k14, k15, k16, k17, k18, k19, k20, k21, k22, k23, k24, k25, k26, k27, k29, k30, k31]
  kernel_rfl
set_option maxRecDepth 100000 in
theorem over : Rows.projArraysUptoRow.holds Tryz.pinned (Rows.OpenSpec.upto Rows.projArraysSpec) :=
  OpenClaim.holds_of_cond 5 Tryz.f5 rfl rfl rfl rfl rfl rfl rfl ⟨rfl, rfl, rfl, rfl, rfl⟩ rfl rfl rfl rfl rfl (by kernel_rfl) Tryz.func5 closed
    (of_decide_eq_true (by kernel_rfl)) (by unfold Func.isWrapper; first | (rw [if_pos (by decide +kernel)]; kernel_rfl) | (rw [if_neg (by decide +kernel)]; exact ⟨rfl, rfl⟩))
    (fun os started H enc _ F => by rw [OpenClaim.pre_eq_preRow]; exact lifted os started H enc F)
theorem proved : Rows.ProjArraysUptoCardSaid :=
  Claim7.holds_tied_plain_at .later [] [.data, .data, .data, .data, .sentinel, .sentinel, .sentinel, .sentinel, .sentinel, .sentinel, .pinned] true (true, "bc0fd6d5a903216d2f51630207dfbf29139dc5e21c0ea4f105db312140cff28d") true
    over (fun _ h => by cases h) (by kernel_rfl) (fun _ h => by cases h) projArraysUpto_row_tie rfl ⟨rfl, rfl⟩ (by kernel_rfl) rfl
    (fun f fn hf hfn => by
      obtain rfl : f = 5 := Option.some.inj ((show Tryz.prog.funcNamed "targum/targumlaw16.ProjArrays" = some 5 by kernel_rfl).symm.trans hf) |>.symm
      obtain rfl : fn = Tryz.f5 := (Option.some.inj (Tryz.func5.symm.trans hfn)).symm
      exact ⟨by kernel_rfl, fun j t ht => by
        rw [Tryz.params5] at ht
        have hm : t ∈ [25, 3] := by simpa using Array.mem_of_getElem? ht
        have hall : ([25, 3].all fun u => !Tryz.prog.wantsStandIn u) = true := by kernel_rfl
        exact (show Tryz.prog.wantsStandIn t = false by simpa using List.all_eq_true.1 hall t hm)⟩)
    (by kernel_rfl)
#print axioms proved
end Go.Proofs.YthledjlechdbiaaGreatDoor.projArraysUpto
