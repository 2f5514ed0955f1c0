/- The card of the law GrantPermits, over its row. -/
import Derived.Test.YtmfnlloabaoagaaGreatDoorR5
set_option linter.unusedVariables false
set_option maxRecDepth 100000
namespace Go.Proofs.YtmfnlloabaoagaaGreatDoor.grantPermits
theorem j0 : (Rows.grantPermitsRow.wf (OpenSpec.ofChange Rows.grantPermitsSpec)) = true := by kernel_rfl
theorem j1 : (laidOutB Tryz.prog) = true := by kernel_rfl
theorem j2 : (mapsRowed Tryz.prog) = true := by kernel_rfl
theorem j3 : (Tryz.f5.params.all (Tryz.prog.readableRec ·)) = true := by kernel_rfl
theorem j4 : (namedTie Tryz.prog Rows.grantPermitsRow.named Rows.grantPermitsSpec.vars) = true := by kernel_rfl
theorem j5 : ((Rows.grantPermitsRow.stops == [])) = true := by kernel_rfl
theorem j6 : ((Tryz.prog.stops == [])) = true := by kernel_rfl
theorem j7 : ((Rows.grantPermitsRow.knobs == [])) = true := by kernel_rfl
theorem j8 : ((Tryz.prog.stopKnobs == [])) = true := by kernel_rfl
theorem j9 : ((Rows.grantPermitsRow.inPlace == Tryz.prog.inPlace 5)) = true := by kernel_rfl
theorem j10 : ((Rows.grantPermitsRow.unfollowed == Tryz.prog.unfollowed 5)) = true := by kernel_rfl
theorem j11 : ((Rows.grantPermitsRow.recurses == Tryz.prog.recurses 5)) = true := by kernel_rfl
theorem j12 : ((Rows.grantPermitsRow.named == Tryz.prog.varsNamed 5)) = true := by kernel_rfl
theorem j13 : ((Rows.grantPermitsRow.maps == (Tryz.f5.params.toList ++ Rows.grantPermitsSpec.plain.varTypes Tryz.prog).any (Tryz.prog.mapsRec ·))) = true := by kernel_rfl
theorem j14 : ((Rows.grantPermitsRow.ifaces == (Tryz.f5.params.toList ++ Rows.grantPermitsSpec.plain.varTypes Tryz.prog).any (Tryz.prog.ifacesRec ·))) = true := by kernel_rfl
theorem j15 : ((Rows.grantPermitsRow.mapsOut == Tryz.prog.mapsAmong Tryz.f5.resultTypes.toList)) = true := by kernel_rfl
theorem j16 : ((Rows.grantPermitsRow.loops == (Tryz.f5.params.toList ++ Rows.grantPermitsSpec.plain.varTypes Tryz.prog).any (Tryz.prog.loopsFrom ·))) = true := by kernel_rfl
theorem j17 : ((Rows.grantPermitsRow.wideKeys == (Tryz.f5.params.toList ++ Rows.grantPermitsSpec.plain.varTypes Tryz.prog ++ Tryz.f5.resultTypes.toList).any (Tryz.prog.wideKeysFrom ·))) = true := by kernel_rfl
theorem j18 : (Rows.grantPermitsSpec.vars.all (Tryz.prog.varReadable ·)) = true := by kernel_rfl
theorem j19 : (Tryz.f5.resultTypes.all (fun t => Tryz.prog.readableRec t && decide (t < Tryz.prog.types.size))) = true := by kernel_rfl
theorem j20 : ((Rows.grantPermitsRow.ifacesOut == Tryz.f5.resultTypes.toList.any (Tryz.prog.ifacesRec ·))) = true := by kernel_rfl
theorem j21 : ((Rows.grantPermitsRow.loopsOut == Tryz.f5.resultTypes.toList.any (Tryz.prog.loopsFrom ·))) = true := by kernel_rfl
theorem j22 : ((Rows.grantPermitsRow.plainKeys == Tryz.prog.plainKeys)) = true := by kernel_rfl
theorem j23 : (Rows.grantPermitsRow.shortTexts.isNone) = true := by kernel_rfl
theorem j24 : (Tryz.prog.stopsHeard) = true := by kernel_rfl
theorem j25 : (Tryz.prog.mayEnter) = true := by kernel_rfl
theorem j26 : ((Rows.grantPermitsRow.lifted == Tryz.prog.liftsFinal)) = true := by kernel_rfl
theorem j27 : ((Tryz.prog.make == some Rows.grantPermitsRow.make)) = true := by kernel_rfl
theorem j28 : ((Rows.grantPermitsRow.kinds == (if Rows.grantPermitsRow.domain.isEmpty then [] else Tryz.f5.params.toList.map fun t => match Tryz.prog.underlying t with | some (.int k) => some k | _ => none))) = true := by kernel_rfl
theorem j29 : ((Rows.grantPermitsRow.pinned == Rows.grantPermitsRow.pinnedBy)) = true := by kernel_rfl
theorem j30 : ((Rows.grantPermitsRow.veiled == (Tryz.f5.params.toList ++ Rows.grantPermitsSpec.plain.varTypes Tryz.prog ++ Tryz.f5.resultTypes.toList).any (Tryz.prog.veiledRec ·))) = true := by kernel_rfl
theorem j31 : (Rows.grantPermitsRow.veiledFits Tryz.prog Tryz.f5.params.toList (Tryz.f5.params.toList ++ Rows.grantPermitsSpec.plain.varTypes Tryz.prog ++ Tryz.f5.resultTypes.toList)) = true := by kernel_rfl
theorem an {a b : Bool} (x : a = true) (y : b = true) : (a && b) = true := by subst x; subst y; rfl
theorem joined : joinedFacts Tryz.prog 5 Tryz.f5 Rows.grantPermitsSpec Rows.grantPermitsRow = true := by unfold joinedFacts; exact an (an (an (an (an (an (an (an (an (an (an (an (an (an (an (an (an (an (an (an (an (an (an (an (an (an (an (an (an (an (an j0 j1) j2) j3) j4) j5) j6) j7) j8) j9) j10) j11) j12) j13) j14) j15) j16) j17) j18) j19) j20) j21) j22) j23) j24) j25) j26) j27) j28) j29) j30) j31
theorem o1 : Tryz.prog.funcNamed Rows.grantPermitsRow.func = some 5 := by kernel_rfl
open Go.ChangeShapes Go.WideShapes Go.ChangeAt Go.RowKit
theorem over : Rows.GrantPermitsSaid :=
  OpenClaim.holds_of_wide 5 Tryz.f5 rfl rfl rfl rfl rfl rfl rfl ⟨rfl, rfl, rfl, rfl, rfl⟩ rfl rfl rfl rfl rfl o1 Tryz.func5 joined
    (of_decide_eq_true (by kernel_rfl)) (by unfold Func.isWrapper; first | (rw [if_pos (by decide +kernel)]; kernel_rfl) | (rw [if_neg (by decide +kernel)]; exact ⟨rfl, rfl⟩))
    (fun os started H enc _ => lifted os started H enc)
theorem w1 : Rows.grantPermitsRow.wfByText (OpenSpec.ofChange Rows.grantPermitsSpec) = true := by kernel_rfl
theorem w2 : Tryz.prog.mainIs = some (true, "6ec1423312db6a1a54ef9e3a0d06fb9cf1861275846ffe494de3cc13cf2d184a".toList) := by kernel_rfl
theorem w3 : Tryz.prog.funcNamed "toll/tolllaw11.GrantPermits" = some 5 := o1
theorem w4 : true = Tryz.prog.looks [] := by kernel_rfl
theorem w5 : ([45].all fun u => !Tryz.prog.wantsStandIn u) = true := by kernel_rfl
theorem w6 : false = Rows.grantPermitsRow.goesBy Tryz.prog := by kernel_rfl
theorem card : Rows.GrantPermitsCardSaid :=
  Claim7.holds_tied_plain_at .later [] [.data, .pinned] true (true, "6ec1423312db6a1a54ef9e3a0d06fb9cf1861275846ffe494de3cc13cf2d184a") true
    over (fun _ h => by cases h) w1 (fun _ h => by cases h) row_tie rfl ⟨rfl, rfl⟩ w2 rfl
    (fun f fn hf hfn => by
      obtain rfl : f = 5 := Option.some.inj (w3.symm.trans hf) |>.symm
      obtain rfl : fn = Tryz.f5 := (Option.some.inj (Tryz.func5.symm.trans hfn)).symm
      exact ⟨w4, fun j t ht => by
        rw [Tryz.params5] at ht
        have hm : t ∈ [45] := by simpa using Array.mem_of_getElem? ht
        exact (show Tryz.prog.wantsStandIn t = false by simpa using List.all_eq_true.1 w5 t hm)⟩)
    w6
end Go.Proofs.YtmfnlloabaoagaaGreatDoor.grantPermits
namespace Go.Proofs.YtmfnlloabaoagaaGreatDoor
/-- The card, under a short name, for the claim. -/
theorem grantPermits_card : Rows.GrantPermitsCardSaid := grantPermits.card
#print axioms grantPermits_card
end Go.Proofs.YtmfnlloabaoagaaGreatDoor
