/- The card of the law GrantBys, over its row. -/
import Derived.Test.YtmfnlloabaoagaaGreatDoorR4
set_option linter.unusedVariables false
set_option maxRecDepth 100000
namespace Go.Proofs.YtmfnlloabaoagaaGreatDoor.grantBys
theorem j0 : (Rows.grantBysRow.wf (OpenSpec.ofChange Rows.grantBysSpec)) = true := by kernel_rfl
theorem j1 : (laidOutB Tryz.prog) = true := by kernel_rfl
theorem j2 : (mapsRowed Tryz.prog) = true := by kernel_rfl
theorem j3 : (Tryz.f4.params.all (Tryz.prog.readableRec ·)) = true := by kernel_rfl
theorem j4 : (namedTie Tryz.prog Rows.grantBysRow.named Rows.grantBysSpec.vars) = true := by kernel_rfl
theorem j5 : ((Rows.grantBysRow.stops == [])) = true := by kernel_rfl
theorem j6 : ((Tryz.prog.stops == [])) = true := by kernel_rfl
theorem j7 : ((Rows.grantBysRow.knobs == [])) = true := by kernel_rfl
theorem j8 : ((Tryz.prog.stopKnobs == [])) = true := by kernel_rfl
theorem j9 : ((Rows.grantBysRow.inPlace == Tryz.prog.inPlace 4)) = true := by kernel_rfl
theorem j10 : ((Rows.grantBysRow.unfollowed == Tryz.prog.unfollowed 4)) = true := by kernel_rfl
theorem j11 : ((Rows.grantBysRow.recurses == Tryz.prog.recurses 4)) = true := by kernel_rfl
theorem j12 : ((Rows.grantBysRow.named == Tryz.prog.varsNamed 4)) = true := by kernel_rfl
theorem j13 : ((Rows.grantBysRow.maps == (Tryz.f4.params.toList ++ Rows.grantBysSpec.plain.varTypes Tryz.prog).any (Tryz.prog.mapsRec ·))) = true := by kernel_rfl
theorem j14 : ((Rows.grantBysRow.ifaces == (Tryz.f4.params.toList ++ Rows.grantBysSpec.plain.varTypes Tryz.prog).any (Tryz.prog.ifacesRec ·))) = true := by kernel_rfl
theorem j15 : ((Rows.grantBysRow.mapsOut == Tryz.prog.mapsAmong Tryz.f4.resultTypes.toList)) = true := by kernel_rfl
theorem j16 : ((Rows.grantBysRow.loops == (Tryz.f4.params.toList ++ Rows.grantBysSpec.plain.varTypes Tryz.prog).any (Tryz.prog.loopsFrom ·))) = true := by kernel_rfl
theorem j17 : ((Rows.grantBysRow.wideKeys == (Tryz.f4.params.toList ++ Rows.grantBysSpec.plain.varTypes Tryz.prog ++ Tryz.f4.resultTypes.toList).any (Tryz.prog.wideKeysFrom ·))) = true := by kernel_rfl
theorem j18 : (Rows.grantBysSpec.vars.all (Tryz.prog.varReadable ·)) = true := by kernel_rfl
theorem j19 : (Tryz.f4.resultTypes.all (fun t => Tryz.prog.readableRec t && decide (t < Tryz.prog.types.size))) = true := by kernel_rfl
theorem j20 : ((Rows.grantBysRow.ifacesOut == Tryz.f4.resultTypes.toList.any (Tryz.prog.ifacesRec ·))) = true := by kernel_rfl
theorem j21 : ((Rows.grantBysRow.loopsOut == Tryz.f4.resultTypes.toList.any (Tryz.prog.loopsFrom ·))) = true := by kernel_rfl
theorem j22 : ((Rows.grantBysRow.plainKeys == Tryz.prog.plainKeys)) = true := by kernel_rfl
theorem j23 : (Rows.grantBysRow.shortTexts.isNone) = true := by kernel_rfl
theorem j24 : (Tryz.prog.stopsHeard) = true := by kernel_rfl
theorem j25 : (Tryz.prog.mayEnter) = true := by kernel_rfl
theorem j26 : ((Rows.grantBysRow.lifted == Tryz.prog.liftsFinal)) = true := by kernel_rfl
theorem j27 : ((Tryz.prog.make == some Rows.grantBysRow.make)) = true := by kernel_rfl
theorem j28 : ((Rows.grantBysRow.kinds == (if Rows.grantBysRow.domain.isEmpty then [] else Tryz.f4.params.toList.map fun t => match Tryz.prog.underlying t with | some (.int k) => some k | _ => none))) = true := by kernel_rfl
theorem j29 : ((Rows.grantBysRow.pinned == Rows.grantBysRow.pinnedBy)) = true := by kernel_rfl
theorem j30 : ((Rows.grantBysRow.veiled == (Tryz.f4.params.toList ++ Rows.grantBysSpec.plain.varTypes Tryz.prog ++ Tryz.f4.resultTypes.toList).any (Tryz.prog.veiledRec ·))) = true := by kernel_rfl
theorem j31 : (Rows.grantBysRow.veiledFits Tryz.prog Tryz.f4.params.toList (Tryz.f4.params.toList ++ Rows.grantBysSpec.plain.varTypes Tryz.prog ++ Tryz.f4.resultTypes.toList)) = true := by kernel_rfl
theorem an {a b : Bool} (x : a = true) (y : b = true) : (a && b) = true := by subst x; subst y; rfl
theorem joined : joinedFacts Tryz.prog 4 Tryz.f4 Rows.grantBysSpec Rows.grantBysRow = true := by unfold joinedFacts; exact an (an (an (an (an (an (an (an (an (an (an (an (an (an (an (an (an (an (an (an (an (an (an (an (an (an (an (an (an (an (an j0 j1) j2) j3) j4) j5) j6) j7) j8) j9) j10) j11) j12) j13) j14) j15) j16) j17) j18) j19) j20) j21) j22) j23) j24) j25) j26) j27) j28) j29) j30) j31
theorem o1 : Tryz.prog.funcNamed Rows.grantBysRow.func = some 4 := by kernel_rfl
open Go.ChangeShapes Go.WideShapes Go.ChangeAt Go.RowKit
theorem over : Rows.GrantBysSaid :=
  OpenClaim.holds_of_wide 4 Tryz.f4 rfl rfl rfl rfl rfl rfl rfl ⟨rfl, rfl, rfl, rfl, rfl⟩ rfl rfl rfl rfl rfl o1 Tryz.func4 joined
    (of_decide_eq_true (by kernel_rfl)) (by unfold Func.isWrapper; first | (rw [if_pos (by decide +kernel)]; kernel_rfl) | (rw [if_neg (by decide +kernel)]; exact ⟨rfl, rfl⟩))
    (fun os started H enc _ => lifted os started H enc)
theorem w1 : Rows.grantBysRow.wfByText (OpenSpec.ofChange Rows.grantBysSpec) = true := by kernel_rfl
theorem w2 : Tryz.prog.mainIs = some (true, "6ec1423312db6a1a54ef9e3a0d06fb9cf1861275846ffe494de3cc13cf2d184a".toList) := by kernel_rfl
theorem w3 : Tryz.prog.funcNamed "toll/tolllaw11.GrantBys" = some 4 := o1
theorem w4 : true = Tryz.prog.looks [] := by kernel_rfl
theorem w5 : ([45].all fun u => !Tryz.prog.wantsStandIn u) = true := by kernel_rfl
theorem w6 : false = Rows.grantBysRow.goesBy Tryz.prog := by kernel_rfl
theorem card : Rows.GrantBysCardSaid :=
  Claim7.holds_tied_plain_at .later [] [.data, .pinned] true (true, "6ec1423312db6a1a54ef9e3a0d06fb9cf1861275846ffe494de3cc13cf2d184a") true
    over (fun _ h => by cases h) w1 (fun _ h => by cases h) row_tie rfl ⟨rfl, rfl⟩ w2 rfl
    (fun f fn hf hfn => by
      obtain rfl : f = 4 := Option.some.inj (w3.symm.trans hf) |>.symm
      obtain rfl : fn = Tryz.f4 := (Option.some.inj (Tryz.func4.symm.trans hfn)).symm
      exact ⟨w4, fun j t ht => by
        rw [Tryz.params4] at ht
        have hm : t ∈ [45] := by simpa using Array.mem_of_getElem? ht
        exact (show Tryz.prog.wantsStandIn t = false by simpa using List.all_eq_true.1 w5 t hm)⟩)
    w6
end Go.Proofs.YtmfnlloabaoagaaGreatDoor.grantBys
namespace Go.Proofs.YtmfnlloabaoagaaGreatDoor
/-- The card, under a short name, for the claim. -/
theorem grantBys_card : Rows.GrantBysCardSaid := grantBys.card
#print axioms grantBys_card
end Go.Proofs.YtmfnlloabaoagaaGreatDoor
