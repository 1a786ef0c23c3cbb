/- The closed facts of the row of EvmNil, each its own theorem. -/
import Derived.Test.YtiokdncglbfmlaaGreatDoorRows
import Derived.Test.YtiokdncglbfmlaaGreatDoorTie
import Derived.Test.YtiokdncglbfmlaaGreatDoorFacts
namespace Go.Proofs.YtiokdncglbfmlaaGreatDoor
open Go
set_option maxRecDepth 100000
theorem evmNil_wf : (Rows.evmNilRow.wf (OpenSpec.ofChange Rows.evmNilSpec)) = true := by kernel_rfl
theorem evmNil_readable : (Tryz.f3.params.all (Tryz.prog.readableRec ·)) = true := by kernel_rfl
theorem evmNil_named0 : (namedTie Tryz.prog Rows.evmNilRow.named Rows.evmNilSpec.vars) = true := by kernel_rfl
theorem evmNil_st : (Rows.evmNilRow.stops == []) = true := by kernel_rfl
theorem evmNil_kn : (Rows.evmNilRow.knobs == []) = true := by kernel_rfl
theorem evmNil_inPlace : (Rows.evmNilRow.inPlace == Tryz.prog.inPlace 3) = true := by kernel_rfl
theorem evmNil_unfollowed : (Rows.evmNilRow.unfollowed == Tryz.prog.unfollowed 3) = true := by kernel_rfl
theorem evmNil_recurses : (Rows.evmNilRow.recurses == Tryz.prog.recurses 3) = true := by kernel_rfl
theorem evmNil_named : (Rows.evmNilRow.named == Tryz.prog.varsNamed 3) = true := by kernel_rfl
theorem evmNil_maps : (Rows.evmNilRow.maps == (Tryz.f3.params.toList ++ Rows.evmNilSpec.plain.varTypes Tryz.prog).any (Tryz.prog.mapsRec ·)) = true := by kernel_rfl
theorem evmNil_ifaces : (Rows.evmNilRow.ifaces == (Tryz.f3.params.toList ++ Rows.evmNilSpec.plain.varTypes Tryz.prog).any (Tryz.prog.ifacesRec ·)) = true := by kernel_rfl
theorem evmNil_mapsOut : (Rows.evmNilRow.mapsOut == Tryz.prog.mapsAmong Tryz.f3.resultTypes.toList) = true := by kernel_rfl
theorem evmNil_loops : (Rows.evmNilRow.loops == (Tryz.f3.params.toList ++ Rows.evmNilSpec.plain.varTypes Tryz.prog).any (Tryz.prog.loopsFrom ·)) = true := by kernel_rfl
theorem evmNil_wideKeys : (Rows.evmNilRow.wideKeys == (Tryz.f3.params.toList ++ Rows.evmNilSpec.plain.varTypes Tryz.prog ++ Tryz.f3.resultTypes.toList).any (Tryz.prog.wideKeysFrom ·)) = true := by kernel_rfl
theorem evmNil_vars : (Rows.evmNilSpec.vars.all (Tryz.prog.varReadable ·)) = true := by kernel_rfl
theorem evmNil_results : (Tryz.f3.resultTypes.all (fun t => Tryz.prog.readableRec t && decide (t < Tryz.prog.types.size))) = true := by kernel_rfl
theorem evmNil_ifacesOut : (Rows.evmNilRow.ifacesOut == Tryz.f3.resultTypes.toList.any (Tryz.prog.ifacesRec ·)) = true := by kernel_rfl
theorem evmNil_loopsOut : (Rows.evmNilRow.loopsOut == Tryz.f3.resultTypes.toList.any (Tryz.prog.loopsFrom ·)) = true := by kernel_rfl
theorem evmNil_short : (Rows.evmNilRow.shortTexts.isNone) = true := by kernel_rfl
theorem evmNil_make : (Tryz.prog.make == some Rows.evmNilRow.make) = true := by kernel_rfl
theorem evmNil_kinds : (Rows.evmNilRow.kinds == (if Rows.evmNilRow.domain.isEmpty then [] else Tryz.f3.params.toList.map fun t => match Tryz.prog.underlying t with | some (.int k) => some k | _ => none)) = true := by kernel_rfl
theorem evmNil_pinned : (Rows.evmNilRow.pinned == Rows.evmNilRow.pinnedBy) = true := by kernel_rfl
theorem evmNil_veiled : (Rows.evmNilRow.veiled == (Tryz.f3.params.toList ++ Rows.evmNilSpec.plain.varTypes Tryz.prog ++ Tryz.f3.resultTypes.toList).any (Tryz.prog.veiledRec ·)) = true := by kernel_rfl
theorem evmNil_fits : (Rows.evmNilRow.veiledFits Tryz.prog Tryz.f3.params.toList (Tryz.f3.params.toList ++ Rows.evmNilSpec.plain.varTypes Tryz.prog ++ Tryz.f3.resultTypes.toList)) = true := by kernel_rfl
theorem evmNil_facts : joinedFacts Tryz.prog 3 Tryz.f3 Rows.evmNilSpec Rows.evmNilRow = true := by
  unfold joinedFacts
  exact ba (ba (ba (ba (ba (ba (ba (ba (ba (ba (ba (ba (ba (ba (ba (ba (ba (ba (ba (ba (ba (ba (ba (ba (ba (ba (ba (ba (ba (ba (ba evmNil_wf laidOut) rowed) evmNil_readable) evmNil_named0) evmNil_st) noStops) evmNil_kn) noKnobs) evmNil_inPlace) evmNil_unfollowed) evmNil_recurses) evmNil_named) evmNil_maps) evmNil_ifaces) evmNil_mapsOut) evmNil_loops) evmNil_wideKeys) evmNil_vars) evmNil_results) evmNil_ifacesOut) evmNil_loopsOut) plainKeys) evmNil_short) stopsHeard) mayEnter) liftsFinal) evmNil_make) evmNil_kinds) evmNil_pinned) evmNil_veiled) evmNil_fits
theorem evmNil_id : Tryz.prog.funcNamed Rows.evmNilRow.func = some 3 := by kernel_rfl
theorem evmNil_inst : Tryz.f3.isInstance Tryz.prog Rows.evmNilRow.origin Rows.evmNilRow.targs := of_decide_eq_true (by kernel_rfl)
theorem evmNil_wrap : Tryz.f3.isWrapper Tryz.prog Rows.evmNilRow.wrapper Rows.evmNilRow.mainSum := by unfold Func.isWrapper; first | (rw [if_pos (by decide +kernel)]; kernel_rfl) | (rw [if_neg (by decide +kernel)]; exact ⟨rfl, rfl⟩)
theorem evmNil_byText : Rows.evmNilRow.wfByText (OpenSpec.ofChange Rows.evmNilSpec) = true := by kernel_rfl
theorem evmNil_goes : false = Rows.evmNilRow.goesBy Tryz.prog := by kernel_rfl
theorem evmNil_stand : (Tryz.f3.params.toList.all fun t => !Tryz.prog.wantsStandIn t) = true := by kernel_rfl
end Go.Proofs.YtiokdncglbfmlaaGreatDoor
