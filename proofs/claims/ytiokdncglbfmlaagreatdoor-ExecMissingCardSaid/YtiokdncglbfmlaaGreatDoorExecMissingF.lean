/- The closed facts of the row of ExecMissing, each its own theorem. -/
import Derived.Test.YtiokdncglbfmlaaGreatDoorRows
import Derived.Test.YtiokdncglbfmlaaGreatDoorTie
import Derived.Test.YtiokdncglbfmlaaGreatDoorFacts
namespace Go.Proofs.YtiokdncglbfmlaaGreatDoor
open Go
set_option maxRecDepth 100000
theorem execMissing_wf : (Rows.execMissingRow.wf (OpenSpec.ofChange Rows.execMissingSpec)) = true := by kernel_rfl
theorem execMissing_readable : (Tryz.f4.params.all (Tryz.prog.readableRec ·)) = true := by kernel_rfl
theorem execMissing_named0 : (namedTie Tryz.prog Rows.execMissingRow.named Rows.execMissingSpec.vars) = true := by kernel_rfl
theorem execMissing_st : (Rows.execMissingRow.stops == []) = true := by kernel_rfl
theorem execMissing_kn : (Rows.execMissingRow.knobs == []) = true := by kernel_rfl
theorem execMissing_inPlace : (Rows.execMissingRow.inPlace == Tryz.prog.inPlace 4) = true := by kernel_rfl
theorem execMissing_unfollowed : (Rows.execMissingRow.unfollowed == Tryz.prog.unfollowed 4) = true := by kernel_rfl
theorem execMissing_recurses : (Rows.execMissingRow.recurses == Tryz.prog.recurses 4) = true := by kernel_rfl
theorem execMissing_named : (Rows.execMissingRow.named == Tryz.prog.varsNamed 4) = true := by kernel_rfl
theorem execMissing_maps : (Rows.execMissingRow.maps == (Tryz.f4.params.toList ++ Rows.execMissingSpec.plain.varTypes Tryz.prog).any (Tryz.prog.mapsRec ·)) = true := by kernel_rfl
theorem execMissing_ifaces : (Rows.execMissingRow.ifaces == (Tryz.f4.params.toList ++ Rows.execMissingSpec.plain.varTypes Tryz.prog).any (Tryz.prog.ifacesRec ·)) = true := by kernel_rfl
theorem execMissing_mapsOut : (Rows.execMissingRow.mapsOut == Tryz.prog.mapsAmong Tryz.f4.resultTypes.toList) = true := by kernel_rfl
theorem execMissing_loops : (Rows.execMissingRow.loops == (Tryz.f4.params.toList ++ Rows.execMissingSpec.plain.varTypes Tryz.prog).any (Tryz.prog.loopsFrom ·)) = true := by kernel_rfl
theorem execMissing_wideKeys : (Rows.execMissingRow.wideKeys == (Tryz.f4.params.toList ++ Rows.execMissingSpec.plain.varTypes Tryz.prog ++ Tryz.f4.resultTypes.toList).any (Tryz.prog.wideKeysFrom ·)) = true := by kernel_rfl
theorem execMissing_vars : (Rows.execMissingSpec.vars.all (Tryz.prog.varReadable ·)) = true := by kernel_rfl
theorem execMissing_results : (Tryz.f4.resultTypes.all (fun t => Tryz.prog.readableRec t && decide (t < Tryz.prog.types.size))) = true := by kernel_rfl
theorem execMissing_ifacesOut : (Rows.execMissingRow.ifacesOut == Tryz.f4.resultTypes.toList.any (Tryz.prog.ifacesRec ·)) = true := by kernel_rfl
theorem execMissing_loopsOut : (Rows.execMissingRow.loopsOut == Tryz.f4.resultTypes.toList.any (Tryz.prog.loopsFrom ·)) = true := by kernel_rfl
theorem execMissing_short : (Rows.execMissingRow.shortTexts.isNone) = true := by kernel_rfl
theorem execMissing_make : (Tryz.prog.make == some Rows.execMissingRow.make) = true := by kernel_rfl
theorem execMissing_kinds : (Rows.execMissingRow.kinds == (if Rows.execMissingRow.domain.isEmpty then [] else Tryz.f4.params.toList.map fun t => match Tryz.prog.underlying t with | some (.int k) => some k | _ => none)) = true := by kernel_rfl
theorem execMissing_pinned : (Rows.execMissingRow.pinned == Rows.execMissingRow.pinnedBy) = true := by kernel_rfl
theorem execMissing_veiled : (Rows.execMissingRow.veiled == (Tryz.f4.params.toList ++ Rows.execMissingSpec.plain.varTypes Tryz.prog ++ Tryz.f4.resultTypes.toList).any (Tryz.prog.veiledRec ·)) = true := by kernel_rfl
theorem execMissing_fits : (Rows.execMissingRow.veiledFits Tryz.prog Tryz.f4.params.toList (Tryz.f4.params.toList ++ Rows.execMissingSpec.plain.varTypes Tryz.prog ++ Tryz.f4.resultTypes.toList)) = true := by kernel_rfl
theorem execMissing_facts : joinedFacts Tryz.prog 4 Tryz.f4 Rows.execMissingSpec Rows.execMissingRow = true := by
  unfold joinedFacts
  exact ba (ba (ba (ba (ba (ba (ba (ba (ba (ba (ba (ba (ba (ba (ba (ba (ba (ba (ba (ba (ba (ba (ba (ba (ba (ba (ba (ba (ba (ba (ba execMissing_wf laidOut) rowed) execMissing_readable) execMissing_named0) execMissing_st) noStops) execMissing_kn) noKnobs) execMissing_inPlace) execMissing_unfollowed) execMissing_recurses) execMissing_named) execMissing_maps) execMissing_ifaces) execMissing_mapsOut) execMissing_loops) execMissing_wideKeys) execMissing_vars) execMissing_results) execMissing_ifacesOut) execMissing_loopsOut) plainKeys) execMissing_short) stopsHeard) mayEnter) liftsFinal) execMissing_make) execMissing_kinds) execMissing_pinned) execMissing_veiled) execMissing_fits
theorem execMissing_id : Tryz.prog.funcNamed Rows.execMissingRow.func = some 4 := by kernel_rfl
theorem execMissing_inst : Tryz.f4.isInstance Tryz.prog Rows.execMissingRow.origin Rows.execMissingRow.targs := of_decide_eq_true (by kernel_rfl)
theorem execMissing_wrap : Tryz.f4.isWrapper Tryz.prog Rows.execMissingRow.wrapper Rows.execMissingRow.mainSum := by unfold Func.isWrapper; first | (rw [if_pos (by decide +kernel)]; kernel_rfl) | (rw [if_neg (by decide +kernel)]; exact ⟨rfl, rfl⟩)
theorem execMissing_byText : Rows.execMissingRow.wfByText (OpenSpec.ofChange Rows.execMissingSpec) = true := by kernel_rfl
theorem execMissing_goes : false = Rows.execMissingRow.goesBy Tryz.prog := by kernel_rfl
theorem execMissing_stand : (Tryz.f4.params.toList.all fun t => !Tryz.prog.wantsStandIn t) = true := by kernel_rfl
end Go.Proofs.YtiokdncglbfmlaaGreatDoor
