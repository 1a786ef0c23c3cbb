/- The closed facts of the program, each its own theorem (one declaration with all of them is too much for the kernel's memory). -/
import Derived.Test.YtiokdncglbfmlaaGreatDoorRows
import Derived.Test.YtiokdncglbfmlaaGreatDoorLaw
import Derived.JoinedOf
import Derived.SevenTiedAt
namespace Go.Proofs.YtiokdncglbfmlaaGreatDoor
open Go Go.RowKit Go.ChangeShapes Go.WideShapes Go.ChangeAt Go.Sm
set_option maxRecDepth 100000
theorem ba {a b : Bool} (h : a = true) (k : b = true) : (a && b) = true := by rw [h, k]; rfl
theorem own : ownKnob Tryz.prog.godebug = none := by kernel_rfl
theorem laidOut : laidOutB Tryz.prog = true := by kernel_rfl
theorem rowed : mapsRowed Tryz.prog = true := by kernel_rfl
theorem slicesOk : slicesB Tryz.prog = true := by kernel_rfl
theorem noStops : (Tryz.prog.stops == []) = true := by kernel_rfl
theorem noKnobs : (Tryz.prog.stopKnobs == []) = true := by kernel_rfl
theorem stopsHeard : Tryz.prog.stopsHeard = true := by kernel_rfl
theorem mayEnter : Tryz.prog.mayEnter = true := by kernel_rfl
theorem liftsFinal : (false == Tryz.prog.liftsFinal) = true := by kernel_rfl
theorem plainKeys : (false == Tryz.prog.plainKeys) = true := by kernel_rfl
theorem mainIs : Tryz.prog.mainIs = some (true, "f2608cfccbf4ed797bd49d4e2378b29092e2ab778d5a64f21b512b9c96b55845".toList) := by kernel_rfl
theorem looks : false = Tryz.prog.looks [] := by kernel_rfl
end Go.Proofs.YtiokdncglbfmlaaGreatDoor
