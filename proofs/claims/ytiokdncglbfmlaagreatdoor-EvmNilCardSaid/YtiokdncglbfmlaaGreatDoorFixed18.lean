/- The chapter's example, carried out: it returns true. -/
import Derived.Test.YtiokdncglbfmlaaGreatDoorMFixed
import Derived.Test.YtiokdncglbfmlaaGreatDoorProg
import Derived.KernelRfl
namespace Go.Proofs.YtiokdncglbfmlaaGreatDoor
open Go Go.RowKit Go.Am
set_option maxRecDepth 100000
theorem mixed : Tryz.prog.follows .mixedOrders = true := by kernel_rfl
theorem fixed18_run : retTrue (mcallD Tryz.prog 200 40 10 [] ⟨.leaf, 1000⟩) = true := by kernel_rfl
theorem fixed18 (W : World) : Calls Tryz.prog 10 #[] W fun e w' => e = .returned (.bool true) ∧ Below W.heap.size W w' :=
  run_true mixed (of_decide_eq_true (by kernel_rfl)) fixed18_run W
end Go.Proofs.YtiokdncglbfmlaaGreatDoor
