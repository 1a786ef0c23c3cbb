/- The chapter's example, carried out: it returns true. -/
import Derived.Test.YtiokdncglbfmlaaGreatDoorMFixed
import Derived.Test.YtiokdncglbfmlaaGreatDoorProg
import Derived.KernelRfl
namespace Go.Proofs.YtiokdncglbfmlaaGreatDoor
open Go Go.RowKit Go.Am
set_option maxRecDepth 100000
theorem mixed20 : Tryz.prog.follows .mixedOrders = true := by kernel_rfl
theorem fixed20_run : retTrue (mcallD Tryz.prog 200 40 14 [] ⟨.leaf, 1000⟩) = true := by kernel_rfl
theorem fixed20 (W : World) : Calls Tryz.prog 14 #[] W fun e w' => e = .returned (.bool true) ∧ Below W.heap.size W w' :=
  run_true mixed20 (of_decide_eq_true (by kernel_rfl)) fixed20_run W
end Go.Proofs.YtiokdncglbfmlaaGreatDoor
