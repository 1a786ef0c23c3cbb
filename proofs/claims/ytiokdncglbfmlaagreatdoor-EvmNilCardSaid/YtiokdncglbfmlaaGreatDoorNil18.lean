/- A message on no state. -/
import Derived.Test.YtiokdncglbfmlaaGreatDoorTypes
import Derived.Test.YtiokdncglbfmlaaGreatDoorFixed18
import Derived.WalkLawsBesides
import Derived.WalkSpells
namespace Go.Proofs.YtiokdncglbfmlaaGreatDoor
open Go Go.RowKit Go.Sm Go.BigFrame
set_option maxRecDepth 100000
set_option linter.unusedVariables false
theorem run_nil (b : ApiBlock) (m : ApiMessage) (w : World) : Calls Tryz.prog 12 #[.pointer none, .agg b.cells, .agg m.cells] w fun e w' => e = .returned (.agg ApiResult.zero.cells) ∧ Below w.heap.size w w' := by
  go_enter Tryz.func12, Tryz.ntmps12
  go_wp2
  refine ret_agg rfl agg33 rfl rfl ?_ ?_ ⟨rfl, ?_⟩
  · simp [go_sem]
  · simp [go_sem]
  · (repeat (first | assumption | exact grew_refl _ | refine grew_alloc ?_ _ | refine grew_more ?_ _ | refine grew_drew ?_ | refine grew_drewN ?_ _ | refine grew_put ?_ _ _ _ (by omega) | refine grew_set ?_ _ _ _ (by omega)))
theorem zero_run : Go.Am.retTrue (Go.Am.mcallD Tryz.prog 40 10 11 [.agg ApiResult.zero.cells, .agg ApiResult.zero.cells] ⟨.leaf, 1000⟩) = true := by kernel_rfl
theorem same_zero (w : World) : Calls Tryz.prog 11 #[.agg ApiResult.zero.cells, .agg ApiResult.zero.cells] w fun e w' => e = .returned (.bool true) ∧ Below w.heap.size w w' := by
  obtain ⟨s, h⟩ := Go.Am.retTrue_some zero_run
  exact Go.Am.run_ground mixed (of_decide_eq_true (by kernel_rfl)) h (by kernel_rfl) rfl w
theorem evmNil_walk (m : ApiMessage) (w : World) : Calls Tryz.prog 3 #[.agg m.cells] w fun e w' => e = .returned (.bool true) ∧ Below w.heap.size w w' := by
  have hF := fixed18
  by_cases h : 2000 < m.f_Data.n
  · have h' : decide ((2000 : Int) < (m.f_Data.n : Int)) = true := decide_eq_true (by omega)
    go_enter Tryz.func3, Tryz.ntmps3
    go_wp2_with (go_at_call 10; refine (hF _).mono ?_; rintro e w' ⟨rfl, hb⟩; obtain ⟨g, rfl⟩ := more_of_grew hb)
    go_ret
    exact ⟨rfl, by (repeat (first | assumption | exact grew_refl _ | refine grew_alloc ?_ _ | refine grew_more ?_ _ | refine grew_drew ?_ | refine grew_drewN ?_ _ | refine grew_put ?_ _ _ _ (by omega) | refine grew_set ?_ _ _ _ (by omega)))⟩
  · have h' : decide ((2000 : Int) < (m.f_Data.n : Int)) = false := decide_eq_false (by omega)
    go_enter Tryz.func3, Tryz.ntmps3
    go_wp2_with (first
      | (go_at_call 10; refine (hF _).mono ?_; rintro e w' ⟨rfl, hb⟩; obtain ⟨g, rfl⟩ := more_of_grew hb)
      | (go_at_call 12; refine (run_nil ApiBlock.zero m _).mono ?_; rintro e w' ⟨rfl, hb⟩; obtain ⟨g2, rfl⟩ := more_of_grew hb)
      | (go_at_call 11; refine (same_zero _).mono ?_; rintro e w' ⟨rfl, hb⟩; obtain ⟨g3, rfl⟩ := more_of_grew hb))
    go_ret
    exact ⟨rfl, by (repeat (first | assumption | exact grew_refl _ | refine grew_alloc ?_ _ | refine grew_more ?_ _ | refine grew_drew ?_ | refine grew_drewN ?_ _ | refine grew_put ?_ _ _ _ (by omega) | refine grew_set ?_ _ _ _ (by omega)))⟩
end Go.Proofs.YtiokdncglbfmlaaGreatDoor
