/- ExecMissing: where accounts are not known nothing is estimated; nor is anything done on no world. For every block and transaction: the law returns true, and both read afterwards as they read before. No condition beside the row's own (the laid tables). -/
import Derived.Test.YtiokdncglbfmlaaGreatDoorRows
import Derived.Test.YtiokdncglbfmlaaGreatDoorTie
import Derived.Test.YtiokdncglbfmlaaGreatDoorCards
import Derived.Test.YtiokdncglbfmlaaGreatDoorExec20
import Derived.Test.YtiokdncglbfmlaaGreatDoorOpens20
import Derived.Test.YtiokdncglbfmlaaGreatDoorWarm
import Derived.Test.YtiokdncglbfmlaaGreatDoorExecMissingF
import Derived.LaidMore
import Derived.OpenShut
import Derived.Stop.Joined
import Derived.SevenTiedAt
namespace Go.Proofs.YtiokdncglbfmlaaGreatDoor
open Go Go.RowKit Go.ChangeShapes Go.WideShapes Go.ChangeAt Go.Sm
set_option maxRecDepth 100000
theorem door_met (os : Os) (args : Array Value) : laidMetH Tryz.prog Rows.execMissingRow.laid ((World.doorLaid Tryz.prog 400 os).forCall (fun _ _ => 0) ⟨#[], args, []⟩).memory :=
  laidMetH_of_parts3 (fuel := 8) (laidMet_of_run' 8 (by kernel_rfl) (by kernel_rfl)) (by kernel_rfl) (by kernel_rfl)
theorem block_types : Tryz.prog.cellTypes Tryz.prog.depth 37 = some types_ApiBlock := by kernel_rfl
theorem tx_types : Tryz.prog.cellTypes Tryz.prog.depth 41 = some types_ApiTx := by kernel_rfl
theorem lifted (os : Os) (started : os.Started) (H : Type) (enc : TypeId × Value → H) :
    ReturnsInHanded {} Tryz.checked os 4 .any (fun w args => (Rows.execMissingSpec.pre enc Tryz.prog Tryz.f4 [] false w args ∧ laidMetH Tryz.prog Rows.execMissingRow.laid w) ∧ sizedMet enc Tryz.prog Tryz.f4 (OpenSpec.ofChange Rows.execMissingSpec) false w args)
      (Rows.execMissingSpec.post enc Tryz.prog Tryz.f4 false true false false) := by
  refine returnsInHanded_of_change_and (C := Tryz.checked) (X := fun w _ => laidMetH Tryz.prog Rows.execMissingRow.laid w) (fun _ _ _ hh h => h.of_heap hh) own started (by kernel_rfl) Tryz.func4
    (ChangeSpec.witness_shaped (enc := enc) (C := Tryz.checked) (os := os) (X := fun w _ => laidMetH Tryz.prog Rows.execMissingRow.laid w) false (World.doorLaid Tryz.prog 400 os) #[.agg ApiBlock.zero.cells, .agg ApiTx.zero.cells] 8 rfl (World.shaped_of_RefB (by kernel_rfl) (by kernel_rfl)) (by kernel_rfl) (by kernel_rfl) (by kernel_rfl) (door_met os _)) ?_
  intro W base args ds gs before hval0 hW _ _ _ _
  have hval : ∀ (j : Nat) t v, Tryz.f4.params[j]? = some t → args[j]? = some v → Value.okWide Tryz.prog W .any base t v := hval0
  have hW' := hW
  obtain ⟨p, q, hA0, hV, rfl, hfz, hnd⟩ := hW
  have hA : DataW.TrodAll enc Tryz.prog W 0 (fun _ => true) true Tryz.f4.params.toList args.toList ds p := hA0
  rw [Tryz.params4] at hA hval
  obtain ⟨v0, v1, d0, d1, p0, p1, rfl, rfl, _, h0, h1⟩ := trodAll_two hA
  obtain ⟨rfl, rfl⟩ := trodVars_none hV
  obtain ⟨cs0, rfl, hcs0⟩ := cellsOk_of Tryz.underlying37 rfl block_types (by kernel_rfl) (of_decide_eq_true (by kernel_rfl)) (hval 0 _ v0 rfl rfl)
  obtain ⟨cs1, rfl, hcs1⟩ := cellsOk_of Tryz.underlying41 rfl tx_types (by kernel_rfl) (of_decide_eq_true (by kernel_rfl)) (hval 1 _ v1 rfl rfl)
  obtain ⟨b, hb0⟩ := open_ApiBlock hcs0 0 (by kernel_rfl)
  obtain ⟨t, ht0⟩ := open_ApiTx hcs1 0 (by kernel_rfl)
  have hs0 : cs0.size = 33 := hcs0.1.trans (by kernel_rfl)
  have hs1 : cs1.size = 57 := hcs1.1.trans (by kernel_rfl)
  have hcb : cs0 = b.cells := by
    have e : cs0.extract 0 cs0.size = cs0 := by simp
    rw [hs0] at e
    exact e.symm.trans hb0
  have hct : cs1 = t.cells := by
    have e : cs1.extract 0 cs1.size = cs1 := by simp
    rw [hs1] at e
    exact e.symm.trans ht0
  subst hcb
  subst hct
  refine (execMissing_walk b t W (warmAt_of h1)).mono fun e W' ⟨he, hb⟩ => ?_
  subst he
  exact ⟨_, rfl, law_post laidOut rowed slicesOk (by
    rw [Tryz.params4]
    intro t ht
    have h2 : t = 37 ∨ t = 41 := by simpa using ht
    rcases h2 with rfl | rfl <;> exact of_decide_eq_true (by kernel_rfl)) hW' rfl rfl rfl Tryz.underlying4 hb⟩
theorem execMissing_holds : Rows.ExecMissingSaid :=
  OpenClaim.holds_of_wide 4 Tryz.f4 rfl rfl rfl rfl rfl rfl rfl ⟨rfl, rfl, rfl, rfl, rfl⟩ rfl rfl rfl rfl rfl execMissing_id Tryz.func4 execMissing_facts
    execMissing_inst execMissing_wrap (fun os started H enc _ => lifted os started H enc)
theorem execMissing_card : Rows.ExecMissingCardSaid :=
  Claim7.holds_tied_plain_at .later [] [.data, .data, .data, .data, .data, .data, .data] true (true, "f2608cfccbf4ed797bd49d4e2378b29092e2ab778d5a64f21b512b9c96b55845") false
    execMissing_holds (fun _ h => by cases h) execMissing_byText (fun _ h => by cases h) execMissing_row_tie rfl ⟨rfl, rfl⟩ mainIs rfl
    (fun f fn hf hfn => by
      obtain rfl : f = 4 := (Option.some.inj (execMissing_id.symm.trans hf)).symm
      obtain rfl : fn = Tryz.f4 := (Option.some.inj (Tryz.func4.symm.trans hfn)).symm
      exact ⟨looks, fun j t ht => show Tryz.prog.wantsStandIn t = false by simpa using List.all_eq_true.1 execMissing_stand t (Array.mem_toList_iff.2 (Array.mem_of_getElem? ht))⟩)
    execMissing_goes
end Go.Proofs.YtiokdncglbfmlaaGreatDoor
#print axioms Go.Proofs.YtiokdncglbfmlaaGreatDoor.execMissing_card
