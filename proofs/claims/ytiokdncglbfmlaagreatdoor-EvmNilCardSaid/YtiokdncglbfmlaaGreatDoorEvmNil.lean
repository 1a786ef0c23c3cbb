/- EvmNil: on no state nothing comes of a message. For every message: the law returns true, and the message reads afterwards as it read before. No condition beside the row's own (the laid tables). -/
import Derived.Test.YtiokdncglbfmlaaGreatDoorRows
import Derived.Test.YtiokdncglbfmlaaGreatDoorTie
import Derived.Test.YtiokdncglbfmlaaGreatDoorCards
import Derived.Test.YtiokdncglbfmlaaGreatDoorNil18
import Derived.Test.YtiokdncglbfmlaaGreatDoorOpens
import Derived.Test.YtiokdncglbfmlaaGreatDoorEvmNilF
import Derived.LaidMore
import Derived.OpenShut
import Derived.Stop.Joined
import Derived.SevenTiedAt
namespace Go.Proofs.YtiokdncglbfmlaaGreatDoor
open Go Go.RowKit Go.ChangeShapes Go.WideShapes Go.ChangeAt Go.Sm
set_option maxRecDepth 100000
theorem door_met (os : Os) (args : Array Value) : laidMetH Tryz.prog Rows.evmNilRow.laid ((World.doorLaid Tryz.prog 400 os).forCall (fun _ _ => 0) ⟨#[], args, []⟩).memory :=
  laidMetH_of_parts3 (fuel := 8) (laidMet_of_run' 8 (by kernel_rfl) (by kernel_rfl)) (by kernel_rfl) (by kernel_rfl)
theorem msg_types : Tryz.prog.cellTypes Tryz.prog.depth 29 = some types_ApiMessage := by kernel_rfl
theorem lifted (os : Os) (started : os.Started) (H : Type) (enc : TypeId × Value → H) :
    ReturnsInHanded {} Tryz.checked os 3 .any (fun w args => (Rows.evmNilSpec.pre enc Tryz.prog Tryz.f3 [] false w args ∧ laidMetH Tryz.prog Rows.evmNilRow.laid w) ∧ sizedMet enc Tryz.prog Tryz.f3 (OpenSpec.ofChange Rows.evmNilSpec) false w args)
      (Rows.evmNilSpec.post enc Tryz.prog Tryz.f3 false true false false) := by
  refine returnsInHanded_of_change_and (C := Tryz.checked) (X := fun w _ => laidMetH Tryz.prog Rows.evmNilRow.laid w) (fun _ _ _ hh h => h.of_heap hh) own started (by kernel_rfl) Tryz.func3
    (ChangeSpec.witness_shaped (enc := enc) (C := Tryz.checked) (os := os) (X := fun w _ => laidMetH Tryz.prog Rows.evmNilRow.laid w) false (World.doorLaid Tryz.prog 400 os) #[.agg ApiMessage.zero.cells] 8 rfl (World.shaped_of_RefB (by kernel_rfl) (by kernel_rfl)) (by kernel_rfl) (by kernel_rfl) (by kernel_rfl) (door_met os _)) ?_
  intro W base args ds gs before hval0 hW _ _ _ _
  have hval : ∀ (j : Nat) t v, Tryz.f3.params[j]? = some t → args[j]? = some v → Value.okWide Tryz.prog W .any base t v := hval0
  have hW' := hW
  obtain ⟨p, q, hA0, hV, rfl, hfz, hnd⟩ := hW
  have hA : DataW.TrodAll enc Tryz.prog W 0 (fun _ => true) true Tryz.f3.params.toList args.toList ds p := hA0
  rw [Tryz.params3] at hA hval
  obtain ⟨v0, d0, rfl, rfl, h0⟩ := trodAll_one hA
  obtain ⟨rfl, rfl⟩ := trodVars_none hV
  obtain ⟨cs, rfl, hcs⟩ := cellsOk_of Tryz.underlying29 rfl msg_types (by kernel_rfl) (of_decide_eq_true (by kernel_rfl)) (hval 0 _ v0 rfl rfl)
  obtain ⟨m, hm⟩ := open_ApiMessage hcs 0 (by kernel_rfl)
  have hsz : cs.size = 72 := hcs.1.trans (by kernel_rfl)
  have hcm : cs = m.cells := by
    have e : cs.extract 0 cs.size = cs := by simp
    rw [hsz] at e
    exact e.symm.trans hm
  subst hcm
  refine (evmNil_walk m W).mono fun e W' ⟨he, hb⟩ => ?_
  subst he
  exact ⟨_, rfl, law_post laidOut rowed slicesOk (by
    rw [Tryz.params3]
    intro t ht
    obtain rfl : t = 29 := by simpa using ht
    exact of_decide_eq_true (by kernel_rfl)) hW' rfl rfl rfl Tryz.underlying4 hb⟩
theorem evmNil_holds : Rows.EvmNilSaid :=
  OpenClaim.holds_of_wide 3 Tryz.f3 rfl rfl rfl rfl rfl rfl rfl ⟨rfl, rfl, rfl, rfl, rfl⟩ rfl rfl rfl rfl rfl evmNil_id Tryz.func3 evmNil_facts
    evmNil_inst evmNil_wrap (fun os started H enc _ => lifted os started H enc)
theorem evmNil_card : Rows.EvmNilCardSaid :=
  Claim7.holds_tied_plain_at .later [] [.data, .data, .data, .data, .data, .data, .data] true (true, "f2608cfccbf4ed797bd49d4e2378b29092e2ab778d5a64f21b512b9c96b55845") false
    evmNil_holds (fun _ h => by cases h) evmNil_byText (fun _ h => by cases h) evmNil_row_tie rfl ⟨rfl, rfl⟩ mainIs rfl
    (fun f fn hf hfn => by
      obtain rfl : f = 3 := (Option.some.inj (evmNil_id.symm.trans hf)).symm
      obtain rfl : fn = Tryz.f3 := (Option.some.inj (Tryz.func3.symm.trans hfn)).symm
      exact ⟨looks, fun j t ht => show Tryz.prog.wantsStandIn t = false by simpa using List.all_eq_true.1 evmNil_stand t (Array.mem_toList_iff.2 (Array.mem_of_getElem? ht))⟩)
    evmNil_goes
end Go.Proofs.YtiokdncglbfmlaaGreatDoor
#print axioms Go.Proofs.YtiokdncglbfmlaaGreatDoor.evmNil_card
