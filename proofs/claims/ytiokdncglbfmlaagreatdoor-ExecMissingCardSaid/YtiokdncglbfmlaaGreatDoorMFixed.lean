/- A call without arguments, carried out by the abstract machine in an empty store: so it goes in every world. -/
import Derived.Test.YtiokdncglbfmlaaGreatDoorMCodeS
import Derived.Below
namespace Go.Am
open Go Go.RowKit
def retTrue : Option (Value × St) → Bool
  | some (.bool true, _) => true
  | _ => false
theorem retTrue_some {x : Option (Value × St)} (h : retTrue x = true) : ∃ s, x = some (.bool true, s) := by
  unfold retTrue at h
  split at h
  · exact ⟨_, rfl⟩
  · cases h
def beta0 (n : Nat) : Beta := fun g => if g < n then some (g, 0) else none
theorem leaf_rel (P : Program) (n c : Nat) (W : World) : Rel P (beta0 n) ⟨.leaf, c⟩ W :=
  ⟨(fun i o h => by cases h), (fun i j oi oj bi bj h => by cases h)⟩
theorem below_of_step {P : Program} {β β' : Beta} {c : Nat} {s' : St} {w w' : World} (h : Step P β β' ⟨.leaf, c⟩ s' w w') : Below w.heap.size w w' :=
  ⟨h.os, h.tape, h.output, h.size, fun k hk => h.frame k hk fun i o p hi => by cases hi⟩
/-- A call on values without names. -/
theorem run_ground {P : Program} (hmix : P.follows .mixedOrders = true) {F d f c : Nat} {args : List Value} {v : Value} {s' : St} (hc : P.globals.size ≤ c) (h : mcallD P F d f args ⟨.leaf, c⟩ = some (v, s')) (ha : groundL args = true) (hv : ground v = true) (W : World) :
    Calls P f ⟨args⟩ W fun e w' => e = .returned v ∧ Below W.heap.size W w' := by
  obtain ⟨_, _, hcall⟩ := callD_ok hmix F d f args ⟨.leaf, c⟩ v s' h (fun _ _ => rfl)
  refine (hcall (beta0 P.globals.size) W args (renL_ground ha) (fun g hg => ⟨0, by simp [beta0, hg]⟩) (leaf_rel P _ c W) (fun i h1 _ => ?_)).mono ?_
  · simp only at h1
    simp only [beta0]
    rw [if_neg (by omega)]
  · rintro e w' ⟨β', v', rfl, h1, h2⟩
    rw [ren_ground hv] at h1
    cases h1
    exact ⟨rfl, below_of_step h2⟩
theorem run_true {P : Program} (hmix : P.follows .mixedOrders = true) {F d f c : Nat} (hc : P.globals.size ≤ c) (h : retTrue (mcallD P F d f [] ⟨.leaf, c⟩) = true) (W : World) :
    Calls P f #[] W fun e w' => e = .returned (.bool true) ∧ Below W.heap.size W w' := by
  obtain ⟨s, h⟩ := retTrue_some h
  exact run_ground hmix hc h rfl rfl W
end Go.Am
