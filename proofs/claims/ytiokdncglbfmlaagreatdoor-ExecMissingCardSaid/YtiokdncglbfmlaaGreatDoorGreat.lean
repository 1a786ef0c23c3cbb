/- More than is gone through? Whatever the answer, it is an answer. -/
import Derived.Test.YtiokdncglbfmlaaGreatDoorTypes20
import Derived.Test.YtiokdncglbfmlaaGreatDoorLaw
import Derived.WalkLawsBesides
import Derived.WalkSpells
import Derived.Lib.Hide
import Derived.Deep.Slices
namespace Go.Proofs.YtiokdncglbfmlaaGreatDoor
open Go Go.RowKit Go.Sm Go.BigFrame
set_option maxRecDepth 100000
set_option linter.unusedVariables false
/-- A slice of warm accounts, as it lies in memory: each has its row of keys. -/
structure WarmAt (w : World) (s : Sl) : Prop where
  cells : 0 < s.n → ∃ b off, s.a = some ⟨b, off, none⟩ ∧ b < w.heap.size ∧ ∀ i, i < s.n → off + i * 21 + 21 ≤ (w.cellsAt b).size ∧ ∃ r : Sl, (w.cellsAt b)[off + i * 21 + 20]? = some (.slice r.a r.n r.c)
set_option maxHeartbeats 1000000 in
theorem great_any (t : ApiTx) (w : World) (h : WarmAt w t.f_Warm) :
    Calls Tryz.prog 13 #[.agg t.cells] w fun e w' => (∃ v, e = .returned (.bool v)) ∧ ∃ g, w' = w.more g := by
  obtain ⟨h2⟩ := h
  by_cases hg : (3000 < t.f_Data.n ∨ 30 < t.f_Warm.n)
  · by_cases hg1 : 3000 < t.f_Data.n
    · have g1 : decide ((3000 : Int) < (t.f_Data.n : Int)) = true := decide_eq_true (by omega)
      go_enter Tryz.func13, Tryz.ntmps13
      go_wp2
      go_ret
      exact ⟨⟨_, rfl⟩, by (refine more_of_grew ?_; (repeat (first | assumption | exact grew_refl _ | refine grew_alloc ?_ _ | refine grew_more ?_ _ | refine grew_drew ?_ | refine grew_drewN ?_ _ | refine grew_put ?_ _ _ _ (by omega) | refine grew_set ?_ _ _ _ (by omega))))⟩
    · have g1 : decide ((3000 : Int) < (t.f_Data.n : Int)) = false := decide_eq_false (by omega)
      have g2 : decide ((30 : Int) < (t.f_Warm.n : Int)) = true := decide_eq_true (by omega)
      go_enter Tryz.func13, Tryz.ntmps13
      go_wp2
      go_ret
      exact ⟨⟨_, rfl⟩, by (refine more_of_grew ?_; (repeat (first | assumption | exact grew_refl _ | refine grew_alloc ?_ _ | refine grew_more ?_ _ | refine grew_drew ?_ | refine grew_drewN ?_ _ | refine grew_put ?_ _ _ _ (by omega) | refine grew_set ?_ _ _ _ (by omega))))⟩
  · have g1 : decide ((3000 : Int) < (t.f_Data.n : Int)) = false := decide_eq_false (by omega)
    have g2 : decide ((30 : Int) < (t.f_Warm.n : Int)) = false := decide_eq_false (by omega)
    go_enter Tryz.func13, Tryz.ntmps13
    go_wp2
    generalize hW1 : (w.alloc (Obj.cells t.cells 41)) = W1
    have HW := Lib.hid hW1
    have hz : w.heap.size < W1.heap.size := by rw [← hW1]; simp
    have hzb : ∀ b, b < w.heap.size → W1.cellsAt b = w.cellsAt b := by intro b hb; rw [← hW1]; simp [go_sem, hb]
    have c3 : W1.cellsAt w.heap.size = t.cells := by rw [← hW1]; simp [go_sem]
    clear hW1
    go_loopw [17] (fun i wr => ∃ k : Nat, k ≤ t.f_Warm.n ∧ i = .int .i64 k ∧ ∃ g, wr = W1.more g) (fun i _ => t.f_Warm.n - (intOf i).toNat)
    case atStart => exact ⟨0, Nat.zero_le _, rfl, by exact ⟨_, same_more _⟩⟩
    case round =>
      obtain ⟨k, hk, rfl, g, rfl⟩ := hrel
      by_cases hlt : k < t.f_Warm.n
      · obtain ⟨b, off, hsa, hb, hcells⟩ := h2 (by omega)
        obtain ⟨hsk, r, hck⟩ := hcells k hlt
        have hzb' := hzb b hb
        have hbW : b < W1.heap.size := by omega
        clear hcells h2
        by_cases hg3 : 30 < r.n
        · have g3 : decide ((30 : Int) < (r.n : Int)) = true := decide_eq_true (by omega)
          go_wp2
          go_ret
          exact ⟨⟨_, rfl⟩, by rw [← HW.out]; (refine more_of_grew ?_; (repeat (first | assumption | exact grew_refl _ | refine grew_alloc ?_ _ | refine grew_more ?_ _ | refine grew_drew ?_ | refine grew_drewN ?_ _ | refine grew_put ?_ _ _ _ (by omega) | refine grew_set ?_ _ _ _ (by omega))))⟩
        · have g3 : decide ((30 : Int) < (r.n : Int)) = false := decide_eq_false (by omega)
          go_wp2
          go_roundw
          case rel => exact ⟨k + 1, by omega, by go_num, by (refine more_of_grew ?_; (repeat (first | assumption | exact grew_refl _ | refine grew_alloc ?_ _ | refine grew_more ?_ _ | refine grew_drew ?_ | refine grew_drewN ?_ _ | refine grew_put ?_ _ _ _ (by omega) | refine grew_set ?_ _ _ _ (by omega))))⟩
          case measure => simp [intOf]; omega
      · go_wp2
        go_ret
        exact ⟨⟨_, rfl⟩, by rw [← HW.out]; (refine more_of_grew ?_; (repeat (first | assumption | exact grew_refl _ | refine grew_alloc ?_ _ | refine grew_more ?_ _ | refine grew_drew ?_ | refine grew_drewN ?_ _ | refine grew_put ?_ _ _ _ (by omega) | refine grew_set ?_ _ _ _ (by omega))))⟩
end Go.Proofs.YtiokdncglbfmlaaGreatDoor
