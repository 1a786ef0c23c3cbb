/- A transaction where nothing is known, and on no world. -/
import Derived.Test.YtiokdncglbfmlaaGreatDoorTypes20
import Derived.Test.YtiokdncglbfmlaaGreatDoorGreat
import Derived.Test.YtiokdncglbfmlaaGreatDoorFixed20
namespace Go.Proofs.YtiokdncglbfmlaaGreatDoor
open Go Go.RowKit Go.Sm Go.BigFrame
set_option maxRecDepth 100000
set_option linter.unusedVariables false
theorem none_account (a : Ints 20) (w : World) : Calls Tryz.prog 352 #[.agg #[], .agg (enc .u8 a)] w fun e w' => e = .returned (.tuple #[.agg ({ ApiAccount.zero with f_Address := a } : ApiAccount).cells, .bool false]) ∧ Below w.heap.size w w' := by
  go_enter Tryz.func352, Tryz.ntmps352
  go_wp2
  refine ret_agg_tmp rfl agg78 rfl rfl rfl ?_ ?_ ⟨rfl, ?_⟩
  · simp [go_sem]
  · simp [go_sem]
  · (repeat (first | assumption | exact grew_refl _ | refine grew_alloc ?_ _ | refine grew_more ?_ _ | refine grew_drew ?_ | refine grew_drewN ?_ _ | refine grew_put ?_ _ _ _ (by omega) | refine grew_set ?_ _ _ _ (by omega)))
theorem check_nil (t : ApiTx) (b : ApiBlock) (w : World) : Calls Tryz.prog 46 #[.agg t.cells, .pointer none, .agg b.cells] w fun e w' => e = .returned (.int .i64 1) ∧ Below w.heap.size w w' := by
  go_enter Tryz.func46, Tryz.ntmps46
  go_wp2
  go_ret
  exact ⟨rfl, by (repeat (first | assumption | exact grew_refl _ | refine grew_alloc ?_ _ | refine grew_more ?_ _ | refine grew_drew ?_ | refine grew_drewN ?_ _ | refine grew_put ?_ _ _ _ (by omega) | refine grew_set ?_ _ _ _ (by omega)))⟩
theorem estimate_nil (b : ApiBlock) (t : ApiTx) (w : World) : Calls Tryz.prog 15 #[.nilIface, .agg b.cells, .agg t.cells] w fun e w' => e = .returned (.tuple #[.int .u64 0, .int .i64 15]) ∧ Below w.heap.size w w' := by
  go_enter Tryz.func15, Tryz.ntmps15
  go_wp2
  refine bodyPost_ret (results_tmp2 rfl _ _ _) rfl ⟨rfl, ?_⟩
  (repeat (first | assumption | exact grew_refl _ | refine grew_alloc ?_ _ | refine grew_more ?_ _ | refine grew_drew ?_ | refine grew_drewN ?_ _ | refine grew_put ?_ _ _ _ (by omega) | refine grew_set ?_ _ _ _ (by omega)))
@[go_sem] theorem method_none (w : World) : (method 485 47 (.agg #[]) "Account").run Tryz.prog w = .ok (352, .agg #[]) w := by kernel_rfl
theorem estimate_none (b : ApiBlock) (t : ApiTx) (w : World) : Calls Tryz.prog 15 #[.iface 47 (.agg #[]), .agg b.cells, .agg t.cells] w fun e w' => e = .returned (.tuple #[.int .u64 0, .int .i64 15]) ∧ Below w.heap.size w w' := by
  go_enter Tryz.func15, Tryz.ntmps15
  go_wp2_with (go_at_call 352; refine (none_account _ _).mono ?_; rintro e w' ⟨rfl, hb⟩; obtain ⟨g, rfl⟩ := more_of_grew hb)
  refine bodyPost_ret (results_tmp2 rfl _ _ _) rfl ⟨rfl, ?_⟩
  (repeat (first | assumption | exact grew_refl _ | refine grew_alloc ?_ _ | refine grew_more ?_ _ | refine grew_drew ?_ | refine grew_drewN ?_ _ | refine grew_put ?_ _ _ _ (by omega) | refine grew_set ?_ _ _ _ (by omega)))
theorem run_nil20 (b : ApiBlock) (t : ApiTx) (w : World) : Calls Tryz.prog 16 #[.pointer none, .agg b.cells, .agg t.cells] w fun e w' => e = .returned (.tuple #[.agg ApiReceipt.zero.cells, .int .i64 1]) ∧ Below w.heap.size w w' := by
  go_enter Tryz.func16, Tryz.ntmps16
  go_wp2_with (go_at_call 46; refine (check_nil _ _ _).mono ?_; rintro e w' ⟨rfl, hb⟩; obtain ⟨g, rfl⟩ := more_of_grew hb)
  refine ret_agg_tmp rfl agg50 rfl rfl rfl ?_ ?_ ⟨rfl, ?_⟩
  · simp [go_sem]
  · simp [go_sem]
  · (repeat (first | assumption | exact grew_refl _ | refine grew_alloc ?_ _ | refine grew_more ?_ _ | refine grew_drew ?_ | refine grew_drewN ?_ _ | refine grew_put ?_ _ _ _ (by omega) | refine grew_set ?_ _ _ _ (by omega)))
theorem zero_d_run : Go.Am.retTrue (Go.Am.mcallD Tryz.prog 40 10 17 [.agg (enc .i64 (Ints.zero 32))] ⟨.leaf, 1000⟩) = true := by kernel_rfl
theorem zero_d (w : World) : Calls Tryz.prog 17 #[.agg (enc .i64 (Ints.zero 32))] w fun e w' => e = .returned (.bool true) ∧ Below w.heap.size w w' := by
  obtain ⟨s, h⟩ := Go.Am.retTrue_some zero_d_run
  exact Go.Am.run_ground mixed20 (of_decide_eq_true (by kernel_rfl)) h (by kernel_rfl) rfl w
theorem warmAt_alloc {w : World} {s : Sl} (h : WarmAt w s) (o : Obj) : WarmAt (w.alloc o) s := by
  refine ⟨fun hp => ?_⟩
  obtain ⟨b, off, h1, h2, h3⟩ := h.cells hp
  refine ⟨b, off, h1, by simp; omega, fun i hi => ?_⟩
  rw [cellsAt_alloc_lt w o b h2]
  exact h3 i hi
set_option maxHeartbeats 200000 in
theorem execMissing_walk (b : ApiBlock) (t : ApiTx) (w : World) (h : WarmAt w t.f_Warm) : Calls Tryz.prog 4 #[.agg b.cells, .agg t.cells] w fun e w' => e = .returned (.bool true) ∧ Below w.heap.size w w' := by
  have hF := fixed20
  go_enter Tryz.func4, Tryz.ntmps4
  go_wp2_with fail
  go_at_call 13
  refine (great_any t _ (warmAt_alloc (warmAt_alloc h _) _)).mono ?_
  rintro e w' ⟨⟨v, rfl⟩, g, rfl⟩
  clear h
  cases v with
  | true =>
    go_wp2_with (first
    | (go_at_call 14; refine (hF _).mono ?_; rintro e w' ⟨rfl, hb⟩; obtain ⟨g1, rfl⟩ := more_of_grew hb)
    | (go_at_call 15; refine (estimate_none b t _).mono ?_; rintro e w' ⟨rfl, hb⟩; obtain ⟨g2, rfl⟩ := more_of_grew hb)
    | (go_at_call 15; refine (estimate_nil b t _).mono ?_; rintro e w' ⟨rfl, hb⟩; obtain ⟨g2, rfl⟩ := more_of_grew hb)
    | (go_at_call 16; refine (run_nil20 b t _).mono ?_; rintro e w' ⟨rfl, hb⟩; obtain ⟨g3, rfl⟩ := more_of_grew hb)
    | (go_at_call 17; refine (zero_d _).mono ?_; rintro e w' ⟨rfl, hb⟩; obtain ⟨g4, rfl⟩ := more_of_grew hb))
    go_ret
    exact ⟨rfl, by (repeat (first | assumption | exact grew_refl _ | refine grew_alloc ?_ _ | refine grew_more ?_ _ | refine grew_drew ?_ | refine grew_drewN ?_ _ | refine grew_put ?_ _ _ _ (by omega) | refine grew_set ?_ _ _ _ (by omega)))⟩
  | false =>
    go_wp2_with fail
    go_at_call 15
    refine (estimate_none b t _).mono ?_
    rintro e w' ⟨rfl, hb⟩
    obtain ⟨g2, rfl⟩ := more_of_grew hb
    clear hb
    go_wp2_with fail
    go_at_call 15
    refine (estimate_nil b t _).mono ?_
    rintro e w' ⟨rfl, hb⟩
    obtain ⟨g3, rfl⟩ := more_of_grew hb
    clear hb
    go_wp2_with fail
    go_at_call 16
    refine (run_nil20 b t _).mono ?_
    rintro e w' ⟨rfl, hb⟩
    obtain ⟨g4, rfl⟩ := more_of_grew hb
    clear hb
    go_wp2_with fail
    go_at_call 14
    refine (hF _).mono ?_
    rintro e w' ⟨rfl, hb⟩
    obtain ⟨g5, rfl⟩ := more_of_grew hb
    clear hb
    go_wp2_with fail
    go_at_call 17
    refine (zero_d _).mono ?_
    rintro e w' ⟨rfl, hb⟩
    obtain ⟨g6, rfl⟩ := more_of_grew hb
    clear hb
    go_wp2_with fail
    go_ret
    exact ⟨rfl, by (repeat (first | assumption | exact grew_refl _ | refine grew_alloc ?_ _ | refine grew_more ?_ _ | refine grew_drew ?_ | refine grew_drewN ?_ _ | refine grew_put ?_ _ _ _ (by omega) | refine grew_set ?_ _ _ _ (by omega)))⟩
end Go.Proofs.YtiokdncglbfmlaaGreatDoor
