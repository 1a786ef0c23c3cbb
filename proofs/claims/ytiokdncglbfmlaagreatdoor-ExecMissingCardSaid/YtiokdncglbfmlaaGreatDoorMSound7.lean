/- Tests against nil, conversions, assertions, calls. -/
import Derived.Test.YtiokdncglbfmlaaGreatDoorMSound6
import Derived.Laws.BytesString
namespace Go.Am
open Go
section
variable {P : Program} {β : Beta} {s : St} {w : World}
section
variable {t : TypeId} (d : Nat) (w : World)
theorem eq_p1 {e : TypeId} (hu : P.underlying t = some (.pointer e)) (b : Option Addr) : (Op.equalIn (d + 1) t (.pointer none) (.pointer b)).run P w = .ok b.isNone w := by
  simp [Op.equalIn, run_under hu]
theorem eq_p2 {e : TypeId} (hu : P.underlying t = some (.pointer e)) (a : Addr) : (Op.equalIn (d + 1) t (.pointer (some a)) (.pointer none)).run P w = .ok false w := by
  simp [Op.equalIn, run_under hu]
theorem eq_p3 {e : TypeId} (hu : P.underlying t = some (.pointer e)) {ie : TypeInfo} (hi : P.info? e = some ie) (h0 : ie.size ≠ 0) (b o o' : Nat) : (Op.equalIn (d + 1) t (.pointer (some ⟨b, o, none⟩)) (.pointer (some ⟨b, o', none⟩))).run P w = .ok (o.beq o') w := by
  have : ((⟨b, o, none⟩ : Addr) == ⟨b, o', none⟩) = o.beq o' := by
    by_cases h : o = o'
    · subst h; rw [Nat.beq_refl]; simp
    · rw [nbeq_false h]; simp [h]
  simp only [Op.equalIn, Sem.run_bind, run_under hu, Result.andThen_ok, run_size hi]
  rw [if_pos h0]
  simp only [sameAddr, BEq.rfl, if_true, Sem.run_pure, this]
theorem eq_s1 {e : TypeId} (hu : P.underlying t = some (.slice e)) (n c m k : Nat) (b : Option Addr) : (Op.equalIn (d + 1) t (.slice none n c) (.slice b m k)).run P w = .ok b.isNone w := by
  simp [Op.equalIn, run_under hu]
theorem eq_s2 {e : TypeId} (hu : P.underlying t = some (.slice e)) (n c m k : Nat) (b : Addr) : (Op.equalIn (d + 1) t (.slice (some b) n c) (.slice none m k)).run P w = .ok false w := by
  simp [Op.equalIn, run_under hu]
theorem eq_m1 {e f : TypeId} (hu : P.underlying t = some (.map e f)) (b : Option Nat) : (Op.equalIn (d + 1) t (.map none) (.map b)).run P w = .ok b.isNone w := by
  simp [Op.equalIn, run_under hu]
theorem eq_m2 {e f : TypeId} (hu : P.underlying t = some (.map e f)) (b : Nat) : (Op.equalIn (d + 1) t (.map (some b)) (.map none)).run P w = .ok false w := by
  simp [Op.equalIn, run_under hu]
theorem eq_f1 {a b : Array TypeId} {v : Bool} (hu : P.underlying t = some (.func a b v)) : (Op.equalIn (d + 1) t .nilFunc .nilFunc).run P w = .ok true w := by
  simp [Op.equalIn, run_under hu]
theorem eq_f2 {a b : Array TypeId} {v : Bool} (hu : P.underlying t = some (.func a b v)) (f : Fn) (x y : Array Value) : (Op.equalIn (d + 1) t .nilFunc (.func f x y)).run P w = .ok false w := by
  simp [Op.equalIn, run_under hu]
theorem eq_f3 {a b : Array TypeId} {v : Bool} (hu : P.underlying t = some (.func a b v)) (f : Fn) (x y : Array Value) : (Op.equalIn (d + 1) t (.func f x y) .nilFunc).run P w = .ok false w := by
  simp [Op.equalIn, run_under hu]
theorem eq_i1 {a : Array (String × TypeId)} (hu : P.underlying t = some (.interface a)) (u : TypeId) (v : Value) : (Op.equalIn (d + 1) t .nilIface (.iface u v)).run P w = .ok false w := by
  simp [Op.equalIn, run_under hu]
theorem eq_i2 {a : Array (String × TypeId)} (hu : P.underlying t = some (.interface a)) (u : TypeId) (v : Value) : (Op.equalIn (d + 1) t (.iface u v) .nilIface).run P w = .ok false w := by
  simp [Op.equalIn, run_under hu]
end
theorem equal_run {t : TypeId} {x y : Value} {b : Bool} (h : ∀ d, (Op.equalIn (d + 1) t x y).run P w = .ok b w) : (Op.equal t x y).run P w = .ok b w := h 9999
theorem ren_func_inv {f : Fn} {a c : Array Value} {x' : Value} (h : ren β (.func f a c) = some x') : ∃ a' c', x' = .func f a' c' ∧ renL β a.toList = some a'.toList ∧ renL β c.toList = some c'.toList := by
  cases f <;> simp only [ren, Option.bind_eq_some_iff, Option.map_eq_some_iff, reduceCtorEq] at h <;>
    (obtain ⟨a', h1, c', h2, rfl⟩ := h; exact ⟨a', c', rfl, renA_iff.1 h1, renA_iff.1 h2⟩)
theorem ren_iface_inv {t : TypeId} {v x' : Value} (h : ren β (.iface t v) = some x') : ∃ v', x' = .iface t v' ∧ ren β v = some v' := by
  simp only [ren, Option.map_eq_some_iff] at h
  obtain ⟨v', h1, rfl⟩ := h
  exact ⟨v', rfl, h1⟩
/-- What the test of two values looks at first. -/
inductive Shy : Value → Value → Prop
  | p (a b) : Shy (.pointer a) (.pointer b)
  | s (a n c b m k) : Shy (.slice a n c) (.slice b m k)
  | m (a b) : Shy (.map a) (.map b)
  | f1 : Shy .nilFunc .nilFunc
  | f2 (f x y) : Shy .nilFunc (.func f x y)
  | f3 (f x y) : Shy (.func f x y) .nilFunc
  | i1 (u v) : Shy .nilIface (.iface u v)
  | i2 (u v) : Shy (.iface u v) .nilIface
theorem mnilEq_sound {t : TypeId} {x y x' y' : Value} {b : Bool} (h : mnilEq P t x y = some b) (hx : ren β x = some x') (hy : ren β y = some y') (w : World) : (Op.equal t x' y').run P w = .ok b w ∧ Shy x' y' := by
  unfold mnilEq at h
  split at h
  · rename_i e b hu
    cases h
    simp only [ren, Option.some.injEq] at hx
    subst hx
    rcases b with _ | ⟨i, o, _ | sp⟩
    · simp only [ren, Option.some.injEq] at hy; subst hy
      exact ⟨equal_run fun d => eq_p1 d w hu none, .p _ _⟩
    · obtain ⟨p, _, rfl⟩ := ren_ptr_inv hy
      exact ⟨equal_run fun d => eq_p1 d w hu _, .p _ _⟩
    · cases hy
  · rename_i e a hne hu
    cases h
    simp only [ren, Option.some.injEq] at hy
    subst hy
    rcases a with _ | ⟨i, o, _ | sp⟩
    · exact absurd rfl hne
    · obtain ⟨p, _, rfl⟩ := ren_ptr_inv hx
      exact ⟨equal_run fun d => eq_p2 d w hu _, .p _ _⟩
    · cases hx
  · rename_i e i o i' o' hu
    split at h
    · rename_i ie hi
      obtain ⟨hc, h⟩ := bif_none h
      cases h
      obtain ⟨h0, hb⟩ := andb hc
      have h0 := nbeq_ne h0
      obtain rfl := beq_eq hb
      obtain ⟨p, hp, rfl⟩ := ren_ptr_inv hx
      obtain ⟨q, hq, rfl⟩ := ren_ptr_inv hy
      rw [hp] at hq
      cases hq
      exact ⟨equal_run fun d => eq_p3 d w hu hi h0 _ _ _, .p _ _⟩
    · cases h
  · rename_i e n c b m k hu
    cases h
    simp only [ren, Option.some.injEq] at hx
    subst hx
    rcases b with _ | ⟨i, o, _ | sp⟩
    · simp only [ren, Option.some.injEq] at hy; subst hy
      exact ⟨equal_run fun d => eq_s1 d w hu _ _ _ _ none, .s _ _ _ _ _ _⟩
    · obtain ⟨p, c', _, _, rfl⟩ := ren_slice_inv hy
      exact ⟨equal_run fun d => eq_s1 d w hu _ _ _ _ _, .s _ _ _ _ _ _⟩
    · cases hy
  · rename_i e a n c m k hne hu
    cases h
    simp only [ren, Option.some.injEq] at hy
    subst hy
    rcases a with _ | ⟨i, o, _ | sp⟩
    · exfalso; simp at hne
    · obtain ⟨p, c', _, _, rfl⟩ := ren_slice_inv hx
      exact ⟨equal_run fun d => eq_s2 d w hu _ _ _ _ _, .s _ _ _ _ _ _⟩
    · cases hx
  · rename_i e f b hu
    cases h
    simp only [ren, Option.some.injEq] at hx
    subst hx
    rcases b with _ | i
    · simp only [ren, Option.some.injEq] at hy; subst hy
      exact ⟨equal_run fun d => eq_m1 d w hu none, .m _ _⟩
    · obtain ⟨p, _, rfl⟩ := ren_map_inv hy
      exact ⟨equal_run fun d => eq_m1 d w hu _, .m _ _⟩
  · rename_i e f a hne hu
    cases h
    simp only [ren, Option.some.injEq] at hy
    subst hy
    rcases a with _ | i
    · exact absurd rfl hne
    · obtain ⟨p, _, rfl⟩ := ren_map_inv hx
      exact ⟨equal_run fun d => eq_m2 d w hu _, .m _ _⟩
  · rename_i a b c hu
    cases h
    simp only [ren, Option.some.injEq] at hx hy
    subst hx; subst hy
    exact ⟨equal_run fun d => eq_f1 d w hu, .f1⟩
  · rename_i a b c f x y hu
    cases h
    simp only [ren, Option.some.injEq] at hx
    subst hx
    obtain ⟨a', c', rfl, _, _⟩ := ren_func_inv hy
    exact ⟨equal_run fun d => eq_f2 d w hu _ _ _, .f2 _ _ _⟩
  · rename_i a b c f x y hu
    cases h
    simp only [ren, Option.some.injEq] at hy
    subst hy
    obtain ⟨a', c', rfl, _, _⟩ := ren_func_inv hx
    exact ⟨equal_run fun d => eq_f3 d w hu _ _ _, .f3 _ _ _⟩
  · rename_i a u v hu
    cases h
    simp only [ren, Option.some.injEq] at hx
    subst hx
    obtain ⟨v', rfl, _⟩ := ren_iface_inv hy
    exact ⟨equal_run fun d => eq_i1 d w hu _ _, .i1 _ _⟩
  · rename_i a u v hu
    cases h
    simp only [ren, Option.some.injEq] at hy
    subst hy
    obtain ⟨v', rfl, _⟩ := ren_iface_inv hx
    exact ⟨equal_run fun d => eq_i2 d w hu _ _, .i2 _ _⟩
  · cases h
theorem mbin_sound {op : BinOp} {t : TypeId} {p q : Operand} {x y v x' y' : Value} (h : mbin P op t x y = some v) (hx : ren β x = some x') (hy : ren β y = some y') (w : World) :
    ∃ v', ren β v = some v' ∧ (do eqGuard op t p q x' y'; binOp op t x' y' : Sem Value).run P w = .ok v' w := by
  unfold mbin at h
  split at h
  · simp only [Option.map_eq_some_iff] at h
    obtain ⟨b, h, rfl⟩ := h
    obtain ⟨hr, hs⟩ := mnilEq_sound h hx hy w
    refine ⟨.bool b, rfl, ?_⟩
    cases hs <;> simp only [eqGuard, binOp, Sem.run_bind, Sem.run_pure, Result.andThen_ok, hr, Bool.not_true, Bool.false_eq_true, if_false, pure_bind]
  · simp only [Option.map_eq_some_iff] at h
    obtain ⟨b, h, rfl⟩ := h
    obtain ⟨hr, hs⟩ := mnilEq_sound h hx hy w
    refine ⟨.bool !b, rfl, ?_⟩
    cases hs <;> simp only [eqGuard, binOp, Sem.run_bind, Sem.run_pure, Result.andThen_ok, hr, Bool.not_true, Bool.false_eq_true, if_false, pure_bind]
  · cases h
end
end Go.Am
