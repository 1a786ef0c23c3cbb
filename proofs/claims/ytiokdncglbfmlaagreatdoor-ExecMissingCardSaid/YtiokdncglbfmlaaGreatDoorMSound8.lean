/- Conversions, assertions, calls; all operations. -/
import Derived.Test.YtiokdncglbfmlaaGreatDoorMSound7
namespace Go.Am
open Go
section
variable {P : Program} {β : Beta} {s : St} {w : World}
theorem bytesOf_spec : ∀ {l : List Value} {r : List UInt8}, bytesOf l = some r → groundL l = true ∧ ∃ ns : List Int, l = ns.map (Value.int .u8) ∧ r = ns.map fun n => UInt8.ofNat n.toNat
  | [], r, h => by simp only [bytesOf, Option.some.injEq] at h; subst h; exact ⟨rfl, [], rfl, rfl⟩
  | v :: l, r, h => by
    cases v with
    | int k n =>
      cases k <;> simp only [bytesOf, Option.map_eq_some_iff, reduceCtorEq] at h
      obtain ⟨r', h, rfl⟩ := h
      obtain ⟨hg, ns, rfl, rfl⟩ := bytesOf_spec h
      exact ⟨by simp [groundL, ground, hg], n :: ns, rfl, rfl⟩
    | _ => cases h
theorem fold_push : ∀ (ns : List Int) (b : ByteArray), ns.foldl (fun (r : ByteArray) n => r.push (UInt8.ofNat n.toNat)) b = ⟨⟨b.data.toList ++ ns.map fun n => UInt8.ofNat n.toNat⟩⟩
  | [], b => by simp
  | n :: ns, b => by
    rw [List.foldl_cons, fold_push ns]
    simp [ByteArray.push]
theorem mconvert_sound {src dst : TypeId} {x v x' : Value} {s' : St} (h : mconvert P src dst x s = some (v, s')) (hx : ren β x = some x') (hR : Rel P β s w) : s' = s ∧ ∃ v', ren β v = some v' ∧ (convert src dst x').run P w = .ok v' w := by
  unfold mconvert at h
  split at h
  · rename_i e a n c hs hd
    split at h
    · rename_i he
      simp only [Option.bind_eq_some_iff, Option.map_eq_some_iff, Prod.mk.injEq] at h
      obtain ⟨l, hl, r, hr, rfl, rfl⟩ := h
      refine ⟨rfl, _, rfl, ?_⟩
      obtain ⟨hg, ns, rfl, rfl⟩ := bytesOf_spec hr
      obtain ⟨l', h1, h2, h3⟩ := mcells_sound (P := P) hl hx hR
      rw [renL_ground hg] at h1
      cases h1
      rcases a with _ | ⟨b, o, _ | sp⟩
      · simp only [ren, Option.some.injEq] at hx
        subst hx
        rw [run_convert_bytes_string w src dst e none n c hs he hd]
        simp only [mcells, Option.some.injEq] at hl
        cases ns with
        | cons n ns => cases hl
        | nil =>
        simp only [Conv.bytesToString, Sem.run_pure]
        rfl
      · obtain ⟨p, c', _, _, rfl⟩ := ren_slice_inv hx
        rw [run_convert_bytes_string w src dst e _ n c' hs he hd]
        simp only [Builtin.firstCells, Nat.mul_one] at h3
        rw [run_bytesToString w _ n c' ns h3, fold_push]
        simp
      · cases hx
    · cases h
  · cases h
theorem mtypeAssert_sound {t xt : TypeId} {x v x' : Value} {ok : Bool} (h : mtypeAssert P x t ok = some v) (hx : ren β x = some x') (w : World) : ∃ v', ren β v = some v' ∧ (Instr.typeAssert x' xt t ok).run P w = .ok v' w := by
  unfold mtypeAssert at h
  split at h
  · rename_i want u y hu
    split at h
    · rename_i ti hi
      obtain ⟨hm, h⟩ := bif_none h
      cases h
      obtain ⟨y', rfl, hy⟩ := ren_iface_inv hx
      have hm' : Instr.missingMethod want ti.methods = none := by simpa using hm
      cases ok
      · refine ⟨_, hx, ?_⟩
        simp only [Instr.typeAssert, Sem.run_bind, run_under hu, Result.andThen_ok, run_info hi, hm', Sem.run_pure]
        rfl
      · refine ⟨.tuple #[.iface u y', .bool true], by simp [ren, renA, renL, hy], ?_⟩
        simp only [Instr.typeAssert, Sem.run_bind, run_under hu, Result.andThen_ok, run_info hi, hm', Sem.run_pure]
        rfl
    · cases h
  · cases h
  · rename_i d u y hne hu
    obtain ⟨y', rfl, hy⟩ := ren_iface_inv hx
    have hd : ∀ a, d ≠ .interface a := fun a e => by subst e; exact hne a rfl
    have h_ := bif_some h; clear h; rcases h_ with ⟨ht, h⟩ | ⟨ht, h⟩
    · obtain rfl := beq_eq ht
      cases h
      cases ok
      · refine ⟨y', hy, ?_⟩
        cases d <;> first
          | exact absurd rfl (hd _)
          | (simp only [Instr.typeAssert, Sem.run_bind, run_under hu, Result.andThen_ok, if_true, Sem.run_pure]; rfl)
      · refine ⟨.tuple #[y', .bool true], by simp [ren, renA, renL, hy], ?_⟩
        cases d <;> first
          | exact absurd rfl (hd _)
          | (simp only [Instr.typeAssert, Sem.run_bind, run_under hu, Result.andThen_ok, if_true, Sem.run_pure])
    · have h_ := bif_none h; clear h; obtain ⟨hok, h⟩ := h_
      subst hok
      simp only [Option.map_eq_some_iff] at h
      obtain ⟨z, hz, rfl⟩ := h
      obtain ⟨it, _, _, hg, hzr⟩ := mzero_sound hz w
      have hne' : u ≠ t := by
        rintro rfl
        rw [Nat.beq_refl] at ht
        cases ht
      refine ⟨.tuple #[z, .bool false], by simp [ren, renA, renL, ren_ground hg], ?_⟩
      cases d <;> first
        | exact absurd rfl (hd _)
        | (simp only [Instr.typeAssert, Sem.run_bind, run_under hu, Result.andThen_ok, hne', if_false, if_true, hzr, Sem.run_pure])
  · cases h
theorem callFunc_enter {f : FuncId} (h : enterable P f = true) (args : Array Value) (w : World) : (callFunc f args).run P w = .ok (.enter f args) w := by
  unfold enterable at h
  split at h
  · rename_i fn hf
    obtain ⟨h1, h2⟩ := andb h
    have h2' : (fn.name == "runtime.NumGoroutine") = false := by simpa using h2
    have h1' : fn.body.isNone = false := by
      cases hb : fn.body <;> simp_all
    simp only [callFunc, Sem.run_bind, run_program, Result.andThen_ok, hf, h2', h1', Bool.false_eq_true, if_false, Sem.run_pure]
  · cases h
theorem menter_sound {f : FuncId} {args : List Value} {r : AN} (h : menter P f args = some r) {args' : Array Value} (ha : renL β args = some args'.toList) (w : World) : ∃ nx, renN β r nx ∧ (callFunc f args').run P w = .ok nx w := by
  unfold menter at h
  obtain ⟨he, h⟩ := bif_none h
  cases h
  exact ⟨.enter f args', ⟨args'.toList, by simp, ha⟩, callFunc_enter he _ w⟩
theorem minvoke_sound {t : TypeId} {v v' : Value} {name : String} {args : List Value} {r : AN} (h : minvoke P t v name args = some r) {args' : Array Value} (hv : ren β v = some v') (ha : renL β args = some args'.toList) (w : World) :
    ∃ nx, renN β r nx ∧ (callMethod (.iface t v') name args').run P w = .ok nx w := by
  have hm : ∀ {f : FuncId} {b : Bool}, methodOf P t name = some (f, b) → ∃ ti m, P.info? t = some ti ∧ ti.methods.find? (·.name == name) = some m ∧ m.path.toList = [] ∧ m.func = some (f, b) := by
    intro f b hf
    unfold methodOf at hf
    split at hf
    · rename_i ti hi
      split at hf
      · rename_i m hm
        obtain ⟨hp, hf⟩ := bif_none hf
        refine ⟨ti, m, hi, hm, ?_, hf⟩
        have : m.path = #[] := by simpa using hp
        rw [this]
      · cases hf
    · cases hf
  obtain ⟨n, hn⟩ : ∃ n, P.types.size + Made.depth = n + 1 := ⟨P.types.size + Made.depth - 1, (by have hdp : 0 < Made.depth := (by decide); omega)⟩
  unfold minvoke at h
  split at h
  · rename_i f e hf hu
    obtain ⟨ti, m, h1, h2, h3, h4⟩ := hm hf
    obtain ⟨nx, h5, h6⟩ := menter_sound (args' := #[v'] ++ args') h (by simpa using renL_cons hv ha) w
    refine ⟨nx, h5, ?_⟩
    simp only [callMethod, Sem.run_bind, run_program, Result.andThen_ok, hn, method, run_info h1, h2, h3, follow, Sem.run_pure, h4, receiverAt, run_under hu, Place.get, h6]
  · rename_i f d hf hu
    obtain ⟨ti, m, h1, h2, h3, h4⟩ := hm hf
    obtain ⟨hd, h⟩ := bif_none' h
    obtain ⟨nx, h5, h6⟩ := menter_sound (args' := #[v'] ++ args') h (by simpa using renL_cons hv ha) w
    refine ⟨nx, h5, ?_⟩
    simp only [callMethod, Sem.run_bind, run_program, Result.andThen_ok, hn, method, run_info h1, h2, h3, follow, Sem.run_pure, h4, receiverAt, run_under hu]
    cases d <;> first
      | (simp only [Place.get, Sem.run_pure, Result.andThen_ok, h6]; done)
      | cases hd
  · cases h
end
end Go.Am
