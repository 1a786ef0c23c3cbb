/- All operations of the abstract machine. -/
import Derived.Test.YtiokdncglbfmlaaGreatDoorMSound8
namespace Go.Am
open Go
section
variable {P : Program} {β : Beta} {s : St} {w : World} {ev : Operand → Option Value} {ρ : Operand → Value}
/-- What an operation of the model is, to the abstract one. -/
def Sound (P : Program) (β : Beta) (s s' : St) (w : World) (r : AN) (m : Sem Next) : Prop := ∃ β' nx w', m.run P w = .ok nx w' ∧ renN β' r nx ∧ Step P β β' s s' w w'
theorem sound_val {v : Value} {m : Sem Value} (h : ∃ v', ren β v = some v' ∧ m.run P w = .ok v' w) (hR : Rel P β s w) : Sound P β s s w (.val v) (do pure (.value (← m))) := by
  obtain ⟨v', h1, h2⟩ := h
  exact ⟨β, .value v', w, by simp only [Sem.run_bind, h2, Result.andThen_ok, Sem.run_pure], ⟨v', rfl, h1⟩, step_refl hR⟩
theorem sound_new {v : Value} {s' : St} {m : Sem Value} (h : ∃ β' v' w', ren β' v = some v' ∧ m.run P w = .ok v' w' ∧ Step P β β' s s' w w') : Sound P β s s' w (.val v) (do pure (.value (← m))) := by
  obtain ⟨β', v', w', h1, h2, h3⟩ := h
  exact ⟨β', .value v', w', by simp only [Sem.run_bind, h2, Result.andThen_ok, Sem.run_pure], ⟨v', rfl, h1⟩, h3⟩
theorem sound_skip {s' : St} {m : Sem Unit} (h : ∃ w', m.run P w = .ok () w' ∧ Step P β β s s' w w') : Sound P β s s' w .skip (do m; pure .skip) := by
  obtain ⟨w', h2, h3⟩ := h
  exact ⟨β, .skip, w', by simp only [Sem.run_bind, h2, Result.andThen_ok, Sem.run_pure], rfl, h3⟩
theorem renL1 {a : Value} {L : List Value} (h : renL β [a] = some L) : ∃ a', L = [a'] ∧ ren β a = some a' := by
  simp only [renL, Option.bind_eq_some_iff, Option.map_some, Option.some.injEq] at h
  obtain ⟨x, h1, rfl⟩ := h
  exact ⟨x, rfl, h1⟩
theorem renL2 {a b : Value} {L : List Value} (h : renL β [a, b] = some L) : ∃ a' b', L = [a', b'] ∧ ren β a = some a' ∧ ren β b = some b' := by
  simp only [renL, Option.bind_eq_some_iff, Option.map_eq_some_iff] at h
  obtain ⟨x, h1, y, ⟨z, h2, u, h3, rfl⟩, rfl⟩ := h
  cases h3
  exact ⟨x, z, rfl, h1, h2⟩
theorem toList_eq {α : Type} {a : Array α} {l : List α} (h : a.toList = l) : a = ⟨l⟩ := by
  apply Array.ext'; exact h
theorem args_list {l : List Operand} {a : Array Operand} (h : a.toList = l) : a.map ρ = ⟨l.map ρ⟩ := by
  apply Array.ext'; simp [h]
theorem mcall_sound (hev : ∀ x v, ev x = some v → ren β v = some (ρ x)) {c : Call} {ty : TypeId} {r : AN} {s' : St} (h : mcall P ev c s = some (r, s')) (hR : Rel P β s w) (hf : Fresh β s.c s'.c) :
    Sound P β s s' w r (do let d ← resolve ρ c ty; invoke d.target d.args) := by
  unfold mcall at h
  split at h
  · rename_i f hcal
    simp only [Option.bind_eq_some_iff] at h
    obtain ⟨fv, h1, args, h2, h⟩ := h
    have ha := evAll_sound hev h2
    have hfv := hev _ _ h1
    split at h
    · rename_i k first caps
      simp only [Option.map_eq_some_iff, Prod.mk.injEq] at h
      obtain ⟨r', hm, rfl, rfl⟩ := h
      obtain ⟨a', c', hfv', ha1, ha2⟩ := ren_func_inv hfv
      obtain ⟨nx, h3, h4⟩ := menter_sound (args' := a' ++ c.args.map ρ ++ c') hm (by simpa using renL_append (renL_append ha1 ha) ha2) w
      refine ⟨β, nx, w, ?_, h3, step_refl hR⟩
      simp only [resolve, hcal, hfv', Deferred.ofValue, Sem.run_bind, Sem.run_pure, Result.andThen_ok, invoke, h4]
    · cases h
  · rename_i q name hcal
    simp only [Option.bind_eq_some_iff] at h
    obtain ⟨fv, h1, args, h2, h⟩ := h
    have ha := evAll_sound hev h2
    have hfv := hev _ _ h1
    split at h
    · rename_i t v
      simp only [Option.map_eq_some_iff, Prod.mk.injEq] at h
      obtain ⟨r', hm, rfl, rfl⟩ := h
      obtain ⟨v', hv', hv⟩ := ren_iface_inv hfv
      obtain ⟨nx, h3, h4⟩ := minvoke_sound (args' := c.args.map ρ) hm hv (by rw [Array.toList_map]; exact ha) w
      refine ⟨β, nx, w, ?_, h3, step_refl hR⟩
      simp only [resolve, hcal, hv', Sem.run_bind, Sem.run_pure, Result.andThen_ok, invoke]
      have e1 : (#[Value.iface t v'] ++ c.args.map ρ)[0]? = some (Value.iface t v') := by rw [Array.getElem?_append_left (by simp)]; rfl
      have e2 : (#[Value.iface t v'] ++ c.args.map ρ).extract 1 (#[Value.iface t v'] ++ c.args.map ρ).size = c.args.map ρ := by
        apply Array.ext'; simp [List.take_of_length_le]
      simp only [e1, e2, h4]
    · cases h
  · rename_i b hcal
    simp only [Option.bind_eq_some_iff] at h
    obtain ⟨args, h2, h⟩ := h
    have ha := evAll_sound hev h2
    have hres : ∀ (m : Sem Value), (∀ consts, builtin b c.argTypes ty consts (c.args.map ρ) = do pure (.value (← m))) → Sound P β s s' w r (do pure (.value (← m))) → Sound P β s s' w r (do let d ← resolve ρ c ty; invoke d.target d.args) := by
      rintro m hm ⟨β', nx, w', h3, h4, h5⟩
      refine ⟨β', nx, w', ?_, h4, h5⟩
      simp only [resolve, hcal, Sem.run_bind, Sem.run_pure, Result.andThen_ok, invoke, hm]
      simpa using h3
    split at h
    · rename_i a n k t hat
      split at h
      · rename_i e hu
        cases h
        obtain ⟨x', hl, hx⟩ := renL1 ha
        have hargs := args_list (ρ := ρ) (a := c.args) rfl
        rw [hl] at hargs
        refine hres (Builtin.len_ c.argTypes ty (c.args.map ρ)) (fun _ => rfl) (sound_val ⟨_, rfl, ?_⟩ hR)
        rw [hargs, toList_eq hat]
        rcases a with _ | ⟨i, o, _ | sp⟩
        · simp only [ren, Option.some.injEq] at hx; subst hx
          simp only [Builtin.len_, List.getElem?_toArray, List.getElem?_cons_zero, Sem.run_bind, run_under hu, Result.andThen_ok, Sem.run_pure]
          rfl
        · obtain ⟨p, c', _, _, rfl⟩ := ren_slice_inv hx
          simp only [Builtin.len_, List.getElem?_toArray, List.getElem?_cons_zero, Sem.run_bind, run_under hu, Result.andThen_ok, Sem.run_pure]
          rfl
        · cases hx
      · cases h
    · rename_i m t hat
      split at h
      · rename_i e f hu
        simp only [Option.map_eq_some_iff, Prod.mk.injEq] at h
        obtain ⟨es, hes, rfl, rfl⟩ := h
        obtain ⟨x', hl, hx⟩ := renL1 ha
        have hargs := args_list (ρ := ρ) (a := c.args) rfl
        rw [hl] at hargs
        refine hres (Builtin.len_ c.argTypes ty (c.args.map ρ)) (fun _ => rfl) (sound_val ⟨_, rfl, ?_⟩ hR)
        rw [hargs, toList_eq hat]
        cases m with
        | none =>
          simp only [ren, Option.some.injEq] at hx; subst hx
          simp only [mentries, Option.some.injEq] at hes
          subst hes
          simp only [Builtin.len_, List.getElem?_toArray, List.getElem?_cons_zero, Sem.run_bind, run_under hu, Result.andThen_ok, Sem.run_pure]
          rfl
        | some i =>
          obtain ⟨p, hp, rfl⟩ := ren_map_inv hx
          simp only [mentries] at hes
          split at hes
          · rename_i es0 clock hget
            cases hes
            obtain ⟨b, K, es', e1, e2, e3⟩ := hR.fits _ _ hget
            rw [hp] at e1
            cases e1
            simp only [Builtin.len_, List.getElem?_toArray, List.getElem?_cons_zero, Sem.run_bind, run_under hu, Result.andThen_ok, run_getObj_map e3, Sem.run_pure]
            rw [show (⟨es'⟩ : Array MapEntry).size = es'.length from rfl, renEs_length e2]; rfl
          · cases hes
      · cases h
    · rename_i x y t t' hat
      split at h
      · rename_i d hu'
        obtain ⟨hd, h⟩ := bif_none' h
        simp only [Option.map_eq_some_iff, Prod.mk.injEq] at h
        obtain ⟨⟨v, s1⟩, hm, rfl, rfl⟩ := h
        obtain ⟨x', y', hl, hx, hy⟩ := renL2 ha
        have hargs := args_list (ρ := ρ) (a := c.args) rfl
        rw [hl] at hargs
        refine hres (Builtin.append_ c.argTypes ty (c.args.map ρ)) (fun _ => rfl) (sound_new ?_)
        rw [hargs, toList_eq hat]
        exact mappend_sound hm hx hy hu' hd hR hf
      · cases h
    · rename_i x y t r0 hat
      simp only [Option.map_eq_some_iff, Prod.mk.injEq] at h
      obtain ⟨⟨v, s1⟩, hm, rfl, rfl⟩ := h
      obtain ⟨x', y', hl, hx, hy⟩ := renL2 ha
      have hargs := args_list (ρ := ρ) (a := c.args) rfl
      rw [hl] at hargs
      refine hres (Builtin.copy_ c.argTypes ty (c.args.map ρ)) (fun _ => rfl) (sound_new ?_)
      rw [hargs]
      obtain ⟨v', w', h3, h4, h5⟩ := mcopy_sound (ty := ty) (ats := c.argTypes) hm hx hy (by rw [toList_eq hat]; rfl) hR
      exact ⟨β, v', w', h3, h4, h5⟩
    · rename_i x y t r0 hat
      simp only [Option.map_eq_some_iff, Prod.mk.injEq] at h
      obtain ⟨s1, hm, rfl, rfl⟩ := h
      obtain ⟨x', y', hl, hx, hy⟩ := renL2 ha
      have hargs := args_list (ρ := ρ) (a := c.args) rfl
      rw [hl] at hargs
      refine hres (Builtin.delete_ c.argTypes ty (c.args.map ρ)) (fun _ => rfl) (sound_new ?_)
      rw [hargs]
      obtain ⟨w', h4, h5⟩ := mdelete_sound (u := ty) hm hx hy hR (ats := c.argTypes) (by rw [toList_eq hat]; rfl)
      exact ⟨β, .tuple #[], w', rfl, h4, h5⟩
    · cases h

theorem pureOp_sound (hev : ∀ x v, ev x = some v → ren β v = some (ρ x)) {o : Oper} {v : Value} (h : pureOp P ev o = some v) (hR : Rel P β s w) : Sound P β s s w (.val v) (execOp ρ o) := by
  unfold pureOp at h
  obtain ⟨hg, h⟩ := bif_none h
  obtain ⟨hsel, hg⟩ := andb hg
  have hcongr : execOp (fun x => (ev x).getD (.bool false)) o = execOp ρ o := by
    refine execOp_congr o (fun cs b e => by rw [e] at hsel; cases hsel) fun x hx => ?_
    have := List.all_eq_true.1 hg x (by simpa using hx)
    unfold groundO at this
    split at this
    · rename_i u hu
      have h1 := hev _ _ hu
      rw [ren_ground this] at h1
      rw [hu]
      exact Option.some.inj h1
    · cases this
  rw [hcongr] at h
  split at h
  · rename_i u hp
    obtain ⟨hgu, h⟩ := bif_none h
    cases h
    exact ⟨β, .value _, w, pureRun_sound hp w, ⟨_, rfl, ren_ground hgu⟩, step_refl hR⟩
  · cases h
theorem evO_sound (hev : ∀ x v, ev x = some v → ren β v = some (ρ x)) {y : Option Operand} {r : Option Value} (h : (match y with | none => some none | some y => (ev y).map some) = some r) : renO β r (y.map ρ) := by
  cases y with
  | none => cases h; trivial
  | some y =>
    simp only [Option.map_eq_some_iff] at h
    obtain ⟨v, h, rfl⟩ := h
    exact hev _ _ h
theorem mopI_sound (hev : ∀ x v, ev x = some v → ren β v = some (ρ x)) {o : Oper} {r : AN} {s' : St} (h : mopI P ev o s = some (r, s')) (hR : Rel P β s w) (hf : Fresh β s.c s'.c) : Sound P β s s' w r (execOp ρ o) := by
  obtain ⟨dst, op, ty, pos, after, guard⟩ := o
  have hpure : ∀ {v : Value}, pureOp P ev ⟨dst, op, ty, pos, after, guard⟩ = some v → Sound P β s s w (.val v) (execOp ρ ⟨dst, op, ty, pos, after, guard⟩) := fun h => pureOp_sound hev h hR
  have hor : ∀ {y : Option (AN × St)}, orPure P ev ⟨dst, op, ty, pos, after, guard⟩ s y = some (r, s') → (y = some (r, s') → Sound P β s s' w r (execOp ρ ⟨dst, op, ty, pos, after, guard⟩)) → Sound P β s s' w r (execOp ρ ⟨dst, op, ty, pos, after, guard⟩) := by
    intro y hy hs
    unfold orPure at hy
    split at hy
    · exact hs hy
    · simp only [Option.map_eq_some_iff, Prod.mk.injEq] at hy
      obtain ⟨v, hv, rfl, rfl⟩ := hy
      exact hpure hv
  have hval : ∀ {x : Operand} {v : Value}, ev x = some v → Sound P β s s w (.val v) (pure (.value (ρ x))) := fun h => ⟨β, _, w, rfl, ⟨_, rfl, hev _ _ h⟩, step_refl hR⟩
  have hdflt : (pureOp P ev ⟨dst, op, ty, pos, after, guard⟩).map (fun v => (AN.val v, s)) = some (r, s') → Sound P β s s' w r (execOp ρ ⟨dst, op, ty, pos, after, guard⟩) := by
    intro hy
    simp only [Option.map_eq_some_iff, Prod.mk.injEq] at hy
    obtain ⟨v, hv, rfl, rfl⟩ := hy
    exact hpure hv
  unfold mopI at h
  cases op with
  | move x | assign x =>
    simp only [Option.map_eq_some_iff, Prod.mk.injEq] at h
    obtain ⟨v, h1, rfl, rfl⟩ := h
    exact hval h1
  | pick c a b =>
    simp only at h
    split at h
    · rename_i t hc
      simp only [Option.map_eq_some_iff, Prod.mk.injEq] at h
      obtain ⟨v, h1, rfl, rfl⟩ := h
      have hc' := hev _ _ hc
      simp only [ren, Option.some.injEq] at hc'
      have : execOp ρ ⟨dst, .pick c a b, ty, pos, after, guard⟩ = pure (.value (if t then ρ a else ρ b)) := by
        simp only [execOp, ← hc', asBool, pure_bind]
      rw [this]
      cases t
      · exact ⟨β, _, w, rfl, ⟨_, rfl, hev _ _ h1⟩, step_refl hR⟩
      · exact ⟨β, _, w, rfl, ⟨_, rfl, hev _ _ h1⟩, step_refl hR⟩
    · cases h
  | alloc e =>
    simp only [Option.bind_eq_some_iff, Option.map_eq_some_iff, Prod.mk.injEq] at h
    obtain ⟨z, hz, ⟨v, s1⟩, h1, rfl, rfl⟩ := h
    obtain ⟨it, _, _, hg, hzr⟩ := mzero_sound hz w
    obtain ⟨β', v', w', h2, h3, h4⟩ := malloc_sound h1 (ren_ground hg) hR hf
    refine sound_new ⟨β', v', w', h2, ?_, h4⟩
    simp only [Instr.alloc, Sem.run_bind, hzr, Result.andThen_ok]
    simpa using h3
  | box e x =>
    simp only [Option.bind_eq_some_iff, Option.map_eq_some_iff, Prod.mk.injEq] at h
    obtain ⟨z, hz, ⟨v, s1⟩, h1, rfl, rfl⟩ := h
    exact sound_new (malloc_sound h1 (hev _ _ hz) hR hf)
  | build t parts =>
    simp only [Option.bind_eq_some_iff, Option.map_eq_some_iff, Prod.mk.injEq] at h
    obtain ⟨l, hl, v, h1, rfl, rfl⟩ := h
    obtain ⟨e1, e2⟩ := evParts_sound hev hl
    refine sound_val (mbuild_sound h1 ?_ ?_ w) hR
    · simpa using e1
    · simpa using e2
  | buildSlice t n parts =>
    simp only [Option.bind_eq_some_iff, Option.map_eq_some_iff, Prod.mk.injEq] at h
    obtain ⟨l, hl, ⟨v, s1⟩, h1, rfl, rfl⟩ := h
    obtain ⟨e1, e2⟩ := evParts_sound hev hl
    refine sound_new (mbuildSlice_sound h1 ?_ ?_ hR hf)
    · simpa using e1
    · simpa using e2
  | load t a =>
    simp only [Option.bind_eq_some_iff, Option.map_eq_some_iff, Prod.mk.injEq] at h
    obtain ⟨p, hp, v, h1, rfl, rfl⟩ := h
    exact sound_val (mload_sound h1 (hev _ _ hp) hR) hR
  | store t a x =>
    simp only [Option.bind_eq_some_iff, Option.map_eq_some_iff, Prod.mk.injEq] at h
    obtain ⟨p, hp, v, hv, s1, h1, rfl, rfl⟩ := h
    exact sound_skip (mstore_sound h1 (hev _ _ hp) (hev _ _ hv) hR)
  | nilCheck x =>
    simp only at h
    have key : ∀ {v : Value}, ev x = some v → execOp ρ ⟨dst, .nilCheck x, ty, pos, after, guard⟩ = pure (.value (ρ x)) → Sound P β s s w (.val v) (execOp ρ ⟨dst, .nilCheck x, ty, pos, after, guard⟩) := by
      intro v hv he
      rw [he]; exact hval hv
    split at h
    · rename_i a hx
      cases h
      have h1 := hev _ _ hx
      refine key hx ?_
      obtain ⟨b, o, _ | sp⟩ := a
      · obtain ⟨p, _, e⟩ := ren_ptr_inv h1
        simp only [execOp, e]
      · cases h1
    · rename_i k a c hx
      cases h
      obtain ⟨a', c', e, _, _⟩ := ren_func_inv (hev _ _ hx)
      exact key hx (by simp only [execOp, e])
    · rename_i t v hx
      cases h
      obtain ⟨v', e, _⟩ := ren_iface_inv (hev _ _ hx)
      exact key hx (by simp only [execOp, e])
    · cases h
  | binOp op t x y yt =>
    refine hor h fun h => ?_
    simp only [Option.bind_eq_some_iff, Option.map_eq_some_iff, Prod.mk.injEq] at h
    obtain ⟨a, ha, b, hb, v, h1, rfl, rfl⟩ := h
    exact sound_val (mbin_sound h1 (hev _ _ ha) (hev _ _ hb) w) hR
  | convert src d x =>
    refine hor h fun h => ?_
    simp only [Option.bind_eq_some_iff, Option.map_eq_some_iff, Prod.mk.injEq] at h
    obtain ⟨a, ha, ⟨v, s1⟩, h1, rfl, rfl⟩ := h
    obtain ⟨rfl, hv⟩ := mconvert_sound h1 (hev _ _ ha) hR
    exact sound_val hv hR
  | makeInterface t x =>
    simp only at h
    split at h
    · cases h
    · rename_i d hne hu
      simp only [Option.map_eq_some_iff, Prod.mk.injEq] at h
      obtain ⟨v, h1, rfl, rfl⟩ := h
      refine sound_val ⟨.iface t (ρ x), by simp [ren, hev _ _ h1], ?_⟩ hR
      cases d <;> first
        | exact absurd rfl (hne _)
        | simp only [Instr.makeInterface, Sem.run_bind, run_under hu, Result.andThen_ok, Sem.run_pure]
    · cases h
  | makeFunc fn first captured =>
    cases fn with
    | func f =>
      simp only [Option.bind_eq_some_iff, Option.map_eq_some_iff, Prod.mk.injEq] at h
      obtain ⟨a, ha, c, hc, rfl, rfl⟩ := h
      have h1 := evAll_sound hev ha
      have h2 := evAll_sound hev hc
      refine sound_val ⟨.func (.func f) (first.map ρ) (captured.map ρ), ?_, rfl⟩ hR
      simp only [ren, renA, h1, h2, Option.map_some, Option.bind_some]
      rw [args_list rfl, args_list rfl]
    | _ => exact hdflt h
  | makeMap t r =>
    cases r with
    | none =>
      simp only [Option.some.injEq, Prod.mk.injEq] at h
      obtain ⟨rfl, rfl⟩ := h
      have hfc : β s.c = none := hf s.c (Nat.le_refl _) (by simp [St.new])
      have hst := step_new (K := 0) (o := .map [] 0) hR hfc (.map #[] 0) (w' := w.alloc (.map #[] 0)) rfl rfl rfl rfl ⟨w.heap.size, 0, [], beta_put_eq _ _ _, rfl, by
        show (w.heap.push _)[w.heap.size]? = _
        rw [Array.getElem?_push, if_pos rfl]⟩
      refine sound_new ⟨_, .map (some w.heap.size), _, by simp [ren, Beta.put], ?_, hst⟩
      simp [Instr.makeMap]
    | some q => exact hdflt h
  | makeSlice t l c =>
    simp only [Option.bind_eq_some_iff, Option.map_eq_some_iff, Prod.mk.injEq] at h
    obtain ⟨a, ha, b, hb, ⟨v, s1⟩, h1, rfl, rfl⟩ := h
    exact sound_new (mmakeSlice_sound h1 (hev _ _ ha) (hev _ _ hb) hR hf)
  | slice t x lo hi mx =>
    refine hor h fun h => ?_
    simp only [Option.bind_eq_some_iff, Option.map_eq_some_iff, Prod.mk.injEq] at h
    obtain ⟨a, ha, l, hl, hh, hhh, m, hm, v, h1, rfl, rfl⟩ := h
    exact sound_val (mslice_sound h1 (hev _ _ ha) (evO_sound hev hl) (evO_sound hev hhh) (evO_sound hev hm) w) hR
  | sliceToArrayPointer t x =>
    simp only [Option.bind_eq_some_iff, Option.map_eq_some_iff, Prod.mk.injEq] at h
    obtain ⟨a, ha, v, h1, rfl, rfl⟩ := h
    exact sound_val (marrayAt_sound h1 (hev _ _ ha) w) hR
  | fieldAddr t x f =>
    simp only [Option.bind_eq_some_iff, Option.map_eq_some_iff, Prod.mk.injEq] at h
    obtain ⟨a, ha, v, h1, rfl, rfl⟩ := h
    exact sound_val (mfieldAddr_sound h1 (hev _ _ ha) w) hR
  | field t x f =>
    simp only [Option.bind_eq_some_iff, Option.map_eq_some_iff, Prod.mk.injEq] at h
    obtain ⟨a, ha, v, h1, rfl, rfl⟩ := h
    exact sound_val (mfield_sound h1 (hev _ _ ha) w) hR
  | indexAddr t x i =>
    simp only [Option.bind_eq_some_iff, Option.map_eq_some_iff, Prod.mk.injEq] at h
    obtain ⟨a, ha, b, hb, v, h1, rfl, rfl⟩ := h
    exact sound_val (mindexAddr_sound h1 (hev _ _ ha) (hev _ _ hb) w) hR
  | index t x i =>
    refine hor h fun h => ?_
    simp only [Option.bind_eq_some_iff, Option.map_eq_some_iff, Prod.mk.injEq] at h
    obtain ⟨a, ha, b, hb, v, h1, rfl, rfl⟩ := h
    exact sound_val (mindex_sound h1 (hev _ _ ha) (hev _ _ hb) w) hR
  | lookup t x k ok =>
    simp only [Option.bind_eq_some_iff, Option.map_eq_some_iff, Prod.mk.injEq] at h
    obtain ⟨a, ha, b, hb, v, h1, rfl, rfl⟩ := h
    exact sound_val (mlookup_sound h1 (hev _ _ ha) (hev _ _ hb) hR) hR
  | mapUpdate t x k v | insert t x k v =>
    simp only [Option.bind_eq_some_iff, Option.map_eq_some_iff, Prod.mk.injEq] at h
    obtain ⟨a, ha, b, hb, c, hc, s1, h1, rfl, rfl⟩ := h
    exact sound_skip (mupdate_sound h1 (hev _ _ ha) (hev _ _ hb) (hev _ _ hc) hR)
  | typeAssert x xt t ok =>
    simp only [Option.bind_eq_some_iff, Option.map_eq_some_iff, Prod.mk.injEq] at h
    obtain ⟨a, ha, v, h1, rfl, rfl⟩ := h
    exact sound_val (mtypeAssert_sound h1 (hev _ _ ha) w) hR
  | extract x i =>
    simp only [Option.bind_eq_some_iff, Option.map_eq_some_iff, Prod.mk.injEq] at h
    obtain ⟨a, ha, v, h1, rfl, rfl⟩ := h
    exact sound_val (mextract_sound h1 (hev _ _ ha) w) hR
  | call c =>
    refine hor h fun h => ?_
    exact mcall_sound hev h hR hf
  | _ => exact hdflt h
end
end Go.Am
