/- Regions of the abstract machine: stores that are functions; one operation in whatever store. -/
import Derived.Test.YtiokdncglbfmlaaGreatDoorMReg2
namespace Go.Am
open Go
structure RelF (P : Program) (β : Beta) (g : Nat → Option AObj) (w : World) : Prop where
  fits : ∀ i o, g i = some o → Fits P β w i o
  inj : ∀ i j oi oj bi bj, g i = some oi → g j = some oj → β i = some bi → β j = some bj → bi.1 = bj.1 → i = j
structure StepF (P : Program) (β β' : Beta) (g g' : Nat → Option AObj) (lo hi : Nat) (w w' : World) : Prop where
  ext : β.le β'
  new : ∀ i p, β i = none → β' i = some p → lo ≤ i ∧ i < hi
  rel : RelF P β' g' w'
  size : w.heap.size ≤ w'.heap.size
  os : w'.os = w.os
  tape : w'.tape = w.tape
  output : w'.output = w.output
  frame : ∀ k, k < w.heap.size → (∀ i o p, g i = some o → β i = some p → p.1 ≠ k) → w'.heap[k]? = w.heap[k]?
  old : ∀ i o, g' i = some o → ∃ p, β' i = some p ∧ (w.heap.size ≤ p.1 ∨ ∃ j oj pj, g j = some oj ∧ β j = some pj ∧ pj.1 = p.1)
section
variable {P : Program}
theorem relF_of {β : Beta} {s : St} {w : World} (h : Rel P β s w) : RelF P β s.h.get w := ⟨h.fits, h.inj⟩
theorem rel_of {β : Beta} {s : St} {w : World} (h : RelF P β s.h.get w) : Rel P β s w := ⟨h.fits, h.inj⟩
theorem rel_sub {β : Beta} {s : St} {g : Nat → Option AObj} {w : World} (h : RelF P β g w) (hs : ∀ b o, s.h.get b = some o → g b = some o) : Rel P β s w :=
  ⟨fun i o hi => h.fits i o (hs i o hi), fun i j oi oj bi bj hi hj => h.inj i j oi oj bi bj (hs i oi hi) (hs j oj hj)⟩
theorem stepF_refl {β : Beta} {g : Nat → Option AObj} {w : World} (lo hi : Nat) (h : RelF P β g w) : StepF P β β g g lo hi w w :=
  ⟨Beta.le_refl β, (fun i p h1 h2 => by rw [h1] at h2; cases h2), h, Nat.le_refl _, rfl, rfl, rfl, fun _ _ _ => rfl, fun i o hi => by
    obtain ⟨p, hp, _⟩ := fits_beta (h.fits i o hi)
    exact ⟨p, hp, .inr ⟨i, o, p, hi, hp, rfl⟩⟩⟩
theorem stepF_trans {β1 β2 β3 : Beta} {g1 g2 g3 : Nat → Option AObj} {lo hi lo' hi' : Nat} {w1 w2 w3 : World} (h : StepF P β1 β2 g1 g2 lo hi w1 w2) (k : StepF P β2 β3 g2 g3 lo' hi' w2 w3) (h1 : lo ≤ lo') (h2 : hi' ≤ hi) : StepF P β1 β3 g1 g3 lo hi w1 w3 where
  ext := Beta.le_trans h.ext k.ext
  new := fun i p e1 e3 => by
    cases e2 : β2 i with
    | some q => exact h.new i q e1 e2
    | none => have := k.new i p e2 e3; omega
  rel := k.rel
  size := Nat.le_trans h.size k.size
  os := k.os.trans h.os
  tape := k.tape.trans h.tape
  output := k.output.trans h.output
  frame := fun b hb hf => by
    have e1 := h.frame b hb hf
    refine (k.frame b (Nat.lt_of_lt_of_le hb h.size) ?_).trans e1
    intro i o p hi hp hk
    obtain ⟨q, hq, hold⟩ := h.old i o hi
    rw [hp] at hq
    cases hq
    rcases hold with hold | ⟨j, oj, pj, e2, e3, e4⟩
    · omega
    · exact hf j oj pj e2 e3 (e4.trans hk)
  old := fun i o hi => by
    obtain ⟨p, hp, hold⟩ := k.old i o hi
    refine ⟨p, hp, ?_⟩
    rcases hold with hold | ⟨j, oj, pj, e2, e3, e4⟩
    · exact .inl (Nat.le_trans h.size hold)
    · obtain ⟨q, hq, hold⟩ := h.old j oj e2
      rw [e3] at hq
      cases hq
      rcases hold with hold | ⟨j', oj', pj', e5, e6, e7⟩
      · exact .inl (by omega)
      · exact .inr ⟨j', oj', pj', e5, e6, e7.trans e4⟩
theorem stepF_congr {β β' : Beta} {g g' k : Nat → Option AObj} {lo hi : Nat} {w w' : World} (h : StepF P β β' g g' lo hi w w') (e : g' = k) : StepF P β β' g k lo hi w w' := e ▸ h
/-- A step in a part of the store, seen in the whole of it. -/
theorem step_merge {β β' : Beta} {g : Nat → Option AObj} {s s' : St} {w w' : World} {chg : Nat → Bool} (hR : RelF P β g w) (hst : Step P β β' s s' w w') (h1 : ∀ b o, s.h.get b = some o → g b = some o)
    (h3 : ∀ b o, chg b = false → s.h.get b = some o → s'.h.get b = some o) : StepF P β β' g (fun b => if chg b = true then s'.h.get b else g b) s.c s'.c w w' := by
  have hcase : ∀ b o, (if chg b = true then s'.h.get b else g b) = some o → s'.h.get b = some o ∨ (s.h.get b = none ∧ g b = some o) := by
    intro b o hb
    by_cases hc : chg b = true
    · rw [if_pos hc] at hb; exact .inl hb
    · rw [if_neg hc] at hb
      cases hs : s.h.get b with
      | none => exact .inr ⟨rfl, hb⟩
      | some o2 =>
        have := h1 b o2 hs
        rw [hb] at this
        cases this
        exact .inl (h3 b o (by simpa using hc) hs)
  have himg : ∀ b o p, s.h.get b = none → g b = some o → β b = some p → ∀ j oj pj, s.h.get j = some oj → β j = some pj → pj.1 ≠ p.1 := by
    intro b o p hs hg hp j oj pj hj hpj he
    have := hR.inj j b oj o pj p (h1 j oj hj) hg hpj hp he
    subst this
    rw [hs] at hj
    cases hj
  refine ⟨hst.ext, hst.new, ⟨?_, ?_⟩, hst.size, hst.os, hst.tape, hst.output, ?_, ?_⟩
  · intro b o hb
    rcases hcase b o hb with hb | ⟨hs, hg⟩
    · exact hst.rel.fits b o hb
    · refine fits_mono (hR.fits b o hg) hst.ext fun p hp => ?_
      obtain ⟨q, hq, hq2⟩ := fits_beta (hR.fits b o hg)
      rw [hp] at hq
      cases hq
      exact hst.frame p.1 hq2 fun j oj pj hj hpj => himg b o p hs hg hp j oj pj hj hpj
  · intro b1 b2 o1 o2 p1 p2 hb1 hb2 e1 e2 e3
    have mixed : ∀ b1 b2 o1 o2 p1 p2, s'.h.get b1 = some o1 → s.h.get b2 = none → g b2 = some o2 → β' b1 = some p1 → β' b2 = some p2 → p1.1 = p2.1 → False := by
      intro b1 b2 o1 o2 p1 p2 ha hs hg e1 e2 e3
      obtain ⟨q, hq, hq2⟩ := fits_beta (hR.fits b2 o2 hg)
      have := hst.ext _ _ hq
      rw [e2] at this
      cases this
      obtain ⟨q1, hq1, hold⟩ := hst.old b1 o1 ha
      rw [e1] at hq1
      cases hq1
      rcases hold with hold | ⟨j, oj, pj, f1, f2, f3⟩
      · omega
      · exact himg b2 o2 p2 hs hg hq j oj pj f1 f2 (f3.trans e3)
    rcases hcase b1 o1 hb1 with hb1 | ⟨hs1, hg1⟩ <;> rcases hcase b2 o2 hb2 with hb2 | ⟨hs2, hg2⟩
    · exact hst.rel.inj b1 b2 o1 o2 p1 p2 hb1 hb2 e1 e2 e3
    · exact (mixed b1 b2 o1 o2 p1 p2 hb1 hs2 hg2 e1 e2 e3).elim
    · exact (mixed b2 b1 o2 o1 p2 p1 hb2 hs1 hg1 e2 e1 e3.symm).elim
    · obtain ⟨q1, hq1, _⟩ := fits_beta (hR.fits b1 o1 hg1)
      obtain ⟨q2, hq2, _⟩ := fits_beta (hR.fits b2 o2 hg2)
      have f1 := hst.ext _ _ hq1
      have f2 := hst.ext _ _ hq2
      rw [e1] at f1
      rw [e2] at f2
      cases f1
      cases f2
      exact hR.inj b1 b2 o1 o2 _ _ hg1 hg2 hq1 hq2 e3
  · intro k hk hf
    exact hst.frame k hk fun i o p hi hp => hf i o p (h1 i o hi) hp
  · intro b o hb
    rcases hcase b o hb with hb | ⟨hs, hg⟩
    · obtain ⟨p, hp, hold⟩ := hst.old b o hb
      refine ⟨p, hp, hold.imp id ?_⟩
      rintro ⟨j, oj, pj, f1, f2, f3⟩
      exact ⟨j, oj, pj, h1 j oj f1, f2, f3⟩
    · obtain ⟨q, hq, _⟩ := fits_beta (hR.fits b o hg)
      exact ⟨q, hst.ext _ _ hq, .inr ⟨b, o, q, hg, hq, rfl⟩⟩

/-! ### one operation -/
def Glob (P : Program) (β : Beta) : Prop := ∀ g, g < P.globals.size → ∃ K, β g = some (g, K)
theorem glob_mono {β β' : Beta} (h : Glob P β) (hβ : β.le β') : Glob P β' := fun g hg => (h g hg).imp fun _ e => hβ _ _ e
def Dom (s s' : St) : Prop := ∀ b, s'.h.get b ≠ none → s.h.get b ≠ none ∨ (s.c ≤ b ∧ b < s'.c)
theorem dom_wf {s s' : St} (h : Dom s s') (hc : s.c ≤ s'.c) (hw : Wf s) : Wf s' := by
  intro b hb
  cases e : s'.h.get b with
  | none => rfl
  | some o =>
    rcases h b (by rw [e]; simp) with h | h
    · exact absurd (hw b (by omega)) h
    · omega
theorem dom_trans {s1 s2 s3 : St} (h : Dom s1 s2) (k : Dom s2 s3) (h1 : s1.c ≤ s2.c) (h2 : s2.c ≤ s3.c) : Dom s1 s3 := by
  intro b hb
  rcases k b hb with h3 | h3
  · rcases h b h3 with h4 | h4
    · exact .inl h4
    · exact .inr (by omega)
  · exact .inr (by omega)
theorem evo_dom {s s' : St} (h : Evo s s') : Dom s s' := by
  intro b hb
  cases h with
  | same => exact .inl hb
  | new o =>
    simp only [St.new, PMap.get_set] at hb ⊢
    by_cases hc : b = s.c
    · exact .inr (by omega)
    · rw [if_neg hc] at hb; exact .inl hb
  | put i o o' h =>
    simp only [PMap.get_set] at hb
    by_cases hc : b = i
    · subst hc; exact .inl (by rw [h]; simp)
    · rw [if_neg hc] at hb; exact .inl hb
  | move i o o' h =>
    simp only [St.new, PMap.get_set] at hb ⊢
    by_cases hc : b = s.c
    · exact .inr (by omega)
    · rw [if_neg hc] at hb
      by_cases hd : b = i
      · rw [if_pos hd] at hb; exact absurd rfl hb
      · rw [if_neg hd] at hb; exact .inl hb
/-- Calls that are as the abstract machine says. -/
def CS (P : Program) (call : Caller) : Prop := ∀ f args s v s', call f args s = some (v, s') → Wf s → s.c ≤ s'.c ∧ Dom s s' ∧ ∀ β w args', renL β args = some args' → Glob P β → Rel P β s w → Fresh β s.c s'.c →
  Calls P f ⟨args'⟩ w fun e w' => ∃ β' v', e = .returned v' ∧ ren β' v = some v' ∧ Step P β β' s s' w w'
theorem undef_ground : ground undef = true := rfl
theorem mdo_dom {call : Caller} (hC : CS P call) {ops : Array Oper} {o : Oper} {m : PMap Value} {s s' : St} {v : Value} (h : mdo P call ops o m s = some (v, s')) (hw : Wf s) : s.c ≤ s'.c ∧ Dom s s' ∧ (quietOp o.op = true → Quiet s s') := by
  unfold mdo at h
  split at h
  · cases h
  · cases h; exact ⟨Nat.le_refl _, evo_dom (.same _), fun _ => .inl rfl⟩
  · split at h
    · rename_i hm; cases h; exact ⟨evo_cle (evo_op hm).1, evo_dom (evo_op hm).1, (evo_op hm).2⟩
    · rename_i hm; cases h; exact ⟨evo_cle (evo_op hm).1, evo_dom (evo_op hm).1, (evo_op hm).2⟩
    · rename_i f args s1 hm
      obtain ⟨hq, h⟩ := bif_none' h
      have he := (evo_op hm).1
      obtain ⟨h1, h2, _⟩ := hC f args s1 v s' h (evo_wf he hw)
      exact ⟨Nat.le_trans (evo_cle he) h1, dom_trans (evo_dom he) h2 (evo_cle he) h1, fun hq' => by rw [hq] at hq'; cases hq'⟩
    · cases h
theorem aev_sound {β : Beta} {m : PMap Value} {c : Act} (hG : Glob P β) (hm : ∀ t v, m.get t = some v → ∃ v', c.tmps[t]? = some v' ∧ ren β v = some v') : ∀ x v, aev P m x = some v → ren β v = some (c.eval x) := by
  intro x v h
  cases x with
  | tmp t =>
    obtain ⟨v', h1, h2⟩ := hm t v h
    simp only [Act.eval, Array.getD_eq_getD_getElem?, h1, Option.getD_some, h2]
  | const u =>
    obtain ⟨hg, h⟩ := bif_none h
    cases h
    exact ren_ground hg
  | global g =>
    obtain ⟨hg, h⟩ := bif_none h
    cases h
    obtain ⟨K, hK⟩ := hG g (blt_lt hg)
    exact ren_ptr hK 0
  | func f => cases h; rfl
theorem ren_to_bool {β : Beta} {u : Value} {y : Bool} (h : ren β u = some (.bool y)) : u = .bool y := by
  cases u with
  | bool z => simpa [ren] using h
  | pointer a =>
    rcases a with _ | ⟨b, o, _ | sp⟩
    · cases h
    · obtain ⟨_, _, e⟩ := ren_ptr_inv h; cases e
    · cases h
  | slice a n c =>
    rcases a with _ | ⟨b, o, _ | sp⟩
    · cases h
    · obtain ⟨_, _, _, _, e⟩ := ren_slice_inv h; cases e
    · cases h
  | map r =>
    cases r with
    | none => cases h
    | some r => obtain ⟨_, _, e⟩ := ren_map_inv h; cases e
  | chan r => cases r <;> cases h
  | func f a c => obtain ⟨_, _, e, _⟩ := ren_func_inv h; cases e
  | iface t v => obtain ⟨_, e, _⟩ := ren_iface_inv h; cases e
  | agg a => obtain ⟨_, _, e⟩ := ren_agg_inv h; cases e
  | tuple a => obtain ⟨_, _, e⟩ := ren_tuple_inv h; cases e
  | _ => cases h
theorem wanted_sound {β : Beta} {ops : Array Oper} {o : Oper} {m : PMap Value} {c : Act} (hm : ∀ t v, m.get t = some v → ∃ v', c.tmps[t]? = some v' ∧ ren β v = some v') {b : Bool} (h : mwanted ops o m = some b) : Region.wanted o (yielded ops c.tmps) = b := by
  unfold mwanted at h
  unfold Region.wanted
  split at h
  · rename_i hg; cases h; simp [hg]
  · rename_i j want hg
    simp only [hg]
    unfold yielded
    split at h
    · rename_i hd
      cases h
      simp [hd]
    · rename_i t hd
      split at h
      · rename_i x hx
        cases h
        obtain ⟨v', h1, h2⟩ := hm t _ hx
        simp only [ren, Option.some.injEq] at h2
        subst h2
        simp only [hd, Option.bind_some, h1]
        cases x <;> cases want <;> rfl
      · rename_i u hnb hx
        cases h
        obtain ⟨v', h1, h2⟩ := hm t _ hx
        have hnb' : ∀ y, v' ≠ .bool y := by
          intro y hy
          subst hy
          exact hnb y (ren_to_bool h2)
        simp only [hd, Option.bind_some, h1]
        cases v' <;> first
          | (exact absurd rfl (hnb' _))
          | (cases want <;> rfl)
      · cases h
theorem mdo_wp {call : Caller} (hC : CS P call) {ops : Array Oper} {i : Nat} {o : Oper} {m : PMap Value} {s s' : St} {v : Value} {c : Act} {w : World} {β : Beta} {Q : Exit → Act → World → Prop} {K : Act → World → Prop} (hi : ops[i]? = some o) (h : mdo P call ops o m s = some (v, s')) (hw : Wf s) (hG : Glob P β)
    (hm : ∀ t v, m.get t = some v → ∃ v', c.tmps[t]? = some v' ∧ ren β v = some v') (hR : Rel P β s w) (hf : Fresh β s.c s'.c) (hK : ∀ β' v' w', ren β' v = some v' → Step P β β' s s' w w' → K (c.put o.dst v') w') : wpOp P ops Q i K c w := by
  unfold wpOp
  simp only [hi]
  unfold mdo at h
  split at h
  · cases h
  · rename_i hwant
    cases h
    simp only [wanted_sound hm hwant, Bool.false_eq_true, if_false]
    exact hK β undef w (ren_ground undef_ground) (step_refl hR)
  · rename_i hwant
    simp only [wanted_sound hm hwant, if_true]
    left
    unfold Oper.wp
    split at h
    · rename_i u s1 hop
      cases h
      obtain ⟨β', nx, w', h1, ⟨v', rfl, h2⟩, h3⟩ := mopI_sound (aev_sound hG hm) hop hR hf
      rw [h1]
      exact hK β' v' w' h2 h3
    · rename_i s1 hop
      cases h
      obtain ⟨β', nx, w', h1, h2, h3⟩ := mopI_sound (aev_sound hG hm) hop hR hf
      obtain rfl : nx = .skip := h2
      rw [h1]
      exact hK β' undef w' (ren_ground undef_ground) h3
    · rename_i f args s1 hop
      obtain ⟨_, h⟩ := bif_none' h
      have he := (evo_op hop).1
      have hw1 := evo_wf he hw
      obtain ⟨hc1, _, hcall⟩ := hC f args s1 v s' h hw1
      obtain ⟨β', nx, w', h1, ⟨args', rfl, h2⟩, h3⟩ := mopI_sound (aev_sound hG hm) hop hR (fun i hi1 hi2 => hf i hi1 (by omega))
      rw [h1]
      refine (hcall β' w' args' h2 (glob_mono hG h3.ext) h3.rel (fresh_step h3 hf)).mono fun e w'' hh => ?_
      obtain ⟨β'', v', rfl, h4, h5⟩ := hh
      exact hK β'' v' w'' h4 (step_trans h3 h5)
    · cases h
end
end Go.Am
