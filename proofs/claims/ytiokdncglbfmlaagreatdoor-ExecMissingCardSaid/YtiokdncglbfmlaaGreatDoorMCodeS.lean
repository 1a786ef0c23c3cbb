/- Code and calls of the abstract machine are the model's. -/
import Derived.Test.YtiokdncglbfmlaaGreatDoorMReg5
import Derived.LoopN
namespace Go.Am
open Go
structure AR (β : Beta) (a : MA) (c : Act) : Prop where
  defers : c.defers = []
  size : c.tmps.size = a.n
  tm : ∀ t v, a.m.get t = some v → ∃ v', c.tmps[t]? = some v' ∧ ren β v = some v'
theorem ar_mono {β β' : Beta} {a : MA} {c : Act} (h : AR β a c) (hβ : β.le β') : AR β' a c :=
  ⟨h.defers, h.size, fun t v e => by obtain ⟨v', h1, h2⟩ := h.tm t v e; exact ⟨v', h1, ren_mono hβ h2⟩⟩
theorem ar_put {β β' : Beta} {a a' : MA} {c : Act} {d : Option Tmp} {v v' : Value} (h : AR β a c) (ha : mput a d v = some a') (hv : ren β' v = some v') (hβ : β.le β') : AR β' a' (c.put d v') := by
  refine ⟨by cases d <;> simp [Act.put, h.defers], ?_, ?_⟩
  · have := (mput_get ha 0).2.1
    cases d <;> simp [Act.put, h.size, this]
  · intro t u ht
    rw [(mput_get ha t).1] at ht
    by_cases hd : d = some t
    · rw [if_pos hd] at ht
      cases ht
      subst hd
      have := (mput_get ha t).2.2 t rfl
      exact ⟨v', by simp [Act.put, h.size, this], hv⟩
    · rw [if_neg hd] at ht
      obtain ⟨u', h1, h2⟩ := h.tm t u ht
      refine ⟨u', ?_, ren_mono hβ h2⟩
      cases d with
      | none => exact h1
      | some x =>
        have : x ≠ t := fun e => hd (by rw [e])
        simp [Act.put, Array.getElem?_setIfInBounds_ne this, h1]
section
variable {P : Program} {call : Caller}
theorem mseq_dom (hC : CS P call) {ops : Array Oper} : ∀ {l : List Nat} {a a' : MA} {s s' : St}, mseq P call ops l a s = some (a', s') → Wf s → s.c ≤ s'.c ∧ Dom s s'
  | [], a, a', s, s', h, _ => by
    simp only [mseq, Option.some.injEq, Prod.mk.injEq] at h
    obtain ⟨rfl, rfl⟩ := h
    exact ⟨Nat.le_refl _, evo_dom (.same _)⟩
  | i :: l, a, a', s, s', h, hw => by
    simp only [mseq] at h
    split at h
    · cases h
    · split at h
      · cases h
      · rename_i o ho v s1 hd
        split at h
        · cases h
        · rename_i a1 ha
          obtain ⟨h1, h2, _⟩ := mdo_dom hC hd hw
          obtain ⟨h3, h4⟩ := mseq_dom hC h (dom_wf h2 h1 hw)
          exact ⟨Nat.le_trans h1 h3, dom_trans h2 h4 h1 h3⟩
theorem mseq_wp (hC : CS P call) {ops : Array Oper} {Q : Exit → Act → World → Prop} : ∀ {l : List Nat} {a a' : MA} {s s' : St} {β : Beta} {c : Act} {w : World}, mseq P call ops l a s = some (a', s') → Wf s → Glob P β → AR β a c → Rel P β s w → Fresh β s.c s'.c →
    (∀ β' c' w', AR β' a' c' → Step P β β' s s' w w' → Q .normal c' w') → wpOps P ops Q l c w
  | [], a, a', s, s', β, c, w, h, _, _, hA, hR, _, hQ => by
    simp only [mseq, Option.some.injEq, Prod.mk.injEq] at h
    obtain ⟨rfl, rfl⟩ := h
    exact hQ β c w hA (step_refl hR)
  | i :: l, a, a', s, s', β, c, w, h, hw, hG, hA, hR, hf, hQ => by
    simp only [mseq] at h
    split at h
    · cases h
    · rename_i o ho
      split at h
      · cases h
      · rename_i v s1 hd
        split at h
        · cases h
        · rename_i a1 ha
          obtain ⟨h1, h2, _⟩ := mdo_dom hC hd hw
          have hw1 := dom_wf h2 h1 hw
          obtain ⟨h3, h4⟩ := mseq_dom hC h hw1
          rw [wpOps_cons]
          refine mdo_wp hC ho hd hw hG hA.tm hR (fun i e1 e2 => hf i e1 (by omega)) fun β' v' w' hv hst => ?_
          exact mseq_wp hC h hw1 (glob_mono hG hst.ext) (ar_put hA ha hv hst.ext) hst.rel (fresh_step hst hf) fun β'' c' w'' hA' hst' => hQ β'' c' w'' hA' (step_trans hst hst')
def AE.toExit : AE → Exit
  | .normal => .normal
  | .exit id => .exit id
  | .ret => .ret
theorem tr_dom (hC : CS P call) {ops : Array Oper} {a af : MA} {s0 sf : St} {prev recs : List DRec} (htr : Tr P call ops a s0 prev recs af sf) : Wf s0 → s0.c ≤ sf.c ∧ Dom s0 sf := by
  induction htr with
  | nil => exact fun _ => ⟨Nat.le_refl _, evo_dom (.same _)⟩
  | @cons a s prev r l a' af sf ho hd hlo hfit hp he ha htr ih =>
    intro hw
    have hws := sub_wf hw hfit
    obtain ⟨hcle, hdom, _⟩ := mdo_dom hC hd hws
    have hw' := dom_wf hdom hcle hws
    have hmg : ∀ b, (r.md.merge s.h r.h' r.lo r.hi).get b = if r.md.keep b = true ∨ (s.c ≤ b ∧ b < r.hi) then r.h'.get b else s.h.get b := by
      intro b
      rw [hlo]
      exact merge_get (s' := ⟨r.h', r.hi⟩) hw hw' hcle hfit b
    have hcle' : s.c ≤ r.hi := hcle
    obtain ⟨h1, h2⟩ := ih (by rw [hlo]; exact merge_wf (s' := ⟨r.h', r.hi⟩) hw hw' hcle hfit)
    have hd1 : Dom s ⟨r.md.merge s.h r.h' r.lo r.hi, r.hi⟩ := by
      intro b hb
      simp only at hb
      rw [hmg] at hb
      by_cases hk : r.md.keep b = true ∨ (s.c ≤ b ∧ b < r.hi)
      · rw [if_pos hk] at hb
        rcases hdom b hb with h3 | h3
        · simp only at h3
          rw [sub_get hw hfit] at h3
          by_cases hkk : r.md.keep b = true
          · rw [if_pos hkk] at h3; exact .inl h3
          · rw [if_neg hkk] at h3; exact absurd rfl h3
        · exact .inr h3
      · rw [if_neg hk] at hb; exact .inl hb
    exact ⟨Nat.le_trans hcle' h1, dom_trans hd1 h2 hcle' h1⟩
theorem mregion_dom (hC : CS P call) {ops : Array Oper} {a af : MA} {s0 sf : St} (h : mregion P call ops a s0 = some (af, sf)) (hw : Wf s0) : s0.c ≤ sf.c ∧ Dom s0 sf := by
  unfold mregion at h
  obtain ⟨hok, h⟩ := bif_none h
  obtain ⟨hplan, _⟩ := andb hok
  obtain ⟨recs, htr, _, _⟩ := mdraw_tr (planOf ops) a s0 [] h hplan (by simp)
  exact tr_dom hC htr hw
theorem mcode_dom (hC : CS P call) : ∀ (n : Nat) {k : Code} {a a' : MA} {s s' : St} {e : AE}, mcode P call n k a s = some (e, a', s') → Wf s → s.c ≤ s'.c ∧ Dom s s'
  | 0, k, a, a', s, s', e, h, _ => by cases h
  | n + 1, k, a, a', s, s', e, h, hw => by
    have hrefl : s.c ≤ s.c ∧ Dom s s := ⟨Nat.le_refl _, evo_dom (.same _)⟩
    cases k with
    | skip => simp only [mcode, Option.some.injEq, Prod.mk.injEq] at h; obtain ⟨_, _, rfl⟩ := h; exact hrefl
    | label l => simp only [mcode, Option.some.injEq, Prod.mk.injEq] at h; obtain ⟨_, _, rfl⟩ := h; exact hrefl
    | exit id => simp only [mcode, Option.some.injEq, Prod.mk.injEq] at h; obtain ⟨_, _, rfl⟩ := h; exact hrefl
    | ret => simp only [mcode, Option.some.injEq, Prod.mk.injEq] at h; obtain ⟨_, _, rfl⟩ := h; exact hrefl
    | region id ops draw =>
      cases draw with
      | true =>
        simp only [mcode] at h
        split at h
        · rename_i a1 s1 hr
          cases h
          exact mregion_dom hC hr hw
        · cases h
      | false =>
        simp only [mcode] at h
        split at h
        · rename_i a1 s1 hr
          cases h
          exact mseq_dom hC hr hw
        · cases h
    | seq x y =>
      simp only [mcode] at h
      split at h
      · rename_i a1 s1 hx
        obtain ⟨h1, h2⟩ := mcode_dom hC n hx hw
        obtain ⟨h3, h4⟩ := mcode_dom hC n h (dom_wf h2 h1 hw)
        exact ⟨Nat.le_trans h1 h3, dom_trans h2 h4 h1 h3⟩
      · exact mcode_dom hC n h hw
    | cond q x y =>
      simp only [mcode] at h
      split at h
      · rename_i t _
        cases t
        · exact mcode_dom hC n h hw
        · exact mcode_dom hC n h hw
      · cases h
    | block id x =>
      simp only [mcode] at h
      split at h
      · rename_i i a1 s1 hx
        have := mcode_dom hC n hx hw
        rcases bif_some h with ⟨_, h⟩ | ⟨_, h⟩ <;> (cases h; exact this)
      · exact mcode_dom hC n h hw
    | loop x =>
      simp only [mcode] at h
      split at h
      · rename_i a1 s1 hx
        obtain ⟨h1, h2⟩ := mcode_dom hC n hx hw
        obtain ⟨h3, h4⟩ := mcode_dom hC n h (dom_wf h2 h1 hw)
        exact ⟨Nat.le_trans h1 h3, dom_trans h2 h4 h1 h3⟩
      · exact mcode_dom hC n h hw
    | rangeFunc f ps as b => simp [mcode] at h
    | scope b => simp [mcode] at h
    | goto l => simp [mcode] at h
    | refuse w => simp [mcode] at h
/-- What code that the abstract machine carries out comes to. -/
def CodeOk (P : Program) (call : Caller) (n : Nat) : Prop := ∀ (k : Code) (a a' : MA) (s s' : St) (e : AE) (β : Beta) (c : Act) (w : World) (Q : Exit → Act → World → Prop), mcode P call n k a s = some (e, a', s') → Wf s → Glob P β → AR β a c → Rel P β s w → Fresh β s.c s'.c →
  (∀ β' c' w', AR β' a' c' → Step P β β' s s' w w' → Q e.toExit c' w') → k.wp P Q c w
def LoopOk (P : Program) (call : Caller) (n : Nat) : Prop := ∀ (k : Code) (a a' : MA) (s s' : St) (e : AE) (β : Beta) (c : Act) (w : World) (Q : Exit → Act → World → Prop), mcode P call n (.loop k) a s = some (e, a', s') → Wf s → Glob P β → AR β a c → Rel P β s w → Fresh β s.c s'.c →
  (∀ β' c' w', AR β' a' c' → Step P β β' s s' w w' → Q e.toExit c' w') → Code.rounds P k Q n c w
theorem code_ok (hC : CS P call) (hmix : P.follows .mixedOrders = true) : ∀ n, CodeOk P call n ∧ LoopOk P call n
  | 0 => ⟨(fun k a a' s s' e β c w Q h => by cases h), (fun k a a' s s' e β c w Q h => by cases h)⟩
  | n + 1 => by
    obtain ⟨ihc, ihl⟩ := code_ok hC hmix n
    have hloop : LoopOk P call (n + 1) := by
      intro k a a' s s' e β c w Q h hw hG hA hR hf hQ
      rw [rounds_succ]
      simp only [mcode] at h
      split at h
      · rename_i a1 s1 hx
        obtain ⟨h1, h2⟩ := mcode_dom hC n hx hw
        have hw1 := dom_wf h2 h1 hw
        obtain ⟨h3, _⟩ := mcode_dom hC n h hw1
        refine ihc k a a1 s s1 .normal β c w _ hx hw hG hA hR (fun i e1 e2 => hf i e1 (by omega)) fun β' c' w' hA' hst => ?_
        show Code.rounds P k Q n c' w'
        exact ihl k a1 a' s1 s' e β' c' w' Q h hw1 (glob_mono hG hst.ext) hA' hst.rel (fresh_step hst hf) fun β'' c'' w'' hA'' hst' => hQ β'' c'' w'' hA'' (step_trans hst hst')
      · rename_i hne
        refine ihc k a a' s s' e β c w _ h hw hG hA hR hf fun β' c' w' hA' hst => ?_
        have := hQ β' c' w' hA' hst
        cases e with
        | normal => exact absurd h (hne _ _)
        | exit id => exact this
        | ret => exact this
    refine ⟨?_, hloop⟩
    intro k a a' s s' e β c w Q h hw hG hA hR hf hQ
    cases k with
    | skip =>
      simp only [mcode, Option.some.injEq, Prod.mk.injEq] at h
      obtain ⟨rfl, rfl, rfl⟩ := h
      exact wp_skip (hQ β c w hA (step_refl hR))
    | label l =>
      simp only [mcode, Option.some.injEq, Prod.mk.injEq] at h
      obtain ⟨rfl, rfl, rfl⟩ := h
      exact wp_label (hQ β c w hA (step_refl hR))
    | exit id =>
      simp only [mcode, Option.some.injEq, Prod.mk.injEq] at h
      obtain ⟨rfl, rfl, rfl⟩ := h
      exact wp_exit (hQ β c w hA (step_refl hR))
    | ret =>
      simp only [mcode, Option.some.injEq, Prod.mk.injEq] at h
      obtain ⟨rfl, rfl, rfl⟩ := h
      exact wp_ret (hQ β c w hA (step_refl hR))
    | region id ops draw =>
      cases draw with
      | true =>
        simp only [mcode] at h
        split at h
        · rename_i a1 s1 hr
          cases h
          exact mregion_wp hC hmix hr hw hG hA.defers hA.size hA.tm hR hf fun β' c' w' d1 d2 d3 hst => hQ β' c' w' ⟨d1, d2, d3⟩ hst
        · cases h
      | false =>
        simp only [mcode] at h
        split at h
        · rename_i a1 s1 hr
          cases h
          exact wp_region (mseq_wp hC hr hw hG hA hR hf hQ)
        · cases h
    | seq x y =>
      simp only [mcode] at h
      split at h
      · rename_i a1 s1 hx
        obtain ⟨h1, h2⟩ := mcode_dom hC n hx hw
        have hw1 := dom_wf h2 h1 hw
        obtain ⟨h3, _⟩ := mcode_dom hC n h hw1
        refine wp_seq (ihc x a a1 s s1 .normal β c w _ hx hw hG hA hR (fun i e1 e2 => hf i e1 (by omega)) fun β' c' w' hA' hst => ?_)
        show y.wp P Q c' w'
        exact ihc y a1 a' s1 s' e β' c' w' Q h hw1 (glob_mono hG hst.ext) hA' hst.rel (fresh_step hst hf) fun β'' c'' w'' hA'' hst' => hQ β'' c'' w'' hA'' (step_trans hst hst')
      · rename_i hne
        refine wp_seq (ihc x a a' s s' e β c w _ h hw hG hA hR hf fun β' c' w' hA' hst => ?_)
        have := hQ β' c' w' hA' hst
        cases e with
        | normal => exact absurd h (hne _ _)
        | exit id => exact this
        | ret => exact this
    | cond q x y =>
      simp only [mcode] at h
      split at h
      · rename_i t hq
        have hq' := aev_sound hG hA.tm q _ hq
        simp only [ren, Option.some.injEq] at hq'
        cases t
        · exact wp_cond_false hq'.symm (ihc y a a' s s' e β c w Q h hw hG hA hR hf hQ)
        · exact wp_cond_true hq'.symm (ihc x a a' s s' e β c w Q h hw hG hA hR hf hQ)
      · cases h
    | block id x =>
      simp only [mcode] at h
      split at h
      · rename_i i a1 s1 hx
        have h_ := bif_some h; clear h; rcases h_ with ⟨hi, h⟩ | ⟨hi, h⟩
        · cases h
          obtain rfl := beq_eq hi
          refine wp_block (ihc x a _ s _ (.exit i) β c w _ hx hw hG hA hR hf fun β' c' w' hA' hst => ?_)
          have := hQ β' c' w' hA' hst
          simp only [AE.toExit, Exit.inBlock, if_true]
          exact this
        · cases h
          have hne : i ≠ id := by rintro rfl; rw [Nat.beq_refl] at hi; cases hi
          refine wp_block (ihc x a _ s _ (.exit i) β c w _ hx hw hG hA hR hf fun β' c' w' hA' hst => ?_)
          have := hQ β' c' w' hA' hst
          simp only [AE.toExit, Exit.inBlock, hne, if_false]
          exact this
      · rename_i hne
        refine wp_block (ihc x a a' s s' e β c w _ h hw hG hA hR hf fun β' c' w' hA' hst => ?_)
        have := hQ β' c' w' hA' hst
        cases e with
        | normal => exact this
        | exit i => exact absurd h (hne _ _ _)
        | ret => exact this
    | loop x => exact wp_loop_rounds (n + 1) (hloop x a a' s s' e β c w Q h hw hG hA hR hf hQ)
    | rangeFunc f ps as b => simp [mcode] at h
    | scope b => simp [mcode] at h
    | goto l => simp [mcode] at h
    | refuse w => simp [mcode] at h
theorem margs_get : ∀ (l : List Value) (i : Nat) (m : PMap Value) (t : Nat), (margs l i m).get t = if i ≤ t ∧ t < i + l.length then l[t - i]? else m.get t
  | [], i, m, t => by
    rw [margs, if_neg (by simp only [List.length_nil]; omega)]
  | v :: l, i, m, t => by
    rw [margs, margs_get l]
    simp only [List.length_cons]
    by_cases h1 : i + 1 ≤ t ∧ t < i + 1 + l.length
    · rw [if_pos h1, if_pos (by omega)]
      have : t - i = t - (i + 1) + 1 := by omega
      rw [this, List.getElem?_cons_succ]
    · rw [if_neg h1, PMap.get_set]
      by_cases h2 : t = i
      · subst h2
        rw [if_pos rfl, if_pos (by omega), Nat.sub_self, List.getElem?_cons_zero]
      · rw [if_neg h2, if_neg (by omega)]
theorem mresults_sound {β : Beta} {a : MA} {c : Act} {s : St} {w : World} (hA : AR β a c) (hR : Rel P β s w) : ∀ {l : List ResultVar} {vs : List Value}, mresults P a.m s l = some vs → ∃ vs', renL β vs = some vs' ∧
    (l.mapM (m := Sem) fun | .tmp t => pure (c.tmps.getD t undef) | .cell a t => do loadVar t (← asAddr (c.tmps.getD a undef))).run P w = .ok vs' w
  | [], vs, h => by cases h; exact ⟨[], rfl, rfl⟩
  | r :: l, vs, h => by
    simp only [mresults] at h
    split at h
    · rename_i v vs1 hv hvs
      cases h
      obtain ⟨vs', h1, h2⟩ := mresults_sound hA hR hvs
      cases r with
      | tmp t =>
        obtain ⟨v', h3, h4⟩ := hA.tm t v hv
        refine ⟨v' :: vs', renL_cons h4 h1, ?_⟩
        have : c.tmps.getD t undef = v' := by rw [Array.getD_eq_getD_getElem?, h3]; rfl
        simp only [List.mapM_cons, Sem.run_bind, Sem.run_pure, Result.andThen_ok, this, h2]
      | cell p t =>
        simp only [mresult] at hv
        split at hv
        · rename_i q hq
          obtain ⟨q', h3, h4⟩ := hA.tm p q hq
          obtain ⟨v', h5, h6⟩ := mload_sound hv h4 hR
          refine ⟨v' :: vs', renL_cons h5 h1, ?_⟩
          have hg : c.tmps.getD p undef = q' := by rw [Array.getD_eq_getD_getElem?, h3]; rfl
          have hptr : ∃ ad, q' = .pointer (some ad) := by
            unfold mload at hv
            split at hv
            · obtain ⟨pp, _, e⟩ := ren_ptr_inv h4
              exact ⟨_, e⟩
            · cases hv
          obtain ⟨ad, rfl⟩ := hptr
          have h7 : (do loadVar t (← asAddr (Value.pointer (some ad))) : Sem Value).run P w = .ok v' w := by
            simpa [Instr.loadAt, Instr.sureAddr, asAddr] using h6
          simp only [List.mapM_cons, Sem.run_bind, hg]
          simp only [Sem.run_bind] at h7
          rw [h7]
          simp only [Result.andThen_ok, h2, Sem.run_pure]
        · cases hv
    · cases h
theorem run_results {fn : Func} {c : Act} {w : World} {vs' : List Value} (h : (fn.results.toList.mapM (m := Sem) fun | .tmp t => pure (c.tmps.getD t undef) | .cell a t => do loadVar t (← asAddr (c.tmps.getD a undef))).run P w = .ok vs' w) : (results fn c.tmps).run P w = .ok (tupleOf vs') w := by
  unfold results
  rw [Array.mapM_eq_mapM_toList]
  simp only [Sem.run_bind, Sem.run_map]
  refine (congrArg (fun r : Result (List Value) => (r.andThen fun a w' => Result.ok a.toArray w').andThen fun a w' => (pure (if h : a.size = 1 then a[0] else Value.tuple a) : Sem Value).run P w') h).trans ?_
  match vs' with
  | [] => rfl
  | [v] => rfl
  | _ :: _ :: _ => rfl
theorem ren_tuple {β : Beta} : ∀ {vs vs' : List Value}, renL β vs = some vs' → ren β (tupleOf vs) = some (tupleOf vs')
  | [], vs', h => by cases h; rfl
  | [v], vs', h => by
    simp only [renL, Option.bind_eq_some_iff, Option.map_some, Option.some.injEq] at h
    obtain ⟨x, h1, rfl⟩ := h
    exact h1
  | v :: u :: l, vs', h => by
    have hl := renL_length h
    match vs', hl with
    | v' :: u' :: l', _ => simp only [tupleOf, ren, renA, h, Option.map_some]
theorem callD_ok (hmix : P.follows .mixedOrders = true) (F : Nat) : ∀ d, CS P (mcallD P F d)
  | 0 => fun f args s v s' h => by cases h
  | d + 1 => by
    intro f args s v s' h hw
    have ih := callD_ok hmix F d
    simp only [mcallD] at h
    split at h
    · cases h
    · rename_i fn hf
      split at h
      · cases h
      · rename_i body hb
        have key : ∀ e a, mcode P (mcallD P F d) F body ⟨margs args 0 .leaf, max args.length fn.ntmps⟩ s = some (e, a, s') → (e = .normal ∨ e = .ret) → (∃ vs, mresults P a.m s' fn.results.toList = some vs ∧ v = tupleOf vs) →
            s.c ≤ s'.c ∧ Dom s s' ∧ ∀ β w args', renL β args = some args' → Glob P β → Rel P β s w → Fresh β s.c s'.c → Calls P f ⟨args'⟩ w fun e w' => ∃ β' v', e = .returned v' ∧ ren β' v = some v' ∧ Step P β β' s s' w w' := by
          rintro e a hm he ⟨vs, hvs, rfl⟩
          obtain ⟨h1, h2⟩ := mcode_dom ih F hm hw
          refine ⟨h1, h2, fun β w args' hargs hG hR hfr => ?_⟩
          have hal := renL_length hargs
          refine calls_of_wp hf hb ?_
          refine (code_ok ih hmix F).1 body _ a s s' e β _ w _ hm hw hG ⟨rfl, ?_, ?_⟩ hR hfr ?_
          · simp only [Array.size_append, Array.size_replicate]
            rw [show (⟨args'⟩ : Array Value).size = args'.length from rfl]
            omega
          · intro t u ht
            rw [margs_get] at ht
            by_cases hlt : 0 ≤ t ∧ t < 0 + args.length
            · rw [if_pos hlt, Nat.sub_zero] at ht
              obtain ⟨u', e1, e2⟩ := renL_get hargs ht
              refine ⟨u', ?_, e2⟩
              have : t < (⟨args'⟩ : Array Value).size := by
                rw [show (⟨args'⟩ : Array Value).size = args'.length from rfl]; omega
              rw [Array.getElem?_append_left this]
              simpa using e1
            · rw [if_neg hlt] at ht; cases ht
          · intro β' c' w' hA hst
            obtain ⟨vs', e1, e2⟩ := mresults_sound hA hst.rel hvs
            have hres := run_results (fn := fn) e2
            have hret := ren_tuple e1
            rcases he with rfl | rfl
            · exact ⟨hA.defers, _, hres, β', _, rfl, hret, hst⟩
            · exact ⟨hA.defers, _, hres, β', _, rfl, hret, hst⟩
        split at h
        · rename_i a s1 hm
          simp only [Option.map_eq_some_iff, Prod.mk.injEq] at h
          obtain ⟨vs, hvs, rfl, rfl⟩ := h
          exact key _ a hm (.inl rfl) ⟨vs, hvs, rfl⟩
        · rename_i a s1 hm
          simp only [Option.map_eq_some_iff, Prod.mk.injEq] at h
          obtain ⟨vs, hvs, rfl, rfl⟩ := h
          exact key _ a hm (.inr rfl) ⟨vs, hvs, rfl⟩
        · cases h
end
end Go.Am
