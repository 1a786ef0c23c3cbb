/- Regions of the abstract machine: any order comes to what the canonical one does. -/
import Derived.Test.YtiokdncglbfmlaaGreatDoorMReg3
namespace Go.Am
open Go
structure Indep (q r : DRec) : Prop where
  a : ∀ b, q.chg b = true → r.md.keep b = true → False
  b : ∀ b, r.chg b = true → q.md.keep b = true → False
  c : ∀ b, q.chg b = true → r.chg b = true → False
structure Pair (ops : Array Oper) (q r : DRec) : Prop where
  ne : q.i ≠ r.i
  tmp : ∀ d, (q.o.dst = some d ∧ d ∈ r.o.looksAt ops) ∨ (r.o.dst = some d ∧ d ∈ q.o.looksAt ops) → Anc ops q.i r.i
  dst : ∀ d, q.o.dst = some d → r.o.dst ≠ some d
  comp : Anc ops q.i r.i ∨ Indep q r
theorem apart_spec {m n : Mode} (h : m.apart n = true) {b : Nat} (h1 : m.keep b = true) (h2 : n.keep b = true) : False := by
  cases m with
  | only F =>
    simp only [Mode.apart, List.all_eq_true] at h
    have := h b (keep_only.1 h1)
    rw [h2] at this
    cases this
  | but X c =>
    cases n with
    | only F =>
      simp only [Mode.apart, List.all_eq_true] at h
      have := h b (keep_only.1 h2)
      rw [h1] at this
      cases this
    | but Y d => cases h
theorem newFree_spec {lo hi : Nat} {md : Mode} (h : newFree lo hi md = true) {b : Nat} (h1 : lo ≤ b) (h2 : b < hi) (h3 : md.keep b = true) : False := by
  cases md with
  | only F =>
    simp only [newFree, List.all_eq_true] at h
    have := h b (keep_only.1 h3)
    rw [Nat.ble_eq_true_of_le h1, show b.blt hi = true from Nat.ble_eq_true_of_le h2] at this
    cases this
  | but X c =>
    simp only [newFree, List.all_eq_true] at h
    have := h b ((mem_span _ _ _).2 (by omega))
    obtain ⟨h4, h5⟩ := keep_but.1 h3
    rw [Bool.or_eq_true] at this
    rcases this with g | g
    · have := ble_le g; omega
    · exact h5 (by simpa using g)
theorem chg_cases {r : DRec} {b : Nat} (h : r.chg b = true) : (r.wr = true ∧ r.md.keep b = true) ∨ (r.lo ≤ b ∧ b < r.hi) := by
  simp only [DRec.chg, Bool.or_eq_true, Bool.and_eq_true] at h
  exact h.imp id fun ⟨h1, h2⟩ => ⟨ble_le h1, blt_lt h2⟩
theorem compat_spec {ops : Array Oper} {q r : DRec} (h : compat ((masks ops).getD r.i 0) q r = true) : Anc ops q.i r.i ∨ Indep q r := by
  unfold compat at h
  rw [Bool.or_eq_true] at h
  rcases h with h | h
  · exact .inl (masks_anc h)
  · right
    obtain ⟨h12, h345⟩ := andb h
    obtain ⟨h1, h2⟩ := andb h12
    obtain ⟨h34, h5⟩ := andb h345
    obtain ⟨h3, h4⟩ := andb h34
    have h5 := ble_le h5
    have c1 : q.wr = true → q.md.apart r.md = true := fun e => by rw [e] at h1; simpa using h1
    have c2 : r.wr = true → r.md.apart q.md = true := fun e => by rw [e] at h2; simpa using h2
    refine ⟨?_, ?_, ?_⟩
    · intro b hb hk
      rcases chg_cases hb with ⟨e1, e2⟩ | ⟨e1, e2⟩
      · exact apart_spec (c1 e1) e2 hk
      · exact newFree_spec h3 e1 e2 hk
    · intro b hb hk
      rcases chg_cases hb with ⟨e1, e2⟩ | ⟨e1, e2⟩
      · exact apart_spec (c2 e1) e2 hk
      · exact newFree_spec h4 e1 e2 hk
    · intro b hb hk
      rcases chg_cases hb with ⟨e1, e2⟩ | ⟨e1, e2⟩ <;> rcases chg_cases hk with ⟨e3, e4⟩ | ⟨e3, e4⟩
      · exact apart_spec (c1 e1) e2 e4
      · exact newFree_spec h4 e3 e4 e2
      · exact newFree_spec h3 e1 e2 e4
      · omega
theorem pairOk_spec {ops : Array Oper} {q r : DRec} (h : pairOk ops ((masks ops).getD r.i 0) q.i q.o r.o = true) : (∀ d, (q.o.dst = some d ∧ d ∈ r.o.looksAt ops) ∨ (r.o.dst = some d ∧ d ∈ q.o.looksAt ops) → Anc ops q.i r.i) ∧ ∀ d, q.o.dst = some d → r.o.dst ≠ some d := by
  unfold pairOk at h
  obtain ⟨h1, h2⟩ := andb h
  refine ⟨?_, ?_⟩
  · intro d hd
    have : (dstIn q.o (r.o.looksAt ops) || dstIn r.o (q.o.looksAt ops)) = true := by
      rcases hd with ⟨e, hm⟩ | ⟨e, hm⟩
      · simp [dstIn, e, hm]
      · simp [dstIn, e, hm]
    rw [this] at h1
    exact masks_anc (by simpa using h1)
  · intro d e1 e2
    rw [e1, e2] at h2
    simp at h2
section
variable {P : Program} {call : Caller} {ops : Array Oper}
/-- The canonical run. -/
inductive Tr (P : Program) (call : Caller) (ops : Array Oper) : MA → St → List DRec → List DRec → MA → St → Prop
  | nil (a s prev) : Tr P call ops a s prev [] a s
  | cons {a s prev r l a' af sf} (ho : ops[r.i]? = some r.o) (hd : mdo P call ops r.o (lookMap a.m (r.o.looksAt ops) .leaf) ⟨r.md.sub s.h, s.c⟩ = some (r.v, ⟨r.h', r.hi⟩)) (hlo : r.lo = s.c) (hfit : r.md.fit s.c)
      (hp : ∀ q ∈ prev, Pair ops q r) (he : ∀ e, After ops e r.i → ∃ q ∈ prev, q.i = e) (ha : mput a r.o.dst r.v = some a') (ht : Tr P call ops a' ⟨r.md.merge s.h r.h' r.lo r.hi, r.hi⟩ (prev ++ [r]) l af sf) : Tr P call ops a s prev (r :: l) af sf
theorem mem_outOf_fit {s : St} {X : List Nat} : (Mode.but (X.filter fun b => b.blt s.c) s.c).fit s.c := ⟨rfl, fun b hb => by
  have := (List.mem_filter.1 hb).2
  exact blt_lt this⟩
theorem tryMode_spec {i : Nat} {o : Oper} {m : PMap Value} {s : St} {md : Mode} {r : DRec} (h : tryMode P call ops i o m s md = some r) : r.i = i ∧ r.o = o ∧ r.md = md ∧ r.lo = s.c ∧ mdo P call ops o m ⟨md.sub s.h, s.c⟩ = some (r.v, ⟨r.h', r.hi⟩) := by
  unfold tryMode at h
  split at h
  · rename_i v s' hd
    cases h
    exact ⟨rfl, rfl, rfl, rfl, hd⟩
  · cases h
theorem mpick_spec {ms : List Nat} {i : Nat} {o : Oper} {m : PMap Value} {s : St} {recs : List DRec} {r : DRec} (h : mpick P call ops ms i o m s recs = some r) : r.i = i ∧ r.o = o ∧ r.md.fit s.c ∧ r.lo = s.c ∧ mdo P call ops o m ⟨r.md.sub s.h, s.c⟩ = some (r.v, ⟨r.h', r.hi⟩) := by
  unfold mpick at h
  rcases bif_some h with ⟨_, h⟩ | ⟨_, h⟩
  · split at h
    · rename_i r' hr
      cases h
      obtain ⟨h1, h2, h3, h4, h5⟩ := tryMode_spec hr
      exact ⟨h1, h2, by rw [h3]; trivial, h4, by rw [h3]; exact h5⟩
    · obtain ⟨h1, h2, h3, h4, h5⟩ := tryMode_spec h
      exact ⟨h1, h2, by rw [h3]; exact mem_outOf_fit, h4, by rw [h3]; exact h5⟩
  · obtain ⟨h1, h2, h3, h4, h5⟩ := tryMode_spec h
    exact ⟨h1, h2, by rw [h3]; trivial, h4, by rw [h3]; exact h5⟩
theorem mdraw_tr : ∀ (l : List Nat) (a : MA) (s : St) (prev : List DRec) {af : MA} {sf : St}, mdraw P call ops (masks ops) l a s prev = some (af, sf) → planOk ops (masks ops) l (prev.map (·.i)) = true → (∀ q ∈ prev, ops[q.i]? = some q.o) →
    ∃ recs, Tr P call ops a s prev recs af sf ∧ (prev ++ recs).length = ops.size ∧ ∀ i, i < ops.size → ∃ r ∈ prev ++ recs, r.i = i
  | [], a, s, prev, af, sf, h, hp, _ => by
    simp only [mdraw, Option.some.injEq, Prod.mk.injEq] at h
    obtain ⟨rfl, rfl⟩ := h
    obtain ⟨hlen, hp⟩ := andb hp
    refine ⟨[], .nil _ _ _, by simpa using beq_eq hlen, fun i hi => ?_⟩
    simp only [List.all_eq_true] at hp
    have := hp i (List.mem_range.2 hi)
    simpa using this
  | j :: l, a, s, prev, af, sf, h, hp, hprev => by
    simp only [mdraw] at h
    split at h
    · cases h
    · rename_i o ho
      split at h
      · cases h
      · rename_i r hr
        have h_ := bif_none h; clear h; obtain ⟨hc, h⟩ := h_
        obtain ⟨rfl, rfl, h3, h4, h5⟩ := mpick_spec hr
        split at h
        · rename_i a' ha
          simp only [planOk, ho] at hp
          obtain ⟨hp1, hp2⟩ := andb hp
          obtain ⟨hp3, hp4⟩ := andb hp1
          obtain ⟨hp5, hp6⟩ := andb hp4
          have hrec := mdraw_tr l a' ⟨r.md.merge s.h r.h' r.lo r.hi, r.hi⟩ (prev ++ [r]) h (by simpa using hp2) (by
            intro q hq
            rcases List.mem_append.1 hq with hq | hq
            · exact hprev q hq
            · simp only [List.mem_singleton] at hq; subst hq; exact ho)
          obtain ⟨recs, htr, hlen, hall⟩ := hrec
          refine ⟨r :: recs, .cons ho h5 h4 h3 ?_ ?_ ha htr, by simpa using hlen, ?_⟩
          · intro q hq
            have hpo := List.all_eq_true.1 hp6 q.i (List.mem_map.2 ⟨q, hq, rfl⟩)
            rw [hprev q hq] at hpo
            obtain ⟨t1, t2⟩ := pairOk_spec hpo
            refine ⟨?_, t1, t2, compat_spec (List.all_eq_true.1 hc q hq)⟩
            intro e
            have : (prev.map (·.i)).contains r.i = true := by
              simp only [List.contains_iff_mem, List.mem_map]
              exact ⟨q, hq, e⟩
            rw [this] at hp3
            cases hp3
          · rintro e ⟨o', ho', he⟩
            rw [ho] at ho'
            cases ho'
            have := List.all_eq_true.1 hp5 e he
            simpa using this
          · intro i hi
            obtain ⟨r', hr', e⟩ := hall i hi
            exact ⟨r', by simpa using hr', e⟩
        · cases h
/-- Facts at a record of the canonical run. -/
structure At (P : Program) (call : Caller) (ops : Array Oper) (a0 : MA) (s0 : St) (pre : List DRec) (r : DRec) (a : MA) (s : St) : Prop where
  ho : ops[r.i]? = some r.o
  hd : mdo P call ops r.o (lookMap a.m (r.o.looksAt ops) .leaf) ⟨r.md.sub s.h, s.c⟩ = some (r.v, ⟨r.h', r.hi⟩)
  lo : r.lo = s.c
  fit : r.md.fit s.c
  wf : Wf s
  h : ∀ b, s.h.get b = hF (fun _ => True) pre s0.h.get b
  t : ∀ t, a.m.get t = tF (fun _ => True) pre a0.m.get t
  n : a.n = a0.n
  dlt : ∀ d, r.o.dst = some d → d < a0.n
  c0 : s0.c ≤ s.c
theorem mput_get {a a' : MA} {d : Option Tmp} {v : Value} (h : mput a d v = some a') (t : Nat) : a'.m.get t = (if d = some t then some v else a.m.get t) ∧ a'.n = a.n ∧ ∀ x, d = some x → x < a.n := by
  unfold mput at h
  split at h
  · cases h; simp
  · rename_i x
    obtain ⟨hx, h⟩ := bif_none h
    cases h
    refine ⟨?_, rfl, fun y hy => by cases hy; exact blt_lt hx⟩
    simp only [PMap.get_set, Option.some.injEq]
    by_cases e : t = x
    · subst e; simp
    · rw [if_neg e, if_neg (Ne.symm e)]
theorem tr_at (hC : CS P call) {a0 : MA} {s0 : St} : ∀ {a : MA} {s : St} {prev recs : List DRec} {af : MA} {sf : St}, Tr P call ops a s prev recs af sf → Wf s → (∀ b, s.h.get b = hF (fun _ => True) prev s0.h.get b) → (∀ t, a.m.get t = tF (fun _ => True) prev a0.m.get t) → a.n = a0.n → s0.c ≤ s.c →
    (∀ pre r post, recs = pre ++ r :: post → (∃ a s, At P call ops a0 s0 (prev ++ pre) r a s) ∧ (∀ q ∈ prev ++ pre, Pair ops q r) ∧ (∀ e, After ops e r.i → ∃ q ∈ prev ++ pre, q.i = e) ∧ r.lo ≤ r.hi ∧ s.c ≤ r.lo ∧ r.hi ≤ sf.c ∧ ∀ q ∈ pre, q.hi ≤ r.lo) ∧
    (∀ b, sf.h.get b = hF (fun _ => True) (prev ++ recs) s0.h.get b) ∧ (∀ t, af.m.get t = tF (fun _ => True) (prev ++ recs) a0.m.get t) ∧ af.n = a0.n ∧ s.c ≤ sf.c ∧ Wf sf := by
  intro a s prev recs af sf htr
  induction htr with
  | nil a s prev =>
    intro hw hh ht hn hc
    refine ⟨?_, by simpa using hh, by simpa using ht, hn, Nat.le_refl _, hw⟩
    intro pre r post e
    have := congrArg List.length e
    simp at this
  | @cons a s prev r l a' af sf ho hd hlo hfit hp he ha htr ih =>
    intro hw hh ht hn hc
    have hws := sub_wf hw hfit
    obtain ⟨hcle, hdom, _⟩ := mdo_dom hC hd hws
    have hw' := dom_wf hdom hcle hws
    have hcle' : s.c ≤ r.hi := hcle
    have hmg : ∀ b, (r.md.merge s.h r.h' r.lo r.hi).get b = if r.md.keep b = true ∨ (s.c ≤ b ∧ b < r.hi) then r.h'.get b else s.h.get b := by
      intro b
      rw [hlo]
      exact merge_get (s' := ⟨r.h', r.hi⟩) hw hw' hcle hfit b
    have hq : quietOp r.o.op = true → ∀ b, r.md.keep b = true → ¬ (s.c ≤ b ∧ b < r.hi) → r.h'.get b = s.h.get b := by
      intro hqo b hk hb
      have hkeep := sub_get hw hfit b
      rw [if_pos hk] at hkeep
      obtain ⟨_, _, hqu⟩ := mdo_dom hC hd hws
      rcases hqu hqo with e | ⟨x, e⟩
      · have : r.h' = r.md.sub s.h := congrArg St.h e
        rw [this, hkeep]
      · have e1 : r.h' = (r.md.sub s.h).set s.c (some x) := congrArg St.h e
        have e2 : r.hi = s.c + 1 := congrArg St.c e
        rw [e1, PMap.get_set, if_neg (by omega), hkeep]
    have hstep : ∀ b, (r.md.merge s.h r.h' r.lo r.hi).get b = hF (fun _ => True) (prev ++ [r]) s0.h.get b := by
      intro b
      rw [hF_append, hmg]
      simp only [hF, true_and]
      have hb := hh b
      by_cases hch : r.chg b = true
      · rw [if_pos hch]
        rcases chg_cases hch with ⟨_, hk⟩ | hk
        · rw [if_pos (.inl hk)]
        · rw [hlo] at hk; rw [if_pos (.inr hk)]
      · rw [if_neg hch, ← hb]
        by_cases hn1 : s.c ≤ b ∧ b < r.hi
        · exfalso
          apply hch
          simp only [DRec.chg, Bool.or_eq_true, Bool.and_eq_true]
          right
          rw [hlo]
          exact ⟨Nat.ble_eq_true_of_le hn1.1, Nat.ble_eq_true_of_le hn1.2⟩
        · by_cases hk : r.md.keep b = true
          · rw [if_pos (.inl hk)]
            have hnw : r.wr = false := by
              cases hwr : r.wr with
              | false => rfl
              | true => exact absurd (by simp [DRec.chg, hwr, hk]) hch
            refine hq ?_ b hk hn1
            simpa [DRec.wr] using hnw
          · rw [if_neg (by rintro (h | h) <;> contradiction)]
    have hput := mput_get ha
    have hstept : ∀ t, a'.m.get t = tF (fun _ => True) (prev ++ [r]) a0.m.get t := by
      intro t
      rw [tF_append, (hput t).1, ht t]
      simp only [tF, true_and]
    obtain ⟨i1, i2, i3, i4, i5, i6⟩ := ih (by rw [hlo]; exact merge_wf (s' := ⟨r.h', r.hi⟩) hw hw' hcle hfit) hstep hstept ((hput 0).2.1.trans hn) (by simp only; omega)
    refine ⟨?_, by simpa using i2, by simpa using i3, i4, by simp only at i5; omega, i6⟩
    intro pre r' post e
    cases pre with
    | nil =>
      simp only [List.nil_append, List.cons.injEq] at e
      obtain ⟨rfl, rfl⟩ := e
      refine ⟨⟨a, s, ho, hd, hlo, hfit, hw, by simpa using hh, by simpa using ht, hn, fun d hd' => by rw [← hn]; exact (hput 0).2.2 d hd', hc⟩, by simpa using hp, by simpa using he, by omega, by omega, by simpa using i5, by simp⟩
    | cons x pre =>
      simp only [List.cons_append, List.cons.injEq] at e
      obtain ⟨rfl, e⟩ := e
      obtain ⟨⟨a1, s1, h1⟩, h2, h3, h4, h5, h6, h7⟩ := i1 pre r' post e
      refine ⟨⟨a1, s1, by simpa using h1⟩, by simpa using h2, by simpa using h3, h4, by simp only at h5; omega, h6, fun q hq => ?_⟩
      rcases List.mem_cons.1 hq with rfl | hq
      · simpa using h5
      · exact h7 q hq
end
end Go.Am
