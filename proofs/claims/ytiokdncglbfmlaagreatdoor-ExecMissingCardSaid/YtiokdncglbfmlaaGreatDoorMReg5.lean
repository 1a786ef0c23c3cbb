/- Regions of the abstract machine: the theorem. -/
import Derived.Test.YtiokdncglbfmlaaGreatDoorMReg4
namespace Go.Am
open Go
theorem getD_set_eq {listed : Array Bool} {i : Nat} (h : i < listed.size) : (listed.setIfInBounds i true).getD i false = true := by
  simp [Array.getD_eq_getD_getElem?, h]
theorem getD_set_other {listed : Array Bool} {i j : Nat} (h : j ≠ i) : (listed.setIfInBounds i true).getD j false = listed.getD j false := by
  simp [Array.getD_eq_getD_getElem?, Array.getElem?_setIfInBounds, Ne.symm h]
abbrev Dn (listed : Array Bool) (i : Nat) : Prop := listed.getD i false = true
theorem first_not {D : Nat → Prop} [DecidablePred D] : ∀ (l : List DRec), (∀ r ∈ l, D r.i) ∨ ∃ pre r post, l = pre ++ r :: post ∧ (∀ q ∈ pre, D q.i) ∧ ¬ D r.i
  | [] => .inl (by simp)
  | r :: l => by
    by_cases h : D r.i
    · rcases first_not (D := D) l with h1 | ⟨pre, q, post, rfl, h2, h3⟩
      · left
        intro q hq
        rcases List.mem_cons.1 hq with rfl | hq
        · exact h
        · exact h1 q hq
      · right
        refine ⟨r :: pre, q, post, rfl, ?_, h3⟩
        intro x hx
        rcases List.mem_cons.1 hx with rfl | hx
        · exact h
        · exact h2 x hx
    · exact .inr ⟨[], r, l, rfl, by simp, h⟩
section
variable {P : Program} {call : Caller} {ops : Array Oper} {β0 : Beta} {a0 : MA} {s0 sf : St} {w0 : World} {recs : List DRec}
structure Inv (P : Program) (ops : Array Oper) (β0 : Beta) (a0 : MA) (s0 sf : St) (w0 : World) (recs : List DRec) (listed : Array Bool) (β : Beta) (c : Act) (w : World) : Prop where
  size : listed.size = ops.size
  closed : ∀ j, Dn listed j → ∀ i, After ops i j → Dn listed i
  defers : c.defers = []
  n : c.tmps.size = a0.n
  tm : ∀ t v, tF (Dn listed) recs a0.m.get t = some v → ∃ v', c.tmps[t]? = some v' ∧ ren β v = some v'
  st : StepF P β0 β s0.h.get (hF (Dn listed) recs s0.h.get) s0.c sf.c w0 w
  fr : ∀ r ∈ recs, ¬ Dn listed r.i → Fresh β r.lo r.hi
theorem ready_spec {listed : Array Bool} {i : Nat} (h : i ∈ Region.ready .any ops listed) : ¬ Dn listed i ∧ (∃ o, ops[i]? = some o) ∧ ∀ k, After ops k i → Dn listed k := by
  obtain ⟨h1, o, ho, h2⟩ := mem_ready.1 h
  refine ⟨?_, ⟨o, ho⟩, ?_⟩
  · intro hd
    unfold Dn at hd
    rw [Array.getD_eq_getD_getElem?] at hd h1
    cases e : listed[i]? with
    | none => rw [e] at hd; cases hd
    | some b => rw [e] at hd h1; simp at hd h1; rw [hd] at h1; cases h1
  · rintro k ⟨o', ho', hk⟩
    rw [ho] at ho'
    cases ho'
    obtain ⟨e, he, hb, rfl⟩ := mem_edges.1 hk
    exact h2 e he hb
theorem inv_step (hC : CS P call) (hG : Glob P β0) (hat : ∀ pre r post, recs = pre ++ r :: post → (∃ a s, At P call ops a0 s0 pre r a s) ∧ (∀ q ∈ pre, Pair ops q r) ∧ (∀ e, After ops e r.i → ∃ q ∈ pre, q.i = e) ∧ r.lo ≤ r.hi ∧ s0.c ≤ r.lo ∧ r.hi ≤ sf.c ∧ ∀ q ∈ pre, q.hi ≤ r.lo)
    {listed : Array Bool} {β : Beta} {c : Act} {w : World} (hI : Inv P ops β0 a0 s0 sf w0 recs listed β c w) {pre post : List DRec} {r : DRec} (he : recs = pre ++ r :: post) (hr : r.i ∈ Region.ready .any ops listed) {Q : Exit → Act → World → Prop} {K : Act → World → Prop}
    (hK : ∀ β' c' w', Inv P ops β0 a0 s0 sf w0 recs (listed.setIfInBounds r.i true) β' c' w' → K c' w') : wpOp P ops Q r.i K c w := by
  obtain ⟨⟨a, s, hA⟩, hpair, _, hlohi, hlo0, hhi, hpre⟩ := hat pre r post he
  obtain ⟨hnd, _, hedge⟩ := ready_spec hr
  have hpost : ∀ q ∈ post, Pair ops r q ∧ r.hi ≤ q.lo := by
    intro q hq
    obtain ⟨p1, p2, rfl⟩ := List.append_of_mem hq
    obtain ⟨_, h2, _, _, _, _, h7⟩ := hat (pre ++ r :: p1) q p2 (by simp [he])
    exact ⟨h2 r (by simp), h7 r (by simp)⟩
  have hanc : ∀ q, Anc ops q r.i → Dn listed q := fun q h => anc_closed hI.closed h hedge
  have hpostD : ∀ q ∈ post, Dn listed q.i → Indep r q := by
    intro q hq hd
    rcases (hpost q hq).1.comp with h | h
    · exact absurd (anc_closed hI.closed h fun k hk => hI.closed _ hd k hk) hnd
    · exact h
  have hwf := sub_wf hA.wf hA.fit
  obtain ⟨hcle, hdom, hquiet⟩ := mdo_dom hC hA.hd hwf
  have hcle' : s.c ≤ r.hi := hcle
  -- the part of the store that it looks at
  have hkeep : ∀ b, r.md.keep b = true → hF (Dn listed) recs s0.h.get b = s.h.get b := by
    intro b hk
    rw [he, hF_append, hF_none (r :: post), hA.h b]
    · refine hF_congr pre rfl fun q hq hch => ⟨fun _ => trivial, fun _ => ?_⟩
      rcases (hpair q hq).comp with h | h
      · exact hanc _ h
      · exact (h.a b hch hk).elim
    · intro q hq hd
      rcases List.mem_cons.1 hq with rfl | hq
      · exact absurd hd hnd
      · cases hch : q.chg b with
        | false => rfl
        | true => exact ((hpostD q hq hd).b b hch hk).elim
  have h1 : ∀ b o, (St.mk (r.md.sub s.h) s.c).h.get b = some o → hF (Dn listed) recs s0.h.get b = some o := by
    intro b o hb
    simp only at hb
    rw [sub_get hA.wf hA.fit] at hb
    by_cases hk : r.md.keep b = true
    · rw [if_pos hk] at hb; rw [hkeep b hk]; exact hb
    · rw [if_neg hk] at hb; cases hb
  have htm : ∀ t, t ∈ r.o.looksAt ops → tF (Dn listed) recs a0.m.get t = a.m.get t := by
    intro t ht
    rw [he, tF_append, tF_none (r :: post), hA.t t]
    · refine tF_congr pre rfl fun q hq hds => ⟨fun _ => trivial, fun _ => hanc _ ((hpair q hq).tmp t (.inl ⟨hds, ht⟩))⟩
    · intro q hq hd hds
      rcases List.mem_cons.1 hq with rfl | hq
      · exact hnd hd
      · have := (hpost q hq).1.tmp t (.inr ⟨hds, ht⟩)
        exact hnd (anc_closed hI.closed this fun k hk => hI.closed _ hd k hk)
  have hm : ∀ t v, (lookMap a.m (r.o.looksAt ops) .leaf).get t = some v → ∃ v', c.tmps[t]? = some v' ∧ ren β v = some v' := by
    intro t v ht
    rw [lookMap_get] at ht
    by_cases hl : t ∈ r.o.looksAt ops
    · rw [if_pos hl] at ht
      exact hI.tm t v (by rw [htm t hl]; exact ht)
    · rw [if_neg hl] at ht; cases ht
  have h3 : ∀ b o, r.chg b = false → (St.mk (r.md.sub s.h) s.c).h.get b = some o → (St.mk r.h' r.hi).h.get b = some o := by
    intro b o hch hb
    have hsome := hb
    simp only at hb
    rw [sub_get hA.wf hA.fit] at hb
    by_cases hk : r.md.keep b = true
    · have hnw : r.wr = false := by
        cases hwr : r.wr with
        | false => rfl
        | true => simp [DRec.chg, hwr, hk] at hch
      have hnew : ¬ (s.c ≤ b ∧ b < r.hi) := by
        rintro ⟨e1, e2⟩
        simp only [DRec.chg, hA.lo, Nat.ble_eq_true_of_le e1, show b.blt r.hi = true from Nat.ble_eq_true_of_le e2, Bool.and_self, Bool.or_true] at hch
        cases hch
      rcases hquiet (by simpa [DRec.wr] using hnw) with e | ⟨x, e⟩
      · rw [e]; exact hsome
      · have e2 : r.hi = s.c + 1 := congrArg St.c e
        rw [e]
        simp only [St.new, PMap.get_set]
        rw [if_neg (by omega)]
        exact hsome
    · rw [if_neg hk] at hb; cases hb
  have hrelsub := rel_sub (s := ⟨r.md.sub s.h, s.c⟩) hI.st.rel h1
  have hrmem : r ∈ recs := by rw [he]; simp
  have hfresh : Fresh β s.c r.hi := by have := hI.fr r hrmem hnd; rw [hA.lo] at this; exact this
  refine mdo_wp (s := ⟨r.md.sub s.h, s.c⟩) (s' := ⟨r.h', r.hi⟩) hC hA.ho hA.hd hwf (glob_mono hG hI.st.ext) hm hrelsub hfresh ?_
  intro β' v' w' hv hst
  refine hK β' _ w' ?_
  have hisz : r.i < listed.size := by
    have := (Array.getElem?_eq_some_iff.1 hA.ho).1
    rw [hI.size]; exact this
  have hD' : ∀ j, Dn (listed.setIfInBounds r.i true) j ↔ (Dn listed j ∨ j = r.i) := by
    intro j
    by_cases hj : j = r.i
    · subst hj; simp [Dn, getD_set_eq hisz]
    · unfold Dn; rw [getD_set_other hj]; simp [hj]
  have hne : ∀ q ∈ pre ++ post, q.i ≠ r.i := by
    intro q hq
    rcases List.mem_append.1 hq with hq | hq
    · exact (hpair q hq).ne
    · exact fun e => (hpost q hq).1.ne e.symm
  refine ⟨by simp [hI.size], ?_, ?_, ?_, ?_, ?_, ?_⟩
  · intro j hj k hk
    rw [hD'] at hj ⊢
    rcases hj with hj | rfl
    · exact .inl (hI.closed j hj k hk)
    · exact .inl (hedge k hk)
  · cases hd : r.o.dst <;> simp [Act.put, hI.defers]
  · cases hd : r.o.dst <;> simp [Act.put, hI.n]
  · intro t v ht
    by_cases hds : r.o.dst = some t
    · have e1 : tF (Dn (listed.setIfInBounds r.i true)) recs a0.m.get t = some r.v := by
        rw [he, tF_append]
        simp only [tF]
        rw [tF_none post]
        · rw [if_pos ⟨(hD' _).2 (.inr rfl), hds⟩]
        · intro q hq _
          exact (hpost q hq).1.dst t hds
      rw [e1] at ht
      cases ht
      refine ⟨v', ?_, hv⟩
      have := hA.dlt t hds
      simp [Act.put, hds, hI.n, this]
    · have e1 : tF (Dn (listed.setIfInBounds r.i true)) recs a0.m.get t = tF (Dn listed) recs a0.m.get t := by
        refine tF_congr recs rfl fun q hq hq2 => ?_
        rw [hD']
        constructor
        · rintro (h | h)
          · exact h
          · exfalso
            rw [he] at hq
            rcases List.mem_append.1 hq with hq | hq
            · exact hne q (by simp [hq]) h
            · rcases List.mem_cons.1 hq with rfl | hq
              · exact hds hq2
              · exact hne q (by simp [hq]) h
        · exact .inl
      rw [e1] at ht
      obtain ⟨u, hu1, hu2⟩ := hI.tm t v ht
      refine ⟨u, ?_, ren_mono hst.ext hu2⟩
      cases hd : r.o.dst with
      | none => exact hu1
      | some d =>
        have : d ≠ t := fun e => hds (by rw [hd, e])
        simp [Act.put, Array.getElem?_setIfInBounds_ne this, hu1]
  · refine stepF_congr (stepF_trans hI.st (step_merge hI.st.rel hst h1 h3) hA.c0 hhi) ?_
    funext b
    by_cases hch : r.chg b = true
    · rw [if_pos hch, he, hF_append]
      simp only [hF]
      rw [hF_none post]
      · rw [if_pos ⟨(hD' _).2 (.inr rfl), hch⟩]
      · intro q hq hd
        rcases (hD' _).1 hd with hd | hd
        · cases hcq : q.chg b with
          | false => rfl
          | true => exact ((hpostD q hq hd).c b hch hcq).elim
        · exact absurd hd (hne q (by simp [hq]))
    · rw [if_neg hch]
      refine (hF_congr recs rfl fun q hq hq2 => ?_)
      rw [hD']
      constructor
      · exact .inl
      · rintro (h | h)
        · exact h
        · exfalso
          rw [he] at hq
          rcases List.mem_append.1 hq with hq | hq
          · exact hne q (by simp [hq]) h
          · rcases List.mem_cons.1 hq with rfl | hq
            · exact hch hq2
            · exact hne q (by simp [hq]) h
  · intro q hq hnq i hi1 hi2
    have hnq' : ¬ Dn listed q.i ∧ q.i ≠ r.i := by
      rw [hD'] at hnq
      exact ⟨fun h => hnq (.inl h), fun h => hnq (.inr h)⟩
    have hb := hI.fr q hq hnq'.1 i hi1 hi2
    cases e : β' i with
    | none => rfl
    | some p =>
      exfalso
      have h5 := hst.new i p hb e
      simp only at h5
      rw [he] at hq
      rcases List.mem_append.1 hq with hq | hq
      · have := hpre q hq
        have := hA.lo
        omega
      · rcases List.mem_cons.1 hq with rfl | hq
        · exact hnq'.2 rfl
        · have := (hpost q hq).2
          omega
theorem mregion_wp (hC : CS P call) (hmix : P.follows .mixedOrders = true) {id : Nat} {a af : MA} {c : Act} {w : World} (h : mregion P call ops a s0 = some (af, sf)) (hw : Wf s0) (hG : Glob P β0) (hd : c.defers = []) (hn : c.tmps.size = a.n)
    (htm : ∀ t v, a.m.get t = some v → ∃ v', c.tmps[t]? = some v' ∧ ren β0 v = some v') (hR : Rel P β0 s0 w) (hf : Fresh β0 s0.c sf.c) {Q : Exit → Act → World → Prop}
    (hQ : ∀ β' c' w', c'.defers = [] → c'.tmps.size = af.n → (∀ t v, af.m.get t = some v → ∃ v', c'.tmps[t]? = some v' ∧ ren β' v = some v') → Step P β0 β' s0 sf w w' → Q .normal c' w') : (Code.region id ops true).wp P Q c w := by
  unfold mregion at h
  obtain ⟨hok, h⟩ := bif_none h
  obtain ⟨hplan, _⟩ := andb hok
  obtain ⟨recs, htr, hlen, hall⟩ := mdraw_tr (planOf ops) a s0 [] h hplan (by simp)
  simp only [List.nil_append] at hall hlen
  obtain ⟨hat, hfin, hfint, hfinn, hfcle, _⟩ := tr_at hC htr hw (a0 := a) (s0 := s0) (fun _ => rfl) (fun _ => rfl) rfl (Nat.le_refl _)
  simp only [List.nil_append] at hat hfin hfint
  refine wp_region_any hmix ?_
  have hdrew : StepF P β0 β0 s0.h.get s0.h.get s0.c sf.c w { w with drawn := w.drawn + 1 } := by
    have := step_drew (w' := { w with drawn := w.drawn + 1 }) hR rfl rfl rfl rfl
    exact ⟨this.ext, (fun i p e1 e2 => by rw [e1] at e2; cases e2), relF_of this.rel, this.size, this.os, this.tape, this.output, this.frame, this.old⟩
  have key : ∀ (fuel : Nat) (listed : Array Bool) (β : Beta) (c : Act) (w' : World), Inv P ops β0 a s0 sf w recs listed β c w' → recs.countP (fun r => !(listed.getD r.i false)) = fuel → wpAny P .any ops Q fuel listed c w' := by
    have hdone : ∀ (listed : Array Bool) (β : Beta) (c : Act) (w' : World), Inv P ops β0 a s0 sf w recs listed β c w' → Region.ready .any ops listed = [] → Q .normal c w' := by
      intro listed β c w' hI hr
      have hD : ∀ r ∈ recs, Dn listed r.i := by
        rcases first_not (D := Dn listed) recs with h | ⟨pre, r, post, he, h1, h2⟩
        · exact h
        · exfalso
          obtain ⟨⟨a1, s1, hA⟩, _, hed, _⟩ := hat pre r post he
          have hisz : r.i < listed.size := by
            have := (Array.getElem?_eq_some_iff.1 hA.ho).1
            rw [hI.size]; exact this
          have : r.i ∈ Region.ready .any ops listed := by
            refine mem_ready.2 ⟨?_, r.o, hA.ho, ?_⟩
            · unfold Dn at h2
              rw [Array.getD_eq_getD_getElem?, Array.getElem?_eq_getElem hisz] at h2 ⊢
              simpa using h2
            · intro e he1 hb
              obtain ⟨q, hq, e2⟩ := hed e.on ⟨r.o, hA.ho, mem_edges.2 ⟨e, he1, hb, rfl⟩⟩
              have := h1 q hq
              rw [e2] at this
              exact this
          rw [hr] at this
          cases this
      have e1 : hF (Dn listed) recs s0.h.get = sf.h.get := by
        funext b
        rw [hfin b]
        exact hF_congr recs rfl fun q hq _ => ⟨fun _ => trivial, fun _ => hD q hq⟩
      have e2 : ∀ t, tF (Dn listed) recs a.m.get t = af.m.get t := by
        intro t
        rw [hfint t]
        exact tF_congr recs rfl fun q hq _ => ⟨fun _ => trivial, fun _ => hD q hq⟩
      have hst := hI.st
      rw [e1] at hst
      refine hQ β c w' hI.defers (hI.n.trans hfinn.symm) (fun t v ht => hI.tm t v (by rw [e2]; exact ht)) ?_
      exact ⟨hst.ext, hst.new, hfcle, rel_of hst.rel, hst.size, hst.os, hst.tape, hst.output, hst.frame, hst.old⟩
    intro fuel
    induction fuel with
    | zero =>
      intro listed β c w' hI hcount
      have hr : Region.ready .any ops listed = [] := by
        cases hr : Region.ready .any ops listed with
        | nil => rfl
        | cons i l =>
          exfalso
          have hi : i ∈ Region.ready .any ops listed := by rw [hr]; simp
          obtain ⟨hnd, ⟨o, ho⟩, _⟩ := ready_spec hi
          obtain ⟨r, hr1, rfl⟩ := hall i (Array.getElem?_eq_some_iff.1 ho).1
          have := List.countP_eq_zero.1 hcount r hr1
          refine hnd ?_
          simpa [Dn] using this
      exact ⟨hr, hdone listed β c w' hI hr⟩
    | succ fuel ih =>
      intro listed β c w' hI hcount
      refine ⟨hdone listed β c w' hI, fun i hi => ?_⟩
      obtain ⟨hnd, ⟨o, ho⟩, _⟩ := ready_spec hi
      obtain ⟨r, hr1, rfl⟩ := hall i (Array.getElem?_eq_some_iff.1 ho).1
      obtain ⟨pre, post, he⟩ := List.append_of_mem hr1
      refine inv_step hC hG hat hI he hi fun β' c' w'' hI' => ih _ β' c' w'' hI' ?_
      have hisz : r.i < listed.size := by
        have := (Array.getElem?_eq_some_iff.1 ho).1
        rw [hI.size]; exact this
      obtain ⟨_, hpair, _⟩ := hat pre r post he
      have hsame : ∀ (l : List DRec), (∀ q ∈ l, q.i ≠ r.i) → l.countP (fun q => !((listed.setIfInBounds r.i true).getD q.i false)) = l.countP (fun q => !(listed.getD q.i false)) := by
        intro l hl
        refine List.countP_congr fun q hq => ?_
        rw [getD_set_other (hl q hq)]
      have hpost : ∀ q ∈ post, q.i ≠ r.i := by
        intro q hq e
        obtain ⟨p1, p2, rfl⟩ := List.append_of_mem hq
        obtain ⟨_, h2, _⟩ := hat (pre ++ r :: p1) q p2 (by simp [he])
        exact (h2 r (by simp)).ne e.symm
      rw [he, List.countP_append, List.countP_cons] at hcount ⊢
      rw [hsame pre fun q hq => (hpair q hq).ne, hsame post hpost]
      have hnd' : listed.getD r.i false = false := by simpa [Dn] using hnd
      simp only [getD_set_eq hisz, hnd', Bool.not_true, Bool.not_false, if_true, Bool.false_eq_true, if_false] at hcount ⊢
      omega
  have hsz : recs.countP (fun r => !((Array.replicate ops.size false).getD r.i false)) = recs.length := by
    rw [List.countP_eq_length]
    intro r _
    have : (Array.replicate ops.size false).getD r.i false = false := by
      rw [Array.getD_eq_getD_getElem?]
      by_cases h : r.i < ops.size <;> simp [h]
    simp [this]
  refine key ops.size _ β0 c _ ⟨by simp, ?_, hd, hn, ?_, ?_, ?_⟩ (hsz.trans hlen)
  · intro j hj
    exfalso
    unfold Dn at hj
    rw [Array.getD_eq_getD_getElem?] at hj
    by_cases h : j < ops.size <;> simp [h] at hj
  · intro t v ht
    rw [tF_none] at ht
    · exact htm t v ht
    · intro q _ hq
      exfalso
      unfold Dn at hq
      rw [Array.getD_eq_getD_getElem?] at hq
      by_cases h : q.i < ops.size <;> simp [h] at hq
  · refine stepF_congr hdrew ?_
    funext b
    rw [hF_none]
    intro q _ hq
    exfalso
    unfold Dn at hq
    rw [Array.getD_eq_getD_getElem?] at hq
    by_cases h : q.i < ops.size <;> simp [h] at hq
  · intro r hr _ i h1 h2
    obtain ⟨pre, post, he⟩ := List.append_of_mem hr
    obtain ⟨_, _, _, _, h5, h6, _⟩ := hat pre r post he
    exact hf i (by omega) (by omega)
end
end Go.Am
