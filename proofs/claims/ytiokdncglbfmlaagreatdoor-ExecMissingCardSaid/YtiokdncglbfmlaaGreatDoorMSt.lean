/- The abstract store, how a world bears it, and what a step keeps. -/
import Derived.Test.YtiokdncglbfmlaaGreatDoorMVal
import Derived.Test.YtiokdncglbfmlaaGreatDoorMHeap
import Derived.Extends
namespace Go.Am
open Go
inductive AObj where
  | cells (l : List Value) (e : TypeId)
  | map (es : List MapEntry) (clock : Nat)
  | sIter (s : ByteArray) (pos : Nat)
structure St where
  h : PMap AObj
  c : Nat
def renE (β : Beta) (x : MapEntry) : Option MapEntry := (ren β x.key).bind fun k => (ren β x.val).map fun v => ⟨k, v, x.born⟩
def renEs (β : Beta) : List MapEntry → Option (List MapEntry)
  | [] => some []
  | x :: l => (renE β x).bind fun x' => (renEs β l).map fun l' => x' :: l'
theorem renE_mono {β β' : Beta} (h : β.le β') {x x' : MapEntry} (e : renE β x = some x') : renE β' x = some x' := by
  simp only [renE, Option.bind_eq_some_iff, Option.map_eq_some_iff] at e ⊢
  obtain ⟨k, e1, v, e2, rfl⟩ := e
  exact ⟨k, ren_mono h e1, v, ren_mono h e2, rfl⟩
theorem renEs_mono {β β' : Beta} (h : β.le β') : ∀ {l l' : List MapEntry}, renEs β l = some l' → renEs β' l = some l'
  | [], _, e => e
  | x :: l, l', e => by
    simp only [renEs, Option.bind_eq_some_iff, Option.map_eq_some_iff] at e ⊢
    obtain ⟨k, e1, v, e2, rfl⟩ := e
    exact ⟨k, renE_mono h e1, v, renEs_mono h e2, rfl⟩
def sz (P : Program) (e : TypeId) : Nat := match P.info? e with | some i => i.size | none => 0
/-- An object of the abstract store, in a world. -/
def Fits (P : Program) (β : Beta) (w : World) (i : Nat) : AObj → Prop
  | .cells l e => ∃ b K c lo hi, β i = some (b, K) ∧ w.heap[b]? = some (.cells c e (lo, hi)) ∧ c.size = K * sz P e ∧ (∀ o, o < c.size → ¬ (lo ≤ o ∧ o < hi)) ∧ ∃ l', renL β l = some l' ∧ l' <+: c.toList
  | .map es clock => ∃ b K es', β i = some (b, K) ∧ renEs β es = some es' ∧ w.heap[b]? = some (.map ⟨es'⟩ clock)
  | .sIter s pos => ∃ b K, β i = some (b, K) ∧ w.heap[b]? = some (.stringIter s pos)
structure Rel (P : Program) (β : Beta) (s : St) (w : World) : Prop where
  fits : ∀ i o, s.h.get i = some o → Fits P β w i o
  inj : ∀ i j oi oj bi bj, s.h.get i = some oi → s.h.get j = some oj → β i = some bi → β j = some bj → bi.1 = bj.1 → i = j
theorem fits_beta {P : Program} {β : Beta} {w : World} {i : Nat} {o : AObj} (h : Fits P β w i o) : ∃ p, β i = some p ∧ p.1 < w.heap.size := by
  cases o with
  | cells l e => obtain ⟨b, K, c, lo, hi, h1, h2, _⟩ := h; exact ⟨_, h1, (Array.getElem?_eq_some_iff.1 h2).1⟩
  | map es clock => obtain ⟨b, K, c, h1, _, h2⟩ := h; exact ⟨_, h1, (Array.getElem?_eq_some_iff.1 h2).1⟩
  | sIter s pos => obtain ⟨b, K, h1, h2⟩ := h; exact ⟨_, h1, (Array.getElem?_eq_some_iff.1 h2).1⟩
theorem fits_mono {P : Program} {β β' : Beta} {w w' : World} {i : Nat} {o : AObj} (h : Fits P β w i o) (hβ : β.le β') (hw : ∀ p, β i = some p → w'.heap[p.1]? = w.heap[p.1]?) : Fits P β' w' i o := by
  cases o with
  | cells l e =>
    obtain ⟨b, K, c, lo, hi, h1, h2, h3, h4, l', h5, h6⟩ := h
    exact ⟨b, K, c, lo, hi, hβ _ _ h1, by rw [hw _ h1]; exact h2, h3, h4, l', renL_mono hβ h5, h6⟩
  | map es clock =>
    obtain ⟨b, K, es', h1, h2, h3⟩ := h
    exact ⟨b, K, es', hβ _ _ h1, renEs_mono hβ h2, by rw [hw _ h1]; exact h3⟩
  | sIter s pos =>
    obtain ⟨b, K, h1, h2⟩ := h
    exact ⟨b, K, hβ _ _ h1, by rw [hw _ h1]; exact h2⟩
/-- What a step makes of names, store and world. -/
structure Step (P : Program) (β β' : Beta) (s s' : St) (w w' : World) : Prop where
  ext : β.le β'
  new : ∀ i p, β i = none → β' i = some p → s.c ≤ i ∧ i < s'.c
  cle : s.c ≤ s'.c
  rel : Rel P β' s' w'
  size : w.heap.size ≤ w'.heap.size
  os : w'.os = w.os
  tape : w'.tape = w.tape
  output : w'.output = w.output
  frame : ∀ k, k < w.heap.size → (∀ i o p, s.h.get i = some o → β i = some p → p.1 ≠ k) → w'.heap[k]? = w.heap[k]?
  old : ∀ i o, s'.h.get i = some o → ∃ p, β' i = some p ∧ (w.heap.size ≤ p.1 ∨ ∃ j oj pj, s.h.get j = some oj ∧ β j = some pj ∧ pj.1 = p.1)
theorem step_refl {P : Program} {β : Beta} {s : St} {w : World} (h : Rel P β s w) : Step P β β s s w w :=
  ⟨Beta.le_refl β, (fun i p h1 h2 => by rw [h1] at h2; cases h2), Nat.le_refl _, h, Nat.le_refl _, rfl, rfl, rfl, fun _ _ _ => rfl, fun i o hi => by
    obtain ⟨p, hp, _⟩ := fits_beta (h.fits i o hi)
    exact ⟨p, hp, .inr ⟨i, o, p, hi, hp, rfl⟩⟩⟩
theorem step_trans {P : Program} {β1 β2 β3 : Beta} {s1 s2 s3 : St} {w1 w2 w3 : World} (h : Step P β1 β2 s1 s2 w1 w2) (k : Step P β2 β3 s2 s3 w2 w3) : Step P β1 β3 s1 s3 w1 w3 where
  ext := Beta.le_trans h.ext k.ext
  new := fun i p h1 h3 => by
    have c1 := h.cle
    have c2 := k.cle
    cases h2 : β2 i with
    | some q => have := h.new i q h1 h2; omega
    | none => have := k.new i p h2 h3; omega
  cle := Nat.le_trans h.cle k.cle
  rel := k.rel
  size := Nat.le_trans h.size k.size
  os := k.os.trans h.os
  tape := k.tape.trans h.tape
  output := k.output.trans h.output
  frame := fun b hb hf => by
    have e1 := h.frame b hb hf
    refine (k.frame b (Nat.lt_of_lt_of_le hb h.size) ?_).trans e1
    intro i o p hi hp hk
    obtain ⟨q, hq, hold⟩ := h.old i o hi
    rw [hp] at hq
    cases hq
    rcases hold with hold | ⟨j, oj, pj, e2, e3, e4⟩
    · omega
    · exact hf j oj pj e2 e3 (e4.trans hk)
  old := fun i o hi => by
    obtain ⟨p, hp, hold⟩ := k.old i o hi
    refine ⟨p, hp, ?_⟩
    rcases hold with hold | ⟨j, oj, pj, e2, e3, e4⟩
    · exact .inl (Nat.le_trans h.size hold)
    · obtain ⟨q, hq, hold⟩ := h.old j oj e2
      rw [e3] at hq
      cases hq
      rcases hold with hold | ⟨j', oj', pj', e5, e6, e7⟩
      · exact .inl (by omega)
      · exact .inr ⟨j', oj', pj', e5, e6, e7.trans e4⟩
theorem step_rel {P : Program} {β β' : Beta} {s s' : St} {w w' : World} (h : Step P β β' s s' w w') : Rel P β' s' w' := h.rel
/-- What is not yet named. -/
def Fresh (β : Beta) (a b : Nat) : Prop := ∀ i, a ≤ i → i < b → β i = none
theorem fresh_step {P : Program} {β β' : Beta} {s s' : St} {w w' : World} {n : Nat} (h : Step P β β' s s' w w') (k : Fresh β s.c n) : Fresh β' s'.c n := by
  intro i h1 h2
  cases e : β' i with
  | none => rfl
  | some p =>
    have hc := h.cle
    have h3 := h.new i p (k i (by omega) h2) e
    omega
/-- A draw leaves all as it is. -/
theorem step_drew {P : Program} {β : Beta} {s : St} {w w' : World} (h : Rel P β s w) (e : w'.heap = w.heap) (e1 : w'.os = w.os) (e2 : w'.tape = w.tape) (e3 : w'.output = w.output) : Step P β β s s w w' where
  ext := Beta.le_refl β
  new := fun i p h1 h2 => by rw [h1] at h2; cases h2
  cle := Nat.le_refl _
  rel := ⟨fun i o hi => fits_mono (h.fits i o hi) (Beta.le_refl β) (fun p _ => by rw [e]), h.inj⟩
  size := by rw [e]; exact Nat.le_refl _
  os := e1
  tape := e2
  output := e3
  frame := fun k _ _ => by rw [e]
  old := fun i o hi => by
    obtain ⟨p, hp, _⟩ := fits_beta (h.fits i o hi)
    exact ⟨p, hp, .inr ⟨i, o, p, hi, hp, rfl⟩⟩
/-- A new block. -/
def Beta.put (β : Beta) (i : Nat) (p : Nat × Nat) : Beta := fun j => if j = i then some p else β j
theorem beta_put_le {β : Beta} {i : Nat} (h : β i = none) (p : Nat × Nat) : β.le (β.put i p) := fun j q e => by
  unfold Beta.put
  by_cases hj : j = i
  · subst hj; rw [h] at e; cases e
  · rw [if_neg hj]; exact e
theorem beta_put_eq (β : Beta) (i : Nat) (p : Nat × Nat) : β.put i p i = some p := if_pos rfl
theorem beta_put_ne (β : Beta) {i j : Nat} (p : Nat × Nat) (h : j ≠ i) : β.put i p j = β j := if_neg h
def St.new (s : St) (o : AObj) : St := ⟨s.h.set s.c (some o), s.c + 1⟩
theorem step_new {P : Program} {β : Beta} {s : St} {w w' : World} {o : AObj} {K : Nat} (h : Rel P β s w) (hf : β s.c = none) (ho : Obj) (e : w'.heap = w.heap.push ho) (e1 : w'.os = w.os) (e2 : w'.tape = w.tape) (e3 : w'.output = w.output)
    (hfit : Fits P (β.put s.c (w.heap.size, K)) w' s.c o) : Step P β (β.put s.c (w.heap.size, K)) s (s.new o) w w' where
  ext := beta_put_le hf _
  new := fun i p h1 h2 => by
    by_cases hi : i = s.c
    · subst hi; simp [St.new]
    · rw [beta_put_ne β _ hi, h1] at h2; cases h2
  cle := by simp [St.new]
  rel := by
    have hlt : ∀ i oi, s.h.get i = some oi → ∃ p, β i = some p ∧ p.1 < w.heap.size := fun i oi hi => fits_beta (h.fits i oi hi)
    have hne : ∀ i oi, s.h.get i = some oi → i ≠ s.c := fun i oi hi hc => by
      obtain ⟨p, hp, _⟩ := hlt i oi hi
      rw [hc, hf] at hp; cases hp
    constructor
    · intro i oi hi
      simp only [St.new, PMap.get_set] at hi
      by_cases hc : i = s.c
      · subst hc
        rw [if_pos rfl] at hi
        cases hi
        exact hfit
      · rw [if_neg hc] at hi
        refine fits_mono (h.fits i oi hi) (beta_put_le hf _) fun p hp => ?_
        obtain ⟨q, hq, hq2⟩ := hlt i oi hi
        rw [hp] at hq
        cases hq
        rw [e, Array.getElem?_push, if_neg (by omega)]
    · intro i j oi oj bi bj hi hj h1 h2 h3
      simp only [St.new, PMap.get_set] at hi hj
      by_cases hc : i = s.c <;> by_cases hd : j = s.c
      · rw [hc, hd]
      · rw [if_neg hd] at hj
        subst hc
        rw [beta_put_eq] at h1
        rw [beta_put_ne β _ hd] at h2
        cases h1
        obtain ⟨q, hq, hq2⟩ := hlt j oj hj
        rw [h2] at hq
        cases hq
        simp only at h3
        omega
      · rw [if_neg hc] at hi
        subst hd
        rw [beta_put_eq] at h2
        rw [beta_put_ne β _ hc] at h1
        cases h2
        obtain ⟨q, hq, hq2⟩ := hlt i oi hi
        rw [h1] at hq
        cases hq
        simp only at h3
        omega
      · rw [if_neg hc] at hi
        rw [if_neg hd] at hj
        rw [beta_put_ne β _ hc] at h1
        rw [beta_put_ne β _ hd] at h2
        exact h.inj i j oi oj bi bj hi hj h1 h2 h3
  size := by rw [e]; simp
  os := e1
  tape := e2
  output := e3
  frame := fun k hk _ => by rw [e, Array.getElem?_push, if_neg (by omega)]
  old := fun i oi hi => by
    simp only [St.new, PMap.get_set] at hi
    by_cases hc : i = s.c
    · subst hc
      exact ⟨_, beta_put_eq _ _ _, .inl (Nat.le_refl _)⟩
    · rw [if_neg hc] at hi
      obtain ⟨p, hp, _⟩ := fits_beta (h.fits i oi hi)
      exact ⟨p, by rw [beta_put_ne β _ hc]; exact hp, .inr ⟨i, oi, p, hi, hp, rfl⟩⟩
/-- An old block is written. -/
theorem step_put {P : Program} {β : Beta} {s : St} {w w' : World} {i : Nat} {o o' : AObj} {p : Nat × Nat} (h : Rel P β s w) (hi : s.h.get i = some o) (hp : β i = some p)
    (e : ∀ k, k ≠ p.1 → w'.heap[k]? = w.heap[k]?) (ez : w'.heap.size = w.heap.size) (e1 : w'.os = w.os) (e2 : w'.tape = w.tape) (e3 : w'.output = w.output) (hfit : Fits P β w' i o') : Step P β β s ⟨s.h.set i (some o'), s.c⟩ w w' where
  ext := Beta.le_refl β
  new := fun i p h1 h2 => by rw [h1] at h2; cases h2
  cle := Nat.le_refl _
  rel := by
    constructor
    · intro j oj hj
      simp only [PMap.get_set] at hj
      by_cases hc : j = i
      · subst hc
        rw [if_pos rfl] at hj
        cases hj
        exact hfit
      · rw [if_neg hc] at hj
        refine fits_mono (h.fits j oj hj) (Beta.le_refl β) fun q hq => e _ ?_
        intro hqp
        exact hc (h.inj j i oj o q p hj hi hq hp hqp)
    · intro a b oa ob pa pb ha hb h1 h2 h3
      simp only [PMap.get_set] at ha hb
      have ha' : ∃ oa, s.h.get a = some oa := by
        by_cases hc : a = i
        · subst hc; exact ⟨_, hi⟩
        · rw [if_neg hc] at ha; exact ⟨_, ha⟩
      have hb' : ∃ ob, s.h.get b = some ob := by
        by_cases hc : b = i
        · subst hc; exact ⟨_, hi⟩
        · rw [if_neg hc] at hb; exact ⟨_, hb⟩
      obtain ⟨_, ha'⟩ := ha'
      obtain ⟨_, hb'⟩ := hb'
      exact h.inj a b _ _ pa pb ha' hb' h1 h2 h3
  size := by rw [ez]; exact Nat.le_refl _
  os := e1
  tape := e2
  output := e3
  frame := fun k _ hk => e k fun hkp => hk i o p hi hp hkp.symm
  old := fun j oj hj => by
    simp only [PMap.get_set] at hj
    by_cases hc : j = i
    · subst hc
      exact ⟨p, hp, .inr ⟨j, o, p, hi, hp, rfl⟩⟩
    · rw [if_neg hc] at hj
      obtain ⟨q, hq, _⟩ := fits_beta (h.fits j oj hj)
      exact ⟨q, hq, .inr ⟨j, oj, q, hj, hq, rfl⟩⟩
end Go.Am
