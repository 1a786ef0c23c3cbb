/- Regions of the abstract machine: what the canonical order comes to, and what any other. -/
import Derived.Test.YtiokdncglbfmlaaGreatDoorMReg
namespace Go.Am
open Go
theorem subOnly_get (h : PMap AObj) : ∀ (F : List Nat) (m : PMap AObj) (b : Nat), (subOnly h F m).get b = if b ∈ F then h.get b else m.get b
  | [], m, b => by simp [subOnly]
  | x :: F, m, b => by
    rw [subOnly, subOnly_get h F, PMap.get_set]
    by_cases h1 : b ∈ F
    · simp [h1]
    · by_cases h2 : b = x
      · simp [h2]
      · simp [h1, h2]
theorem subBut_get : ∀ (X : List Nat) (m : PMap AObj) (b : Nat), (subBut X m).get b = if b ∈ X then none else m.get b
  | [], m, b => by simp [subBut]
  | x :: X, m, b => by
    rw [subBut, subBut_get X, PMap.get_set]
    by_cases h1 : b ∈ X
    · simp [h1]
    · by_cases h2 : b = x
      · simp [h2]
      · simp [h1, h2]
theorem mem_span : ∀ (n lo b : Nat), b ∈ span lo n ↔ lo ≤ b ∧ b < lo + n
  | 0, lo, b => by simp only [span, List.not_mem_nil, false_iff]; omega
  | n + 1, lo, b => by
    rw [span, List.mem_cons, mem_span n]
    omega
theorem lookMap_get (m : PMap Value) : ∀ (l : List Tmp) (x : PMap Value) (t : Nat), (lookMap m l x).get t = if t ∈ l then m.get t else x.get t
  | [], x, t => by simp [lookMap]
  | y :: l, x, t => by
    rw [lookMap, lookMap_get m l, PMap.get_set]
    by_cases h1 : t ∈ l
    · simp [h1]
    · by_cases h2 : t = y
      · simp [h2]
      · simp [h1, h2]
theorem keep_only {F : List Nat} {b : Nat} : (Mode.only F).keep b = true ↔ b ∈ F := by simp [Mode.keep]
theorem keep_but {X : List Nat} {c b : Nat} : (Mode.but X c).keep b = true ↔ b < c ∧ b ∉ X := by
  have : b.blt c = true ↔ b < c := by
    constructor
    · exact fun h => Nat.le_of_ble_eq_true h
    · exact fun h => Nat.ble_eq_true_of_le h
  simp only [Mode.keep, Bool.and_eq_true, this]
  simp
/-- A mode that fits a store: what it leaves out lies in the store. -/
def Mode.fit (md : Mode) (c : Nat) : Prop := match md with | .only _ => True | .but X k => k = c ∧ ∀ b ∈ X, b < c
theorem sub_get {md : Mode} {s : St} (hw : Wf s) (hm : md.fit s.c) (b : Nat) : (md.sub s.h).get b = if md.keep b = true then s.h.get b else none := by
  cases md with
  | only F =>
    simp only [Mode.sub, subOnly_get, keep_only, PMap.get_leaf]
  | but X c =>
    obtain ⟨rfl, hX⟩ := hm
    simp only [Mode.sub, subBut_get, keep_but]
    by_cases h1 : b ∈ X
    · simp [h1]
    · by_cases h2 : b < s.c
      · simp [h1, h2]
      · simp [h1, h2, hw b (by omega)]
theorem sub_wf {md : Mode} {s : St} (hw : Wf s) (hm : md.fit s.c) : Wf ⟨md.sub s.h, s.c⟩ := by
  intro b hb
  simp only at hb ⊢
  rw [sub_get hw hm]
  split
  · exact hw b hb
  · rfl
theorem merge_get {md : Mode} {s s' : St} (hw : Wf s) (hw' : Wf s') (hc : s.c ≤ s'.c) (hm : md.fit s.c) (b : Nat) :
    (md.merge s.h s'.h s.c s'.c).get b = if md.keep b = true ∨ (s.c ≤ b ∧ b < s'.c) then s'.h.get b else s.h.get b := by
  cases md with
  | only F =>
    simp only [Mode.merge, subOnly_get, keep_only, mem_span]
    have : s.c + (s'.c - s.c) = s'.c := by omega
    rw [this]
    by_cases h1 : s.c ≤ b ∧ b < s'.c
    · simp [h1]
    · by_cases h2 : b ∈ F
      · simp [h1, h2]
      · simp [h1, h2]
  | but X c =>
    obtain ⟨rfl, hX⟩ := hm
    simp only [Mode.merge, subOnly_get, keep_but]
    by_cases h1 : b ∈ X
    · have := hX b h1
      rw [if_pos h1, if_neg (by simp [h1]; omega)]
    · rw [if_neg h1]
      by_cases h2 : b < s.c
      · rw [if_pos (.inl ⟨h2, h1⟩)]
      · by_cases h3 : b < s'.c
        · rw [if_pos (.inr ⟨by omega, h3⟩)]
        · rw [if_neg (by omega), hw b (by omega), hw' b (by omega)]
theorem merge_wf {md : Mode} {s s' : St} (hw : Wf s) (hw' : Wf s') (hc : s.c ≤ s'.c) (hm : md.fit s.c) : Wf ⟨md.merge s.h s'.h s.c s'.c, s'.c⟩ := by
  intro b hb
  simp only at hb ⊢
  rw [merge_get hw hw' hc hm]
  split
  · exact hw' b hb
  · exact hw b (by omega)

/-! ### what some of the operations have changed -/
def hF (D : Nat → Prop) [DecidablePred D] : List DRec → (Nat → Option AObj) → Nat → Option AObj
  | [], h => h
  | r :: l, h => hF D l fun b => if D r.i ∧ r.chg b = true then r.h'.get b else h b
def tF (D : Nat → Prop) [DecidablePred D] : List DRec → (Nat → Option Value) → Nat → Option Value
  | [], h => h
  | r :: l, h => tF D l fun t => if D r.i ∧ r.o.dst = some t then some r.v else h t
section
variable {D E : Nat → Prop} [DecidablePred D] [DecidablePred E]
theorem hF_congr {b : Nat} : ∀ (l : List DRec) {h k : Nat → Option AObj}, h b = k b → (∀ r ∈ l, r.chg b = true → (D r.i ↔ E r.i)) → hF D l h b = hF E l k b
  | [], h, k, e, _ => e
  | r :: l, h, k, e, hr => by
    refine hF_congr l ?_ fun q hq => hr q (List.mem_cons_of_mem _ hq)
    have h0 := hr r (List.mem_cons_self ..)
    by_cases hc : r.chg b = true
    · simp only [hc, and_true, h0 hc, e]
    · simp [hc, e]
theorem tF_congr {t : Nat} : ∀ (l : List DRec) {h k : Nat → Option Value}, h t = k t → (∀ r ∈ l, r.o.dst = some t → (D r.i ↔ E r.i)) → tF D l h t = tF E l k t
  | [], h, k, e, _ => e
  | r :: l, h, k, e, hr => by
    refine tF_congr l ?_ fun q hq => hr q (List.mem_cons_of_mem _ hq)
    have h0 := hr r (List.mem_cons_self ..)
    by_cases hc : r.o.dst = some t
    · simp only [hc, and_true, h0 hc, e]
    · simp [hc, e]
theorem hF_append (l m : List DRec) (h : Nat → Option AObj) : hF D (l ++ m) h = hF D m (hF D l h) := by
  induction l generalizing h with
  | nil => rfl
  | cons r l ih => exact ih _
theorem tF_append (l m : List DRec) (h : Nat → Option Value) : tF D (l ++ m) h = tF D m (tF D l h) := by
  induction l generalizing h with
  | nil => rfl
  | cons r l ih => exact ih _
theorem hF_none {b : Nat} : ∀ (l : List DRec) {h : Nat → Option AObj}, (∀ r ∈ l, D r.i → r.chg b = false) → hF D l h b = h b
  | [], h, _ => rfl
  | r :: l, h, hr => by
    rw [hF, hF_none l fun q hq => hr q (List.mem_cons_of_mem _ hq)]
    have h0 := hr r (List.mem_cons_self ..)
    by_cases hd : D r.i
    · simp [h0 hd]
    · simp [hd]
theorem tF_none {t : Nat} : ∀ (l : List DRec) {h : Nat → Option Value}, (∀ r ∈ l, D r.i → r.o.dst ≠ some t) → tF D l h t = h t
  | [], h, _ => rfl
  | r :: l, h, hr => by
    rw [tF, tF_none l fun q hq => hr q (List.mem_cons_of_mem _ hq)]
    have h0 := hr r (List.mem_cons_self ..)
    by_cases hd : D r.i
    · simp [h0 hd]
    · simp [hd]
end

/-! ### edges -/
def After (ops : Array Oper) (i j : Nat) : Prop := ∃ o, ops[j]? = some o ∧ i ∈ edgesOf o
inductive Anc (ops : Array Oper) : Nat → Nat → Prop
  | edge {i j} : After ops i j → Anc ops i j
  | step {i k j} : Anc ops i k → After ops k j → Anc ops i j
theorem mem_edges {o : Oper} {i : Nat} : i ∈ edgesOf o ↔ ∃ e ∈ o.after, Region.binds .any e = true ∧ e.on = i := by
  simp only [edgesOf, List.mem_filterMap, Array.mem_toList_iff]
  constructor
  · rintro ⟨e, he, h⟩
    split at h
    · rename_i hb
      cases h
      exact ⟨e, he, hb, rfl⟩
    · cases h
  · rintro ⟨e, he, hb, rfl⟩
    exact ⟨e, he, by simp [hb]⟩
theorem anc_closed {ops : Array Oper} {D : Nat → Prop} (hD : ∀ j, D j → ∀ i, After ops i j → D i) {i j : Nat} (h : Anc ops i j) : (∀ k, After ops k j → D k) → D i := by
  induction h with
  | edge h => exact fun hj => hj _ h
  | step h k ih => exact fun hj => ih fun k' hk' => hD _ (hj _ k) _ hk'
theorem maskGo_spec {acc : List Nat} {i : Nat} : ∀ (l : List Nat), (maskGo acc l).testBit i = true → ∃ e ∈ l, e = i ∨ (acc.getD e 0).testBit i = true
  | [], h => by simp [maskGo] at h
  | e :: l, h => by
    simp only [maskGo, Nat.testBit_or, Bool.or_eq_true, Nat.testBit_two_pow, decide_eq_true_eq] at h
    rcases h with h | h | h
    · exact ⟨e, List.mem_cons_self .., .inl h⟩
    · exact ⟨e, List.mem_cons_self .., .inr h⟩
    · obtain ⟨x, hx, hx2⟩ := maskGo_spec l h
      exact ⟨x, List.mem_cons_of_mem _ hx, hx2⟩
theorem masksGo_spec {ops : Array Oper} : ∀ (l pre : List Oper) (acc : List Nat), ops.toList = pre ++ l → pre.length = acc.length → (∀ j i, (acc.getD j 0).testBit i = true → Anc ops i j) → ∀ j i, ((masksGo l acc).getD j 0).testBit i = true → Anc ops i j
  | [], pre, acc, _, _, h => h
  | o :: l, pre, acc, he, hl, h => by
    refine masksGo_spec l (pre ++ [o]) _ (by simp [he]) (by simp [hl]) ?_
    intro j i hj
    rcases Nat.lt_trichotomy j acc.length with hlt | heq | hgt
    · rw [List.getD_eq_getElem?_getD, List.getElem?_append_left hlt, ← List.getD_eq_getElem?_getD] at hj
      exact h j i hj
    · subst heq
      rw [List.getD_eq_getElem?_getD, List.getElem?_append_right (Nat.le_refl _), Nat.sub_self] at hj
      obtain ⟨e, he1, he2⟩ := maskGo_spec _ (by simpa using hj)
      have ho : ops[acc.length]? = some o := by
        have : ops.toList[acc.length]? = some o := by rw [he, ← hl]; simp
        simpa using this
      have ha : After ops e acc.length := ⟨o, ho, he1⟩
      rcases he2 with rfl | he2
      · exact .edge ha
      · exact .step (h e i he2) ha
    · rw [List.getD_eq_getElem?_getD, List.getElem?_eq_none (by simp; omega)] at hj
      simp at hj
theorem masks_anc {ops : Array Oper} {j i : Nat} (h : ((masks ops).getD j 0).testBit i = true) : Anc ops i j :=
  masksGo_spec ops.toList [] [] rfl rfl (fun j i h => by simp at h) j i h
end Go.Am
