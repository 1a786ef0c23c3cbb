/- How an operation changes the store. -/
import Derived.Test.YtiokdncglbfmlaaGreatDoorMSound9
namespace Go.Am
open Go
inductive Evo : St → St → Prop
  | same (s) : Evo s s
  | new (s o) : Evo s (s.new o)
  | put (s i o o') (h : s.h.get i = some o) : Evo s ⟨s.h.set i (some o'), s.c⟩
  | move (s i o o') (h : s.h.get i = some o) : Evo s (St.new ⟨s.h.set i none, s.c⟩ o')
def Wf (s : St) : Prop := ∀ b, s.c ≤ b → s.h.get b = none
theorem evo_cle {s s' : St} (h : Evo s s') : s.c ≤ s'.c := by cases h <;> simp [St.new]
theorem evo_wf {s s' : St} (h : Evo s s') (hw : Wf s) : Wf s' := by
  cases h with
  | same => exact hw
  | new o =>
    intro b hb
    simp only [St.new, PMap.get_set] at hb ⊢
    rw [if_neg (by omega)]
    exact hw b (by omega)
  | put i o o' h =>
    intro b hb
    simp only [PMap.get_set] at hb ⊢
    by_cases hc : b = i
    · subst hc
      rw [hw b hb] at h
      cases h
    · rw [if_neg hc]; exact hw b hb
  | move i o o' h =>
    intro b hb
    simp only [St.new, PMap.get_set] at hb ⊢
    rw [if_neg (by omega)]
    by_cases hc : b = i
    · rw [if_pos hc]
    · rw [if_neg hc]; exact hw b (by omega)
section
variable {P : Program} {s s' : St} {ev : Operand → Option Value}
theorem evo_store {t : TypeId} {a v : Value} (h : mstore P t a v s = some s') : Evo s s' := by
  unfold mstore at h
  split at h
  · split at h
    · rename_i hl _
      obtain ⟨_, h⟩ := bif_none h
      cases h
      exact .put _ _ _ _ hl
    · cases h
  · cases h
theorem evo_alloc {e : TypeId} {v x : Value} (h : malloc P e v s = some (x, s')) : ∃ o, s' = s.new o := by
  unfold malloc at h
  split at h
  · obtain ⟨_, h⟩ := bif_none h
    cases h
    exact ⟨_, rfl⟩
  · cases h
theorem evo_buildSlice {t : TypeId} {n : Nat} {parts : List (Nat × Value)} {v : Value} (h : mbuildSlice P t n parts s = some (v, s')) : ∃ o, s' = s.new o := by
  unfold mbuildSlice at h
  split at h
  · split at h
    · obtain ⟨_, h⟩ := bif_none h
      split at h
      · obtain ⟨_, h⟩ := bif_none h
        cases h
        exact ⟨_, rfl⟩
      · cases h
    · cases h
  · cases h
theorem evo_makeSlice {t : TypeId} {l c v : Value} (h : mmakeSlice P t l c s = some (v, s')) : ∃ o, s' = s.new o := by
  unfold mmakeSlice at h
  split at h
  · split at h
    · obtain ⟨_, h⟩ := bif_none h
      cases h
      exact ⟨_, rfl⟩
    · cases h
  · cases h
theorem evo_update {t : TypeId} {x k v : Value} (h : mupdate P t x k v s = some s') : Evo s s' := by
  unfold mupdate at h
  split at h
  · split at h
    · rename_i hl
      obtain ⟨_, h⟩ := bif_none h
      split at h
      · split at h
        · obtain ⟨_, h⟩ := bif_none h
          cases h
          exact .put _ _ _ _ hl
        · cases h
      · cases h
        exact .put _ _ _ _ hl
      · cases h
    · cases h
  · cases h
theorem evo_delete {t : TypeId} {x k : Value} (h : mdelete P t x k s = some s') : Evo s s' := by
  unfold mdelete at h
  split at h
  · split at h
    · rename_i hl
      split at h
      · cases h
        exact .put _ _ _ _ hl
      · cases h
        exact .same _
      · cases h
    · cases h
  · cases h
theorem evo_into {b o size n k c : Nat} {l new : List Value} {be : TypeId} {v : Value} (h : minto b l be o size n k c new s = some (v, s')) {x : AObj} (hl : s.h.get b = some x) : Evo s s' := by
  unfold minto at h
  obtain ⟨_, h⟩ := bif_none h
  cases h
  exact .put _ _ _ _ hl
theorem evo_append {t : TypeId} {x y v : Value} (h : mappend P t x y s = some (v, s')) : Evo s s' := by
  unfold mappend at h
  split at h
  · split at h
    · simp only [Option.bind_eq_some_iff] at h
      obtain ⟨new, _, h⟩ := h
      obtain ⟨_, h⟩ := bif_none h
      split at h
      · obtain ⟨_, h⟩ := bif_none h
        rcases bif_some h with ⟨_, h⟩ | ⟨_, h⟩
        · cases h; exact .same _
        · unfold mgrow at h
          obtain ⟨_, h⟩ := bif_none h
          cases h
          exact .new _ _
      · split at h
        · rename_i l be hl
          rcases bif_some h with ⟨_, h⟩ | ⟨_, h⟩
          · obtain ⟨_, h⟩ := bif_none h
            cases h; exact .same _
          · rcases bif_some h with ⟨_, h⟩ | ⟨_, h⟩
            · rcases bif_some h with ⟨_, h⟩ | ⟨_, h⟩
              · obtain ⟨_, h⟩ := bif_none h
                exact evo_into h hl
              · obtain ⟨_, h⟩ := bif_none h
                unfold mgrow at h
                obtain ⟨_, h⟩ := bif_none h
                cases h
                exact .move _ _ _ _ hl
            · rcases bif_some h with ⟨_, h⟩ | ⟨_, h⟩
              · exact evo_into h hl
              · split at h
                · unfold mgrow at h
                  obtain ⟨_, h⟩ := bif_none h
                  cases h
                  exact .new _ _
                · cases h
        · cases h
      · cases h
    · cases h
  · cases h
theorem evo_copy {t : TypeId} {x y v : Value} (h : mcopy P t x y s = some (v, s')) : Evo s s' := by
  unfold mcopy at h
  split at h
  · split at h
    · simp only [Option.bind_eq_some_iff] at h
      obtain ⟨new, _, h⟩ := h
      obtain ⟨_, h⟩ := bif_none h
      split at h
      · obtain ⟨_, h⟩ := bif_none h
        cases h; exact .same _
      · split at h
        · rename_i hl
          obtain ⟨_, h⟩ := bif_none h
          cases h
          exact .put _ _ _ _ hl
        · cases h
      · cases h
    · cases h
  · cases h
theorem evo_convert {src dst : TypeId} {x v : Value} (h : mconvert P src dst x s = some (v, s')) : s' = s := by
  unfold mconvert at h
  split at h
  · split at h
    · simp only [Option.bind_eq_some_iff, Option.map_eq_some_iff, Prod.mk.injEq] at h
      obtain ⟨l, _, r, _, _, rfl⟩ := h
      rfl
    · cases h
  · cases h
theorem evo_call {c : Call} {r : AN} (h : mcall P ev c s = some (r, s')) : Evo s s' := by
  unfold mcall at h
  split at h
  · simp only [Option.bind_eq_some_iff] at h
    obtain ⟨fv, _, args, _, h⟩ := h
    split at h
    · simp only [Option.map_eq_some_iff, Prod.mk.injEq] at h
      obtain ⟨_, _, _, rfl⟩ := h
      exact .same _
    · cases h
  · simp only [Option.bind_eq_some_iff] at h
    obtain ⟨fv, _, args, _, h⟩ := h
    split at h
    · simp only [Option.map_eq_some_iff, Prod.mk.injEq] at h
      obtain ⟨_, _, _, rfl⟩ := h
      exact .same _
    · cases h
  · simp only [Option.bind_eq_some_iff] at h
    obtain ⟨args, _, h⟩ := h
    split at h
    · split at h
      · cases h; exact .same _
      · cases h
    · split at h
      · simp only [Option.map_eq_some_iff, Prod.mk.injEq] at h
        obtain ⟨_, _, _, rfl⟩ := h
        exact .same _
      · cases h
    · split at h
      · obtain ⟨_, h⟩ := bif_none' h
        simp only [Option.map_eq_some_iff, Prod.mk.injEq] at h
        obtain ⟨⟨v, s1⟩, h2, _, rfl⟩ := h
        exact evo_append h2
      · cases h
    · simp only [Option.map_eq_some_iff, Prod.mk.injEq] at h
      obtain ⟨⟨v, s1⟩, h2, _, rfl⟩ := h
      exact evo_copy h2
    · simp only [Option.map_eq_some_iff, Prod.mk.injEq] at h
      obtain ⟨s1, h2, _, rfl⟩ := h
      exact evo_delete h2
    · cases h
/-- Operations that write to nothing old. -/
def quietOp : Op → Bool
  | .store .. | .mapUpdate .. | .insert .. => false
  | .call { callee := .builtin .len, .. } => true
  | .call _ => false
  | _ => true
def Quiet (s s' : St) : Prop := s' = s ∨ ∃ o, s' = s.new o
theorem quiet_evo {s s' : St} (h : Quiet s s') : Evo s s' := by
  rcases h with rfl | ⟨o, rfl⟩
  · exact .same _
  · exact .new _ _
theorem orPure_cases {o : Oper} {y : Option (AN × St)} {r : AN} (h : orPure P ev o s y = some (r, s')) : y = some (r, s') ∨ s' = s := by
  unfold orPure at h
  split at h
  · exact .inl h
  · simp only [Option.map_eq_some_iff, Prod.mk.injEq] at h
    obtain ⟨_, _, _, rfl⟩ := h
    exact .inr rfl
theorem map_same {α : Type} {x : Option α} {f : α → AN} {r : AN} (h : (x.map fun v => (f v, s)) = some (r, s')) : s' = s := by
  simp only [Option.map_eq_some_iff, Prod.mk.injEq] at h
  obtain ⟨_, _, _, rfl⟩ := h
  rfl
theorem evo_op {o : Oper} {r : AN} (h : mopI P ev o s = some (r, s')) : Evo s s' ∧ (quietOp o.op = true → Quiet s s') := by
  have q : ∀ {s1 : St}, s1 = s → Evo s s1 ∧ (quietOp o.op = true → Quiet s s1) := fun e => ⟨quiet_evo (.inl e), fun _ => .inl e⟩
  have qn : ∀ {s1 : St}, (∃ o, s1 = s.new o) → Evo s s1 ∧ (quietOp o.op = true → Quiet s s1) := fun e => ⟨quiet_evo (.inr e), fun _ => .inr e⟩
  have qp : ∀ {y : Option (AN × St)}, orPure P ev o s y = some (r, s') → (y = some (r, s') → Evo s s' ∧ (quietOp o.op = true → Quiet s s')) → Evo s s' ∧ (quietOp o.op = true → Quiet s s') := fun hy hs => by
    rcases orPure_cases hy with hy | rfl
    · exact hs hy
    · exact q rfl
  obtain ⟨dst, op, ty, pos, after, guard⟩ := o
  unfold mopI at h
  cases op with
  | pick c a b =>
    simp only at h
    split at h
    · exact q (map_same h)
    · cases h
  | alloc e =>
    simp only [Option.bind_eq_some_iff, Option.map_eq_some_iff, Prod.mk.injEq] at h
    obtain ⟨z, _, ⟨v, s1⟩, h1, _, rfl⟩ := h
    exact qn (evo_alloc h1)
  | box e x =>
    simp only [Option.bind_eq_some_iff, Option.map_eq_some_iff, Prod.mk.injEq] at h
    obtain ⟨z, _, ⟨v, s1⟩, h1, _, rfl⟩ := h
    exact qn (evo_alloc h1)
  | buildSlice t n parts =>
    simp only [Option.bind_eq_some_iff, Option.map_eq_some_iff, Prod.mk.injEq] at h
    obtain ⟨z, _, ⟨v, s1⟩, h1, _, rfl⟩ := h
    exact qn (evo_buildSlice h1)
  | makeSlice t l c =>
    simp only [Option.bind_eq_some_iff, Option.map_eq_some_iff, Prod.mk.injEq] at h
    obtain ⟨a, _, b, _, ⟨v, s1⟩, h1, _, rfl⟩ := h
    exact qn (evo_makeSlice h1)
  | store t a x =>
    simp only [Option.bind_eq_some_iff, Option.map_eq_some_iff, Prod.mk.injEq] at h
    obtain ⟨p, _, v, _, s1, h1, _, rfl⟩ := h
    exact ⟨evo_store h1, fun h => by cases h⟩
  | mapUpdate t x k v | insert t x k v =>
    simp only [Option.bind_eq_some_iff, Option.map_eq_some_iff, Prod.mk.injEq] at h
    obtain ⟨p, _, v, _, u, _, s1, h1, _, rfl⟩ := h
    exact ⟨evo_update h1, fun h => by cases h⟩
  | nilCheck x =>
    simp only at h
    split at h <;> first
      | (cases h; exact q rfl)
      | cases h
  | binOp op t x y yt =>
    refine qp h fun h => ?_
    simp only [Option.bind_eq_some_iff, Option.map_eq_some_iff, Prod.mk.injEq] at h
    obtain ⟨a, _, b, _, v, _, _, rfl⟩ := h
    exact q rfl
  | convert src d x =>
    refine qp h fun h => ?_
    simp only [Option.bind_eq_some_iff, Option.map_eq_some_iff, Prod.mk.injEq] at h
    obtain ⟨a, _, ⟨v, s1⟩, h1, _, rfl⟩ := h
    exact q (evo_convert h1)
  | makeInterface t x =>
    simp only at h
    split at h
    · cases h
    · exact q (map_same h)
    · cases h
  | makeFunc fn first captured =>
    cases fn with
    | func f =>
      simp only [Option.bind_eq_some_iff, Option.map_eq_some_iff, Prod.mk.injEq] at h
      obtain ⟨a, _, c, _, _, rfl⟩ := h
      exact q rfl
    | _ => exact q (map_same h)
  | makeMap t r =>
    cases r with
    | none =>
      simp only [Option.some.injEq, Prod.mk.injEq] at h
      obtain ⟨_, rfl⟩ := h
      exact qn ⟨_, rfl⟩
    | some x => exact q (map_same h)
  | slice t x lo hi mx =>
    refine qp h fun h => ?_
    simp only [Option.bind_eq_some_iff, Option.map_eq_some_iff, Prod.mk.injEq] at h
    obtain ⟨a, _, b, _, c, _, d, _, v, _, _, rfl⟩ := h
    exact q rfl
  | index t x i =>
    refine qp h fun h => ?_
    simp only [Option.bind_eq_some_iff, Option.map_eq_some_iff, Prod.mk.injEq] at h
    obtain ⟨a, _, b, _, v, _, _, rfl⟩ := h
    exact q rfl
  | indexAddr t x i =>
    simp only [Option.bind_eq_some_iff, Option.map_eq_some_iff, Prod.mk.injEq] at h
    obtain ⟨a, _, b, _, v, _, _, rfl⟩ := h
    exact q rfl
  | lookup t x k ok =>
    simp only [Option.bind_eq_some_iff, Option.map_eq_some_iff, Prod.mk.injEq] at h
    obtain ⟨a, _, b, _, v, _, _, rfl⟩ := h
    exact q rfl
  | load t a | sliceToArrayPointer t a | fieldAddr t a f | field t a f | typeAssert a xt t ok | extract a i | build t a =>
    simp only [Option.bind_eq_some_iff, Option.map_eq_some_iff, Prod.mk.injEq] at h
    obtain ⟨p, _, v, _, _, rfl⟩ := h
    exact q rfl
  | call c =>
    refine ⟨?_, fun hq => ?_⟩
    · rcases orPure_cases h with hy | rfl
      · exact evo_call hy
      · exact .same _
    · rcases orPure_cases h with hy | rfl
      · obtain ⟨callee, args, ats⟩ := c
        cases callee with
        | value f => cases hq
        | invoke r m => cases hq
        | builtin b =>
          cases b <;> first | (cases hq; done) | skip
          unfold mcall at hy
          simp only [Option.bind_eq_some_iff] at hy
          obtain ⟨l, _, hy⟩ := hy
          split at hy
          · split at hy
            · cases hy; exact .inl rfl
            · cases hy
          · split at hy
            · simp only [Option.map_eq_some_iff, Prod.mk.injEq] at hy
              obtain ⟨_, _, _, rfl⟩ := hy
              exact .inl rfl
            · cases hy
          all_goals first | contradiction | (cases hy; done) | (simp_all; done)
      · exact .inl rfl
  | _ => exact q (map_same h)
end
end Go.Am
