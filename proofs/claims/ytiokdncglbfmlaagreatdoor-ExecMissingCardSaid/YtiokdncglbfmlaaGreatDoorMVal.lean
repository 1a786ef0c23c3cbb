/- Values of memory whose blocks are named otherwise: renaming. -/
import Derived.WalkKit
namespace Go.Am
open Go

/-- Where a block lies, and how many elements it has room for. -/
abbrev Beta := Nat → Option (Nat × Nat)
/-- Room to the end of the block, whatever that is, less what lies ahead. -/
def capInf : Nat := 1152921504606846976
def capHalf : Nat := 576460752303423488
def renCap (k n c : Nat) : Option Nat := bif capHalf.ble c then (bif (capInf - c + n).ble k then some (k - (capInf - c)) else none) else some c

mutual
def ren (β : Beta) : Value → Option Value
  | .pointer (some ⟨b, o, none⟩) => (β b).map fun p => .pointer (some ⟨p.1, o, none⟩)
  | .pointer (some ⟨_, _, some _⟩) => none
  | .pointer none => some (.pointer none)
  | .slice (some ⟨b, o, none⟩) n c => (β b).bind fun p => (renCap p.2 n c).map fun c' => .slice (some ⟨p.1, o, none⟩) n c'
  | .slice (some ⟨_, _, some _⟩) _ _ => none
  | .slice none n c => some (.slice none n c)
  | .map (some r) => (β r).map fun p => .map (some p.1)
  | .map none => some (.map none)
  | .chan (some _) => none
  | .chan none => some (.chan none)
  | .func (.yield _) _ _ => none
  | .func fn a c => (renA β a).bind fun a' => (renA β c).map fun c' => .func fn a' c'
  | .nilFunc => some .nilFunc
  | .iface t v => (ren β v).map (.iface t)
  | .nilIface => some .nilIface
  | .agg a => (renA β a).map .agg
  | .tuple a => (renA β a).map .tuple
  | .bool b => some (.bool b)
  | .int k n => some (.int k n)
  | .float k n => some (.float k n)
  | .complex k n m => some (.complex k n m)
  | .string s => some (.string s)
def renA (β : Beta) : Array Value → Option (Array Value)
  | ⟨l⟩ => (renL β l).map Array.mk
def renL (β : Beta) : List Value → Option (List Value)
  | [] => some []
  | v :: l => (ren β v).bind fun v' => (renL β l).map fun l' => v' :: l'
end


def Beta.le (β β' : Beta) : Prop := ∀ i p, β i = some p → β' i = some p
theorem Beta.le_refl (β : Beta) : β.le β := fun _ _ h => h
theorem Beta.le_trans {a b c : Beta} (h : a.le b) (k : b.le c) : a.le c := fun i p e => k i p (h i p e)

theorem ren_induct {M : Value → Prop} {A : Array Value → Prop} {L : List Value → Prop}
    (hfunc : ∀ f a c, A a → A c → M (.func f a c)) (hiface : ∀ t v, M v → M (.iface t v)) (hagg : ∀ a, A a → M (.agg a)) (htuple : ∀ a, A a → M (.tuple a))
    (hrest : ∀ v, (∀ f a c, v ≠ .func f a c) → (∀ t x, v ≠ .iface t x) → (∀ a, v ≠ .agg a) → (∀ a, v ≠ .tuple a) → M v)
    (harr : ∀ l, L l → A ⟨l⟩) (hnil : L []) (hcons : ∀ v l, M v → L l → L (v :: l)) : (∀ v, M v) ∧ (∀ a, A a) ∧ (∀ l, L l) := by
  have r := fun (b) => @Value.rec M A L (fun b => hrest _ (by simp) (by simp) (by simp) (by simp)) (fun k n => hrest _ (by simp) (by simp) (by simp) (by simp)) (fun k n => hrest _ (by simp) (by simp) (by simp) (by simp))
    (fun k n m => hrest _ (by simp) (by simp) (by simp) (by simp)) (fun s => hrest _ (by simp) (by simp) (by simp) (by simp)) (fun a => hrest _ (by simp) (by simp) (by simp) (by simp)) (fun a n c => hrest _ (by simp) (by simp) (by simp) (by simp))
    (fun r => hrest _ (by simp) (by simp) (by simp) (by simp)) (fun r => hrest _ (by simp) (by simp) (by simp) (by simp)) hfunc (hrest _ (by simp) (by simp) (by simp) (by simp)) hiface (hrest _ (by simp) (by simp) (by simp) (by simp)) hagg htuple harr hnil hcons b
  refine ⟨r, fun a => ?_, fun l => ?_⟩
  · have := r (.agg a)
    obtain ⟨l⟩ := a
    refine harr l ?_
    induction l with
    | nil => exact hnil
    | cons v l ih => exact hcons v l (r v) (ih (r _))
  · induction l with
    | nil => exact hnil
    | cons v l ih => exact hcons v l (r v) ih

theorem ren_mono' {β β' : Beta} (h : β.le β') : (∀ v v', ren β v = some v' → ren β' v = some v') ∧ (∀ v v', renA β v = some v' → renA β' v = some v') ∧ (∀ v v', renL β v = some v' → renL β' v = some v') := by
  refine ren_induct ?_ ?_ ?_ ?_ ?_ ?_ ?_ ?_
  · intro f a c ha hc v' e
    cases f <;> simp only [ren, Option.bind_eq_some_iff, Option.map_eq_some_iff] at e ⊢ <;> first
      | (obtain ⟨x, e1, y, e2, rfl⟩ := e; exact ⟨x, ha _ e1, y, hc _ e2, rfl⟩)
      | cases e
  · intro t v hv v' e
    simp only [ren, Option.map_eq_some_iff] at e ⊢
    obtain ⟨x, e1, rfl⟩ := e
    exact ⟨x, hv _ e1, rfl⟩
  · intro a ha v' e
    simp only [ren, Option.map_eq_some_iff] at e ⊢
    obtain ⟨x, e1, rfl⟩ := e
    exact ⟨x, ha _ e1, rfl⟩
  · intro a ha v' e
    simp only [ren, Option.map_eq_some_iff] at e ⊢
    obtain ⟨x, e1, rfl⟩ := e
    exact ⟨x, ha _ e1, rfl⟩
  · intro v h1 h2 h3 h4 v' e
    cases v with
    | pointer a =>
      rcases a with _ | ⟨b, o, _ | s⟩
      · exact e
      · simp only [ren, Option.map_eq_some_iff] at e ⊢
        obtain ⟨p, e1, rfl⟩ := e
        exact ⟨p, h _ _ e1, rfl⟩
      · cases e
    | slice a n c =>
      rcases a with _ | ⟨b, o, _ | s⟩
      · exact e
      · simp only [ren, Option.bind_eq_some_iff] at e ⊢
        obtain ⟨p, e1, e2⟩ := e
        exact ⟨p, h _ _ e1, e2⟩
      · cases e
    | map r =>
      cases r with
      | none => exact e
      | some r =>
        simp only [ren, Option.map_eq_some_iff] at e ⊢
        obtain ⟨p, e1, rfl⟩ := e
        exact ⟨p, h _ _ e1, rfl⟩
    | chan r => cases r <;> first | exact e | cases e
    | func f a c => exact absurd rfl (h1 f a c)
    | iface t x => exact absurd rfl (h2 t x)
    | agg a => exact absurd rfl (h3 a)
    | tuple a => exact absurd rfl (h4 a)
    | _ => exact e
  · intro l hl v' e
    simp only [renA, Option.map_eq_some_iff] at e ⊢
    obtain ⟨x, e1, rfl⟩ := e
    exact ⟨x, hl _ e1, rfl⟩
  · intro v' e; exact e
  · intro v l hv hl v' e
    simp only [renL, Option.bind_eq_some_iff, Option.map_eq_some_iff] at e ⊢
    obtain ⟨x, e1, y, e2, rfl⟩ := e
    exact ⟨x, hv _ e1, y, hl _ e2, rfl⟩
theorem ren_mono {β β' : Beta} (h : β.le β') {v v' : Value} (e : ren β v = some v') : ren β' v = some v' := (ren_mono' h).1 _ _ e
theorem renA_mono {β β' : Beta} (h : β.le β') {v v' : Array Value} (e : renA β v = some v') : renA β' v = some v' := (ren_mono' h).2.1 _ _ e
theorem renL_mono {β β' : Beta} (h : β.le β') {v v' : List Value} (e : renL β v = some v') : renL β' v = some v' := (ren_mono' h).2.2 _ _ e

mutual
/-- A value that names no block. -/
def ground : Value → Bool
  | .pointer (some _) => false
  | .pointer none => true
  | .slice (some _) _ _ => false
  | .slice none _ _ => true
  | .map (some _) => false
  | .map none => true
  | .chan (some _) => false
  | .chan none => true
  | .func (.yield _) _ _ => false
  | .func _ a c => and (groundA a) (groundA c)
  | .nilFunc => true
  | .iface _ v => ground v
  | .nilIface => true
  | .agg a => groundA a
  | .tuple a => groundA a
  | .bool _ => true
  | .int _ _ => true
  | .float _ _ => true
  | .complex _ _ _ => true
  | .string _ => true
def groundA : Array Value → Bool
  | ⟨l⟩ => groundL l
def groundL : List Value → Bool
  | [] => true
  | v :: l => and (ground v) (groundL l)
end
theorem ren_ground' (β : Beta) : (∀ v, ground v = true → ren β v = some v) ∧ (∀ v, groundA v = true → renA β v = some v) ∧ (∀ v, groundL v = true → renL β v = some v) := by
  refine ren_induct ?_ ?_ ?_ ?_ ?_ ?_ ?_ ?_
  · intro f a c ha hc e
    cases f <;> simp only [ground, Bool.and_eq_true, Bool.false_eq_true] at e <;> simp only [ren, ha e.1, hc e.2, Option.bind_some, Option.map_some]
  · intro t v hv e
    simp only [ground] at e
    simp only [ren, hv e, Option.map_some]
  · intro a ha e
    simp only [ground] at e
    simp only [ren, ha e, Option.map_some]
  · intro a ha e
    simp only [ground] at e
    simp only [ren, ha e, Option.map_some]
  · intro v h1 h2 h3 h4 e
    cases v with
    | pointer a => cases a <;> first | rfl | cases e
    | slice a n c => cases a <;> first | rfl | cases e
    | map r => cases r <;> first | rfl | cases e
    | chan r => cases r <;> first | rfl | cases e
    | func f a c => exact absurd rfl (h1 f a c)
    | iface t x => exact absurd rfl (h2 t x)
    | agg a => exact absurd rfl (h3 a)
    | tuple a => exact absurd rfl (h4 a)
    | _ => rfl
  · intro l hl e
    simp only [groundA] at e
    simp only [renA, hl e, Option.map_some]
  · intro _; rfl
  · intro v l hv hl e
    simp only [groundL, Bool.and_eq_true] at e
    simp only [renL, hv e.1, hl e.2, Option.bind_some, Option.map_some]
theorem ren_ground {β : Beta} {v : Value} (h : ground v = true) : ren β v = some v := (ren_ground' β).1 v h
theorem renA_ground {β : Beta} {v : Array Value} (h : groundA v = true) : renA β v = some v := (ren_ground' β).2.1 v h
theorem renL_ground {β : Beta} {v : List Value} (h : groundL v = true) : renL β v = some v := (ren_ground' β).2.2 v h

/-! ### lists -/
theorem renL_length {β : Beta} : ∀ {l l' : List Value}, renL β l = some l' → l'.length = l.length
  | [], l', h => by simp only [renL, Option.some.injEq] at h; subst h; rfl
  | v :: l, l', h => by
    simp only [renL, Option.bind_eq_some_iff, Option.map_eq_some_iff] at h
    obtain ⟨x, _, y, e2, rfl⟩ := h
    simp [renL_length e2]
theorem renL_get {β : Beta} : ∀ {l l' : List Value}, renL β l = some l' → ∀ {i : Nat} {v : Value}, l[i]? = some v → ∃ v', l'[i]? = some v' ∧ ren β v = some v'
  | [], l', h, i, v, e => by simp at e
  | v :: l, l', h, i, x, e => by
    simp only [renL, Option.bind_eq_some_iff, Option.map_eq_some_iff] at h
    obtain ⟨x, e1, y, e2, rfl⟩ := h
    cases i with
    | zero => simp only [List.getElem?_cons_zero, Option.some.injEq] at e; subst e; exact ⟨x, rfl, e1⟩
    | succ i => simp only [List.getElem?_cons_succ] at e ⊢; exact renL_get e2 e
theorem renL_append {β : Beta} : ∀ {l l' m m' : List Value}, renL β l = some l' → renL β m = some m' → renL β (l ++ m) = some (l' ++ m')
  | [], l', m, m', h, k => by simp only [renL, Option.some.injEq] at h; subst h; exact k
  | v :: l, l', m, m', h, k => by
    simp only [renL, Option.bind_eq_some_iff, Option.map_eq_some_iff] at h
    obtain ⟨x, e1, y, e2, rfl⟩ := h
    simp only [List.cons_append, renL, e1, renL_append e2 k, Option.bind_some, Option.map_some]
theorem renL_take {β : Beta} : ∀ {l l' : List Value} (n : Nat), renL β l = some l' → renL β (l.take n) = some (l'.take n)
  | [], l', n, h => by simp only [renL, Option.some.injEq] at h; subst h; simp [renL]
  | v :: l, l', n, h => by
    simp only [renL, Option.bind_eq_some_iff, Option.map_eq_some_iff] at h
    obtain ⟨x, e1, y, e2, rfl⟩ := h
    cases n with
    | zero => rfl
    | succ n => simp only [List.take_succ_cons, renL, e1, renL_take n e2, Option.bind_some, Option.map_some]
theorem renL_drop {β : Beta} : ∀ {l l' : List Value} (n : Nat), renL β l = some l' → renL β (l.drop n) = some (l'.drop n)
  | [], l', n, h => by simp only [renL, Option.some.injEq] at h; subst h; simp [renL]
  | v :: l, l', n, h => by
    cases n with
    | zero => exact h
    | succ n =>
      simp only [renL, Option.bind_eq_some_iff, Option.map_eq_some_iff] at h
      obtain ⟨x, e1, y, e2, rfl⟩ := h
      simpa using renL_drop n e2
theorem renL_set {β : Beta} {v v' : Value} (hv : ren β v = some v') : ∀ {l l' : List Value} (n : Nat), renL β l = some l' → renL β (l.set n v) = some (l'.set n v')
  | [], l', n, h => by simp only [renL, Option.some.injEq] at h; subst h; rfl
  | x :: l, l', n, h => by
    simp only [renL, Option.bind_eq_some_iff, Option.map_eq_some_iff] at h
    obtain ⟨x, e1, y, e2, rfl⟩ := h
    cases n with
    | zero => simp only [List.set_cons_zero, renL, hv, e2, Option.bind_some, Option.map_some]
    | succ n => simp only [List.set_cons_succ, renL, e1, renL_set hv n e2, Option.bind_some, Option.map_some]
theorem renL_replicate {β : Beta} {v v' : Value} (hv : ren β v = some v') (n : Nat) : renL β (List.replicate n v) = some (List.replicate n v') := by
  induction n with
  | zero => rfl
  | succ n ih => simp only [List.replicate_succ, renL, hv, ih, Option.bind_some, Option.map_some]
theorem renL_cons {β : Beta} {v v' : Value} {l l' : List Value} (hv : ren β v = some v') (hl : renL β l = some l') : renL β (v :: l) = some (v' :: l') := by
  simp only [renL, hv, hl, Option.bind_some, Option.map_some]
theorem renA_iff {β : Beta} {a a' : Array Value} : renA β a = some a' ↔ renL β a.toList = some a'.toList := by
  obtain ⟨l⟩ := a
  obtain ⟨l'⟩ := a'
  simp only [renA, Option.map_eq_some_iff, Array.mk.injEq, exists_eq_right]
theorem renA_size {β : Beta} {a a' : Array Value} (h : renA β a = some a') : a'.size = a.size := by
  have := renL_length (renA_iff.1 h)
  simpa using this
theorem renA_append {β : Beta} {a a' b b' : Array Value} (h : renA β a = some a') (k : renA β b = some b') : renA β (a ++ b) = some (a' ++ b') := by
  rw [renA_iff] at *
  simpa using renL_append h k
theorem renA_get {β : Beta} {a a' : Array Value} (h : renA β a = some a') {i : Nat} {v : Value} (e : a[i]? = some v) : ∃ v', a'[i]? = some v' ∧ ren β v = some v' := by
  rw [renA_iff] at h
  have := renL_get h (i := i) (v := v) (by simpa using e)
  simpa using this
/-- The cells of a value are the renamed ones. -/
theorem ren_cells {β : Beta} {v v' : Value} (h : ren β v = some v') : renL β v.cells.toList = some v'.cells.toList := by
  cases v with
  | agg a =>
    simp only [ren, Option.map_eq_some_iff] at h
    obtain ⟨x, e1, rfl⟩ := h
    exact renA_iff.1 e1
  | pointer a =>
    have : v'.cells = #[v'] := by
      rcases a with _ | ⟨b, o, _ | s⟩ <;> simp only [ren, Option.map_eq_some_iff, Option.some.injEq, reduceCtorEq] at h
      · subst h; rfl
      · obtain ⟨p, _, rfl⟩ := h; rfl
    rw [this]; exact renL_cons h rfl
  | slice a n c =>
    have : v'.cells = #[v'] := by
      rcases a with _ | ⟨b, o, _ | s⟩ <;> simp only [ren, Option.map_eq_some_iff, Option.bind_eq_some_iff, Option.some.injEq, reduceCtorEq] at h
      · subst h; rfl
      · obtain ⟨p, _, q, _, rfl⟩ := h; rfl
    rw [this]; exact renL_cons h rfl
  | map r =>
    have : v'.cells = #[v'] := by
      cases r <;> simp only [ren, Option.map_eq_some_iff, Option.some.injEq] at h
      · subst h; rfl
      · obtain ⟨p, _, rfl⟩ := h; rfl
    rw [this]; exact renL_cons h rfl
  | chan r =>
    have : v'.cells = #[v'] := by
      cases r <;> simp only [ren, Option.some.injEq, reduceCtorEq] at h
      subst h; rfl
    rw [this]; exact renL_cons h rfl
  | func f a c =>
    have : v'.cells = #[v'] := by
      cases f <;> simp only [ren, Option.map_eq_some_iff, Option.bind_eq_some_iff, reduceCtorEq] at h <;> (obtain ⟨p, _, q, _, rfl⟩ := h; rfl)
    rw [this]; exact renL_cons h rfl
  | iface t x =>
    have : v'.cells = #[v'] := by
      simp only [ren, Option.map_eq_some_iff] at h
      obtain ⟨p, _, rfl⟩ := h; rfl
    rw [this]; exact renL_cons h rfl
  | tuple a =>
    have : v'.cells = #[v'] := by
      simp only [ren, Option.map_eq_some_iff] at h
      obtain ⟨p, _, rfl⟩ := h; rfl
    rw [this]; exact renL_cons h rfl
  | _ => simp only [ren, Option.some.injEq] at h; subst h; exact renL_cons rfl rfl
end Go.Am
