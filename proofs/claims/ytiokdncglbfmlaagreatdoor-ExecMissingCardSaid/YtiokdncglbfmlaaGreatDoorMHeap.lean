/- A store by numbers: a tree that the kernel reckons with quickly. -/
namespace Go.Am
inductive PMap (α : Type) where
  | leaf
  | node (v : Option α) (l r : PMap α)
theorem nbeq_false {a b : Nat} (h : a ≠ b) : a.beq b = false := by
  cases e : a.beq b with
  | false => rfl
  | true => exact absurd (Nat.eq_of_beq_eq_true e) h
theorem nbeq_true {a b : Nat} (h : a = b) : a.beq b = true := by subst h; exact Nat.beq_refl a
namespace PMap
variable {α : Type}
def get : PMap α → Nat → Option α
  | .leaf, _ => none
  | .node v l r, n => bif n.beq 0 then v else bif (n % 2).beq 1 then l.get (n / 2) else r.get (n / 2 - 1)
def put : Nat → PMap α → Nat → Option α → PMap α
  | 0, m, _, _ => m
  | f + 1, .leaf, n, x => bif n.beq 0 then .node x .leaf .leaf else bif (n % 2).beq 1 then .node none (put f .leaf (n / 2) x) .leaf else .node none .leaf (put f .leaf (n / 2 - 1) x)
  | f + 1, .node v l r, n, x => bif n.beq 0 then .node x l r else bif (n % 2).beq 1 then .node v (put f l (n / 2) x) r else .node v l (put f r (n / 2 - 1) x)
def set (m : PMap α) (n : Nat) (x : Option α) : PMap α := put (n + 1) m n x
theorem get_put (f : Nat) : ∀ (m : PMap α) (n : Nat) (x : Option α) (k : Nat), n < f → (put f m n x).get k = if k = n then x else m.get k := by
  induction f with
  | zero => intro m n x k h; omega
  | succ f ih =>
    intro m n x k h
    have key : ∀ (v : Option α) (l r : PMap α), (bif n.beq 0 then PMap.node x l r else bif (n % 2).beq 1 then .node v (put f l (n / 2) x) r else .node v l (put f r (n / 2 - 1) x)).get k = if k = n then x else (PMap.node v l r).get k := by
      intro v l r
      rcases Nat.eq_zero_or_pos n with rfl | hn
      · simp only [Nat.beq_refl, cond_true, get]
        rcases Nat.eq_zero_or_pos k with rfl | hk
        · simp
        · have h1 : Nat.beq k 0 = false := nbeq_false (by omega)
          have h2 : k ≠ 0 := by omega
          simp [h1, h2]
      · have hn0 : Nat.beq n 0 = false := nbeq_false (by omega)
        rcases Nat.mod_two_eq_zero_or_one n with h2 | h2
        · have h2' : Nat.beq (n % 2) 1 = false := nbeq_false (by omega)
          simp only [hn0, h2', cond_false, get]
          rw [ih _ _ _ _ (by omega)]
          rcases Nat.eq_zero_or_pos k with rfl | hk
          · have : (0 : Nat) ≠ n := by omega
            simp [this]
          · have hk0 : Nat.beq k 0 = false := nbeq_false (by omega)
            simp only [hk0, cond_false]
            rcases Nat.mod_two_eq_zero_or_one k with h3 | h3
            · have h3' : Nat.beq (k % 2) 1 = false := nbeq_false (by omega)
              simp only [h3', cond_false]
              have : k / 2 - 1 = n / 2 - 1 ↔ k = n := by omega
              simp only [this]
            · have h3' : Nat.beq (k % 2) 1 = true := nbeq_true h3
              simp only [h3', cond_true]
              have : k ≠ n := by omega
              simp [this]
        · have h2' : Nat.beq (n % 2) 1 = true := nbeq_true h2
          simp only [hn0, h2', cond_false, cond_true, get]
          rw [ih _ _ _ _ (by omega)]
          rcases Nat.eq_zero_or_pos k with rfl | hk
          · have : (0 : Nat) ≠ n := by omega
            simp [this]
          · have hk0 : Nat.beq k 0 = false := nbeq_false (by omega)
            simp only [hk0, cond_false]
            rcases Nat.mod_two_eq_zero_or_one k with h3 | h3
            · have h3' : Nat.beq (k % 2) 1 = false := nbeq_false (by omega)
              simp only [h3', cond_false]
              have : k ≠ n := by omega
              simp [this]
            · have h3' : Nat.beq (k % 2) 1 = true := nbeq_true h3
              simp only [h3', cond_true]
              have : k / 2 = n / 2 ↔ k = n := by omega
              simp only [this]
    cases m with
    | node v l r => exact key v l r
    | leaf =>
      have := key none .leaf .leaf
      simp only [put]
      rw [this]
      by_cases hk : k = n
      · simp [hk]
      · simp only [hk, if_false, get]
        cases Nat.beq k 0 <;> cases Nat.beq (k % 2) 1 <;> rfl
theorem get_set (m : PMap α) (n : Nat) (x : Option α) (k : Nat) : (m.set n x).get k = if k = n then x else m.get k := get_put (n + 1) m n x k (by omega)
theorem get_set_eq (m : PMap α) (n : Nat) (x : Option α) : (m.set n x).get n = x := by rw [get_set, if_pos rfl]
theorem get_set_ne (m : PMap α) {n k : Nat} (x : Option α) (h : k ≠ n) : (m.set n x).get k = m.get k := by rw [get_set, if_neg h]
theorem get_leaf (n : Nat) : (PMap.leaf : PMap α).get n = none := rfl
end PMap
end Go.Am
