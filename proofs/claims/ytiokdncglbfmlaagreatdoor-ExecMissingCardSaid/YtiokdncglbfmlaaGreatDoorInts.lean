/- Rows of numbers of a known length: single numbers read, written; literals. -/
import Derived.Test.YtiokdncglbfmlaaGreatDoorMap
namespace Go.Sm
open Go Go.RowKit
def Ints.at {n : Nat} (x : Ints n) (i : Nat) : Int := x.1.getD i 0
def Ints.upd {n : Nat} (x : Ints n) (i : Nat) (v : Int) : Ints n := ⟨x.1.set i v, by simp [x.2]⟩
section
variable {n : Nat} (k : IntKind) (x : Ints n)
@[go_sem] theorem get_enc (i : Nat) : (enc k x)[i]? = if i < n then some (.int k (x.at i)) else none := by
  have := x.2
  by_cases h : i < n
  · simp [enc, Ints.at, h, List.getD, this]
  · simp [enc, h, this]
@[go_sem] theorem got_enc (i : Nat) (h : i < (enc k x).size) : (enc k x)[i] = .int k (x.at i) := by
  have h' : i < n := by simpa using h
  exact got ((get_enc k x i).trans (if_pos h')) h
@[go_sem] theorem set_enc (i : Nat) (v : Int) : (enc k x).setIfInBounds i (.int k v) = enc k (x.upd i v) := by
  simp only [enc, Ints.upd]
  rw [List.setIfInBounds_toArray, List.map_set]
theorem at_upd (i j : Nat) (v : Int) : (x.upd i v).at j = if i = j then (if j < n then v else 0) else x.at j := by
  have := x.2
  simp only [Ints.at, Ints.upd, List.getD, List.getElem?_set]
  by_cases h : i = j
  · subst h; by_cases h : i < n <;> simp [h, this]
  · simp [h]
theorem at_zero (i : Nat) : (Ints.zero n).at i = 0 := by
  simp [Ints.at, Ints.zero, List.getD, List.getElem?_replicate]
  split <;> rfl
theorem ints_ext {x y : Ints n} (h : ∀ i, i < n → x.at i = y.at i) : x = y := by
  apply Subtype.ext
  apply List.ext_getElem (by rw [x.2, y.2])
  intro i h1 h2
  have := h i (by rw [← x.2]; exact h1)
  simpa [Ints.at, List.getD, h1, h2] using this
theorem enc4 (x : Ints 4) : enc k x = #[.int k (x.at 0), .int k (x.at 1), .int k (x.at 2), .int k (x.at 3)] := by
  obtain ⟨l, hl⟩ := x
  match l, hl with
  | [a, b, c, d], _ => rfl
end
def okI (k : IntKind) (n : Nat) : List (Nat × Value) → Bool
  | [] => true
  | (i, .int k' _) :: r => decide (i < n) && (decide (k' = k) && okI k n r)
  | _ => false
@[go_sem] theorem okI_nil (k : IntKind) (n : Nat) : okI k n [] = true := rfl
@[go_sem] theorem okI_cons (k : IntKind) (n i : Nat) (k' : IntKind) (v : Int) (r : List (Nat × Value)) : okI k n ((i, .int k' v) :: r) = (decide (i < n) && (decide (k' = k) && okI k n r)) := rfl
def updI {n : Nat} (x : Ints n) : List (Nat × Value) → Ints n
  | [] => x
  | (i, .int _ v) :: r => updI (x.upd i v) r
  | _ :: r => updI x r
@[go_sem] theorem updI_nil {n : Nat} (x : Ints n) : updI x [] = x := rfl
@[go_sem] theorem updI_cons {n : Nat} (x : Ints n) (i : Nat) (k : IntKind) (v : Int) (r : List (Nat × Value)) : updI x ((i, .int k v) :: r) = updI (x.upd i v) r := rfl
theorem okI_shape {k : IntKind} {n i : Nat} {v : Value} {r : List (Nat × Value)} (h : okI k n ((i, v) :: r) = true) : i < n ∧ (∃ m, v = .int k m) ∧ okI k n r = true := by
  unfold okI at h
  split at h
  · rename_i e; simp at e
  · rename_i e; simp only [List.cons.injEq, Prod.mk.injEq] at e; obtain ⟨⟨rfl, rfl⟩, rfl⟩ := e
    simp only [Bool.and_eq_true, decide_eq_true_eq] at h
    exact ⟨h.1, ⟨_, by rw [h.2.1]⟩, h.2.2⟩
  · exact absurd h (by simp)
theorem fill_ints (k : IntKind) {n : Nat} : ∀ (vs : List (Nat × Value)) (x : Ints n), okI k n vs = true → Instr.fill (fun i => some (i * 1, 1)) (enc k x) vs = some (enc k (updI x vs))
  | [], x, _ => rfl
  | (i, v') :: r, x, h => by
    obtain ⟨h1, ⟨v, rfl⟩, h3⟩ := okI_shape h
    unfold Instr.fill
    simp only [updI_cons]
    rw [if_neg (by simp [cells_int]; omega), ← fill_ints k r (x.upd i v) h3, ← set_enc]
    congr 1
    simp [cells_int, List.zipIdx]
theorem run_buildInts {P : Program} {ty n : Nat} {k : IntKind} (T : IntsTy P ty n k) (hz : (P.info? ty).bind (·.zero) = some (.agg (enc k (Ints.zero n)))) (w : World) (vs : Array (Nat × Value)) :
    (buildAgg ty vs).run P w = bif okI k n vs.toList then .ok (.value (.agg (enc k (updI (Ints.zero n) vs.toList)))) w else buildUnsaid P ty vs w := by
  cases hok : okI k n vs.toList with
  | false => rfl
  | true =>
  obtain ⟨e, h1, h2, h3, i, h4, h5⟩ := T.arr
  have hs : (sizeOf e).run P w = .ok 1 w := by simp [sizeOf, typeInfo, h4, h5]
  rw [cond_true]
  simp only [buildAgg, Instr.build, Sem.run_bind, run_zero hz w, Result.andThen_ok, run_underlying h1 w, Value.cells, hs]
  rw [fill_ints k _ _ hok]
  rfl
end Go.Sm
