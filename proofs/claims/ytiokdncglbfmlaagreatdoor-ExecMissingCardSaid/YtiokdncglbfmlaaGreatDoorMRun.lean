/- What the model's small doings come to in a world whose block is known. -/
import Derived.Test.YtiokdncglbfmlaaGreatDoorMSt
import Derived.WalkKit
namespace Go.Am
open Go
def aggD : TypeDesc → Bool
  | .struct _ => true
  | .array _ _ => true
  | _ => false
theorem run_info {P : Program} {t : TypeId} {i : TypeInfo} (h : P.info? t = some i) (w : World) : (typeInfo t).run P w = .ok i w := by
  simp [typeInfo, h]
theorem run_under {P : Program} {t : TypeId} {d : TypeDesc} (h : P.underlying t = some d) (w : World) : (underlying t).run P w = .ok d w := by
  simp [underlying, h]
theorem run_agg {P : Program} {t : TypeId} {d : TypeDesc} (h : P.underlying t = some d) (w : World) : (isAgg t).run P w = .ok (aggD d) w := by
  simp only [isAgg, Sem.run_bind, run_under h, Result.andThen_ok]
  cases d <;> rfl
theorem run_size {P : Program} {t : TypeId} {i : TypeInfo} (h : P.info? t = some i) (w : World) : (sizeOf t).run P w = .ok i.size w := by
  simp only [sizeOf, Sem.run_bind, run_info h, Result.andThen_ok, Sem.run_pure]
theorem run_zero {P : Program} {t : TypeId} {i : TypeInfo} {z : Value} (h : P.info? t = some i) (hz : i.zero = some z) (w : World) : (zeroValue t).run P w = .ok z w := by
  simp only [zeroValue, Sem.run_bind, run_info h, Result.andThen_ok, hz, Sem.run_pure]
theorem addr_add (b o n : Nat) : (⟨b, o, none⟩ : Addr).add n = ⟨b, o + n, none⟩ := by
  unfold Addr.add
  split
  · simp [*]
  · rfl
theorem cell_of {w : World} {b : Nat} {c : Array Value} {e : TypeId} {fr : Nat × Nat} (h : w.heap[b]? = some (.cells c e fr)) (o : Nat) : w.cell? ⟨b, o, none⟩ = c[o]? := by
  simp [World.cell?, h]
theorem run_loadFrom {P : Program} {w : World} {b : Nat} {c : Array Value} {e : TypeId} {fr : Nat × Nat} (h : w.heap[b]? = some (.cells c e fr)) (o : Nat) :
    ∀ (n i : Nat) (acc : Array Value), o + i + n ≤ c.size → (loadCellsFrom ⟨b, o, none⟩ i n acc).run P w = .ok (acc ++ c.extract (o + i) (o + i + n)) w
  | 0, i, acc, _ => by simp [loadCellsFrom]; omega
  | n + 1, i, acc, hn => by
    have hc : w.cell? ⟨b, o + i, none⟩ = some c[o + i] := by
      rw [cell_of h, Array.getElem?_eq_getElem]
    simp only [loadCellsFrom, addr_add, Sem.run_bind, run_load, hc, Result.andThen_ok]
    rw [run_loadFrom h o n (i + 1) _ (by omega)]
    congr 1
    apply Array.ext'
    simp only [Array.toList_append, Array.toList_push, Array.toList_extract, List.extract_eq_take_drop, List.append_assoc]
    congr 1
    have e1 : o + i + (n + 1) - (o + i) = n + 1 := by omega
    have e2 : o + (i + 1) + n - (o + (i + 1)) = n := by omega
    rw [e1, e2, List.drop_eq_getElem_cons (i := o + i) (by simp; omega)]
    simp [show o + (i + 1) = o + i + 1 by omega]
theorem run_loadCells_at {P : Program} {w : World} {b : Nat} {c : Array Value} {e : TypeId} {fr : Nat × Nat} (h : w.heap[b]? = some (.cells c e fr)) (o n : Nat) (hn : o + n ≤ c.size) :
    (loadCells ⟨b, o, none⟩ n).run P w = .ok (c.extract o (o + n)) w := by
  simpa [loadCells] using run_loadFrom (P := P) h o n 0 #[] (by simpa using hn)
theorem run_loadVar_agg {P : Program} {w : World} {b : Nat} {c : Array Value} {e t : TypeId} {fr : Nat × Nat} {i : TypeInfo} {d : TypeDesc} (h : w.heap[b]? = some (.cells c e fr)) (hi : P.info? t = some i) (hd : P.underlying t = some d) (ha : aggD d = true) (o : Nat)
    (hn : o + i.size ≤ c.size) : (loadVar t ⟨b, o, none⟩).run P w = .ok (.agg (c.extract o (o + i.size))) w := by
  simp only [loadVar, Sem.run_bind, run_agg hd, Result.andThen_ok, ha, if_true, run_size hi, run_loadCells_at h o _ hn, Sem.run_map, Sem.run_pure]
theorem run_loadVar_one {P : Program} {w : World} {b : Nat} {c : Array Value} {e t : TypeId} {fr : Nat × Nat} {d : TypeDesc} {v : Value} (h : w.heap[b]? = some (.cells c e fr)) (hd : P.underlying t = some d) (ha : aggD d = false) (o : Nat)
    (hv : c[o]? = some v) : (loadVar t ⟨b, o, none⟩).run P w = .ok v w := by
  simp only [loadVar, Sem.run_bind, run_agg hd, Result.andThen_ok, ha, Bool.false_eq_true, if_false, run_load, cell_of h, hv]
def spl (c : Array Value) (o : Nat) (l : List Value) : Array Value := ⟨c.toList.take o ++ l ++ c.toList.drop (o + l.length)⟩
theorem size_spl {c : Array Value} {o : Nat} {l : List Value} (h : o + l.length ≤ c.size) : (spl c o l).size = c.size := by
  have : c.toList.length = c.size := rfl
  simp [spl]; omega
def World.withBlock (w : World) (b : Nat) (o : Obj) : World := { w with heap := w.heap.setIfInBounds b o }
theorem setCell_with {w : World} {b : Nat} {c : Array Value} {e : TypeId} {fr : Nat × Nat} (h : w.heap[b]? = some (.cells c e fr)) (o : Nat) (v : Value) : w.setCell ⟨b, o, none⟩ v = World.withBlock w b (.cells (c.setIfInBounds o v) e fr) := by
  unfold World.setCell World.withBlock
  congr 1
  apply Array.ext_getElem?
  intro k
  simp only [Array.getElem?_modify, Array.getElem?_setIfInBounds]
  by_cases hk : b = k
  · subst hk
    obtain ⟨hb, he⟩ := Array.getElem?_eq_some_iff.1 h
    simp [he, hb]
  · simp [hk]
theorem withBlock_get {w : World} {b : Nat} (o : Obj) (h : b < w.heap.size) : (World.withBlock w b o).heap[b]? = some o := by
  simp [World.withBlock, h]
theorem withBlock_ne {w : World} {b k : Nat} (o : Obj) (h : k ≠ b) : (World.withBlock w b o).heap[k]? = w.heap[k]? := by
  simp [World.withBlock, Array.getElem?_setIfInBounds, Ne.symm h]
theorem withBlock_size (w : World) (b : Nat) (o : Obj) : (World.withBlock w b o).heap.size = w.heap.size := by simp [World.withBlock]
theorem withBlock_two (w : World) (b : Nat) (o o' : Obj) : World.withBlock (World.withBlock w b o) b o' = World.withBlock w b o' := by
  simp [World.withBlock]
theorem withBlock_self {w : World} {b : Nat} {o : Obj} (h : w.heap[b]? = some o) : World.withBlock w b o = w := by
  unfold World.withBlock
  have : w.heap.setIfInBounds b o = w.heap := by
    apply Array.ext_getElem?
    intro k
    simp only [Array.getElem?_setIfInBounds]
    by_cases hk : b = k
    · subst hk
      obtain ⟨hb, he⟩ := Array.getElem?_eq_some_iff.1 h
      simp [he, hb]
    · simp [hk]
  rw [this]
theorem spl_cons {c : Array Value} {o : Nat} {v : Value} {l : List Value} (h : o < c.size) : spl (c.setIfInBounds o v) (o + 1) l = spl c o (v :: l) := by
  have hl : o < c.toList.length := by simpa using h
  unfold spl
  simp only [Array.toList_setIfInBounds, List.length_cons]
  congr 1
  rw [List.take_set, List.take_succ_eq_append_getElem hl, List.drop_set, if_pos (by omega)]
  have : ((c.toList.take o ++ [c.toList[o]]).set o v) = c.toList.take o ++ [v] := by
    rw [List.set_append_right _ _ (by simp; omega)]
    have : o - (c.toList.take o).length = 0 := by simp; omega
    rw [this]; rfl
  rw [this, show o + 1 + l.length = o + (l.length + 1) by omega]
  simp
theorem run_store_at {P : Program} {b : Nat} {e : TypeId} {fr : Nat × Nat} (o : Nat) :
    ∀ (l : List Value) (i : Nat) (c : Array Value) (w : World), w.heap[b]? = some (.cells c e fr) → (∀ k, k < c.size → ¬ (fr.1 ≤ k ∧ k < fr.2)) → o + i + l.length ≤ c.size → (∀ v ∈ l, v.oneCell' = true) →
      (storeCells ⟨b, o, none⟩ l i).run P w = .ok () (World.withBlock w b (.cells (spl c (o + i) l) e fr))
  | [], i, c, w, h, _, _, _ => by
    simp only [storeCells, Sem.run_pure]
    have : spl c (o + i) [] = c := by simp [spl]
    rw [this, withBlock_self h]
  | v :: l, i, c, w, h, hf, hn, h1 => by
    simp only [List.length_cons] at hn
    have hlt : o + i < c.size := by omega
    have hc : w.cell? ⟨b, o + i, none⟩ = some c[o + i] := by rw [cell_of h, Array.getElem?_eq_getElem hlt]
    have hfz : w.frozen? ⟨b, o + i, none⟩ = false := by
      obtain ⟨lo, hi⟩ := fr
      have := hf (o + i) hlt
      simp only [World.frozen?, h]
      simp only [Bool.and_eq_false_iff, decide_eq_false_iff_not]
      simp only at this
      omega
    simp only [storeCells, addr_add, Sem.run_bind, run_store P w _ v .plain (h1 v (by simp)), hc, hfz, Bool.false_eq_true, if_false, Result.andThen_ok]
    rw [setCell_with h]
    have hb := (Array.getElem?_eq_some_iff.1 h).1
    rw [run_store_at o l (i + 1) (c.setIfInBounds (o + i) v) _ (withBlock_get _ hb) (by simpa using hf) (by simp; omega) (fun u hu => h1 u (by simp [hu])), withBlock_two, ← spl_cons hlt]
    rfl
theorem run_storeVar_at {P : Program} {w : World} {b : Nat} {c : Array Value} {e t : TypeId} {fr : Nat × Nat} {i : TypeInfo} {v : Value} (h : w.heap[b]? = some (.cells c e fr)) (hf : ∀ k, k < c.size → ¬ (fr.1 ≤ k ∧ k < fr.2)) (hi : P.info? t = some i) (hs : v.cells.size = i.size) (o : Nat) (hn : o + i.size ≤ c.size)
    (h1 : ∀ u ∈ v.cells.toList, u.oneCell' = true) : (storeVar t ⟨b, o, none⟩ v).run P w = .ok () (World.withBlock w b (.cells (spl c o v.cells.toList) e fr)) := by
  simp only [storeVar, Sem.run_bind, run_size hi, Result.andThen_ok, hs, ne_eq, not_true_eq_false, if_false]
  have := run_store_at (P := P) o v.cells.toList 0 c w h hf (by simp; omega) h1
  simpa using this
end Go.Am
