/- Blocks of cells as whole rows; structs and arrays loaded and stored whole; rows of numbers of a known length. -/
import Derived.Test.YtiokdncglbfmlaaGreatDoorBase
import Derived.Laws.CopyRow
import Derived.Laws.Rows
namespace Go.Sm
open Go Go.RowKit

/-! ### Blocks of cells, whole -/
def _root_.Go.World.cellsAt (w : World) (b : Nat) : Array Value := match w.heap[b]? with | some (.cells c _ _) => c | _ => #[]
/-- Block b is a row of cells, no part of it shared with a string. -/
def _root_.Go.World.plain (w : World) (b : Nat) : Prop := ∃ cs t, w.heap[b]? = some (.cells cs t (0, 0))

@[go_sem] theorem cell?_eq (w : World) (b o : Nat) : w.cell? ⟨b, o, none⟩ = (w.cellsAt b)[o]? := by
  unfold World.cell? World.cellsAt
  split <;> rename_i h <;> simp [h]

theorem cellsAt_of {w : World} {b : Nat} {c : Array Value} {t : TypeId} {fr : Nat × Nat} (h : w.heap[b]? = some (.cells c t fr)) : w.cellsAt b = c := by unfold World.cellsAt; rw [h]
theorem cellsAt_congr {w w' : World} {b : Nat} (h : w'.heap[b]? = w.heap[b]?) : w'.cellsAt b = w.cellsAt b := by unfold World.cellsAt; rw [h]
theorem plain_congr {w w' : World} {b : Nat} (h : w'.heap[b]? = w.heap[b]?) : w'.plain b = w.plain b := by unfold World.plain; rw [h]

theorem lt_of_plain {w : World} {b : Nat} (h : w.plain b) : b < w.heap.size := by
  obtain ⟨cs, t, h⟩ := h
  exact (Array.getElem?_eq_some_iff.1 h).1
theorem frozen_of_plain {w : World} {b : Nat} (h : w.plain b) (o : Nat) : w.frozen? ⟨b, o, none⟩ = false := by
  obtain ⟨cs, t, h⟩ := h
  exact frozen_of_row w b o cs t h

@[go_sem] theorem cellsAt_alloc_new (w : World) (c : Array Value) (t : TypeId) (fr : Nat × Nat) : (w.alloc (.cells c t fr)).cellsAt w.heap.size = c := by
  unfold World.cellsAt; rw [heap_alloc_new]
@[go_sem] theorem cellsAt_alloc_eq (w : World) (c : Array Value) (t : TypeId) (fr : Nat × Nat) (b : Nat) (h : b = w.heap.size) : (w.alloc (.cells c t fr)).cellsAt b = c := by
  subst h; exact cellsAt_alloc_new w c t fr
@[go_sem] theorem cellsAt_alloc_lt (w : World) (o : Obj) (b : Nat) (h : b < w.heap.size) : (w.alloc o).cellsAt b = w.cellsAt b := cellsAt_congr (heap_alloc_old _ _ h)
@[go_sem] theorem cellsAt_more (w : World) (g : Garb) (b : Nat) (h : b < w.heap.size) : (w.more g).cellsAt b = w.cellsAt b := cellsAt_congr (heap_more w g b h)
@[go_sem] theorem cellsAt_drew (w : World) (b : Nat) : w.drew.cellsAt b = w.cellsAt b := rfl
@[go_sem] theorem cellsAt_drewN (w : World) (n b : Nat) : (w.drewN n).cellsAt b = w.cellsAt b := rfl
@[go_sem] theorem plain_alloc_new (w : World) (c : Array Value) (t : TypeId) : (w.alloc (.cells c t)).plain w.heap.size := ⟨c, t, heap_alloc_new _ _⟩
@[go_sem] theorem plain_alloc_eq (w : World) (c : Array Value) (t : TypeId) (b : Nat) (h : b = w.heap.size) : (w.alloc (.cells c t)).plain b := by subst h; exact plain_alloc_new w c t
@[go_sem] theorem plain_alloc_lt (w : World) (o : Obj) (b : Nat) (h : b < w.heap.size) : (w.alloc o).plain b = w.plain b := plain_congr (heap_alloc_old _ _ h)
@[go_sem] theorem plain_more (w : World) (g : Garb) (b : Nat) (h : b < w.heap.size) : (w.more g).plain b = w.plain b := plain_congr (heap_more w g b h)
@[go_sem] theorem plain_drew (w : World) (b : Nat) : w.drew.plain b = w.plain b := rfl
@[go_sem] theorem plain_drewN (w : World) (n b : Nat) : (w.drewN n).plain b = w.plain b := rfl

/-- Some cells put over others, from a place on. -/
def splice (c : Array Value) (off : Nat) (A : Array Value) : Array Value := (c.toList.take off ++ A.toList ++ c.toList.drop (off + A.size)).toArray
@[go_sem] theorem size_splice (c : Array Value) (off : Nat) (A : Array Value) (h : off + A.size ≤ c.size) : (splice c off A).size = c.size := by
  simp [splice]; omega
@[go_sem] theorem splice_all (c A : Array Value) (h : c.size = A.size) : splice c 0 A = A := by
  simp [splice, show c.toList.drop A.size = [] from by simp; omega]

def _root_.Go.World.putCells (w : World) (b off : Nat) (A : Array Value) : World := w.setRow b (splice (w.cellsAt b) off A)

theorem heap_putCells_ne (w : World) (b off k : Nat) (A : Array Value) (h : k ≠ b) : (w.putCells b off A).heap[k]? = w.heap[k]? := setRow_other w b k _ h
@[go_sem] theorem size_putCells (w : World) (b off : Nat) (A : Array Value) : (w.putCells b off A).heap.size = w.heap.size := by simp [World.putCells]
@[go_sem] theorem cellsAt_putCells (w : World) (b off : Nat) (A : Array Value) (h : w.plain b) : (w.putCells b off A).cellsAt b = splice (w.cellsAt b) off A := by
  obtain ⟨cs, t, h⟩ := h
  exact cellsAt_of (setRow_heap w b cs (splice (w.cellsAt b) off A) t (0, 0) h)
@[go_sem] theorem cellsAt_putCells_ne (w : World) (b off k : Nat) (A : Array Value) (h : k ≠ b) : (w.putCells b off A).cellsAt k = w.cellsAt k := cellsAt_congr (heap_putCells_ne w b off k A h)
@[go_sem] theorem cellsAt_putCells_lt (w : World) (b off k : Nat) (A : Array Value) (h : k < b) : (w.putCells b off A).cellsAt k = w.cellsAt k := cellsAt_putCells_ne w b off k A (by omega)
@[go_sem] theorem cellsAt_putCells_gt (w : World) (b off k : Nat) (A : Array Value) (h : b < k) : (w.putCells b off A).cellsAt k = w.cellsAt k := cellsAt_putCells_ne w b off k A (by omega)
@[go_sem] theorem plain_putCells (w : World) (b off k : Nat) (A : Array Value) : (w.putCells b off A).plain k = w.plain k := by
  by_cases hk : k = b
  · subst hk
    refine propext ⟨fun ⟨cs, t, h⟩ => ?_, fun ⟨cs, t, h⟩ => ⟨_, t, setRow_heap w k cs _ t (0, 0) h⟩⟩
    simp only [World.putCells, World.setRow, Array.getElem?_modify, ↓reduceIte, Option.map_eq_some_iff] at h
    obtain ⟨o, h1, h2⟩ := h
    cases o <;> simp at h2
    obtain ⟨_, rfl, rfl⟩ := h2
    exact ⟨_, _, h1⟩
  · exact plain_congr (heap_putCells_ne w b off k A hk)
@[go_sem] theorem frozen?_putCells (w : World) (b off : Nat) (A : Array Value) (a : Addr) : (w.putCells b off A).frozen? a = w.frozen? a := by
  simp only [World.frozen?, World.putCells, World.setRow, Array.getElem?_modify]
  by_cases hb : b = a.block
  · simp only [hb, if_true]
    cases hh : w.heap[a.block]? with
    | none => simp
    | some x => cases x <;> simp
  · simp [hb]

/-! ### one cell -/
theorem heap_setCell_ne (w : World) (a : Addr) (v : Value) (k : Nat) (h : k ≠ a.block) : (w.setCell a v).heap[k]? = w.heap[k]? := heap_setCell_other w a k v h
@[go_sem] theorem cellsAt_setCell (w : World) (b o : Nat) (v : Value) : (w.setCell ⟨b, o, none⟩ v).cellsAt b = (w.cellsAt b).setIfInBounds o v := by
  unfold World.cellsAt World.setCell
  simp only [Array.getElem?_modify, ↓reduceIte]
  cases hh : w.heap[b]? with
  | none => simp
  | some x => cases x <;> simp
@[go_sem] theorem cellsAt_setCell_ne (w : World) (a : Addr) (v : Value) (k : Nat) (h : k ≠ a.block) : (w.setCell a v).cellsAt k = w.cellsAt k := cellsAt_congr (heap_setCell_ne w a v k h)
@[go_sem] theorem cellsAt_setCell_lt (w : World) (b o : Nat) (v : Value) (k : Nat) (h : k < b) : (w.setCell ⟨b, o, none⟩ v).cellsAt k = w.cellsAt k := cellsAt_setCell_ne w _ v k (by simp; omega)
@[go_sem] theorem cellsAt_setCell_gt (w : World) (b o : Nat) (v : Value) (k : Nat) (h : b < k) : (w.setCell ⟨b, o, none⟩ v).cellsAt k = w.cellsAt k := cellsAt_setCell_ne w _ v k (by simp; omega)
@[go_sem] theorem plain_setCell (w : World) (a : Addr) (v : Value) (k : Nat) : (w.setCell a v).plain k = w.plain k := by
  by_cases hk : k = a.block
  · subst hk
    refine propext ⟨fun ⟨cs, t, h⟩ => ?_, fun ⟨cs, t, h⟩ => ?_⟩
    · simp only [World.setCell, Array.getElem?_modify, ↓reduceIte, Option.map_eq_some_iff] at h
      obtain ⟨o, h1, h2⟩ := h
      cases o <;> simp at h2
      obtain ⟨_, rfl, rfl⟩ := h2
      exact ⟨_, _, h1⟩
    · exact ⟨if a.spot.isSome then cs else cs.setIfInBounds a.off v, t, by simp only [World.setCell, Array.getElem?_modify, ↓reduceIte, h, Option.map_some]⟩
  · exact plain_congr (heap_setCell_ne w a v k hk)

/-! ### variables of struct and array types, whole -/
structure AggTy (P : Program) (ty n : Nat) : Prop where
  agg : ∃ d, P.underlying ty = some d ∧ (match d with | .struct _ | .array _ _ => true | _ => false) = true
  size : (P.info? ty).map (·.size) = some n

section
variable {P : Program} {ty n : Nat}
theorem AggTy.run_isAgg (T : AggTy P ty n) (w : World) : (isAgg ty).run P w = .ok true w := by
  obtain ⟨d, hu, hd⟩ := T.agg
  unfold isAgg
  rw [Sem.run_bind, run_underlying hu w]
  cases d <;> simp_all
theorem AggTy.run_sizeOf (T : AggTy P ty n) (w : World) : (sizeOf ty).run P w = .ok n w := by
  have h := T.size
  cases hq : P.info? ty with
  | none => simp [hq] at h
  | some i => simp [hq] at h; simp [sizeOf, typeInfo, hq, h]

theorem run_loadVar_agg (T : AggTy P ty n) (w : World) (b off : Nat) (h : off + n ≤ (w.cellsAt b).size) :
    (loadVar ty ⟨b, off, none⟩).run P w = .ok (.agg ((w.cellsAt b).extract off (off + n))) w := by
  have hl : (loadCells ⟨b, off, none⟩ ((w.cellsAt b).extract off (off + n)).toList.length).run P w = .ok ((w.cellsAt b).extract off (off + n)).toList.toArray w :=
    run_loadCells_list (P := P) w ⟨b, off, none⟩ _ (fun j v hv => by
      have hadd : (⟨b, off, none⟩ : Addr).add j = ⟨b, off + j, none⟩ := by unfold Addr.add; split <;> simp_all
      rw [hadd, cell?_eq]
      have hj : j < n := by
        have := (List.getElem?_eq_some_iff.1 hv).1
        simp at this; omega
      simp only [Array.getElem?_toList, Array.getElem?_extract] at hv
      rw [if_pos (by omega)] at hv
      exact hv)
  have hn : ((w.cellsAt b).extract off (off + n)).toList.length = n := by simp; omega
  rw [hn] at hl
  simp only [loadVar, Sem.run_bind, T.run_isAgg w, Result.andThen_ok, if_true, T.run_sizeOf w, hl, Array.toArray_toList]
  rfl

theorem run_storeVar_agg (T : AggTy P ty n) (w : World) (b off : Nat) (A : Array Value) (hA : A.size = n) (h : off + n ≤ (w.cellsAt b).size) (hp : w.plain b) (h1 : ∀ u ∈ A.toList, u.oneCell' = true) :
    (storeVar ty ⟨b, off, none⟩ (.agg A)).run P w = .ok () (w.putCells b off A) := by
  obtain ⟨cs, t, hb⟩ := hp
  have hc : w.cellsAt b = cs := by unfold World.cellsAt; rw [hb]
  have := run_storeCells_at P b off t A.toList 0 cs w hb (by rw [hc] at h; simp; omega) h1
  simp only [storeVar, Sem.run_bind, T.run_sizeOf w, Result.andThen_ok, Value.cells, hA, ne_eq, not_true_eq_false, if_false]
  simp only [Nat.add_zero] at this
  rw [show (storeCells ⟨b, off, none⟩ A.toList).run P w = (storeCells ⟨b, off, none⟩ A.toList 0).run P w from rfl, this]
  simp [World.putCells, splice, hc]
end

/-- The load of a whole struct or array; not opened by the walk. -/
def loadAgg (ty : TypeId) (v : Value) : Sem Next := do pure (.value (← Instr.loadAt ty v))
def storeAgg (ty : TypeId) (v x : Value) : Sem Next := do Instr.storeAt ty v x; pure .skip

theorem run_loadAgg {P : Program} {ty n : Nat} (T : AggTy P ty n) (w : World) (b off : Nat) (h : off + n ≤ (w.cellsAt b).size) :
    (loadAgg ty (.pointer (some ⟨b, off, none⟩))).run P w = .ok (.value (.agg ((w.cellsAt b).extract off (off + n)))) w := by
  simp only [loadAgg, Instr.loadAt, Instr.sureAddr, Sem.run_bind, Sem.run_pure, Result.andThen_ok, run_loadVar_agg T w b off h]
theorem run_storeAgg {P : Program} {ty n : Nat} (T : AggTy P ty n) (w : World) (b off : Nat) (A : Array Value) (hA : A.size = n) (h : off + n ≤ (w.cellsAt b).size) (hp : w.plain b) (h1 : ∀ u ∈ A.toList, u.oneCell' = true) :
    (storeAgg ty (.pointer (some ⟨b, off, none⟩)) (.agg A)).run P w = .ok .skip (w.putCells b off A) := by
  simp only [storeAgg, Instr.storeAt, Instr.sureAddr, Sem.run_bind, Sem.run_pure, Result.andThen_ok, run_storeVar_agg T w b off A hA h hp h1]

/-! ### rows of numbers of a known length -/
def Ints (n : Nat) : Type := { l : List Int // l.length = n }
instance {n : Nat} : DecidableEq (Ints n) := inferInstanceAs (DecidableEq { l : List Int // l.length = n })
def enc {n : Nat} (k : IntKind) (x : Ints n) : Array Value := (x.1.map (Value.int k)).toArray
section
variable {n : Nat} (k : IntKind) (x y : Ints n)
theorem enc_def : enc k x = (x.1.map (Value.int k)).toArray := rfl
@[go_sem, simp] theorem size_enc : (enc k x).size = n := by simp [enc, x.2]
@[go_sem, simp] theorem enc_all : (enc k x).extract 0 n = enc k x := by
  have h := size_enc k x
  rw [show (enc k x).extract 0 n = (enc k x).extract 0 (enc k x).size from by rw [h]]
  simp
theorem enc_one : ∀ u ∈ (enc k x).toList, u.oneCell' = true := by
  intro u hu
  simp [enc] at hu
  obtain ⟨a, _, rfl⟩ := hu
  rfl
end
def AllOne (A : Array Value) : Prop := ∀ u ∈ A.toList, u.oneCell' = true
@[go_sem] theorem allOne_enc {n : Nat} (k : IntKind) (x : Ints n) : AllOne (enc k x) := enc_one k x

/-- A slice's header. -/
structure Sl where
  a : Option Addr
  n : Nat
  c : Nat
def Sl.v (s : Sl) : Value := .slice s.a s.n s.c
def Sl.nil : Sl := ⟨none, 0, 0⟩
/-- A value of one cell that is only handed on. -/
def One : Type := { v : Value // v.oneCell' = true }
end Go.Sm
namespace Go.Sm
open Go Go.RowKit
theorem allOne_append {A B : Array Value} (hA : AllOne A) (hB : AllOne B) : AllOne (A ++ B) := by
  intro u hu
  rw [Array.toList_append, List.mem_append] at hu
  exact hu.elim (hA u) (hB u)
theorem allOne_single {v : Value} (h : v.oneCell' = true) : AllOne #[v] := by
  intro u hu
  simp at hu
  subst hu
  exact h
def Ints.zero (n : Nat) : Ints n := ⟨List.replicate n 0, by simp⟩

section
variable {A B : Array Value} {n i j j' i' : Nat} {v : Value}
theorem get_left (h : A.size = n) (hi : i < n) : (A ++ B)[i]? = A[i]? := by rw [Array.getElem?_append, if_pos (by omega)]
theorem get_right (h : A.size = n) (hi : i = n + j) : (A ++ B)[i]? = B[j]? := by
  rw [Array.getElem?_append, if_neg (by omega), show i - A.size = j by omega]
theorem ext_left (h : A.size = n) (hj : j ≤ n) : (A ++ B).extract i j = A.extract i j := by
  rw [Array.extract_append]
  simp [show j - A.size = 0 by omega]
theorem ext_right (h : A.size = n) (hi : i = n + i') (hj : j = n + j') : (A ++ B).extract i j = B.extract i' j' := by
  rw [Array.extract_append]
  simp [show i - A.size = i' by omega, show j - A.size = j' by omega, show A.extract i j = #[] from by simp; omega]
theorem set_left (h : A.size = n) (hi : i < n) : (A ++ B).setIfInBounds i v = A.setIfInBounds i v ++ B := by
  apply Array.ext_getElem?
  intro k
  simp only [Array.getElem?_setIfInBounds, Array.getElem?_append, Array.size_append, Array.size_setIfInBounds]
  by_cases hk : i = k
  · subst hk; simp [show i < A.size by omega]; omega
  · simp [hk]
theorem set_right (h : A.size = n) (hi : i = n + j) : (A ++ B).setIfInBounds i v = A ++ B.setIfInBounds j v := by
  apply Array.ext_getElem?
  intro k
  simp only [Array.getElem?_setIfInBounds, Array.getElem?_append, Array.size_append]
  by_cases hk : i = k
  · subst hk
    simp [show ¬ i < A.size by omega, show i - A.size = j by omega, show (i < A.size + B.size) = (j < B.size) from propext (by omega)]
  · by_cases hl : k < A.size
    · simp [hk, hl]
    · simp [hk, hl, show ¬ j = k - A.size by omega]
theorem splice_left {C : Array Value} (h : A.size = n) (hi : i + C.size ≤ n) : splice (A ++ B) i C = splice A i C ++ B := by
  simp only [splice, Array.toList_append]
  rw [List.take_append_of_le_length (by simp; omega), List.drop_append_of_le_length (by simp; omega)]
  simp
theorem splice_right {C : Array Value} (h : A.size = n) (hi : i = n + j) : splice (A ++ B) i C = A ++ splice B j C := by
  subst hi
  subst h
  simp only [splice, Array.toList_append]
  rw [List.take_append, List.drop_append]
  rw [List.take_of_length_le (by simp), List.drop_eq_nil_of_le (by simp; omega)]
  simp [Nat.add_assoc, show A.size + (j + C.size) - A.size = j + C.size by omega]
end

/-! ### new variables, literals of structs -/
def allocAgg (ty : TypeId) : Sem Next := do pure (.value (← Instr.alloc ty true (.tuple #[])))
def buildAgg (ty : TypeId) (parts : Array (Nat × Value)) : Sem Next := do pure (.value (← Instr.build ty parts))
theorem run_zero {P : Program} {ty : TypeId} {A : Array Value} (h : (P.info? ty).bind (·.zero) = some (.agg A)) (w : World) : (zeroValue ty).run P w = .ok (.agg A) w := by
  cases hq : P.info? ty with
  | none => simp [hq] at h
  | some i => simp [hq] at h; simp [zeroValue, typeInfo, hq, h]
theorem run_allocAgg {P : Program} {ty : TypeId} {A : Array Value} (h : (P.info? ty).bind (·.zero) = some (.agg A)) (w : World) :
    (allocAgg ty).run P w = .ok (.value (.pointer (some ⟨w.heap.size, 0, none⟩))) (w.alloc (.cells A ty)) := by
  simp only [allocAgg, Instr.alloc, Sem.run_bind, run_zero h w, Result.andThen_ok]
  simp [newVar, newRow, Value.cells]
@[go_sem] theorem putCells_alloc (w : World) (Z A : Array Value) (t : TypeId) (h : Z.size = A.size) : (w.alloc (.cells Z t)).putCells w.heap.size 0 A = w.alloc (.cells A t) := by
  have h1 : (w.alloc (.cells Z t)).cellsAt w.heap.size = Z := cellsAt_alloc_new w Z t (0, 0)
  unfold World.putCells
  rw [h1, splice_all Z A h]
  simp only [World.setRow, World.alloc]
  congr 1
  apply Array.ext_getElem?
  intro k
  simp only [Array.getElem?_modify, Array.getElem?_push]
  by_cases hk : k = w.heap.size
  · simp [hk]
  · simp [hk, Ne.symm hk]

@[go_sem] theorem putCells_alloc_eq (w : World) (Z A : Array Value) (t : TypeId) (b : Nat) (hb : b = w.heap.size) (h : Z.size = A.size) : (w.alloc (.cells Z t)).putCells b 0 A = w.alloc (.cells A t) := by
  subst hb; exact putCells_alloc w Z A t h

@[go_sem] theorem cells_agg (c : Array Value) : (Value.agg c).cells = c := rfl
@[go_sem] theorem cells_int (k : IntKind) (n : Int) : (Value.int k n).cells = #[.int k n] := rfl
@[go_sem] theorem cells_bool (b : Bool) : (Value.bool b).cells = #[.bool b] := rfl
@[go_sem] theorem cells_string (b : ByteArray) : (Value.string b).cells = #[.string b] := rfl
@[go_sem] theorem cells_pointer (p : Option Addr) : (Value.pointer p).cells = #[.pointer p] := rfl
@[go_sem] theorem cells_slice (p : Option Addr) (n c : Nat) : (Value.slice p n c).cells = #[.slice p n c] := rfl
@[go_sem] theorem cells_map (p : Option Nat) : (Value.map p).cells = #[.map p] := rfl
@[go_sem] theorem cells_func (f : Fn) (a c : Array Value) : (Value.func f a c).cells = #[.func f a c] := rfl
@[go_sem] theorem cells_iface (t : TypeId) (v : Value) : (Value.iface t v).cells = #[.iface t v] := rfl
def okParts (pl : List (Nat × Nat)) : List (Nat × Value) → Prop
  | [] => True
  | p :: r => (p.1 < pl.length ∧ p.2.cells.size = (pl.getD p.1 (0, 0)).2) ∧ okParts pl r
@[go_sem] def fillAt (pl : List (Nat × Nat)) (c : Array Value) : List (Nat × Value) → Array Value
  | [] => c
  | p :: r => fillAt pl (splice c (pl.getD p.1 (0, 0)).1 p.2.cells) r
theorem splice_succ (c : Array Value) (off : Nat) (v : Value) (l : List Value) (h : off + (l.length + 1) ≤ c.size) :
    splice c off (v :: l).toArray = splice (c.setIfInBounds off v) (off + 1) l.toArray := by
  apply Array.ext'
  simp only [splice, Array.toList_setIfInBounds, List.size_toArray, List.length_cons]
  apply List.ext_getElem?
  intro k
  have hlen : c.toList.length = c.size := Array.length_toList
  simp only [List.getElem?_append, List.getElem?_take, List.getElem?_drop, List.length_append, List.length_take, List.getElem?_set, List.length_set, hlen, List.length_cons, List.getElem?_cons]
  rw [Nat.min_eq_left (by omega), Nat.min_eq_left (by omega)]
  by_cases h1 : k < off
  · simp [h1, show k < off + (l.length + 1) by omega, show k < off + 1 + l.length by omega, show k < off + 1 by omega, show ¬ off = k by omega]
  · by_cases h2 : k = off
    · subst h2; simp [show k < c.size by omega, show k < k + (l.length + 1) by omega, show k < k + 1 + l.length by omega]
    · by_cases h3 : k < off + (l.length + 1)
      · simp [h1, h3, show k < off + 1 + l.length by omega, show ¬ k < off + 1 by omega, show ¬ k - off = 0 by omega, show k - off - 1 = k - (off + 1) by omega]
      · rw [if_neg (by omega), if_neg (by omega), if_neg (by omega)]
        congr 1
        omega
theorem fold_splice (off : Nat) : ∀ (l : List Value) (j : Nat) (c : Array Value), off + j + l.length ≤ c.size →
    (l.zipIdx j).foldl (fun cs (p : Value × Nat) => cs.setIfInBounds (off + p.2) p.1) c = splice c (off + j) l.toArray
  | [], j, c, _ => by simp [splice]
  | v :: l, j, c, h => by
    simp only [List.zipIdx_cons, List.foldl_cons, List.length_cons] at h ⊢
    rw [fold_splice off l (j + 1) _ (by simp; omega), splice_succ c (off + j) v l (by omega)]
    rfl
theorem fill_fillAt (pl : List (Nat × Nat)) (n : Nat) (hb : ∀ p ∈ pl, p.1 + p.2 ≤ n) : ∀ (vs : List (Nat × Value)) (c : Array Value), c.size = n → okParts pl vs →
    Instr.fill (fun i => pl.toArray[i]?) c vs = some (fillAt pl c vs)
  | [], c, _, _ => rfl
  | (i, v) :: r, c, hc, ⟨⟨h1, h2⟩, h3⟩ => by
    have hi : pl.toArray[i]? = some pl[i] := by simp [h1]
    have hd : pl.getD i (0, 0) = pl[i] := by simp [List.getD, h1]
    have hbd := hb pl[i] (List.getElem_mem h1)
    simp only [hd] at h2
    unfold Instr.fill fillAt
    simp only [hi, hd]
    rw [if_neg (by simp [h2]; omega)]
    have hf := fold_splice (pl[i].1) v.cells.toList 0 c (by simp; omega)
    simp only [Nat.add_zero, Array.toArray_toList] at hf
    have : (v.cells.zipIdx.foldl (fun cs (x : Value × Nat) => cs.setIfInBounds (pl[i].1 + x.2) x.1) c) = splice c pl[i].1 v.cells := by
      rw [← hf, ← Array.foldl_toList, Array.toList_zipIdx]
    rw [this]
    exact fill_fillAt pl n hb r _ (by rw [size_splice _ _ _ (by omega)]; exact hc) h3
@[go_sem] def okB (pl : List (Nat × Nat)) : List (Nat × Value) → Bool
  | [] => true
  | p :: r => (decide (p.1 < pl.length) && decide (p.2.cells.size = (pl.getD p.1 (0, 0)).2)) && okB pl r
theorem okParts_of_okB (pl : List (Nat × Nat)) : ∀ l, okB pl l = true → okParts pl l
  | [], _ => trivial
  | p :: r, h => by
    simp only [okB, Bool.and_eq_true, decide_eq_true_eq] at h
    exact ⟨h.1, okParts_of_okB pl r h.2⟩
/-- The run of a build that no law says. -/
def buildUnsaid (P : Program) (ty : TypeId) (vs : Array (Nat × Value)) (w : World) := (buildAgg ty vs).run P w
theorem run_buildAgg {P : Program} {ty : TypeId} {Z : Array Value} (hz : (P.info? ty).bind (·.zero) = some (.agg Z)) {fs : Array Field} (hu : P.underlying ty = some (.struct fs)) {pl : List (Nat × Nat)}
    (hpl : ∀ w : World, (fs.mapM (m := Sem) fun f => do pure (f.offset, ← sizeOf f.type)).run P w = .ok pl.toArray w) {n : Nat} (hn : Z.size = n) (hb : ∀ p ∈ pl, p.1 + p.2 ≤ n) (w : World) (vs : Array (Nat × Value)) :
    (buildAgg ty vs).run P w = bif okB pl vs.toList then .ok (.value (.agg (fillAt pl Z vs.toList))) w else buildUnsaid P ty vs w := by
  cases hok : okB pl vs.toList with
  | false => rfl
  | true =>
  have h := okParts_of_okB _ _ hok
  rw [cond_true]
  simp only [buildAgg, Instr.build, Sem.run_bind, run_zero hz w, Result.andThen_ok, run_underlying hu w, hpl w, Value.cells]
  have := fill_fillAt pl n hb vs.toList Z hn h
  rw [show (fun x => pl.toArray[x]?) = (fun i => pl.toArray[i]?) from rfl, this]
  rfl
end Go.Sm
namespace Go.Sm
open Go Go.RowKit
/-! ### what is left behind a call: the world with new blocks -/
def Grew (a w : World) : Prop := Below a.heap.size a w
theorem grew_refl (a : World) : Grew a a := Below.refl _ _
theorem grew_trans {a b c : World} (h : Grew a b) (k : Grew b c) : Grew a c := Below.trans h (Below.mono k h.size)
theorem grew_alloc {a w : World} (h : Grew a w) (o : Obj) : Grew a (w.alloc o) := Below.alloc h h.size o
theorem grew_more {a w : World} (h : Grew a w) (g : Garb) : Grew a (w.more g) := below_more h h.size g
theorem grew_drew {a w : World} (h : Grew a w) : Grew a w.drew := Below.drew h
theorem grew_drewN {a w : World} (h : Grew a w) (n : Nat) : Grew a (w.drewN n) := below_drewN h n
theorem grew_set {a w : World} (h : Grew a w) (b o : Nat) (v : Value) (hb : a.heap.size ≤ b) : Grew a (w.setCell ⟨b, o, none⟩ v) := Below.setCell h hb v
theorem grew_put {a w : World} (h : Grew a w) (b off : Nat) (A : Array Value) (hb : a.heap.size ≤ b) : Grew a (w.putCells b off A) :=
  Below.trans h ⟨rfl, rfl, rfl, by simp [World.putCells], fun k hk => heap_putCells_ne w b off k A (by omega)⟩
theorem more_of_grew {a w : World} (h : Grew a w) : ∃ g, w = a.more g := more_of_below h
theorem grew_of_more {a w : World} (h : ∃ g, w = a.more g) : Grew a w := below_of_more h

theorem results_cell_agg {P : Program} {fn : Func} {t ty n : Nat} (h : fn.results = #[.cell t ty]) (T : AggTy P ty n) (tmps : Array Value) (w : World) (b off : Nat) (ht : tmps.getD t undef = .pointer (some ⟨b, off, none⟩))
    (hs : off + n ≤ (w.cellsAt b).size) : (results fn tmps).run P w = .ok (.agg ((w.cellsAt b).extract off (off + n))) w := by
  have ht' : tmps[t]?.getD undef = .pointer (some ⟨b, off, none⟩) := by simpa using ht
  simp [results, h, ht', asAddr, run_loadVar_agg T w b off hs]
/-- The end of a function whose one result is a struct or an array. -/
theorem ret_agg {P : Program} {fn : Func} {R : Ending → World → Prop} {a : Act} {w : World} {t ty n b off : Nat} {A : Array Value} (h : fn.results = #[.cell t ty]) (T : AggTy P ty n) (ht : a.tmps.getD t undef = .pointer (some ⟨b, off, none⟩))
    (hd : a.defers = []) (hs : off + n ≤ (w.cellsAt b).size) (hv : (w.cellsAt b).extract off (off + n) = A) (hR : R (.returned (.agg A)) w) : bodyPost P fn R .ret a w :=
  bodyPost_ret (v := .agg A) (by rw [results_cell_agg h T _ w b off ht hs, hv]) hd hR
end Go.Sm
theorem Go.Sm.got {A : Array Value} {i : Nat} {v : Value} (h : A[i]? = some v) (hi : i < A.size) : A[i] = v := Option.some.inj ((Array.getElem?_eq_getElem hi).symm.trans h)
namespace Go.Sm
theorem results_cell_tmp {P : Program} {fn : Func} {t ty n u : Nat} (h : fn.results = #[.cell t ty, .tmp u]) (T : AggTy P ty n) (tmps : Array Value) (w : World) (b off : Nat) (ht : tmps.getD t undef = .pointer (some ⟨b, off, none⟩))
    (hs : off + n ≤ (w.cellsAt b).size) : (results fn tmps).run P w = .ok (.tuple #[.agg ((w.cellsAt b).extract off (off + n)), tmps.getD u undef]) w := by
  have ht' : tmps[t]?.getD undef = .pointer (some ⟨b, off, none⟩) := by simpa using ht
  simp [results, h, ht', asAddr, run_loadVar_agg T w b off hs]
theorem ret_agg_tmp {P : Program} {fn : Func} {R : Ending → World → Prop} {a : Act} {w : World} {t ty n b off u : Nat} {A : Array Value} {v : Value} (h : fn.results = #[.cell t ty, .tmp u]) (T : AggTy P ty n) (ht : a.tmps.getD t undef = .pointer (some ⟨b, off, none⟩))
    (hu : a.tmps.getD u undef = v) (hd : a.defers = []) (hs : off + n ≤ (w.cellsAt b).size) (hv : (w.cellsAt b).extract off (off + n) = A) (hR : R (.returned (.tuple #[.agg A, v])) w) : bodyPost P fn R .ret a w :=
  bodyPost_ret (v := .tuple #[.agg A, v]) (by rw [results_cell_tmp h T _ w b off ht hs, hv, hu]) hd hR
end Go.Sm
