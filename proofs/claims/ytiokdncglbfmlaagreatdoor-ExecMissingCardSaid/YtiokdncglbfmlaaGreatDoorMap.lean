/- '==' on arrays of integers; maps whose keys are such arrays: look-up and store, worlds written out. -/
import Derived.Test.YtiokdncglbfmlaaGreatDoorMem
import Derived.ChangeKeysEq
import Derived.DeepKeys3
namespace Go.Sm
open Go Go.RowKit

/-! ### '==' on arrays of integers -/
structure IntsTy (P : Program) (ty n : Nat) (k : IntKind) : Prop where
  arr0 : ∃ e, P.underlying ty = some (.array n e) ∧ P.underlying e = some (.int k) ∧ P.cellsOf e = 1 ∧ (P.info? e).map (·.size) = some 1
theorem IntsTy.arr {P : Program} {ty n : Nat} {k : IntKind} (T : IntsTy P ty n k) : ∃ e, P.underlying ty = some (.array n e) ∧ P.underlying e = some (.int k) ∧ P.cellsOf e = 1 ∧ ∃ i, P.info? e = some i ∧ i.size = 1 := by
  obtain ⟨e, h1, h2, h3, h4⟩ := T.arr0
  refine ⟨e, h1, h2, h3, ?_⟩
  cases hq : P.info? e with
  | none => simp [hq] at h4
  | some i => exact ⟨i, rfl, by simpa [hq] using h4⟩

section
variable {P : Program} {k : IntKind} (w : World)
theorem run_part_int {e : TypeId} (he : P.underlying e = some (.int k)) (l : List Int) (i : Nat) (hi : i < l.length) :
    (part e (l.map (Value.int k)).toArray (i * 1)).run P w = .ok (.int k l[i]) w := by
  simp [part, isAgg, run_underlying he, hi]
theorem run_equalIn_int {e : TypeId} (he : P.underlying e = some (.int k)) (d : Nat) (a b : Int) :
    (Op.equalIn (d + 1) e (.int k a) (.int k b)).run P w = .ok (a == b) w := by
  simp [Op.equalIn, run_underlying he]
theorem run_eqItems_ints {e : TypeId} (he : P.underlying e = some (.int k)) (d : Nat) (lx ly : List Int) : ∀ is : List Nat, (∀ i ∈ is, i < lx.length ∧ i < ly.length) →
    (Op.eqItems (d + 1) e 1 (lx.map (Value.int k)).toArray (ly.map (Value.int k)).toArray is).run P w = .ok (is.all fun i => lx[i]? == ly[i]?) w
  | [], _ => by simp [Op.eqItems]
  | i :: is, h => by
    obtain ⟨hx, hy⟩ := h i (by simp)
    have ih := run_eqItems_ints he d lx ly is (fun j hj => h j (by simp [hj]))
    simp only [Op.eqItems, Sem.run_bind, run_part_int w he lx i hx, run_part_int w he ly i hy, Result.andThen_ok, run_equalIn_int w he d, List.all_cons, List.getElem?_eq_getElem hx, List.getElem?_eq_getElem hy]
    by_cases hab : lx[i] = ly[i]
    · simp [hab, ih]
    · simp [hab]
theorem all_eq_iff {n : Nat} (x y : Ints n) : ((List.range n).all fun i => x.1[i]? == y.1[i]?) = decide (x = y) := by
  rw [Bool.eq_iff_iff]
  simp only [List.all_eq_true, List.mem_range, beq_iff_eq, decide_eq_true_eq]
  constructor
  · intro h
    apply Subtype.ext
    apply List.ext_getElem?
    intro i
    by_cases hi : i < n
    · exact h i hi
    · rw [List.getElem?_eq_none (by rw [x.2]; omega), List.getElem?_eq_none (by rw [y.2]; omega)]
  · rintro rfl i _
    rfl
theorem run_equal_ints {ty n : Nat} (T : IntsTy P ty n k) (d : Nat) (x y : Ints n) :
    (Op.equalIn (d + 2) ty (.agg (enc k x)) (.agg (enc k y))).run P w = .ok (decide (x = y)) w := by
  obtain ⟨e, hu, he, hc, i, hi, _⟩ := T.arr
  have := run_eqItems_ints w he d x.1 y.1 (List.range n) (fun i hi => by rw [x.2, y.2]; exact ⟨List.mem_range.1 hi, List.mem_range.1 hi⟩)
  rw [show d + 2 = (d + 1) + 1 from rfl, run_equalIn_array w (d + 1) _ _ hu hi, hc]
  rw [enc_def, enc_def, this, all_eq_iff]
theorem run_checkKey_ints {ty n : Nat} (T : IntsTy P ty n k) (em : Bool) (d : Nat) (x : Ints n) : (Instr.checkKey em (d + 2) ty (.agg (enc k x))).run P w = .ok () w := by
  obtain ⟨e, hu, he, hc, i, hi, hs⟩ := T.arr
  rw [Instr.checkKey]
  simp only [Sem.run_bind, run_underlying hu, Result.andThen_ok]
  simp only [Std.Legacy.Range.forIn_eq_forIn_range', Std.Legacy.Range.size, Nat.sub_zero, Nat.add_one_sub_one, Nat.div_one]
  rw [enc_def]
  have each : ∀ j ∈ List.range' 0 n, j < x.1.length := fun j hj => by
    have := List.mem_range'.1 hj
    rw [x.2]; omega
  generalize List.range' 0 n = is at each
  induction is with
  | nil => simp
  | cons j is ih =>
    have hj := each j (by simp)
    have hp := run_part_int (P := P) w he x.1 j hj
    have hz : (sizeOf e).run P w = .ok 1 w := by simp [sizeOf, typeInfo, hi, hs]
    have hck : (Instr.checkKey em (d + 1) e (.int k x.1[j])).run P w = .ok () w := by
      rw [Instr.checkKey]; simp [run_underlying he]
    simp only [List.forIn_cons, Sem.run_bind, hz, Result.andThen_ok]
    rw [hp]
    simp only [Result.andThen_ok, hck, Sem.run_pure]
    exact ih (fun y hy => each y (by simp [hy]))
end

/-- '==' of two arrays of integers, not opened by the walk. -/
def asValue (s : Sem Value) : Sem Next := do pure (.value (← s))
def eqlAgg (ty : TypeId) (x y : Operand) (u v : Value) : Sem Next := asValue (do eqGuard .eql ty x y u v; binOp .eql ty u v)
def neqAgg (ty : TypeId) (x y : Operand) (u v : Value) : Sem Next := asValue (do eqGuard .neq ty x y u v; binOp .neq ty u v)
theorem run_eqlAgg {P : Program} {k : IntKind} {ty n : Nat} (T : IntsTy P ty n k) (hg : P.eqGuardType P.depth ty = false) (w : World) (x y : Operand) (u v : Ints n) :
    (eqlAgg ty x y (.agg (enc k u)) (.agg (enc k v))).run P w = .ok (.value (.bool (decide (u = v)))) w := by
  have := run_equal_ints (P := P) w T 9998 u v
  simp [asValue, eqlAgg, eqGuard, hg, binOp, Op.equal, Op.maxDepth, this]
theorem run_neqAgg {P : Program} {k : IntKind} {ty n : Nat} (T : IntsTy P ty n k) (hg : P.eqGuardType P.depth ty = false) (w : World) (x y : Operand) (u v : Ints n) :
    (neqAgg ty x y (.agg (enc k u)) (.agg (enc k v))).run P w = .ok (.value (.bool (!decide (u = v)))) w := by
  have := run_equal_ints (P := P) w T 9998 u v
  simp [asValue, neqAgg, eqGuard, hg, binOp, Op.equal, Op.maxDepth, this]

/-! ### maps whose keys are arrays of integers -/
/-- What a map holds, in the order in which it was put in. -/
abbrev Assoc (n : Nat) := List (Ints n × Value)
def Assoc.look {n : Nat} (M : Assoc n) (x : Ints n) : Option Value := (M.find? fun p => decide (p.1 = x)).map (·.2)
def Assoc.put {n : Nat} (M : Assoc n) (x : Ints n) (v : Value) : Assoc n := if (M.look x).isSome then M.map (fun p => if p.1 = x then (p.1, v) else p) else M ++ [(x, v)]
def Assoc.del {n : Nat} (M : Assoc n) (x : Ints n) : Assoc n := M.filter fun p => decide (p.1 ≠ x)
structure _root_.Go.World.mapIs {n : Nat} (w : World) (b : Nat) (k : IntKind) (M : Assoc n) : Prop where
  is : ∃ es clock, w.heap[b]? = some (.map es clock) ∧ es.toList.map (fun e => (e.key, e.val)) = M.map (fun p => (.agg (enc k p.1), p.2)) ∧
    es.toList.Pairwise (fun x y => x.born < y.born) ∧ ∀ e ∈ es.toList, e.born < clock
  keys : (M.map (·.1)).Nodup
theorem mapIs_congr {n : Nat} {w w' : World} {b : Nat} {k : IntKind} {M : Assoc n} (h : w'.heap[b]? = w.heap[b]?) (hm : w.mapIs b k M) : w'.mapIs b k M := by
  obtain ⟨⟨es, clock, h1, h2⟩, h3⟩ := hm
  exact ⟨⟨es, clock, by rw [h]; exact h1, h2⟩, h3⟩
theorem mapIs_lt {n : Nat} {w : World} {b : Nat} {k : IntKind} {M : Assoc n} (hm : w.mapIs b k M) : b < w.heap.size := by
  obtain ⟨⟨es, clock, h1, h2⟩, h3⟩ := hm
  exact (Array.getElem?_eq_some_iff.1 h1).1
theorem mapIs_new {n : Nat} (w : World) (k : IntKind) : (w.alloc (.map #[] 0)).mapIs w.heap.size k ([] : Assoc n) :=
  ⟨⟨#[], 0, heap_alloc_new _ _, rfl, List.Pairwise.nil, by simp⟩, List.nodup_nil⟩

section
variable {P : Program} {k : IntKind} {kt n : Nat}
theorem run_findAsking_ints (T : IntsTy P kt n k) (w : World) (x : Ints n) : ∀ (es : List MapEntry) (M : Assoc n) (i : Nat), es.map (fun e => (e.key, e.val)) = M.map (fun p => (.agg (enc k p.1), p.2)) →
    (Instr.findAsking kt (.agg (enc k x)) es i).run P w = .ok ((M.findIdx? (fun p => decide (p.1 = x))).bind fun j => (M[j]?).map fun p => (i + j, p.2)) w
  | [], M, i, h => by
    cases M with
    | nil => simp [Instr.findAsking]
    | cons p M => simp at h
  | e :: es, M, i, h => by
    cases M with
    | nil => simp at h
    | cons p M =>
      simp only [List.map_cons, List.cons.injEq, Prod.mk.injEq] at h
      obtain ⟨⟨h1, h2⟩, h3⟩ := h
      have heq := run_equal_ints (P := P) w T 9998 x p.1
      have ih := run_findAsking_ints T w x es M (i + 1) h3
      unfold Instr.findAsking
      simp only [h1, Op.equal, Op.maxDepth, Sem.run_bind, heq, Result.andThen_ok]
      by_cases hx : p.1 = x
      · simp [hx, h2, List.findIdx?_cons]
      · simp only [show ¬ x = p.1 from fun e => hx e.symm, decide_false, Bool.false_eq_true, if_false, ih, List.findIdx?_cons, hx]
        cases hf : M.findIdx? (fun p => decide (p.1 = x)) with
        | none => simp
        | some j => simp [Nat.add_assoc, Nat.add_comm 1 j]
theorem find_idx {n : Nat} (M : Assoc n) (x : Ints n) : (((M.findIdx? (fun p => decide (p.1 = x))).bind fun j => (M[j]?).map fun p => (j, p.2)).map (·.2)) = M.look x := by
  unfold Assoc.look
  induction M with
  | nil => rfl
  | cons p M ih =>
    by_cases hx : p.1 = x
    · simp [hx, List.findIdx?_cons]
    · simp only [List.findIdx?_cons, List.find?_cons, hx, decide_false, Bool.false_eq_true, if_false]
      rw [← ih]
      cases hf : M.findIdx? (fun p => decide (p.1 = x)) with
      | none => simp
      | some j => simp [Function.comp_def]
theorem run_findKey_ints (T : IntsTy P kt n k) (w : World) (x : Ints n) (es : List MapEntry) (M : Assoc n) (h : es.map (fun e => (e.key, e.val)) = M.map (fun p => (.agg (enc k p.1), p.2))) :
    (Instr.findKey kt (.agg (enc k x)) es).run P w = .ok ((M.findIdx? (fun p => decide (p.1 = x))).bind fun j => (M[j]?).map fun p => (j, p.2)) w := by
  obtain ⟨e, hu, he, hc, i, hi, hs⟩ := T.arr
  have hf := run_findAsking_ints T w x es M 0 h
  unfold Instr.findKey
  rw [Sem.run_bind, run_underlying hu w]
  simp only [Result.andThen_ok]
  cases es with
  | nil =>
    cases M with
    | nil => simp [Instr.findNow]
    | cons p M => simp at h
  | cons e es =>
    simp only [Instr.findNow, Instr.sameNow]
    simpa using hf

theorem run_lookup_ints {mt et : TypeId} {z : Value} (hm : P.underlying mt = some (.map kt et)) (T : IntsTy P kt n k) (w : World) (hz : (zeroValue et).run P w = .ok z w) (b : Nat) (M : Assoc n) (h : w.mapIs b k M) (x : Ints n) (ok : Bool) :
    (Instr.lookup mt (.map (some b)) (.agg (enc k x)) ok).run P w = .ok (if ok then .tuple #[(M.look x).getD z, .bool (M.look x).isSome] else (M.look x).getD z) w := by
  obtain ⟨⟨es, clock, h1, h2, _⟩, _⟩ := h
  have hf := run_findKey_ints T w x es.toList M h2
  have hc := run_checkKey_ints (P := P) w T es.isEmpty 9998 x
  have hg : (getObj b).run P w = .ok (.map es clock) w := by simp [getObj, Sem.run, h1]
  unfold Instr.lookup
  simp only [Sem.run_bind, run_underlying hm w, Result.andThen_ok, hg, Sem.run_pure, hc, hf]
  have hl := find_idx M x
  cases hb : (M.findIdx? (fun p => decide (p.1 = x))).bind fun j => (M[j]?).map fun p => (j, p.2) with
  | none =>
    rw [hb] at hl
    simp only [Option.map_none] at hl
    simp [← hl, hz]
  | some r =>
    rw [hb] at hl
    simp only [Option.map_some] at hl
    simp [← hl]
end
end Go.Sm
namespace Go.Sm
open Go Go.RowKit
/-! ### a store into such a map, a deletion: worlds written out -/
open Classical in
noncomputable def entAt {n : Nat} (k : IntKind) (x : Ints n) (es : Array MapEntry) : Option Nat := es.toList.findIdx? fun e => decide (e.key = .agg (enc k x))
noncomputable def entPut {n : Nat} (k : IntKind) (x : Ints n) (v : Value) (es : Array MapEntry) (clock : Nat) : Array MapEntry × Nat :=
  match entAt k x es with
  | some i => (es.modify i fun e => { e with key := .agg (enc k x), val := v }, clock)
  | none => (es.push { key := .agg (enc k x), val := v, born := clock }, clock + 1)
noncomputable def _root_.Go.World.mapPut {n : Nat} (w : World) (b : Nat) (k : IntKind) (x : Ints n) (v : Value) : World :=
  { w with heap := w.heap.modify b fun | .map es c => .map (entPut k x v es c).1 (entPut k x v es c).2 | o => o }
theorem enc_inj {n : Nat} {k : IntKind} {x y : Ints n} (h : enc k x = enc k y) : x = y := by
  apply Subtype.ext
  have h' : x.1.map (Value.int k) = y.1.map (Value.int k) := by simpa [enc] using h
  exact (List.map_inj_right (fun a b hab => by cases hab; rfl)).1 h'
theorem entAt_find {n : Nat} {k : IntKind} (x : Ints n) : ∀ (es : List MapEntry) (M : Assoc n), es.map (fun e => (e.key, e.val)) = M.map (fun p => (.agg (enc k p.1), p.2)) →
    entAt k x es.toArray = M.findIdx? fun p => decide (p.1 = x)
  | [], M, h => by
    cases M with
    | nil => simp [entAt]
    | cons p M => simp at h
  | e :: es, M, h => by
    cases M with
    | nil => simp at h
    | cons p M =>
      simp only [List.map_cons, List.cons.injEq, Prod.mk.injEq] at h
      obtain ⟨⟨h1, h2⟩, h3⟩ := h
      have ih := entAt_find x es M h3
      unfold entAt at ih ⊢
      simp only [List.findIdx?_cons]
      by_cases hx : p.1 = x
      · simp [h1, hx]
      · have hx' : ¬ e.key = .agg (enc k x) := by rw [h1]; simp only [Value.agg.injEq]; exact fun e => hx (enc_inj e)
        simp only [hx, hx', decide_false, Bool.false_eq_true, if_false]
        rw [ih]

theorem heap_mapPut_ne {n : Nat} (w : World) (b : Nat) (k : IntKind) (x : Ints n) (v : Value) (j : Nat) (h : j ≠ b) : (w.mapPut b k x v).heap[j]? = w.heap[j]? := by
  simp only [World.mapPut, Array.getElem?_modify]; rw [if_neg (fun e => h e.symm)]
@[go_sem] theorem size_mapPut {n : Nat} (w : World) (b : Nat) (k : IntKind) (x : Ints n) (v : Value) : (w.mapPut b k x v).heap.size = w.heap.size := by simp [World.mapPut]
theorem heap_mapPut {n : Nat} (w : World) (b : Nat) (k : IntKind) (x : Ints n) (v : Value) (es : Array MapEntry) (c : Nat) (h : w.heap[b]? = some (.map es c)) :
    (w.mapPut b k x v).heap[b]? = some (.map (entPut k x v es c).1 (entPut k x v es c).2) := by
  simp only [World.mapPut, Array.getElem?_modify, ↓reduceIte, h, Option.map_some]
@[go_sem] theorem cellsAt_mapPut {n : Nat} (w : World) (b : Nat) (k : IntKind) (x : Ints n) (v : Value) (j : Nat) : (w.mapPut b k x v).cellsAt j = w.cellsAt j := by
  by_cases hj : j = b
  · subst hj
    unfold World.cellsAt
    simp only [World.mapPut, Array.getElem?_modify, ↓reduceIte]
    cases hh : w.heap[j]? with
    | none => simp
    | some o => cases o <;> simp
  · exact cellsAt_congr (heap_mapPut_ne w b k x v j hj)
@[go_sem] theorem plain_mapPut {n : Nat} (w : World) (b : Nat) (k : IntKind) (x : Ints n) (v : Value) (j : Nat) : (w.mapPut b k x v).plain j = w.plain j := by
  by_cases hj : j = b
  · subst hj
    unfold World.plain
    simp only [World.mapPut, Array.getElem?_modify, ↓reduceIte]
    cases hh : w.heap[j]? with
    | none => simp
    | some o => cases o <;> simp
  · exact plain_congr (heap_mapPut_ne w b k x v j hj)
@[go_sem] theorem mapIs_alloc {n : Nat} (w : World) (o : Obj) (b : Nat) (k : IntKind) (M : Assoc n) (h : b < w.heap.size) : (w.alloc o).mapIs b k M = w.mapIs b k M :=
  propext ⟨mapIs_congr (heap_alloc_old w o h).symm, mapIs_congr (heap_alloc_old w o h)⟩
@[go_sem] theorem mapIs_more {n : Nat} (w : World) (g : Garb) (b : Nat) (k : IntKind) (M : Assoc n) (h : b < w.heap.size) : (w.more g).mapIs b k M = w.mapIs b k M :=
  propext ⟨mapIs_congr (heap_more w g b h).symm, mapIs_congr (heap_more w g b h)⟩
@[go_sem] theorem mapIs_drew {n : Nat} (w : World) (b : Nat) (k : IntKind) (M : Assoc n) : w.drew.mapIs b k M = w.mapIs b k M := propext ⟨mapIs_congr rfl, mapIs_congr rfl⟩
@[go_sem] theorem mapIs_drewN {n : Nat} (w : World) (j b : Nat) (k : IntKind) (M : Assoc n) : (w.drewN j).mapIs b k M = w.mapIs b k M := propext ⟨mapIs_congr rfl, mapIs_congr rfl⟩
theorem map_not_cells_setCell {w : World} {a : Addr} {v : Value} {b : Nat} : (∃ es c, (w.setCell a v).heap[b]? = some (.map es c)) → (w.setCell a v).heap[b]? = w.heap[b]? := by
  rintro ⟨es, c, h⟩
  by_cases hb : b = a.block
  · subst hb
    simp only [World.setCell, Array.getElem?_modify, ↓reduceIte, Option.map_eq_some_iff] at h ⊢
    obtain ⟨o, h1, h2⟩ := h
    rw [h1]
    cases o <;> simp_all
  · exact heap_setCell_other w a b v hb
@[go_sem] theorem mapIs_setCell {n : Nat} (w : World) (a : Addr) (v : Value) (b : Nat) (k : IntKind) (M : Assoc n) : (w.setCell a v).mapIs b k M = w.mapIs b k M := by
  refine propext ⟨fun h => ?_, fun h => ?_⟩
  · obtain ⟨⟨es, c, h1, _⟩, _⟩ := id h
    exact mapIs_congr (map_not_cells_setCell ⟨es, c, h1⟩).symm h
  · obtain ⟨⟨es, c, h1, _⟩, _⟩ := id h
    refine mapIs_congr ?_ h
    by_cases hb : b = a.block
    · subst hb; simp only [World.setCell, Array.getElem?_modify, ↓reduceIte, h1, Option.map_some]
    · exact heap_setCell_other w a b v hb
@[go_sem] theorem mapIs_putCells {n : Nat} (w : World) (c off : Nat) (A : Array Value) (b : Nat) (k : IntKind) (M : Assoc n) : (w.putCells c off A).mapIs b k M = w.mapIs b k M := by
  have key : ∀ es cl, ((w.putCells c off A).heap[b]? = some (.map es cl) ↔ w.heap[b]? = some (.map es cl)) := by
    intro es cl
    by_cases hb : b = c
    · subst hb
      simp only [World.putCells, World.setRow, Array.getElem?_modify, ↓reduceIte]
      cases hh : w.heap[b]? with
      | none => simp
      | some o => cases o <;> simp
    · rw [heap_putCells_ne w c off b A hb]
  refine propext ⟨fun h => ?_, fun h => ?_⟩
  · obtain ⟨⟨es, cl, h1, h2⟩, h3⟩ := h
    exact ⟨⟨es, cl, (key es cl).1 h1, h2⟩, h3⟩
  · obtain ⟨⟨es, cl, h1, h2⟩, h3⟩ := h
    exact ⟨⟨es, cl, (key es cl).2 h1, h2⟩, h3⟩
@[go_sem] theorem mapIs_mapPut_ne {n m : Nat} (w : World) (c : Nat) (q : IntKind) (x : Ints m) (v : Value) (b : Nat) (k : IntKind) (M : Assoc n) (h : b ≠ c) : (w.mapPut c q x v).mapIs b k M = w.mapIs b k M :=
  propext ⟨mapIs_congr (heap_mapPut_ne w c q x v b h).symm, mapIs_congr (heap_mapPut_ne w c q x v b h)⟩

theorem look_isSome {n : Nat} (M : Assoc n) (x : Ints n) : (M.look x).isSome = (M.findIdx? fun p => decide (p.1 = x)).isSome := by
  unfold Assoc.look
  rw [Option.isSome_map, Bool.eq_iff_iff, List.find?_isSome, List.findIdx?_isSome]
  simp
theorem mapIs_mapPut {n : Nat} {w : World} {b : Nat} {k : IntKind} {M : Assoc n} (h : w.mapIs b k M) (x : Ints n) (v : Value) : (w.mapPut b k x v).mapIs b k (M.put x v) := by
  obtain ⟨⟨es, c, h1, h2, h3, h4⟩, h5⟩ := h
  have ha : entAt k x es = M.findIdx? fun p => decide (p.1 = x) := by simpa using entAt_find x es.toList M h2
  have hput := heap_mapPut w b k x v es c h1
  cases hf : M.findIdx? fun p => decide (p.1 = x) with
  | none =>
    have hs : (M.look x).isSome = false := by rw [look_isSome, hf]; rfl
    rw [hf] at ha
    simp only [entPut, ha] at hput
    refine ⟨⟨_, _, hput, ?_, ?_, ?_⟩, ?_⟩
    · simp [Assoc.put, hs, h2]
    · rw [Array.toList_push, List.pairwise_append]
      exact ⟨h3, by simp, fun a ha b hb => by simp at hb; subst hb; exact h4 a ha⟩
    · intro e he
      simp only [Array.toList_push, List.mem_append, List.mem_singleton] at he
      rcases he with he | rfl
      · have := h4 e he; omega
      · simp
    · rw [Assoc.put, hs]
      simp only [Bool.false_eq_true, if_false, List.map_append, List.map_cons, List.map_nil]
      rw [List.nodup_append]
      refine ⟨h5, by simp, fun a hma b hb => ?_⟩
      simp at hb; subst hb
      rintro rfl
      obtain ⟨p, hp, rfl⟩ := List.mem_map.1 hma
      have := List.findIdx?_eq_none_iff.1 hf p hp
      simp at this
  | some i =>
    have hs : (M.look x).isSome = true := by rw [look_isSome, hf]; rfl
    rw [hf] at ha
    simp only [entPut, ha] at hput
    obtain ⟨hi, hpi, hmin⟩ := List.findIdx?_eq_some_iff_getElem.1 hf
    simp only [decide_eq_true_eq] at hpi
    have hlen : es.toList.length = M.length := by have := congrArg List.length h2; simpa using this
    have huniq : ∀ j (hj : j < M.length), M[j].1 = x → j = i := by
      intro j hj hx
      have hnd := (List.nodup_iff_pairwise_ne.1 h5)
      rw [List.pairwise_iff_getElem] at hnd
      rcases Nat.lt_trichotomy j i with h | h | h
      · have := hnd j i (by simpa using hj) (by simpa using hi) h
        simp [hx, hpi] at this
      · exact h
      · have := hnd i j (by simpa using hi) (by simpa using hj) h
        simp [hx, hpi] at this
    refine ⟨⟨_, _, hput, ?_, ?_, ?_⟩, ?_⟩
    · rw [Assoc.put, hs]
      simp only [if_true]
      apply List.ext_getElem?
      intro j
      have h2j := congrArg (fun l => l[j]?) h2
      simp only [List.getElem?_map] at h2j
      simp only [Array.toList_modify, List.getElem?_map, List.getElem?_modify]
      by_cases hj : j < M.length
      · rw [List.getElem?_eq_getElem (by omega), List.getElem?_eq_getElem hj] at h2j ⊢
        simp only [Option.map_some, Option.some.injEq, Prod.mk.injEq] at h2j ⊢
        by_cases hij : i = j
        · subst hij; simp [hpi]
        · have : ¬ M[j].1 = x := fun e => hij (huniq j hj e).symm
          simp only [hij, this, if_false, id_map', Option.map_some, h2j.1, h2j.2]
      · rw [List.getElem?_eq_none (by omega), List.getElem?_eq_none (by omega)]
        simp
    · simp only [Array.toList_modify]
      rw [List.pairwise_iff_getElem] at h3 ⊢
      intro a b ha hb hab
      simp only [List.length_modify] at ha hb
      have := h3 a b ha hb hab
      simp only [List.getElem_modify]
      split <;> split <;> exact this
    · intro e he
      simp only [Array.toList_modify] at he
      obtain ⟨j, hj, rfl⟩ := List.mem_iff_getElem.1 he
      simp only [List.length_modify] at hj
      have := h4 es.toList[j] (List.getElem_mem hj)
      simp only [List.getElem_modify]
      split <;> exact this
    · rw [Assoc.put, hs]
      simp only [if_true]
      have : (M.map fun p => if p.1 = x then (p.1, v) else p).map (·.1) = M.map (·.1) := by
        rw [List.map_map]
        apply List.map_congr_left
        intro p _
        simp only [Function.comp]
        split <;> rfl
      rw [this]; exact h5

section
variable {P : Program} {k : IntKind} {kt n : Nat}
theorem sameBits_ints (j : Nat) (x : Ints n) : Instr.sameBits (j + 1) (.agg (enc k x)) (.agg (enc k x)) = true := by
  unfold Instr.sameBits
  simp only [beq_self_eq_true, Bool.true_and, List.all_eq_true]
  rintro ⟨a, b⟩ hab
  have hz : (enc k x).toList.zip (enc k x).toList = (enc k x).toList.map fun a => (a, a) := by
    generalize (enc k x).toList = l
    induction l with
    | nil => rfl
    | cons a l ih => simp [ih]
  rw [hz] at hab
  obtain ⟨c, hc, he⟩ := List.mem_map.1 hab
  simp only [Prod.mk.injEq] at he
  obtain ⟨rfl, rfl⟩ := he
  simp only [enc, List.mem_map] at hc
  obtain ⟨q, _, rfl⟩ := hc
  cases j <;> simp [Instr.sameBits]
theorem run_mapUpdate_ints {mt et : TypeId} (hm : P.underlying mt = some (.map kt et)) (T : IntsTy P kt n k) (w : World) (b : Nat) (M : Assoc n) (h : w.mapIs b k M) (x : Ints n) (v : Value) :
    (Instr.mapUpdate mt (.map (some b)) (.agg (enc k x)) v).run P w = .ok () (w.mapPut b k x v) := by
  obtain ⟨⟨es, clock, h1, h2, h3, h4⟩, h5⟩ := h
  have ha : entAt k x es = M.findIdx? fun p => decide (p.1 = x) := by simpa using entAt_find x es.toList M h2
  have hf := run_findKey_ints T w x es.toList M h2
  have hc := run_checkKey_ints (P := P) w T false 9998 x
  have hg : (getObj b).run P w = .ok (.map es clock) w := by simp [getObj, Sem.run, h1]
  have hlt : b < w.heap.size := (Array.getElem?_eq_some_iff.1 h1).1
  have hw : w.mapPut b k x v = { w with heap := w.heap.setIfInBounds b (.map (entPut k x v es clock).1 (entPut k x v es clock).2) } := by
    unfold World.mapPut
    congr 1
    apply Array.ext_getElem?
    intro j
    simp only [Array.getElem?_modify, Array.getElem?_setIfInBounds]
    by_cases hj : b = j
    · subst hj; simp only [↓reduceIte, h1, Option.map_some, hlt]
    · simp [hj]
  have hset : ∀ o, (setObj b o).run P w = .ok () { w with heap := w.heap.setIfInBounds b o } := fun o => by simp [setObj, Sem.run, h1]
  unfold Instr.mapUpdate
  simp only [Sem.run_bind, run_underlying hm w, Result.andThen_ok, hg, hc, hf]
  cases hfi : M.findIdx? fun p => decide (p.1 = x) with
  | none =>
    rw [hfi] at ha
    simp only [Option.bind_none, hset, hw, entPut, ha]
  | some i =>
    rw [hfi] at ha
    obtain ⟨hi, hpi, _⟩ := List.findIdx?_eq_some_iff_getElem.1 hfi
    simp only [decide_eq_true_eq] at hpi
    have hlen : es.toList.length = M.length := by have := congrArg List.length h2; simpa using this
    have hkey : ((es[i]?).map (·.key)).getD (.agg (enc k x)) = .agg (enc k x) := by
      have h2j := congrArg (fun l => l[i]?) h2
      simp only [List.getElem?_map] at h2j
      rw [List.getElem?_eq_getElem (by omega), List.getElem?_eq_getElem hi] at h2j
      simp only [Option.map_some, Option.some.injEq, Prod.mk.injEq] at h2j
      have hes : es[i]? = some es.toList[i] := by rw [← Array.getElem?_toList, List.getElem?_eq_getElem (by omega)]
      rw [hes, Option.map_some, Option.getD_some, h2j.1, hpi]
    simp only [Option.bind_some, List.getElem?_eq_getElem hi, Option.map_some, hkey, Instr.keyThatStays, sameBits_ints 9999 x, if_true, Sem.run_pure, Sem.run_bind, Result.andThen_ok, hset, hw, entPut, ha]
end
end Go.Sm

attribute [irreducible] Go.World.mapPut
