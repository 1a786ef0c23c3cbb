/- Worlds with new blocks behind them; a region that calls what lays new blocks at most. -/
import Derived.WalkKit
import Derived.ProofKit
import Derived.Below
import Derived.Deep.QuietTactic
import Derived.BigQuiet
import Derived.LoopN
namespace Go.Sm
open Go Go.RowKit

/-- What a call has laid besides: new blocks, and the count of draws. -/
structure Garb where
  objs : Array Obj
  drawn : Nat
instance : Inhabited Garb := ⟨⟨#[], 0⟩⟩

/-- A world with new blocks behind its own. -/
def _root_.Go.World.more (w : World) (g : Garb) : World := { w with heap := w.heap ++ g.objs, drawn := g.drawn }

theorem more_more (w : World) (g h : Garb) : (w.more g).more h = w.more ⟨g.objs ++ h.objs, h.drawn⟩ := by
  simp [World.more, Array.append_assoc]

@[go_sem] theorem heap_more (w : World) (g : Garb) (b : Nat) (hb : b < w.heap.size) : (w.more g).heap[b]? = w.heap[b]? := by
  show (w.heap ++ g.objs)[b]? = _
  rw [Array.getElem?_append, if_pos hb]
@[go_sem] theorem cell?_more (w : World) (g : Garb) (a : Addr) (hb : a.block < w.heap.size) : (w.more g).cell? a = w.cell? a := by
  simp only [World.cell?, heap_more w g a.block hb]
@[go_sem] theorem frozen?_more (w : World) (g : Garb) (a : Addr) (hb : a.block < w.heap.size) : (w.more g).frozen? a = w.frozen? a := by
  simp only [World.frozen?, heap_more w g a.block hb]
@[go_sem] theorem size_more (w : World) (g : Garb) : (w.more g).heap.size = w.heap.size + g.objs.size := by simp [World.more]

theorem drew_more (w : World) : w.drew = w.more ⟨#[], w.drawn + 1⟩ := by unfold World.more World.drew; simp only [Array.append_empty]
theorem drewN_more (w : World) (n : Nat) : w.drewN n = w.more ⟨#[], w.drawn + n⟩ := by unfold World.more World.drewN; simp only [Array.append_empty]
theorem same_more (w : World) : w = w.more ⟨#[], w.drawn⟩ := by simp [World.more]

theorem below_more {B : Nat} {a w : World} (h : Below B a w) (hB : B ≤ w.heap.size) (g : Garb) : Below B a (w.more g) :=
  h.trans ⟨rfl, rfl, rfl, by simp [World.more], fun k hk => heap_more w g k (by omega)⟩
theorem below_drewN {B : Nat} {a w : World} (h : Below B a w) (n : Nat) : Below B a (w.drewN n) := by
  refine h.trans ⟨?_, ?_, ?_, ?_, ?_⟩ <;> simp [World.drewN]

/-- Only new blocks: so a 'more'. -/
theorem more_of_below {w w' : World} (h : Below w.heap.size w w') : ∃ g, w' = w.more g := by
  refine ⟨⟨w'.heap.extract w.heap.size w'.heap.size, w'.drawn⟩, ?_⟩
  obtain ⟨h1, h2, h3, h4, h5⟩ := h
  cases w' with
  | mk heap tape drawn os output =>
    simp only [World.more] at *
    subst h1 h2 h3
    have : heap = w.heap ++ heap.extract w.heap.size heap.size := by
      apply Array.ext_getElem?
      intro i
      by_cases hi : i < w.heap.size
      · rw [h5 i hi, Array.getElem?_append, if_pos hi]
      · simp only [Array.getElem?_append, hi, if_false]
        simp [Array.getElem?_extract]
        by_cases h6 : i < heap.size
        · simp [show i - w.heap.size < heap.size - w.heap.size by omega, show w.heap.size + (i - w.heap.size) = i by omega]
        · simp [show ¬ (i - w.heap.size < heap.size - w.heap.size) by omega]; omega
    rw [← this]
theorem below_of_more {w w' : World} (h : ∃ g, w' = w.more g) : Below w.heap.size w w' := by
  obtain ⟨g, rfl⟩ := h
  exact below_more (Below.refl _ _) (Nat.le_refl _) g

/-- A function that answers v, and lays new blocks at most. -/
def Gives (P : Program) (f : FuncId) (args : Array Value) (v : Value) : Prop :=
  ∀ w : World, Calls P f args w fun e w' => e = .returned v ∧ ∃ g, w' = w.more g

theorem more_of {P : Program} {f : FuncId} {args : Array Value} {v : Value} (h : Gives P f args v) {w : World} (g : Garb) :
    Calls P f args (w.more g) fun e w'' => e = .returned v ∧ ∃ m, w'' = w.more m :=
  (h (w.more g)).mono fun _ _ ⟨he, m, hm⟩ => ⟨he, ⟨g.objs ++ m.objs, m.drawn⟩, by rw [hm, more_more]⟩

/-- A region whose operations read, and call what lays new blocks at most: one walk. -/
theorem wp_region_more_lit {P : Program} {id : Nat} {Q : Exit → Act → World → Prop} {a : Act} {w : World} {l : List Oper} (hm : P.follows .mixedOrders = true) (hB : Region.lexB .any l.toArray = true)
    (h : wpQuiet P l.toArray (fun w' => ∃ g, w' = w.more g) (fun a' => ∀ w', (∃ g, w' = w.more g) → Q .normal a' w') l a) : (Code.region id l.toArray true).wp P Q a w :=
  wp_region_quiet (C := fun w' => ∃ g, w' = w.more g) hm hB ⟨⟨#[], w.drawn + 1⟩, by simp [World.more]⟩ (by simpa using h)
end Go.Sm
namespace Go.Sm
/-- (kept shut) -/
def Beyond (a b c : Nat) : Prop := b ≤ a ∧ a < b + c
@[go_sem] theorem lt_add_one_or (a b : Nat) : (a < b + 1) = (a < b ∨ a = b) := propext (by omega)
@[go_sem] theorem lt_add_size (a b : Nat) (x : Array Obj) : (a < b + x.size) = (a < b ∨ Beyond a b x.size) := propext (by unfold Beyond; omega)
end Go.Sm
