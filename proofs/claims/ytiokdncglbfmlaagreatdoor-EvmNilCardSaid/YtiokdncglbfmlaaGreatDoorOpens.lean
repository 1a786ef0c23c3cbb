/- A struct that came in is one of its structures; written by a program of this claim's author (gentypes.py). -/
import Derived.Test.YtiokdncglbfmlaaGreatDoorTypes
import Derived.Test.YtiokdncglbfmlaaGreatDoorLaw
namespace Go.Proofs.YtiokdncglbfmlaaGreatDoor
open Go Go.RowKit Go.Sm
set_option maxRecDepth 100000
theorem take_sub {α : Type} {ts L : List α} {off n a b : Nat} (h : (ts.drop off).take n = L) (hab : a + b ≤ n) : (ts.drop (off + a)).take b = (L.drop a).take b := by
  rw [← h, List.drop_take, List.drop_drop, List.take_take, Nat.min_eq_left (by omega)]
theorem get_sub {α : Type} {ts L : List α} {off n a : Nat} {u : α} (h : (ts.drop off).take n = L) (hu : L[a]? = some u) : ts[off + a]? = some u := by
  rw [← h] at hu
  have hlt : a < n := by
    rcases Nat.lt_or_ge a n with g | g
    · exact g
    · rw [List.getElem?_eq_none (by simp; omega)] at hu; cases hu
  simpa [List.getElem?_take, hlt] using hu
def types_ApiMessage : List TypeId := [5, 5, 5, 5, 5, 5, 5, 5, 5, 5, 5, 5, 5, 5, 5, 5, 5, 5, 5, 5, 5, 5, 5, 5, 5, 5, 5, 5, 5, 5, 5, 5, 5, 5, 5, 5, 5, 5, 5, 5, 4, 24, 24, 24, 24, 27, 24, 4, 5, 5, 5, 5, 5, 5, 5, 5, 5, 5, 5, 5, 5, 5, 5, 5, 5, 5, 5, 5, 24, 24, 24, 24]
theorem open_ApiMessage {w : World} {base : Nat} {ts : List TypeId} {cs : Array Value} (h : CellsOk Tryz.prog w base ts cs) (off : Nat) (ht : (ts.drop off).take 72 = types_ApiMessage) : ∃ x : ApiMessage, cs.extract off (off + 72) = x.cells := by
  obtain ⟨a0, h0⟩ := cells_ints h (off + 0) 20 Tryz.underlying5 (by rw [take_sub ht (by decide)]; kernel_rfl)
  obtain ⟨a1, h1⟩ := cells_ints h (off + 20) 20 Tryz.underlying5 (by rw [take_sub ht (by decide)]; kernel_rfl)
  obtain ⟨v2, h2, c2⟩ := cells_one h (off + 40) (get_sub ht (u := 4) (by kernel_rfl))
  obtain ⟨a2, rfl⟩ := cell_bool Tryz.underlying4 c2
  obtain ⟨a3, h3⟩ := cells_ints h (off + 41) 4 Tryz.underlying24 (by rw [take_sub ht (by decide)]; kernel_rfl)
  obtain ⟨v4, h4, c4⟩ := cells_one h (off + 45) (get_sub ht (u := 27) (by kernel_rfl))
  obtain ⟨a4, rfl⟩ := cell_slice Tryz.underlying27 c4
  obtain ⟨v5, h5, c5⟩ := cells_one h (off + 46) (get_sub ht (u := 24) (by kernel_rfl))
  obtain ⟨a5, rfl, _⟩ := cell_int Tryz.underlying24 c5
  obtain ⟨v6, h6, c6⟩ := cells_one h (off + 47) (get_sub ht (u := 4) (by kernel_rfl))
  obtain ⟨a6, rfl⟩ := cell_bool Tryz.underlying4 c6
  obtain ⟨a7, h7⟩ := cells_ints h (off + 48) 20 Tryz.underlying5 (by rw [take_sub ht (by decide)]; kernel_rfl)
  obtain ⟨a8, h8⟩ := cells_ints h (off + 68) 4 Tryz.underlying24 (by rw [take_sub ht (by decide)]; kernel_rfl)
  refine ⟨⟨a0, a1, a2, a3, a4, a5, a6, a7, a8⟩, ?_⟩
  rw [ext_split (a := off) (b := off + 20) (c := off + 72) (by omega) (by omega)]
  rw [ext_split (a := off + 20) (b := off + 40) (c := off + 72) (by omega) (by omega)]
  rw [ext_split (a := off + 40) (b := off + 41) (c := off + 72) (by omega) (by omega)]
  rw [ext_split (a := off + 41) (b := off + 45) (c := off + 72) (by omega) (by omega)]
  rw [ext_split (a := off + 45) (b := off + 46) (c := off + 72) (by omega) (by omega)]
  rw [ext_split (a := off + 46) (b := off + 47) (c := off + 72) (by omega) (by omega)]
  rw [ext_split (a := off + 47) (b := off + 48) (c := off + 72) (by omega) (by omega)]
  rw [ext_split (a := off + 48) (b := off + 68) (c := off + 72) (by omega) (by omega)]
  simp only [Nat.add_assoc, Nat.reduceAdd, Nat.add_zero] at h0 h1 h2 h3 h4 h5 h6 h7 h8
  rw [h0, h1, h2, h3, h4, h5, h6, h7, h8]
  simp only [ApiMessage.cells]
def types_ApiResult : List TypeId := [4, 4, 24, 27]
theorem open_ApiResult {w : World} {base : Nat} {ts : List TypeId} {cs : Array Value} (h : CellsOk Tryz.prog w base ts cs) (off : Nat) (ht : (ts.drop off).take 4 = types_ApiResult) : ∃ x : ApiResult, cs.extract off (off + 4) = x.cells := by
  obtain ⟨v0, h0, c0⟩ := cells_one h (off + 0) (get_sub ht (u := 4) (by kernel_rfl))
  obtain ⟨a0, rfl⟩ := cell_bool Tryz.underlying4 c0
  obtain ⟨v1, h1, c1⟩ := cells_one h (off + 1) (get_sub ht (u := 4) (by kernel_rfl))
  obtain ⟨a1, rfl⟩ := cell_bool Tryz.underlying4 c1
  obtain ⟨v2, h2, c2⟩ := cells_one h (off + 2) (get_sub ht (u := 24) (by kernel_rfl))
  obtain ⟨a2, rfl, _⟩ := cell_int Tryz.underlying24 c2
  obtain ⟨v3, h3, c3⟩ := cells_one h (off + 3) (get_sub ht (u := 27) (by kernel_rfl))
  obtain ⟨a3, rfl⟩ := cell_slice Tryz.underlying27 c3
  refine ⟨⟨a0, a1, a2, a3⟩, ?_⟩
  rw [ext_split (a := off) (b := off + 1) (c := off + 4) (by omega) (by omega)]
  rw [ext_split (a := off + 1) (b := off + 2) (c := off + 4) (by omega) (by omega)]
  rw [ext_split (a := off + 2) (b := off + 3) (c := off + 4) (by omega) (by omega)]
  simp only [Nat.add_assoc, Nat.reduceAdd, Nat.add_zero] at h0 h1 h2 h3
  rw [h0, h1, h2, h3]
  simp only [ApiResult.cells]
def types_ApiBlock : List TypeId := [24, 24, 24, 5, 5, 5, 5, 5, 5, 5, 5, 5, 5, 5, 5, 5, 5, 5, 5, 5, 5, 5, 5, 24, 24, 24, 24, 24, 24, 24, 24, 24, 35]
theorem open_ApiBlock {w : World} {base : Nat} {ts : List TypeId} {cs : Array Value} (h : CellsOk Tryz.prog w base ts cs) (off : Nat) (ht : (ts.drop off).take 33 = types_ApiBlock) : ∃ x : ApiBlock, cs.extract off (off + 33) = x.cells := by
  obtain ⟨v0, h0, c0⟩ := cells_one h (off + 0) (get_sub ht (u := 24) (by kernel_rfl))
  obtain ⟨a0, rfl, _⟩ := cell_int Tryz.underlying24 c0
  obtain ⟨v1, h1, c1⟩ := cells_one h (off + 1) (get_sub ht (u := 24) (by kernel_rfl))
  obtain ⟨a1, rfl, _⟩ := cell_int Tryz.underlying24 c1
  obtain ⟨v2, h2, c2⟩ := cells_one h (off + 2) (get_sub ht (u := 24) (by kernel_rfl))
  obtain ⟨a2, rfl, _⟩ := cell_int Tryz.underlying24 c2
  obtain ⟨a3, h3⟩ := cells_ints h (off + 3) 20 Tryz.underlying5 (by rw [take_sub ht (by decide)]; kernel_rfl)
  obtain ⟨a4, h4⟩ := cells_ints h (off + 23) 4 Tryz.underlying24 (by rw [take_sub ht (by decide)]; kernel_rfl)
  obtain ⟨a5, h5⟩ := cells_ints h (off + 27) 4 Tryz.underlying24 (by rw [take_sub ht (by decide)]; kernel_rfl)
  obtain ⟨v6, h6, c6⟩ := cells_one h (off + 31) (get_sub ht (u := 24) (by kernel_rfl))
  obtain ⟨a6, rfl, _⟩ := cell_int Tryz.underlying24 c6
  obtain ⟨v7, h7, c7⟩ := cells_one h (off + 32) (get_sub ht (u := 35) (by kernel_rfl))
  obtain ⟨a7, rfl⟩ := cell_slice Tryz.underlying35 c7
  refine ⟨⟨a0, a1, a2, a3, a4, a5, a6, a7⟩, ?_⟩
  rw [ext_split (a := off) (b := off + 1) (c := off + 33) (by omega) (by omega)]
  rw [ext_split (a := off + 1) (b := off + 2) (c := off + 33) (by omega) (by omega)]
  rw [ext_split (a := off + 2) (b := off + 3) (c := off + 33) (by omega) (by omega)]
  rw [ext_split (a := off + 3) (b := off + 23) (c := off + 33) (by omega) (by omega)]
  rw [ext_split (a := off + 23) (b := off + 27) (c := off + 33) (by omega) (by omega)]
  rw [ext_split (a := off + 27) (b := off + 31) (c := off + 33) (by omega) (by omega)]
  rw [ext_split (a := off + 31) (b := off + 32) (c := off + 33) (by omega) (by omega)]
  simp only [Nat.add_assoc, Nat.reduceAdd, Nat.add_zero] at h0 h1 h2 h3 h4 h5 h6 h7
  rw [h0, h1, h2, h3, h4, h5, h6, h7]
  simp only [ApiBlock.cells]
end Go.Proofs.YtiokdncglbfmlaaGreatDoor
