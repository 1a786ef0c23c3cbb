/- A struct that came in is one of its structures; written by a program of this claim's author (gentypes.py). -/
import Derived.Test.YtiokdncglbfmlaaGreatDoorTypes20
import Derived.Test.YtiokdncglbfmlaaGreatDoorLaw
namespace Go.Proofs.YtiokdncglbfmlaaGreatDoor
open Go Go.RowKit Go.Sm
set_option maxRecDepth 100000
theorem take_sub {α : Type} {ts L : List α} {off n a b : Nat} (h : (ts.drop off).take n = L) (hab : a + b ≤ n) : (ts.drop (off + a)).take b = (L.drop a).take b := by
  rw [← h, List.drop_take, List.drop_drop, List.take_take, Nat.min_eq_left (by omega)]
theorem get_sub {α : Type} {ts L : List α} {off n a : Nat} {u : α} (h : (ts.drop off).take n = L) (hu : L[a]? = some u) : ts[off + a]? = some u := by
  rw [← h] at hu
  have hlt : a < n := by
    rcases Nat.lt_or_ge a n with g | g
    · exact g
    · rw [List.getElem?_eq_none (by simp; omega)] at hu; cases hu
  simpa [List.getElem?_take, hlt] using hu
def types_ApiBlock : List TypeId := [24, 24, 24, 5, 5, 5, 5, 5, 5, 5, 5, 5, 5, 5, 5, 5, 5, 5, 5, 5, 5, 5, 5, 24, 24, 24, 24, 24, 24, 24, 24, 24, 35]
theorem open_ApiBlock {w : World} {base : Nat} {ts : List TypeId} {cs : Array Value} (h : CellsOk Tryz.prog w base ts cs) (off : Nat) (ht : (ts.drop off).take 33 = types_ApiBlock) : ∃ x : ApiBlock, cs.extract off (off + 33) = x.cells := by
  obtain ⟨v0, h0, c0⟩ := cells_one h (off + 0) (get_sub ht (u := 24) (by kernel_rfl))
  obtain ⟨a0, rfl, _⟩ := cell_int Tryz.underlying24 c0
  obtain ⟨v1, h1, c1⟩ := cells_one h (off + 1) (get_sub ht (u := 24) (by kernel_rfl))
  obtain ⟨a1, rfl, _⟩ := cell_int Tryz.underlying24 c1
  obtain ⟨v2, h2, c2⟩ := cells_one h (off + 2) (get_sub ht (u := 24) (by kernel_rfl))
  obtain ⟨a2, rfl, _⟩ := cell_int Tryz.underlying24 c2
  obtain ⟨a3, h3⟩ := cells_ints h (off + 3) 20 Tryz.underlying5 (by rw [take_sub ht (by decide)]; kernel_rfl)
  obtain ⟨a4, h4⟩ := cells_ints h (off + 23) 4 Tryz.underlying24 (by rw [take_sub ht (by decide)]; kernel_rfl)
  obtain ⟨a5, h5⟩ := cells_ints h (off + 27) 4 Tryz.underlying24 (by rw [take_sub ht (by decide)]; kernel_rfl)
  obtain ⟨v6, h6, c6⟩ := cells_one h (off + 31) (get_sub ht (u := 24) (by kernel_rfl))
  obtain ⟨a6, rfl, _⟩ := cell_int Tryz.underlying24 c6
  obtain ⟨v7, h7, c7⟩ := cells_one h (off + 32) (get_sub ht (u := 35) (by kernel_rfl))
  obtain ⟨a7, rfl⟩ := cell_slice Tryz.underlying35 c7
  refine ⟨⟨a0, a1, a2, a3, a4, a5, a6, a7⟩, ?_⟩
  rw [ext_split (a := off) (b := off + 1) (c := off + 33) (by omega) (by omega)]
  rw [ext_split (a := off + 1) (b := off + 2) (c := off + 33) (by omega) (by omega)]
  rw [ext_split (a := off + 2) (b := off + 3) (c := off + 33) (by omega) (by omega)]
  rw [ext_split (a := off + 3) (b := off + 23) (c := off + 33) (by omega) (by omega)]
  rw [ext_split (a := off + 23) (b := off + 27) (c := off + 33) (by omega) (by omega)]
  rw [ext_split (a := off + 27) (b := off + 31) (c := off + 33) (by omega) (by omega)]
  rw [ext_split (a := off + 31) (b := off + 32) (c := off + 33) (by omega) (by omega)]
  simp only [Nat.add_assoc, Nat.reduceAdd, Nat.add_zero] at h0 h1 h2 h3 h4 h5 h6 h7
  rw [h0, h1, h2, h3, h4, h5, h6, h7]
  simp only [ApiBlock.cells]
def types_ApiTx : List TypeId := [5, 5, 5, 5, 5, 5, 5, 5, 5, 5, 5, 5, 5, 5, 5, 5, 5, 5, 5, 5, 5, 5, 5, 5, 5, 5, 5, 5, 5, 5, 5, 5, 5, 5, 5, 5, 5, 5, 5, 5, 4, 24, 24, 24, 24, 24, 27, 24, 24, 24, 24, 24, 24, 24, 24, 24, 39]
theorem open_ApiTx {w : World} {base : Nat} {ts : List TypeId} {cs : Array Value} (h : CellsOk Tryz.prog w base ts cs) (off : Nat) (ht : (ts.drop off).take 57 = types_ApiTx) : ∃ x : ApiTx, cs.extract off (off + 57) = x.cells := by
  obtain ⟨a0, h0⟩ := cells_ints h (off + 0) 20 Tryz.underlying5 (by rw [take_sub ht (by decide)]; kernel_rfl)
  obtain ⟨a1, h1⟩ := cells_ints h (off + 20) 20 Tryz.underlying5 (by rw [take_sub ht (by decide)]; kernel_rfl)
  obtain ⟨v2, h2, c2⟩ := cells_one h (off + 40) (get_sub ht (u := 4) (by kernel_rfl))
  obtain ⟨a2, rfl⟩ := cell_bool Tryz.underlying4 c2
  obtain ⟨v3, h3, c3⟩ := cells_one h (off + 41) (get_sub ht (u := 24) (by kernel_rfl))
  obtain ⟨a3, rfl, _⟩ := cell_int Tryz.underlying24 c3
  obtain ⟨a4, h4⟩ := cells_ints h (off + 42) 4 Tryz.underlying24 (by rw [take_sub ht (by decide)]; kernel_rfl)
  obtain ⟨v5, h5, c5⟩ := cells_one h (off + 46) (get_sub ht (u := 27) (by kernel_rfl))
  obtain ⟨a5, rfl⟩ := cell_slice Tryz.underlying27 c5
  obtain ⟨v6, h6, c6⟩ := cells_one h (off + 47) (get_sub ht (u := 24) (by kernel_rfl))
  obtain ⟨a6, rfl, _⟩ := cell_int Tryz.underlying24 c6
  obtain ⟨a7, h7⟩ := cells_ints h (off + 48) 4 Tryz.underlying24 (by rw [take_sub ht (by decide)]; kernel_rfl)
  obtain ⟨a8, h8⟩ := cells_ints h (off + 52) 4 Tryz.underlying24 (by rw [take_sub ht (by decide)]; kernel_rfl)
  obtain ⟨v9, h9, c9⟩ := cells_one h (off + 56) (get_sub ht (u := 39) (by kernel_rfl))
  obtain ⟨a9, rfl⟩ := cell_slice Tryz.underlying39 c9
  refine ⟨⟨a0, a1, a2, a3, a4, a5, a6, a7, a8, a9⟩, ?_⟩
  rw [ext_split (a := off) (b := off + 20) (c := off + 57) (by omega) (by omega)]
  rw [ext_split (a := off + 20) (b := off + 40) (c := off + 57) (by omega) (by omega)]
  rw [ext_split (a := off + 40) (b := off + 41) (c := off + 57) (by omega) (by omega)]
  rw [ext_split (a := off + 41) (b := off + 42) (c := off + 57) (by omega) (by omega)]
  rw [ext_split (a := off + 42) (b := off + 46) (c := off + 57) (by omega) (by omega)]
  rw [ext_split (a := off + 46) (b := off + 47) (c := off + 57) (by omega) (by omega)]
  rw [ext_split (a := off + 47) (b := off + 48) (c := off + 57) (by omega) (by omega)]
  rw [ext_split (a := off + 48) (b := off + 52) (c := off + 57) (by omega) (by omega)]
  rw [ext_split (a := off + 52) (b := off + 56) (c := off + 57) (by omega) (by omega)]
  simp only [Nat.add_assoc, Nat.reduceAdd, Nat.add_zero] at h0 h1 h2 h3 h4 h5 h6 h7 h8 h9
  rw [h0, h1, h2, h3, h4, h5, h6, h7, h8, h9]
  simp only [ApiTx.cells]
def types_ApiReceipt : List TypeId := [5, 5, 5, 5, 5, 5, 5, 5, 5, 5, 5, 5, 5, 5, 5, 5, 5, 5, 5, 5, 24, 4, 24, 24, 24, 24, 24, 5, 5, 5, 5, 5, 5, 5, 5, 5, 5, 5, 5, 5, 5, 5, 5, 5, 5, 5, 5, 48, 27]
theorem open_ApiReceipt {w : World} {base : Nat} {ts : List TypeId} {cs : Array Value} (h : CellsOk Tryz.prog w base ts cs) (off : Nat) (ht : (ts.drop off).take 49 = types_ApiReceipt) : ∃ x : ApiReceipt, cs.extract off (off + 49) = x.cells := by
  obtain ⟨a0, h0⟩ := cells_ints h (off + 0) 20 Tryz.underlying5 (by rw [take_sub ht (by decide)]; kernel_rfl)
  obtain ⟨v1, h1, c1⟩ := cells_one h (off + 20) (get_sub ht (u := 24) (by kernel_rfl))
  obtain ⟨a1, rfl, _⟩ := cell_int Tryz.underlying24 c1
  obtain ⟨v2, h2, c2⟩ := cells_one h (off + 21) (get_sub ht (u := 4) (by kernel_rfl))
  obtain ⟨a2, rfl⟩ := cell_bool Tryz.underlying4 c2
  obtain ⟨v3, h3, c3⟩ := cells_one h (off + 22) (get_sub ht (u := 24) (by kernel_rfl))
  obtain ⟨a3, rfl, _⟩ := cell_int Tryz.underlying24 c3
  obtain ⟨a4, h4⟩ := cells_ints h (off + 23) 4 Tryz.underlying24 (by rw [take_sub ht (by decide)]; kernel_rfl)
  obtain ⟨a5, h5⟩ := cells_ints h (off + 27) 20 Tryz.underlying5 (by rw [take_sub ht (by decide)]; kernel_rfl)
  obtain ⟨v6, h6, c6⟩ := cells_one h (off + 47) (get_sub ht (u := 48) (by kernel_rfl))
  obtain ⟨a6, rfl⟩ := cell_slice Tryz.underlying48 c6
  obtain ⟨v7, h7, c7⟩ := cells_one h (off + 48) (get_sub ht (u := 27) (by kernel_rfl))
  obtain ⟨a7, rfl⟩ := cell_slice Tryz.underlying27 c7
  refine ⟨⟨a0, a1, a2, a3, a4, a5, a6, a7⟩, ?_⟩
  rw [ext_split (a := off) (b := off + 20) (c := off + 49) (by omega) (by omega)]
  rw [ext_split (a := off + 20) (b := off + 21) (c := off + 49) (by omega) (by omega)]
  rw [ext_split (a := off + 21) (b := off + 22) (c := off + 49) (by omega) (by omega)]
  rw [ext_split (a := off + 22) (b := off + 23) (c := off + 49) (by omega) (by omega)]
  rw [ext_split (a := off + 23) (b := off + 27) (c := off + 49) (by omega) (by omega)]
  rw [ext_split (a := off + 27) (b := off + 47) (c := off + 49) (by omega) (by omega)]
  rw [ext_split (a := off + 47) (b := off + 48) (c := off + 49) (by omega) (by omega)]
  simp only [Nat.add_assoc, Nat.reduceAdd, Nat.add_zero] at h0 h1 h2 h3 h4 h5 h6 h7
  rw [h0, h1, h2, h3, h4, h5, h6, h7]
  simp only [ApiReceipt.cells]
def types_ApiAccount : List TypeId := [5, 5, 5, 5, 5, 5, 5, 5, 5, 5, 5, 5, 5, 5, 5, 5, 5, 5, 5, 5, 24, 24, 24, 24, 24, 27, 76]
theorem open_ApiAccount {w : World} {base : Nat} {ts : List TypeId} {cs : Array Value} (h : CellsOk Tryz.prog w base ts cs) (off : Nat) (ht : (ts.drop off).take 27 = types_ApiAccount) : ∃ x : ApiAccount, cs.extract off (off + 27) = x.cells := by
  obtain ⟨a0, h0⟩ := cells_ints h (off + 0) 20 Tryz.underlying5 (by rw [take_sub ht (by decide)]; kernel_rfl)
  obtain ⟨v1, h1, c1⟩ := cells_one h (off + 20) (get_sub ht (u := 24) (by kernel_rfl))
  obtain ⟨a1, rfl, _⟩ := cell_int Tryz.underlying24 c1
  obtain ⟨a2, h2⟩ := cells_ints h (off + 21) 4 Tryz.underlying24 (by rw [take_sub ht (by decide)]; kernel_rfl)
  obtain ⟨v3, h3, c3⟩ := cells_one h (off + 25) (get_sub ht (u := 27) (by kernel_rfl))
  obtain ⟨a3, rfl⟩ := cell_slice Tryz.underlying27 c3
  obtain ⟨v4, h4, c4⟩ := cells_one h (off + 26) (get_sub ht (u := 76) (by kernel_rfl))
  obtain ⟨a4, rfl⟩ := cell_slice Tryz.underlying76 c4
  refine ⟨⟨a0, a1, a2, a3, a4⟩, ?_⟩
  rw [ext_split (a := off) (b := off + 20) (c := off + 27) (by omega) (by omega)]
  rw [ext_split (a := off + 20) (b := off + 21) (c := off + 27) (by omega) (by omega)]
  rw [ext_split (a := off + 21) (b := off + 25) (c := off + 27) (by omega) (by omega)]
  rw [ext_split (a := off + 25) (b := off + 26) (c := off + 27) (by omega) (by omega)]
  simp only [Nat.add_assoc, Nat.reduceAdd, Nat.add_zero] at h0 h1 h2 h3 h4
  rw [h0, h1, h2, h3, h4]
  simp only [ApiAccount.cells]
end Go.Proofs.YtiokdncglbfmlaaGreatDoor
