/- The struct types of the translation as structures, and the laws of their fields; written by a program of this claim's author (gentypes.py). -/
import Derived.Test.YtiokdncglbfmlaaGreatDoorProg
import Derived.Test.YtiokdncglbfmlaaGreatDoorInts
namespace Go.Proofs.YtiokdncglbfmlaaGreatDoor
open Go Go.RowKit Go.Sm
set_option linter.unusedVariables false

structure ApiBlock where
  f_Number : Int
  f_Time : Int
  f_GasLimit : Int
  f_Coinbase : Ints 20
  f_BaseFee : Ints 4
  f_Random : Ints 4
  f_Chain : Int
  f_Hashes : Sl
namespace ApiBlock
def cells (x : ApiBlock) : Array Value := #[(Value.int .u64 x.f_Number)] ++ (#[(Value.int .u64 x.f_Time)] ++ (#[(Value.int .u64 x.f_GasLimit)] ++ (enc .u8 x.f_Coinbase ++ (enc .u64 x.f_BaseFee ++ (enc .u64 x.f_Random ++ (#[(Value.int .u64 x.f_Chain)] ++ (#[(Value.slice x.f_Hashes.a x.f_Hashes.n x.f_Hashes.c)])))))))
def zero : ApiBlock := ⟨0, 0, 0, (Ints.zero 20), (Ints.zero 4), (Ints.zero 4), 0, Sl.nil⟩
@[go_sem, simp] theorem size_cells (x : ApiBlock) : x.cells.size = 33 := by
  unfold cells; simp only [Array.size_append, List.size_toArray, List.length_cons, List.length_nil, size_enc]
@[go_sem] theorem allOne (x : ApiBlock) : AllOne x.cells := by
  unfold cells; exact (allOne_append (allOne_single rfl) (allOne_append (allOne_single rfl) (allOne_append (allOne_single rfl) (allOne_append (allOne_enc .u8 x.f_Coinbase) (allOne_append (allOne_enc .u64 x.f_BaseFee) (allOne_append (allOne_enc .u64 x.f_Random) (allOne_append (allOne_single rfl) (allOne_single rfl))))))))
@[go_sem, simp] theorem cells_all (x : ApiBlock) : x.cells.extract 0 33 = x.cells := by
  have := size_cells x; conv => lhs; rw [← this]
  simp
@[go_sem] theorem get_Number (x : ApiBlock) : x.cells[0]? = some (Value.int .u64 x.f_Number) := by
  unfold cells; rw [get_left (rfl : (#[(Value.int .u64 x.f_Number)] : Array Value).size = 1) (show 0 < 1 by decide)]; try rfl
@[go_sem] theorem got_Number (x : ApiBlock) (h : 0 < x.cells.size) : x.cells[0] = (Value.int .u64 x.f_Number) := got (get_Number x) h
@[go_sem] theorem set_Number (x : ApiBlock) (v : Int) : x.cells.setIfInBounds 0 (Value.int .u64 v) = ({ x with f_Number := v } : ApiBlock).cells := by
  unfold cells; rw [set_left (rfl : (#[(Value.int .u64 x.f_Number)] : Array Value).size = 1) (show 0 < 1 by decide)]; try rfl
@[go_sem] theorem put_Number (x : ApiBlock) (v : Int) : splice x.cells 0 #[(Value.int .u64 v)] = ({ x with f_Number := v } : ApiBlock).cells := by
  unfold cells; rw [splice_left (rfl : (#[(Value.int .u64 x.f_Number)] : Array Value).size = 1) (show 0 + (#[(Value.int .u64 v)] : Array Value).size ≤ 1 from Nat.le_of_ble_eq_true rfl)]; try rfl
@[go_sem] theorem get_Time (x : ApiBlock) : x.cells[1]? = some (Value.int .u64 x.f_Time) := by
  unfold cells; rw [get_right (rfl : (#[(Value.int .u64 x.f_Number)] : Array Value).size = 1) (show 1 = 1 + 0 from rfl), get_left (rfl : (#[(Value.int .u64 x.f_Time)] : Array Value).size = 1) (show 0 < 1 by decide)]; try rfl
@[go_sem] theorem got_Time (x : ApiBlock) (h : 1 < x.cells.size) : x.cells[1] = (Value.int .u64 x.f_Time) := got (get_Time x) h
@[go_sem] theorem set_Time (x : ApiBlock) (v : Int) : x.cells.setIfInBounds 1 (Value.int .u64 v) = ({ x with f_Time := v } : ApiBlock).cells := by
  unfold cells; rw [set_right (rfl : (#[(Value.int .u64 x.f_Number)] : Array Value).size = 1) (show 1 = 1 + 0 from rfl), set_left (rfl : (#[(Value.int .u64 x.f_Time)] : Array Value).size = 1) (show 0 < 1 by decide)]; try rfl
@[go_sem] theorem put_Time (x : ApiBlock) (v : Int) : splice x.cells 1 #[(Value.int .u64 v)] = ({ x with f_Time := v } : ApiBlock).cells := by
  unfold cells; rw [splice_right (rfl : (#[(Value.int .u64 x.f_Number)] : Array Value).size = 1) (show 1 = 1 + 0 from rfl), splice_left (rfl : (#[(Value.int .u64 x.f_Time)] : Array Value).size = 1) (show 0 + (#[(Value.int .u64 v)] : Array Value).size ≤ 1 from Nat.le_of_ble_eq_true rfl)]; try rfl
@[go_sem] theorem get_GasLimit (x : ApiBlock) : x.cells[2]? = some (Value.int .u64 x.f_GasLimit) := by
  unfold cells; rw [get_right (rfl : (#[(Value.int .u64 x.f_Number)] : Array Value).size = 1) (show 2 = 1 + 1 from rfl), get_right (rfl : (#[(Value.int .u64 x.f_Time)] : Array Value).size = 1) (show 1 = 1 + 0 from rfl), get_left (rfl : (#[(Value.int .u64 x.f_GasLimit)] : Array Value).size = 1) (show 0 < 1 by decide)]; try rfl
@[go_sem] theorem got_GasLimit (x : ApiBlock) (h : 2 < x.cells.size) : x.cells[2] = (Value.int .u64 x.f_GasLimit) := got (get_GasLimit x) h
@[go_sem] theorem set_GasLimit (x : ApiBlock) (v : Int) : x.cells.setIfInBounds 2 (Value.int .u64 v) = ({ x with f_GasLimit := v } : ApiBlock).cells := by
  unfold cells; rw [set_right (rfl : (#[(Value.int .u64 x.f_Number)] : Array Value).size = 1) (show 2 = 1 + 1 from rfl), set_right (rfl : (#[(Value.int .u64 x.f_Time)] : Array Value).size = 1) (show 1 = 1 + 0 from rfl), set_left (rfl : (#[(Value.int .u64 x.f_GasLimit)] : Array Value).size = 1) (show 0 < 1 by decide)]; try rfl
@[go_sem] theorem put_GasLimit (x : ApiBlock) (v : Int) : splice x.cells 2 #[(Value.int .u64 v)] = ({ x with f_GasLimit := v } : ApiBlock).cells := by
  unfold cells; rw [splice_right (rfl : (#[(Value.int .u64 x.f_Number)] : Array Value).size = 1) (show 2 = 1 + 1 from rfl), splice_right (rfl : (#[(Value.int .u64 x.f_Time)] : Array Value).size = 1) (show 1 = 1 + 0 from rfl), splice_left (rfl : (#[(Value.int .u64 x.f_GasLimit)] : Array Value).size = 1) (show 0 + (#[(Value.int .u64 v)] : Array Value).size ≤ 1 from Nat.le_of_ble_eq_true rfl)]; try rfl
@[go_sem] theorem ext_Coinbase (x : ApiBlock) : x.cells.extract 3 23 = enc .u8 x.f_Coinbase := by
  unfold cells; rw [ext_right (rfl : (#[(Value.int .u64 x.f_Number)] : Array Value).size = 1) (show 3 = 1 + 2 from rfl) (show 23 = 1 + 22 from rfl), ext_right (rfl : (#[(Value.int .u64 x.f_Time)] : Array Value).size = 1) (show 2 = 1 + 1 from rfl) (show 22 = 1 + 21 from rfl), ext_right (rfl : (#[(Value.int .u64 x.f_GasLimit)] : Array Value).size = 1) (show 1 = 1 + 0 from rfl) (show 21 = 1 + 20 from rfl), ext_left (size_enc .u8 x.f_Coinbase) (show 20 ≤ 20 by decide)]; try exact enc_all .u8 x.f_Coinbase
@[go_sem] theorem put_Coinbase (x : ApiBlock) (v : Ints 20) : splice x.cells 3 (enc .u8 v) = ({ x with f_Coinbase := v } : ApiBlock).cells := by
  unfold cells; rw [splice_right (rfl : (#[(Value.int .u64 x.f_Number)] : Array Value).size = 1) (show 3 = 1 + 2 from rfl), splice_right (rfl : (#[(Value.int .u64 x.f_Time)] : Array Value).size = 1) (show 2 = 1 + 1 from rfl), splice_right (rfl : (#[(Value.int .u64 x.f_GasLimit)] : Array Value).size = 1) (show 1 = 1 + 0 from rfl), splice_left (size_enc .u8 x.f_Coinbase) (show 0 + (enc .u8 v).size ≤ 20 by rw [(size_enc .u8 v)]; decide), splice_all _ _ ((size_enc .u8 x.f_Coinbase).trans (size_enc .u8 v).symm)]; try rfl
@[go_sem] theorem ext_BaseFee (x : ApiBlock) : x.cells.extract 23 27 = enc .u64 x.f_BaseFee := by
  unfold cells; rw [ext_right (rfl : (#[(Value.int .u64 x.f_Number)] : Array Value).size = 1) (show 23 = 1 + 22 from rfl) (show 27 = 1 + 26 from rfl), ext_right (rfl : (#[(Value.int .u64 x.f_Time)] : Array Value).size = 1) (show 22 = 1 + 21 from rfl) (show 26 = 1 + 25 from rfl), ext_right (rfl : (#[(Value.int .u64 x.f_GasLimit)] : Array Value).size = 1) (show 21 = 1 + 20 from rfl) (show 25 = 1 + 24 from rfl), ext_right (size_enc .u8 x.f_Coinbase) (show 20 = 20 + 0 from rfl) (show 24 = 20 + 4 from rfl), ext_left (size_enc .u64 x.f_BaseFee) (show 4 ≤ 4 by decide)]; try exact enc_all .u64 x.f_BaseFee
@[go_sem] theorem put_BaseFee (x : ApiBlock) (v : Ints 4) : splice x.cells 23 (enc .u64 v) = ({ x with f_BaseFee := v } : ApiBlock).cells := by
  unfold cells; rw [splice_right (rfl : (#[(Value.int .u64 x.f_Number)] : Array Value).size = 1) (show 23 = 1 + 22 from rfl), splice_right (rfl : (#[(Value.int .u64 x.f_Time)] : Array Value).size = 1) (show 22 = 1 + 21 from rfl), splice_right (rfl : (#[(Value.int .u64 x.f_GasLimit)] : Array Value).size = 1) (show 21 = 1 + 20 from rfl), splice_right (size_enc .u8 x.f_Coinbase) (show 20 = 20 + 0 from rfl), splice_left (size_enc .u64 x.f_BaseFee) (show 0 + (enc .u64 v).size ≤ 4 by rw [(size_enc .u64 v)]; decide), splice_all _ _ ((size_enc .u64 x.f_BaseFee).trans (size_enc .u64 v).symm)]; try rfl
@[go_sem] theorem ext_Random (x : ApiBlock) : x.cells.extract 27 31 = enc .u64 x.f_Random := by
  unfold cells; rw [ext_right (rfl : (#[(Value.int .u64 x.f_Number)] : Array Value).size = 1) (show 27 = 1 + 26 from rfl) (show 31 = 1 + 30 from rfl), ext_right (rfl : (#[(Value.int .u64 x.f_Time)] : Array Value).size = 1) (show 26 = 1 + 25 from rfl) (show 30 = 1 + 29 from rfl), ext_right (rfl : (#[(Value.int .u64 x.f_GasLimit)] : Array Value).size = 1) (show 25 = 1 + 24 from rfl) (show 29 = 1 + 28 from rfl), ext_right (size_enc .u8 x.f_Coinbase) (show 24 = 20 + 4 from rfl) (show 28 = 20 + 8 from rfl), ext_right (size_enc .u64 x.f_BaseFee) (show 4 = 4 + 0 from rfl) (show 8 = 4 + 4 from rfl), ext_left (size_enc .u64 x.f_Random) (show 4 ≤ 4 by decide)]; try exact enc_all .u64 x.f_Random
@[go_sem] theorem put_Random (x : ApiBlock) (v : Ints 4) : splice x.cells 27 (enc .u64 v) = ({ x with f_Random := v } : ApiBlock).cells := by
  unfold cells; rw [splice_right (rfl : (#[(Value.int .u64 x.f_Number)] : Array Value).size = 1) (show 27 = 1 + 26 from rfl), splice_right (rfl : (#[(Value.int .u64 x.f_Time)] : Array Value).size = 1) (show 26 = 1 + 25 from rfl), splice_right (rfl : (#[(Value.int .u64 x.f_GasLimit)] : Array Value).size = 1) (show 25 = 1 + 24 from rfl), splice_right (size_enc .u8 x.f_Coinbase) (show 24 = 20 + 4 from rfl), splice_right (size_enc .u64 x.f_BaseFee) (show 4 = 4 + 0 from rfl), splice_left (size_enc .u64 x.f_Random) (show 0 + (enc .u64 v).size ≤ 4 by rw [(size_enc .u64 v)]; decide), splice_all _ _ ((size_enc .u64 x.f_Random).trans (size_enc .u64 v).symm)]; try rfl
@[go_sem] theorem get_Chain (x : ApiBlock) : x.cells[31]? = some (Value.int .u64 x.f_Chain) := by
  unfold cells; rw [get_right (rfl : (#[(Value.int .u64 x.f_Number)] : Array Value).size = 1) (show 31 = 1 + 30 from rfl), get_right (rfl : (#[(Value.int .u64 x.f_Time)] : Array Value).size = 1) (show 30 = 1 + 29 from rfl), get_right (rfl : (#[(Value.int .u64 x.f_GasLimit)] : Array Value).size = 1) (show 29 = 1 + 28 from rfl), get_right (size_enc .u8 x.f_Coinbase) (show 28 = 20 + 8 from rfl), get_right (size_enc .u64 x.f_BaseFee) (show 8 = 4 + 4 from rfl), get_right (size_enc .u64 x.f_Random) (show 4 = 4 + 0 from rfl), get_left (rfl : (#[(Value.int .u64 x.f_Chain)] : Array Value).size = 1) (show 0 < 1 by decide)]; try rfl
@[go_sem] theorem got_Chain (x : ApiBlock) (h : 31 < x.cells.size) : x.cells[31] = (Value.int .u64 x.f_Chain) := got (get_Chain x) h
@[go_sem] theorem set_Chain (x : ApiBlock) (v : Int) : x.cells.setIfInBounds 31 (Value.int .u64 v) = ({ x with f_Chain := v } : ApiBlock).cells := by
  unfold cells; rw [set_right (rfl : (#[(Value.int .u64 x.f_Number)] : Array Value).size = 1) (show 31 = 1 + 30 from rfl), set_right (rfl : (#[(Value.int .u64 x.f_Time)] : Array Value).size = 1) (show 30 = 1 + 29 from rfl), set_right (rfl : (#[(Value.int .u64 x.f_GasLimit)] : Array Value).size = 1) (show 29 = 1 + 28 from rfl), set_right (size_enc .u8 x.f_Coinbase) (show 28 = 20 + 8 from rfl), set_right (size_enc .u64 x.f_BaseFee) (show 8 = 4 + 4 from rfl), set_right (size_enc .u64 x.f_Random) (show 4 = 4 + 0 from rfl), set_left (rfl : (#[(Value.int .u64 x.f_Chain)] : Array Value).size = 1) (show 0 < 1 by decide)]; try rfl
@[go_sem] theorem put_Chain (x : ApiBlock) (v : Int) : splice x.cells 31 #[(Value.int .u64 v)] = ({ x with f_Chain := v } : ApiBlock).cells := by
  unfold cells; rw [splice_right (rfl : (#[(Value.int .u64 x.f_Number)] : Array Value).size = 1) (show 31 = 1 + 30 from rfl), splice_right (rfl : (#[(Value.int .u64 x.f_Time)] : Array Value).size = 1) (show 30 = 1 + 29 from rfl), splice_right (rfl : (#[(Value.int .u64 x.f_GasLimit)] : Array Value).size = 1) (show 29 = 1 + 28 from rfl), splice_right (size_enc .u8 x.f_Coinbase) (show 28 = 20 + 8 from rfl), splice_right (size_enc .u64 x.f_BaseFee) (show 8 = 4 + 4 from rfl), splice_right (size_enc .u64 x.f_Random) (show 4 = 4 + 0 from rfl), splice_left (rfl : (#[(Value.int .u64 x.f_Chain)] : Array Value).size = 1) (show 0 + (#[(Value.int .u64 v)] : Array Value).size ≤ 1 from Nat.le_of_ble_eq_true rfl)]; try rfl
@[go_sem] theorem get_Hashes (x : ApiBlock) : x.cells[32]? = some (Value.slice x.f_Hashes.a x.f_Hashes.n x.f_Hashes.c) := by
  unfold cells; rw [get_right (rfl : (#[(Value.int .u64 x.f_Number)] : Array Value).size = 1) (show 32 = 1 + 31 from rfl), get_right (rfl : (#[(Value.int .u64 x.f_Time)] : Array Value).size = 1) (show 31 = 1 + 30 from rfl), get_right (rfl : (#[(Value.int .u64 x.f_GasLimit)] : Array Value).size = 1) (show 30 = 1 + 29 from rfl), get_right (size_enc .u8 x.f_Coinbase) (show 29 = 20 + 9 from rfl), get_right (size_enc .u64 x.f_BaseFee) (show 9 = 4 + 5 from rfl), get_right (size_enc .u64 x.f_Random) (show 5 = 4 + 1 from rfl), get_right (rfl : (#[(Value.int .u64 x.f_Chain)] : Array Value).size = 1) (show 1 = 1 + 0 from rfl)]; try rfl
@[go_sem] theorem got_Hashes (x : ApiBlock) (h : 32 < x.cells.size) : x.cells[32] = (Value.slice x.f_Hashes.a x.f_Hashes.n x.f_Hashes.c) := got (get_Hashes x) h
@[go_sem] theorem set_Hashes (x : ApiBlock) (va : Option Addr) (vn vc : Nat) : x.cells.setIfInBounds 32 (Value.slice va vn vc) = ({ x with f_Hashes := ⟨va, vn, vc⟩ } : ApiBlock).cells := by
  unfold cells; rw [set_right (rfl : (#[(Value.int .u64 x.f_Number)] : Array Value).size = 1) (show 32 = 1 + 31 from rfl), set_right (rfl : (#[(Value.int .u64 x.f_Time)] : Array Value).size = 1) (show 31 = 1 + 30 from rfl), set_right (rfl : (#[(Value.int .u64 x.f_GasLimit)] : Array Value).size = 1) (show 30 = 1 + 29 from rfl), set_right (size_enc .u8 x.f_Coinbase) (show 29 = 20 + 9 from rfl), set_right (size_enc .u64 x.f_BaseFee) (show 9 = 4 + 5 from rfl), set_right (size_enc .u64 x.f_Random) (show 5 = 4 + 1 from rfl), set_right (rfl : (#[(Value.int .u64 x.f_Chain)] : Array Value).size = 1) (show 1 = 1 + 0 from rfl)]; try rfl
@[go_sem] theorem put_Hashes (x : ApiBlock) (va : Option Addr) (vn vc : Nat) : splice x.cells 32 #[(Value.slice va vn vc)] = ({ x with f_Hashes := ⟨va, vn, vc⟩ } : ApiBlock).cells := by
  unfold cells; rw [splice_right (rfl : (#[(Value.int .u64 x.f_Number)] : Array Value).size = 1) (show 32 = 1 + 31 from rfl), splice_right (rfl : (#[(Value.int .u64 x.f_Time)] : Array Value).size = 1) (show 31 = 1 + 30 from rfl), splice_right (rfl : (#[(Value.int .u64 x.f_GasLimit)] : Array Value).size = 1) (show 30 = 1 + 29 from rfl), splice_right (size_enc .u8 x.f_Coinbase) (show 29 = 20 + 9 from rfl), splice_right (size_enc .u64 x.f_BaseFee) (show 9 = 4 + 5 from rfl), splice_right (size_enc .u64 x.f_Random) (show 5 = 4 + 1 from rfl), splice_right (rfl : (#[(Value.int .u64 x.f_Chain)] : Array Value).size = 1) (show 1 = 1 + 0 from rfl)]; try rfl
attribute [irreducible] cells
end ApiBlock

structure ApiTx where
  f_From : Ints 20
  f_To : Ints 20
  f_Create : Bool
  f_Nonce : Int
  f_Value : Ints 4
  f_Data : Sl
  f_Gas : Int
  f_Fee : Ints 4
  f_Tip : Ints 4
  f_Warm : Sl
namespace ApiTx
def cells (x : ApiTx) : Array Value := enc .u8 x.f_From ++ (enc .u8 x.f_To ++ (#[(Value.bool x.f_Create)] ++ (#[(Value.int .u64 x.f_Nonce)] ++ (enc .u64 x.f_Value ++ (#[(Value.slice x.f_Data.a x.f_Data.n x.f_Data.c)] ++ (#[(Value.int .u64 x.f_Gas)] ++ (enc .u64 x.f_Fee ++ (enc .u64 x.f_Tip ++ (#[(Value.slice x.f_Warm.a x.f_Warm.n x.f_Warm.c)])))))))))
def zero : ApiTx := ⟨(Ints.zero 20), (Ints.zero 20), false, 0, (Ints.zero 4), Sl.nil, 0, (Ints.zero 4), (Ints.zero 4), Sl.nil⟩
@[go_sem, simp] theorem size_cells (x : ApiTx) : x.cells.size = 57 := by
  unfold cells; simp only [Array.size_append, List.size_toArray, List.length_cons, List.length_nil, size_enc]
@[go_sem] theorem allOne (x : ApiTx) : AllOne x.cells := by
  unfold cells; exact (allOne_append (allOne_enc .u8 x.f_From) (allOne_append (allOne_enc .u8 x.f_To) (allOne_append (allOne_single rfl) (allOne_append (allOne_single rfl) (allOne_append (allOne_enc .u64 x.f_Value) (allOne_append (allOne_single rfl) (allOne_append (allOne_single rfl) (allOne_append (allOne_enc .u64 x.f_Fee) (allOne_append (allOne_enc .u64 x.f_Tip) (allOne_single rfl))))))))))
@[go_sem, simp] theorem cells_all (x : ApiTx) : x.cells.extract 0 57 = x.cells := by
  have := size_cells x; conv => lhs; rw [← this]
  simp
@[go_sem] theorem ext_From (x : ApiTx) : x.cells.extract 0 20 = enc .u8 x.f_From := by
  unfold cells; rw [ext_left (size_enc .u8 x.f_From) (show 20 ≤ 20 by decide)]; try exact enc_all .u8 x.f_From
@[go_sem] theorem put_From (x : ApiTx) (v : Ints 20) : splice x.cells 0 (enc .u8 v) = ({ x with f_From := v } : ApiTx).cells := by
  unfold cells; rw [splice_left (size_enc .u8 x.f_From) (show 0 + (enc .u8 v).size ≤ 20 by rw [(size_enc .u8 v)]; decide), splice_all _ _ ((size_enc .u8 x.f_From).trans (size_enc .u8 v).symm)]; try rfl
@[go_sem] theorem ext_To (x : ApiTx) : x.cells.extract 20 40 = enc .u8 x.f_To := by
  unfold cells; rw [ext_right (size_enc .u8 x.f_From) (show 20 = 20 + 0 from rfl) (show 40 = 20 + 20 from rfl), ext_left (size_enc .u8 x.f_To) (show 20 ≤ 20 by decide)]; try exact enc_all .u8 x.f_To
@[go_sem] theorem put_To (x : ApiTx) (v : Ints 20) : splice x.cells 20 (enc .u8 v) = ({ x with f_To := v } : ApiTx).cells := by
  unfold cells; rw [splice_right (size_enc .u8 x.f_From) (show 20 = 20 + 0 from rfl), splice_left (size_enc .u8 x.f_To) (show 0 + (enc .u8 v).size ≤ 20 by rw [(size_enc .u8 v)]; decide), splice_all _ _ ((size_enc .u8 x.f_To).trans (size_enc .u8 v).symm)]; try rfl
@[go_sem] theorem get_Create (x : ApiTx) : x.cells[40]? = some (Value.bool x.f_Create) := by
  unfold cells; rw [get_right (size_enc .u8 x.f_From) (show 40 = 20 + 20 from rfl), get_right (size_enc .u8 x.f_To) (show 20 = 20 + 0 from rfl), get_left (rfl : (#[(Value.bool x.f_Create)] : Array Value).size = 1) (show 0 < 1 by decide)]; try rfl
@[go_sem] theorem got_Create (x : ApiTx) (h : 40 < x.cells.size) : x.cells[40] = (Value.bool x.f_Create) := got (get_Create x) h
@[go_sem] theorem set_Create (x : ApiTx) (v : Bool) : x.cells.setIfInBounds 40 (Value.bool v) = ({ x with f_Create := v } : ApiTx).cells := by
  unfold cells; rw [set_right (size_enc .u8 x.f_From) (show 40 = 20 + 20 from rfl), set_right (size_enc .u8 x.f_To) (show 20 = 20 + 0 from rfl), set_left (rfl : (#[(Value.bool x.f_Create)] : Array Value).size = 1) (show 0 < 1 by decide)]; try rfl
@[go_sem] theorem put_Create (x : ApiTx) (v : Bool) : splice x.cells 40 #[(Value.bool v)] = ({ x with f_Create := v } : ApiTx).cells := by
  unfold cells; rw [splice_right (size_enc .u8 x.f_From) (show 40 = 20 + 20 from rfl), splice_right (size_enc .u8 x.f_To) (show 20 = 20 + 0 from rfl), splice_left (rfl : (#[(Value.bool x.f_Create)] : Array Value).size = 1) (show 0 + (#[(Value.bool v)] : Array Value).size ≤ 1 from Nat.le_of_ble_eq_true rfl)]; try rfl
@[go_sem] theorem get_Nonce (x : ApiTx) : x.cells[41]? = some (Value.int .u64 x.f_Nonce) := by
  unfold cells; rw [get_right (size_enc .u8 x.f_From) (show 41 = 20 + 21 from rfl), get_right (size_enc .u8 x.f_To) (show 21 = 20 + 1 from rfl), get_right (rfl : (#[(Value.bool x.f_Create)] : Array Value).size = 1) (show 1 = 1 + 0 from rfl), get_left (rfl : (#[(Value.int .u64 x.f_Nonce)] : Array Value).size = 1) (show 0 < 1 by decide)]; try rfl
@[go_sem] theorem got_Nonce (x : ApiTx) (h : 41 < x.cells.size) : x.cells[41] = (Value.int .u64 x.f_Nonce) := got (get_Nonce x) h
@[go_sem] theorem set_Nonce (x : ApiTx) (v : Int) : x.cells.setIfInBounds 41 (Value.int .u64 v) = ({ x with f_Nonce := v } : ApiTx).cells := by
  unfold cells; rw [set_right (size_enc .u8 x.f_From) (show 41 = 20 + 21 from rfl), set_right (size_enc .u8 x.f_To) (show 21 = 20 + 1 from rfl), set_right (rfl : (#[(Value.bool x.f_Create)] : Array Value).size = 1) (show 1 = 1 + 0 from rfl), set_left (rfl : (#[(Value.int .u64 x.f_Nonce)] : Array Value).size = 1) (show 0 < 1 by decide)]; try rfl
@[go_sem] theorem put_Nonce (x : ApiTx) (v : Int) : splice x.cells 41 #[(Value.int .u64 v)] = ({ x with f_Nonce := v } : ApiTx).cells := by
  unfold cells; rw [splice_right (size_enc .u8 x.f_From) (show 41 = 20 + 21 from rfl), splice_right (size_enc .u8 x.f_To) (show 21 = 20 + 1 from rfl), splice_right (rfl : (#[(Value.bool x.f_Create)] : Array Value).size = 1) (show 1 = 1 + 0 from rfl), splice_left (rfl : (#[(Value.int .u64 x.f_Nonce)] : Array Value).size = 1) (show 0 + (#[(Value.int .u64 v)] : Array Value).size ≤ 1 from Nat.le_of_ble_eq_true rfl)]; try rfl
@[go_sem] theorem ext_Value (x : ApiTx) : x.cells.extract 42 46 = enc .u64 x.f_Value := by
  unfold cells; rw [ext_right (size_enc .u8 x.f_From) (show 42 = 20 + 22 from rfl) (show 46 = 20 + 26 from rfl), ext_right (size_enc .u8 x.f_To) (show 22 = 20 + 2 from rfl) (show 26 = 20 + 6 from rfl), ext_right (rfl : (#[(Value.bool x.f_Create)] : Array Value).size = 1) (show 2 = 1 + 1 from rfl) (show 6 = 1 + 5 from rfl), ext_right (rfl : (#[(Value.int .u64 x.f_Nonce)] : Array Value).size = 1) (show 1 = 1 + 0 from rfl) (show 5 = 1 + 4 from rfl), ext_left (size_enc .u64 x.f_Value) (show 4 ≤ 4 by decide)]; try exact enc_all .u64 x.f_Value
@[go_sem] theorem put_Value (x : ApiTx) (v : Ints 4) : splice x.cells 42 (enc .u64 v) = ({ x with f_Value := v } : ApiTx).cells := by
  unfold cells; rw [splice_right (size_enc .u8 x.f_From) (show 42 = 20 + 22 from rfl), splice_right (size_enc .u8 x.f_To) (show 22 = 20 + 2 from rfl), splice_right (rfl : (#[(Value.bool x.f_Create)] : Array Value).size = 1) (show 2 = 1 + 1 from rfl), splice_right (rfl : (#[(Value.int .u64 x.f_Nonce)] : Array Value).size = 1) (show 1 = 1 + 0 from rfl), splice_left (size_enc .u64 x.f_Value) (show 0 + (enc .u64 v).size ≤ 4 by rw [(size_enc .u64 v)]; decide), splice_all _ _ ((size_enc .u64 x.f_Value).trans (size_enc .u64 v).symm)]; try rfl
@[go_sem] theorem get_Data (x : ApiTx) : x.cells[46]? = some (Value.slice x.f_Data.a x.f_Data.n x.f_Data.c) := by
  unfold cells; rw [get_right (size_enc .u8 x.f_From) (show 46 = 20 + 26 from rfl), get_right (size_enc .u8 x.f_To) (show 26 = 20 + 6 from rfl), get_right (rfl : (#[(Value.bool x.f_Create)] : Array Value).size = 1) (show 6 = 1 + 5 from rfl), get_right (rfl : (#[(Value.int .u64 x.f_Nonce)] : Array Value).size = 1) (show 5 = 1 + 4 from rfl), get_right (size_enc .u64 x.f_Value) (show 4 = 4 + 0 from rfl), get_left (rfl : (#[(Value.slice x.f_Data.a x.f_Data.n x.f_Data.c)] : Array Value).size = 1) (show 0 < 1 by decide)]; try rfl
@[go_sem] theorem got_Data (x : ApiTx) (h : 46 < x.cells.size) : x.cells[46] = (Value.slice x.f_Data.a x.f_Data.n x.f_Data.c) := got (get_Data x) h
@[go_sem] theorem set_Data (x : ApiTx) (va : Option Addr) (vn vc : Nat) : x.cells.setIfInBounds 46 (Value.slice va vn vc) = ({ x with f_Data := ⟨va, vn, vc⟩ } : ApiTx).cells := by
  unfold cells; rw [set_right (size_enc .u8 x.f_From) (show 46 = 20 + 26 from rfl), set_right (size_enc .u8 x.f_To) (show 26 = 20 + 6 from rfl), set_right (rfl : (#[(Value.bool x.f_Create)] : Array Value).size = 1) (show 6 = 1 + 5 from rfl), set_right (rfl : (#[(Value.int .u64 x.f_Nonce)] : Array Value).size = 1) (show 5 = 1 + 4 from rfl), set_right (size_enc .u64 x.f_Value) (show 4 = 4 + 0 from rfl), set_left (rfl : (#[(Value.slice x.f_Data.a x.f_Data.n x.f_Data.c)] : Array Value).size = 1) (show 0 < 1 by decide)]; try rfl
@[go_sem] theorem put_Data (x : ApiTx) (va : Option Addr) (vn vc : Nat) : splice x.cells 46 #[(Value.slice va vn vc)] = ({ x with f_Data := ⟨va, vn, vc⟩ } : ApiTx).cells := by
  unfold cells; rw [splice_right (size_enc .u8 x.f_From) (show 46 = 20 + 26 from rfl), splice_right (size_enc .u8 x.f_To) (show 26 = 20 + 6 from rfl), splice_right (rfl : (#[(Value.bool x.f_Create)] : Array Value).size = 1) (show 6 = 1 + 5 from rfl), splice_right (rfl : (#[(Value.int .u64 x.f_Nonce)] : Array Value).size = 1) (show 5 = 1 + 4 from rfl), splice_right (size_enc .u64 x.f_Value) (show 4 = 4 + 0 from rfl), splice_left (rfl : (#[(Value.slice x.f_Data.a x.f_Data.n x.f_Data.c)] : Array Value).size = 1) (show 0 + (#[(Value.slice va vn vc)] : Array Value).size ≤ 1 from Nat.le_of_ble_eq_true rfl)]; try rfl
@[go_sem] theorem get_Gas (x : ApiTx) : x.cells[47]? = some (Value.int .u64 x.f_Gas) := by
  unfold cells; rw [get_right (size_enc .u8 x.f_From) (show 47 = 20 + 27 from rfl), get_right (size_enc .u8 x.f_To) (show 27 = 20 + 7 from rfl), get_right (rfl : (#[(Value.bool x.f_Create)] : Array Value).size = 1) (show 7 = 1 + 6 from rfl), get_right (rfl : (#[(Value.int .u64 x.f_Nonce)] : Array Value).size = 1) (show 6 = 1 + 5 from rfl), get_right (size_enc .u64 x.f_Value) (show 5 = 4 + 1 from rfl), get_right (rfl : (#[(Value.slice x.f_Data.a x.f_Data.n x.f_Data.c)] : Array Value).size = 1) (show 1 = 1 + 0 from rfl), get_left (rfl : (#[(Value.int .u64 x.f_Gas)] : Array Value).size = 1) (show 0 < 1 by decide)]; try rfl
@[go_sem] theorem got_Gas (x : ApiTx) (h : 47 < x.cells.size) : x.cells[47] = (Value.int .u64 x.f_Gas) := got (get_Gas x) h
@[go_sem] theorem set_Gas (x : ApiTx) (v : Int) : x.cells.setIfInBounds 47 (Value.int .u64 v) = ({ x with f_Gas := v } : ApiTx).cells := by
  unfold cells; rw [set_right (size_enc .u8 x.f_From) (show 47 = 20 + 27 from rfl), set_right (size_enc .u8 x.f_To) (show 27 = 20 + 7 from rfl), set_right (rfl : (#[(Value.bool x.f_Create)] : Array Value).size = 1) (show 7 = 1 + 6 from rfl), set_right (rfl : (#[(Value.int .u64 x.f_Nonce)] : Array Value).size = 1) (show 6 = 1 + 5 from rfl), set_right (size_enc .u64 x.f_Value) (show 5 = 4 + 1 from rfl), set_right (rfl : (#[(Value.slice x.f_Data.a x.f_Data.n x.f_Data.c)] : Array Value).size = 1) (show 1 = 1 + 0 from rfl), set_left (rfl : (#[(Value.int .u64 x.f_Gas)] : Array Value).size = 1) (show 0 < 1 by decide)]; try rfl
@[go_sem] theorem put_Gas (x : ApiTx) (v : Int) : splice x.cells 47 #[(Value.int .u64 v)] = ({ x with f_Gas := v } : ApiTx).cells := by
  unfold cells; rw [splice_right (size_enc .u8 x.f_From) (show 47 = 20 + 27 from rfl), splice_right (size_enc .u8 x.f_To) (show 27 = 20 + 7 from rfl), splice_right (rfl : (#[(Value.bool x.f_Create)] : Array Value).size = 1) (show 7 = 1 + 6 from rfl), splice_right (rfl : (#[(Value.int .u64 x.f_Nonce)] : Array Value).size = 1) (show 6 = 1 + 5 from rfl), splice_right (size_enc .u64 x.f_Value) (show 5 = 4 + 1 from rfl), splice_right (rfl : (#[(Value.slice x.f_Data.a x.f_Data.n x.f_Data.c)] : Array Value).size = 1) (show 1 = 1 + 0 from rfl), splice_left (rfl : (#[(Value.int .u64 x.f_Gas)] : Array Value).size = 1) (show 0 + (#[(Value.int .u64 v)] : Array Value).size ≤ 1 from Nat.le_of_ble_eq_true rfl)]; try rfl
@[go_sem] theorem ext_Fee (x : ApiTx) : x.cells.extract 48 52 = enc .u64 x.f_Fee := by
  unfold cells; rw [ext_right (size_enc .u8 x.f_From) (show 48 = 20 + 28 from rfl) (show 52 = 20 + 32 from rfl), ext_right (size_enc .u8 x.f_To) (show 28 = 20 + 8 from rfl) (show 32 = 20 + 12 from rfl), ext_right (rfl : (#[(Value.bool x.f_Create)] : Array Value).size = 1) (show 8 = 1 + 7 from rfl) (show 12 = 1 + 11 from rfl), ext_right (rfl : (#[(Value.int .u64 x.f_Nonce)] : Array Value).size = 1) (show 7 = 1 + 6 from rfl) (show 11 = 1 + 10 from rfl), ext_right (size_enc .u64 x.f_Value) (show 6 = 4 + 2 from rfl) (show 10 = 4 + 6 from rfl), ext_right (rfl : (#[(Value.slice x.f_Data.a x.f_Data.n x.f_Data.c)] : Array Value).size = 1) (show 2 = 1 + 1 from rfl) (show 6 = 1 + 5 from rfl), ext_right (rfl : (#[(Value.int .u64 x.f_Gas)] : Array Value).size = 1) (show 1 = 1 + 0 from rfl) (show 5 = 1 + 4 from rfl), ext_left (size_enc .u64 x.f_Fee) (show 4 ≤ 4 by decide)]; try exact enc_all .u64 x.f_Fee
@[go_sem] theorem put_Fee (x : ApiTx) (v : Ints 4) : splice x.cells 48 (enc .u64 v) = ({ x with f_Fee := v } : ApiTx).cells := by
  unfold cells; rw [splice_right (size_enc .u8 x.f_From) (show 48 = 20 + 28 from rfl), splice_right (size_enc .u8 x.f_To) (show 28 = 20 + 8 from rfl), splice_right (rfl : (#[(Value.bool x.f_Create)] : Array Value).size = 1) (show 8 = 1 + 7 from rfl), splice_right (rfl : (#[(Value.int .u64 x.f_Nonce)] : Array Value).size = 1) (show 7 = 1 + 6 from rfl), splice_right (size_enc .u64 x.f_Value) (show 6 = 4 + 2 from rfl), splice_right (rfl : (#[(Value.slice x.f_Data.a x.f_Data.n x.f_Data.c)] : Array Value).size = 1) (show 2 = 1 + 1 from rfl), splice_right (rfl : (#[(Value.int .u64 x.f_Gas)] : Array Value).size = 1) (show 1 = 1 + 0 from rfl), splice_left (size_enc .u64 x.f_Fee) (show 0 + (enc .u64 v).size ≤ 4 by rw [(size_enc .u64 v)]; decide), splice_all _ _ ((size_enc .u64 x.f_Fee).trans (size_enc .u64 v).symm)]; try rfl
@[go_sem] theorem ext_Tip (x : ApiTx) : x.cells.extract 52 56 = enc .u64 x.f_Tip := by
  unfold cells; rw [ext_right (size_enc .u8 x.f_From) (show 52 = 20 + 32 from rfl) (show 56 = 20 + 36 from rfl), ext_right (size_enc .u8 x.f_To) (show 32 = 20 + 12 from rfl) (show 36 = 20 + 16 from rfl), ext_right (rfl : (#[(Value.bool x.f_Create)] : Array Value).size = 1) (show 12 = 1 + 11 from rfl) (show 16 = 1 + 15 from rfl), ext_right (rfl : (#[(Value.int .u64 x.f_Nonce)] : Array Value).size = 1) (show 11 = 1 + 10 from rfl) (show 15 = 1 + 14 from rfl), ext_right (size_enc .u64 x.f_Value) (show 10 = 4 + 6 from rfl) (show 14 = 4 + 10 from rfl), ext_right (rfl : (#[(Value.slice x.f_Data.a x.f_Data.n x.f_Data.c)] : Array Value).size = 1) (show 6 = 1 + 5 from rfl) (show 10 = 1 + 9 from rfl), ext_right (rfl : (#[(Value.int .u64 x.f_Gas)] : Array Value).size = 1) (show 5 = 1 + 4 from rfl) (show 9 = 1 + 8 from rfl), ext_right (size_enc .u64 x.f_Fee) (show 4 = 4 + 0 from rfl) (show 8 = 4 + 4 from rfl), ext_left (size_enc .u64 x.f_Tip) (show 4 ≤ 4 by decide)]; try exact enc_all .u64 x.f_Tip
@[go_sem] theorem put_Tip (x : ApiTx) (v : Ints 4) : splice x.cells 52 (enc .u64 v) = ({ x with f_Tip := v } : ApiTx).cells := by
  unfold cells; rw [splice_right (size_enc .u8 x.f_From) (show 52 = 20 + 32 from rfl), splice_right (size_enc .u8 x.f_To) (show 32 = 20 + 12 from rfl), splice_right (rfl : (#[(Value.bool x.f_Create)] : Array Value).size = 1) (show 12 = 1 + 11 from rfl), splice_right (rfl : (#[(Value.int .u64 x.f_Nonce)] : Array Value).size = 1) (show 11 = 1 + 10 from rfl), splice_right (size_enc .u64 x.f_Value) (show 10 = 4 + 6 from rfl), splice_right (rfl : (#[(Value.slice x.f_Data.a x.f_Data.n x.f_Data.c)] : Array Value).size = 1) (show 6 = 1 + 5 from rfl), splice_right (rfl : (#[(Value.int .u64 x.f_Gas)] : Array Value).size = 1) (show 5 = 1 + 4 from rfl), splice_right (size_enc .u64 x.f_Fee) (show 4 = 4 + 0 from rfl), splice_left (size_enc .u64 x.f_Tip) (show 0 + (enc .u64 v).size ≤ 4 by rw [(size_enc .u64 v)]; decide), splice_all _ _ ((size_enc .u64 x.f_Tip).trans (size_enc .u64 v).symm)]; try rfl
@[go_sem] theorem get_Warm (x : ApiTx) : x.cells[56]? = some (Value.slice x.f_Warm.a x.f_Warm.n x.f_Warm.c) := by
  unfold cells; rw [get_right (size_enc .u8 x.f_From) (show 56 = 20 + 36 from rfl), get_right (size_enc .u8 x.f_To) (show 36 = 20 + 16 from rfl), get_right (rfl : (#[(Value.bool x.f_Create)] : Array Value).size = 1) (show 16 = 1 + 15 from rfl), get_right (rfl : (#[(Value.int .u64 x.f_Nonce)] : Array Value).size = 1) (show 15 = 1 + 14 from rfl), get_right (size_enc .u64 x.f_Value) (show 14 = 4 + 10 from rfl), get_right (rfl : (#[(Value.slice x.f_Data.a x.f_Data.n x.f_Data.c)] : Array Value).size = 1) (show 10 = 1 + 9 from rfl), get_right (rfl : (#[(Value.int .u64 x.f_Gas)] : Array Value).size = 1) (show 9 = 1 + 8 from rfl), get_right (size_enc .u64 x.f_Fee) (show 8 = 4 + 4 from rfl), get_right (size_enc .u64 x.f_Tip) (show 4 = 4 + 0 from rfl)]; try rfl
@[go_sem] theorem got_Warm (x : ApiTx) (h : 56 < x.cells.size) : x.cells[56] = (Value.slice x.f_Warm.a x.f_Warm.n x.f_Warm.c) := got (get_Warm x) h
@[go_sem] theorem set_Warm (x : ApiTx) (va : Option Addr) (vn vc : Nat) : x.cells.setIfInBounds 56 (Value.slice va vn vc) = ({ x with f_Warm := ⟨va, vn, vc⟩ } : ApiTx).cells := by
  unfold cells; rw [set_right (size_enc .u8 x.f_From) (show 56 = 20 + 36 from rfl), set_right (size_enc .u8 x.f_To) (show 36 = 20 + 16 from rfl), set_right (rfl : (#[(Value.bool x.f_Create)] : Array Value).size = 1) (show 16 = 1 + 15 from rfl), set_right (rfl : (#[(Value.int .u64 x.f_Nonce)] : Array Value).size = 1) (show 15 = 1 + 14 from rfl), set_right (size_enc .u64 x.f_Value) (show 14 = 4 + 10 from rfl), set_right (rfl : (#[(Value.slice x.f_Data.a x.f_Data.n x.f_Data.c)] : Array Value).size = 1) (show 10 = 1 + 9 from rfl), set_right (rfl : (#[(Value.int .u64 x.f_Gas)] : Array Value).size = 1) (show 9 = 1 + 8 from rfl), set_right (size_enc .u64 x.f_Fee) (show 8 = 4 + 4 from rfl), set_right (size_enc .u64 x.f_Tip) (show 4 = 4 + 0 from rfl)]; try rfl
@[go_sem] theorem put_Warm (x : ApiTx) (va : Option Addr) (vn vc : Nat) : splice x.cells 56 #[(Value.slice va vn vc)] = ({ x with f_Warm := ⟨va, vn, vc⟩ } : ApiTx).cells := by
  unfold cells; rw [splice_right (size_enc .u8 x.f_From) (show 56 = 20 + 36 from rfl), splice_right (size_enc .u8 x.f_To) (show 36 = 20 + 16 from rfl), splice_right (rfl : (#[(Value.bool x.f_Create)] : Array Value).size = 1) (show 16 = 1 + 15 from rfl), splice_right (rfl : (#[(Value.int .u64 x.f_Nonce)] : Array Value).size = 1) (show 15 = 1 + 14 from rfl), splice_right (size_enc .u64 x.f_Value) (show 14 = 4 + 10 from rfl), splice_right (rfl : (#[(Value.slice x.f_Data.a x.f_Data.n x.f_Data.c)] : Array Value).size = 1) (show 10 = 1 + 9 from rfl), splice_right (rfl : (#[(Value.int .u64 x.f_Gas)] : Array Value).size = 1) (show 9 = 1 + 8 from rfl), splice_right (size_enc .u64 x.f_Fee) (show 8 = 4 + 4 from rfl), splice_right (size_enc .u64 x.f_Tip) (show 4 = 4 + 0 from rfl)]; try rfl
attribute [irreducible] cells
end ApiTx

structure ApiReceipt where
  f_From : Ints 20
  f_Nonce : Int
  f_OK : Bool
  f_Used : Int
  f_Price : Ints 4
  f_Made : Ints 20
  f_Logs : Sl
  f_Answer : Sl
namespace ApiReceipt
def cells (x : ApiReceipt) : Array Value := enc .u8 x.f_From ++ (#[(Value.int .u64 x.f_Nonce)] ++ (#[(Value.bool x.f_OK)] ++ (#[(Value.int .u64 x.f_Used)] ++ (enc .u64 x.f_Price ++ (enc .u8 x.f_Made ++ (#[(Value.slice x.f_Logs.a x.f_Logs.n x.f_Logs.c)] ++ (#[(Value.slice x.f_Answer.a x.f_Answer.n x.f_Answer.c)])))))))
def zero : ApiReceipt := ⟨(Ints.zero 20), 0, false, 0, (Ints.zero 4), (Ints.zero 20), Sl.nil, Sl.nil⟩
@[go_sem, simp] theorem size_cells (x : ApiReceipt) : x.cells.size = 49 := by
  unfold cells; simp only [Array.size_append, List.size_toArray, List.length_cons, List.length_nil, size_enc]
@[go_sem] theorem allOne (x : ApiReceipt) : AllOne x.cells := by
  unfold cells; exact (allOne_append (allOne_enc .u8 x.f_From) (allOne_append (allOne_single rfl) (allOne_append (allOne_single rfl) (allOne_append (allOne_single rfl) (allOne_append (allOne_enc .u64 x.f_Price) (allOne_append (allOne_enc .u8 x.f_Made) (allOne_append (allOne_single rfl) (allOne_single rfl))))))))
@[go_sem, simp] theorem cells_all (x : ApiReceipt) : x.cells.extract 0 49 = x.cells := by
  have := size_cells x; conv => lhs; rw [← this]
  simp
@[go_sem] theorem ext_From (x : ApiReceipt) : x.cells.extract 0 20 = enc .u8 x.f_From := by
  unfold cells; rw [ext_left (size_enc .u8 x.f_From) (show 20 ≤ 20 by decide)]; try exact enc_all .u8 x.f_From
@[go_sem] theorem put_From (x : ApiReceipt) (v : Ints 20) : splice x.cells 0 (enc .u8 v) = ({ x with f_From := v } : ApiReceipt).cells := by
  unfold cells; rw [splice_left (size_enc .u8 x.f_From) (show 0 + (enc .u8 v).size ≤ 20 by rw [(size_enc .u8 v)]; decide), splice_all _ _ ((size_enc .u8 x.f_From).trans (size_enc .u8 v).symm)]; try rfl
@[go_sem] theorem get_Nonce (x : ApiReceipt) : x.cells[20]? = some (Value.int .u64 x.f_Nonce) := by
  unfold cells; rw [get_right (size_enc .u8 x.f_From) (show 20 = 20 + 0 from rfl), get_left (rfl : (#[(Value.int .u64 x.f_Nonce)] : Array Value).size = 1) (show 0 < 1 by decide)]; try rfl
@[go_sem] theorem got_Nonce (x : ApiReceipt) (h : 20 < x.cells.size) : x.cells[20] = (Value.int .u64 x.f_Nonce) := got (get_Nonce x) h
@[go_sem] theorem set_Nonce (x : ApiReceipt) (v : Int) : x.cells.setIfInBounds 20 (Value.int .u64 v) = ({ x with f_Nonce := v } : ApiReceipt).cells := by
  unfold cells; rw [set_right (size_enc .u8 x.f_From) (show 20 = 20 + 0 from rfl), set_left (rfl : (#[(Value.int .u64 x.f_Nonce)] : Array Value).size = 1) (show 0 < 1 by decide)]; try rfl
@[go_sem] theorem put_Nonce (x : ApiReceipt) (v : Int) : splice x.cells 20 #[(Value.int .u64 v)] = ({ x with f_Nonce := v } : ApiReceipt).cells := by
  unfold cells; rw [splice_right (size_enc .u8 x.f_From) (show 20 = 20 + 0 from rfl), splice_left (rfl : (#[(Value.int .u64 x.f_Nonce)] : Array Value).size = 1) (show 0 + (#[(Value.int .u64 v)] : Array Value).size ≤ 1 from Nat.le_of_ble_eq_true rfl)]; try rfl
@[go_sem] theorem get_OK (x : ApiReceipt) : x.cells[21]? = some (Value.bool x.f_OK) := by
  unfold cells; rw [get_right (size_enc .u8 x.f_From) (show 21 = 20 + 1 from rfl), get_right (rfl : (#[(Value.int .u64 x.f_Nonce)] : Array Value).size = 1) (show 1 = 1 + 0 from rfl), get_left (rfl : (#[(Value.bool x.f_OK)] : Array Value).size = 1) (show 0 < 1 by decide)]; try rfl
@[go_sem] theorem got_OK (x : ApiReceipt) (h : 21 < x.cells.size) : x.cells[21] = (Value.bool x.f_OK) := got (get_OK x) h
@[go_sem] theorem set_OK (x : ApiReceipt) (v : Bool) : x.cells.setIfInBounds 21 (Value.bool v) = ({ x with f_OK := v } : ApiReceipt).cells := by
  unfold cells; rw [set_right (size_enc .u8 x.f_From) (show 21 = 20 + 1 from rfl), set_right (rfl : (#[(Value.int .u64 x.f_Nonce)] : Array Value).size = 1) (show 1 = 1 + 0 from rfl), set_left (rfl : (#[(Value.bool x.f_OK)] : Array Value).size = 1) (show 0 < 1 by decide)]; try rfl
@[go_sem] theorem put_OK (x : ApiReceipt) (v : Bool) : splice x.cells 21 #[(Value.bool v)] = ({ x with f_OK := v } : ApiReceipt).cells := by
  unfold cells; rw [splice_right (size_enc .u8 x.f_From) (show 21 = 20 + 1 from rfl), splice_right (rfl : (#[(Value.int .u64 x.f_Nonce)] : Array Value).size = 1) (show 1 = 1 + 0 from rfl), splice_left (rfl : (#[(Value.bool x.f_OK)] : Array Value).size = 1) (show 0 + (#[(Value.bool v)] : Array Value).size ≤ 1 from Nat.le_of_ble_eq_true rfl)]; try rfl
@[go_sem] theorem get_Used (x : ApiReceipt) : x.cells[22]? = some (Value.int .u64 x.f_Used) := by
  unfold cells; rw [get_right (size_enc .u8 x.f_From) (show 22 = 20 + 2 from rfl), get_right (rfl : (#[(Value.int .u64 x.f_Nonce)] : Array Value).size = 1) (show 2 = 1 + 1 from rfl), get_right (rfl : (#[(Value.bool x.f_OK)] : Array Value).size = 1) (show 1 = 1 + 0 from rfl), get_left (rfl : (#[(Value.int .u64 x.f_Used)] : Array Value).size = 1) (show 0 < 1 by decide)]; try rfl
@[go_sem] theorem got_Used (x : ApiReceipt) (h : 22 < x.cells.size) : x.cells[22] = (Value.int .u64 x.f_Used) := got (get_Used x) h
@[go_sem] theorem set_Used (x : ApiReceipt) (v : Int) : x.cells.setIfInBounds 22 (Value.int .u64 v) = ({ x with f_Used := v } : ApiReceipt).cells := by
  unfold cells; rw [set_right (size_enc .u8 x.f_From) (show 22 = 20 + 2 from rfl), set_right (rfl : (#[(Value.int .u64 x.f_Nonce)] : Array Value).size = 1) (show 2 = 1 + 1 from rfl), set_right (rfl : (#[(Value.bool x.f_OK)] : Array Value).size = 1) (show 1 = 1 + 0 from rfl), set_left (rfl : (#[(Value.int .u64 x.f_Used)] : Array Value).size = 1) (show 0 < 1 by decide)]; try rfl
@[go_sem] theorem put_Used (x : ApiReceipt) (v : Int) : splice x.cells 22 #[(Value.int .u64 v)] = ({ x with f_Used := v } : ApiReceipt).cells := by
  unfold cells; rw [splice_right (size_enc .u8 x.f_From) (show 22 = 20 + 2 from rfl), splice_right (rfl : (#[(Value.int .u64 x.f_Nonce)] : Array Value).size = 1) (show 2 = 1 + 1 from rfl), splice_right (rfl : (#[(Value.bool x.f_OK)] : Array Value).size = 1) (show 1 = 1 + 0 from rfl), splice_left (rfl : (#[(Value.int .u64 x.f_Used)] : Array Value).size = 1) (show 0 + (#[(Value.int .u64 v)] : Array Value).size ≤ 1 from Nat.le_of_ble_eq_true rfl)]; try rfl
@[go_sem] theorem ext_Price (x : ApiReceipt) : x.cells.extract 23 27 = enc .u64 x.f_Price := by
  unfold cells; rw [ext_right (size_enc .u8 x.f_From) (show 23 = 20 + 3 from rfl) (show 27 = 20 + 7 from rfl), ext_right (rfl : (#[(Value.int .u64 x.f_Nonce)] : Array Value).size = 1) (show 3 = 1 + 2 from rfl) (show 7 = 1 + 6 from rfl), ext_right (rfl : (#[(Value.bool x.f_OK)] : Array Value).size = 1) (show 2 = 1 + 1 from rfl) (show 6 = 1 + 5 from rfl), ext_right (rfl : (#[(Value.int .u64 x.f_Used)] : Array Value).size = 1) (show 1 = 1 + 0 from rfl) (show 5 = 1 + 4 from rfl), ext_left (size_enc .u64 x.f_Price) (show 4 ≤ 4 by decide)]; try exact enc_all .u64 x.f_Price
@[go_sem] theorem put_Price (x : ApiReceipt) (v : Ints 4) : splice x.cells 23 (enc .u64 v) = ({ x with f_Price := v } : ApiReceipt).cells := by
  unfold cells; rw [splice_right (size_enc .u8 x.f_From) (show 23 = 20 + 3 from rfl), splice_right (rfl : (#[(Value.int .u64 x.f_Nonce)] : Array Value).size = 1) (show 3 = 1 + 2 from rfl), splice_right (rfl : (#[(Value.bool x.f_OK)] : Array Value).size = 1) (show 2 = 1 + 1 from rfl), splice_right (rfl : (#[(Value.int .u64 x.f_Used)] : Array Value).size = 1) (show 1 = 1 + 0 from rfl), splice_left (size_enc .u64 x.f_Price) (show 0 + (enc .u64 v).size ≤ 4 by rw [(size_enc .u64 v)]; decide), splice_all _ _ ((size_enc .u64 x.f_Price).trans (size_enc .u64 v).symm)]; try rfl
@[go_sem] theorem ext_Made (x : ApiReceipt) : x.cells.extract 27 47 = enc .u8 x.f_Made := by
  unfold cells; rw [ext_right (size_enc .u8 x.f_From) (show 27 = 20 + 7 from rfl) (show 47 = 20 + 27 from rfl), ext_right (rfl : (#[(Value.int .u64 x.f_Nonce)] : Array Value).size = 1) (show 7 = 1 + 6 from rfl) (show 27 = 1 + 26 from rfl), ext_right (rfl : (#[(Value.bool x.f_OK)] : Array Value).size = 1) (show 6 = 1 + 5 from rfl) (show 26 = 1 + 25 from rfl), ext_right (rfl : (#[(Value.int .u64 x.f_Used)] : Array Value).size = 1) (show 5 = 1 + 4 from rfl) (show 25 = 1 + 24 from rfl), ext_right (size_enc .u64 x.f_Price) (show 4 = 4 + 0 from rfl) (show 24 = 4 + 20 from rfl), ext_left (size_enc .u8 x.f_Made) (show 20 ≤ 20 by decide)]; try exact enc_all .u8 x.f_Made
@[go_sem] theorem put_Made (x : ApiReceipt) (v : Ints 20) : splice x.cells 27 (enc .u8 v) = ({ x with f_Made := v } : ApiReceipt).cells := by
  unfold cells; rw [splice_right (size_enc .u8 x.f_From) (show 27 = 20 + 7 from rfl), splice_right (rfl : (#[(Value.int .u64 x.f_Nonce)] : Array Value).size = 1) (show 7 = 1 + 6 from rfl), splice_right (rfl : (#[(Value.bool x.f_OK)] : Array Value).size = 1) (show 6 = 1 + 5 from rfl), splice_right (rfl : (#[(Value.int .u64 x.f_Used)] : Array Value).size = 1) (show 5 = 1 + 4 from rfl), splice_right (size_enc .u64 x.f_Price) (show 4 = 4 + 0 from rfl), splice_left (size_enc .u8 x.f_Made) (show 0 + (enc .u8 v).size ≤ 20 by rw [(size_enc .u8 v)]; decide), splice_all _ _ ((size_enc .u8 x.f_Made).trans (size_enc .u8 v).symm)]; try rfl
@[go_sem] theorem get_Logs (x : ApiReceipt) : x.cells[47]? = some (Value.slice x.f_Logs.a x.f_Logs.n x.f_Logs.c) := by
  unfold cells; rw [get_right (size_enc .u8 x.f_From) (show 47 = 20 + 27 from rfl), get_right (rfl : (#[(Value.int .u64 x.f_Nonce)] : Array Value).size = 1) (show 27 = 1 + 26 from rfl), get_right (rfl : (#[(Value.bool x.f_OK)] : Array Value).size = 1) (show 26 = 1 + 25 from rfl), get_right (rfl : (#[(Value.int .u64 x.f_Used)] : Array Value).size = 1) (show 25 = 1 + 24 from rfl), get_right (size_enc .u64 x.f_Price) (show 24 = 4 + 20 from rfl), get_right (size_enc .u8 x.f_Made) (show 20 = 20 + 0 from rfl), get_left (rfl : (#[(Value.slice x.f_Logs.a x.f_Logs.n x.f_Logs.c)] : Array Value).size = 1) (show 0 < 1 by decide)]; try rfl
@[go_sem] theorem got_Logs (x : ApiReceipt) (h : 47 < x.cells.size) : x.cells[47] = (Value.slice x.f_Logs.a x.f_Logs.n x.f_Logs.c) := got (get_Logs x) h
@[go_sem] theorem set_Logs (x : ApiReceipt) (va : Option Addr) (vn vc : Nat) : x.cells.setIfInBounds 47 (Value.slice va vn vc) = ({ x with f_Logs := ⟨va, vn, vc⟩ } : ApiReceipt).cells := by
  unfold cells; rw [set_right (size_enc .u8 x.f_From) (show 47 = 20 + 27 from rfl), set_right (rfl : (#[(Value.int .u64 x.f_Nonce)] : Array Value).size = 1) (show 27 = 1 + 26 from rfl), set_right (rfl : (#[(Value.bool x.f_OK)] : Array Value).size = 1) (show 26 = 1 + 25 from rfl), set_right (rfl : (#[(Value.int .u64 x.f_Used)] : Array Value).size = 1) (show 25 = 1 + 24 from rfl), set_right (size_enc .u64 x.f_Price) (show 24 = 4 + 20 from rfl), set_right (size_enc .u8 x.f_Made) (show 20 = 20 + 0 from rfl), set_left (rfl : (#[(Value.slice x.f_Logs.a x.f_Logs.n x.f_Logs.c)] : Array Value).size = 1) (show 0 < 1 by decide)]; try rfl
@[go_sem] theorem put_Logs (x : ApiReceipt) (va : Option Addr) (vn vc : Nat) : splice x.cells 47 #[(Value.slice va vn vc)] = ({ x with f_Logs := ⟨va, vn, vc⟩ } : ApiReceipt).cells := by
  unfold cells; rw [splice_right (size_enc .u8 x.f_From) (show 47 = 20 + 27 from rfl), splice_right (rfl : (#[(Value.int .u64 x.f_Nonce)] : Array Value).size = 1) (show 27 = 1 + 26 from rfl), splice_right (rfl : (#[(Value.bool x.f_OK)] : Array Value).size = 1) (show 26 = 1 + 25 from rfl), splice_right (rfl : (#[(Value.int .u64 x.f_Used)] : Array Value).size = 1) (show 25 = 1 + 24 from rfl), splice_right (size_enc .u64 x.f_Price) (show 24 = 4 + 20 from rfl), splice_right (size_enc .u8 x.f_Made) (show 20 = 20 + 0 from rfl), splice_left (rfl : (#[(Value.slice x.f_Logs.a x.f_Logs.n x.f_Logs.c)] : Array Value).size = 1) (show 0 + (#[(Value.slice va vn vc)] : Array Value).size ≤ 1 from Nat.le_of_ble_eq_true rfl)]; try rfl
@[go_sem] theorem get_Answer (x : ApiReceipt) : x.cells[48]? = some (Value.slice x.f_Answer.a x.f_Answer.n x.f_Answer.c) := by
  unfold cells; rw [get_right (size_enc .u8 x.f_From) (show 48 = 20 + 28 from rfl), get_right (rfl : (#[(Value.int .u64 x.f_Nonce)] : Array Value).size = 1) (show 28 = 1 + 27 from rfl), get_right (rfl : (#[(Value.bool x.f_OK)] : Array Value).size = 1) (show 27 = 1 + 26 from rfl), get_right (rfl : (#[(Value.int .u64 x.f_Used)] : Array Value).size = 1) (show 26 = 1 + 25 from rfl), get_right (size_enc .u64 x.f_Price) (show 25 = 4 + 21 from rfl), get_right (size_enc .u8 x.f_Made) (show 21 = 20 + 1 from rfl), get_right (rfl : (#[(Value.slice x.f_Logs.a x.f_Logs.n x.f_Logs.c)] : Array Value).size = 1) (show 1 = 1 + 0 from rfl)]; try rfl
@[go_sem] theorem got_Answer (x : ApiReceipt) (h : 48 < x.cells.size) : x.cells[48] = (Value.slice x.f_Answer.a x.f_Answer.n x.f_Answer.c) := got (get_Answer x) h
@[go_sem] theorem set_Answer (x : ApiReceipt) (va : Option Addr) (vn vc : Nat) : x.cells.setIfInBounds 48 (Value.slice va vn vc) = ({ x with f_Answer := ⟨va, vn, vc⟩ } : ApiReceipt).cells := by
  unfold cells; rw [set_right (size_enc .u8 x.f_From) (show 48 = 20 + 28 from rfl), set_right (rfl : (#[(Value.int .u64 x.f_Nonce)] : Array Value).size = 1) (show 28 = 1 + 27 from rfl), set_right (rfl : (#[(Value.bool x.f_OK)] : Array Value).size = 1) (show 27 = 1 + 26 from rfl), set_right (rfl : (#[(Value.int .u64 x.f_Used)] : Array Value).size = 1) (show 26 = 1 + 25 from rfl), set_right (size_enc .u64 x.f_Price) (show 25 = 4 + 21 from rfl), set_right (size_enc .u8 x.f_Made) (show 21 = 20 + 1 from rfl), set_right (rfl : (#[(Value.slice x.f_Logs.a x.f_Logs.n x.f_Logs.c)] : Array Value).size = 1) (show 1 = 1 + 0 from rfl)]; try rfl
@[go_sem] theorem put_Answer (x : ApiReceipt) (va : Option Addr) (vn vc : Nat) : splice x.cells 48 #[(Value.slice va vn vc)] = ({ x with f_Answer := ⟨va, vn, vc⟩ } : ApiReceipt).cells := by
  unfold cells; rw [splice_right (size_enc .u8 x.f_From) (show 48 = 20 + 28 from rfl), splice_right (rfl : (#[(Value.int .u64 x.f_Nonce)] : Array Value).size = 1) (show 28 = 1 + 27 from rfl), splice_right (rfl : (#[(Value.bool x.f_OK)] : Array Value).size = 1) (show 27 = 1 + 26 from rfl), splice_right (rfl : (#[(Value.int .u64 x.f_Used)] : Array Value).size = 1) (show 26 = 1 + 25 from rfl), splice_right (size_enc .u64 x.f_Price) (show 25 = 4 + 21 from rfl), splice_right (size_enc .u8 x.f_Made) (show 21 = 20 + 1 from rfl), splice_right (rfl : (#[(Value.slice x.f_Logs.a x.f_Logs.n x.f_Logs.c)] : Array Value).size = 1) (show 1 = 1 + 0 from rfl)]; try rfl
attribute [irreducible] cells
end ApiReceipt

structure ApiAccount where
  f_Address : Ints 20
  f_Nonce : Int
  f_Balance : Ints 4
  f_Code : Sl
  f_Storage : Sl
namespace ApiAccount
def cells (x : ApiAccount) : Array Value := enc .u8 x.f_Address ++ (#[(Value.int .u64 x.f_Nonce)] ++ (enc .u64 x.f_Balance ++ (#[(Value.slice x.f_Code.a x.f_Code.n x.f_Code.c)] ++ (#[(Value.slice x.f_Storage.a x.f_Storage.n x.f_Storage.c)]))))
def zero : ApiAccount := ⟨(Ints.zero 20), 0, (Ints.zero 4), Sl.nil, Sl.nil⟩
@[go_sem, simp] theorem size_cells (x : ApiAccount) : x.cells.size = 27 := by
  unfold cells; simp only [Array.size_append, List.size_toArray, List.length_cons, List.length_nil, size_enc]
@[go_sem] theorem allOne (x : ApiAccount) : AllOne x.cells := by
  unfold cells; exact (allOne_append (allOne_enc .u8 x.f_Address) (allOne_append (allOne_single rfl) (allOne_append (allOne_enc .u64 x.f_Balance) (allOne_append (allOne_single rfl) (allOne_single rfl)))))
@[go_sem, simp] theorem cells_all (x : ApiAccount) : x.cells.extract 0 27 = x.cells := by
  have := size_cells x; conv => lhs; rw [← this]
  simp
@[go_sem] theorem ext_Address (x : ApiAccount) : x.cells.extract 0 20 = enc .u8 x.f_Address := by
  unfold cells; rw [ext_left (size_enc .u8 x.f_Address) (show 20 ≤ 20 by decide)]; try exact enc_all .u8 x.f_Address
@[go_sem] theorem put_Address (x : ApiAccount) (v : Ints 20) : splice x.cells 0 (enc .u8 v) = ({ x with f_Address := v } : ApiAccount).cells := by
  unfold cells; rw [splice_left (size_enc .u8 x.f_Address) (show 0 + (enc .u8 v).size ≤ 20 by rw [(size_enc .u8 v)]; decide), splice_all _ _ ((size_enc .u8 x.f_Address).trans (size_enc .u8 v).symm)]; try rfl
@[go_sem] theorem get_Nonce (x : ApiAccount) : x.cells[20]? = some (Value.int .u64 x.f_Nonce) := by
  unfold cells; rw [get_right (size_enc .u8 x.f_Address) (show 20 = 20 + 0 from rfl), get_left (rfl : (#[(Value.int .u64 x.f_Nonce)] : Array Value).size = 1) (show 0 < 1 by decide)]; try rfl
@[go_sem] theorem got_Nonce (x : ApiAccount) (h : 20 < x.cells.size) : x.cells[20] = (Value.int .u64 x.f_Nonce) := got (get_Nonce x) h
@[go_sem] theorem set_Nonce (x : ApiAccount) (v : Int) : x.cells.setIfInBounds 20 (Value.int .u64 v) = ({ x with f_Nonce := v } : ApiAccount).cells := by
  unfold cells; rw [set_right (size_enc .u8 x.f_Address) (show 20 = 20 + 0 from rfl), set_left (rfl : (#[(Value.int .u64 x.f_Nonce)] : Array Value).size = 1) (show 0 < 1 by decide)]; try rfl
@[go_sem] theorem put_Nonce (x : ApiAccount) (v : Int) : splice x.cells 20 #[(Value.int .u64 v)] = ({ x with f_Nonce := v } : ApiAccount).cells := by
  unfold cells; rw [splice_right (size_enc .u8 x.f_Address) (show 20 = 20 + 0 from rfl), splice_left (rfl : (#[(Value.int .u64 x.f_Nonce)] : Array Value).size = 1) (show 0 + (#[(Value.int .u64 v)] : Array Value).size ≤ 1 from Nat.le_of_ble_eq_true rfl)]; try rfl
@[go_sem] theorem ext_Balance (x : ApiAccount) : x.cells.extract 21 25 = enc .u64 x.f_Balance := by
  unfold cells; rw [ext_right (size_enc .u8 x.f_Address) (show 21 = 20 + 1 from rfl) (show 25 = 20 + 5 from rfl), ext_right (rfl : (#[(Value.int .u64 x.f_Nonce)] : Array Value).size = 1) (show 1 = 1 + 0 from rfl) (show 5 = 1 + 4 from rfl), ext_left (size_enc .u64 x.f_Balance) (show 4 ≤ 4 by decide)]; try exact enc_all .u64 x.f_Balance
@[go_sem] theorem put_Balance (x : ApiAccount) (v : Ints 4) : splice x.cells 21 (enc .u64 v) = ({ x with f_Balance := v } : ApiAccount).cells := by
  unfold cells; rw [splice_right (size_enc .u8 x.f_Address) (show 21 = 20 + 1 from rfl), splice_right (rfl : (#[(Value.int .u64 x.f_Nonce)] : Array Value).size = 1) (show 1 = 1 + 0 from rfl), splice_left (size_enc .u64 x.f_Balance) (show 0 + (enc .u64 v).size ≤ 4 by rw [(size_enc .u64 v)]; decide), splice_all _ _ ((size_enc .u64 x.f_Balance).trans (size_enc .u64 v).symm)]; try rfl
@[go_sem] theorem get_Code (x : ApiAccount) : x.cells[25]? = some (Value.slice x.f_Code.a x.f_Code.n x.f_Code.c) := by
  unfold cells; rw [get_right (size_enc .u8 x.f_Address) (show 25 = 20 + 5 from rfl), get_right (rfl : (#[(Value.int .u64 x.f_Nonce)] : Array Value).size = 1) (show 5 = 1 + 4 from rfl), get_right (size_enc .u64 x.f_Balance) (show 4 = 4 + 0 from rfl), get_left (rfl : (#[(Value.slice x.f_Code.a x.f_Code.n x.f_Code.c)] : Array Value).size = 1) (show 0 < 1 by decide)]; try rfl
@[go_sem] theorem got_Code (x : ApiAccount) (h : 25 < x.cells.size) : x.cells[25] = (Value.slice x.f_Code.a x.f_Code.n x.f_Code.c) := got (get_Code x) h
@[go_sem] theorem set_Code (x : ApiAccount) (va : Option Addr) (vn vc : Nat) : x.cells.setIfInBounds 25 (Value.slice va vn vc) = ({ x with f_Code := ⟨va, vn, vc⟩ } : ApiAccount).cells := by
  unfold cells; rw [set_right (size_enc .u8 x.f_Address) (show 25 = 20 + 5 from rfl), set_right (rfl : (#[(Value.int .u64 x.f_Nonce)] : Array Value).size = 1) (show 5 = 1 + 4 from rfl), set_right (size_enc .u64 x.f_Balance) (show 4 = 4 + 0 from rfl), set_left (rfl : (#[(Value.slice x.f_Code.a x.f_Code.n x.f_Code.c)] : Array Value).size = 1) (show 0 < 1 by decide)]; try rfl
@[go_sem] theorem put_Code (x : ApiAccount) (va : Option Addr) (vn vc : Nat) : splice x.cells 25 #[(Value.slice va vn vc)] = ({ x with f_Code := ⟨va, vn, vc⟩ } : ApiAccount).cells := by
  unfold cells; rw [splice_right (size_enc .u8 x.f_Address) (show 25 = 20 + 5 from rfl), splice_right (rfl : (#[(Value.int .u64 x.f_Nonce)] : Array Value).size = 1) (show 5 = 1 + 4 from rfl), splice_right (size_enc .u64 x.f_Balance) (show 4 = 4 + 0 from rfl), splice_left (rfl : (#[(Value.slice x.f_Code.a x.f_Code.n x.f_Code.c)] : Array Value).size = 1) (show 0 + (#[(Value.slice va vn vc)] : Array Value).size ≤ 1 from Nat.le_of_ble_eq_true rfl)]; try rfl
@[go_sem] theorem get_Storage (x : ApiAccount) : x.cells[26]? = some (Value.slice x.f_Storage.a x.f_Storage.n x.f_Storage.c) := by
  unfold cells; rw [get_right (size_enc .u8 x.f_Address) (show 26 = 20 + 6 from rfl), get_right (rfl : (#[(Value.int .u64 x.f_Nonce)] : Array Value).size = 1) (show 6 = 1 + 5 from rfl), get_right (size_enc .u64 x.f_Balance) (show 5 = 4 + 1 from rfl), get_right (rfl : (#[(Value.slice x.f_Code.a x.f_Code.n x.f_Code.c)] : Array Value).size = 1) (show 1 = 1 + 0 from rfl)]; try rfl
@[go_sem] theorem got_Storage (x : ApiAccount) (h : 26 < x.cells.size) : x.cells[26] = (Value.slice x.f_Storage.a x.f_Storage.n x.f_Storage.c) := got (get_Storage x) h
@[go_sem] theorem set_Storage (x : ApiAccount) (va : Option Addr) (vn vc : Nat) : x.cells.setIfInBounds 26 (Value.slice va vn vc) = ({ x with f_Storage := ⟨va, vn, vc⟩ } : ApiAccount).cells := by
  unfold cells; rw [set_right (size_enc .u8 x.f_Address) (show 26 = 20 + 6 from rfl), set_right (rfl : (#[(Value.int .u64 x.f_Nonce)] : Array Value).size = 1) (show 6 = 1 + 5 from rfl), set_right (size_enc .u64 x.f_Balance) (show 5 = 4 + 1 from rfl), set_right (rfl : (#[(Value.slice x.f_Code.a x.f_Code.n x.f_Code.c)] : Array Value).size = 1) (show 1 = 1 + 0 from rfl)]; try rfl
@[go_sem] theorem put_Storage (x : ApiAccount) (va : Option Addr) (vn vc : Nat) : splice x.cells 26 #[(Value.slice va vn vc)] = ({ x with f_Storage := ⟨va, vn, vc⟩ } : ApiAccount).cells := by
  unfold cells; rw [splice_right (size_enc .u8 x.f_Address) (show 26 = 20 + 6 from rfl), splice_right (rfl : (#[(Value.int .u64 x.f_Nonce)] : Array Value).size = 1) (show 6 = 1 + 5 from rfl), splice_right (size_enc .u64 x.f_Balance) (show 5 = 4 + 1 from rfl), splice_right (rfl : (#[(Value.slice x.f_Code.a x.f_Code.n x.f_Code.c)] : Array Value).size = 1) (show 1 = 1 + 0 from rfl)]; try rfl
attribute [irreducible] cells
end ApiAccount

section
variable (ρ : Operand → Value) (dst : Option Tmp) (x y : Operand) (parts : Array (Nat × Operand)) (yt tt : TypeId) (pos : String) (after : Array Edge) (guard : Option (Nat × Bool)) (w : World) (b off : Nat) (A : Array Value)
theorem agg37 : AggTy Tryz.prog 37 33 := ⟨⟨_, Tryz.underlying37, rfl⟩, by kernel_rfl⟩
@[go_sem ↓] theorem execOp_load37 :
    execOp ρ { dst, op := .load 37 x, type := tt, pos, after, guard } = loadAgg 37 (ρ x) := rfl
@[go_sem] theorem run_load37 (h : off + 33 ≤ (w.cellsAt b).size) : (loadAgg 37 (.pointer (some ⟨b, off, none⟩))).run Tryz.prog w = .ok (.value (.agg ((w.cellsAt b).extract off (off + 33)))) w := run_loadAgg agg37 w b off h
@[go_sem ↓] theorem execOp_store37 :
    execOp ρ { dst, op := .store 37 x y, type := tt, pos, after, guard } = storeAgg 37 (ρ x) (ρ y) := rfl
@[go_sem] theorem run_store37 (hA : A.size = 33) (h : off + 33 ≤ (w.cellsAt b).size) (hp : w.plain b) (h1 : AllOne A) : (storeAgg 37 (.pointer (some ⟨b, off, none⟩)) (.agg A)).run Tryz.prog w = .ok .skip (w.putCells b off A) := run_storeAgg agg37 w b off A hA h hp h1
@[go_sem ↓] theorem execOp_alloc37 :
    execOp ρ { dst, op := .alloc 37, type := tt, pos, after, guard } = allocAgg 37 := rfl
@[go_sem] theorem run_alloc37 : (allocAgg 37).run Tryz.prog w = .ok (.value (.pointer (some ⟨w.heap.size, 0, none⟩))) (w.alloc (.cells (ApiBlock.zero.cells) 37)) := run_allocAgg (A := ApiBlock.zero.cells) (by kernel_rfl) w
@[go_sem ↓] theorem execOp_build37 :
    execOp ρ { dst, op := .build 37 parts, type := tt, pos, after, guard } = buildAgg 37 (parts.map fun p => (p.1, ρ p.2)) := rfl
def places37 : List (Nat × Nat) := [(0, 1), (1, 1), (2, 1), (3, 20), (23, 4), (27, 4), (31, 1), (32, 1)]
@[go_sem] theorem run_build37 (vs : Array (Nat × Value)) : (buildAgg 37 vs).run Tryz.prog w = bif okB places37 vs.toList then .ok (.value (.agg (fillAt places37 ApiBlock.zero.cells vs.toList))) w else buildUnsaid Tryz.prog 37 vs w :=
  run_buildAgg (ty := 37) (Z := ApiBlock.zero.cells) (by kernel_rfl) (fs := Program.fieldsOf Tryz.prog 37) (by kernel_rfl) (pl := places37) (fun _ => by kernel_rfl) ApiBlock.zero.size_cells (by decide) w vs
attribute [go_sem] places37
theorem agg41 : AggTy Tryz.prog 41 57 := ⟨⟨_, Tryz.underlying41, rfl⟩, by kernel_rfl⟩
@[go_sem ↓] theorem execOp_load41 :
    execOp ρ { dst, op := .load 41 x, type := tt, pos, after, guard } = loadAgg 41 (ρ x) := rfl
@[go_sem] theorem run_load41 (h : off + 57 ≤ (w.cellsAt b).size) : (loadAgg 41 (.pointer (some ⟨b, off, none⟩))).run Tryz.prog w = .ok (.value (.agg ((w.cellsAt b).extract off (off + 57)))) w := run_loadAgg agg41 w b off h
@[go_sem ↓] theorem execOp_store41 :
    execOp ρ { dst, op := .store 41 x y, type := tt, pos, after, guard } = storeAgg 41 (ρ x) (ρ y) := rfl
@[go_sem] theorem run_store41 (hA : A.size = 57) (h : off + 57 ≤ (w.cellsAt b).size) (hp : w.plain b) (h1 : AllOne A) : (storeAgg 41 (.pointer (some ⟨b, off, none⟩)) (.agg A)).run Tryz.prog w = .ok .skip (w.putCells b off A) := run_storeAgg agg41 w b off A hA h hp h1
@[go_sem ↓] theorem execOp_alloc41 :
    execOp ρ { dst, op := .alloc 41, type := tt, pos, after, guard } = allocAgg 41 := rfl
@[go_sem] theorem run_alloc41 : (allocAgg 41).run Tryz.prog w = .ok (.value (.pointer (some ⟨w.heap.size, 0, none⟩))) (w.alloc (.cells (ApiTx.zero.cells) 41)) := run_allocAgg (A := ApiTx.zero.cells) (by kernel_rfl) w
@[go_sem ↓] theorem execOp_build41 :
    execOp ρ { dst, op := .build 41 parts, type := tt, pos, after, guard } = buildAgg 41 (parts.map fun p => (p.1, ρ p.2)) := rfl
def places41 : List (Nat × Nat) := [(0, 20), (20, 20), (40, 1), (41, 1), (42, 4), (46, 1), (47, 1), (48, 4), (52, 4), (56, 1)]
@[go_sem] theorem run_build41 (vs : Array (Nat × Value)) : (buildAgg 41 vs).run Tryz.prog w = bif okB places41 vs.toList then .ok (.value (.agg (fillAt places41 ApiTx.zero.cells vs.toList))) w else buildUnsaid Tryz.prog 41 vs w :=
  run_buildAgg (ty := 41) (Z := ApiTx.zero.cells) (by kernel_rfl) (fs := Program.fieldsOf Tryz.prog 41) (by kernel_rfl) (pl := places41) (fun _ => by kernel_rfl) ApiTx.zero.size_cells (by decide) w vs
attribute [go_sem] places41
theorem agg50 : AggTy Tryz.prog 50 49 := ⟨⟨_, Tryz.underlying50, rfl⟩, by kernel_rfl⟩
@[go_sem ↓] theorem execOp_load50 :
    execOp ρ { dst, op := .load 50 x, type := tt, pos, after, guard } = loadAgg 50 (ρ x) := rfl
@[go_sem] theorem run_load50 (h : off + 49 ≤ (w.cellsAt b).size) : (loadAgg 50 (.pointer (some ⟨b, off, none⟩))).run Tryz.prog w = .ok (.value (.agg ((w.cellsAt b).extract off (off + 49)))) w := run_loadAgg agg50 w b off h
@[go_sem ↓] theorem execOp_store50 :
    execOp ρ { dst, op := .store 50 x y, type := tt, pos, after, guard } = storeAgg 50 (ρ x) (ρ y) := rfl
@[go_sem] theorem run_store50 (hA : A.size = 49) (h : off + 49 ≤ (w.cellsAt b).size) (hp : w.plain b) (h1 : AllOne A) : (storeAgg 50 (.pointer (some ⟨b, off, none⟩)) (.agg A)).run Tryz.prog w = .ok .skip (w.putCells b off A) := run_storeAgg agg50 w b off A hA h hp h1
@[go_sem ↓] theorem execOp_alloc50 :
    execOp ρ { dst, op := .alloc 50, type := tt, pos, after, guard } = allocAgg 50 := rfl
@[go_sem] theorem run_alloc50 : (allocAgg 50).run Tryz.prog w = .ok (.value (.pointer (some ⟨w.heap.size, 0, none⟩))) (w.alloc (.cells (ApiReceipt.zero.cells) 50)) := run_allocAgg (A := ApiReceipt.zero.cells) (by kernel_rfl) w
@[go_sem ↓] theorem execOp_build50 :
    execOp ρ { dst, op := .build 50 parts, type := tt, pos, after, guard } = buildAgg 50 (parts.map fun p => (p.1, ρ p.2)) := rfl
def places50 : List (Nat × Nat) := [(0, 20), (20, 1), (21, 1), (22, 1), (23, 4), (27, 20), (47, 1), (48, 1)]
@[go_sem] theorem run_build50 (vs : Array (Nat × Value)) : (buildAgg 50 vs).run Tryz.prog w = bif okB places50 vs.toList then .ok (.value (.agg (fillAt places50 ApiReceipt.zero.cells vs.toList))) w else buildUnsaid Tryz.prog 50 vs w :=
  run_buildAgg (ty := 50) (Z := ApiReceipt.zero.cells) (by kernel_rfl) (fs := Program.fieldsOf Tryz.prog 50) (by kernel_rfl) (pl := places50) (fun _ => by kernel_rfl) ApiReceipt.zero.size_cells (by decide) w vs
attribute [go_sem] places50
theorem agg78 : AggTy Tryz.prog 78 27 := ⟨⟨_, Tryz.underlying78, rfl⟩, by kernel_rfl⟩
@[go_sem ↓] theorem execOp_load78 :
    execOp ρ { dst, op := .load 78 x, type := tt, pos, after, guard } = loadAgg 78 (ρ x) := rfl
@[go_sem] theorem run_load78 (h : off + 27 ≤ (w.cellsAt b).size) : (loadAgg 78 (.pointer (some ⟨b, off, none⟩))).run Tryz.prog w = .ok (.value (.agg ((w.cellsAt b).extract off (off + 27)))) w := run_loadAgg agg78 w b off h
@[go_sem ↓] theorem execOp_store78 :
    execOp ρ { dst, op := .store 78 x y, type := tt, pos, after, guard } = storeAgg 78 (ρ x) (ρ y) := rfl
@[go_sem] theorem run_store78 (hA : A.size = 27) (h : off + 27 ≤ (w.cellsAt b).size) (hp : w.plain b) (h1 : AllOne A) : (storeAgg 78 (.pointer (some ⟨b, off, none⟩)) (.agg A)).run Tryz.prog w = .ok .skip (w.putCells b off A) := run_storeAgg agg78 w b off A hA h hp h1
@[go_sem ↓] theorem execOp_alloc78 :
    execOp ρ { dst, op := .alloc 78, type := tt, pos, after, guard } = allocAgg 78 := rfl
@[go_sem] theorem run_alloc78 : (allocAgg 78).run Tryz.prog w = .ok (.value (.pointer (some ⟨w.heap.size, 0, none⟩))) (w.alloc (.cells (ApiAccount.zero.cells) 78)) := run_allocAgg (A := ApiAccount.zero.cells) (by kernel_rfl) w
@[go_sem ↓] theorem execOp_build78 :
    execOp ρ { dst, op := .build 78 parts, type := tt, pos, after, guard } = buildAgg 78 (parts.map fun p => (p.1, ρ p.2)) := rfl
def places78 : List (Nat × Nat) := [(0, 20), (20, 1), (21, 4), (25, 1), (26, 1)]
@[go_sem] theorem run_build78 (vs : Array (Nat × Value)) : (buildAgg 78 vs).run Tryz.prog w = bif okB places78 vs.toList then .ok (.value (.agg (fillAt places78 ApiAccount.zero.cells vs.toList))) w else buildUnsaid Tryz.prog 78 vs w :=
  run_buildAgg (ty := 78) (Z := ApiAccount.zero.cells) (by kernel_rfl) (fs := Program.fieldsOf Tryz.prog 78) (by kernel_rfl) (pl := places78) (fun _ => by kernel_rfl) ApiAccount.zero.size_cells (by decide) w vs
attribute [go_sem] places78
theorem agg22 : AggTy Tryz.prog 22 20 := ⟨⟨_, Tryz.underlying22, rfl⟩, by kernel_rfl⟩
@[go_sem ↓] theorem execOp_load22 :
    execOp ρ { dst, op := .load 22 x, type := tt, pos, after, guard } = loadAgg 22 (ρ x) := rfl
@[go_sem] theorem run_load22 (h : off + 20 ≤ (w.cellsAt b).size) : (loadAgg 22 (.pointer (some ⟨b, off, none⟩))).run Tryz.prog w = .ok (.value (.agg ((w.cellsAt b).extract off (off + 20)))) w := run_loadAgg agg22 w b off h
@[go_sem ↓] theorem execOp_store22 :
    execOp ρ { dst, op := .store 22 x y, type := tt, pos, after, guard } = storeAgg 22 (ρ x) (ρ y) := rfl
@[go_sem] theorem run_store22 (hA : A.size = 20) (h : off + 20 ≤ (w.cellsAt b).size) (hp : w.plain b) (h1 : AllOne A) : (storeAgg 22 (.pointer (some ⟨b, off, none⟩)) (.agg A)).run Tryz.prog w = .ok .skip (w.putCells b off A) := run_storeAgg agg22 w b off A hA h hp h1
@[go_sem ↓] theorem execOp_alloc22 :
    execOp ρ { dst, op := .alloc 22, type := tt, pos, after, guard } = allocAgg 22 := rfl
@[go_sem] theorem run_alloc22 : (allocAgg 22).run Tryz.prog w = .ok (.value (.pointer (some ⟨w.heap.size, 0, none⟩))) (w.alloc (.cells (enc .u8 (Ints.zero 20)) 22)) := run_allocAgg (A := enc .u8 (Ints.zero 20)) (by kernel_rfl) w
@[go_sem ↓] theorem execOp_eql22 :
    execOp ρ { dst, op := .binOp .eql 22 x y yt, type := tt, pos, after, guard } = eqlAgg 22 x y (ρ x) (ρ y) := rfl
@[go_sem ↓] theorem execOp_neq22 :
    execOp ρ { dst, op := .binOp .neq 22 x y yt, type := tt, pos, after, guard } = neqAgg 22 x y (ρ x) (ρ y) := rfl
@[go_sem] theorem arrayLen22 : Tryz.prog.arrayLen 22 = 20 := by kernel_rfl
@[go_sem] theorem elem22 : Tryz.prog.elem 22 = 5 := by kernel_rfl
theorem ints22 : IntsTy Tryz.prog 22 20 .u8 := ⟨⟨5, Tryz.underlying22, Tryz.underlying5, by kernel_rfl, by kernel_rfl⟩⟩
@[go_sem] theorem run_eql22 (u v : Ints 20) : (eqlAgg 22 x y (.agg (enc .u8 u)) (.agg (enc .u8 v))).run Tryz.prog w = .ok (.value (.bool (decide (u = v)))) w := run_eqlAgg ints22 (by kernel_rfl) w x y u v
@[go_sem] theorem run_neq22 (u v : Ints 20) : (neqAgg 22 x y (.agg (enc .u8 u)) (.agg (enc .u8 v))).run Tryz.prog w = .ok (.value (.bool (!decide (u = v)))) w := run_neqAgg ints22 (by kernel_rfl) w x y u v
@[go_sem ↓] theorem execOp_build22 :
    execOp ρ { dst, op := .build 22 parts, type := tt, pos, after, guard } = buildAgg 22 (parts.map fun p => (p.1, ρ p.2)) := rfl
@[go_sem] theorem run_build22 (vs : Array (Nat × Value)) : (buildAgg 22 vs).run Tryz.prog w = bif okI .u8 20 vs.toList then .ok (.value (.agg (enc .u8 (updI (Ints.zero 20) vs.toList)))) w else buildUnsaid Tryz.prog 22 vs w := run_buildInts ints22 (by kernel_rfl) w vs
theorem agg23 : AggTy Tryz.prog 23 20 := ⟨⟨_, Tryz.underlying23, rfl⟩, by kernel_rfl⟩
@[go_sem ↓] theorem execOp_load23 :
    execOp ρ { dst, op := .load 23 x, type := tt, pos, after, guard } = loadAgg 23 (ρ x) := rfl
@[go_sem] theorem run_load23 (h : off + 20 ≤ (w.cellsAt b).size) : (loadAgg 23 (.pointer (some ⟨b, off, none⟩))).run Tryz.prog w = .ok (.value (.agg ((w.cellsAt b).extract off (off + 20)))) w := run_loadAgg agg23 w b off h
@[go_sem ↓] theorem execOp_store23 :
    execOp ρ { dst, op := .store 23 x y, type := tt, pos, after, guard } = storeAgg 23 (ρ x) (ρ y) := rfl
@[go_sem] theorem run_store23 (hA : A.size = 20) (h : off + 20 ≤ (w.cellsAt b).size) (hp : w.plain b) (h1 : AllOne A) : (storeAgg 23 (.pointer (some ⟨b, off, none⟩)) (.agg A)).run Tryz.prog w = .ok .skip (w.putCells b off A) := run_storeAgg agg23 w b off A hA h hp h1
@[go_sem ↓] theorem execOp_alloc23 :
    execOp ρ { dst, op := .alloc 23, type := tt, pos, after, guard } = allocAgg 23 := rfl
@[go_sem] theorem run_alloc23 : (allocAgg 23).run Tryz.prog w = .ok (.value (.pointer (some ⟨w.heap.size, 0, none⟩))) (w.alloc (.cells (enc .u8 (Ints.zero 20)) 23)) := run_allocAgg (A := enc .u8 (Ints.zero 20)) (by kernel_rfl) w
@[go_sem ↓] theorem execOp_eql23 :
    execOp ρ { dst, op := .binOp .eql 23 x y yt, type := tt, pos, after, guard } = eqlAgg 23 x y (ρ x) (ρ y) := rfl
@[go_sem ↓] theorem execOp_neq23 :
    execOp ρ { dst, op := .binOp .neq 23 x y yt, type := tt, pos, after, guard } = neqAgg 23 x y (ρ x) (ρ y) := rfl
@[go_sem] theorem arrayLen23 : Tryz.prog.arrayLen 23 = 20 := by kernel_rfl
@[go_sem] theorem elem23 : Tryz.prog.elem 23 = 5 := by kernel_rfl
theorem ints23 : IntsTy Tryz.prog 23 20 .u8 := ⟨⟨5, Tryz.underlying23, Tryz.underlying5, by kernel_rfl, by kernel_rfl⟩⟩
@[go_sem] theorem run_eql23 (u v : Ints 20) : (eqlAgg 23 x y (.agg (enc .u8 u)) (.agg (enc .u8 v))).run Tryz.prog w = .ok (.value (.bool (decide (u = v)))) w := run_eqlAgg ints23 (by kernel_rfl) w x y u v
@[go_sem] theorem run_neq23 (u v : Ints 20) : (neqAgg 23 x y (.agg (enc .u8 u)) (.agg (enc .u8 v))).run Tryz.prog w = .ok (.value (.bool (!decide (u = v)))) w := run_neqAgg ints23 (by kernel_rfl) w x y u v
@[go_sem ↓] theorem execOp_build23 :
    execOp ρ { dst, op := .build 23 parts, type := tt, pos, after, guard } = buildAgg 23 (parts.map fun p => (p.1, ρ p.2)) := rfl
@[go_sem] theorem run_build23 (vs : Array (Nat × Value)) : (buildAgg 23 vs).run Tryz.prog w = bif okI .u8 20 vs.toList then .ok (.value (.agg (enc .u8 (updI (Ints.zero 20) vs.toList)))) w else buildUnsaid Tryz.prog 23 vs w := run_buildInts ints23 (by kernel_rfl) w vs
theorem agg25 : AggTy Tryz.prog 25 4 := ⟨⟨_, Tryz.underlying25, rfl⟩, by kernel_rfl⟩
@[go_sem ↓] theorem execOp_load25 :
    execOp ρ { dst, op := .load 25 x, type := tt, pos, after, guard } = loadAgg 25 (ρ x) := rfl
@[go_sem] theorem run_load25 (h : off + 4 ≤ (w.cellsAt b).size) : (loadAgg 25 (.pointer (some ⟨b, off, none⟩))).run Tryz.prog w = .ok (.value (.agg ((w.cellsAt b).extract off (off + 4)))) w := run_loadAgg agg25 w b off h
@[go_sem ↓] theorem execOp_store25 :
    execOp ρ { dst, op := .store 25 x y, type := tt, pos, after, guard } = storeAgg 25 (ρ x) (ρ y) := rfl
@[go_sem] theorem run_store25 (hA : A.size = 4) (h : off + 4 ≤ (w.cellsAt b).size) (hp : w.plain b) (h1 : AllOne A) : (storeAgg 25 (.pointer (some ⟨b, off, none⟩)) (.agg A)).run Tryz.prog w = .ok .skip (w.putCells b off A) := run_storeAgg agg25 w b off A hA h hp h1
@[go_sem ↓] theorem execOp_alloc25 :
    execOp ρ { dst, op := .alloc 25, type := tt, pos, after, guard } = allocAgg 25 := rfl
@[go_sem] theorem run_alloc25 : (allocAgg 25).run Tryz.prog w = .ok (.value (.pointer (some ⟨w.heap.size, 0, none⟩))) (w.alloc (.cells (enc .u64 (Ints.zero 4)) 25)) := run_allocAgg (A := enc .u64 (Ints.zero 4)) (by kernel_rfl) w
@[go_sem ↓] theorem execOp_eql25 :
    execOp ρ { dst, op := .binOp .eql 25 x y yt, type := tt, pos, after, guard } = eqlAgg 25 x y (ρ x) (ρ y) := rfl
@[go_sem ↓] theorem execOp_neq25 :
    execOp ρ { dst, op := .binOp .neq 25 x y yt, type := tt, pos, after, guard } = neqAgg 25 x y (ρ x) (ρ y) := rfl
@[go_sem] theorem arrayLen25 : Tryz.prog.arrayLen 25 = 4 := by kernel_rfl
@[go_sem] theorem elem25 : Tryz.prog.elem 25 = 24 := by kernel_rfl
theorem ints25 : IntsTy Tryz.prog 25 4 .u64 := ⟨⟨24, Tryz.underlying25, Tryz.underlying24, by kernel_rfl, by kernel_rfl⟩⟩
@[go_sem] theorem run_eql25 (u v : Ints 4) : (eqlAgg 25 x y (.agg (enc .u64 u)) (.agg (enc .u64 v))).run Tryz.prog w = .ok (.value (.bool (decide (u = v)))) w := run_eqlAgg ints25 (by kernel_rfl) w x y u v
@[go_sem] theorem run_neq25 (u v : Ints 4) : (neqAgg 25 x y (.agg (enc .u64 u)) (.agg (enc .u64 v))).run Tryz.prog w = .ok (.value (.bool (!decide (u = v)))) w := run_neqAgg ints25 (by kernel_rfl) w x y u v
@[go_sem ↓] theorem execOp_build25 :
    execOp ρ { dst, op := .build 25 parts, type := tt, pos, after, guard } = buildAgg 25 (parts.map fun p => (p.1, ρ p.2)) := rfl
@[go_sem] theorem run_build25 (vs : Array (Nat × Value)) : (buildAgg 25 vs).run Tryz.prog w = bif okI .u64 4 vs.toList then .ok (.value (.agg (enc .u64 (updI (Ints.zero 4) vs.toList)))) w else buildUnsaid Tryz.prog 25 vs w := run_buildInts ints25 (by kernel_rfl) w vs
theorem agg26 : AggTy Tryz.prog 26 4 := ⟨⟨_, Tryz.underlying26, rfl⟩, by kernel_rfl⟩
@[go_sem ↓] theorem execOp_load26 :
    execOp ρ { dst, op := .load 26 x, type := tt, pos, after, guard } = loadAgg 26 (ρ x) := rfl
@[go_sem] theorem run_load26 (h : off + 4 ≤ (w.cellsAt b).size) : (loadAgg 26 (.pointer (some ⟨b, off, none⟩))).run Tryz.prog w = .ok (.value (.agg ((w.cellsAt b).extract off (off + 4)))) w := run_loadAgg agg26 w b off h
@[go_sem ↓] theorem execOp_store26 :
    execOp ρ { dst, op := .store 26 x y, type := tt, pos, after, guard } = storeAgg 26 (ρ x) (ρ y) := rfl
@[go_sem] theorem run_store26 (hA : A.size = 4) (h : off + 4 ≤ (w.cellsAt b).size) (hp : w.plain b) (h1 : AllOne A) : (storeAgg 26 (.pointer (some ⟨b, off, none⟩)) (.agg A)).run Tryz.prog w = .ok .skip (w.putCells b off A) := run_storeAgg agg26 w b off A hA h hp h1
@[go_sem ↓] theorem execOp_alloc26 :
    execOp ρ { dst, op := .alloc 26, type := tt, pos, after, guard } = allocAgg 26 := rfl
@[go_sem] theorem run_alloc26 : (allocAgg 26).run Tryz.prog w = .ok (.value (.pointer (some ⟨w.heap.size, 0, none⟩))) (w.alloc (.cells (enc .u64 (Ints.zero 4)) 26)) := run_allocAgg (A := enc .u64 (Ints.zero 4)) (by kernel_rfl) w
@[go_sem ↓] theorem execOp_eql26 :
    execOp ρ { dst, op := .binOp .eql 26 x y yt, type := tt, pos, after, guard } = eqlAgg 26 x y (ρ x) (ρ y) := rfl
@[go_sem ↓] theorem execOp_neq26 :
    execOp ρ { dst, op := .binOp .neq 26 x y yt, type := tt, pos, after, guard } = neqAgg 26 x y (ρ x) (ρ y) := rfl
@[go_sem] theorem arrayLen26 : Tryz.prog.arrayLen 26 = 4 := by kernel_rfl
@[go_sem] theorem elem26 : Tryz.prog.elem 26 = 24 := by kernel_rfl
theorem ints26 : IntsTy Tryz.prog 26 4 .u64 := ⟨⟨24, Tryz.underlying26, Tryz.underlying24, by kernel_rfl, by kernel_rfl⟩⟩
@[go_sem] theorem run_eql26 (u v : Ints 4) : (eqlAgg 26 x y (.agg (enc .u64 u)) (.agg (enc .u64 v))).run Tryz.prog w = .ok (.value (.bool (decide (u = v)))) w := run_eqlAgg ints26 (by kernel_rfl) w x y u v
@[go_sem] theorem run_neq26 (u v : Ints 4) : (neqAgg 26 x y (.agg (enc .u64 u)) (.agg (enc .u64 v))).run Tryz.prog w = .ok (.value (.bool (!decide (u = v)))) w := run_neqAgg ints26 (by kernel_rfl) w x y u v
@[go_sem ↓] theorem execOp_build26 :
    execOp ρ { dst, op := .build 26 parts, type := tt, pos, after, guard } = buildAgg 26 (parts.map fun p => (p.1, ρ p.2)) := rfl
@[go_sem] theorem run_build26 (vs : Array (Nat × Value)) : (buildAgg 26 vs).run Tryz.prog w = bif okI .u64 4 vs.toList then .ok (.value (.agg (enc .u64 (updI (Ints.zero 4) vs.toList)))) w else buildUnsaid Tryz.prog 26 vs w := run_buildInts ints26 (by kernel_rfl) w vs
theorem agg53 : AggTy Tryz.prog 53 32 := ⟨⟨_, Tryz.underlying53, rfl⟩, by kernel_rfl⟩
@[go_sem ↓] theorem execOp_load53 :
    execOp ρ { dst, op := .load 53 x, type := tt, pos, after, guard } = loadAgg 53 (ρ x) := rfl
@[go_sem] theorem run_load53 (h : off + 32 ≤ (w.cellsAt b).size) : (loadAgg 53 (.pointer (some ⟨b, off, none⟩))).run Tryz.prog w = .ok (.value (.agg ((w.cellsAt b).extract off (off + 32)))) w := run_loadAgg agg53 w b off h
@[go_sem ↓] theorem execOp_store53 :
    execOp ρ { dst, op := .store 53 x y, type := tt, pos, after, guard } = storeAgg 53 (ρ x) (ρ y) := rfl
@[go_sem] theorem run_store53 (hA : A.size = 32) (h : off + 32 ≤ (w.cellsAt b).size) (hp : w.plain b) (h1 : AllOne A) : (storeAgg 53 (.pointer (some ⟨b, off, none⟩)) (.agg A)).run Tryz.prog w = .ok .skip (w.putCells b off A) := run_storeAgg agg53 w b off A hA h hp h1
@[go_sem ↓] theorem execOp_alloc53 :
    execOp ρ { dst, op := .alloc 53, type := tt, pos, after, guard } = allocAgg 53 := rfl
@[go_sem] theorem run_alloc53 : (allocAgg 53).run Tryz.prog w = .ok (.value (.pointer (some ⟨w.heap.size, 0, none⟩))) (w.alloc (.cells (enc .i64 (Ints.zero 32)) 53)) := run_allocAgg (A := enc .i64 (Ints.zero 32)) (by kernel_rfl) w
@[go_sem ↓] theorem execOp_eql53 :
    execOp ρ { dst, op := .binOp .eql 53 x y yt, type := tt, pos, after, guard } = eqlAgg 53 x y (ρ x) (ρ y) := rfl
@[go_sem ↓] theorem execOp_neq53 :
    execOp ρ { dst, op := .binOp .neq 53 x y yt, type := tt, pos, after, guard } = neqAgg 53 x y (ρ x) (ρ y) := rfl
@[go_sem] theorem arrayLen53 : Tryz.prog.arrayLen 53 = 32 := by kernel_rfl
@[go_sem] theorem elem53 : Tryz.prog.elem 53 = 3 := by kernel_rfl
theorem ints53 : IntsTy Tryz.prog 53 32 .i64 := ⟨⟨3, Tryz.underlying53, Tryz.underlying3, by kernel_rfl, by kernel_rfl⟩⟩
@[go_sem] theorem run_eql53 (u v : Ints 32) : (eqlAgg 53 x y (.agg (enc .i64 u)) (.agg (enc .i64 v))).run Tryz.prog w = .ok (.value (.bool (decide (u = v)))) w := run_eqlAgg ints53 (by kernel_rfl) w x y u v
@[go_sem] theorem run_neq53 (u v : Ints 32) : (neqAgg 53 x y (.agg (enc .i64 u)) (.agg (enc .i64 v))).run Tryz.prog w = .ok (.value (.bool (!decide (u = v)))) w := run_neqAgg ints53 (by kernel_rfl) w x y u v
@[go_sem ↓] theorem execOp_build53 :
    execOp ρ { dst, op := .build 53 parts, type := tt, pos, after, guard } = buildAgg 53 (parts.map fun p => (p.1, ρ p.2)) := rfl
@[go_sem] theorem run_build53 (vs : Array (Nat × Value)) : (buildAgg 53 vs).run Tryz.prog w = bif okI .i64 32 vs.toList then .ok (.value (.agg (enc .i64 (updI (Ints.zero 32) vs.toList)))) w else buildUnsaid Tryz.prog 53 vs w := run_buildInts ints53 (by kernel_rfl) w vs
theorem agg54 : AggTy Tryz.prog 54 32 := ⟨⟨_, Tryz.underlying54, rfl⟩, by kernel_rfl⟩
@[go_sem ↓] theorem execOp_load54 :
    execOp ρ { dst, op := .load 54 x, type := tt, pos, after, guard } = loadAgg 54 (ρ x) := rfl
@[go_sem] theorem run_load54 (h : off + 32 ≤ (w.cellsAt b).size) : (loadAgg 54 (.pointer (some ⟨b, off, none⟩))).run Tryz.prog w = .ok (.value (.agg ((w.cellsAt b).extract off (off + 32)))) w := run_loadAgg agg54 w b off h
@[go_sem ↓] theorem execOp_store54 :
    execOp ρ { dst, op := .store 54 x y, type := tt, pos, after, guard } = storeAgg 54 (ρ x) (ρ y) := rfl
@[go_sem] theorem run_store54 (hA : A.size = 32) (h : off + 32 ≤ (w.cellsAt b).size) (hp : w.plain b) (h1 : AllOne A) : (storeAgg 54 (.pointer (some ⟨b, off, none⟩)) (.agg A)).run Tryz.prog w = .ok .skip (w.putCells b off A) := run_storeAgg agg54 w b off A hA h hp h1
@[go_sem ↓] theorem execOp_alloc54 :
    execOp ρ { dst, op := .alloc 54, type := tt, pos, after, guard } = allocAgg 54 := rfl
@[go_sem] theorem run_alloc54 : (allocAgg 54).run Tryz.prog w = .ok (.value (.pointer (some ⟨w.heap.size, 0, none⟩))) (w.alloc (.cells (enc .i64 (Ints.zero 32)) 54)) := run_allocAgg (A := enc .i64 (Ints.zero 32)) (by kernel_rfl) w
@[go_sem ↓] theorem execOp_eql54 :
    execOp ρ { dst, op := .binOp .eql 54 x y yt, type := tt, pos, after, guard } = eqlAgg 54 x y (ρ x) (ρ y) := rfl
@[go_sem ↓] theorem execOp_neq54 :
    execOp ρ { dst, op := .binOp .neq 54 x y yt, type := tt, pos, after, guard } = neqAgg 54 x y (ρ x) (ρ y) := rfl
@[go_sem] theorem arrayLen54 : Tryz.prog.arrayLen 54 = 32 := by kernel_rfl
@[go_sem] theorem elem54 : Tryz.prog.elem 54 = 3 := by kernel_rfl
theorem ints54 : IntsTy Tryz.prog 54 32 .i64 := ⟨⟨3, Tryz.underlying54, Tryz.underlying3, by kernel_rfl, by kernel_rfl⟩⟩
@[go_sem] theorem run_eql54 (u v : Ints 32) : (eqlAgg 54 x y (.agg (enc .i64 u)) (.agg (enc .i64 v))).run Tryz.prog w = .ok (.value (.bool (decide (u = v)))) w := run_eqlAgg ints54 (by kernel_rfl) w x y u v
@[go_sem] theorem run_neq54 (u v : Ints 32) : (neqAgg 54 x y (.agg (enc .i64 u)) (.agg (enc .i64 v))).run Tryz.prog w = .ok (.value (.bool (!decide (u = v)))) w := run_neqAgg ints54 (by kernel_rfl) w x y u v
@[go_sem ↓] theorem execOp_build54 :
    execOp ρ { dst, op := .build 54 parts, type := tt, pos, after, guard } = buildAgg 54 (parts.map fun p => (p.1, ρ p.2)) := rfl
@[go_sem] theorem run_build54 (vs : Array (Nat × Value)) : (buildAgg 54 vs).run Tryz.prog w = bif okI .i64 32 vs.toList then .ok (.value (.agg (enc .i64 (updI (Ints.zero 32) vs.toList)))) w else buildUnsaid Tryz.prog 54 vs w := run_buildInts ints54 (by kernel_rfl) w vs
theorem agg238 : AggTy Tryz.prog 238 32 := ⟨⟨_, Tryz.underlying238, rfl⟩, by kernel_rfl⟩
@[go_sem ↓] theorem execOp_load238 :
    execOp ρ { dst, op := .load 238 x, type := tt, pos, after, guard } = loadAgg 238 (ρ x) := rfl
@[go_sem] theorem run_load238 (h : off + 32 ≤ (w.cellsAt b).size) : (loadAgg 238 (.pointer (some ⟨b, off, none⟩))).run Tryz.prog w = .ok (.value (.agg ((w.cellsAt b).extract off (off + 32)))) w := run_loadAgg agg238 w b off h
@[go_sem ↓] theorem execOp_store238 :
    execOp ρ { dst, op := .store 238 x y, type := tt, pos, after, guard } = storeAgg 238 (ρ x) (ρ y) := rfl
@[go_sem] theorem run_store238 (hA : A.size = 32) (h : off + 32 ≤ (w.cellsAt b).size) (hp : w.plain b) (h1 : AllOne A) : (storeAgg 238 (.pointer (some ⟨b, off, none⟩)) (.agg A)).run Tryz.prog w = .ok .skip (w.putCells b off A) := run_storeAgg agg238 w b off A hA h hp h1
@[go_sem ↓] theorem execOp_alloc238 :
    execOp ρ { dst, op := .alloc 238, type := tt, pos, after, guard } = allocAgg 238 := rfl
@[go_sem] theorem run_alloc238 : (allocAgg 238).run Tryz.prog w = .ok (.value (.pointer (some ⟨w.heap.size, 0, none⟩))) (w.alloc (.cells (enc .u8 (Ints.zero 32)) 238)) := run_allocAgg (A := enc .u8 (Ints.zero 32)) (by kernel_rfl) w
@[go_sem ↓] theorem execOp_eql238 :
    execOp ρ { dst, op := .binOp .eql 238 x y yt, type := tt, pos, after, guard } = eqlAgg 238 x y (ρ x) (ρ y) := rfl
@[go_sem ↓] theorem execOp_neq238 :
    execOp ρ { dst, op := .binOp .neq 238 x y yt, type := tt, pos, after, guard } = neqAgg 238 x y (ρ x) (ρ y) := rfl
@[go_sem] theorem arrayLen238 : Tryz.prog.arrayLen 238 = 32 := by kernel_rfl
@[go_sem] theorem elem238 : Tryz.prog.elem 238 = 5 := by kernel_rfl
theorem ints238 : IntsTy Tryz.prog 238 32 .u8 := ⟨⟨5, Tryz.underlying238, Tryz.underlying5, by kernel_rfl, by kernel_rfl⟩⟩
@[go_sem] theorem run_eql238 (u v : Ints 32) : (eqlAgg 238 x y (.agg (enc .u8 u)) (.agg (enc .u8 v))).run Tryz.prog w = .ok (.value (.bool (decide (u = v)))) w := run_eqlAgg ints238 (by kernel_rfl) w x y u v
@[go_sem] theorem run_neq238 (u v : Ints 32) : (neqAgg 238 x y (.agg (enc .u8 u)) (.agg (enc .u8 v))).run Tryz.prog w = .ok (.value (.bool (!decide (u = v)))) w := run_neqAgg ints238 (by kernel_rfl) w x y u v
@[go_sem ↓] theorem execOp_build238 :
    execOp ρ { dst, op := .build 238 parts, type := tt, pos, after, guard } = buildAgg 238 (parts.map fun p => (p.1, ρ p.2)) := rfl
@[go_sem] theorem run_build238 (vs : Array (Nat × Value)) : (buildAgg 238 vs).run Tryz.prog w = bif okI .u8 32 vs.toList then .ok (.value (.agg (enc .u8 (updI (Ints.zero 32) vs.toList)))) w else buildUnsaid Tryz.prog 238 vs w := run_buildInts ints238 (by kernel_rfl) w vs
theorem agg246 : AggTy Tryz.prog 246 32 := ⟨⟨_, Tryz.underlying246, rfl⟩, by kernel_rfl⟩
@[go_sem ↓] theorem execOp_load246 :
    execOp ρ { dst, op := .load 246 x, type := tt, pos, after, guard } = loadAgg 246 (ρ x) := rfl
@[go_sem] theorem run_load246 (h : off + 32 ≤ (w.cellsAt b).size) : (loadAgg 246 (.pointer (some ⟨b, off, none⟩))).run Tryz.prog w = .ok (.value (.agg ((w.cellsAt b).extract off (off + 32)))) w := run_loadAgg agg246 w b off h
@[go_sem ↓] theorem execOp_store246 :
    execOp ρ { dst, op := .store 246 x y, type := tt, pos, after, guard } = storeAgg 246 (ρ x) (ρ y) := rfl
@[go_sem] theorem run_store246 (hA : A.size = 32) (h : off + 32 ≤ (w.cellsAt b).size) (hp : w.plain b) (h1 : AllOne A) : (storeAgg 246 (.pointer (some ⟨b, off, none⟩)) (.agg A)).run Tryz.prog w = .ok .skip (w.putCells b off A) := run_storeAgg agg246 w b off A hA h hp h1
@[go_sem ↓] theorem execOp_alloc246 :
    execOp ρ { dst, op := .alloc 246, type := tt, pos, after, guard } = allocAgg 246 := rfl
@[go_sem] theorem run_alloc246 : (allocAgg 246).run Tryz.prog w = .ok (.value (.pointer (some ⟨w.heap.size, 0, none⟩))) (w.alloc (.cells (enc .u8 (Ints.zero 32)) 246)) := run_allocAgg (A := enc .u8 (Ints.zero 32)) (by kernel_rfl) w
@[go_sem ↓] theorem execOp_eql246 :
    execOp ρ { dst, op := .binOp .eql 246 x y yt, type := tt, pos, after, guard } = eqlAgg 246 x y (ρ x) (ρ y) := rfl
@[go_sem ↓] theorem execOp_neq246 :
    execOp ρ { dst, op := .binOp .neq 246 x y yt, type := tt, pos, after, guard } = neqAgg 246 x y (ρ x) (ρ y) := rfl
@[go_sem] theorem arrayLen246 : Tryz.prog.arrayLen 246 = 32 := by kernel_rfl
@[go_sem] theorem elem246 : Tryz.prog.elem 246 = 5 := by kernel_rfl
theorem ints246 : IntsTy Tryz.prog 246 32 .u8 := ⟨⟨5, Tryz.underlying246, Tryz.underlying5, by kernel_rfl, by kernel_rfl⟩⟩
@[go_sem] theorem run_eql246 (u v : Ints 32) : (eqlAgg 246 x y (.agg (enc .u8 u)) (.agg (enc .u8 v))).run Tryz.prog w = .ok (.value (.bool (decide (u = v)))) w := run_eqlAgg ints246 (by kernel_rfl) w x y u v
@[go_sem] theorem run_neq246 (u v : Ints 32) : (neqAgg 246 x y (.agg (enc .u8 u)) (.agg (enc .u8 v))).run Tryz.prog w = .ok (.value (.bool (!decide (u = v)))) w := run_neqAgg ints246 (by kernel_rfl) w x y u v
@[go_sem ↓] theorem execOp_build246 :
    execOp ρ { dst, op := .build 246 parts, type := tt, pos, after, guard } = buildAgg 246 (parts.map fun p => (p.1, ρ p.2)) := rfl
@[go_sem] theorem run_build246 (vs : Array (Nat × Value)) : (buildAgg 246 vs).run Tryz.prog w = bif okI .u8 32 vs.toList then .ok (.value (.agg (enc .u8 (updI (Ints.zero 32) vs.toList)))) w else buildUnsaid Tryz.prog 246 vs w := run_buildInts ints246 (by kernel_rfl) w vs
theorem agg271 : AggTy Tryz.prog 271 4 := ⟨⟨_, Tryz.underlying271, rfl⟩, by kernel_rfl⟩
@[go_sem ↓] theorem execOp_load271 :
    execOp ρ { dst, op := .load 271 x, type := tt, pos, after, guard } = loadAgg 271 (ρ x) := rfl
@[go_sem] theorem run_load271 (h : off + 4 ≤ (w.cellsAt b).size) : (loadAgg 271 (.pointer (some ⟨b, off, none⟩))).run Tryz.prog w = .ok (.value (.agg ((w.cellsAt b).extract off (off + 4)))) w := run_loadAgg agg271 w b off h
@[go_sem ↓] theorem execOp_store271 :
    execOp ρ { dst, op := .store 271 x y, type := tt, pos, after, guard } = storeAgg 271 (ρ x) (ρ y) := rfl
@[go_sem] theorem run_store271 (hA : A.size = 4) (h : off + 4 ≤ (w.cellsAt b).size) (hp : w.plain b) (h1 : AllOne A) : (storeAgg 271 (.pointer (some ⟨b, off, none⟩)) (.agg A)).run Tryz.prog w = .ok .skip (w.putCells b off A) := run_storeAgg agg271 w b off A hA h hp h1
@[go_sem ↓] theorem execOp_alloc271 :
    execOp ρ { dst, op := .alloc 271, type := tt, pos, after, guard } = allocAgg 271 := rfl
@[go_sem] theorem run_alloc271 : (allocAgg 271).run Tryz.prog w = .ok (.value (.pointer (some ⟨w.heap.size, 0, none⟩))) (w.alloc (.cells (enc .u64 (Ints.zero 4)) 271)) := run_allocAgg (A := enc .u64 (Ints.zero 4)) (by kernel_rfl) w
@[go_sem ↓] theorem execOp_eql271 :
    execOp ρ { dst, op := .binOp .eql 271 x y yt, type := tt, pos, after, guard } = eqlAgg 271 x y (ρ x) (ρ y) := rfl
@[go_sem ↓] theorem execOp_neq271 :
    execOp ρ { dst, op := .binOp .neq 271 x y yt, type := tt, pos, after, guard } = neqAgg 271 x y (ρ x) (ρ y) := rfl
@[go_sem] theorem arrayLen271 : Tryz.prog.arrayLen 271 = 4 := by kernel_rfl
@[go_sem] theorem elem271 : Tryz.prog.elem 271 = 24 := by kernel_rfl
theorem ints271 : IntsTy Tryz.prog 271 4 .u64 := ⟨⟨24, Tryz.underlying271, Tryz.underlying24, by kernel_rfl, by kernel_rfl⟩⟩
@[go_sem] theorem run_eql271 (u v : Ints 4) : (eqlAgg 271 x y (.agg (enc .u64 u)) (.agg (enc .u64 v))).run Tryz.prog w = .ok (.value (.bool (decide (u = v)))) w := run_eqlAgg ints271 (by kernel_rfl) w x y u v
@[go_sem] theorem run_neq271 (u v : Ints 4) : (neqAgg 271 x y (.agg (enc .u64 u)) (.agg (enc .u64 v))).run Tryz.prog w = .ok (.value (.bool (!decide (u = v)))) w := run_neqAgg ints271 (by kernel_rfl) w x y u v
@[go_sem ↓] theorem execOp_build271 :
    execOp ρ { dst, op := .build 271 parts, type := tt, pos, after, guard } = buildAgg 271 (parts.map fun p => (p.1, ρ p.2)) := rfl
@[go_sem] theorem run_build271 (vs : Array (Nat × Value)) : (buildAgg 271 vs).run Tryz.prog w = bif okI .u64 4 vs.toList then .ok (.value (.agg (enc .u64 (updI (Ints.zero 4) vs.toList)))) w else buildUnsaid Tryz.prog 271 vs w := run_buildInts ints271 (by kernel_rfl) w vs
theorem agg287 : AggTy Tryz.prog 287 8 := ⟨⟨_, Tryz.underlying287, rfl⟩, by kernel_rfl⟩
@[go_sem ↓] theorem execOp_load287 :
    execOp ρ { dst, op := .load 287 x, type := tt, pos, after, guard } = loadAgg 287 (ρ x) := rfl
@[go_sem] theorem run_load287 (h : off + 8 ≤ (w.cellsAt b).size) : (loadAgg 287 (.pointer (some ⟨b, off, none⟩))).run Tryz.prog w = .ok (.value (.agg ((w.cellsAt b).extract off (off + 8)))) w := run_loadAgg agg287 w b off h
@[go_sem ↓] theorem execOp_store287 :
    execOp ρ { dst, op := .store 287 x y, type := tt, pos, after, guard } = storeAgg 287 (ρ x) (ρ y) := rfl
@[go_sem] theorem run_store287 (hA : A.size = 8) (h : off + 8 ≤ (w.cellsAt b).size) (hp : w.plain b) (h1 : AllOne A) : (storeAgg 287 (.pointer (some ⟨b, off, none⟩)) (.agg A)).run Tryz.prog w = .ok .skip (w.putCells b off A) := run_storeAgg agg287 w b off A hA h hp h1
@[go_sem ↓] theorem execOp_alloc287 :
    execOp ρ { dst, op := .alloc 287, type := tt, pos, after, guard } = allocAgg 287 := rfl
@[go_sem] theorem run_alloc287 : (allocAgg 287).run Tryz.prog w = .ok (.value (.pointer (some ⟨w.heap.size, 0, none⟩))) (w.alloc (.cells (enc .u64 (Ints.zero 8)) 287)) := run_allocAgg (A := enc .u64 (Ints.zero 8)) (by kernel_rfl) w
@[go_sem ↓] theorem execOp_eql287 :
    execOp ρ { dst, op := .binOp .eql 287 x y yt, type := tt, pos, after, guard } = eqlAgg 287 x y (ρ x) (ρ y) := rfl
@[go_sem ↓] theorem execOp_neq287 :
    execOp ρ { dst, op := .binOp .neq 287 x y yt, type := tt, pos, after, guard } = neqAgg 287 x y (ρ x) (ρ y) := rfl
@[go_sem] theorem arrayLen287 : Tryz.prog.arrayLen 287 = 8 := by kernel_rfl
@[go_sem] theorem elem287 : Tryz.prog.elem 287 = 24 := by kernel_rfl
theorem ints287 : IntsTy Tryz.prog 287 8 .u64 := ⟨⟨24, Tryz.underlying287, Tryz.underlying24, by kernel_rfl, by kernel_rfl⟩⟩
@[go_sem] theorem run_eql287 (u v : Ints 8) : (eqlAgg 287 x y (.agg (enc .u64 u)) (.agg (enc .u64 v))).run Tryz.prog w = .ok (.value (.bool (decide (u = v)))) w := run_eqlAgg ints287 (by kernel_rfl) w x y u v
@[go_sem] theorem run_neq287 (u v : Ints 8) : (neqAgg 287 x y (.agg (enc .u64 u)) (.agg (enc .u64 v))).run Tryz.prog w = .ok (.value (.bool (!decide (u = v)))) w := run_neqAgg ints287 (by kernel_rfl) w x y u v
@[go_sem ↓] theorem execOp_build287 :
    execOp ρ { dst, op := .build 287 parts, type := tt, pos, after, guard } = buildAgg 287 (parts.map fun p => (p.1, ρ p.2)) := rfl
@[go_sem] theorem run_build287 (vs : Array (Nat × Value)) : (buildAgg 287 vs).run Tryz.prog w = bif okI .u64 8 vs.toList then .ok (.value (.agg (enc .u64 (updI (Ints.zero 8) vs.toList)))) w else buildUnsaid Tryz.prog 287 vs w := run_buildInts ints287 (by kernel_rfl) w vs
theorem agg291 : AggTy Tryz.prog 291 25 := ⟨⟨_, Tryz.underlying291, rfl⟩, by kernel_rfl⟩
@[go_sem ↓] theorem execOp_load291 :
    execOp ρ { dst, op := .load 291 x, type := tt, pos, after, guard } = loadAgg 291 (ρ x) := rfl
@[go_sem] theorem run_load291 (h : off + 25 ≤ (w.cellsAt b).size) : (loadAgg 291 (.pointer (some ⟨b, off, none⟩))).run Tryz.prog w = .ok (.value (.agg ((w.cellsAt b).extract off (off + 25)))) w := run_loadAgg agg291 w b off h
@[go_sem ↓] theorem execOp_store291 :
    execOp ρ { dst, op := .store 291 x y, type := tt, pos, after, guard } = storeAgg 291 (ρ x) (ρ y) := rfl
@[go_sem] theorem run_store291 (hA : A.size = 25) (h : off + 25 ≤ (w.cellsAt b).size) (hp : w.plain b) (h1 : AllOne A) : (storeAgg 291 (.pointer (some ⟨b, off, none⟩)) (.agg A)).run Tryz.prog w = .ok .skip (w.putCells b off A) := run_storeAgg agg291 w b off A hA h hp h1
@[go_sem ↓] theorem execOp_alloc291 :
    execOp ρ { dst, op := .alloc 291, type := tt, pos, after, guard } = allocAgg 291 := rfl
@[go_sem] theorem run_alloc291 : (allocAgg 291).run Tryz.prog w = .ok (.value (.pointer (some ⟨w.heap.size, 0, none⟩))) (w.alloc (.cells (enc .u64 (Ints.zero 25)) 291)) := run_allocAgg (A := enc .u64 (Ints.zero 25)) (by kernel_rfl) w
@[go_sem ↓] theorem execOp_eql291 :
    execOp ρ { dst, op := .binOp .eql 291 x y yt, type := tt, pos, after, guard } = eqlAgg 291 x y (ρ x) (ρ y) := rfl
@[go_sem ↓] theorem execOp_neq291 :
    execOp ρ { dst, op := .binOp .neq 291 x y yt, type := tt, pos, after, guard } = neqAgg 291 x y (ρ x) (ρ y) := rfl
@[go_sem] theorem arrayLen291 : Tryz.prog.arrayLen 291 = 25 := by kernel_rfl
@[go_sem] theorem elem291 : Tryz.prog.elem 291 = 24 := by kernel_rfl
theorem ints291 : IntsTy Tryz.prog 291 25 .u64 := ⟨⟨24, Tryz.underlying291, Tryz.underlying24, by kernel_rfl, by kernel_rfl⟩⟩
@[go_sem] theorem run_eql291 (u v : Ints 25) : (eqlAgg 291 x y (.agg (enc .u64 u)) (.agg (enc .u64 v))).run Tryz.prog w = .ok (.value (.bool (decide (u = v)))) w := run_eqlAgg ints291 (by kernel_rfl) w x y u v
@[go_sem] theorem run_neq291 (u v : Ints 25) : (neqAgg 291 x y (.agg (enc .u64 u)) (.agg (enc .u64 v))).run Tryz.prog w = .ok (.value (.bool (!decide (u = v)))) w := run_neqAgg ints291 (by kernel_rfl) w x y u v
@[go_sem ↓] theorem execOp_build291 :
    execOp ρ { dst, op := .build 291 parts, type := tt, pos, after, guard } = buildAgg 291 (parts.map fun p => (p.1, ρ p.2)) := rfl
@[go_sem] theorem run_build291 (vs : Array (Nat × Value)) : (buildAgg 291 vs).run Tryz.prog w = bif okI .u64 25 vs.toList then .ok (.value (.agg (enc .u64 (updI (Ints.zero 25) vs.toList)))) w else buildUnsaid Tryz.prog 291 vs w := run_buildInts ints291 (by kernel_rfl) w vs
theorem agg293 : AggTy Tryz.prog 293 136 := ⟨⟨_, Tryz.underlying293, rfl⟩, by kernel_rfl⟩
@[go_sem ↓] theorem execOp_load293 :
    execOp ρ { dst, op := .load 293 x, type := tt, pos, after, guard } = loadAgg 293 (ρ x) := rfl
@[go_sem] theorem run_load293 (h : off + 136 ≤ (w.cellsAt b).size) : (loadAgg 293 (.pointer (some ⟨b, off, none⟩))).run Tryz.prog w = .ok (.value (.agg ((w.cellsAt b).extract off (off + 136)))) w := run_loadAgg agg293 w b off h
@[go_sem ↓] theorem execOp_store293 :
    execOp ρ { dst, op := .store 293 x y, type := tt, pos, after, guard } = storeAgg 293 (ρ x) (ρ y) := rfl
@[go_sem] theorem run_store293 (hA : A.size = 136) (h : off + 136 ≤ (w.cellsAt b).size) (hp : w.plain b) (h1 : AllOne A) : (storeAgg 293 (.pointer (some ⟨b, off, none⟩)) (.agg A)).run Tryz.prog w = .ok .skip (w.putCells b off A) := run_storeAgg agg293 w b off A hA h hp h1
@[go_sem ↓] theorem execOp_alloc293 :
    execOp ρ { dst, op := .alloc 293, type := tt, pos, after, guard } = allocAgg 293 := rfl
@[go_sem] theorem run_alloc293 : (allocAgg 293).run Tryz.prog w = .ok (.value (.pointer (some ⟨w.heap.size, 0, none⟩))) (w.alloc (.cells (enc .u8 (Ints.zero 136)) 293)) := run_allocAgg (A := enc .u8 (Ints.zero 136)) (by kernel_rfl) w
@[go_sem ↓] theorem execOp_eql293 :
    execOp ρ { dst, op := .binOp .eql 293 x y yt, type := tt, pos, after, guard } = eqlAgg 293 x y (ρ x) (ρ y) := rfl
@[go_sem ↓] theorem execOp_neq293 :
    execOp ρ { dst, op := .binOp .neq 293 x y yt, type := tt, pos, after, guard } = neqAgg 293 x y (ρ x) (ρ y) := rfl
@[go_sem] theorem arrayLen293 : Tryz.prog.arrayLen 293 = 136 := by kernel_rfl
@[go_sem] theorem elem293 : Tryz.prog.elem 293 = 5 := by kernel_rfl
theorem ints293 : IntsTy Tryz.prog 293 136 .u8 := ⟨⟨5, Tryz.underlying293, Tryz.underlying5, by kernel_rfl, by kernel_rfl⟩⟩
@[go_sem] theorem run_eql293 (u v : Ints 136) : (eqlAgg 293 x y (.agg (enc .u8 u)) (.agg (enc .u8 v))).run Tryz.prog w = .ok (.value (.bool (decide (u = v)))) w := run_eqlAgg ints293 (by kernel_rfl) w x y u v
@[go_sem] theorem run_neq293 (u v : Ints 136) : (neqAgg 293 x y (.agg (enc .u8 u)) (.agg (enc .u8 v))).run Tryz.prog w = .ok (.value (.bool (!decide (u = v)))) w := run_neqAgg ints293 (by kernel_rfl) w x y u v
@[go_sem ↓] theorem execOp_build293 :
    execOp ρ { dst, op := .build 293 parts, type := tt, pos, after, guard } = buildAgg 293 (parts.map fun p => (p.1, ρ p.2)) := rfl
@[go_sem] theorem run_build293 (vs : Array (Nat × Value)) : (buildAgg 293 vs).run Tryz.prog w = bif okI .u8 136 vs.toList then .ok (.value (.agg (enc .u8 (updI (Ints.zero 136) vs.toList)))) w else buildUnsaid Tryz.prog 293 vs w := run_buildInts ints293 (by kernel_rfl) w vs
theorem agg306 : AggTy Tryz.prog 306 8 := ⟨⟨_, Tryz.underlying306, rfl⟩, by kernel_rfl⟩
@[go_sem ↓] theorem execOp_load306 :
    execOp ρ { dst, op := .load 306 x, type := tt, pos, after, guard } = loadAgg 306 (ρ x) := rfl
@[go_sem] theorem run_load306 (h : off + 8 ≤ (w.cellsAt b).size) : (loadAgg 306 (.pointer (some ⟨b, off, none⟩))).run Tryz.prog w = .ok (.value (.agg ((w.cellsAt b).extract off (off + 8)))) w := run_loadAgg agg306 w b off h
@[go_sem ↓] theorem execOp_store306 :
    execOp ρ { dst, op := .store 306 x y, type := tt, pos, after, guard } = storeAgg 306 (ρ x) (ρ y) := rfl
@[go_sem] theorem run_store306 (hA : A.size = 8) (h : off + 8 ≤ (w.cellsAt b).size) (hp : w.plain b) (h1 : AllOne A) : (storeAgg 306 (.pointer (some ⟨b, off, none⟩)) (.agg A)).run Tryz.prog w = .ok .skip (w.putCells b off A) := run_storeAgg agg306 w b off A hA h hp h1
@[go_sem ↓] theorem execOp_alloc306 :
    execOp ρ { dst, op := .alloc 306, type := tt, pos, after, guard } = allocAgg 306 := rfl
@[go_sem] theorem run_alloc306 : (allocAgg 306).run Tryz.prog w = .ok (.value (.pointer (some ⟨w.heap.size, 0, none⟩))) (w.alloc (.cells (enc .u32 (Ints.zero 8)) 306)) := run_allocAgg (A := enc .u32 (Ints.zero 8)) (by kernel_rfl) w
@[go_sem ↓] theorem execOp_eql306 :
    execOp ρ { dst, op := .binOp .eql 306 x y yt, type := tt, pos, after, guard } = eqlAgg 306 x y (ρ x) (ρ y) := rfl
@[go_sem ↓] theorem execOp_neq306 :
    execOp ρ { dst, op := .binOp .neq 306 x y yt, type := tt, pos, after, guard } = neqAgg 306 x y (ρ x) (ρ y) := rfl
@[go_sem] theorem arrayLen306 : Tryz.prog.arrayLen 306 = 8 := by kernel_rfl
@[go_sem] theorem elem306 : Tryz.prog.elem 306 = 259 := by kernel_rfl
theorem ints306 : IntsTy Tryz.prog 306 8 .u32 := ⟨⟨259, Tryz.underlying306, Tryz.underlying259, by kernel_rfl, by kernel_rfl⟩⟩
@[go_sem] theorem run_eql306 (u v : Ints 8) : (eqlAgg 306 x y (.agg (enc .u32 u)) (.agg (enc .u32 v))).run Tryz.prog w = .ok (.value (.bool (decide (u = v)))) w := run_eqlAgg ints306 (by kernel_rfl) w x y u v
@[go_sem] theorem run_neq306 (u v : Ints 8) : (neqAgg 306 x y (.agg (enc .u32 u)) (.agg (enc .u32 v))).run Tryz.prog w = .ok (.value (.bool (!decide (u = v)))) w := run_neqAgg ints306 (by kernel_rfl) w x y u v
@[go_sem ↓] theorem execOp_build306 :
    execOp ρ { dst, op := .build 306 parts, type := tt, pos, after, guard } = buildAgg 306 (parts.map fun p => (p.1, ρ p.2)) := rfl
@[go_sem] theorem run_build306 (vs : Array (Nat × Value)) : (buildAgg 306 vs).run Tryz.prog w = bif okI .u32 8 vs.toList then .ok (.value (.agg (enc .u32 (updI (Ints.zero 8) vs.toList)))) w else buildUnsaid Tryz.prog 306 vs w := run_buildInts ints306 (by kernel_rfl) w vs
theorem agg308 : AggTy Tryz.prog 308 128 := ⟨⟨_, Tryz.underlying308, rfl⟩, by kernel_rfl⟩
@[go_sem ↓] theorem execOp_load308 :
    execOp ρ { dst, op := .load 308 x, type := tt, pos, after, guard } = loadAgg 308 (ρ x) := rfl
@[go_sem] theorem run_load308 (h : off + 128 ≤ (w.cellsAt b).size) : (loadAgg 308 (.pointer (some ⟨b, off, none⟩))).run Tryz.prog w = .ok (.value (.agg ((w.cellsAt b).extract off (off + 128)))) w := run_loadAgg agg308 w b off h
@[go_sem ↓] theorem execOp_store308 :
    execOp ρ { dst, op := .store 308 x y, type := tt, pos, after, guard } = storeAgg 308 (ρ x) (ρ y) := rfl
@[go_sem] theorem run_store308 (hA : A.size = 128) (h : off + 128 ≤ (w.cellsAt b).size) (hp : w.plain b) (h1 : AllOne A) : (storeAgg 308 (.pointer (some ⟨b, off, none⟩)) (.agg A)).run Tryz.prog w = .ok .skip (w.putCells b off A) := run_storeAgg agg308 w b off A hA h hp h1
@[go_sem ↓] theorem execOp_alloc308 :
    execOp ρ { dst, op := .alloc 308, type := tt, pos, after, guard } = allocAgg 308 := rfl
@[go_sem] theorem run_alloc308 : (allocAgg 308).run Tryz.prog w = .ok (.value (.pointer (some ⟨w.heap.size, 0, none⟩))) (w.alloc (.cells (enc .u8 (Ints.zero 128)) 308)) := run_allocAgg (A := enc .u8 (Ints.zero 128)) (by kernel_rfl) w
@[go_sem ↓] theorem execOp_eql308 :
    execOp ρ { dst, op := .binOp .eql 308 x y yt, type := tt, pos, after, guard } = eqlAgg 308 x y (ρ x) (ρ y) := rfl
@[go_sem ↓] theorem execOp_neq308 :
    execOp ρ { dst, op := .binOp .neq 308 x y yt, type := tt, pos, after, guard } = neqAgg 308 x y (ρ x) (ρ y) := rfl
@[go_sem] theorem arrayLen308 : Tryz.prog.arrayLen 308 = 128 := by kernel_rfl
@[go_sem] theorem elem308 : Tryz.prog.elem 308 = 5 := by kernel_rfl
theorem ints308 : IntsTy Tryz.prog 308 128 .u8 := ⟨⟨5, Tryz.underlying308, Tryz.underlying5, by kernel_rfl, by kernel_rfl⟩⟩
@[go_sem] theorem run_eql308 (u v : Ints 128) : (eqlAgg 308 x y (.agg (enc .u8 u)) (.agg (enc .u8 v))).run Tryz.prog w = .ok (.value (.bool (decide (u = v)))) w := run_eqlAgg ints308 (by kernel_rfl) w x y u v
@[go_sem] theorem run_neq308 (u v : Ints 128) : (neqAgg 308 x y (.agg (enc .u8 u)) (.agg (enc .u8 v))).run Tryz.prog w = .ok (.value (.bool (!decide (u = v)))) w := run_neqAgg ints308 (by kernel_rfl) w x y u v
@[go_sem ↓] theorem execOp_build308 :
    execOp ρ { dst, op := .build 308 parts, type := tt, pos, after, guard } = buildAgg 308 (parts.map fun p => (p.1, ρ p.2)) := rfl
@[go_sem] theorem run_build308 (vs : Array (Nat × Value)) : (buildAgg 308 vs).run Tryz.prog w = bif okI .u8 128 vs.toList then .ok (.value (.agg (enc .u8 (updI (Ints.zero 128) vs.toList)))) w else buildUnsaid Tryz.prog 308 vs w := run_buildInts ints308 (by kernel_rfl) w vs
theorem agg310 : AggTy Tryz.prog 310 3 := ⟨⟨_, Tryz.underlying310, rfl⟩, by kernel_rfl⟩
@[go_sem ↓] theorem execOp_load310 :
    execOp ρ { dst, op := .load 310 x, type := tt, pos, after, guard } = loadAgg 310 (ρ x) := rfl
@[go_sem] theorem run_load310 (h : off + 3 ≤ (w.cellsAt b).size) : (loadAgg 310 (.pointer (some ⟨b, off, none⟩))).run Tryz.prog w = .ok (.value (.agg ((w.cellsAt b).extract off (off + 3)))) w := run_loadAgg agg310 w b off h
@[go_sem ↓] theorem execOp_store310 :
    execOp ρ { dst, op := .store 310 x y, type := tt, pos, after, guard } = storeAgg 310 (ρ x) (ρ y) := rfl
@[go_sem] theorem run_store310 (hA : A.size = 3) (h : off + 3 ≤ (w.cellsAt b).size) (hp : w.plain b) (h1 : AllOne A) : (storeAgg 310 (.pointer (some ⟨b, off, none⟩)) (.agg A)).run Tryz.prog w = .ok .skip (w.putCells b off A) := run_storeAgg agg310 w b off A hA h hp h1
@[go_sem ↓] theorem execOp_alloc310 :
    execOp ρ { dst, op := .alloc 310, type := tt, pos, after, guard } = allocAgg 310 := rfl
@[go_sem] theorem run_alloc310 : (allocAgg 310).run Tryz.prog w = .ok (.value (.pointer (some ⟨w.heap.size, 0, none⟩))) (w.alloc (.cells (enc .u64 (Ints.zero 3)) 310)) := run_allocAgg (A := enc .u64 (Ints.zero 3)) (by kernel_rfl) w
@[go_sem ↓] theorem execOp_eql310 :
    execOp ρ { dst, op := .binOp .eql 310 x y yt, type := tt, pos, after, guard } = eqlAgg 310 x y (ρ x) (ρ y) := rfl
@[go_sem ↓] theorem execOp_neq310 :
    execOp ρ { dst, op := .binOp .neq 310 x y yt, type := tt, pos, after, guard } = neqAgg 310 x y (ρ x) (ρ y) := rfl
@[go_sem] theorem arrayLen310 : Tryz.prog.arrayLen 310 = 3 := by kernel_rfl
@[go_sem] theorem elem310 : Tryz.prog.elem 310 = 24 := by kernel_rfl
theorem ints310 : IntsTy Tryz.prog 310 3 .u64 := ⟨⟨24, Tryz.underlying310, Tryz.underlying24, by kernel_rfl, by kernel_rfl⟩⟩
@[go_sem] theorem run_eql310 (u v : Ints 3) : (eqlAgg 310 x y (.agg (enc .u64 u)) (.agg (enc .u64 v))).run Tryz.prog w = .ok (.value (.bool (decide (u = v)))) w := run_eqlAgg ints310 (by kernel_rfl) w x y u v
@[go_sem] theorem run_neq310 (u v : Ints 3) : (neqAgg 310 x y (.agg (enc .u64 u)) (.agg (enc .u64 v))).run Tryz.prog w = .ok (.value (.bool (!decide (u = v)))) w := run_neqAgg ints310 (by kernel_rfl) w x y u v
@[go_sem ↓] theorem execOp_build310 :
    execOp ρ { dst, op := .build 310 parts, type := tt, pos, after, guard } = buildAgg 310 (parts.map fun p => (p.1, ρ p.2)) := rfl
@[go_sem] theorem run_build310 (vs : Array (Nat × Value)) : (buildAgg 310 vs).run Tryz.prog w = bif okI .u64 3 vs.toList then .ok (.value (.agg (enc .u64 (updI (Ints.zero 3) vs.toList)))) w else buildUnsaid Tryz.prog 310 vs w := run_buildInts ints310 (by kernel_rfl) w vs
theorem agg324 : AggTy Tryz.prog 324 64 := ⟨⟨_, Tryz.underlying324, rfl⟩, by kernel_rfl⟩
@[go_sem ↓] theorem execOp_load324 :
    execOp ρ { dst, op := .load 324 x, type := tt, pos, after, guard } = loadAgg 324 (ρ x) := rfl
@[go_sem] theorem run_load324 (h : off + 64 ≤ (w.cellsAt b).size) : (loadAgg 324 (.pointer (some ⟨b, off, none⟩))).run Tryz.prog w = .ok (.value (.agg ((w.cellsAt b).extract off (off + 64)))) w := run_loadAgg agg324 w b off h
@[go_sem ↓] theorem execOp_store324 :
    execOp ρ { dst, op := .store 324 x y, type := tt, pos, after, guard } = storeAgg 324 (ρ x) (ρ y) := rfl
@[go_sem] theorem run_store324 (hA : A.size = 64) (h : off + 64 ≤ (w.cellsAt b).size) (hp : w.plain b) (h1 : AllOne A) : (storeAgg 324 (.pointer (some ⟨b, off, none⟩)) (.agg A)).run Tryz.prog w = .ok .skip (w.putCells b off A) := run_storeAgg agg324 w b off A hA h hp h1
@[go_sem ↓] theorem execOp_alloc324 :
    execOp ρ { dst, op := .alloc 324, type := tt, pos, after, guard } = allocAgg 324 := rfl
@[go_sem] theorem run_alloc324 : (allocAgg 324).run Tryz.prog w = .ok (.value (.pointer (some ⟨w.heap.size, 0, none⟩))) (w.alloc (.cells (enc .u32 (Ints.zero 64)) 324)) := run_allocAgg (A := enc .u32 (Ints.zero 64)) (by kernel_rfl) w
@[go_sem ↓] theorem execOp_eql324 :
    execOp ρ { dst, op := .binOp .eql 324 x y yt, type := tt, pos, after, guard } = eqlAgg 324 x y (ρ x) (ρ y) := rfl
@[go_sem ↓] theorem execOp_neq324 :
    execOp ρ { dst, op := .binOp .neq 324 x y yt, type := tt, pos, after, guard } = neqAgg 324 x y (ρ x) (ρ y) := rfl
@[go_sem] theorem arrayLen324 : Tryz.prog.arrayLen 324 = 64 := by kernel_rfl
@[go_sem] theorem elem324 : Tryz.prog.elem 324 = 259 := by kernel_rfl
theorem ints324 : IntsTy Tryz.prog 324 64 .u32 := ⟨⟨259, Tryz.underlying324, Tryz.underlying259, by kernel_rfl, by kernel_rfl⟩⟩
@[go_sem] theorem run_eql324 (u v : Ints 64) : (eqlAgg 324 x y (.agg (enc .u32 u)) (.agg (enc .u32 v))).run Tryz.prog w = .ok (.value (.bool (decide (u = v)))) w := run_eqlAgg ints324 (by kernel_rfl) w x y u v
@[go_sem] theorem run_neq324 (u v : Ints 64) : (neqAgg 324 x y (.agg (enc .u32 u)) (.agg (enc .u32 v))).run Tryz.prog w = .ok (.value (.bool (!decide (u = v)))) w := run_neqAgg ints324 (by kernel_rfl) w x y u v
@[go_sem ↓] theorem execOp_build324 :
    execOp ρ { dst, op := .build 324 parts, type := tt, pos, after, guard } = buildAgg 324 (parts.map fun p => (p.1, ρ p.2)) := rfl
@[go_sem] theorem run_build324 (vs : Array (Nat × Value)) : (buildAgg 324 vs).run Tryz.prog w = bif okI .u32 64 vs.toList then .ok (.value (.agg (enc .u32 (updI (Ints.zero 64) vs.toList)))) w else buildUnsaid Tryz.prog 324 vs w := run_buildInts ints324 (by kernel_rfl) w vs
theorem agg331 : AggTy Tryz.prog 331 24 := ⟨⟨_, Tryz.underlying331, rfl⟩, by kernel_rfl⟩
@[go_sem ↓] theorem execOp_load331 :
    execOp ρ { dst, op := .load 331 x, type := tt, pos, after, guard } = loadAgg 331 (ρ x) := rfl
@[go_sem] theorem run_load331 (h : off + 24 ≤ (w.cellsAt b).size) : (loadAgg 331 (.pointer (some ⟨b, off, none⟩))).run Tryz.prog w = .ok (.value (.agg ((w.cellsAt b).extract off (off + 24)))) w := run_loadAgg agg331 w b off h
@[go_sem ↓] theorem execOp_store331 :
    execOp ρ { dst, op := .store 331 x y, type := tt, pos, after, guard } = storeAgg 331 (ρ x) (ρ y) := rfl
@[go_sem] theorem run_store331 (hA : A.size = 24) (h : off + 24 ≤ (w.cellsAt b).size) (hp : w.plain b) (h1 : AllOne A) : (storeAgg 331 (.pointer (some ⟨b, off, none⟩)) (.agg A)).run Tryz.prog w = .ok .skip (w.putCells b off A) := run_storeAgg agg331 w b off A hA h hp h1
@[go_sem ↓] theorem execOp_alloc331 :
    execOp ρ { dst, op := .alloc 331, type := tt, pos, after, guard } = allocAgg 331 := rfl
@[go_sem] theorem run_alloc331 : (allocAgg 331).run Tryz.prog w = .ok (.value (.pointer (some ⟨w.heap.size, 0, none⟩))) (w.alloc (.cells (enc .u8 (Ints.zero 24)) 331)) := run_allocAgg (A := enc .u8 (Ints.zero 24)) (by kernel_rfl) w
@[go_sem ↓] theorem execOp_eql331 :
    execOp ρ { dst, op := .binOp .eql 331 x y yt, type := tt, pos, after, guard } = eqlAgg 331 x y (ρ x) (ρ y) := rfl
@[go_sem ↓] theorem execOp_neq331 :
    execOp ρ { dst, op := .binOp .neq 331 x y yt, type := tt, pos, after, guard } = neqAgg 331 x y (ρ x) (ρ y) := rfl
@[go_sem] theorem arrayLen331 : Tryz.prog.arrayLen 331 = 24 := by kernel_rfl
@[go_sem] theorem elem331 : Tryz.prog.elem 331 = 5 := by kernel_rfl
theorem ints331 : IntsTy Tryz.prog 331 24 .u8 := ⟨⟨5, Tryz.underlying331, Tryz.underlying5, by kernel_rfl, by kernel_rfl⟩⟩
@[go_sem] theorem run_eql331 (u v : Ints 24) : (eqlAgg 331 x y (.agg (enc .u8 u)) (.agg (enc .u8 v))).run Tryz.prog w = .ok (.value (.bool (decide (u = v)))) w := run_eqlAgg ints331 (by kernel_rfl) w x y u v
@[go_sem] theorem run_neq331 (u v : Ints 24) : (neqAgg 331 x y (.agg (enc .u8 u)) (.agg (enc .u8 v))).run Tryz.prog w = .ok (.value (.bool (!decide (u = v)))) w := run_neqAgg ints331 (by kernel_rfl) w x y u v
@[go_sem ↓] theorem execOp_build331 :
    execOp ρ { dst, op := .build 331 parts, type := tt, pos, after, guard } = buildAgg 331 (parts.map fun p => (p.1, ρ p.2)) := rfl
@[go_sem] theorem run_build331 (vs : Array (Nat × Value)) : (buildAgg 331 vs).run Tryz.prog w = bif okI .u8 24 vs.toList then .ok (.value (.agg (enc .u8 (updI (Ints.zero 24) vs.toList)))) w else buildUnsaid Tryz.prog 331 vs w := run_buildInts ints331 (by kernel_rfl) w vs
theorem agg342 : AggTy Tryz.prog 342 24 := ⟨⟨_, Tryz.underlying342, rfl⟩, by kernel_rfl⟩
@[go_sem ↓] theorem execOp_load342 :
    execOp ρ { dst, op := .load 342 x, type := tt, pos, after, guard } = loadAgg 342 (ρ x) := rfl
@[go_sem] theorem run_load342 (h : off + 24 ≤ (w.cellsAt b).size) : (loadAgg 342 (.pointer (some ⟨b, off, none⟩))).run Tryz.prog w = .ok (.value (.agg ((w.cellsAt b).extract off (off + 24)))) w := run_loadAgg agg342 w b off h
@[go_sem ↓] theorem execOp_store342 :
    execOp ρ { dst, op := .store 342 x y, type := tt, pos, after, guard } = storeAgg 342 (ρ x) (ρ y) := rfl
@[go_sem] theorem run_store342 (hA : A.size = 24) (h : off + 24 ≤ (w.cellsAt b).size) (hp : w.plain b) (h1 : AllOne A) : (storeAgg 342 (.pointer (some ⟨b, off, none⟩)) (.agg A)).run Tryz.prog w = .ok .skip (w.putCells b off A) := run_storeAgg agg342 w b off A hA h hp h1
@[go_sem ↓] theorem execOp_alloc342 :
    execOp ρ { dst, op := .alloc 342, type := tt, pos, after, guard } = allocAgg 342 := rfl
@[go_sem] theorem run_alloc342 : (allocAgg 342).run Tryz.prog w = .ok (.value (.pointer (some ⟨w.heap.size, 0, none⟩))) (w.alloc (.cells (enc .u64 (Ints.zero 24)) 342)) := run_allocAgg (A := enc .u64 (Ints.zero 24)) (by kernel_rfl) w
@[go_sem ↓] theorem execOp_eql342 :
    execOp ρ { dst, op := .binOp .eql 342 x y yt, type := tt, pos, after, guard } = eqlAgg 342 x y (ρ x) (ρ y) := rfl
@[go_sem ↓] theorem execOp_neq342 :
    execOp ρ { dst, op := .binOp .neq 342 x y yt, type := tt, pos, after, guard } = neqAgg 342 x y (ρ x) (ρ y) := rfl
@[go_sem] theorem arrayLen342 : Tryz.prog.arrayLen 342 = 24 := by kernel_rfl
@[go_sem] theorem elem342 : Tryz.prog.elem 342 = 24 := by kernel_rfl
theorem ints342 : IntsTy Tryz.prog 342 24 .u64 := ⟨⟨24, Tryz.underlying342, Tryz.underlying24, by kernel_rfl, by kernel_rfl⟩⟩
@[go_sem] theorem run_eql342 (u v : Ints 24) : (eqlAgg 342 x y (.agg (enc .u64 u)) (.agg (enc .u64 v))).run Tryz.prog w = .ok (.value (.bool (decide (u = v)))) w := run_eqlAgg ints342 (by kernel_rfl) w x y u v
@[go_sem] theorem run_neq342 (u v : Ints 24) : (neqAgg 342 x y (.agg (enc .u64 u)) (.agg (enc .u64 v))).run Tryz.prog w = .ok (.value (.bool (!decide (u = v)))) w := run_neqAgg ints342 (by kernel_rfl) w x y u v
@[go_sem ↓] theorem execOp_build342 :
    execOp ρ { dst, op := .build 342 parts, type := tt, pos, after, guard } = buildAgg 342 (parts.map fun p => (p.1, ρ p.2)) := rfl
@[go_sem] theorem run_build342 (vs : Array (Nat × Value)) : (buildAgg 342 vs).run Tryz.prog w = bif okI .u64 24 vs.toList then .ok (.value (.agg (enc .u64 (updI (Ints.zero 24) vs.toList)))) w else buildUnsaid Tryz.prog 342 vs w := run_buildInts ints342 (by kernel_rfl) w vs
theorem agg350 : AggTy Tryz.prog 350 20 := ⟨⟨_, Tryz.underlying350, rfl⟩, by kernel_rfl⟩
@[go_sem ↓] theorem execOp_load350 :
    execOp ρ { dst, op := .load 350 x, type := tt, pos, after, guard } = loadAgg 350 (ρ x) := rfl
@[go_sem] theorem run_load350 (h : off + 20 ≤ (w.cellsAt b).size) : (loadAgg 350 (.pointer (some ⟨b, off, none⟩))).run Tryz.prog w = .ok (.value (.agg ((w.cellsAt b).extract off (off + 20)))) w := run_loadAgg agg350 w b off h
@[go_sem ↓] theorem execOp_store350 :
    execOp ρ { dst, op := .store 350 x y, type := tt, pos, after, guard } = storeAgg 350 (ρ x) (ρ y) := rfl
@[go_sem] theorem run_store350 (hA : A.size = 20) (h : off + 20 ≤ (w.cellsAt b).size) (hp : w.plain b) (h1 : AllOne A) : (storeAgg 350 (.pointer (some ⟨b, off, none⟩)) (.agg A)).run Tryz.prog w = .ok .skip (w.putCells b off A) := run_storeAgg agg350 w b off A hA h hp h1
@[go_sem ↓] theorem execOp_alloc350 :
    execOp ρ { dst, op := .alloc 350, type := tt, pos, after, guard } = allocAgg 350 := rfl
@[go_sem] theorem run_alloc350 : (allocAgg 350).run Tryz.prog w = .ok (.value (.pointer (some ⟨w.heap.size, 0, none⟩))) (w.alloc (.cells (enc .u64 (Ints.zero 20)) 350)) := run_allocAgg (A := enc .u64 (Ints.zero 20)) (by kernel_rfl) w
@[go_sem ↓] theorem execOp_eql350 :
    execOp ρ { dst, op := .binOp .eql 350 x y yt, type := tt, pos, after, guard } = eqlAgg 350 x y (ρ x) (ρ y) := rfl
@[go_sem ↓] theorem execOp_neq350 :
    execOp ρ { dst, op := .binOp .neq 350 x y yt, type := tt, pos, after, guard } = neqAgg 350 x y (ρ x) (ρ y) := rfl
@[go_sem] theorem arrayLen350 : Tryz.prog.arrayLen 350 = 20 := by kernel_rfl
@[go_sem] theorem elem350 : Tryz.prog.elem 350 = 24 := by kernel_rfl
theorem ints350 : IntsTy Tryz.prog 350 20 .u64 := ⟨⟨24, Tryz.underlying350, Tryz.underlying24, by kernel_rfl, by kernel_rfl⟩⟩
@[go_sem] theorem run_eql350 (u v : Ints 20) : (eqlAgg 350 x y (.agg (enc .u64 u)) (.agg (enc .u64 v))).run Tryz.prog w = .ok (.value (.bool (decide (u = v)))) w := run_eqlAgg ints350 (by kernel_rfl) w x y u v
@[go_sem] theorem run_neq350 (u v : Ints 20) : (neqAgg 350 x y (.agg (enc .u64 u)) (.agg (enc .u64 v))).run Tryz.prog w = .ok (.value (.bool (!decide (u = v)))) w := run_neqAgg ints350 (by kernel_rfl) w x y u v
@[go_sem ↓] theorem execOp_build350 :
    execOp ρ { dst, op := .build 350 parts, type := tt, pos, after, guard } = buildAgg 350 (parts.map fun p => (p.1, ρ p.2)) := rfl
@[go_sem] theorem run_build350 (vs : Array (Nat × Value)) : (buildAgg 350 vs).run Tryz.prog w = bif okI .u64 20 vs.toList then .ok (.value (.agg (enc .u64 (updI (Ints.zero 20) vs.toList)))) w else buildUnsaid Tryz.prog 350 vs w := run_buildInts ints350 (by kernel_rfl) w vs
theorem agg351 : AggTy Tryz.prog 351 65 := ⟨⟨_, Tryz.underlying351, rfl⟩, by kernel_rfl⟩
@[go_sem ↓] theorem execOp_load351 :
    execOp ρ { dst, op := .load 351 x, type := tt, pos, after, guard } = loadAgg 351 (ρ x) := rfl
@[go_sem] theorem run_load351 (h : off + 65 ≤ (w.cellsAt b).size) : (loadAgg 351 (.pointer (some ⟨b, off, none⟩))).run Tryz.prog w = .ok (.value (.agg ((w.cellsAt b).extract off (off + 65)))) w := run_loadAgg agg351 w b off h
@[go_sem ↓] theorem execOp_store351 :
    execOp ρ { dst, op := .store 351 x y, type := tt, pos, after, guard } = storeAgg 351 (ρ x) (ρ y) := rfl
@[go_sem] theorem run_store351 (hA : A.size = 65) (h : off + 65 ≤ (w.cellsAt b).size) (hp : w.plain b) (h1 : AllOne A) : (storeAgg 351 (.pointer (some ⟨b, off, none⟩)) (.agg A)).run Tryz.prog w = .ok .skip (w.putCells b off A) := run_storeAgg agg351 w b off A hA h hp h1
@[go_sem ↓] theorem execOp_alloc351 :
    execOp ρ { dst, op := .alloc 351, type := tt, pos, after, guard } = allocAgg 351 := rfl
@[go_sem] theorem run_alloc351 : (allocAgg 351).run Tryz.prog w = .ok (.value (.pointer (some ⟨w.heap.size, 0, none⟩))) (w.alloc (.cells (enc .u8 (Ints.zero 65)) 351)) := run_allocAgg (A := enc .u8 (Ints.zero 65)) (by kernel_rfl) w
@[go_sem ↓] theorem execOp_eql351 :
    execOp ρ { dst, op := .binOp .eql 351 x y yt, type := tt, pos, after, guard } = eqlAgg 351 x y (ρ x) (ρ y) := rfl
@[go_sem ↓] theorem execOp_neq351 :
    execOp ρ { dst, op := .binOp .neq 351 x y yt, type := tt, pos, after, guard } = neqAgg 351 x y (ρ x) (ρ y) := rfl
@[go_sem] theorem arrayLen351 : Tryz.prog.arrayLen 351 = 65 := by kernel_rfl
@[go_sem] theorem elem351 : Tryz.prog.elem 351 = 5 := by kernel_rfl
theorem ints351 : IntsTy Tryz.prog 351 65 .u8 := ⟨⟨5, Tryz.underlying351, Tryz.underlying5, by kernel_rfl, by kernel_rfl⟩⟩
@[go_sem] theorem run_eql351 (u v : Ints 65) : (eqlAgg 351 x y (.agg (enc .u8 u)) (.agg (enc .u8 v))).run Tryz.prog w = .ok (.value (.bool (decide (u = v)))) w := run_eqlAgg ints351 (by kernel_rfl) w x y u v
@[go_sem] theorem run_neq351 (u v : Ints 65) : (neqAgg 351 x y (.agg (enc .u8 u)) (.agg (enc .u8 v))).run Tryz.prog w = .ok (.value (.bool (!decide (u = v)))) w := run_neqAgg ints351 (by kernel_rfl) w x y u v
@[go_sem ↓] theorem execOp_build351 :
    execOp ρ { dst, op := .build 351 parts, type := tt, pos, after, guard } = buildAgg 351 (parts.map fun p => (p.1, ρ p.2)) := rfl
@[go_sem] theorem run_build351 (vs : Array (Nat × Value)) : (buildAgg 351 vs).run Tryz.prog w = bif okI .u8 65 vs.toList then .ok (.value (.agg (enc .u8 (updI (Ints.zero 65) vs.toList)))) w else buildUnsaid Tryz.prog 351 vs w := run_buildInts ints351 (by kernel_rfl) w vs
theorem agg353 : AggTy Tryz.prog 353 5 := ⟨⟨_, Tryz.underlying353, rfl⟩, by kernel_rfl⟩
@[go_sem ↓] theorem execOp_load353 :
    execOp ρ { dst, op := .load 353 x, type := tt, pos, after, guard } = loadAgg 353 (ρ x) := rfl
@[go_sem] theorem run_load353 (h : off + 5 ≤ (w.cellsAt b).size) : (loadAgg 353 (.pointer (some ⟨b, off, none⟩))).run Tryz.prog w = .ok (.value (.agg ((w.cellsAt b).extract off (off + 5)))) w := run_loadAgg agg353 w b off h
@[go_sem ↓] theorem execOp_store353 :
    execOp ρ { dst, op := .store 353 x y, type := tt, pos, after, guard } = storeAgg 353 (ρ x) (ρ y) := rfl
@[go_sem] theorem run_store353 (hA : A.size = 5) (h : off + 5 ≤ (w.cellsAt b).size) (hp : w.plain b) (h1 : AllOne A) : (storeAgg 353 (.pointer (some ⟨b, off, none⟩)) (.agg A)).run Tryz.prog w = .ok .skip (w.putCells b off A) := run_storeAgg agg353 w b off A hA h hp h1
@[go_sem ↓] theorem execOp_alloc353 :
    execOp ρ { dst, op := .alloc 353, type := tt, pos, after, guard } = allocAgg 353 := rfl
@[go_sem] theorem run_alloc353 : (allocAgg 353).run Tryz.prog w = .ok (.value (.pointer (some ⟨w.heap.size, 0, none⟩))) (w.alloc (.cells (enc .u64 (Ints.zero 5)) 353)) := run_allocAgg (A := enc .u64 (Ints.zero 5)) (by kernel_rfl) w
@[go_sem ↓] theorem execOp_eql353 :
    execOp ρ { dst, op := .binOp .eql 353 x y yt, type := tt, pos, after, guard } = eqlAgg 353 x y (ρ x) (ρ y) := rfl
@[go_sem ↓] theorem execOp_neq353 :
    execOp ρ { dst, op := .binOp .neq 353 x y yt, type := tt, pos, after, guard } = neqAgg 353 x y (ρ x) (ρ y) := rfl
@[go_sem] theorem arrayLen353 : Tryz.prog.arrayLen 353 = 5 := by kernel_rfl
@[go_sem] theorem elem353 : Tryz.prog.elem 353 = 24 := by kernel_rfl
theorem ints353 : IntsTy Tryz.prog 353 5 .u64 := ⟨⟨24, Tryz.underlying353, Tryz.underlying24, by kernel_rfl, by kernel_rfl⟩⟩
@[go_sem] theorem run_eql353 (u v : Ints 5) : (eqlAgg 353 x y (.agg (enc .u64 u)) (.agg (enc .u64 v))).run Tryz.prog w = .ok (.value (.bool (decide (u = v)))) w := run_eqlAgg ints353 (by kernel_rfl) w x y u v
@[go_sem] theorem run_neq353 (u v : Ints 5) : (neqAgg 353 x y (.agg (enc .u64 u)) (.agg (enc .u64 v))).run Tryz.prog w = .ok (.value (.bool (!decide (u = v)))) w := run_neqAgg ints353 (by kernel_rfl) w x y u v
@[go_sem ↓] theorem execOp_build353 :
    execOp ρ { dst, op := .build 353 parts, type := tt, pos, after, guard } = buildAgg 353 (parts.map fun p => (p.1, ρ p.2)) := rfl
@[go_sem] theorem run_build353 (vs : Array (Nat × Value)) : (buildAgg 353 vs).run Tryz.prog w = bif okI .u64 5 vs.toList then .ok (.value (.agg (enc .u64 (updI (Ints.zero 5) vs.toList)))) w else buildUnsaid Tryz.prog 353 vs w := run_buildInts ints353 (by kernel_rfl) w vs
theorem agg355 : AggTy Tryz.prog 355 24 := ⟨⟨_, Tryz.underlying355, rfl⟩, by kernel_rfl⟩
@[go_sem ↓] theorem execOp_load355 :
    execOp ρ { dst, op := .load 355 x, type := tt, pos, after, guard } = loadAgg 355 (ρ x) := rfl
@[go_sem] theorem run_load355 (h : off + 24 ≤ (w.cellsAt b).size) : (loadAgg 355 (.pointer (some ⟨b, off, none⟩))).run Tryz.prog w = .ok (.value (.agg ((w.cellsAt b).extract off (off + 24)))) w := run_loadAgg agg355 w b off h
@[go_sem ↓] theorem execOp_store355 :
    execOp ρ { dst, op := .store 355 x y, type := tt, pos, after, guard } = storeAgg 355 (ρ x) (ρ y) := rfl
@[go_sem] theorem run_store355 (hA : A.size = 24) (h : off + 24 ≤ (w.cellsAt b).size) (hp : w.plain b) (h1 : AllOne A) : (storeAgg 355 (.pointer (some ⟨b, off, none⟩)) (.agg A)).run Tryz.prog w = .ok .skip (w.putCells b off A) := run_storeAgg agg355 w b off A hA h hp h1
@[go_sem ↓] theorem execOp_alloc355 :
    execOp ρ { dst, op := .alloc 355, type := tt, pos, after, guard } = allocAgg 355 := rfl
@[go_sem] theorem run_alloc355 : (allocAgg 355).run Tryz.prog w = .ok (.value (.pointer (some ⟨w.heap.size, 0, none⟩))) (w.alloc (.cells (enc .i64 (Ints.zero 24)) 355)) := run_allocAgg (A := enc .i64 (Ints.zero 24)) (by kernel_rfl) w
@[go_sem ↓] theorem execOp_eql355 :
    execOp ρ { dst, op := .binOp .eql 355 x y yt, type := tt, pos, after, guard } = eqlAgg 355 x y (ρ x) (ρ y) := rfl
@[go_sem ↓] theorem execOp_neq355 :
    execOp ρ { dst, op := .binOp .neq 355 x y yt, type := tt, pos, after, guard } = neqAgg 355 x y (ρ x) (ρ y) := rfl
@[go_sem] theorem arrayLen355 : Tryz.prog.arrayLen 355 = 24 := by kernel_rfl
@[go_sem] theorem elem355 : Tryz.prog.elem 355 = 3 := by kernel_rfl
theorem ints355 : IntsTy Tryz.prog 355 24 .i64 := ⟨⟨3, Tryz.underlying355, Tryz.underlying3, by kernel_rfl, by kernel_rfl⟩⟩
@[go_sem] theorem run_eql355 (u v : Ints 24) : (eqlAgg 355 x y (.agg (enc .i64 u)) (.agg (enc .i64 v))).run Tryz.prog w = .ok (.value (.bool (decide (u = v)))) w := run_eqlAgg ints355 (by kernel_rfl) w x y u v
@[go_sem] theorem run_neq355 (u v : Ints 24) : (neqAgg 355 x y (.agg (enc .i64 u)) (.agg (enc .i64 v))).run Tryz.prog w = .ok (.value (.bool (!decide (u = v)))) w := run_neqAgg ints355 (by kernel_rfl) w x y u v
@[go_sem ↓] theorem execOp_build355 :
    execOp ρ { dst, op := .build 355 parts, type := tt, pos, after, guard } = buildAgg 355 (parts.map fun p => (p.1, ρ p.2)) := rfl
@[go_sem] theorem run_build355 (vs : Array (Nat × Value)) : (buildAgg 355 vs).run Tryz.prog w = bif okI .i64 24 vs.toList then .ok (.value (.agg (enc .i64 (updI (Ints.zero 24) vs.toList)))) w else buildUnsaid Tryz.prog 355 vs w := run_buildInts ints355 (by kernel_rfl) w vs
theorem agg360 : AggTy Tryz.prog 360 64 := ⟨⟨_, Tryz.underlying360, rfl⟩, by kernel_rfl⟩
@[go_sem ↓] theorem execOp_load360 :
    execOp ρ { dst, op := .load 360 x, type := tt, pos, after, guard } = loadAgg 360 (ρ x) := rfl
@[go_sem] theorem run_load360 (h : off + 64 ≤ (w.cellsAt b).size) : (loadAgg 360 (.pointer (some ⟨b, off, none⟩))).run Tryz.prog w = .ok (.value (.agg ((w.cellsAt b).extract off (off + 64)))) w := run_loadAgg agg360 w b off h
@[go_sem ↓] theorem execOp_store360 :
    execOp ρ { dst, op := .store 360 x y, type := tt, pos, after, guard } = storeAgg 360 (ρ x) (ρ y) := rfl
@[go_sem] theorem run_store360 (hA : A.size = 64) (h : off + 64 ≤ (w.cellsAt b).size) (hp : w.plain b) (h1 : AllOne A) : (storeAgg 360 (.pointer (some ⟨b, off, none⟩)) (.agg A)).run Tryz.prog w = .ok .skip (w.putCells b off A) := run_storeAgg agg360 w b off A hA h hp h1
@[go_sem ↓] theorem execOp_alloc360 :
    execOp ρ { dst, op := .alloc 360, type := tt, pos, after, guard } = allocAgg 360 := rfl
@[go_sem] theorem run_alloc360 : (allocAgg 360).run Tryz.prog w = .ok (.value (.pointer (some ⟨w.heap.size, 0, none⟩))) (w.alloc (.cells (enc .u8 (Ints.zero 64)) 360)) := run_allocAgg (A := enc .u8 (Ints.zero 64)) (by kernel_rfl) w
@[go_sem ↓] theorem execOp_eql360 :
    execOp ρ { dst, op := .binOp .eql 360 x y yt, type := tt, pos, after, guard } = eqlAgg 360 x y (ρ x) (ρ y) := rfl
@[go_sem ↓] theorem execOp_neq360 :
    execOp ρ { dst, op := .binOp .neq 360 x y yt, type := tt, pos, after, guard } = neqAgg 360 x y (ρ x) (ρ y) := rfl
@[go_sem] theorem arrayLen360 : Tryz.prog.arrayLen 360 = 64 := by kernel_rfl
@[go_sem] theorem elem360 : Tryz.prog.elem 360 = 5 := by kernel_rfl
theorem ints360 : IntsTy Tryz.prog 360 64 .u8 := ⟨⟨5, Tryz.underlying360, Tryz.underlying5, by kernel_rfl, by kernel_rfl⟩⟩
@[go_sem] theorem run_eql360 (u v : Ints 64) : (eqlAgg 360 x y (.agg (enc .u8 u)) (.agg (enc .u8 v))).run Tryz.prog w = .ok (.value (.bool (decide (u = v)))) w := run_eqlAgg ints360 (by kernel_rfl) w x y u v
@[go_sem] theorem run_neq360 (u v : Ints 64) : (neqAgg 360 x y (.agg (enc .u8 u)) (.agg (enc .u8 v))).run Tryz.prog w = .ok (.value (.bool (!decide (u = v)))) w := run_neqAgg ints360 (by kernel_rfl) w x y u v
@[go_sem ↓] theorem execOp_build360 :
    execOp ρ { dst, op := .build 360 parts, type := tt, pos, after, guard } = buildAgg 360 (parts.map fun p => (p.1, ρ p.2)) := rfl
@[go_sem] theorem run_build360 (vs : Array (Nat × Value)) : (buildAgg 360 vs).run Tryz.prog w = bif okI .u8 64 vs.toList then .ok (.value (.agg (enc .u8 (updI (Ints.zero 64) vs.toList)))) w else buildUnsaid Tryz.prog 360 vs w := run_buildInts ints360 (by kernel_rfl) w vs
end
end Go.Proofs.YtiokdncglbfmlaaGreatDoor
