/- Functions' code, with notes for the interpreter, and the facts that it is the program's: made by a program. -/
import Derived.Test.YtdhbecdlablonaaWb22a
set_option linter.unusedVariables false
namespace Go.Proofs.YtdhbecdlablonaaV
open Go.RowKit

def c36_1 (z : Nat) : SC := .post (.seq (.seq (.post (.reg [⟨(some 26), (Op.move (Operand.tmp 6)), none, ann0⟩,
  ⟨(some 27), (Op.fieldAddr 28 (Operand.tmp 3) 3), none, ann0⟩,
  ⟨(some 28), (Op.load 26 (Operand.tmp 27)), none, ann0⟩,
  ⟨(some 29), (Op.call { callee := (Callee.builtin Builtin.len), args := #[(Operand.tmp 28)], argTypes := #[26] }), none, ann0⟩,
  ⟨(some 30), (Op.binOp BinOp.lss 3 (Operand.tmp 26) (Operand.tmp 29) 3), none, ann0⟩] none) (.tidy [3, 4, 5, 6, 30] z (z + 5)))
 (.cond (Operand.tmp 30) .skip
 (.exit 0)))
 (.seq (.post (.block 1 (.reg [⟨(some 33), (Op.fieldAddr 28 (Operand.tmp 5) 3), none, ann0⟩,
  ⟨(some 34), (Op.load 26 (Operand.tmp 33)), none, ann0⟩,
  ⟨(some 35), (Op.fieldAddr 28 (Operand.tmp 3) 3), none, ann0⟩,
  ⟨(some 36), (Op.load 26 (Operand.tmp 35)), none, ann0⟩,
  ⟨(some 37), (Op.move (Operand.tmp 6)), none, ann0⟩,
  ⟨(some 38), (Op.indexAddr 26 (Operand.tmp 36) (Operand.tmp 37)), none, ann0⟩,
  ⟨(some 39), (Op.fieldAddr 25 (Operand.tmp 38) 0), none, ann0⟩,
  ⟨(some 40), (Op.load 9 (Operand.tmp 39)), none, ann0⟩,
  ⟨(some 41), (Op.fieldAddr 28 (Operand.tmp 3) 3), none, ann0⟩,
  ⟨(some 42), (Op.load 26 (Operand.tmp 41)), none, ann0⟩,
  ⟨(some 43), (Op.move (Operand.tmp 6)), none, ann0⟩,
  ⟨(some 44), (Op.indexAddr 26 (Operand.tmp 42) (Operand.tmp 43)), none, ann0⟩,
  ⟨(some 45), (Op.fieldAddr 25 (Operand.tmp 44) 1), none, ann0⟩,
  ⟨(some 46), (Op.load 3 (Operand.tmp 45)), none, ann0⟩,
  ⟨(some 47), (Op.call { callee := (Callee.value (Operand.func 44)), args := #[(Operand.tmp 34), (Operand.tmp 40), (Operand.tmp 46)], argTypes := #[26, 9, 3] }), none, ann0⟩,
  ⟨(some 48), (Op.fieldAddr 28 (Operand.tmp 5) 3), none, ann0⟩,
  ⟨none, (Op.store 26 (Operand.tmp 48) (Operand.tmp 47)), none, ann0⟩] (some [0, 1, 0, 4, 0, 28, 60, 124, 0, 256, 0, 1792, 3840, 7936, 16383, 32767, 65535]))) (.tidy [3, 4, 5, 6] z (z + 5)))
 (.reg [⟨(some 31), (Op.move (Operand.tmp 6)), none, ann0⟩,
  ⟨(some 32), (Op.binOp BinOp.add 3 (Operand.tmp 31) (Operand.const (Value.int IntKind.i64 1)) 3), none, ann0⟩,
  ⟨(some 6), (Op.assign (Operand.tmp 32)), none, ann0⟩] none))) (.tidy [3, 4, 5, 6] z (z + 5))
def s36_1 (z : Nat) : SC := c36_1 z
theorem e36_1 {C : Pg} {z : Nat} {st : St} {ks : List Fr} {K : Ex → St → Prop} : wpk C (s36_1 z) st ks K ↔ wpk C (c36_1 z) st ks K := Iff.rfl
def s36 (z : Nat) : SFn := ⟨2, 74, [(ResultVar.cell 4 28)],
 (.seq (.reg [⟨(some 2), (Op.box 28 (Operand.tmp 0)), none, ⟨1, false, false⟩⟩,
  ⟨(some 3), (Op.box 28 (Operand.tmp 1)), none, ⟨1, false, false⟩⟩,
  ⟨(some 4), (Op.alloc 28), none, ⟨1, false, false⟩⟩] none)
 (.seq (.post (.reg [⟨(some 8), (Op.fieldAddr 28 (Operand.tmp 2) 0), none, ann0⟩,
  ⟨(some 9), (Op.load 3 (Operand.tmp 8)), none, ann0⟩,
  ⟨(some 10), (Op.fieldAddr 28 (Operand.tmp 2) 1), none, ann0⟩,
  ⟨(some 11), (Op.load 3 (Operand.tmp 10)), none, ann0⟩,
  ⟨(some 12), (Op.fieldAddr 28 (Operand.tmp 3) 1), none, ann0⟩,
  ⟨(some 13), (Op.load 3 (Operand.tmp 12)), none, ann0⟩,
  ⟨(some 14), (Op.binOp BinOp.add 3 (Operand.tmp 11) (Operand.tmp 13) 3), none, ann0⟩,
  ⟨(some 15), (Op.fieldAddr 28 (Operand.tmp 2) 2), none, ann0⟩,
  ⟨(some 16), (Op.load 3 (Operand.tmp 15)), none, ann0⟩,
  ⟨(some 17), (Op.fieldAddr 28 (Operand.tmp 3) 2), none, ann0⟩,
  ⟨(some 18), (Op.load 3 (Operand.tmp 17)), none, ann0⟩,
  ⟨(some 19), (Op.binOp BinOp.add 3 (Operand.tmp 16) (Operand.tmp 18) 3), none, ann0⟩,
  ⟨(some 20), (Op.build 28 #[(0, (Operand.tmp 9)), (1, (Operand.tmp 14)), (2, (Operand.tmp 19))]), none, ann0⟩,
  ⟨(some 5), (Op.alloc 28), none, ⟨1, false, false⟩⟩,
  ⟨none, (Op.store 28 (Operand.tmp 5) (Operand.tmp 20)), none, ann0⟩] none) (.tidy [2, 3, 4, 5] z (z + 4)))
 (.seq (.reg [⟨(some 21), (Op.buildSlice 26 0 #[]), none, ⟨1, false, false⟩⟩,
  ⟨(some 22), (Op.fieldAddr 28 (Operand.tmp 2) 3), none, ann0⟩,
  ⟨(some 23), (Op.load 26 (Operand.tmp 22)), none, ann0⟩,
  ⟨(some 24), (Op.call { callee := (Callee.builtin Builtin.append), args := #[(Operand.tmp 21), (Operand.tmp 23)], argTypes := #[26, 26] }), none, ann0⟩,
  ⟨(some 25), (Op.fieldAddr 28 (Operand.tmp 5) 3), none, ann0⟩,
  ⟨none, (Op.store 26 (Operand.tmp 25) (Operand.tmp 24)), none, ann0⟩] none)
 (.seq (.post (.seq (.reg [⟨(some 6), (Op.assign (Operand.const (Value.int IntKind.i64 0))), none, ann0⟩] none)
 (.post (.pre (.frb 5 3) (.block 0 (.pre (.tidy [3, 4, 5, 6] z (z + 5)) (.loop (s36_1 z))))) (.tidy [4, 5] z (z + 5)))) (.tidy [4, 5] z (z + 5)))
 (.seq (.post (.seq (.reg [⟨(some 49), (Op.fieldAddr 28 (Operand.tmp 5) 3), none, ann0⟩,
  ⟨(some 50), (Op.load 26 (Operand.tmp 49)), none, ann0⟩,
  ⟨(some 51), (Op.call { callee := (Callee.builtin Builtin.len), args := #[(Operand.tmp 50)], argTypes := #[26] }), none, ann0⟩,
  ⟨(some 52), (Op.fieldAddr 28 (Operand.tmp 5) 0), none, ann0⟩,
  ⟨(some 53), (Op.load 3 (Operand.tmp 52)), none, ann0⟩,
  ⟨(some 54), (Op.binOp BinOp.gtr 3 (Operand.tmp 51) (Operand.tmp 53) 3), none, ann0⟩] none)
 (.cond (Operand.tmp 54) (.seq (.post (.reg [⟨(some 55), (Op.fieldAddr 28 (Operand.tmp 5) 3), none, ann0⟩,
  ⟨(some 56), (Op.load 26 (Operand.tmp 55)), none, ann0⟩,
  ⟨(some 57), (Op.call { callee := (Callee.value (Operand.func 35)), args := #[(Operand.tmp 56)], argTypes := #[26] }), none, ann0⟩,
  ⟨(some 58), (Op.fieldAddr 28 (Operand.tmp 5) 0), none, ann0⟩,
  ⟨(some 59), (Op.load 3 (Operand.tmp 58)), none, ann0⟩,
  ⟨(some 60), (Op.indexAddr 26 (Operand.tmp 57) (Operand.tmp 59)), none, ann0⟩,
  ⟨(some 61), (Op.fieldAddr 25 (Operand.tmp 60) 1), none, ann0⟩,
  ⟨(some 62), (Op.load 3 (Operand.tmp 61)), none, ann0⟩,
  ⟨(some 7), (Op.assign (Operand.tmp 62)), none, ann0⟩] (some [0, 1, 3, 0, 8, 31, 63, 127, 255])) (.tidy [4, 5, 7] z (z + 5)))
 (.reg [⟨(some 63), (Op.fieldAddr 28 (Operand.tmp 5) 3), none, ann0⟩,
  ⟨(some 64), (Op.load 26 (Operand.tmp 63)), none, ann0⟩,
  ⟨(some 65), (Op.move (Operand.tmp 7)), none, ann0⟩,
  ⟨(some 66), (Op.call { callee := (Callee.value (Operand.func 45)), args := #[(Operand.tmp 64), (Operand.tmp 65)], argTypes := #[26, 3] }), none, ann0⟩,
  ⟨(some 67), (Op.fieldAddr 28 (Operand.tmp 5) 2), none, ann0⟩,
  ⟨(some 68), (Op.load 3 (Operand.tmp 67)), none, ann0⟩,
  ⟨(some 69), (Op.move (Operand.tmp 7)), none, ann0⟩,
  ⟨(some 70), (Op.binOp BinOp.add 3 (Operand.tmp 68) (Operand.tmp 69) 3), none, ann0⟩,
  ⟨(some 71), (Op.fieldAddr 28 (Operand.tmp 5) 3), none, ann0⟩,
  ⟨none, (Op.store 26 (Operand.tmp 71) (Operand.tmp 66)), none, ann0⟩,
  ⟨(some 72), (Op.fieldAddr 28 (Operand.tmp 5) 2), none, ann0⟩,
  ⟨none, (Op.store 3 (Operand.tmp 72) (Operand.tmp 70)), none, ann0⟩] (some [0, 1, 0, 7, 0, 16, 0, 112, 63, 319, 1023, 2047])))
 .skip)) (.tidy [4, 5] z (z + 5)))
 (.seq (.reg [⟨(some 73), (Op.load 28 (Operand.tmp 5)), none, ann0⟩,
  ⟨none, (Op.store 28 (Operand.tmp 4) (Operand.tmp 73)), none, ann0⟩] none)
 .ret))))))⟩
theorem F36 (z : Nat) : FOk Try.prog 36 (s36 z) := by unfold FOk; kernel_rfl
def s37 (z : Nat) : SFn := ⟨4, 16, [(ResultVar.tmp 8)],
 (.post (.seq (.reg [⟨(some 8), (Op.assign (Operand.const (Value.slice none 0 0))), none, ann0⟩] none)
 (.seq (.reg [⟨(some 9), (Op.move (Operand.tmp 0)), none, ann0⟩,
  ⟨(some 10), (Op.move (Operand.tmp 1)), none, ann0⟩,
  ⟨(some 11), (Op.build 25 #[(0, (Operand.tmp 9)), (1, (Operand.tmp 10))]), none, ann0⟩,
  ⟨(some 12), (Op.move (Operand.tmp 2)), none, ann0⟩,
  ⟨(some 13), (Op.move (Operand.tmp 3)), none, ann0⟩,
  ⟨(some 14), (Op.build 25 #[(0, (Operand.tmp 12)), (1, (Operand.tmp 13))]), none, ann0⟩,
  ⟨(some 15), (Op.buildSlice 26 2 #[(0, (Operand.tmp 11)), (1, (Operand.tmp 14))]), none, ⟨1, true, false⟩⟩,
  ⟨(some 8), (Op.assign (Operand.tmp 15)), none, ann0⟩] none)
 .ret)) (.frz 8))⟩
theorem F37 (z : Nat) : FOk Try.prog 37 (s37 z) := by unfold FOk; kernel_rfl
def c38_1 (z : Nat) : SC := .post (.seq (.reg [⟨(some 11), (Op.binOp BinOp.lss 3 (Operand.tmp 10) (Operand.tmp 9) 3), none, ann0⟩] none)
 (.seq (.cond (Operand.tmp 11) .skip
 (.exit 0))
 (.seq (.post (.block 1 (.seq (.reg [⟨(some 12), (Op.indexAddr 26 (Operand.tmp 8) (Operand.tmp 10)), none, ann0⟩,
  ⟨(some 13), (Op.load 25 (Operand.tmp 12)), none, ann0⟩,
  ⟨(some 5), (Op.alloc 25), none, ⟨1, false, false⟩⟩,
  ⟨none, (Op.store 25 (Operand.tmp 5) (Operand.tmp 13)), none, ann0⟩] none)
 (.reg [⟨(some 14), (Op.move (Operand.tmp 3)), none, ann0⟩,
  ⟨(some 15), (Op.fieldAddr 25 (Operand.tmp 5) 0), none, ann0⟩,
  ⟨(some 16), (Op.load 9 (Operand.tmp 15)), none, ann0⟩,
  ⟨(some 17), (Op.lookup 69 (Operand.tmp 14) (Operand.tmp 16) false), none, ann0⟩,
  ⟨(some 18), (Op.fieldAddr 25 (Operand.tmp 5) 1), none, ann0⟩,
  ⟨(some 19), (Op.load 3 (Operand.tmp 18)), none, ann0⟩,
  ⟨(some 20), (Op.binOp BinOp.add 3 (Operand.tmp 17) (Operand.tmp 19) 3), none, ann0⟩,
  ⟨none, (Op.mapUpdate 69 (Operand.tmp 14) (Operand.tmp 16) (Operand.tmp 20)), none, ann0⟩] none))) (.tidy [3, 8, 9, 10] z (z + 3)))
 (.reg [⟨(some 21), (Op.binOp BinOp.add 3 (Operand.tmp 10) (Operand.const (Value.int IntKind.i64 1)) 3), none, ann0⟩,
  ⟨(some 10), (Op.move (Operand.tmp 21)), none, ann0⟩] none)))) (.tidy [3, 8, 9, 10] z (z + 2))
def s38_1 (z : Nat) : SC := c38_1 z
theorem e38_1 {C : Pg} {z : Nat} {st : St} {ks : List Fr} {K : Ex → St → Prop} : wpk C (s38_1 z) st ks K ↔ wpk C (c38_1 z) st ks K := Iff.rfl
def s38 (z : Nat) : SFn := ⟨1, 23, [(ResultVar.tmp 2)],
 (.seq (.reg [⟨(some 1), (Op.box 28 (Operand.tmp 0)), none, ⟨1, false, false⟩⟩,
  ⟨(some 2), (Op.assign (Operand.const (Value.map none))), none, ann0⟩] none)
 (.seq (.reg [⟨(some 6), (Op.makeMap 69 none), none, ⟨1, false, false⟩⟩,
  ⟨(some 3), (Op.assign (Operand.tmp 6)), none, ann0⟩] none)
 (.seq (.post (.seq (.reg [⟨(some 7), (Op.fieldAddr 28 (Operand.tmp 1) 3), none, ann0⟩,
  ⟨(some 8), (Op.load 26 (Operand.tmp 7)), none, ann0⟩,
  ⟨(some 9), (Op.call { callee := (Callee.builtin Builtin.len), args := #[(Operand.tmp 8)], argTypes := #[26] }), none, ann0⟩,
  ⟨(some 10), (Op.move (Operand.const (Value.int IntKind.i64 0))), none, ann0⟩] none)
 (.post (.block 0 (.pre (.tidy [3, 8, 9, 10] z (z + 2)) (.loop (s38_1 z)))) (.tidy [3] z (z + 2)))) (.tidy [3] z (z + 2)))
 (.seq (.reg [⟨(some 22), (Op.move (Operand.tmp 3)), none, ann0⟩,
  ⟨(some 2), (Op.assign (Operand.tmp 22)), none, ann0⟩] none)
 .ret))))⟩
theorem F38 (z : Nat) : FOk Try.prog 38 (s38 z) := by unfold FOk; kernel_rfl
def c39_1 (z : Nat) : SC := .post (.seq (.reg [⟨(some 7), (Op.next (Operand.tmp 6) false), none, ann0⟩,
  ⟨(some 8), (Op.extract (Operand.tmp 7) 0), none, ann0⟩] none)
 (.seq (.cond (Operand.tmp 8) .skip
 (.exit 0))
 (.block 1 (.seq (.reg [⟨(some 9), (Op.entry (Operand.tmp 6)), none, ann0⟩,
  ⟨(some 10), (Op.extract (Operand.tmp 9) 0), none, ann0⟩,
  ⟨(some 4), (Op.assign (Operand.tmp 10)), none, ann0⟩] none)
 (.reg [⟨(some 11), (Op.move (Operand.tmp 0)), none, ann0⟩,
  ⟨(some 12), (Op.move (Operand.tmp 4)), none, ann0⟩,
  ⟨(some 13), (Op.lookup 69 (Operand.tmp 11) (Operand.tmp 12) false), none, ann0⟩,
  ⟨(some 14), (Op.move (Operand.tmp 1)), none, ann0⟩,
  ⟨(some 15), (Op.binOp BinOp.sub 3 (Operand.tmp 13) (Operand.tmp 14) 3), none, ann0⟩,
  ⟨none, (Op.mapUpdate 69 (Operand.tmp 11) (Operand.tmp 12) (Operand.tmp 15)), none, ann0⟩] none))))) (.tidy [0, 1, 6] z (z + 1))
def s39_1 (z : Nat) : SC := c39_1 z
theorem e39_1 {C : Pg} {z : Nat} {st : St} {ks : List Fr} {K : Ex → St → Prop} : wpk C (s39_1 z) st ks K ↔ wpk C (c39_1 z) st ks K := Iff.rfl
def s39 (z : Nat) : SFn := ⟨2, 16, [],
 (.seq (.reg [⟨(some 5), (Op.move (Operand.tmp 0)), none, ann0⟩,
  ⟨(some 6), (Op.range 69 (Operand.tmp 5)), none, ⟨1, false, false⟩⟩] none)
 (.post (.block 0 (.pre (.tidy [0, 1, 6] z (z + 1)) (.loop (s39_1 z)))) (.tidy [] z (z + 1))))⟩
theorem F39 (z : Nat) : FOk Try.prog 39 (s39 z) := by unfold FOk; kernel_rfl
def c40_1 (z : Nat) : SC := .post (.seq (.reg [⟨(some 8), (Op.next (Operand.tmp 7) false), none, ann0⟩,
  ⟨(some 9), (Op.extract (Operand.tmp 8) 0), none, ann0⟩] none)
 (.seq (.cond (Operand.tmp 9) .skip
 (.exit 0))
 (.block 1 (.seq (.post (.reg [⟨(some 10), (Op.entry (Operand.tmp 7)), none, ann0⟩,
  ⟨(some 11), (Op.extract (Operand.tmp 10) 0), none, ann0⟩,
  ⟨(some 12), (Op.extract (Operand.tmp 10) 1), none, ann0⟩,
  ⟨(some 4), (Op.assign (Operand.tmp 11)), none, ann0⟩,
  ⟨(some 5), (Op.assign (Operand.tmp 12)), none, ann0⟩] none) (.tidy [0, 3, 4, 5, 7] z (z + 2)))
 (.seq (.post (.seq (.reg [⟨(some 13), (Op.move (Operand.tmp 5)), none, ann0⟩,
  ⟨(some 14), (Op.binOp BinOp.leq 3 (Operand.tmp 13) (Operand.const (Value.int IntKind.i64 0)) 3), none, ann0⟩] none)
 (.cond (Operand.tmp 14) (.seq (.reg [⟨(some 15), (Op.move (Operand.tmp 0)), none, ann0⟩,
  ⟨(some 16), (Op.move (Operand.tmp 4)), none, ann0⟩,
  ⟨none, (Op.call { callee := (Callee.builtin Builtin.delete), args := #[(Operand.tmp 15), (Operand.tmp 16)], argTypes := #[69, 9] }), none, ann0⟩] none)
 (.exit 1))
 .skip)) (.tidy [0, 3, 4, 5, 7] z (z + 2)))
 (.reg [⟨(some 17), (Op.move (Operand.tmp 3)), none, ann0⟩,
  ⟨(some 18), (Op.move (Operand.tmp 4)), none, ann0⟩,
  ⟨(some 19), (Op.move (Operand.tmp 5)), none, ann0⟩,
  ⟨(some 20), (Op.build 25 #[(0, (Operand.tmp 18)), (1, (Operand.tmp 19))]), none, ann0⟩,
  ⟨(some 21), (Op.buildSlice 26 1 #[(0, (Operand.tmp 20))]), none, ⟨1, true, false⟩⟩,
  ⟨(some 22), (Op.call { callee := (Callee.builtin Builtin.append), args := #[(Operand.tmp 17), (Operand.tmp 21)], argTypes := #[26, 26] }), none, ann0⟩,
  ⟨(some 3), (Op.assign (Operand.tmp 22)), none, ann0⟩] none)))))) (.tidy [0, 3, 7] z (z + 2))
def s40_1 (z : Nat) : SC := c40_1 z
theorem e40_1 {C : Pg} {z : Nat} {st : St} {ks : List Fr} {K : Ex → St → Prop} : wpk C (s40_1 z) st ks K ↔ wpk C (c40_1 z) st ks K := Iff.rfl
def s40 (z : Nat) : SFn := ⟨1, 26, [(ResultVar.tmp 2)],
 (.post (.seq (.reg [⟨(some 2), (Op.assign (Operand.const (Value.slice none 0 0))), none, ann0⟩] none)
 (.seq (.post (.reg [⟨(some 3), (Op.assign (Operand.const (Value.slice none 0 0))), none, ann0⟩] none) (.mkv 3 25 2))
 (.seq (.post (.seq (.reg [⟨(some 6), (Op.move (Operand.tmp 0)), none, ann0⟩,
  ⟨(some 7), (Op.range 69 (Operand.tmp 6)), none, ⟨1, false, false⟩⟩] none)
 (.post (.block 0 (.pre (.tidy [0, 3, 7] z (z + 2)) (.loop (s40_1 z)))) (.tidy [3] z (z + 2)))) (.tidy [3] z (z + 2)))
 (.seq (.reg [⟨(some 23), (Op.move (Operand.tmp 3)), none, ann0⟩,
  ⟨(some 24), (Op.call { callee := (Callee.value (Operand.func 49)), args := #[(Operand.tmp 23), (Operand.func 50)], argTypes := #[26, 82] }), none, ann0⟩] none)
 (.seq (.reg [⟨(some 25), (Op.move (Operand.tmp 3)), none, ann0⟩,
  ⟨(some 2), (Op.assign (Operand.tmp 25)), none, ann0⟩] none)
 .ret))))) (.frz 2))⟩
theorem F40 (z : Nat) : FOk Try.prog 40 (s40 z) := by unfold FOk; kernel_rfl
def s41 (z : Nat) : SFn := ⟨2, 14, [],
 (.seq (.reg [⟨(some 5), (Op.move (Operand.tmp 0)), none, ann0⟩,
  ⟨(some 6), (Op.call { callee := (Callee.builtin Builtin.len), args := #[(Operand.tmp 5)], argTypes := #[74] }), none, ann0⟩,
  ⟨(some 4), (Op.assign (Operand.tmp 6)), none, ann0⟩] none)
 (.reg [⟨(some 7), (Op.move (Operand.tmp 0)), none, ann0⟩,
  ⟨(some 8), (Op.move (Operand.tmp 4)), none, ann0⟩,
  ⟨(some 9), (Op.move (Operand.tmp 4)), none, ann0⟩,
  ⟨(some 10), (Op.convert 3 85 (Operand.tmp 9)), none, ann0⟩,
  ⟨(some 11), (Op.call { callee := (Callee.value (Operand.func 53)), args := #[(Operand.tmp 10)], argTypes := #[85] }), none, ann0⟩,
  ⟨(some 12), (Op.move (Operand.tmp 1)), none, ann0⟩,
  ⟨(some 13), (Op.call { callee := (Callee.value (Operand.func 52)), args := #[(Operand.tmp 7), (Operand.const (Value.int IntKind.i64 0)), (Operand.tmp 8), (Operand.tmp 11), (Operand.tmp 12)], argTypes := #[74, 3, 3, 3, 76] }), none, ann0⟩] none))⟩
theorem F41 (z : Nat) : FOk Try.prog 41 (s41 z) := by unfold FOk; kernel_rfl
def s42 (z : Nat) : SFn := ⟨2, 8, [(ResultVar.tmp 4)],
 (.seq (.reg [⟨(some 4), (Op.assign (Operand.const (Value.int IntKind.i64 0))), none, ann0⟩] none)
 (.seq (.reg [⟨(some 5), (Op.move (Operand.tmp 1)), none, ann0⟩,
  ⟨(some 6), (Op.move (Operand.tmp 0)), none, ann0⟩,
  ⟨(some 7), (Op.call { callee := (Callee.value (Operand.func 43)), args := #[(Operand.tmp 5), (Operand.tmp 6)], argTypes := #[3, 3] }), none, ann0⟩,
  ⟨(some 4), (Op.assign (Operand.tmp 7)), none, ann0⟩] none)
 .ret))⟩
theorem F42 (z : Nat) : FOk Try.prog 42 (s42 z) := by unfold FOk; kernel_rfl
def s43 (z : Nat) : SFn := ⟨2, 20, [(ResultVar.tmp 4)],
 (.seq (.reg [⟨(some 4), (Op.assign (Operand.const (Value.int IntKind.i64 0))), none, ann0⟩] none)
 (.seq (.reg [⟨(some 7), (Op.move (Operand.tmp 0)), none, ann0⟩,
  ⟨(some 8), (Op.call { callee := (Callee.value (Operand.func 54)), args := #[(Operand.tmp 7)], argTypes := #[3] }), none, ann0⟩,
  ⟨(some 5), (Op.assign (Operand.tmp 8)), none, ann0⟩] none)
 (.seq (.reg [⟨(some 9), (Op.move (Operand.tmp 1)), none, ann0⟩,
  ⟨(some 10), (Op.call { callee := (Callee.value (Operand.func 54)), args := #[(Operand.tmp 9)], argTypes := #[3] }), none, ann0⟩,
  ⟨(some 6), (Op.assign (Operand.tmp 10)), none, ann0⟩] none)
 (.seq (.seq (.reg [⟨(some 11), (Op.move (Operand.tmp 5)), none, ann0⟩] none)
 (.cond (Operand.tmp 11) (.seq (.post (.seq (.reg [⟨(some 12), (Op.move (Operand.tmp 6)), none, ann0⟩] none)
 (.cond (Operand.tmp 12) (.seq (.reg [⟨(some 4), (Op.assign (Operand.const (Value.int IntKind.i64 0))), none, ann0⟩] none)
 .ret)
 .skip)) (.tidy [] z (z + 0)))
 (.seq (.reg [⟨(some 4), (Op.assign (Operand.const (Value.int IntKind.i64 (-1)))), none, ann0⟩] none)
 .ret))
 .skip))
 (.seq (.seq (.reg [⟨(some 13), (Op.move (Operand.tmp 6)), none, ann0⟩] none)
 (.cond (Operand.tmp 13) (.seq (.reg [⟨(some 4), (Op.assign (Operand.const (Value.int IntKind.i64 1))), none, ann0⟩] none)
 .ret)
 .skip))
 (.seq (.seq (.post (.reg [⟨(some 14), (Op.move (Operand.tmp 0)), none, ann0⟩,
  ⟨(some 15), (Op.move (Operand.tmp 1)), none, ann0⟩,
  ⟨(some 16), (Op.binOp BinOp.lss 3 (Operand.tmp 14) (Operand.tmp 15) 3), none, ann0⟩] none) (.tidy [0, 1, 16] z (z + 0)))
 (.cond (Operand.tmp 16) (.seq (.reg [⟨(some 4), (Op.assign (Operand.const (Value.int IntKind.i64 (-1)))), none, ann0⟩] none)
 .ret)
 .skip))
 (.seq (.seq (.post (.reg [⟨(some 17), (Op.move (Operand.tmp 0)), none, ann0⟩,
  ⟨(some 18), (Op.move (Operand.tmp 1)), none, ann0⟩,
  ⟨(some 19), (Op.binOp BinOp.gtr 3 (Operand.tmp 17) (Operand.tmp 18) 3), none, ann0⟩] none) (.tidy [19] z (z + 0)))
 (.cond (Operand.tmp 19) (.seq (.reg [⟨(some 4), (Op.assign (Operand.const (Value.int IntKind.i64 1))), none, ann0⟩] none)
 .ret)
 .skip))
 (.seq (.reg [⟨(some 4), (Op.assign (Operand.const (Value.int IntKind.i64 0))), none, ann0⟩] none)
 .ret))))))))⟩
theorem F43 (z : Nat) : FOk Try.prog 43 (s43 z) := by unfold FOk; kernel_rfl
def c44_1 (z : Nat) : SC := .post (.seq (.post (.seq (.post (.reg [⟨(some 9), (Op.move (Operand.tmp 7)), none, ann0⟩,
  ⟨(some 10), (Op.move (Operand.tmp 0)), none, ann0⟩,
  ⟨(some 11), (Op.call { callee := (Callee.builtin Builtin.len), args := #[(Operand.tmp 10)], argTypes := #[26] }), none, ann0⟩,
  ⟨(some 12), (Op.binOp BinOp.lss 3 (Operand.tmp 9) (Operand.tmp 11) 3), none, ann0⟩,
  ⟨(some 13), (Op.move (Operand.tmp 12)), none, ann0⟩,
  ⟨(some 14), (Op.move (Operand.tmp 0)), (some (13, true)), ann0⟩,
  ⟨(some 15), (Op.move (Operand.tmp 7)), (some (13, true)), ann0⟩,
  ⟨(some 16), (Op.indexAddr 26 (Operand.tmp 14) (Operand.tmp 15)), (some (13, true)), ann0⟩,
  ⟨(some 17), (Op.fieldAddr 25 (Operand.tmp 16) 0), (some (13, true)), ann0⟩,
  ⟨(some 18), (Op.load 9 (Operand.tmp 17)), (some (13, true)), ann0⟩,
  ⟨(some 19), (Op.move (Operand.tmp 1)), (some (13, true)), ann0⟩,
  ⟨(some 20), (Op.binOp BinOp.lss 9 (Operand.tmp 18) (Operand.tmp 19) 9), (some (13, true)), ann0⟩,
  ⟨(some 21), (Op.pick (Operand.tmp 13) (Operand.tmp 20) (Operand.const (Value.bool false))), none, ann0⟩] none) (.tidy [0, 1, 2, 7, 21] z (z + 0)))
 (.cond (Operand.tmp 21) .skip
 (.exit 0))) (.tidy [0, 1, 2, 7] z (z + 0)))
 (.block 1 (.reg [⟨(some 22), (Op.move (Operand.tmp 7)), none, ann0⟩,
  ⟨(some 23), (Op.binOp BinOp.add 3 (Operand.tmp 22) (Operand.const (Value.int IntKind.i64 1)) 3), none, ann0⟩,
  ⟨(some 7), (Op.assign (Operand.tmp 23)), none, ann0⟩] none))) (.tidy [0, 1, 2, 7] z (z + 0))
def s44_1 (z : Nat) : SC := c44_1 z
theorem e44_1 {C : Pg} {z : Nat} {st : St} {ks : List Fr} {K : Ex → St → Prop} : wpk C (s44_1 z) st ks K ↔ wpk C (c44_1 z) st ks K := Iff.rfl
def s44 (z : Nat) : SFn := ⟨3, 63, [(ResultVar.tmp 6)],
 (.post (.seq (.reg [⟨(some 6), (Op.assign (Operand.const (Value.slice none 0 0))), none, ann0⟩] none)
 (.seq (.reg [⟨(some 7), (Op.assign (Operand.const (Value.int IntKind.i64 0))), none, ann0⟩] none)
 (.seq (.post (.block 0 (.pre (.tidy [0, 1, 2, 7] z (z + 0)) (.loop (s44_1 z)))) (.tidy [0, 1, 2, 7] z (z + 0)))
 (.seq (.post (.seq (.post (.reg [⟨(some 24), (Op.move (Operand.tmp 7)), none, ann0⟩,
  ⟨(some 25), (Op.move (Operand.tmp 0)), none, ann0⟩,
  ⟨(some 26), (Op.call { callee := (Callee.builtin Builtin.len), args := #[(Operand.tmp 25)], argTypes := #[26] }), none, ann0⟩,
  ⟨(some 27), (Op.binOp BinOp.lss 3 (Operand.tmp 24) (Operand.tmp 26) 3), none, ann0⟩,
  ⟨(some 28), (Op.move (Operand.tmp 27)), none, ann0⟩,
  ⟨(some 29), (Op.move (Operand.tmp 0)), (some (28, true)), ann0⟩,
  ⟨(some 30), (Op.move (Operand.tmp 7)), (some (28, true)), ann0⟩,
  ⟨(some 31), (Op.indexAddr 26 (Operand.tmp 29) (Operand.tmp 30)), (some (28, true)), ann0⟩,
  ⟨(some 32), (Op.fieldAddr 25 (Operand.tmp 31) 0), (some (28, true)), ann0⟩,
  ⟨(some 33), (Op.load 9 (Operand.tmp 32)), (some (28, true)), ann0⟩,
  ⟨(some 34), (Op.move (Operand.tmp 1)), (some (28, true)), ann0⟩,
  ⟨(some 35), (Op.binOp BinOp.eql 9 (Operand.tmp 33) (Operand.tmp 34) 9), (some (28, true)), ann0⟩,
  ⟨(some 36), (Op.pick (Operand.tmp 28) (Operand.tmp 35) (Operand.const (Value.bool false))), none, ann0⟩] none) (.tidy [0, 1, 2, 7, 36] z (z + 0)))
 (.cond (Operand.tmp 36) (.seq (.reg [⟨(some 37), (Op.buildSlice 26 0 #[]), none, ⟨1, false, false⟩⟩,
  ⟨(some 38), (Op.move (Operand.tmp 0)), none, ann0⟩,
  ⟨(some 39), (Op.call { callee := (Callee.builtin Builtin.append), args := #[(Operand.tmp 37), (Operand.tmp 38)], argTypes := #[26, 26] }), none, ann0⟩,
  ⟨(some 8), (Op.assign (Operand.tmp 39)), none, ann0⟩] none)
 (.seq (.post (.reg [⟨(some 40), (Op.move (Operand.tmp 8)), none, ann0⟩,
  ⟨(some 41), (Op.move (Operand.tmp 7)), none, ann0⟩,
  ⟨(some 42), (Op.indexAddr 26 (Operand.tmp 40) (Operand.tmp 41)), none, ann0⟩,
  ⟨(some 43), (Op.fieldAddr 25 (Operand.tmp 42) 1), none, ann0⟩,
  ⟨(some 44), (Op.load 3 (Operand.tmp 43)), none, ann0⟩,
  ⟨(some 45), (Op.move (Operand.tmp 2)), none, ann0⟩,
  ⟨(some 46), (Op.binOp BinOp.add 3 (Operand.tmp 44) (Operand.tmp 45) 3), none, ann0⟩,
  ⟨(some 47), (Op.indexAddr 26 (Operand.tmp 40) (Operand.tmp 41)), none, ann0⟩,
  ⟨(some 48), (Op.fieldAddr 25 (Operand.tmp 47) 1), none, ann0⟩,
  ⟨none, (Op.store 3 (Operand.tmp 48) (Operand.tmp 46)), none, ann0⟩] none) (.tidy [8] z (z + 1)))
 (.seq (.reg [⟨(some 49), (Op.move (Operand.tmp 8)), none, ann0⟩,
  ⟨(some 6), (Op.assign (Operand.tmp 49)), none, ann0⟩] none)
 .ret)))
 .skip)) (.tidy [0, 1, 2, 7] z (z + 1)))
 (.seq (.post (.reg [⟨(some 50), (Op.move (Operand.tmp 0)), none, ann0⟩,
  ⟨(some 51), (Op.move (Operand.tmp 7)), none, ann0⟩,
  ⟨(some 52), (Op.move (Operand.tmp 7)), none, ann0⟩,
  ⟨(some 53), (Op.slice 26 (Operand.tmp 50) none (some (Operand.tmp 51)) (some (Operand.tmp 52))), none, ann0⟩,
  ⟨(some 54), (Op.move (Operand.tmp 1)), none, ann0⟩,
  ⟨(some 55), (Op.move (Operand.tmp 2)), none, ann0⟩,
  ⟨(some 56), (Op.build 25 #[(0, (Operand.tmp 54)), (1, (Operand.tmp 55))]), none, ann0⟩,
  ⟨(some 57), (Op.buildSlice 26 1 #[(0, (Operand.tmp 56))]), none, ⟨1, false, false⟩⟩,
  ⟨(some 58), (Op.move (Operand.tmp 0)), none, ann0⟩,
  ⟨(some 59), (Op.move (Operand.tmp 7)), none, ann0⟩,
  ⟨(some 60), (Op.slice 26 (Operand.tmp 58) (some (Operand.tmp 59)) none none), none, ann0⟩,
  ⟨(some 61), (Op.call { callee := (Callee.builtin Builtin.append), args := #[(Operand.tmp 57), (Operand.tmp 60)], argTypes := #[26, 26] }), none, ann0⟩,
  ⟨(some 62), (Op.call { callee := (Callee.builtin Builtin.append), args := #[(Operand.tmp 53), (Operand.tmp 61)], argTypes := #[26, 26] }), none, ⟨1, true, false⟩⟩,
  ⟨(some 6), (Op.assign (Operand.tmp 62)), none, ann0⟩] (some [0, 0, 0, 7, 0, 0, 48, 112, 0, 0, 768, 2032, 4095, 8191])) (.frz 6))
 .ret))))) (.frz 6))⟩
theorem F44 (z : Nat) : FOk Try.prog 44 (s44 z) := by unfold FOk; kernel_rfl
def c45_1 (z : Nat) : SC := .post (.seq (.post (.seq (.reg [⟨(some 7), (Op.move (Operand.tmp 6)), none, ann0⟩,
  ⟨(some 8), (Op.move (Operand.tmp 0)), none, ann0⟩,
  ⟨(some 9), (Op.call { callee := (Callee.builtin Builtin.len), args := #[(Operand.tmp 8)], argTypes := #[26] }), none, ann0⟩,
  ⟨(some 10), (Op.binOp BinOp.lss 3 (Operand.tmp 7) (Operand.tmp 9) 3), none, ann0⟩] none)
 (.cond (Operand.tmp 10) .skip
 (.exit 0))) (.tidy [0, 1, 5, 6] z (z + 1)))
 (.seq (.post (.block 1 (.seq (.post (.reg [⟨(some 13), (Op.move (Operand.tmp 0)), none, ann0⟩,
  ⟨(some 14), (Op.move (Operand.tmp 6)), none, ann0⟩,
  ⟨(some 15), (Op.indexAddr 26 (Operand.tmp 13) (Operand.tmp 14)), none, ann0⟩,
  ⟨(some 16), (Op.fieldAddr 25 (Operand.tmp 15) 1), none, ann0⟩,
  ⟨(some 17), (Op.load 3 (Operand.tmp 16)), none, ann0⟩,
  ⟨(some 18), (Op.move (Operand.tmp 1)), none, ann0⟩,
  ⟨(some 19), (Op.binOp BinOp.gtr 3 (Operand.tmp 17) (Operand.tmp 18) 3), none, ann0⟩] none) (.tidy [0, 1, 5, 6, 19] z (z + 1)))
 (.cond (Operand.tmp 19) (.reg [⟨(some 20), (Op.move (Operand.tmp 5)), none, ann0⟩,
  ⟨(some 21), (Op.move (Operand.tmp 0)), none, ann0⟩,
  ⟨(some 22), (Op.move (Operand.tmp 6)), none, ann0⟩,
  ⟨(some 23), (Op.indexAddr 26 (Operand.tmp 21) (Operand.tmp 22)), none, ann0⟩,
  ⟨(some 24), (Op.fieldAddr 25 (Operand.tmp 23) 0), none, ann0⟩,
  ⟨(some 25), (Op.load 9 (Operand.tmp 24)), none, ann0⟩,
  ⟨(some 26), (Op.move (Operand.tmp 0)), none, ann0⟩,
  ⟨(some 27), (Op.move (Operand.tmp 6)), none, ann0⟩,
  ⟨(some 28), (Op.indexAddr 26 (Operand.tmp 26) (Operand.tmp 27)), none, ann0⟩,
  ⟨(some 29), (Op.fieldAddr 25 (Operand.tmp 28) 1), none, ann0⟩,
  ⟨(some 30), (Op.load 3 (Operand.tmp 29)), none, ann0⟩,
  ⟨(some 31), (Op.move (Operand.tmp 1)), none, ann0⟩,
  ⟨(some 32), (Op.binOp BinOp.sub 3 (Operand.tmp 30) (Operand.tmp 31) 3), none, ann0⟩,
  ⟨(some 33), (Op.build 25 #[(0, (Operand.tmp 25)), (1, (Operand.tmp 32))]), none, ann0⟩,
  ⟨(some 34), (Op.buildSlice 26 1 #[(0, (Operand.tmp 33))]), none, ⟨1, true, false⟩⟩,
  ⟨(some 35), (Op.call { callee := (Callee.builtin Builtin.append), args := #[(Operand.tmp 20), (Operand.tmp 34)], argTypes := #[26, 26] }), none, ann0⟩,
  ⟨(some 5), (Op.assign (Operand.tmp 35)), none, ann0⟩] (some [0, 0, 0, 6, 14, 30, 0, 0, 192, 448, 960, 0, 4032, 8190, 16382, 32767, 65535]))
 .skip))) (.tidy [0, 1, 5, 6] z (z + 2)))
 (.reg [⟨(some 11), (Op.move (Operand.tmp 6)), none, ann0⟩,
  ⟨(some 12), (Op.binOp BinOp.add 3 (Operand.tmp 11) (Operand.const (Value.int IntKind.i64 1)) 3), none, ann0⟩,
  ⟨(some 6), (Op.assign (Operand.tmp 12)), none, ann0⟩] none))) (.tidy [0, 1, 5, 6] z (z + 1))
def s45_1 (z : Nat) : SC := c45_1 z
theorem e45_1 {C : Pg} {z : Nat} {st : St} {ks : List Fr} {K : Ex → St → Prop} : wpk C (s45_1 z) st ks K ↔ wpk C (c45_1 z) st ks K := Iff.rfl
def s45 (z : Nat) : SFn := ⟨2, 37, [(ResultVar.tmp 4)],
 (.post (.seq (.reg [⟨(some 4), (Op.assign (Operand.const (Value.slice none 0 0))), none, ann0⟩] none)
 (.seq (.post (.reg [⟨(some 5), (Op.assign (Operand.const (Value.slice none 0 0))), none, ann0⟩] none) (.mkv 5 25 2))
 (.seq (.post (.seq (.reg [⟨(some 6), (Op.assign (Operand.const (Value.int IntKind.i64 0))), none, ann0⟩] none)
 (.post (.block 0 (.pre (.tidy [0, 1, 5, 6] z (z + 1)) (.loop (s45_1 z)))) (.tidy [5] z (z + 1)))) (.tidy [5] z (z + 1)))
 (.seq (.reg [⟨(some 36), (Op.move (Operand.tmp 5)), none, ann0⟩,
  ⟨(some 4), (Op.assign (Operand.tmp 36)), none, ann0⟩] none)
 .ret)))) (.frz 4))⟩
theorem F45 (z : Nat) : FOk Try.prog 45 (s45 z) := by unfold FOk; kernel_rfl
def c46_1 (z : Nat) : SC := .post (.seq (.reg [⟨(some 14), (Op.binOp BinOp.lss 3 (Operand.tmp 13) (Operand.tmp 12) 3), none, ann0⟩] none)
 (.seq (.cond (Operand.tmp 14) .skip
 (.exit 0))
 (.seq (.post (.block 1 (.seq (.reg [⟨(some 15), (Op.move (Operand.tmp 13)), none, ann0⟩,
  ⟨(some 5), (Op.assign (Operand.tmp 15)), none, ann0⟩] none)
 (.seq (.post (.reg [⟨(some 16), (Op.move (Operand.tmp 0)), none, ann0⟩,
  ⟨(some 17), (Op.move (Operand.tmp 5)), none, ann0⟩,
  ⟨(some 18), (Op.indexAddr 26 (Operand.tmp 16) (Operand.tmp 17)), none, ann0⟩,
  ⟨(some 19), (Op.load 25 (Operand.tmp 18)), none, ann0⟩,
  ⟨(some 20), (Op.move (Operand.tmp 1)), none, ann0⟩,
  ⟨(some 21), (Op.move (Operand.tmp 5)), none, ann0⟩,
  ⟨(some 22), (Op.indexAddr 26 (Operand.tmp 20) (Operand.tmp 21)), none, ann0⟩,
  ⟨(some 23), (Op.load 25 (Operand.tmp 22)), none, ann0⟩,
  ⟨(some 24), (Op.binOp BinOp.neq 25 (Operand.tmp 19) (Operand.tmp 23) 25), none, ann0⟩] (some [0, 0, 3, 7, 0, 0, 48, 112, 255])) (.tidy [0, 1, 12, 13, 24] z (z + 0)))
 (.cond (Operand.tmp 24) (.seq (.reg [⟨(some 4), (Op.assign (Operand.const (Value.bool false))), none, ann0⟩] none)
 .ret)
 .skip)))) (.tidy [0, 1, 12, 13] z (z + 0)))
 (.reg [⟨(some 25), (Op.binOp BinOp.add 3 (Operand.tmp 13) (Operand.const (Value.int IntKind.i64 1)) 3), none, ann0⟩,
  ⟨(some 13), (Op.move (Operand.tmp 25)), none, ann0⟩] none)))) (.tidy [0, 1, 12, 13] z (z + 0))
def s46_1 (z : Nat) : SC := c46_1 z
theorem e46_1 {C : Pg} {z : Nat} {st : St} {ks : List Fr} {K : Ex → St → Prop} : wpk C (s46_1 z) st ks K ↔ wpk C (c46_1 z) st ks K := Iff.rfl
def s46 (z : Nat) : SFn := ⟨2, 26, [(ResultVar.tmp 4)],
 (.seq (.reg [⟨(some 4), (Op.assign (Operand.const (Value.bool false))), none, ann0⟩] none)
 (.seq (.post (.seq (.reg [⟨(some 6), (Op.move (Operand.tmp 0)), none, ann0⟩,
  ⟨(some 7), (Op.call { callee := (Callee.builtin Builtin.len), args := #[(Operand.tmp 6)], argTypes := #[26] }), none, ann0⟩,
  ⟨(some 8), (Op.move (Operand.tmp 1)), none, ann0⟩,
  ⟨(some 9), (Op.call { callee := (Callee.builtin Builtin.len), args := #[(Operand.tmp 8)], argTypes := #[26] }), none, ann0⟩,
  ⟨(some 10), (Op.binOp BinOp.neq 3 (Operand.tmp 7) (Operand.tmp 9) 3), none, ann0⟩] none)
 (.cond (Operand.tmp 10) (.seq (.reg [⟨(some 4), (Op.assign (Operand.const (Value.bool false))), none, ann0⟩] none)
 .ret)
 .skip)) (.tidy [0, 1] z (z + 0)))
 (.seq (.post (.seq (.reg [⟨(some 11), (Op.move (Operand.tmp 0)), none, ann0⟩,
  ⟨(some 12), (Op.call { callee := (Callee.builtin Builtin.len), args := #[(Operand.tmp 11)], argTypes := #[26] }), none, ann0⟩,
  ⟨(some 13), (Op.move (Operand.const (Value.int IntKind.i64 0))), none, ann0⟩] none)
 (.post (.block 0 (.pre (.tidy [0, 1, 12, 13] z (z + 0)) (.loop (s46_1 z)))) (.tidy [] z (z + 0)))) (.tidy [] z (z + 0)))
 (.seq (.reg [⟨(some 4), (Op.assign (Operand.const (Value.bool true))), none, ann0⟩] none)
 .ret))))⟩
theorem F46 (z : Nat) : FOk Try.prog 46 (s46 z) := by unfold FOk; kernel_rfl
def c47_1 (z : Nat) : SC := .post (.seq (.reg [⟨(some 11), (Op.binOp BinOp.lss 3 (Operand.tmp 10) (Operand.tmp 9) 3), none, ann0⟩] none)
 (.seq (.cond (Operand.tmp 11) .skip
 (.exit 0))
 (.seq (.post (.block 1 (.seq (.reg [⟨(some 12), (Op.move (Operand.tmp 10)), none, ann0⟩,
  ⟨(some 7), (Op.assign (Operand.tmp 12)), none, ann0⟩] none)
 (.seq (.post (.reg [⟨(some 13), (Op.move (Operand.tmp 0)), none, ann0⟩,
  ⟨(some 14), (Op.move (Operand.tmp 7)), none, ann0⟩,
  ⟨(some 15), (Op.index 9 (Operand.tmp 13) (Operand.tmp 14)), none, ann0⟩,
  ⟨(some 16), (Op.move (Operand.tmp 1)), none, ann0⟩,
  ⟨(some 17), (Op.binOp BinOp.lss 5 (Operand.tmp 15) (Operand.tmp 16) 5), none, ann0⟩,
  ⟨(some 18), (Op.move (Operand.tmp 17)), none, ann0⟩,
  ⟨(some 19), (Op.move (Operand.tmp 0)), (some (18, false)), ann0⟩,
  ⟨(some 20), (Op.move (Operand.tmp 7)), (some (18, false)), ann0⟩,
  ⟨(some 21), (Op.index 9 (Operand.tmp 19) (Operand.tmp 20)), (some (18, false)), ann0⟩,
  ⟨(some 22), (Op.move (Operand.tmp 2)), (some (18, false)), ann0⟩,
  ⟨(some 23), (Op.binOp BinOp.gtr 5 (Operand.tmp 21) (Operand.tmp 22) 5), (some (18, false)), ann0⟩,
  ⟨(some 24), (Op.pick (Operand.tmp 18) (Operand.const (Value.bool true)) (Operand.tmp 23)), none, ann0⟩] none) (.tidy [0, 1, 2, 9, 10, 24] z (z + 0)))
 (.cond (Operand.tmp 24) (.seq (.reg [⟨(some 6), (Op.assign (Operand.const (Value.bool false))), none, ann0⟩] none)
 .ret)
 .skip)))) (.tidy [0, 1, 2, 9, 10] z (z + 0)))
 (.reg [⟨(some 25), (Op.binOp BinOp.add 3 (Operand.tmp 10) (Operand.const (Value.int IntKind.i64 1)) 3), none, ann0⟩,
  ⟨(some 10), (Op.move (Operand.tmp 25)), none, ann0⟩] none)))) (.tidy [0, 1, 2, 9, 10] z (z + 0))
def s47_1 (z : Nat) : SC := c47_1 z
theorem e47_1 {C : Pg} {z : Nat} {st : St} {ks : List Fr} {K : Ex → St → Prop} : wpk C (s47_1 z) st ks K ↔ wpk C (c47_1 z) st ks K := Iff.rfl
def s47 (z : Nat) : SFn := ⟨3, 26, [(ResultVar.tmp 6)],
 (.seq (.reg [⟨(some 6), (Op.assign (Operand.const (Value.bool false))), none, ann0⟩] none)
 (.seq (.post (.seq (.reg [⟨(some 8), (Op.move (Operand.tmp 0)), none, ann0⟩,
  ⟨(some 9), (Op.call { callee := (Callee.builtin Builtin.len), args := #[(Operand.tmp 8)], argTypes := #[9] }), none, ann0⟩,
  ⟨(some 10), (Op.move (Operand.const (Value.int IntKind.i64 0))), none, ann0⟩] none)
 (.post (.block 0 (.pre (.tidy [0, 1, 2, 9, 10] z (z + 0)) (.loop (s47_1 z)))) (.tidy [] z (z + 0)))) (.tidy [] z (z + 0)))
 (.seq (.reg [⟨(some 6), (Op.assign (Operand.const (Value.bool true))), none, ann0⟩] none)
 .ret)))⟩
theorem F47 (z : Nat) : FOk Try.prog 47 (s47 z) := by unfold FOk; kernel_rfl
def c48_1 (z : Nat) : SC := .post (.seq (.reg [⟨(some 12), (Op.binOp BinOp.lss 3 (Operand.tmp 11) (Operand.tmp 10) 3), none, ann0⟩] none)
 (.seq (.cond (Operand.tmp 12) .skip
 (.exit 0))
 (.seq (.post (.block 1 (.seq (.reg [⟨(some 13), (Op.indexAddr 26 (Operand.tmp 9) (Operand.tmp 11)), none, ann0⟩,
  ⟨(some 14), (Op.load 25 (Operand.tmp 13)), none, ann0⟩,
  ⟨(some 7), (Op.alloc 25), none, ⟨1, false, false⟩⟩,
  ⟨none, (Op.store 25 (Operand.tmp 7) (Operand.tmp 14)), none, ann0⟩] none)
 (.seq (.post (.reg [⟨(some 15), (Op.fieldAddr 25 (Operand.tmp 7) 1), none, ann0⟩,
  ⟨(some 16), (Op.load 3 (Operand.tmp 15)), none, ann0⟩,
  ⟨(some 17), (Op.move (Operand.tmp 1)), none, ann0⟩,
  ⟨(some 18), (Op.binOp BinOp.geq 3 (Operand.tmp 16) (Operand.tmp 17) 3), none, ann0⟩] none) (.tidy [1, 5, 7, 9, 10, 11, 18] z (z + 3)))
 (.cond (Operand.tmp 18) (.reg [⟨(some 19), (Op.move (Operand.tmp 5)), none, ann0⟩,
  ⟨(some 20), (Op.load 25 (Operand.tmp 7)), none, ann0⟩,
  ⟨(some 21), (Op.buildSlice 26 1 #[(0, (Operand.tmp 20))]), none, ⟨1, true, false⟩⟩,
  ⟨(some 22), (Op.call { callee := (Callee.builtin Builtin.append), args := #[(Operand.tmp 19), (Operand.tmp 21)], argTypes := #[26, 26] }), none, ann0⟩,
  ⟨(some 5), (Op.assign (Operand.tmp 22)), none, ann0⟩] none)
 .skip)))) (.tidy [1, 5, 9, 10, 11] z (z + 4)))
 (.reg [⟨(some 23), (Op.binOp BinOp.add 3 (Operand.tmp 11) (Operand.const (Value.int IntKind.i64 1)) 3), none, ann0⟩,
  ⟨(some 11), (Op.move (Operand.tmp 23)), none, ann0⟩] none)))) (.tidy [1, 5, 9, 10, 11] z (z + 2))
def s48_1 (z : Nat) : SC := c48_1 z
theorem e48_1 {C : Pg} {z : Nat} {st : St} {ks : List Fr} {K : Ex → St → Prop} : wpk C (s48_1 z) st ks K ↔ wpk C (c48_1 z) st ks K := Iff.rfl
def s48 (z : Nat) : SFn := ⟨2, 27, [(ResultVar.tmp 4)],
 (.post (.seq (.reg [⟨(some 2), (Op.box 28 (Operand.tmp 0)), none, ⟨1, false, false⟩⟩,
  ⟨(some 4), (Op.assign (Operand.const (Value.slice none 0 0))), none, ann0⟩] none)
 (.seq (.post (.reg [⟨(some 5), (Op.assign (Operand.const (Value.slice none 0 0))), none, ann0⟩] none) (.mkv 5 25 2))
 (.seq (.post (.seq (.reg [⟨(some 8), (Op.fieldAddr 28 (Operand.tmp 2) 3), none, ann0⟩,
  ⟨(some 9), (Op.load 26 (Operand.tmp 8)), none, ann0⟩,
  ⟨(some 10), (Op.call { callee := (Callee.builtin Builtin.len), args := #[(Operand.tmp 9)], argTypes := #[26] }), none, ann0⟩,
  ⟨(some 11), (Op.move (Operand.const (Value.int IntKind.i64 0))), none, ann0⟩] none)
 (.post (.block 0 (.pre (.tidy [1, 5, 9, 10, 11] z (z + 2)) (.loop (s48_1 z)))) (.tidy [5] z (z + 2)))) (.tidy [5] z (z + 2)))
 (.seq (.reg [⟨(some 24), (Op.move (Operand.tmp 5)), none, ann0⟩,
  ⟨(some 25), (Op.call { callee := (Callee.value (Operand.func 49)), args := #[(Operand.tmp 24), (Operand.func 55)], argTypes := #[26, 82] }), none, ann0⟩] none)
 (.seq (.reg [⟨(some 26), (Op.move (Operand.tmp 5)), none, ann0⟩,
  ⟨(some 4), (Op.assign (Operand.tmp 26)), none, ann0⟩] none)
 .ret))))) (.frz 4))⟩
theorem F48 (z : Nat) : FOk Try.prog 48 (s48 z) := by unfold FOk; kernel_rfl
def s49 (z : Nat) : SFn := ⟨2, 14, [],
 (.seq (.reg [⟨(some 5), (Op.move (Operand.tmp 0)), none, ann0⟩,
  ⟨(some 6), (Op.call { callee := (Callee.builtin Builtin.len), args := #[(Operand.tmp 5)], argTypes := #[26] }), none, ann0⟩,
  ⟨(some 4), (Op.assign (Operand.tmp 6)), none, ann0⟩] none)
 (.reg [⟨(some 7), (Op.move (Operand.tmp 0)), none, ann0⟩,
  ⟨(some 8), (Op.move (Operand.tmp 4)), none, ann0⟩,
  ⟨(some 9), (Op.move (Operand.tmp 4)), none, ann0⟩,
  ⟨(some 10), (Op.convert 3 85 (Operand.tmp 9)), none, ann0⟩,
  ⟨(some 11), (Op.call { callee := (Callee.value (Operand.func 53)), args := #[(Operand.tmp 10)], argTypes := #[85] }), none, ann0⟩,
  ⟨(some 12), (Op.move (Operand.tmp 1)), none, ann0⟩,
  ⟨(some 13), (Op.call { callee := (Callee.value (Operand.func 57)), args := #[(Operand.tmp 7), (Operand.const (Value.int IntKind.i64 0)), (Operand.tmp 8), (Operand.tmp 11), (Operand.tmp 12)], argTypes := #[26, 3, 3, 3, 82] }), none, ann0⟩] none))⟩
theorem F49 (z : Nat) : FOk Try.prog 49 (s49 z) := by unfold FOk; kernel_rfl
def s50 (z : Nat) : SFn := ⟨2, 10, [(ResultVar.tmp 4)],
 (.seq (.reg [⟨(some 2), (Op.box 25 (Operand.tmp 0)), none, ⟨1, false, false⟩⟩,
  ⟨(some 3), (Op.box 25 (Operand.tmp 1)), none, ⟨1, false, false⟩⟩,
  ⟨(some 4), (Op.assign (Operand.const (Value.int IntKind.i64 0))), none, ann0⟩] none)
 (.seq (.reg [⟨(some 5), (Op.fieldAddr 25 (Operand.tmp 2) 0), none, ann0⟩,
  ⟨(some 6), (Op.load 9 (Operand.tmp 5)), none, ann0⟩,
  ⟨(some 7), (Op.fieldAddr 25 (Operand.tmp 3) 0), none, ann0⟩,
  ⟨(some 8), (Op.load 9 (Operand.tmp 7)), none, ann0⟩,
  ⟨(some 9), (Op.call { callee := (Callee.value (Operand.func 51)), args := #[(Operand.tmp 6), (Operand.tmp 8)], argTypes := #[9, 9] }), none, ann0⟩,
  ⟨(some 4), (Op.assign (Operand.tmp 9)), none, ann0⟩] none)
 .ret))⟩
theorem F50 (z : Nat) : FOk Try.prog 50 (s50 z) := by unfold FOk; kernel_rfl
def s51 (z : Nat) : SFn := ⟨2, 20, [(ResultVar.tmp 4)],
 (.seq (.reg [⟨(some 4), (Op.assign (Operand.const (Value.int IntKind.i64 0))), none, ann0⟩] none)
 (.seq (.reg [⟨(some 7), (Op.move (Operand.tmp 0)), none, ann0⟩,
  ⟨(some 8), (Op.call { callee := (Callee.value (Operand.func 58)), args := #[(Operand.tmp 7)], argTypes := #[9] }), none, ann0⟩,
  ⟨(some 5), (Op.assign (Operand.tmp 8)), none, ann0⟩] none)
 (.seq (.reg [⟨(some 9), (Op.move (Operand.tmp 1)), none, ann0⟩,
  ⟨(some 10), (Op.call { callee := (Callee.value (Operand.func 58)), args := #[(Operand.tmp 9)], argTypes := #[9] }), none, ann0⟩,
  ⟨(some 6), (Op.assign (Operand.tmp 10)), none, ann0⟩] none)
 (.seq (.seq (.reg [⟨(some 11), (Op.move (Operand.tmp 5)), none, ann0⟩] none)
 (.cond (Operand.tmp 11) (.seq (.post (.seq (.reg [⟨(some 12), (Op.move (Operand.tmp 6)), none, ann0⟩] none)
 (.cond (Operand.tmp 12) (.seq (.reg [⟨(some 4), (Op.assign (Operand.const (Value.int IntKind.i64 0))), none, ann0⟩] none)
 .ret)
 .skip)) (.tidy [] z (z + 0)))
 (.seq (.reg [⟨(some 4), (Op.assign (Operand.const (Value.int IntKind.i64 (-1)))), none, ann0⟩] none)
 .ret))
 .skip))
 (.seq (.seq (.reg [⟨(some 13), (Op.move (Operand.tmp 6)), none, ann0⟩] none)
 (.cond (Operand.tmp 13) (.seq (.reg [⟨(some 4), (Op.assign (Operand.const (Value.int IntKind.i64 1))), none, ann0⟩] none)
 .ret)
 .skip))
 (.seq (.seq (.post (.reg [⟨(some 14), (Op.move (Operand.tmp 0)), none, ann0⟩,
  ⟨(some 15), (Op.move (Operand.tmp 1)), none, ann0⟩,
  ⟨(some 16), (Op.binOp BinOp.lss 9 (Operand.tmp 14) (Operand.tmp 15) 9), none, ann0⟩] none) (.tidy [0, 1, 16] z (z + 0)))
 (.cond (Operand.tmp 16) (.seq (.reg [⟨(some 4), (Op.assign (Operand.const (Value.int IntKind.i64 (-1)))), none, ann0⟩] none)
 .ret)
 .skip))
 (.seq (.seq (.post (.reg [⟨(some 17), (Op.move (Operand.tmp 0)), none, ann0⟩,
  ⟨(some 18), (Op.move (Operand.tmp 1)), none, ann0⟩,
  ⟨(some 19), (Op.binOp BinOp.gtr 9 (Operand.tmp 17) (Operand.tmp 18) 9), none, ann0⟩] none) (.tidy [19] z (z + 0)))
 (.cond (Operand.tmp 19) (.seq (.reg [⟨(some 4), (Op.assign (Operand.const (Value.int IntKind.i64 1))), none, ann0⟩] none)
 .ret)
 .skip))
 (.seq (.reg [⟨(some 4), (Op.assign (Operand.const (Value.int IntKind.i64 0))), none, ann0⟩] none)
 .ret))))))))⟩
theorem F51 (z : Nat) : FOk Try.prog 51 (s51 z) := by unfold FOk; kernel_rfl
def c52_1 (z : Nat) : SC := .post (.block 1 (.seq (.reg [⟨(some 21), (Op.move (Operand.tmp 2)), none, ann0⟩,
  ⟨(some 22), (Op.move (Operand.tmp 1)), none, ann0⟩,
  ⟨(some 23), (Op.binOp BinOp.sub 3 (Operand.tmp 21) (Operand.tmp 22) 3), none, ann0⟩,
  ⟨(some 12), (Op.assign (Operand.tmp 23)), none, ann0⟩] none)
 (.seq (.post (.seq (.reg [⟨(some 24), (Op.move (Operand.tmp 12)), none, ann0⟩,
  ⟨(some 25), (Op.binOp BinOp.leq 3 (Operand.tmp 24) (Operand.const (Value.int IntKind.i64 12)) 3), none, ann0⟩] none)
 (.cond (Operand.tmp 25) (.seq (.reg [⟨(some 26), (Op.move (Operand.tmp 0)), none, ann0⟩,
  ⟨(some 27), (Op.move (Operand.tmp 1)), none, ann0⟩,
  ⟨(some 28), (Op.move (Operand.tmp 2)), none, ann0⟩,
  ⟨(some 29), (Op.move (Operand.tmp 4)), none, ann0⟩,
  ⟨(some 30), (Op.call { callee := (Callee.value (Operand.func 59)), args := #[(Operand.tmp 26), (Operand.tmp 27), (Operand.tmp 28), (Operand.tmp 29)], argTypes := #[74, 3, 3, 76] }), none, ann0⟩] none)
 .ret)
 .skip)) (.tidy [0, 1, 2, 3, 4, 10, 11, 12] z (z + 0)))
 (.seq (.post (.seq (.reg [⟨(some 31), (Op.move (Operand.tmp 3)), none, ann0⟩,
  ⟨(some 32), (Op.binOp BinOp.eql 3 (Operand.tmp 31) (Operand.const (Value.int IntKind.i64 0)) 3), none, ann0⟩] none)
 (.cond (Operand.tmp 32) (.seq (.reg [⟨(some 33), (Op.move (Operand.tmp 0)), none, ann0⟩,
  ⟨(some 34), (Op.move (Operand.tmp 1)), none, ann0⟩,
  ⟨(some 35), (Op.move (Operand.tmp 2)), none, ann0⟩,
  ⟨(some 36), (Op.move (Operand.tmp 4)), none, ann0⟩,
  ⟨(some 37), (Op.call { callee := (Callee.value (Operand.func 60)), args := #[(Operand.tmp 33), (Operand.tmp 34), (Operand.tmp 35), (Operand.tmp 36)], argTypes := #[74, 3, 3, 76] }), none, ann0⟩] none)
 .ret)
 .skip)) (.tidy [0, 1, 2, 3, 4, 10, 11, 12] z (z + 0)))
 (.seq (.post (.seq (.reg [⟨(some 38), (Op.move (Operand.tmp 10)), none, ann0⟩,
  ⟨(some 39), (Op.unOp UnOp.not 4 (Operand.tmp 38)), none, ann0⟩] none)
 (.cond (Operand.tmp 39) (.seq (.post (.reg [⟨(some 40), (Op.move (Operand.tmp 0)), none, ann0⟩,
  ⟨(some 41), (Op.move (Operand.tmp 1)), none, ann0⟩,
  ⟨(some 42), (Op.move (Operand.tmp 2)), none, ann0⟩,
  ⟨(some 43), (Op.move (Operand.tmp 4)), none, ann0⟩,
  ⟨(some 44), (Op.call { callee := (Callee.value (Operand.func 61)), args := #[(Operand.tmp 40), (Operand.tmp 41), (Operand.tmp 42), (Operand.tmp 43)], argTypes := #[74, 3, 3, 76] }), none, ann0⟩] none) (.tidy [0, 1, 2, 3, 4, 10, 11, 12] z (z + 0)))
 (.reg [⟨(some 45), (Op.move (Operand.tmp 3)), none, ann0⟩,
  ⟨(some 46), (Op.binOp BinOp.sub 3 (Operand.tmp 45) (Operand.const (Value.int IntKind.i64 1)) 3), none, ann0⟩,
  ⟨(some 3), (Op.assign (Operand.tmp 46)), none, ann0⟩] none))
 .skip)) (.tidy [0, 1, 2, 3, 4, 10, 11, 12] z (z + 0)))
 (.seq (.post (.reg [⟨(some 48), (Op.move (Operand.tmp 0)), none, ann0⟩,
  ⟨(some 49), (Op.move (Operand.tmp 1)), none, ann0⟩,
  ⟨(some 50), (Op.move (Operand.tmp 2)), none, ann0⟩,
  ⟨(some 51), (Op.move (Operand.tmp 4)), none, ann0⟩,
  ⟨(some 52), (Op.call { callee := (Callee.value (Operand.func 62)), args := #[(Operand.tmp 48), (Operand.tmp 49), (Operand.tmp 50), (Operand.tmp 51)], argTypes := #[74, 3, 3, 76] }), none, ann0⟩,
  ⟨(some 47), (Op.move (Operand.tmp 52)), none, ann0⟩,
  ⟨(some 53), (Op.extract (Operand.tmp 47) 0), none, ann0⟩,
  ⟨(some 54), (Op.extract (Operand.tmp 47) 1), none, ann0⟩,
  ⟨(some 13), (Op.assign (Operand.tmp 53)), none, ann0⟩,
  ⟨(some 14), (Op.assign (Operand.tmp 54)), none, ann0⟩] none) (.tidy [0, 1, 2, 3, 4, 10, 11, 12, 13, 14] z (z + 0)))
 (.seq (.post (.seq (.reg [⟨(some 55), (Op.move (Operand.tmp 14)), none, ann0⟩,
  ⟨(some 56), (Op.binOp BinOp.eql 90 (Operand.tmp 55) (Operand.const (Value.int IntKind.i64 2)) 90), none, ann0⟩] none)
 (.cond (Operand.tmp 56) (.seq (.post (.reg [⟨(some 57), (Op.move (Operand.tmp 0)), none, ann0⟩,
  ⟨(some 58), (Op.move (Operand.tmp 1)), none, ann0⟩,
  ⟨(some 59), (Op.move (Operand.tmp 2)), none, ann0⟩,
  ⟨(some 60), (Op.move (Operand.tmp 4)), none, ann0⟩,
  ⟨(some 61), (Op.call { callee := (Callee.value (Operand.func 63)), args := #[(Operand.tmp 57), (Operand.tmp 58), (Operand.tmp 59), (Operand.tmp 60)], argTypes := #[74, 3, 3, 76] }), none, ann0⟩] none) (.tidy [0, 1, 2, 3, 4, 10, 11, 12, 13] z (z + 0)))
 (.seq (.post (.reg [⟨(some 62), (Op.move (Operand.tmp 2)), none, ann0⟩,
  ⟨(some 63), (Op.binOp BinOp.sub 3 (Operand.tmp 62) (Operand.const (Value.int IntKind.i64 1)) 3), none, ann0⟩,
  ⟨(some 64), (Op.move (Operand.tmp 13)), none, ann0⟩,
  ⟨(some 65), (Op.move (Operand.tmp 1)), none, ann0⟩,
  ⟨(some 66), (Op.binOp BinOp.sub 3 (Operand.tmp 64) (Operand.tmp 65) 3), none, ann0⟩,
  ⟨(some 67), (Op.binOp BinOp.sub 3 (Operand.tmp 63) (Operand.tmp 66) 3), none, ann0⟩,
  ⟨(some 13), (Op.assign (Operand.tmp 67)), none, ann0⟩] none) (.tidy [0, 1, 2, 3, 4, 10, 11, 12, 13] z (z + 0)))
 (.reg [⟨(some 14), (Op.assign (Operand.const (Value.int IntKind.i64 1))), none, ann0⟩] none)))
 .skip)) (.tidy [0, 1, 2, 3, 4, 10, 11, 12, 13, 14] z (z + 0)))
 (.seq (.post (.seq (.post (.reg [⟨(some 68), (Op.move (Operand.tmp 10)), none, ann0⟩,
  ⟨(some 69), (Op.move (Operand.tmp 68)), none, ann0⟩,
  ⟨(some 70), (Op.move (Operand.tmp 11)), (some (69, true)), ann0⟩,
  ⟨(some 71), (Op.pick (Operand.tmp 69) (Operand.tmp 70) (Operand.const (Value.bool false))), none, ann0⟩,
  ⟨(some 72), (Op.move (Operand.tmp 71)), none, ann0⟩,
  ⟨(some 73), (Op.move (Operand.tmp 14)), (some (72, true)), ann0⟩,
  ⟨(some 74), (Op.binOp BinOp.eql 90 (Operand.tmp 73) (Operand.const (Value.int IntKind.i64 1)) 90), (some (72, true)), ann0⟩,
  ⟨(some 75), (Op.pick (Operand.tmp 72) (Operand.tmp 74) (Operand.const (Value.bool false))), none, ann0⟩] none) (.tidy [0, 1, 2, 3, 4, 10, 11, 12, 13, 75] z (z + 0)))
 (.cond (Operand.tmp 75) (.seq (.reg [⟨(some 76), (Op.move (Operand.tmp 0)), none, ann0⟩,
  ⟨(some 77), (Op.move (Operand.tmp 1)), none, ann0⟩,
  ⟨(some 78), (Op.move (Operand.tmp 2)), none, ann0⟩,
  ⟨(some 79), (Op.move (Operand.tmp 4)), none, ann0⟩,
  ⟨(some 80), (Op.call { callee := (Callee.value (Operand.func 64)), args := #[(Operand.tmp 76), (Operand.tmp 77), (Operand.tmp 78), (Operand.tmp 79)], argTypes := #[74, 3, 3, 76] }), none, ann0⟩] none)
 (.cond (Operand.tmp 80) .ret
 .skip))
 .skip)) (.tidy [0, 1, 2, 3, 4, 10, 11, 12, 13] z (z + 0)))
 (.seq (.post (.seq (.post (.reg [⟨(some 81), (Op.move (Operand.tmp 1)), none, ann0⟩,
  ⟨(some 82), (Op.binOp BinOp.gtr 3 (Operand.tmp 81) (Operand.const (Value.int IntKind.i64 0)) 3), none, ann0⟩,
  ⟨(some 83), (Op.move (Operand.tmp 82)), none, ann0⟩,
  ⟨(some 84), (Op.move (Operand.tmp 4)), (some (83, true)), ann0⟩,
  ⟨(some 85), (Op.move (Operand.tmp 0)), (some (83, true)), ann0⟩,
  ⟨(some 86), (Op.move (Operand.tmp 1)), (some (83, true)), ann0⟩,
  ⟨(some 87), (Op.binOp BinOp.sub 3 (Operand.tmp 86) (Operand.const (Value.int IntKind.i64 1)) 3), (some (83, true)), ann0⟩,
  ⟨(some 88), (Op.indexAddr 74 (Operand.tmp 85) (Operand.tmp 87)), (some (83, true)), ann0⟩,
  ⟨(some 89), (Op.load 3 (Operand.tmp 88)), (some (83, true)), ann0⟩,
  ⟨(some 90), (Op.move (Operand.tmp 0)), (some (83, true)), ann0⟩,
  ⟨(some 91), (Op.move (Operand.tmp 13)), (some (83, true)), ann0⟩,
  ⟨(some 92), (Op.indexAddr 74 (Operand.tmp 90) (Operand.tmp 91)), (some (83, true)), ann0⟩,
  ⟨(some 93), (Op.load 3 (Operand.tmp 92)), (some (83, true)), ann0⟩,
  ⟨(some 94), (Op.call { callee := (Callee.value (Operand.tmp 84)), args := #[(Operand.tmp 89), (Operand.tmp 93)], argTypes := #[3, 3] }), (some (83, true)), ann0⟩,
  ⟨(some 95), (Op.binOp BinOp.lss 3 (Operand.tmp 94) (Operand.const (Value.int IntKind.i64 0)) 3), (some (83, true)), ann0⟩,
  ⟨(some 96), (Op.unOp UnOp.not 4 (Operand.tmp 95)), (some (83, true)), ann0⟩,
  ⟨(some 97), (Op.pick (Operand.tmp 83) (Operand.tmp 96) (Operand.const (Value.bool false))), none, ann0⟩] (some [0, 1, 3, 7, 7, 7, 39, 119, 247, 7, 7, 1543, 3591, 8191, 16383, 32767, 65535])) (.tidy [0, 1, 2, 3, 4, 10, 11, 12, 13, 97] z (z + 0)))
 (.cond (Operand.tmp 97) (.seq (.post (.reg [⟨(some 98), (Op.move (Operand.tmp 0)), none, ann0⟩,
  ⟨(some 99), (Op.move (Operand.tmp 1)), none, ann0⟩,
  ⟨(some 100), (Op.move (Operand.tmp 2)), none, ann0⟩,
  ⟨(some 101), (Op.move (Operand.tmp 13)), none, ann0⟩,
  ⟨(some 102), (Op.move (Operand.tmp 4)), none, ann0⟩,
  ⟨(some 103), (Op.call { callee := (Callee.value (Operand.func 65)), args := #[(Operand.tmp 98), (Operand.tmp 99), (Operand.tmp 100), (Operand.tmp 101), (Operand.tmp 102)], argTypes := #[74, 3, 3, 3, 76] }), none, ann0⟩,
  ⟨(some 15), (Op.assign (Operand.tmp 103)), none, ann0⟩] none) (.tidy [0, 2, 3, 4, 10, 11, 15] z (z + 0)))
 (.seq (.reg [⟨(some 104), (Op.move (Operand.tmp 15)), none, ann0⟩,
  ⟨(some 1), (Op.assign (Operand.tmp 104)), none, ann0⟩] none)
 (.exit 1)))
 .skip)) (.tidy [0, 1, 2, 3, 4, 12, 13] z (z + 0)))
 (.seq (.post (.reg [⟨(some 106), (Op.move (Operand.tmp 0)), none, ann0⟩,
  ⟨(some 107), (Op.move (Operand.tmp 1)), none, ann0⟩,
  ⟨(some 108), (Op.move (Operand.tmp 2)), none, ann0⟩,
  ⟨(some 109), (Op.move (Operand.tmp 13)), none, ann0⟩,
  ⟨(some 110), (Op.move (Operand.tmp 4)), none, ann0⟩,
  ⟨(some 111), (Op.call { callee := (Callee.value (Operand.func 66)), args := #[(Operand.tmp 106), (Operand.tmp 107), (Operand.tmp 108), (Operand.tmp 109), (Operand.tmp 110)], argTypes := #[74, 3, 3, 3, 76] }), none, ann0⟩,
  ⟨(some 105), (Op.move (Operand.tmp 111)), none, ann0⟩,
  ⟨(some 112), (Op.extract (Operand.tmp 105) 0), none, ann0⟩,
  ⟨(some 113), (Op.extract (Operand.tmp 105) 1), none, ann0⟩,
  ⟨(some 16), (Op.assign (Operand.tmp 112)), none, ann0⟩,
  ⟨(some 17), (Op.assign (Operand.tmp 113)), none, ann0⟩] none) (.tidy [0, 1, 2, 3, 4, 12, 16, 17] z (z + 0)))
 (.seq (.reg [⟨(some 114), (Op.move (Operand.tmp 17)), none, ann0⟩,
  ⟨(some 11), (Op.assign (Operand.tmp 114)), none, ann0⟩] none)
 (.seq (.post (.reg [⟨(some 115), (Op.move (Operand.tmp 16)), none, ann0⟩,
  ⟨(some 116), (Op.move (Operand.tmp 1)), none, ann0⟩,
  ⟨(some 117), (Op.binOp BinOp.sub 3 (Operand.tmp 115) (Operand.tmp 116) 3), none, ann0⟩,
  ⟨(some 118), (Op.move (Operand.tmp 2)), none, ann0⟩,
  ⟨(some 119), (Op.move (Operand.tmp 16)), none, ann0⟩,
  ⟨(some 120), (Op.binOp BinOp.sub 3 (Operand.tmp 118) (Operand.tmp 119) 3), none, ann0⟩,
  ⟨(some 18), (Op.assign (Operand.tmp 117)), none, ann0⟩,
  ⟨(some 19), (Op.assign (Operand.tmp 120)), none, ann0⟩] none) (.tidy [0, 1, 2, 3, 4, 11, 12, 16, 18, 19] z (z + 0)))
 (.seq (.reg [⟨(some 121), (Op.move (Operand.tmp 12)), none, ann0⟩,
  ⟨(some 122), (Op.binOp BinOp.quo 3 (Operand.tmp 121) (Operand.const (Value.int IntKind.i64 8)) 3), none, ann0⟩,
  ⟨(some 20), (Op.assign (Operand.tmp 122)), none, ann0⟩] none)
 (.seq (.reg [⟨(some 123), (Op.move (Operand.tmp 18)), none, ann0⟩,
  ⟨(some 124), (Op.move (Operand.tmp 19)), none, ann0⟩,
  ⟨(some 125), (Op.binOp BinOp.lss 3 (Operand.tmp 123) (Operand.tmp 124) 3), none, ann0⟩] none)
 (.cond (Operand.tmp 125) (.seq (.post (.reg [⟨(some 126), (Op.move (Operand.tmp 18)), none, ann0⟩,
  ⟨(some 127), (Op.move (Operand.tmp 20)), none, ann0⟩,
  ⟨(some 128), (Op.binOp BinOp.geq 3 (Operand.tmp 126) (Operand.tmp 127) 3), none, ann0⟩,
  ⟨(some 10), (Op.assign (Operand.tmp 128)), none, ann0⟩] none) (.tidy [0, 1, 2, 3, 4, 10, 11, 16] z (z + 0)))
 (.seq (.post (.reg [⟨(some 129), (Op.move (Operand.tmp 0)), none, ann0⟩,
  ⟨(some 130), (Op.move (Operand.tmp 1)), none, ann0⟩,
  ⟨(some 131), (Op.move (Operand.tmp 16)), none, ann0⟩,
  ⟨(some 132), (Op.move (Operand.tmp 3)), none, ann0⟩,
  ⟨(some 133), (Op.move (Operand.tmp 4)), none, ann0⟩,
  ⟨(some 134), (Op.call { callee := (Callee.value (Operand.func 52)), args := #[(Operand.tmp 129), (Operand.tmp 130), (Operand.tmp 131), (Operand.tmp 132), (Operand.tmp 133)], argTypes := #[74, 3, 3, 3, 76] }), none, ann0⟩] none) (.tidy [0, 2, 3, 4, 10, 11, 16] z (z + 0)))
 (.reg [⟨(some 135), (Op.move (Operand.tmp 16)), none, ann0⟩,
  ⟨(some 136), (Op.binOp BinOp.add 3 (Operand.tmp 135) (Operand.const (Value.int IntKind.i64 1)) 3), none, ann0⟩,
  ⟨(some 1), (Op.assign (Operand.tmp 136)), none, ann0⟩] none)))
 (.seq (.reg [⟨(some 137), (Op.move (Operand.tmp 19)), none, ann0⟩,
  ⟨(some 138), (Op.move (Operand.tmp 20)), none, ann0⟩,
  ⟨(some 139), (Op.binOp BinOp.geq 3 (Operand.tmp 137) (Operand.tmp 138) 3), none, ann0⟩,
  ⟨(some 10), (Op.assign (Operand.tmp 139)), none, ann0⟩] none)
 (.seq (.post (.reg [⟨(some 140), (Op.move (Operand.tmp 0)), none, ann0⟩,
  ⟨(some 141), (Op.move (Operand.tmp 16)), none, ann0⟩,
  ⟨(some 142), (Op.binOp BinOp.add 3 (Operand.tmp 141) (Operand.const (Value.int IntKind.i64 1)) 3), none, ann0⟩,
  ⟨(some 143), (Op.move (Operand.tmp 2)), none, ann0⟩,
  ⟨(some 144), (Op.move (Operand.tmp 3)), none, ann0⟩,
  ⟨(some 145), (Op.move (Operand.tmp 4)), none, ann0⟩,
  ⟨(some 146), (Op.call { callee := (Callee.value (Operand.func 52)), args := #[(Operand.tmp 140), (Operand.tmp 142), (Operand.tmp 143), (Operand.tmp 144), (Operand.tmp 145)], argTypes := #[74, 3, 3, 3, 76] }), none, ann0⟩] none) (.tidy [0, 1, 3, 4, 10, 11, 16] z (z + 0)))
 (.reg [⟨(some 147), (Op.move (Operand.tmp 16)), none, ann0⟩,
  ⟨(some 2), (Op.assign (Operand.tmp 147)), none, ann0⟩] none)))))))))))))))))) (.tidy [0, 1, 2, 3, 4, 10, 11] z (z + 0))
def s52_1 (z : Nat) : SC := c52_1 z
theorem e52_1 {C : Pg} {z : Nat} {st : St} {ks : List Fr} {K : Ex → St → Prop} : wpk C (s52_1 z) st ks K ↔ wpk C (c52_1 z) st ks K := Iff.rfl
def s52 (z : Nat) : SFn := ⟨5, 148, [],
 (.seq (.reg [⟨(some 10), (Op.assign (Operand.const (Value.bool true))), none, ann0⟩] none)
 (.seq (.reg [⟨(some 11), (Op.assign (Operand.const (Value.bool true))), none, ann0⟩] none)
 (.post (.block 0 (.pre (.tidy [0, 1, 2, 3, 4, 10, 11] z (z + 0)) (.loop (s52_1 z)))) (.tidy [] z (z + 0)))))⟩
theorem F52 (z : Nat) : FOk Try.prog 52 (s52 z) := by unfold FOk; kernel_rfl
def s53 (z : Nat) : SFn := ⟨1, 8, [(ResultVar.tmp 2)],
 (.seq (.reg [⟨(some 2), (Op.assign (Operand.const (Value.int IntKind.i64 0))), none, ann0⟩] none)
 (.seq (.post (.cond (Operand.const (Value.bool false)) (.seq (.reg [⟨(some 3), (Op.move (Operand.tmp 0)), none, ann0⟩,
  ⟨(some 4), (Op.convert 85 22 (Operand.tmp 3)), none, ann0⟩,
  ⟨(some 5), (Op.call { callee := (Callee.value (Operand.func 67)), args := #[(Operand.tmp 4)], argTypes := #[22] }), none, ann0⟩,
  ⟨(some 2), (Op.assign (Operand.tmp 5)), none, ann0⟩] none)
 .ret)
 .skip) (.tidy [0] z (z + 0)))
 (.seq (.reg [⟨(some 6), (Op.move (Operand.tmp 0)), none, ann0⟩,
  ⟨(some 7), (Op.call { callee := (Callee.value (Operand.func 68)), args := #[(Operand.tmp 6)], argTypes := #[98] }), none, ann0⟩,
  ⟨(some 2), (Op.assign (Operand.tmp 7)), none, ann0⟩] none)
 .ret)))⟩
theorem F53 (z : Nat) : FOk Try.prog 53 (s53 z) := by unfold FOk; kernel_rfl
def s54 (z : Nat) : SFn := ⟨1, 6, [(ResultVar.tmp 2)],
 (.seq (.reg [⟨(some 2), (Op.assign (Operand.const (Value.bool false))), none, ann0⟩] none)
 (.seq (.reg [⟨(some 3), (Op.move (Operand.tmp 0)), none, ann0⟩,
  ⟨(some 4), (Op.move (Operand.tmp 0)), none, ann0⟩,
  ⟨(some 5), (Op.binOp BinOp.neq 3 (Operand.tmp 3) (Operand.tmp 4) 3), none, ann0⟩,
  ⟨(some 2), (Op.assign (Operand.tmp 5)), none, ann0⟩] none)
 .ret))⟩
theorem F54 (z : Nat) : FOk Try.prog 54 (s54 z) := by unfold FOk; kernel_rfl
def s55 (z : Nat) : SFn := ⟨2, 17, [(ResultVar.tmp 4)],
 (.seq (.reg [⟨(some 2), (Op.box 25 (Operand.tmp 0)), none, ⟨1, false, false⟩⟩,
  ⟨(some 3), (Op.box 25 (Operand.tmp 1)), none, ⟨1, false, false⟩⟩,
  ⟨(some 4), (Op.assign (Operand.const (Value.int IntKind.i64 0))), none, ann0⟩] none)
 (.seq (.reg [⟨(some 5), (Op.fieldAddr 25 (Operand.tmp 3) 1), none, ann0⟩,
  ⟨(some 6), (Op.load 3 (Operand.tmp 5)), none, ann0⟩,
  ⟨(some 7), (Op.fieldAddr 25 (Operand.tmp 2) 1), none, ann0⟩,
  ⟨(some 8), (Op.load 3 (Operand.tmp 7)), none, ann0⟩,
  ⟨(some 9), (Op.call { callee := (Callee.value (Operand.func 43)), args := #[(Operand.tmp 6), (Operand.tmp 8)], argTypes := #[3, 3] }), none, ann0⟩,
  ⟨(some 10), (Op.fieldAddr 25 (Operand.tmp 2) 0), none, ann0⟩,
  ⟨(some 11), (Op.load 9 (Operand.tmp 10)), none, ann0⟩,
  ⟨(some 12), (Op.fieldAddr 25 (Operand.tmp 3) 0), none, ann0⟩,
  ⟨(some 13), (Op.load 9 (Operand.tmp 12)), none, ann0⟩,
  ⟨(some 14), (Op.call { callee := (Callee.value (Operand.func 51)), args := #[(Operand.tmp 11), (Operand.tmp 13)], argTypes := #[9, 9] }), none, ann0⟩,
  ⟨(some 15), (Op.buildSlice 74 2 #[(0, (Operand.tmp 9)), (1, (Operand.tmp 14))]), none, ⟨1, true, false⟩⟩,
  ⟨(some 16), (Op.call { callee := (Callee.value (Operand.func 56)), args := #[(Operand.tmp 15)], argTypes := #[74] }), none, ann0⟩,
  ⟨(some 4), (Op.assign (Operand.tmp 16)), none, ann0⟩] (some [0, 1, 0, 4, 15, 0, 32, 0, 128, 511, 1023, 2047, 4095]))
 .ret))⟩
theorem F55 (z : Nat) : FOk Try.prog 55 (s55 z) := by unfold FOk; kernel_rfl
def c56_1 (z : Nat) : SC := .post (.seq (.reg [⟨(some 9), (Op.binOp BinOp.lss 3 (Operand.tmp 8) (Operand.tmp 7) 3), none, ann0⟩] none)
 (.seq (.cond (Operand.tmp 9) .skip
 (.exit 0))
 (.seq (.post (.block 1 (.seq (.reg [⟨(some 10), (Op.indexAddr 74 (Operand.tmp 6) (Operand.tmp 8)), none, ann0⟩,
  ⟨(some 11), (Op.load 3 (Operand.tmp 10)), none, ann0⟩,
  ⟨(some 5), (Op.assign (Operand.tmp 11)), none, ann0⟩] none)
 (.seq (.reg [⟨(some 12), (Op.move (Operand.tmp 5)), none, ann0⟩,
  ⟨(some 13), (Op.move (Operand.tmp 3)), none, ann0⟩,
  ⟨(some 14), (Op.binOp BinOp.neq 3 (Operand.tmp 12) (Operand.tmp 13) 3), none, ann0⟩] none)
 (.cond (Operand.tmp 14) (.seq (.reg [⟨(some 15), (Op.move (Operand.tmp 5)), none, ann0⟩,
  ⟨(some 2), (Op.assign (Operand.tmp 15)), none, ann0⟩] none)
 .ret)
 .skip)))) (.tidy [3, 6, 7, 8] z (z + 0)))
 (.reg [⟨(some 16), (Op.binOp BinOp.add 3 (Operand.tmp 8) (Operand.const (Value.int IntKind.i64 1)) 3), none, ann0⟩,
  ⟨(some 8), (Op.move (Operand.tmp 16)), none, ann0⟩] none)))) (.tidy [3, 6, 7, 8] z (z + 0))
def s56_1 (z : Nat) : SC := c56_1 z
theorem e56_1 {C : Pg} {z : Nat} {st : St} {ks : List Fr} {K : Ex → St → Prop} : wpk C (s56_1 z) st ks K ↔ wpk C (c56_1 z) st ks K := Iff.rfl
def s56 (z : Nat) : SFn := ⟨1, 18, [(ResultVar.tmp 2)],
 (.seq (.reg [⟨(some 2), (Op.assign (Operand.const (Value.int IntKind.i64 0))), none, ann0⟩] none)
 (.seq (.reg [⟨(some 3), (Op.assign (Operand.const (Value.int IntKind.i64 0))), none, ann0⟩] none)
 (.seq (.post (.seq (.reg [⟨(some 6), (Op.move (Operand.tmp 0)), none, ann0⟩,
  ⟨(some 7), (Op.call { callee := (Callee.builtin Builtin.len), args := #[(Operand.tmp 6)], argTypes := #[74] }), none, ann0⟩,
  ⟨(some 8), (Op.move (Operand.const (Value.int IntKind.i64 0))), none, ann0⟩] none)
 (.post (.block 0 (.pre (.tidy [3, 6, 7, 8] z (z + 0)) (.loop (s56_1 z)))) (.tidy [3] z (z + 0)))) (.tidy [3] z (z + 0)))
 (.seq (.reg [⟨(some 17), (Op.move (Operand.tmp 3)), none, ann0⟩,
  ⟨(some 2), (Op.assign (Operand.tmp 17)), none, ann0⟩] none)
 .ret))))⟩
theorem F56 (z : Nat) : FOk Try.prog 56 (s56 z) := by unfold FOk; kernel_rfl
def c57_1 (z : Nat) : SC := .post (.block 1 (.seq (.reg [⟨(some 21), (Op.move (Operand.tmp 2)), none, ann0⟩,
  ⟨(some 22), (Op.move (Operand.tmp 1)), none, ann0⟩,
  ⟨(some 23), (Op.binOp BinOp.sub 3 (Operand.tmp 21) (Operand.tmp 22) 3), none, ann0⟩,
  ⟨(some 12), (Op.assign (Operand.tmp 23)), none, ann0⟩] none)
 (.seq (.post (.seq (.reg [⟨(some 24), (Op.move (Operand.tmp 12)), none, ann0⟩,
  ⟨(some 25), (Op.binOp BinOp.leq 3 (Operand.tmp 24) (Operand.const (Value.int IntKind.i64 12)) 3), none, ann0⟩] none)
 (.cond (Operand.tmp 25) (.seq (.reg [⟨(some 26), (Op.move (Operand.tmp 0)), none, ann0⟩,
  ⟨(some 27), (Op.move (Operand.tmp 1)), none, ann0⟩,
  ⟨(some 28), (Op.move (Operand.tmp 2)), none, ann0⟩,
  ⟨(some 29), (Op.move (Operand.tmp 4)), none, ann0⟩,
  ⟨(some 30), (Op.call { callee := (Callee.value (Operand.func 69)), args := #[(Operand.tmp 26), (Operand.tmp 27), (Operand.tmp 28), (Operand.tmp 29)], argTypes := #[26, 3, 3, 82] }), none, ann0⟩] none)
 .ret)
 .skip)) (.tidy [0, 1, 2, 3, 4, 10, 11, 12] z (z + 0)))
 (.seq (.post (.seq (.reg [⟨(some 31), (Op.move (Operand.tmp 3)), none, ann0⟩,
  ⟨(some 32), (Op.binOp BinOp.eql 3 (Operand.tmp 31) (Operand.const (Value.int IntKind.i64 0)) 3), none, ann0⟩] none)
 (.cond (Operand.tmp 32) (.seq (.reg [⟨(some 33), (Op.move (Operand.tmp 0)), none, ann0⟩,
  ⟨(some 34), (Op.move (Operand.tmp 1)), none, ann0⟩,
  ⟨(some 35), (Op.move (Operand.tmp 2)), none, ann0⟩,
  ⟨(some 36), (Op.move (Operand.tmp 4)), none, ann0⟩,
  ⟨(some 37), (Op.call { callee := (Callee.value (Operand.func 70)), args := #[(Operand.tmp 33), (Operand.tmp 34), (Operand.tmp 35), (Operand.tmp 36)], argTypes := #[26, 3, 3, 82] }), none, ann0⟩] none)
 .ret)
 .skip)) (.tidy [0, 1, 2, 3, 4, 10, 11, 12] z (z + 0)))
 (.seq (.post (.seq (.reg [⟨(some 38), (Op.move (Operand.tmp 10)), none, ann0⟩,
  ⟨(some 39), (Op.unOp UnOp.not 4 (Operand.tmp 38)), none, ann0⟩] none)
 (.cond (Operand.tmp 39) (.seq (.post (.reg [⟨(some 40), (Op.move (Operand.tmp 0)), none, ann0⟩,
  ⟨(some 41), (Op.move (Operand.tmp 1)), none, ann0⟩,
  ⟨(some 42), (Op.move (Operand.tmp 2)), none, ann0⟩,
  ⟨(some 43), (Op.move (Operand.tmp 4)), none, ann0⟩,
  ⟨(some 44), (Op.call { callee := (Callee.value (Operand.func 71)), args := #[(Operand.tmp 40), (Operand.tmp 41), (Operand.tmp 42), (Operand.tmp 43)], argTypes := #[26, 3, 3, 82] }), none, ann0⟩] none) (.tidy [0, 1, 2, 3, 4, 10, 11, 12] z (z + 0)))
 (.reg [⟨(some 45), (Op.move (Operand.tmp 3)), none, ann0⟩,
  ⟨(some 46), (Op.binOp BinOp.sub 3 (Operand.tmp 45) (Operand.const (Value.int IntKind.i64 1)) 3), none, ann0⟩,
  ⟨(some 3), (Op.assign (Operand.tmp 46)), none, ann0⟩] none))
 .skip)) (.tidy [0, 1, 2, 3, 4, 10, 11, 12] z (z + 0)))
 (.seq (.post (.reg [⟨(some 48), (Op.move (Operand.tmp 0)), none, ann0⟩,
  ⟨(some 49), (Op.move (Operand.tmp 1)), none, ann0⟩,
  ⟨(some 50), (Op.move (Operand.tmp 2)), none, ann0⟩,
  ⟨(some 51), (Op.move (Operand.tmp 4)), none, ann0⟩,
  ⟨(some 52), (Op.call { callee := (Callee.value (Operand.func 72)), args := #[(Operand.tmp 48), (Operand.tmp 49), (Operand.tmp 50), (Operand.tmp 51)], argTypes := #[26, 3, 3, 82] }), none, ann0⟩,
  ⟨(some 47), (Op.move (Operand.tmp 52)), none, ann0⟩,
  ⟨(some 53), (Op.extract (Operand.tmp 47) 0), none, ann0⟩,
  ⟨(some 54), (Op.extract (Operand.tmp 47) 1), none, ann0⟩,
  ⟨(some 13), (Op.assign (Operand.tmp 53)), none, ann0⟩,
  ⟨(some 14), (Op.assign (Operand.tmp 54)), none, ann0⟩] none) (.tidy [0, 1, 2, 3, 4, 10, 11, 12, 13, 14] z (z + 0)))
 (.seq (.post (.seq (.reg [⟨(some 55), (Op.move (Operand.tmp 14)), none, ann0⟩,
  ⟨(some 56), (Op.binOp BinOp.eql 90 (Operand.tmp 55) (Operand.const (Value.int IntKind.i64 2)) 90), none, ann0⟩] none)
 (.cond (Operand.tmp 56) (.seq (.post (.reg [⟨(some 57), (Op.move (Operand.tmp 0)), none, ann0⟩,
  ⟨(some 58), (Op.move (Operand.tmp 1)), none, ann0⟩,
  ⟨(some 59), (Op.move (Operand.tmp 2)), none, ann0⟩,
  ⟨(some 60), (Op.move (Operand.tmp 4)), none, ann0⟩,
  ⟨(some 61), (Op.call { callee := (Callee.value (Operand.func 73)), args := #[(Operand.tmp 57), (Operand.tmp 58), (Operand.tmp 59), (Operand.tmp 60)], argTypes := #[26, 3, 3, 82] }), none, ann0⟩] none) (.tidy [0, 1, 2, 3, 4, 10, 11, 12, 13] z (z + 0)))
 (.seq (.post (.reg [⟨(some 62), (Op.move (Operand.tmp 2)), none, ann0⟩,
  ⟨(some 63), (Op.binOp BinOp.sub 3 (Operand.tmp 62) (Operand.const (Value.int IntKind.i64 1)) 3), none, ann0⟩,
  ⟨(some 64), (Op.move (Operand.tmp 13)), none, ann0⟩,
  ⟨(some 65), (Op.move (Operand.tmp 1)), none, ann0⟩,
  ⟨(some 66), (Op.binOp BinOp.sub 3 (Operand.tmp 64) (Operand.tmp 65) 3), none, ann0⟩,
  ⟨(some 67), (Op.binOp BinOp.sub 3 (Operand.tmp 63) (Operand.tmp 66) 3), none, ann0⟩,
  ⟨(some 13), (Op.assign (Operand.tmp 67)), none, ann0⟩] none) (.tidy [0, 1, 2, 3, 4, 10, 11, 12, 13] z (z + 0)))
 (.reg [⟨(some 14), (Op.assign (Operand.const (Value.int IntKind.i64 1))), none, ann0⟩] none)))
 .skip)) (.tidy [0, 1, 2, 3, 4, 10, 11, 12, 13, 14] z (z + 0)))
 (.seq (.post (.seq (.post (.reg [⟨(some 68), (Op.move (Operand.tmp 10)), none, ann0⟩,
  ⟨(some 69), (Op.move (Operand.tmp 68)), none, ann0⟩,
  ⟨(some 70), (Op.move (Operand.tmp 11)), (some (69, true)), ann0⟩,
  ⟨(some 71), (Op.pick (Operand.tmp 69) (Operand.tmp 70) (Operand.const (Value.bool false))), none, ann0⟩,
  ⟨(some 72), (Op.move (Operand.tmp 71)), none, ann0⟩,
  ⟨(some 73), (Op.move (Operand.tmp 14)), (some (72, true)), ann0⟩,
  ⟨(some 74), (Op.binOp BinOp.eql 90 (Operand.tmp 73) (Operand.const (Value.int IntKind.i64 1)) 90), (some (72, true)), ann0⟩,
  ⟨(some 75), (Op.pick (Operand.tmp 72) (Operand.tmp 74) (Operand.const (Value.bool false))), none, ann0⟩] none) (.tidy [0, 1, 2, 3, 4, 10, 11, 12, 13, 75] z (z + 0)))
 (.cond (Operand.tmp 75) (.seq (.reg [⟨(some 76), (Op.move (Operand.tmp 0)), none, ann0⟩,
  ⟨(some 77), (Op.move (Operand.tmp 1)), none, ann0⟩,
  ⟨(some 78), (Op.move (Operand.tmp 2)), none, ann0⟩,
  ⟨(some 79), (Op.move (Operand.tmp 4)), none, ann0⟩,
  ⟨(some 80), (Op.call { callee := (Callee.value (Operand.func 74)), args := #[(Operand.tmp 76), (Operand.tmp 77), (Operand.tmp 78), (Operand.tmp 79)], argTypes := #[26, 3, 3, 82] }), none, ann0⟩] none)
 (.cond (Operand.tmp 80) .ret
 .skip))
 .skip)) (.tidy [0, 1, 2, 3, 4, 10, 11, 12, 13] z (z + 0)))
 (.seq (.post (.seq (.post (.reg [⟨(some 81), (Op.move (Operand.tmp 1)), none, ann0⟩,
  ⟨(some 82), (Op.binOp BinOp.gtr 3 (Operand.tmp 81) (Operand.const (Value.int IntKind.i64 0)) 3), none, ann0⟩,
  ⟨(some 83), (Op.move (Operand.tmp 82)), none, ann0⟩,
  ⟨(some 84), (Op.move (Operand.tmp 4)), (some (83, true)), ann0⟩,
  ⟨(some 85), (Op.move (Operand.tmp 0)), (some (83, true)), ann0⟩,
  ⟨(some 86), (Op.move (Operand.tmp 1)), (some (83, true)), ann0⟩,
  ⟨(some 87), (Op.binOp BinOp.sub 3 (Operand.tmp 86) (Operand.const (Value.int IntKind.i64 1)) 3), (some (83, true)), ann0⟩,
  ⟨(some 88), (Op.indexAddr 26 (Operand.tmp 85) (Operand.tmp 87)), (some (83, true)), ann0⟩,
  ⟨(some 89), (Op.load 25 (Operand.tmp 88)), (some (83, true)), ann0⟩,
  ⟨(some 90), (Op.move (Operand.tmp 0)), (some (83, true)), ann0⟩,
  ⟨(some 91), (Op.move (Operand.tmp 13)), (some (83, true)), ann0⟩,
  ⟨(some 92), (Op.indexAddr 26 (Operand.tmp 90) (Operand.tmp 91)), (some (83, true)), ann0⟩,
  ⟨(some 93), (Op.load 25 (Operand.tmp 92)), (some (83, true)), ann0⟩,
  ⟨(some 94), (Op.call { callee := (Callee.value (Operand.tmp 84)), args := #[(Operand.tmp 89), (Operand.tmp 93)], argTypes := #[25, 25] }), (some (83, true)), ann0⟩,
  ⟨(some 95), (Op.binOp BinOp.lss 3 (Operand.tmp 94) (Operand.const (Value.int IntKind.i64 0)) 3), (some (83, true)), ann0⟩,
  ⟨(some 96), (Op.unOp UnOp.not 4 (Operand.tmp 95)), (some (83, true)), ann0⟩,
  ⟨(some 97), (Op.pick (Operand.tmp 83) (Operand.tmp 96) (Operand.const (Value.bool false))), none, ann0⟩] (some [0, 1, 3, 7, 7, 7, 39, 119, 247, 7, 7, 1543, 3591, 8191, 16383, 32767, 65535])) (.tidy [0, 1, 2, 3, 4, 10, 11, 12, 13, 97] z (z + 0)))
 (.cond (Operand.tmp 97) (.seq (.post (.reg [⟨(some 98), (Op.move (Operand.tmp 0)), none, ann0⟩,
  ⟨(some 99), (Op.move (Operand.tmp 1)), none, ann0⟩,
  ⟨(some 100), (Op.move (Operand.tmp 2)), none, ann0⟩,
  ⟨(some 101), (Op.move (Operand.tmp 13)), none, ann0⟩,
  ⟨(some 102), (Op.move (Operand.tmp 4)), none, ann0⟩,
  ⟨(some 103), (Op.call { callee := (Callee.value (Operand.func 75)), args := #[(Operand.tmp 98), (Operand.tmp 99), (Operand.tmp 100), (Operand.tmp 101), (Operand.tmp 102)], argTypes := #[26, 3, 3, 3, 82] }), none, ann0⟩,
  ⟨(some 15), (Op.assign (Operand.tmp 103)), none, ann0⟩] none) (.tidy [0, 2, 3, 4, 10, 11, 15] z (z + 0)))
 (.seq (.reg [⟨(some 104), (Op.move (Operand.tmp 15)), none, ann0⟩,
  ⟨(some 1), (Op.assign (Operand.tmp 104)), none, ann0⟩] none)
 (.exit 1)))
 .skip)) (.tidy [0, 1, 2, 3, 4, 12, 13] z (z + 0)))
 (.seq (.post (.reg [⟨(some 106), (Op.move (Operand.tmp 0)), none, ann0⟩,
  ⟨(some 107), (Op.move (Operand.tmp 1)), none, ann0⟩,
  ⟨(some 108), (Op.move (Operand.tmp 2)), none, ann0⟩,
  ⟨(some 109), (Op.move (Operand.tmp 13)), none, ann0⟩,
  ⟨(some 110), (Op.move (Operand.tmp 4)), none, ann0⟩,
  ⟨(some 111), (Op.call { callee := (Callee.value (Operand.func 76)), args := #[(Operand.tmp 106), (Operand.tmp 107), (Operand.tmp 108), (Operand.tmp 109), (Operand.tmp 110)], argTypes := #[26, 3, 3, 3, 82] }), none, ann0⟩,
  ⟨(some 105), (Op.move (Operand.tmp 111)), none, ann0⟩,
  ⟨(some 112), (Op.extract (Operand.tmp 105) 0), none, ann0⟩,
  ⟨(some 113), (Op.extract (Operand.tmp 105) 1), none, ann0⟩,
  ⟨(some 16), (Op.assign (Operand.tmp 112)), none, ann0⟩,
  ⟨(some 17), (Op.assign (Operand.tmp 113)), none, ann0⟩] none) (.tidy [0, 1, 2, 3, 4, 12, 16, 17] z (z + 0)))
 (.seq (.reg [⟨(some 114), (Op.move (Operand.tmp 17)), none, ann0⟩,
  ⟨(some 11), (Op.assign (Operand.tmp 114)), none, ann0⟩] none)
 (.seq (.post (.reg [⟨(some 115), (Op.move (Operand.tmp 16)), none, ann0⟩,
  ⟨(some 116), (Op.move (Operand.tmp 1)), none, ann0⟩,
  ⟨(some 117), (Op.binOp BinOp.sub 3 (Operand.tmp 115) (Operand.tmp 116) 3), none, ann0⟩,
  ⟨(some 118), (Op.move (Operand.tmp 2)), none, ann0⟩,
  ⟨(some 119), (Op.move (Operand.tmp 16)), none, ann0⟩,
  ⟨(some 120), (Op.binOp BinOp.sub 3 (Operand.tmp 118) (Operand.tmp 119) 3), none, ann0⟩,
  ⟨(some 18), (Op.assign (Operand.tmp 117)), none, ann0⟩,
  ⟨(some 19), (Op.assign (Operand.tmp 120)), none, ann0⟩] none) (.tidy [0, 1, 2, 3, 4, 11, 12, 16, 18, 19] z (z + 0)))
 (.seq (.reg [⟨(some 121), (Op.move (Operand.tmp 12)), none, ann0⟩,
  ⟨(some 122), (Op.binOp BinOp.quo 3 (Operand.tmp 121) (Operand.const (Value.int IntKind.i64 8)) 3), none, ann0⟩,
  ⟨(some 20), (Op.assign (Operand.tmp 122)), none, ann0⟩] none)
 (.seq (.reg [⟨(some 123), (Op.move (Operand.tmp 18)), none, ann0⟩,
  ⟨(some 124), (Op.move (Operand.tmp 19)), none, ann0⟩,
  ⟨(some 125), (Op.binOp BinOp.lss 3 (Operand.tmp 123) (Operand.tmp 124) 3), none, ann0⟩] none)
 (.cond (Operand.tmp 125) (.seq (.post (.reg [⟨(some 126), (Op.move (Operand.tmp 18)), none, ann0⟩,
  ⟨(some 127), (Op.move (Operand.tmp 20)), none, ann0⟩,
  ⟨(some 128), (Op.binOp BinOp.geq 3 (Operand.tmp 126) (Operand.tmp 127) 3), none, ann0⟩,
  ⟨(some 10), (Op.assign (Operand.tmp 128)), none, ann0⟩] none) (.tidy [0, 1, 2, 3, 4, 10, 11, 16] z (z + 0)))
 (.seq (.post (.reg [⟨(some 129), (Op.move (Operand.tmp 0)), none, ann0⟩,
  ⟨(some 130), (Op.move (Operand.tmp 1)), none, ann0⟩,
  ⟨(some 131), (Op.move (Operand.tmp 16)), none, ann0⟩,
  ⟨(some 132), (Op.move (Operand.tmp 3)), none, ann0⟩,
  ⟨(some 133), (Op.move (Operand.tmp 4)), none, ann0⟩,
  ⟨(some 134), (Op.call { callee := (Callee.value (Operand.func 57)), args := #[(Operand.tmp 129), (Operand.tmp 130), (Operand.tmp 131), (Operand.tmp 132), (Operand.tmp 133)], argTypes := #[26, 3, 3, 3, 82] }), none, ann0⟩] none) (.tidy [0, 2, 3, 4, 10, 11, 16] z (z + 0)))
 (.reg [⟨(some 135), (Op.move (Operand.tmp 16)), none, ann0⟩,
  ⟨(some 136), (Op.binOp BinOp.add 3 (Operand.tmp 135) (Operand.const (Value.int IntKind.i64 1)) 3), none, ann0⟩,
  ⟨(some 1), (Op.assign (Operand.tmp 136)), none, ann0⟩] none)))
 (.seq (.reg [⟨(some 137), (Op.move (Operand.tmp 19)), none, ann0⟩,
  ⟨(some 138), (Op.move (Operand.tmp 20)), none, ann0⟩,
  ⟨(some 139), (Op.binOp BinOp.geq 3 (Operand.tmp 137) (Operand.tmp 138) 3), none, ann0⟩,
  ⟨(some 10), (Op.assign (Operand.tmp 139)), none, ann0⟩] none)
 (.seq (.post (.reg [⟨(some 140), (Op.move (Operand.tmp 0)), none, ann0⟩,
  ⟨(some 141), (Op.move (Operand.tmp 16)), none, ann0⟩,
  ⟨(some 142), (Op.binOp BinOp.add 3 (Operand.tmp 141) (Operand.const (Value.int IntKind.i64 1)) 3), none, ann0⟩,
  ⟨(some 143), (Op.move (Operand.tmp 2)), none, ann0⟩,
  ⟨(some 144), (Op.move (Operand.tmp 3)), none, ann0⟩,
  ⟨(some 145), (Op.move (Operand.tmp 4)), none, ann0⟩,
  ⟨(some 146), (Op.call { callee := (Callee.value (Operand.func 57)), args := #[(Operand.tmp 140), (Operand.tmp 142), (Operand.tmp 143), (Operand.tmp 144), (Operand.tmp 145)], argTypes := #[26, 3, 3, 3, 82] }), none, ann0⟩] none) (.tidy [0, 1, 3, 4, 10, 11, 16] z (z + 0)))
 (.reg [⟨(some 147), (Op.move (Operand.tmp 16)), none, ann0⟩,
  ⟨(some 2), (Op.assign (Operand.tmp 147)), none, ann0⟩] none)))))))))))))))))) (.tidy [0, 1, 2, 3, 4, 10, 11] z (z + 0))
def s57_1 (z : Nat) : SC := c57_1 z
theorem e57_1 {C : Pg} {z : Nat} {st : St} {ks : List Fr} {K : Ex → St → Prop} : wpk C (s57_1 z) st ks K ↔ wpk C (c57_1 z) st ks K := Iff.rfl
def s57 (z : Nat) : SFn := ⟨5, 148, [],
 (.seq (.reg [⟨(some 10), (Op.assign (Operand.const (Value.bool true))), none, ann0⟩] none)
 (.seq (.reg [⟨(some 11), (Op.assign (Operand.const (Value.bool true))), none, ann0⟩] none)
 (.post (.block 0 (.pre (.tidy [0, 1, 2, 3, 4, 10, 11] z (z + 0)) (.loop (s57_1 z)))) (.tidy [] z (z + 0)))))⟩
theorem F57 (z : Nat) : FOk Try.prog 57 (s57 z) := by unfold FOk; kernel_rfl
def s58 (z : Nat) : SFn := ⟨1, 6, [(ResultVar.tmp 2)],
 (.seq (.reg [⟨(some 2), (Op.assign (Operand.const (Value.bool false))), none, ann0⟩] none)
 (.seq (.reg [⟨(some 3), (Op.move (Operand.tmp 0)), none, ann0⟩,
  ⟨(some 4), (Op.move (Operand.tmp 0)), none, ann0⟩,
  ⟨(some 5), (Op.binOp BinOp.neq 9 (Operand.tmp 3) (Operand.tmp 4) 9), none, ann0⟩,
  ⟨(some 2), (Op.assign (Operand.tmp 5)), none, ann0⟩] none)
 .ret))⟩
theorem F58 (z : Nat) : FOk Try.prog 58 (s58 z) := by unfold FOk; kernel_rfl
def c59_2 (z : Nat) : SC := .post (.seq (.post (.seq (.post (.reg [⟨(some 18), (Op.move (Operand.tmp 9)), none, ann0⟩,
  ⟨(some 19), (Op.move (Operand.tmp 1)), none, ann0⟩,
  ⟨(some 20), (Op.binOp BinOp.gtr 3 (Operand.tmp 18) (Operand.tmp 19) 3), none, ann0⟩,
  ⟨(some 21), (Op.move (Operand.tmp 20)), none, ann0⟩,
  ⟨(some 22), (Op.move (Operand.tmp 3)), (some (21, true)), ann0⟩,
  ⟨(some 23), (Op.move (Operand.tmp 0)), (some (21, true)), ann0⟩,
  ⟨(some 24), (Op.move (Operand.tmp 9)), (some (21, true)), ann0⟩,
  ⟨(some 25), (Op.indexAddr 74 (Operand.tmp 23) (Operand.tmp 24)), (some (21, true)), ann0⟩,
  ⟨(some 26), (Op.load 3 (Operand.tmp 25)), (some (21, true)), ann0⟩,
  ⟨(some 27), (Op.move (Operand.tmp 0)), (some (21, true)), ann0⟩,
  ⟨(some 28), (Op.move (Operand.tmp 9)), (some (21, true)), ann0⟩,
  ⟨(some 29), (Op.binOp BinOp.sub 3 (Operand.tmp 28) (Operand.const (Value.int IntKind.i64 1)) 3), (some (21, true)), ann0⟩,
  ⟨(some 30), (Op.indexAddr 74 (Operand.tmp 27) (Operand.tmp 29)), (some (21, true)), ann0⟩,
  ⟨(some 31), (Op.load 3 (Operand.tmp 30)), (some (21, true)), ann0⟩,
  ⟨(some 32), (Op.call { callee := (Callee.value (Operand.tmp 22)), args := #[(Operand.tmp 26), (Operand.tmp 31)], argTypes := #[3, 3] }), (some (21, true)), ann0⟩,
  ⟨(some 33), (Op.binOp BinOp.lss 3 (Operand.tmp 32) (Operand.const (Value.int IntKind.i64 0)) 3), (some (21, true)), ann0⟩,
  ⟨(some 34), (Op.pick (Operand.tmp 21) (Operand.tmp 33) (Operand.const (Value.bool false))), none, ann0⟩] (some [0, 0, 3, 7, 15, 15, 15, 111, 239, 15, 15, 1039, 3599, 7695, 16383, 32767, 65535])) (.tidy [0, 1, 2, 3, 8, 9, 34] z (z + 0)))
 (.cond (Operand.tmp 34) .skip
 (.exit 2))) (.tidy [0, 1, 2, 3, 8, 9] z (z + 0)))
 (.seq (.post (.block 3 (.reg [⟨(some 37), (Op.move (Operand.tmp 0)), none, ann0⟩,
  ⟨(some 38), (Op.move (Operand.tmp 9)), none, ann0⟩,
  ⟨(some 39), (Op.move (Operand.tmp 0)), none, ann0⟩,
  ⟨(some 40), (Op.move (Operand.tmp 9)), none, ann0⟩,
  ⟨(some 41), (Op.binOp BinOp.sub 3 (Operand.tmp 40) (Operand.const (Value.int IntKind.i64 1)) 3), none, ann0⟩,
  ⟨(some 42), (Op.move (Operand.tmp 0)), none, ann0⟩,
  ⟨(some 43), (Op.move (Operand.tmp 9)), none, ann0⟩,
  ⟨(some 44), (Op.binOp BinOp.sub 3 (Operand.tmp 43) (Operand.const (Value.int IntKind.i64 1)) 3), none, ann0⟩,
  ⟨(some 45), (Op.indexAddr 74 (Operand.tmp 42) (Operand.tmp 44)), none, ann0⟩,
  ⟨(some 46), (Op.load 3 (Operand.tmp 45)), none, ann0⟩,
  ⟨(some 47), (Op.move (Operand.tmp 0)), none, ann0⟩,
  ⟨(some 48), (Op.move (Operand.tmp 9)), none, ann0⟩,
  ⟨(some 49), (Op.indexAddr 74 (Operand.tmp 47) (Operand.tmp 48)), none, ann0⟩,
  ⟨(some 50), (Op.load 3 (Operand.tmp 49)), none, ann0⟩,
  ⟨(some 51), (Op.indexAddr 74 (Operand.tmp 37) (Operand.tmp 38)), none, ann0⟩,
  ⟨none, (Op.store 3 (Operand.tmp 51) (Operand.tmp 46)), none, ann0⟩,
  ⟨(some 52), (Op.indexAddr 74 (Operand.tmp 39) (Operand.tmp 41)), none, ann0⟩,
  ⟨none, (Op.store 3 (Operand.tmp 52) (Operand.tmp 50)), none, ann0⟩] (some [0, 0, 0, 0, 8, 0, 0, 64, 224, 480, 0, 0, 3072, 7168, 16355, 32739, 65535, 131071]))) (.tidy [0, 1, 2, 3, 8, 9] z (z + 0)))
 (.reg [⟨(some 35), (Op.move (Operand.tmp 9)), none, ann0⟩,
  ⟨(some 36), (Op.binOp BinOp.sub 3 (Operand.tmp 35) (Operand.const (Value.int IntKind.i64 1)) 3), none, ann0⟩,
  ⟨(some 9), (Op.assign (Operand.tmp 36)), none, ann0⟩] none))) (.tidy [0, 1, 2, 3, 8, 9] z (z + 0))
def s59_2 (z : Nat) : SC := c59_2 z
theorem e59_2 {C : Pg} {z : Nat} {st : St} {ks : List Fr} {K : Ex → St → Prop} : wpk C (s59_2 z) st ks K ↔ wpk C (c59_2 z) st ks K := Iff.rfl
def c59_1 (z : Nat) : SC := .post (.seq (.post (.seq (.reg [⟨(some 12), (Op.move (Operand.tmp 8)), none, ann0⟩,
  ⟨(some 13), (Op.move (Operand.tmp 2)), none, ann0⟩,
  ⟨(some 14), (Op.binOp BinOp.lss 3 (Operand.tmp 12) (Operand.tmp 13) 3), none, ann0⟩] none)
 (.cond (Operand.tmp 14) .skip
 (.exit 0))) (.tidy [0, 1, 2, 3, 8] z (z + 0)))
 (.seq (.post (.block 1 (.seq (.reg [⟨(some 17), (Op.move (Operand.tmp 8)), none, ann0⟩,
  ⟨(some 9), (Op.assign (Operand.tmp 17)), none, ann0⟩] none)
 (.post (.block 2 (.pre (.tidy [0, 1, 2, 3, 8, 9] z (z + 0)) (.loop (s59_2 z)))) (.tidy [0, 1, 2, 3, 8] z (z + 0))))) (.tidy [0, 1, 2, 3, 8] z (z + 0)))
 (.reg [⟨(some 15), (Op.move (Operand.tmp 8)), none, ann0⟩,
  ⟨(some 16), (Op.binOp BinOp.add 3 (Operand.tmp 15) (Operand.const (Value.int IntKind.i64 1)) 3), none, ann0⟩,
  ⟨(some 8), (Op.assign (Operand.tmp 16)), none, ann0⟩] none))) (.tidy [0, 1, 2, 3, 8] z (z + 0))
def s59_1 (z : Nat) : SC := c59_1 z
theorem e59_1 {C : Pg} {z : Nat} {st : St} {ks : List Fr} {K : Ex → St → Prop} : wpk C (s59_1 z) st ks K ↔ wpk C (c59_1 z) st ks K := Iff.rfl
def s59 (z : Nat) : SFn := ⟨4, 53, [],
 (.seq (.reg [⟨(some 10), (Op.move (Operand.tmp 1)), none, ann0⟩,
  ⟨(some 11), (Op.binOp BinOp.add 3 (Operand.tmp 10) (Operand.const (Value.int IntKind.i64 1)) 3), none, ann0⟩,
  ⟨(some 8), (Op.assign (Operand.tmp 11)), none, ann0⟩] none)
 (.post (.block 0 (.pre (.tidy [0, 1, 2, 3, 8] z (z + 0)) (.loop (s59_1 z)))) (.tidy [] z (z + 0))))⟩
theorem F59 (z : Nat) : FOk Try.prog 59 (s59 z) := by unfold FOk; kernel_rfl
def c60_1 (z : Nat) : SC := .post (.seq (.seq (.reg [⟨(some 20), (Op.move (Operand.tmp 11)), none, ann0⟩,
  ⟨(some 21), (Op.binOp BinOp.geq 3 (Operand.tmp 20) (Operand.const (Value.int IntKind.i64 0)) 3), none, ann0⟩] none)
 (.cond (Operand.tmp 21) .skip
 (.exit 0)))
 (.seq (.post (.block 1 (.reg [⟨(some 24), (Op.move (Operand.tmp 0)), none, ann0⟩,
  ⟨(some 25), (Op.move (Operand.tmp 11)), none, ann0⟩,
  ⟨(some 26), (Op.move (Operand.tmp 10)), none, ann0⟩,
  ⟨(some 27), (Op.move (Operand.tmp 8)), none, ann0⟩,
  ⟨(some 28), (Op.move (Operand.tmp 3)), none, ann0⟩,
  ⟨(some 29), (Op.call { callee := (Callee.value (Operand.func 77)), args := #[(Operand.tmp 24), (Operand.tmp 25), (Operand.tmp 26), (Operand.tmp 27), (Operand.tmp 28)], argTypes := #[74, 3, 3, 3, 76] }), none, ann0⟩] none)) (.tidy [0, 3, 8, 9, 10, 11] z (z + 0)))
 (.reg [⟨(some 22), (Op.move (Operand.tmp 11)), none, ann0⟩,
  ⟨(some 23), (Op.binOp BinOp.sub 3 (Operand.tmp 22) (Operand.const (Value.int IntKind.i64 1)) 3), none, ann0⟩,
  ⟨(some 11), (Op.assign (Operand.tmp 23)), none, ann0⟩] none))) (.tidy [0, 3, 8, 9, 10, 11] z (z + 0))
def s60_1 (z : Nat) : SC := c60_1 z
theorem e60_1 {C : Pg} {z : Nat} {st : St} {ks : List Fr} {K : Ex → St → Prop} : wpk C (s60_1 z) st ks K ↔ wpk C (c60_1 z) st ks K := Iff.rfl
def c60_2 (z : Nat) : SC := .post (.seq (.seq (.reg [⟨(some 32), (Op.move (Operand.tmp 12)), none, ann0⟩,
  ⟨(some 33), (Op.binOp BinOp.geq 3 (Operand.tmp 32) (Operand.const (Value.int IntKind.i64 0)) 3), none, ann0⟩] none)
 (.cond (Operand.tmp 33) .skip
 (.exit 2)))
 (.seq (.post (.block 3 (.seq (.post (.reg [⟨(some 36), (Op.move (Operand.tmp 0)), none, ann0⟩,
  ⟨(some 37), (Op.move (Operand.tmp 8)), none, ann0⟩,
  ⟨(some 38), (Op.move (Operand.tmp 0)), none, ann0⟩,
  ⟨(some 39), (Op.move (Operand.tmp 8)), none, ann0⟩,
  ⟨(some 40), (Op.move (Operand.tmp 12)), none, ann0⟩,
  ⟨(some 41), (Op.binOp BinOp.add 3 (Operand.tmp 39) (Operand.tmp 40) 3), none, ann0⟩,
  ⟨(some 42), (Op.move (Operand.tmp 0)), none, ann0⟩,
  ⟨(some 43), (Op.move (Operand.tmp 8)), none, ann0⟩,
  ⟨(some 44), (Op.move (Operand.tmp 12)), none, ann0⟩,
  ⟨(some 45), (Op.binOp BinOp.add 3 (Operand.tmp 43) (Operand.tmp 44) 3), none, ann0⟩,
  ⟨(some 46), (Op.indexAddr 74 (Operand.tmp 42) (Operand.tmp 45)), none, ann0⟩,
  ⟨(some 47), (Op.load 3 (Operand.tmp 46)), none, ann0⟩,
  ⟨(some 48), (Op.move (Operand.tmp 0)), none, ann0⟩,
  ⟨(some 49), (Op.move (Operand.tmp 8)), none, ann0⟩,
  ⟨(some 50), (Op.indexAddr 74 (Operand.tmp 48) (Operand.tmp 49)), none, ann0⟩,
  ⟨(some 51), (Op.load 3 (Operand.tmp 50)), none, ann0⟩,
  ⟨(some 52), (Op.indexAddr 74 (Operand.tmp 36) (Operand.tmp 37)), none, ann0⟩,
  ⟨none, (Op.store 3 (Operand.tmp 52) (Operand.tmp 47)), none, ann0⟩,
  ⟨(some 53), (Op.indexAddr 74 (Operand.tmp 38) (Operand.tmp 41)), none, ann0⟩,
  ⟨none, (Op.store 3 (Operand.tmp 53) (Operand.tmp 51)), none, ann0⟩] (some [0, 0, 0, 0, 0, 24, 0, 0, 0, 384, 960, 1984, 0, 0, 12288, 28672, 65475, 131011, 262143, 524287])) (.tidy [0, 3, 8, 9, 12] z (z + 0)))
 (.reg [⟨(some 54), (Op.move (Operand.tmp 0)), none, ann0⟩,
  ⟨(some 55), (Op.move (Operand.tmp 9)), none, ann0⟩,
  ⟨(some 56), (Op.move (Operand.tmp 12)), none, ann0⟩,
  ⟨(some 57), (Op.move (Operand.tmp 8)), none, ann0⟩,
  ⟨(some 58), (Op.move (Operand.tmp 3)), none, ann0⟩,
  ⟨(some 59), (Op.call { callee := (Callee.value (Operand.func 77)), args := #[(Operand.tmp 54), (Operand.tmp 55), (Operand.tmp 56), (Operand.tmp 57), (Operand.tmp 58)], argTypes := #[74, 3, 3, 3, 76] }), none, ann0⟩] none))) (.tidy [0, 3, 8, 9, 12] z (z + 0)))
 (.reg [⟨(some 34), (Op.move (Operand.tmp 12)), none, ann0⟩,
  ⟨(some 35), (Op.binOp BinOp.sub 3 (Operand.tmp 34) (Operand.const (Value.int IntKind.i64 1)) 3), none, ann0⟩,
  ⟨(some 12), (Op.assign (Operand.tmp 35)), none, ann0⟩] none))) (.tidy [0, 3, 8, 9, 12] z (z + 0))
def s60_2 (z : Nat) : SC := c60_2 z
theorem e60_2 {C : Pg} {z : Nat} {st : St} {ks : List Fr} {K : Ex → St → Prop} : wpk C (s60_2 z) st ks K ↔ wpk C (c60_2 z) st ks K := Iff.rfl
def s60 (z : Nat) : SFn := ⟨4, 60, [],
 (.seq (.reg [⟨(some 13), (Op.move (Operand.tmp 1)), none, ann0⟩,
  ⟨(some 8), (Op.assign (Operand.tmp 13)), none, ann0⟩] none)
 (.seq (.reg [⟨(some 9), (Op.assign (Operand.const (Value.int IntKind.i64 0))), none, ann0⟩] none)
 (.seq (.reg [⟨(some 14), (Op.move (Operand.tmp 2)), none, ann0⟩,
  ⟨(some 15), (Op.move (Operand.tmp 1)), none, ann0⟩,
  ⟨(some 16), (Op.binOp BinOp.sub 3 (Operand.tmp 14) (Operand.tmp 15) 3), none, ann0⟩,
  ⟨(some 10), (Op.assign (Operand.tmp 16)), none, ann0⟩] none)
 (.seq (.post (.seq (.post (.reg [⟨(some 17), (Op.move (Operand.tmp 10)), none, ann0⟩,
  ⟨(some 18), (Op.binOp BinOp.sub 3 (Operand.tmp 17) (Operand.const (Value.int IntKind.i64 1)) 3), none, ann0⟩,
  ⟨(some 19), (Op.binOp BinOp.quo 3 (Operand.tmp 18) (Operand.const (Value.int IntKind.i64 2)) 3), none, ann0⟩,
  ⟨(some 11), (Op.assign (Operand.tmp 19)), none, ann0⟩] none) (.tidy [0, 3, 8, 9, 10, 11] z (z + 0)))
 (.post (.block 0 (.pre (.tidy [0, 3, 8, 9, 10, 11] z (z + 0)) (.loop (s60_1 z)))) (.tidy [0, 3, 8, 9, 10] z (z + 0)))) (.tidy [0, 3, 8, 9, 10] z (z + 0)))
 (.seq (.reg [⟨(some 30), (Op.move (Operand.tmp 10)), none, ann0⟩,
  ⟨(some 31), (Op.binOp BinOp.sub 3 (Operand.tmp 30) (Operand.const (Value.int IntKind.i64 1)) 3), none, ann0⟩,
  ⟨(some 12), (Op.assign (Operand.tmp 31)), none, ann0⟩] none)
 (.post (.block 2 (.pre (.tidy [0, 3, 8, 9, 12] z (z + 0)) (.loop (s60_2 z)))) (.tidy [] z (z + 0))))))))⟩
theorem F60 (z : Nat) : FOk Try.prog 60 (s60 z) := by unfold FOk; kernel_rfl
def c61_1 (z : Nat) : SC := .post (.seq (.post (.seq (.post (.reg [⟨(some 28), (Op.move (Operand.tmp 11)), none, ann0⟩,
  ⟨(some 29), (Op.move (Operand.tmp 1)), none, ann0⟩,
  ⟨(some 30), (Op.move (Operand.tmp 8)), none, ann0⟩,
  ⟨(some 31), (Op.binOp BinOp.quo 3 (Operand.tmp 30) (Operand.const (Value.int IntKind.i64 4)) 3), none, ann0⟩,
  ⟨(some 32), (Op.binOp BinOp.mul 3 (Operand.tmp 31) (Operand.const (Value.int IntKind.i64 2)) 3), none, ann0⟩,
  ⟨(some 33), (Op.binOp BinOp.add 3 (Operand.tmp 29) (Operand.tmp 32) 3), none, ann0⟩,
  ⟨(some 34), (Op.binOp BinOp.add 3 (Operand.tmp 33) (Operand.const (Value.int IntKind.i64 1)) 3), none, ann0⟩,
  ⟨(some 35), (Op.binOp BinOp.leq 3 (Operand.tmp 28) (Operand.tmp 34) 3), none, ann0⟩] none) (.tidy [0, 1, 8, 9, 10, 11, 35] z (z + 1)))
 (.cond (Operand.tmp 35) .skip
 (.exit 0))) (.tidy [0, 1, 8, 9, 10, 11] z (z + 1)))
 (.seq (.post (.block 1 (.seq (.reg [⟨(some 38), (Op.call { callee := (Callee.value (Operand.func 79)), args := #[(Operand.tmp 9)], argTypes := #[104] }), none, ann0⟩,
  ⟨(some 39), (Op.move (Operand.tmp 10)), none, ann0⟩,
  ⟨(some 40), (Op.binOp BinOp.sub 85 (Operand.tmp 39) (Operand.const (Value.int IntKind.u64 1)) 85), none, ann0⟩,
  ⟨(some 41), (Op.binOp BinOp.and 85 (Operand.tmp 38) (Operand.tmp 40) 85), none, ann0⟩,
  ⟨(some 42), (Op.convert 85 3 (Operand.tmp 41)), none, ann0⟩,
  ⟨(some 12), (Op.assign (Operand.tmp 42)), none, ann0⟩] none)
 (.seq (.post (.seq (.post (.reg [⟨(some 43), (Op.move (Operand.tmp 12)), none, ann0⟩,
  ⟨(some 44), (Op.move (Operand.tmp 8)), none, ann0⟩,
  ⟨(some 45), (Op.binOp BinOp.geq 3 (Operand.tmp 43) (Operand.tmp 44) 3), none, ann0⟩] none) (.tidy [0, 1, 8, 9, 10, 11, 12, 45] z (z + 1)))
 (.cond (Operand.tmp 45) (.reg [⟨(some 46), (Op.move (Operand.tmp 12)), none, ann0⟩,
  ⟨(some 47), (Op.move (Operand.tmp 8)), none, ann0⟩,
  ⟨(some 48), (Op.binOp BinOp.sub 3 (Operand.tmp 46) (Operand.tmp 47) 3), none, ann0⟩,
  ⟨(some 12), (Op.assign (Operand.tmp 48)), none, ann0⟩] none)
 .skip)) (.tidy [0, 1, 8, 9, 10, 11, 12] z (z + 1)))
 (.reg [⟨(some 49), (Op.move (Operand.tmp 0)), none, ann0⟩,
  ⟨(some 50), (Op.move (Operand.tmp 11)), none, ann0⟩,
  ⟨(some 51), (Op.move (Operand.tmp 0)), none, ann0⟩,
  ⟨(some 52), (Op.move (Operand.tmp 1)), none, ann0⟩,
  ⟨(some 53), (Op.move (Operand.tmp 12)), none, ann0⟩,
  ⟨(some 54), (Op.binOp BinOp.add 3 (Operand.tmp 52) (Operand.tmp 53) 3), none, ann0⟩,
  ⟨(some 55), (Op.move (Operand.tmp 0)), none, ann0⟩,
  ⟨(some 56), (Op.move (Operand.tmp 1)), none, ann0⟩,
  ⟨(some 57), (Op.move (Operand.tmp 12)), none, ann0⟩,
  ⟨(some 58), (Op.binOp BinOp.add 3 (Operand.tmp 56) (Operand.tmp 57) 3), none, ann0⟩,
  ⟨(some 59), (Op.indexAddr 74 (Operand.tmp 55) (Operand.tmp 58)), none, ann0⟩,
  ⟨(some 60), (Op.load 3 (Operand.tmp 59)), none, ann0⟩,
  ⟨(some 61), (Op.move (Operand.tmp 0)), none, ann0⟩,
  ⟨(some 62), (Op.move (Operand.tmp 11)), none, ann0⟩,
  ⟨(some 63), (Op.indexAddr 74 (Operand.tmp 61) (Operand.tmp 62)), none, ann0⟩,
  ⟨(some 64), (Op.load 3 (Operand.tmp 63)), none, ann0⟩,
  ⟨(some 65), (Op.indexAddr 74 (Operand.tmp 49) (Operand.tmp 50)), none, ann0⟩,
  ⟨none, (Op.store 3 (Operand.tmp 65) (Operand.tmp 60)), none, ann0⟩,
  ⟨(some 66), (Op.indexAddr 74 (Operand.tmp 51) (Operand.tmp 54)), none, ann0⟩,
  ⟨none, (Op.store 3 (Operand.tmp 66) (Operand.tmp 64)), none, ann0⟩] (some [0, 0, 0, 0, 0, 24, 0, 0, 0, 384, 960, 1984, 0, 0, 12288, 28672, 65475, 131011, 262143, 524287]))))) (.tidy [0, 1, 8, 9, 10, 11] z (z + 1)))
 (.reg [⟨(some 36), (Op.move (Operand.tmp 11)), none, ann0⟩,
  ⟨(some 37), (Op.binOp BinOp.add 3 (Operand.tmp 36) (Operand.const (Value.int IntKind.i64 1)) 3), none, ann0⟩,
  ⟨(some 11), (Op.assign (Operand.tmp 37)), none, ann0⟩] none))) (.tidy [0, 1, 8, 9, 10, 11] z (z + 1))
def s61_1 (z : Nat) : SC := c61_1 z
theorem e61_1 {C : Pg} {z : Nat} {st : St} {ks : List Fr} {K : Ex → St → Prop} : wpk C (s61_1 z) st ks K ↔ wpk C (c61_1 z) st ks K := Iff.rfl
def s61 (z : Nat) : SFn := ⟨4, 67, [],
 (.seq (.reg [⟨(some 13), (Op.move (Operand.tmp 2)), none, ann0⟩,
  ⟨(some 14), (Op.move (Operand.tmp 1)), none, ann0⟩,
  ⟨(some 15), (Op.binOp BinOp.sub 3 (Operand.tmp 13) (Operand.tmp 14) 3), none, ann0⟩,
  ⟨(some 8), (Op.assign (Operand.tmp 15)), none, ann0⟩] none)
 (.seq (.reg [⟨(some 16), (Op.move (Operand.tmp 8)), none, ann0⟩,
  ⟨(some 17), (Op.binOp BinOp.geq 3 (Operand.tmp 16) (Operand.const (Value.int IntKind.i64 8)) 3), none, ann0⟩] none)
 (.cond (Operand.tmp 17) (.seq (.post (.reg [⟨(some 18), (Op.move (Operand.tmp 8)), none, ann0⟩,
  ⟨(some 19), (Op.convert 3 104 (Operand.tmp 18)), none, ann0⟩,
  ⟨(some 9), (Op.alloc 104), none, ⟨1, false, false⟩⟩,
  ⟨none, (Op.store 104 (Operand.tmp 9) (Operand.tmp 19)), none, ann0⟩] none) (.tidy [0, 1, 8, 9] z (z + 1)))
 (.seq (.reg [⟨(some 20), (Op.move (Operand.tmp 8)), none, ann0⟩,
  ⟨(some 21), (Op.call { callee := (Callee.value (Operand.func 78)), args := #[(Operand.tmp 20)], argTypes := #[3] }), none, ann0⟩,
  ⟨(some 10), (Op.assign (Operand.tmp 21)), none, ann0⟩] none)
 (.seq (.post (.reg [⟨(some 22), (Op.move (Operand.tmp 1)), none, ann0⟩,
  ⟨(some 23), (Op.move (Operand.tmp 8)), none, ann0⟩,
  ⟨(some 24), (Op.binOp BinOp.quo 3 (Operand.tmp 23) (Operand.const (Value.int IntKind.i64 4)) 3), none, ann0⟩,
  ⟨(some 25), (Op.binOp BinOp.mul 3 (Operand.tmp 24) (Operand.const (Value.int IntKind.i64 2)) 3), none, ann0⟩,
  ⟨(some 26), (Op.binOp BinOp.add 3 (Operand.tmp 22) (Operand.tmp 25) 3), none, ann0⟩,
  ⟨(some 27), (Op.binOp BinOp.sub 3 (Operand.tmp 26) (Operand.const (Value.int IntKind.i64 1)) 3), none, ann0⟩,
  ⟨(some 11), (Op.assign (Operand.tmp 27)), none, ann0⟩] none) (.tidy [0, 1, 8, 9, 10, 11] z (z + 1)))
 (.post (.block 0 (.pre (.tidy [0, 1, 8, 9, 10, 11] z (z + 1)) (.loop (s61_1 z)))) (.tidy [] z (z + 1))))))
 .skip)))⟩
theorem F61 (z : Nat) : FOk Try.prog 61 (s61 z) := by unfold FOk; kernel_rfl
def s62 (z : Nat) : SFn := ⟨4, 63, [(ResultVar.tmp 8), (ResultVar.tmp 9)],
 (.seq (.reg [⟨(some 8), (Op.assign (Operand.const (Value.int IntKind.i64 0))), none, ann0⟩,
  ⟨(some 9), (Op.assign (Operand.const (Value.int IntKind.i64 0))), none, ann0⟩] none)
 (.seq (.reg [⟨(some 15), (Op.move (Operand.tmp 2)), none, ann0⟩,
  ⟨(some 16), (Op.move (Operand.tmp 1)), none, ann0⟩,
  ⟨(some 17), (Op.binOp BinOp.sub 3 (Operand.tmp 15) (Operand.tmp 16) 3), none, ann0⟩,
  ⟨(some 10), (Op.assign (Operand.tmp 17)), none, ann0⟩] none)
 (.seq (.reg [⟨(some 11), (Op.alloc 3), none, ⟨1, false, false⟩⟩] none)
 (.seq (.post (.reg [⟨(some 18), (Op.move (Operand.tmp 1)), none, ann0⟩,
  ⟨(some 19), (Op.move (Operand.tmp 10)), none, ann0⟩,
  ⟨(some 20), (Op.binOp BinOp.quo 3 (Operand.tmp 19) (Operand.const (Value.int IntKind.i64 4)) 3), none, ann0⟩,
  ⟨(some 21), (Op.binOp BinOp.mul 3 (Operand.tmp 20) (Operand.const (Value.int IntKind.i64 1)) 3), none, ann0⟩,
  ⟨(some 22), (Op.binOp BinOp.add 3 (Operand.tmp 18) (Operand.tmp 21) 3), none, ann0⟩,
  ⟨(some 12), (Op.assign (Operand.tmp 22)), none, ann0⟩] none) (.tidy [0, 1, 3, 10, 11, 12] z (z + 1)))
 (.seq (.reg [⟨(some 23), (Op.move (Operand.tmp 1)), none, ann0⟩,
  ⟨(some 24), (Op.move (Operand.tmp 10)), none, ann0⟩,
  ⟨(some 25), (Op.binOp BinOp.quo 3 (Operand.tmp 24) (Operand.const (Value.int IntKind.i64 4)) 3), none, ann0⟩,
  ⟨(some 26), (Op.binOp BinOp.mul 3 (Operand.tmp 25) (Operand.const (Value.int IntKind.i64 2)) 3), none, ann0⟩,
  ⟨(some 27), (Op.binOp BinOp.add 3 (Operand.tmp 23) (Operand.tmp 26) 3), none, ann0⟩,
  ⟨(some 13), (Op.assign (Operand.tmp 27)), none, ann0⟩] none)
 (.seq (.post (.reg [⟨(some 28), (Op.move (Operand.tmp 1)), none, ann0⟩,
  ⟨(some 29), (Op.move (Operand.tmp 10)), none, ann0⟩,
  ⟨(some 30), (Op.binOp BinOp.quo 3 (Operand.tmp 29) (Operand.const (Value.int IntKind.i64 4)) 3), none, ann0⟩,
  ⟨(some 31), (Op.binOp BinOp.mul 3 (Operand.tmp 30) (Operand.const (Value.int IntKind.i64 3)) 3), none, ann0⟩,
  ⟨(some 32), (Op.binOp BinOp.add 3 (Operand.tmp 28) (Operand.tmp 31) 3), none, ann0⟩,
  ⟨(some 14), (Op.assign (Operand.tmp 32)), none, ann0⟩] none) (.tidy [0, 3, 10, 11, 12, 13, 14] z (z + 1)))
 (.seq (.post (.seq (.reg [⟨(some 33), (Op.move (Operand.tmp 10)), none, ann0⟩,
  ⟨(some 34), (Op.binOp BinOp.geq 3 (Operand.tmp 33) (Operand.const (Value.int IntKind.i64 8)) 3), none, ann0⟩] none)
 (.cond (Operand.tmp 34) (.seq (.post (.seq (.reg [⟨(some 35), (Op.move (Operand.tmp 10)), none, ann0⟩,
  ⟨(some 36), (Op.binOp BinOp.geq 3 (Operand.tmp 35) (Operand.const (Value.int IntKind.i64 50)) 3), none, ann0⟩] none)
 (.cond (Operand.tmp 36) (.seq (.post (.reg [⟨(some 37), (Op.move (Operand.tmp 0)), none, ann0⟩,
  ⟨(some 38), (Op.move (Operand.tmp 12)), none, ann0⟩,
  ⟨(some 39), (Op.move (Operand.tmp 3)), none, ann0⟩,
  ⟨(some 40), (Op.call { callee := (Callee.value (Operand.func 80)), args := #[(Operand.tmp 37), (Operand.tmp 38), (Operand.tmp 11), (Operand.tmp 39)], argTypes := #[74, 3, 108, 76] }), none, ann0⟩,
  ⟨(some 12), (Op.assign (Operand.tmp 40)), none, ann0⟩] none) (.tidy [0, 3, 11, 12, 13, 14] z (z + 1)))
 (.seq (.reg [⟨(some 41), (Op.move (Operand.tmp 0)), none, ann0⟩,
  ⟨(some 42), (Op.move (Operand.tmp 13)), none, ann0⟩,
  ⟨(some 43), (Op.move (Operand.tmp 3)), none, ann0⟩,
  ⟨(some 44), (Op.call { callee := (Callee.value (Operand.func 80)), args := #[(Operand.tmp 41), (Operand.tmp 42), (Operand.tmp 11), (Operand.tmp 43)], argTypes := #[74, 3, 108, 76] }), none, ann0⟩,
  ⟨(some 13), (Op.assign (Operand.tmp 44)), none, ann0⟩] none)
 (.reg [⟨(some 45), (Op.move (Operand.tmp 0)), none, ann0⟩,
  ⟨(some 46), (Op.move (Operand.tmp 14)), none, ann0⟩,
  ⟨(some 47), (Op.move (Operand.tmp 3)), none, ann0⟩,
  ⟨(some 48), (Op.call { callee := (Callee.value (Operand.func 80)), args := #[(Operand.tmp 45), (Operand.tmp 46), (Operand.tmp 11), (Operand.tmp 47)], argTypes := #[74, 3, 108, 76] }), none, ann0⟩,
  ⟨(some 14), (Op.assign (Operand.tmp 48)), none, ann0⟩] none)))
 .skip)) (.tidy [0, 3, 11, 12, 13, 14] z (z + 1)))
 (.reg [⟨(some 49), (Op.move (Operand.tmp 0)), none, ann0⟩,
  ⟨(some 50), (Op.move (Operand.tmp 12)), none, ann0⟩,
  ⟨(some 51), (Op.move (Operand.tmp 13)), none, ann0⟩,
  ⟨(some 52), (Op.move (Operand.tmp 14)), none, ann0⟩,
  ⟨(some 53), (Op.move (Operand.tmp 3)), none, ann0⟩,
  ⟨(some 54), (Op.call { callee := (Callee.value (Operand.func 81)), args := #[(Operand.tmp 49), (Operand.tmp 50), (Operand.tmp 51), (Operand.tmp 52), (Operand.tmp 11), (Operand.tmp 53)], argTypes := #[74, 3, 3, 3, 108, 76] }), none, ann0⟩,
  ⟨(some 13), (Op.assign (Operand.tmp 54)), none, ann0⟩] none))
 .skip)) (.tidy [11, 13] z (z + 1)))
 (.seq (.reg [⟨(some 55), (Op.load 3 (Operand.tmp 11)), none, ann0⟩] none)
 (.block 0 (.seq (.reg [⟨(some 58), (Op.binOp BinOp.eql 3 (Operand.tmp 55) (Operand.const (Value.int IntKind.i64 0)) 3), none, ann0⟩,
  ⟨(some 57), (Op.assign (Operand.tmp 58)), none, ann0⟩] none)
 (.cond (Operand.tmp 57) (.seq (.reg [⟨(some 59), (Op.move (Operand.tmp 13)), none, ann0⟩,
  ⟨(some 8), (Op.assign (Operand.tmp 59)), none, ann0⟩,
  ⟨(some 9), (Op.assign (Operand.const (Value.int IntKind.i64 1))), none, ann0⟩] none)
 .ret)
 (.seq (.reg [⟨(some 61), (Op.binOp BinOp.eql 3 (Operand.tmp 55) (Operand.const (Value.int IntKind.i64 12)) 3), none, ann0⟩,
  ⟨(some 60), (Op.assign (Operand.tmp 61)), none, ann0⟩] none)
 (.cond (Operand.tmp 60) (.seq (.reg [⟨(some 62), (Op.move (Operand.tmp 13)), none, ann0⟩,
  ⟨(some 8), (Op.assign (Operand.tmp 62)), none, ann0⟩,
  ⟨(some 9), (Op.assign (Operand.const (Value.int IntKind.i64 2))), none, ann0⟩] none)
 .ret)
 (.seq (.reg [⟨(some 56), (Op.move (Operand.tmp 13)), none, ann0⟩,
  ⟨(some 8), (Op.assign (Operand.tmp 56)), none, ann0⟩,
  ⟨(some 9), (Op.assign (Operand.const (Value.int IntKind.i64 0))), none, ann0⟩] none)
 .ret))))))))))))))⟩
theorem F62 (z : Nat) : FOk Try.prog 62 (s62 z) := by unfold FOk; kernel_rfl
def c63_1 (z : Nat) : SC := .post (.seq (.post (.seq (.reg [⟨(some 13), (Op.move (Operand.tmp 8)), none, ann0⟩,
  ⟨(some 14), (Op.move (Operand.tmp 9)), none, ann0⟩,
  ⟨(some 15), (Op.binOp BinOp.lss 3 (Operand.tmp 13) (Operand.tmp 14) 3), none, ann0⟩] none)
 (.cond (Operand.tmp 15) .skip
 (.exit 0))) (.tidy [0, 8, 9] z (z + 0)))
 (.block 1 (.seq (.post (.reg [⟨(some 16), (Op.move (Operand.tmp 0)), none, ann0⟩,
  ⟨(some 17), (Op.move (Operand.tmp 8)), none, ann0⟩,
  ⟨(some 18), (Op.move (Operand.tmp 0)), none, ann0⟩,
  ⟨(some 19), (Op.move (Operand.tmp 9)), none, ann0⟩,
  ⟨(some 20), (Op.move (Operand.tmp 0)), none, ann0⟩,
  ⟨(some 21), (Op.move (Operand.tmp 9)), none, ann0⟩,
  ⟨(some 22), (Op.indexAddr 74 (Operand.tmp 20) (Operand.tmp 21)), none, ann0⟩,
  ⟨(some 23), (Op.load 3 (Operand.tmp 22)), none, ann0⟩,
  ⟨(some 24), (Op.move (Operand.tmp 0)), none, ann0⟩,
  ⟨(some 25), (Op.move (Operand.tmp 8)), none, ann0⟩,
  ⟨(some 26), (Op.indexAddr 74 (Operand.tmp 24) (Operand.tmp 25)), none, ann0⟩,
  ⟨(some 27), (Op.load 3 (Operand.tmp 26)), none, ann0⟩,
  ⟨(some 28), (Op.indexAddr 74 (Operand.tmp 16) (Operand.tmp 17)), none, ann0⟩,
  ⟨none, (Op.store 3 (Operand.tmp 28) (Operand.tmp 23)), none, ann0⟩,
  ⟨(some 29), (Op.indexAddr 74 (Operand.tmp 18) (Operand.tmp 19)), none, ann0⟩,
  ⟨none, (Op.store 3 (Operand.tmp 29) (Operand.tmp 27)), none, ann0⟩] (some [0, 0, 0, 0, 0, 0, 48, 112, 0, 0, 768, 1792, 4083, 8179, 16383, 32767])) (.tidy [0, 8, 9] z (z + 0)))
 (.seq (.reg [⟨(some 30), (Op.move (Operand.tmp 8)), none, ann0⟩,
  ⟨(some 31), (Op.binOp BinOp.add 3 (Operand.tmp 30) (Operand.const (Value.int IntKind.i64 1)) 3), none, ann0⟩,
  ⟨(some 8), (Op.assign (Operand.tmp 31)), none, ann0⟩] none)
 (.reg [⟨(some 32), (Op.move (Operand.tmp 9)), none, ann0⟩,
  ⟨(some 33), (Op.binOp BinOp.sub 3 (Operand.tmp 32) (Operand.const (Value.int IntKind.i64 1)) 3), none, ann0⟩,
  ⟨(some 9), (Op.assign (Operand.tmp 33)), none, ann0⟩] none))))) (.tidy [0, 8, 9] z (z + 0))
def s63_1 (z : Nat) : SC := c63_1 z
theorem e63_1 {C : Pg} {z : Nat} {st : St} {ks : List Fr} {K : Ex → St → Prop} : wpk C (s63_1 z) st ks K ↔ wpk C (c63_1 z) st ks K := Iff.rfl
def s63 (z : Nat) : SFn := ⟨4, 34, [],
 (.seq (.reg [⟨(some 10), (Op.move (Operand.tmp 1)), none, ann0⟩,
  ⟨(some 8), (Op.assign (Operand.tmp 10)), none, ann0⟩] none)
 (.seq (.reg [⟨(some 11), (Op.move (Operand.tmp 2)), none, ann0⟩,
  ⟨(some 12), (Op.binOp BinOp.sub 3 (Operand.tmp 11) (Operand.const (Value.int IntKind.i64 1)) 3), none, ann0⟩,
  ⟨(some 9), (Op.assign (Operand.tmp 12)), none, ann0⟩] none)
 (.post (.block 0 (.pre (.tidy [0, 8, 9] z (z + 0)) (.loop (s63_1 z)))) (.tidy [] z (z + 0)))))⟩
theorem F63 (z : Nat) : FOk Try.prog 63 (s63 z) := by unfold FOk; kernel_rfl
def c64_2 (z : Nat) : SC := .post (.seq (.post (.seq (.post (.reg [⟨(some 19), (Op.move (Operand.tmp 9)), none, ann0⟩,
  ⟨(some 20), (Op.move (Operand.tmp 2)), none, ann0⟩,
  ⟨(some 21), (Op.binOp BinOp.lss 3 (Operand.tmp 19) (Operand.tmp 20) 3), none, ann0⟩,
  ⟨(some 22), (Op.move (Operand.tmp 21)), none, ann0⟩,
  ⟨(some 23), (Op.move (Operand.tmp 3)), (some (22, true)), ann0⟩,
  ⟨(some 24), (Op.move (Operand.tmp 0)), (some (22, true)), ann0⟩,
  ⟨(some 25), (Op.move (Operand.tmp 9)), (some (22, true)), ann0⟩,
  ⟨(some 26), (Op.indexAddr 74 (Operand.tmp 24) (Operand.tmp 25)), (some (22, true)), ann0⟩,
  ⟨(some 27), (Op.load 3 (Operand.tmp 26)), (some (22, true)), ann0⟩,
  ⟨(some 28), (Op.move (Operand.tmp 0)), (some (22, true)), ann0⟩,
  ⟨(some 29), (Op.move (Operand.tmp 9)), (some (22, true)), ann0⟩,
  ⟨(some 30), (Op.binOp BinOp.sub 3 (Operand.tmp 29) (Operand.const (Value.int IntKind.i64 1)) 3), (some (22, true)), ann0⟩,
  ⟨(some 31), (Op.indexAddr 74 (Operand.tmp 28) (Operand.tmp 30)), (some (22, true)), ann0⟩,
  ⟨(some 32), (Op.load 3 (Operand.tmp 31)), (some (22, true)), ann0⟩,
  ⟨(some 33), (Op.call { callee := (Callee.value (Operand.tmp 23)), args := #[(Operand.tmp 27), (Operand.tmp 32)], argTypes := #[3, 3] }), (some (22, true)), ann0⟩,
  ⟨(some 34), (Op.binOp BinOp.lss 3 (Operand.tmp 33) (Operand.const (Value.int IntKind.i64 0)) 3), (some (22, true)), ann0⟩,
  ⟨(some 35), (Op.unOp UnOp.not 4 (Operand.tmp 34)), (some (22, true)), ann0⟩,
  ⟨(some 36), (Op.pick (Operand.tmp 22) (Operand.tmp 35) (Operand.const (Value.bool false))), none, ann0⟩] (some [0, 0, 3, 7, 15, 15, 15, 111, 239, 15, 15, 1039, 3599, 7695, 16383, 32767, 65535, 131071])) (.tidy [0, 1, 2, 3, 9, 10, 36] z (z + 0)))
 (.cond (Operand.tmp 36) .skip
 (.exit 2))) (.tidy [0, 1, 2, 3, 9, 10] z (z + 0)))
 (.block 3 (.reg [⟨(some 37), (Op.move (Operand.tmp 9)), none, ann0⟩,
  ⟨(some 38), (Op.binOp BinOp.add 3 (Operand.tmp 37) (Operand.const (Value.int IntKind.i64 1)) 3), none, ann0⟩,
  ⟨(some 9), (Op.assign (Operand.tmp 38)), none, ann0⟩] none))) (.tidy [0, 1, 2, 3, 9, 10] z (z + 0))
def s64_2 (z : Nat) : SC := c64_2 z
theorem e64_2 {C : Pg} {z : Nat} {st : St} {ks : List Fr} {K : Ex → St → Prop} : wpk C (s64_2 z) st ks K ↔ wpk C (c64_2 z) st ks K := Iff.rfl
def c64_3 (z : Nat) : SC := .post (.seq (.seq (.post (.reg [⟨(some 68), (Op.move (Operand.tmp 11)), none, ann0⟩,
  ⟨(some 69), (Op.binOp BinOp.geq 3 (Operand.tmp 68) (Operand.const (Value.int IntKind.i64 1)) 3), none, ann0⟩] none) (.tidy [0, 1, 2, 3, 9, 10, 11, 69] z (z + 0)))
 (.cond (Operand.tmp 69) .skip
 (.exit 4)))
 (.seq (.post (.block 5 (.seq (.post (.seq (.post (.reg [⟨(some 72), (Op.move (Operand.tmp 3)), none, ann0⟩,
  ⟨(some 73), (Op.move (Operand.tmp 0)), none, ann0⟩,
  ⟨(some 74), (Op.move (Operand.tmp 11)), none, ann0⟩,
  ⟨(some 75), (Op.indexAddr 74 (Operand.tmp 73) (Operand.tmp 74)), none, ann0⟩,
  ⟨(some 76), (Op.load 3 (Operand.tmp 75)), none, ann0⟩,
  ⟨(some 77), (Op.move (Operand.tmp 0)), none, ann0⟩,
  ⟨(some 78), (Op.move (Operand.tmp 11)), none, ann0⟩,
  ⟨(some 79), (Op.binOp BinOp.sub 3 (Operand.tmp 78) (Operand.const (Value.int IntKind.i64 1)) 3), none, ann0⟩,
  ⟨(some 80), (Op.indexAddr 74 (Operand.tmp 77) (Operand.tmp 79)), none, ann0⟩,
  ⟨(some 81), (Op.load 3 (Operand.tmp 80)), none, ann0⟩,
  ⟨(some 82), (Op.call { callee := (Callee.value (Operand.tmp 72)), args := #[(Operand.tmp 76), (Operand.tmp 81)], argTypes := #[3, 3] }), none, ann0⟩,
  ⟨(some 83), (Op.binOp BinOp.lss 3 (Operand.tmp 82) (Operand.const (Value.int IntKind.i64 0)) 3), none, ann0⟩,
  ⟨(some 84), (Op.unOp UnOp.not 4 (Operand.tmp 83)), none, ann0⟩] (some [0, 0, 0, 6, 14, 0, 0, 64, 224, 480, 1023, 2047, 4095])) (.tidy [0, 1, 2, 3, 9, 10, 11, 84] z (z + 0)))
 (.cond (Operand.tmp 84) (.exit 4)
 .skip)) (.tidy [0, 1, 2, 3, 9, 10, 11] z (z + 0)))
 (.reg [⟨(some 85), (Op.move (Operand.tmp 0)), none, ann0⟩,
  ⟨(some 86), (Op.move (Operand.tmp 11)), none, ann0⟩,
  ⟨(some 87), (Op.move (Operand.tmp 0)), none, ann0⟩,
  ⟨(some 88), (Op.move (Operand.tmp 11)), none, ann0⟩,
  ⟨(some 89), (Op.binOp BinOp.sub 3 (Operand.tmp 88) (Operand.const (Value.int IntKind.i64 1)) 3), none, ann0⟩,
  ⟨(some 90), (Op.move (Operand.tmp 0)), none, ann0⟩,
  ⟨(some 91), (Op.move (Operand.tmp 11)), none, ann0⟩,
  ⟨(some 92), (Op.binOp BinOp.sub 3 (Operand.tmp 91) (Operand.const (Value.int IntKind.i64 1)) 3), none, ann0⟩,
  ⟨(some 93), (Op.indexAddr 74 (Operand.tmp 90) (Operand.tmp 92)), none, ann0⟩,
  ⟨(some 94), (Op.load 3 (Operand.tmp 93)), none, ann0⟩,
  ⟨(some 95), (Op.move (Operand.tmp 0)), none, ann0⟩,
  ⟨(some 96), (Op.move (Operand.tmp 11)), none, ann0⟩,
  ⟨(some 97), (Op.indexAddr 74 (Operand.tmp 95) (Operand.tmp 96)), none, ann0⟩,
  ⟨(some 98), (Op.load 3 (Operand.tmp 97)), none, ann0⟩,
  ⟨(some 99), (Op.indexAddr 74 (Operand.tmp 85) (Operand.tmp 86)), none, ann0⟩,
  ⟨none, (Op.store 3 (Operand.tmp 99) (Operand.tmp 94)), none, ann0⟩,
  ⟨(some 100), (Op.indexAddr 74 (Operand.tmp 87) (Operand.tmp 89)), none, ann0⟩,
  ⟨none, (Op.store 3 (Operand.tmp 100) (Operand.tmp 98)), none, ann0⟩] (some [0, 0, 0, 0, 8, 0, 0, 64, 224, 480, 0, 0, 3072, 7168, 16355, 32739, 65535, 131071])))) (.tidy [0, 1, 2, 3, 9, 10, 11] z (z + 0)))
 (.reg [⟨(some 70), (Op.move (Operand.tmp 11)), none, ann0⟩,
  ⟨(some 71), (Op.binOp BinOp.sub 3 (Operand.tmp 70) (Operand.const (Value.int IntKind.i64 1)) 3), none, ann0⟩,
  ⟨(some 11), (Op.assign (Operand.tmp 71)), none, ann0⟩] none))) (.tidy [0, 1, 2, 3, 9, 10, 11] z (z + 0))
def s64_3 (z : Nat) : SC := c64_3 z
theorem e64_3 {C : Pg} {z : Nat} {st : St} {ks : List Fr} {K : Ex → St → Prop} : wpk C (s64_3 z) st ks K ↔ wpk C (c64_3 z) st ks K := Iff.rfl
def c64_4 (z : Nat) : SC := .post (.seq (.seq (.post (.reg [⟨(some 107), (Op.move (Operand.tmp 12)), none, ann0⟩,
  ⟨(some 108), (Op.move (Operand.tmp 2)), none, ann0⟩,
  ⟨(some 109), (Op.binOp BinOp.lss 3 (Operand.tmp 107) (Operand.tmp 108) 3), none, ann0⟩] none) (.tidy [0, 1, 2, 3, 9, 10, 12, 109] z (z + 0)))
 (.cond (Operand.tmp 109) .skip
 (.exit 6)))
 (.seq (.post (.block 7 (.seq (.post (.seq (.post (.reg [⟨(some 112), (Op.move (Operand.tmp 3)), none, ann0⟩,
  ⟨(some 113), (Op.move (Operand.tmp 0)), none, ann0⟩,
  ⟨(some 114), (Op.move (Operand.tmp 12)), none, ann0⟩,
  ⟨(some 115), (Op.indexAddr 74 (Operand.tmp 113) (Operand.tmp 114)), none, ann0⟩,
  ⟨(some 116), (Op.load 3 (Operand.tmp 115)), none, ann0⟩,
  ⟨(some 117), (Op.move (Operand.tmp 0)), none, ann0⟩,
  ⟨(some 118), (Op.move (Operand.tmp 12)), none, ann0⟩,
  ⟨(some 119), (Op.binOp BinOp.sub 3 (Operand.tmp 118) (Operand.const (Value.int IntKind.i64 1)) 3), none, ann0⟩,
  ⟨(some 120), (Op.indexAddr 74 (Operand.tmp 117) (Operand.tmp 119)), none, ann0⟩,
  ⟨(some 121), (Op.load 3 (Operand.tmp 120)), none, ann0⟩,
  ⟨(some 122), (Op.call { callee := (Callee.value (Operand.tmp 112)), args := #[(Operand.tmp 116), (Operand.tmp 121)], argTypes := #[3, 3] }), none, ann0⟩,
  ⟨(some 123), (Op.binOp BinOp.lss 3 (Operand.tmp 122) (Operand.const (Value.int IntKind.i64 0)) 3), none, ann0⟩,
  ⟨(some 124), (Op.unOp UnOp.not 4 (Operand.tmp 123)), none, ann0⟩] (some [0, 0, 0, 6, 14, 0, 0, 64, 224, 480, 1023, 2047, 4095])) (.tidy [0, 1, 2, 3, 9, 10, 12, 124] z (z + 0)))
 (.cond (Operand.tmp 124) (.exit 6)
 .skip)) (.tidy [0, 1, 2, 3, 9, 10, 12] z (z + 0)))
 (.reg [⟨(some 125), (Op.move (Operand.tmp 0)), none, ann0⟩,
  ⟨(some 126), (Op.move (Operand.tmp 12)), none, ann0⟩,
  ⟨(some 127), (Op.move (Operand.tmp 0)), none, ann0⟩,
  ⟨(some 128), (Op.move (Operand.tmp 12)), none, ann0⟩,
  ⟨(some 129), (Op.binOp BinOp.sub 3 (Operand.tmp 128) (Operand.const (Value.int IntKind.i64 1)) 3), none, ann0⟩,
  ⟨(some 130), (Op.move (Operand.tmp 0)), none, ann0⟩,
  ⟨(some 131), (Op.move (Operand.tmp 12)), none, ann0⟩,
  ⟨(some 132), (Op.binOp BinOp.sub 3 (Operand.tmp 131) (Operand.const (Value.int IntKind.i64 1)) 3), none, ann0⟩,
  ⟨(some 133), (Op.indexAddr 74 (Operand.tmp 130) (Operand.tmp 132)), none, ann0⟩,
  ⟨(some 134), (Op.load 3 (Operand.tmp 133)), none, ann0⟩,
  ⟨(some 135), (Op.move (Operand.tmp 0)), none, ann0⟩,
  ⟨(some 136), (Op.move (Operand.tmp 12)), none, ann0⟩,
  ⟨(some 137), (Op.indexAddr 74 (Operand.tmp 135) (Operand.tmp 136)), none, ann0⟩,
  ⟨(some 138), (Op.load 3 (Operand.tmp 137)), none, ann0⟩,
  ⟨(some 139), (Op.indexAddr 74 (Operand.tmp 125) (Operand.tmp 126)), none, ann0⟩,
  ⟨none, (Op.store 3 (Operand.tmp 139) (Operand.tmp 134)), none, ann0⟩,
  ⟨(some 140), (Op.indexAddr 74 (Operand.tmp 127) (Operand.tmp 129)), none, ann0⟩,
  ⟨none, (Op.store 3 (Operand.tmp 140) (Operand.tmp 138)), none, ann0⟩] (some [0, 0, 0, 0, 8, 0, 0, 64, 224, 480, 0, 0, 3072, 7168, 16355, 32739, 65535, 131071])))) (.tidy [0, 1, 2, 3, 9, 10, 12] z (z + 0)))
 (.reg [⟨(some 110), (Op.move (Operand.tmp 12)), none, ann0⟩,
  ⟨(some 111), (Op.binOp BinOp.add 3 (Operand.tmp 110) (Operand.const (Value.int IntKind.i64 1)) 3), none, ann0⟩,
  ⟨(some 12), (Op.assign (Operand.tmp 111)), none, ann0⟩] none))) (.tidy [0, 1, 2, 3, 9, 10, 12] z (z + 0))
def s64_4 (z : Nat) : SC := c64_4 z
theorem e64_4 {C : Pg} {z : Nat} {st : St} {ks : List Fr} {K : Ex → St → Prop} : wpk C (s64_4 z) st ks K ↔ wpk C (c64_4 z) st ks K := Iff.rfl
def c64_1 (z : Nat) : SC := .post (.seq (.post (.seq (.reg [⟨(some 15), (Op.move (Operand.tmp 10)), none, ann0⟩,
  ⟨(some 16), (Op.binOp BinOp.lss 3 (Operand.tmp 15) (Operand.const (Value.int IntKind.i64 5)) 3), none, ann0⟩] none)
 (.cond (Operand.tmp 16) .skip
 (.exit 0))) (.tidy [0, 1, 2, 3, 9, 10] z (z + 0)))
 (.seq (.post (.block 1 (.seq (.post (.block 2 (.pre (.tidy [0, 1, 2, 3, 9, 10] z (z + 0)) (.loop (s64_2 z)))) (.tidy [0, 1, 2, 3, 9, 10] z (z + 0)))
 (.seq (.seq (.post (.reg [⟨(some 39), (Op.move (Operand.tmp 9)), none, ann0⟩,
  ⟨(some 40), (Op.move (Operand.tmp 2)), none, ann0⟩,
  ⟨(some 41), (Op.binOp BinOp.eql 3 (Operand.tmp 39) (Operand.tmp 40) 3), none, ann0⟩] none) (.tidy [0, 1, 2, 3, 9, 10, 41] z (z + 0)))
 (.cond (Operand.tmp 41) (.seq (.reg [⟨(some 8), (Op.assign (Operand.const (Value.bool true))), none, ann0⟩] none)
 .ret)
 .skip))
 (.seq (.seq (.post (.reg [⟨(some 42), (Op.move (Operand.tmp 2)), none, ann0⟩,
  ⟨(some 43), (Op.move (Operand.tmp 1)), none, ann0⟩,
  ⟨(some 44), (Op.binOp BinOp.sub 3 (Operand.tmp 42) (Operand.tmp 43) 3), none, ann0⟩,
  ⟨(some 45), (Op.binOp BinOp.lss 3 (Operand.tmp 44) (Operand.const (Value.int IntKind.i64 50)) 3), none, ann0⟩] none) (.tidy [0, 1, 2, 3, 9, 10, 45] z (z + 0)))
 (.cond (Operand.tmp 45) (.seq (.reg [⟨(some 8), (Op.assign (Operand.const (Value.bool false))), none, ann0⟩] none)
 .ret)
 .skip))
 (.seq (.post (.reg [⟨(some 46), (Op.move (Operand.tmp 0)), none, ann0⟩,
  ⟨(some 47), (Op.move (Operand.tmp 9)), none, ann0⟩,
  ⟨(some 48), (Op.move (Operand.tmp 0)), none, ann0⟩,
  ⟨(some 49), (Op.move (Operand.tmp 9)), none, ann0⟩,
  ⟨(some 50), (Op.binOp BinOp.sub 3 (Operand.tmp 49) (Operand.const (Value.int IntKind.i64 1)) 3), none, ann0⟩,
  ⟨(some 51), (Op.move (Operand.tmp 0)), none, ann0⟩,
  ⟨(some 52), (Op.move (Operand.tmp 9)), none, ann0⟩,
  ⟨(some 53), (Op.binOp BinOp.sub 3 (Operand.tmp 52) (Operand.const (Value.int IntKind.i64 1)) 3), none, ann0⟩,
  ⟨(some 54), (Op.indexAddr 74 (Operand.tmp 51) (Operand.tmp 53)), none, ann0⟩,
  ⟨(some 55), (Op.load 3 (Operand.tmp 54)), none, ann0⟩,
  ⟨(some 56), (Op.move (Operand.tmp 0)), none, ann0⟩,
  ⟨(some 57), (Op.move (Operand.tmp 9)), none, ann0⟩,
  ⟨(some 58), (Op.indexAddr 74 (Operand.tmp 56) (Operand.tmp 57)), none, ann0⟩,
  ⟨(some 59), (Op.load 3 (Operand.tmp 58)), none, ann0⟩,
  ⟨(some 60), (Op.indexAddr 74 (Operand.tmp 46) (Operand.tmp 47)), none, ann0⟩,
  ⟨none, (Op.store 3 (Operand.tmp 60) (Operand.tmp 55)), none, ann0⟩,
  ⟨(some 61), (Op.indexAddr 74 (Operand.tmp 48) (Operand.tmp 50)), none, ann0⟩,
  ⟨none, (Op.store 3 (Operand.tmp 61) (Operand.tmp 59)), none, ann0⟩] (some [0, 0, 0, 0, 8, 0, 0, 64, 224, 480, 0, 0, 3072, 7168, 16355, 32739, 65535, 131071])) (.tidy [0, 1, 2, 3, 9, 10] z (z + 0)))
 (.seq (.post (.seq (.reg [⟨(some 62), (Op.move (Operand.tmp 9)), none, ann0⟩,
  ⟨(some 63), (Op.move (Operand.tmp 1)), none, ann0⟩,
  ⟨(some 64), (Op.binOp BinOp.sub 3 (Operand.tmp 62) (Operand.tmp 63) 3), none, ann0⟩,
  ⟨(some 65), (Op.binOp BinOp.geq 3 (Operand.tmp 64) (Operand.const (Value.int IntKind.i64 2)) 3), none, ann0⟩] none)
 (.cond (Operand.tmp 65) (.seq (.reg [⟨(some 66), (Op.move (Operand.tmp 9)), none, ann0⟩,
  ⟨(some 67), (Op.binOp BinOp.sub 3 (Operand.tmp 66) (Operand.const (Value.int IntKind.i64 1)) 3), none, ann0⟩,
  ⟨(some 11), (Op.assign (Operand.tmp 67)), none, ann0⟩] none)
 (.post (.block 4 (.pre (.tidy [0, 1, 2, 3, 9, 10, 11] z (z + 0)) (.loop (s64_3 z)))) (.tidy [0, 1, 2, 3, 9, 10] z (z + 0))))
 .skip)) (.tidy [0, 1, 2, 3, 9, 10] z (z + 0)))
 (.seq (.reg [⟨(some 101), (Op.move (Operand.tmp 2)), none, ann0⟩,
  ⟨(some 102), (Op.move (Operand.tmp 9)), none, ann0⟩,
  ⟨(some 103), (Op.binOp BinOp.sub 3 (Operand.tmp 101) (Operand.tmp 102) 3), none, ann0⟩,
  ⟨(some 104), (Op.binOp BinOp.geq 3 (Operand.tmp 103) (Operand.const (Value.int IntKind.i64 2)) 3), none, ann0⟩] none)
 (.cond (Operand.tmp 104) (.seq (.reg [⟨(some 105), (Op.move (Operand.tmp 9)), none, ann0⟩,
  ⟨(some 106), (Op.binOp BinOp.add 3 (Operand.tmp 105) (Operand.const (Value.int IntKind.i64 1)) 3), none, ann0⟩,
  ⟨(some 12), (Op.assign (Operand.tmp 106)), none, ann0⟩] none)
 (.post (.block 6 (.pre (.tidy [0, 1, 2, 3, 9, 10, 12] z (z + 0)) (.loop (s64_4 z)))) (.tidy [0, 1, 2, 3, 9, 10] z (z + 0))))
 .skip)))))))) (.tidy [0, 1, 2, 3, 9, 10] z (z + 0)))
 (.reg [⟨(some 17), (Op.move (Operand.tmp 10)), none, ann0⟩,
  ⟨(some 18), (Op.binOp BinOp.add 3 (Operand.tmp 17) (Operand.const (Value.int IntKind.i64 1)) 3), none, ann0⟩,
  ⟨(some 10), (Op.assign (Operand.tmp 18)), none, ann0⟩] none))) (.tidy [0, 1, 2, 3, 9, 10] z (z + 0))
def s64_1 (z : Nat) : SC := c64_1 z
theorem e64_1 {C : Pg} {z : Nat} {st : St} {ks : List Fr} {K : Ex → St → Prop} : wpk C (s64_1 z) st ks K ↔ wpk C (c64_1 z) st ks K := Iff.rfl
def s64 (z : Nat) : SFn := ⟨4, 141, [(ResultVar.tmp 8)],
 (.seq (.reg [⟨(some 8), (Op.assign (Operand.const (Value.bool false))), none, ann0⟩] none)
 (.seq (.reg [⟨(some 13), (Op.move (Operand.tmp 1)), none, ann0⟩,
  ⟨(some 14), (Op.binOp BinOp.add 3 (Operand.tmp 13) (Operand.const (Value.int IntKind.i64 1)) 3), none, ann0⟩,
  ⟨(some 9), (Op.assign (Operand.tmp 14)), none, ann0⟩] none)
 (.seq (.post (.seq (.reg [⟨(some 10), (Op.assign (Operand.const (Value.int IntKind.i64 0))), none, ann0⟩] none)
 (.post (.block 0 (.pre (.tidy [0, 1, 2, 3, 9, 10] z (z + 0)) (.loop (s64_1 z)))) (.tidy [] z (z + 0)))) (.tidy [] z (z + 0)))
 (.seq (.reg [⟨(some 8), (Op.assign (Operand.const (Value.bool false))), none, ann0⟩] none)
 .ret))))⟩
theorem F64 (z : Nat) : FOk Try.prog 64 (s64 z) := by unfold FOk; kernel_rfl
def c65_2 (z : Nat) : SC := .post (.seq (.post (.seq (.post (.reg [⟨(some 31), (Op.move (Operand.tmp 11)), none, ann0⟩,
  ⟨(some 32), (Op.move (Operand.tmp 12)), none, ann0⟩,
  ⟨(some 33), (Op.binOp BinOp.leq 3 (Operand.tmp 31) (Operand.tmp 32) 3), none, ann0⟩,
  ⟨(some 34), (Op.move (Operand.tmp 33)), none, ann0⟩,
  ⟨(some 35), (Op.move (Operand.tmp 4)), (some (34, true)), ann0⟩,
  ⟨(some 36), (Op.move (Operand.tmp 0)), (some (34, true)), ann0⟩,
  ⟨(some 37), (Op.move (Operand.tmp 1)), (some (34, true)), ann0⟩,
  ⟨(some 38), (Op.indexAddr 74 (Operand.tmp 36) (Operand.tmp 37)), (some (34, true)), ann0⟩,
  ⟨(some 39), (Op.load 3 (Operand.tmp 38)), (some (34, true)), ann0⟩,
  ⟨(some 40), (Op.move (Operand.tmp 0)), (some (34, true)), ann0⟩,
  ⟨(some 41), (Op.move (Operand.tmp 11)), (some (34, true)), ann0⟩,
  ⟨(some 42), (Op.indexAddr 74 (Operand.tmp 40) (Operand.tmp 41)), (some (34, true)), ann0⟩,
  ⟨(some 43), (Op.load 3 (Operand.tmp 42)), (some (34, true)), ann0⟩,
  ⟨(some 44), (Op.call { callee := (Callee.value (Operand.tmp 35)), args := #[(Operand.tmp 39), (Operand.tmp 43)], argTypes := #[3, 3] }), (some (34, true)), ann0⟩,
  ⟨(some 45), (Op.binOp BinOp.lss 3 (Operand.tmp 44) (Operand.const (Value.int IntKind.i64 0)) 3), (some (34, true)), ann0⟩,
  ⟨(some 46), (Op.unOp UnOp.not 4 (Operand.tmp 45)), (some (34, true)), ann0⟩,
  ⟨(some 47), (Op.pick (Operand.tmp 34) (Operand.tmp 46) (Operand.const (Value.bool false))), none, ann0⟩] (some [0, 0, 3, 7, 15, 15, 15, 111, 239, 15, 15, 1551, 3599, 8191, 16383, 32767, 65535])) (.tidy [0, 1, 4, 11, 12, 47] z (z + 0)))
 (.cond (Operand.tmp 47) .skip
 (.exit 2))) (.tidy [0, 1, 4, 11, 12] z (z + 0)))
 (.block 3 (.reg [⟨(some 48), (Op.move (Operand.tmp 11)), none, ann0⟩,
  ⟨(some 49), (Op.binOp BinOp.add 3 (Operand.tmp 48) (Operand.const (Value.int IntKind.i64 1)) 3), none, ann0⟩,
  ⟨(some 11), (Op.assign (Operand.tmp 49)), none, ann0⟩] none))) (.tidy [0, 1, 4, 11, 12] z (z + 0))
def s65_2 (z : Nat) : SC := c65_2 z
theorem e65_2 {C : Pg} {z : Nat} {st : St} {ks : List Fr} {K : Ex → St → Prop} : wpk C (s65_2 z) st ks K ↔ wpk C (c65_2 z) st ks K := Iff.rfl
def c65_3 (z : Nat) : SC := .post (.seq (.post (.seq (.post (.reg [⟨(some 50), (Op.move (Operand.tmp 11)), none, ann0⟩,
  ⟨(some 51), (Op.move (Operand.tmp 12)), none, ann0⟩,
  ⟨(some 52), (Op.binOp BinOp.leq 3 (Operand.tmp 50) (Operand.tmp 51) 3), none, ann0⟩,
  ⟨(some 53), (Op.move (Operand.tmp 52)), none, ann0⟩,
  ⟨(some 54), (Op.move (Operand.tmp 4)), (some (53, true)), ann0⟩,
  ⟨(some 55), (Op.move (Operand.tmp 0)), (some (53, true)), ann0⟩,
  ⟨(some 56), (Op.move (Operand.tmp 1)), (some (53, true)), ann0⟩,
  ⟨(some 57), (Op.indexAddr 74 (Operand.tmp 55) (Operand.tmp 56)), (some (53, true)), ann0⟩,
  ⟨(some 58), (Op.load 3 (Operand.tmp 57)), (some (53, true)), ann0⟩,
  ⟨(some 59), (Op.move (Operand.tmp 0)), (some (53, true)), ann0⟩,
  ⟨(some 60), (Op.move (Operand.tmp 12)), (some (53, true)), ann0⟩,
  ⟨(some 61), (Op.indexAddr 74 (Operand.tmp 59) (Operand.tmp 60)), (some (53, true)), ann0⟩,
  ⟨(some 62), (Op.load 3 (Operand.tmp 61)), (some (53, true)), ann0⟩,
  ⟨(some 63), (Op.call { callee := (Callee.value (Operand.tmp 54)), args := #[(Operand.tmp 58), (Operand.tmp 62)], argTypes := #[3, 3] }), (some (53, true)), ann0⟩,
  ⟨(some 64), (Op.binOp BinOp.lss 3 (Operand.tmp 63) (Operand.const (Value.int IntKind.i64 0)) 3), (some (53, true)), ann0⟩,
  ⟨(some 65), (Op.pick (Operand.tmp 53) (Operand.tmp 64) (Operand.const (Value.bool false))), none, ann0⟩] (some [0, 0, 3, 7, 15, 15, 15, 111, 239, 15, 15, 1551, 3599, 8191, 16383, 32767])) (.tidy [0, 1, 4, 11, 12, 65] z (z + 0)))
 (.cond (Operand.tmp 65) .skip
 (.exit 4))) (.tidy [0, 1, 4, 11, 12] z (z + 0)))
 (.block 5 (.reg [⟨(some 66), (Op.move (Operand.tmp 12)), none, ann0⟩,
  ⟨(some 67), (Op.binOp BinOp.sub 3 (Operand.tmp 66) (Operand.const (Value.int IntKind.i64 1)) 3), none, ann0⟩,
  ⟨(some 12), (Op.assign (Operand.tmp 67)), none, ann0⟩] none))) (.tidy [0, 1, 4, 11, 12] z (z + 0))
def s65_3 (z : Nat) : SC := c65_3 z
theorem e65_3 {C : Pg} {z : Nat} {st : St} {ks : List Fr} {K : Ex → St → Prop} : wpk C (s65_3 z) st ks K ↔ wpk C (c65_3 z) st ks K := Iff.rfl
def c65_1 (z : Nat) : SC := .post (.post (.block 1 (.seq (.post (.block 2 (.pre (.tidy [0, 1, 4, 11, 12] z (z + 0)) (.loop (s65_2 z)))) (.tidy [0, 1, 4, 11, 12] z (z + 0)))
 (.seq (.post (.block 4 (.pre (.tidy [0, 1, 4, 11, 12] z (z + 0)) (.loop (s65_3 z)))) (.tidy [0, 1, 4, 11, 12] z (z + 0)))
 (.seq (.seq (.post (.reg [⟨(some 68), (Op.move (Operand.tmp 11)), none, ann0⟩,
  ⟨(some 69), (Op.move (Operand.tmp 12)), none, ann0⟩,
  ⟨(some 70), (Op.binOp BinOp.gtr 3 (Operand.tmp 68) (Operand.tmp 69) 3), none, ann0⟩] none) (.tidy [0, 1, 4, 11, 12, 70] z (z + 0)))
 (.cond (Operand.tmp 70) (.exit 0)
 .skip))
 (.seq (.post (.reg [⟨(some 71), (Op.move (Operand.tmp 0)), none, ann0⟩,
  ⟨(some 72), (Op.move (Operand.tmp 11)), none, ann0⟩,
  ⟨(some 73), (Op.move (Operand.tmp 0)), none, ann0⟩,
  ⟨(some 74), (Op.move (Operand.tmp 12)), none, ann0⟩,
  ⟨(some 75), (Op.move (Operand.tmp 0)), none, ann0⟩,
  ⟨(some 76), (Op.move (Operand.tmp 12)), none, ann0⟩,
  ⟨(some 77), (Op.indexAddr 74 (Operand.tmp 75) (Operand.tmp 76)), none, ann0⟩,
  ⟨(some 78), (Op.load 3 (Operand.tmp 77)), none, ann0⟩,
  ⟨(some 79), (Op.move (Operand.tmp 0)), none, ann0⟩,
  ⟨(some 80), (Op.move (Operand.tmp 11)), none, ann0⟩,
  ⟨(some 81), (Op.indexAddr 74 (Operand.tmp 79) (Operand.tmp 80)), none, ann0⟩,
  ⟨(some 82), (Op.load 3 (Operand.tmp 81)), none, ann0⟩,
  ⟨(some 83), (Op.indexAddr 74 (Operand.tmp 71) (Operand.tmp 72)), none, ann0⟩,
  ⟨none, (Op.store 3 (Operand.tmp 83) (Operand.tmp 78)), none, ann0⟩,
  ⟨(some 84), (Op.indexAddr 74 (Operand.tmp 73) (Operand.tmp 74)), none, ann0⟩,
  ⟨none, (Op.store 3 (Operand.tmp 84) (Operand.tmp 82)), none, ann0⟩] (some [0, 0, 0, 0, 0, 0, 48, 112, 0, 0, 768, 1792, 4083, 8179, 16383, 32767])) (.tidy [0, 1, 4, 11, 12] z (z + 0)))
 (.seq (.reg [⟨(some 85), (Op.move (Operand.tmp 11)), none, ann0⟩,
  ⟨(some 86), (Op.binOp BinOp.add 3 (Operand.tmp 85) (Operand.const (Value.int IntKind.i64 1)) 3), none, ann0⟩,
  ⟨(some 11), (Op.assign (Operand.tmp 86)), none, ann0⟩] none)
 (.reg [⟨(some 87), (Op.move (Operand.tmp 12)), none, ann0⟩,
  ⟨(some 88), (Op.binOp BinOp.sub 3 (Operand.tmp 87) (Operand.const (Value.int IntKind.i64 1)) 3), none, ann0⟩,
  ⟨(some 12), (Op.assign (Operand.tmp 88)), none, ann0⟩] none))))))) (.tidy [0, 1, 4, 11, 12] z (z + 0))) (.tidy [0, 1, 4, 11, 12] z (z + 0))
def s65_1 (z : Nat) : SC := c65_1 z
theorem e65_1 {C : Pg} {z : Nat} {st : St} {ks : List Fr} {K : Ex → St → Prop} : wpk C (s65_1 z) st ks K ↔ wpk C (c65_1 z) st ks K := Iff.rfl
def s65 (z : Nat) : SFn := ⟨5, 90, [(ResultVar.tmp 10)],
 (.seq (.reg [⟨(some 10), (Op.assign (Operand.const (Value.int IntKind.i64 0))), none, ann0⟩] none)
 (.seq (.post (.reg [⟨(some 13), (Op.move (Operand.tmp 0)), none, ann0⟩,
  ⟨(some 14), (Op.move (Operand.tmp 1)), none, ann0⟩,
  ⟨(some 15), (Op.move (Operand.tmp 0)), none, ann0⟩,
  ⟨(some 16), (Op.move (Operand.tmp 3)), none, ann0⟩,
  ⟨(some 17), (Op.move (Operand.tmp 0)), none, ann0⟩,
  ⟨(some 18), (Op.move (Operand.tmp 3)), none, ann0⟩,
  ⟨(some 19), (Op.indexAddr 74 (Operand.tmp 17) (Operand.tmp 18)), none, ann0⟩,
  ⟨(some 20), (Op.load 3 (Operand.tmp 19)), none, ann0⟩,
  ⟨(some 21), (Op.move (Operand.tmp 0)), none, ann0⟩,
  ⟨(some 22), (Op.move (Operand.tmp 1)), none, ann0⟩,
  ⟨(some 23), (Op.indexAddr 74 (Operand.tmp 21) (Operand.tmp 22)), none, ann0⟩,
  ⟨(some 24), (Op.load 3 (Operand.tmp 23)), none, ann0⟩,
  ⟨(some 25), (Op.indexAddr 74 (Operand.tmp 13) (Operand.tmp 14)), none, ann0⟩,
  ⟨none, (Op.store 3 (Operand.tmp 25) (Operand.tmp 20)), none, ann0⟩,
  ⟨(some 26), (Op.indexAddr 74 (Operand.tmp 15) (Operand.tmp 16)), none, ann0⟩,
  ⟨none, (Op.store 3 (Operand.tmp 26) (Operand.tmp 24)), none, ann0⟩] (some [0, 0, 0, 0, 0, 0, 48, 112, 0, 0, 768, 1792, 4083, 8179, 16383, 32767])) (.tidy [0, 1, 2, 4] z (z + 0)))
 (.seq (.reg [⟨(some 27), (Op.move (Operand.tmp 1)), none, ann0⟩,
  ⟨(some 28), (Op.binOp BinOp.add 3 (Operand.tmp 27) (Operand.const (Value.int IntKind.i64 1)) 3), none, ann0⟩,
  ⟨(some 29), (Op.move (Operand.tmp 2)), none, ann0⟩,
  ⟨(some 30), (Op.binOp BinOp.sub 3 (Operand.tmp 29) (Operand.const (Value.int IntKind.i64 1)) 3), none, ann0⟩,
  ⟨(some 11), (Op.assign (Operand.tmp 28)), none, ann0⟩,
  ⟨(some 12), (Op.assign (Operand.tmp 30)), none, ann0⟩] none)
 (.seq (.post (.block 0 (.pre (.tidy [0, 1, 4, 11, 12] z (z + 0)) (.loop (s65_1 z)))) (.tidy [11] z (z + 0)))
 (.seq (.reg [⟨(some 89), (Op.move (Operand.tmp 11)), none, ann0⟩,
  ⟨(some 10), (Op.assign (Operand.tmp 89)), none, ann0⟩] none)
 .ret)))))⟩
theorem F65 (z : Nat) : FOk Try.prog 65 (s65 z) := by unfold FOk; kernel_rfl
def c66_1 (z : Nat) : SC := .post (.seq (.post (.seq (.post (.reg [⟨(some 32), (Op.move (Operand.tmp 12)), none, ann0⟩,
  ⟨(some 33), (Op.move (Operand.tmp 13)), none, ann0⟩,
  ⟨(some 34), (Op.binOp BinOp.leq 3 (Operand.tmp 32) (Operand.tmp 33) 3), none, ann0⟩,
  ⟨(some 35), (Op.move (Operand.tmp 34)), none, ann0⟩,
  ⟨(some 36), (Op.move (Operand.tmp 4)), (some (35, true)), ann0⟩,
  ⟨(some 37), (Op.move (Operand.tmp 0)), (some (35, true)), ann0⟩,
  ⟨(some 38), (Op.move (Operand.tmp 12)), (some (35, true)), ann0⟩,
  ⟨(some 39), (Op.indexAddr 74 (Operand.tmp 37) (Operand.tmp 38)), (some (35, true)), ann0⟩,
  ⟨(some 40), (Op.load 3 (Operand.tmp 39)), (some (35, true)), ann0⟩,
  ⟨(some 41), (Op.move (Operand.tmp 0)), (some (35, true)), ann0⟩,
  ⟨(some 42), (Op.move (Operand.tmp 1)), (some (35, true)), ann0⟩,
  ⟨(some 43), (Op.indexAddr 74 (Operand.tmp 41) (Operand.tmp 42)), (some (35, true)), ann0⟩,
  ⟨(some 44), (Op.load 3 (Operand.tmp 43)), (some (35, true)), ann0⟩,
  ⟨(some 45), (Op.call { callee := (Callee.value (Operand.tmp 36)), args := #[(Operand.tmp 40), (Operand.tmp 44)], argTypes := #[3, 3] }), (some (35, true)), ann0⟩,
  ⟨(some 46), (Op.binOp BinOp.lss 3 (Operand.tmp 45) (Operand.const (Value.int IntKind.i64 0)) 3), (some (35, true)), ann0⟩,
  ⟨(some 47), (Op.pick (Operand.tmp 35) (Operand.tmp 46) (Operand.const (Value.bool false))), none, ann0⟩] (some [0, 0, 3, 7, 15, 15, 15, 111, 239, 15, 15, 1551, 3599, 8191, 16383, 32767])) (.tidy [0, 1, 4, 12, 13, 47] z (z + 0)))
 (.cond (Operand.tmp 47) .skip
 (.exit 0))) (.tidy [0, 1, 4, 12, 13] z (z + 0)))
 (.block 1 (.reg [⟨(some 48), (Op.move (Operand.tmp 12)), none, ann0⟩,
  ⟨(some 49), (Op.binOp BinOp.add 3 (Operand.tmp 48) (Operand.const (Value.int IntKind.i64 1)) 3), none, ann0⟩,
  ⟨(some 12), (Op.assign (Operand.tmp 49)), none, ann0⟩] none))) (.tidy [0, 1, 4, 12, 13] z (z + 0))
def s66_1 (z : Nat) : SC := c66_1 z
theorem e66_1 {C : Pg} {z : Nat} {st : St} {ks : List Fr} {K : Ex → St → Prop} : wpk C (s66_1 z) st ks K ↔ wpk C (c66_1 z) st ks K := Iff.rfl
def c66_2 (z : Nat) : SC := .post (.seq (.post (.seq (.post (.reg [⟨(some 50), (Op.move (Operand.tmp 12)), none, ann0⟩,
  ⟨(some 51), (Op.move (Operand.tmp 13)), none, ann0⟩,
  ⟨(some 52), (Op.binOp BinOp.leq 3 (Operand.tmp 50) (Operand.tmp 51) 3), none, ann0⟩,
  ⟨(some 53), (Op.move (Operand.tmp 52)), none, ann0⟩,
  ⟨(some 54), (Op.move (Operand.tmp 4)), (some (53, true)), ann0⟩,
  ⟨(some 55), (Op.move (Operand.tmp 0)), (some (53, true)), ann0⟩,
  ⟨(some 56), (Op.move (Operand.tmp 13)), (some (53, true)), ann0⟩,
  ⟨(some 57), (Op.indexAddr 74 (Operand.tmp 55) (Operand.tmp 56)), (some (53, true)), ann0⟩,
  ⟨(some 58), (Op.load 3 (Operand.tmp 57)), (some (53, true)), ann0⟩,
  ⟨(some 59), (Op.move (Operand.tmp 0)), (some (53, true)), ann0⟩,
  ⟨(some 60), (Op.move (Operand.tmp 1)), (some (53, true)), ann0⟩,
  ⟨(some 61), (Op.indexAddr 74 (Operand.tmp 59) (Operand.tmp 60)), (some (53, true)), ann0⟩,
  ⟨(some 62), (Op.load 3 (Operand.tmp 61)), (some (53, true)), ann0⟩,
  ⟨(some 63), (Op.call { callee := (Callee.value (Operand.tmp 54)), args := #[(Operand.tmp 58), (Operand.tmp 62)], argTypes := #[3, 3] }), (some (53, true)), ann0⟩,
  ⟨(some 64), (Op.binOp BinOp.lss 3 (Operand.tmp 63) (Operand.const (Value.int IntKind.i64 0)) 3), (some (53, true)), ann0⟩,
  ⟨(some 65), (Op.unOp UnOp.not 4 (Operand.tmp 64)), (some (53, true)), ann0⟩,
  ⟨(some 66), (Op.pick (Operand.tmp 53) (Operand.tmp 65) (Operand.const (Value.bool false))), none, ann0⟩] (some [0, 0, 3, 7, 15, 15, 15, 111, 239, 15, 15, 1551, 3599, 8191, 16383, 32767, 65535])) (.tidy [0, 1, 4, 12, 13, 66] z (z + 0)))
 (.cond (Operand.tmp 66) .skip
 (.exit 2))) (.tidy [0, 1, 4, 12, 13] z (z + 0)))
 (.block 3 (.reg [⟨(some 67), (Op.move (Operand.tmp 13)), none, ann0⟩,
  ⟨(some 68), (Op.binOp BinOp.sub 3 (Operand.tmp 67) (Operand.const (Value.int IntKind.i64 1)) 3), none, ann0⟩,
  ⟨(some 13), (Op.assign (Operand.tmp 68)), none, ann0⟩] none))) (.tidy [0, 1, 4, 12, 13] z (z + 0))
def s66_2 (z : Nat) : SC := c66_2 z
theorem e66_2 {C : Pg} {z : Nat} {st : St} {ks : List Fr} {K : Ex → St → Prop} : wpk C (s66_2 z) st ks K ↔ wpk C (c66_2 z) st ks K := Iff.rfl
def c66_4 (z : Nat) : SC := .post (.seq (.post (.seq (.post (.reg [⟨(some 105), (Op.move (Operand.tmp 12)), none, ann0⟩,
  ⟨(some 106), (Op.move (Operand.tmp 13)), none, ann0⟩,
  ⟨(some 107), (Op.binOp BinOp.leq 3 (Operand.tmp 105) (Operand.tmp 106) 3), none, ann0⟩,
  ⟨(some 108), (Op.move (Operand.tmp 107)), none, ann0⟩,
  ⟨(some 109), (Op.move (Operand.tmp 4)), (some (108, true)), ann0⟩,
  ⟨(some 110), (Op.move (Operand.tmp 0)), (some (108, true)), ann0⟩,
  ⟨(some 111), (Op.move (Operand.tmp 12)), (some (108, true)), ann0⟩,
  ⟨(some 112), (Op.indexAddr 74 (Operand.tmp 110) (Operand.tmp 111)), (some (108, true)), ann0⟩,
  ⟨(some 113), (Op.load 3 (Operand.tmp 112)), (some (108, true)), ann0⟩,
  ⟨(some 114), (Op.move (Operand.tmp 0)), (some (108, true)), ann0⟩,
  ⟨(some 115), (Op.move (Operand.tmp 1)), (some (108, true)), ann0⟩,
  ⟨(some 116), (Op.indexAddr 74 (Operand.tmp 114) (Operand.tmp 115)), (some (108, true)), ann0⟩,
  ⟨(some 117), (Op.load 3 (Operand.tmp 116)), (some (108, true)), ann0⟩,
  ⟨(some 118), (Op.call { callee := (Callee.value (Operand.tmp 109)), args := #[(Operand.tmp 113), (Operand.tmp 117)], argTypes := #[3, 3] }), (some (108, true)), ann0⟩,
  ⟨(some 119), (Op.binOp BinOp.lss 3 (Operand.tmp 118) (Operand.const (Value.int IntKind.i64 0)) 3), (some (108, true)), ann0⟩,
  ⟨(some 120), (Op.pick (Operand.tmp 108) (Operand.tmp 119) (Operand.const (Value.bool false))), none, ann0⟩] (some [0, 0, 3, 7, 15, 15, 15, 111, 239, 15, 15, 1551, 3599, 8191, 16383, 32767])) (.tidy [0, 1, 4, 12, 13, 120] z (z + 0)))
 (.cond (Operand.tmp 120) .skip
 (.exit 6))) (.tidy [0, 1, 4, 12, 13] z (z + 0)))
 (.block 7 (.reg [⟨(some 121), (Op.move (Operand.tmp 12)), none, ann0⟩,
  ⟨(some 122), (Op.binOp BinOp.add 3 (Operand.tmp 121) (Operand.const (Value.int IntKind.i64 1)) 3), none, ann0⟩,
  ⟨(some 12), (Op.assign (Operand.tmp 122)), none, ann0⟩] none))) (.tidy [0, 1, 4, 12, 13] z (z + 0))
def s66_4 (z : Nat) : SC := c66_4 z
theorem e66_4 {C : Pg} {z : Nat} {st : St} {ks : List Fr} {K : Ex → St → Prop} : wpk C (s66_4 z) st ks K ↔ wpk C (c66_4 z) st ks K := Iff.rfl
def c66_5 (z : Nat) : SC := .post (.seq (.post (.seq (.post (.reg [⟨(some 123), (Op.move (Operand.tmp 12)), none, ann0⟩,
  ⟨(some 124), (Op.move (Operand.tmp 13)), none, ann0⟩,
  ⟨(some 125), (Op.binOp BinOp.leq 3 (Operand.tmp 123) (Operand.tmp 124) 3), none, ann0⟩,
  ⟨(some 126), (Op.move (Operand.tmp 125)), none, ann0⟩,
  ⟨(some 127), (Op.move (Operand.tmp 4)), (some (126, true)), ann0⟩,
  ⟨(some 128), (Op.move (Operand.tmp 0)), (some (126, true)), ann0⟩,
  ⟨(some 129), (Op.move (Operand.tmp 13)), (some (126, true)), ann0⟩,
  ⟨(some 130), (Op.indexAddr 74 (Operand.tmp 128) (Operand.tmp 129)), (some (126, true)), ann0⟩,
  ⟨(some 131), (Op.load 3 (Operand.tmp 130)), (some (126, true)), ann0⟩,
  ⟨(some 132), (Op.move (Operand.tmp 0)), (some (126, true)), ann0⟩,
  ⟨(some 133), (Op.move (Operand.tmp 1)), (some (126, true)), ann0⟩,
  ⟨(some 134), (Op.indexAddr 74 (Operand.tmp 132) (Operand.tmp 133)), (some (126, true)), ann0⟩,
  ⟨(some 135), (Op.load 3 (Operand.tmp 134)), (some (126, true)), ann0⟩,
  ⟨(some 136), (Op.call { callee := (Callee.value (Operand.tmp 127)), args := #[(Operand.tmp 131), (Operand.tmp 135)], argTypes := #[3, 3] }), (some (126, true)), ann0⟩,
  ⟨(some 137), (Op.binOp BinOp.lss 3 (Operand.tmp 136) (Operand.const (Value.int IntKind.i64 0)) 3), (some (126, true)), ann0⟩,
  ⟨(some 138), (Op.unOp UnOp.not 4 (Operand.tmp 137)), (some (126, true)), ann0⟩,
  ⟨(some 139), (Op.pick (Operand.tmp 126) (Operand.tmp 138) (Operand.const (Value.bool false))), none, ann0⟩] (some [0, 0, 3, 7, 15, 15, 15, 111, 239, 15, 15, 1551, 3599, 8191, 16383, 32767, 65535])) (.tidy [0, 1, 4, 12, 13, 139] z (z + 0)))
 (.cond (Operand.tmp 139) .skip
 (.exit 8))) (.tidy [0, 1, 4, 12, 13] z (z + 0)))
 (.block 9 (.reg [⟨(some 140), (Op.move (Operand.tmp 13)), none, ann0⟩,
  ⟨(some 141), (Op.binOp BinOp.sub 3 (Operand.tmp 140) (Operand.const (Value.int IntKind.i64 1)) 3), none, ann0⟩,
  ⟨(some 13), (Op.assign (Operand.tmp 141)), none, ann0⟩] none))) (.tidy [0, 1, 4, 12, 13] z (z + 0))
def s66_5 (z : Nat) : SC := c66_5 z
theorem e66_5 {C : Pg} {z : Nat} {st : St} {ks : List Fr} {K : Ex → St → Prop} : wpk C (s66_5 z) st ks K ↔ wpk C (c66_5 z) st ks K := Iff.rfl
def c66_3 (z : Nat) : SC := .post (.post (.block 5 (.seq (.post (.block 6 (.pre (.tidy [0, 1, 4, 12, 13] z (z + 0)) (.loop (s66_4 z)))) (.tidy [0, 1, 4, 12, 13] z (z + 0)))
 (.seq (.post (.block 8 (.pre (.tidy [0, 1, 4, 12, 13] z (z + 0)) (.loop (s66_5 z)))) (.tidy [0, 1, 4, 12, 13] z (z + 0)))
 (.seq (.seq (.post (.reg [⟨(some 142), (Op.move (Operand.tmp 12)), none, ann0⟩,
  ⟨(some 143), (Op.move (Operand.tmp 13)), none, ann0⟩,
  ⟨(some 144), (Op.binOp BinOp.gtr 3 (Operand.tmp 142) (Operand.tmp 143) 3), none, ann0⟩] none) (.tidy [0, 1, 4, 12, 13, 144] z (z + 0)))
 (.cond (Operand.tmp 144) (.exit 4)
 .skip))
 (.seq (.post (.reg [⟨(some 145), (Op.move (Operand.tmp 0)), none, ann0⟩,
  ⟨(some 146), (Op.move (Operand.tmp 12)), none, ann0⟩,
  ⟨(some 147), (Op.move (Operand.tmp 0)), none, ann0⟩,
  ⟨(some 148), (Op.move (Operand.tmp 13)), none, ann0⟩,
  ⟨(some 149), (Op.move (Operand.tmp 0)), none, ann0⟩,
  ⟨(some 150), (Op.move (Operand.tmp 13)), none, ann0⟩,
  ⟨(some 151), (Op.indexAddr 74 (Operand.tmp 149) (Operand.tmp 150)), none, ann0⟩,
  ⟨(some 152), (Op.load 3 (Operand.tmp 151)), none, ann0⟩,
  ⟨(some 153), (Op.move (Operand.tmp 0)), none, ann0⟩,
  ⟨(some 154), (Op.move (Operand.tmp 12)), none, ann0⟩,
  ⟨(some 155), (Op.indexAddr 74 (Operand.tmp 153) (Operand.tmp 154)), none, ann0⟩,
  ⟨(some 156), (Op.load 3 (Operand.tmp 155)), none, ann0⟩,
  ⟨(some 157), (Op.indexAddr 74 (Operand.tmp 145) (Operand.tmp 146)), none, ann0⟩,
  ⟨none, (Op.store 3 (Operand.tmp 157) (Operand.tmp 152)), none, ann0⟩,
  ⟨(some 158), (Op.indexAddr 74 (Operand.tmp 147) (Operand.tmp 148)), none, ann0⟩,
  ⟨none, (Op.store 3 (Operand.tmp 158) (Operand.tmp 156)), none, ann0⟩] (some [0, 0, 0, 0, 0, 0, 48, 112, 0, 0, 768, 1792, 4083, 8179, 16383, 32767])) (.tidy [0, 1, 4, 12, 13] z (z + 0)))
 (.seq (.reg [⟨(some 159), (Op.move (Operand.tmp 12)), none, ann0⟩,
  ⟨(some 160), (Op.binOp BinOp.add 3 (Operand.tmp 159) (Operand.const (Value.int IntKind.i64 1)) 3), none, ann0⟩,
  ⟨(some 12), (Op.assign (Operand.tmp 160)), none, ann0⟩] none)
 (.reg [⟨(some 161), (Op.move (Operand.tmp 13)), none, ann0⟩,
  ⟨(some 162), (Op.binOp BinOp.sub 3 (Operand.tmp 161) (Operand.const (Value.int IntKind.i64 1)) 3), none, ann0⟩,
  ⟨(some 13), (Op.assign (Operand.tmp 162)), none, ann0⟩] none))))))) (.tidy [0, 1, 4, 12, 13] z (z + 0))) (.tidy [0, 1, 4, 12, 13] z (z + 0))
def s66_3 (z : Nat) : SC := c66_3 z
theorem e66_3 {C : Pg} {z : Nat} {st : St} {ks : List Fr} {K : Ex → St → Prop} : wpk C (s66_3 z) st ks K ↔ wpk C (c66_3 z) st ks K := Iff.rfl
def s66 (z : Nat) : SFn := ⟨5, 178, [(ResultVar.tmp 10), (ResultVar.tmp 11)],
 (.seq (.reg [⟨(some 10), (Op.assign (Operand.const (Value.int IntKind.i64 0))), none, ann0⟩,
  ⟨(some 11), (Op.assign (Operand.const (Value.bool false))), none, ann0⟩] none)
 (.seq (.post (.reg [⟨(some 14), (Op.move (Operand.tmp 0)), none, ann0⟩,
  ⟨(some 15), (Op.move (Operand.tmp 1)), none, ann0⟩,
  ⟨(some 16), (Op.move (Operand.tmp 0)), none, ann0⟩,
  ⟨(some 17), (Op.move (Operand.tmp 3)), none, ann0⟩,
  ⟨(some 18), (Op.move (Operand.tmp 0)), none, ann0⟩,
  ⟨(some 19), (Op.move (Operand.tmp 3)), none, ann0⟩,
  ⟨(some 20), (Op.indexAddr 74 (Operand.tmp 18) (Operand.tmp 19)), none, ann0⟩,
  ⟨(some 21), (Op.load 3 (Operand.tmp 20)), none, ann0⟩,
  ⟨(some 22), (Op.move (Operand.tmp 0)), none, ann0⟩,
  ⟨(some 23), (Op.move (Operand.tmp 1)), none, ann0⟩,
  ⟨(some 24), (Op.indexAddr 74 (Operand.tmp 22) (Operand.tmp 23)), none, ann0⟩,
  ⟨(some 25), (Op.load 3 (Operand.tmp 24)), none, ann0⟩,
  ⟨(some 26), (Op.indexAddr 74 (Operand.tmp 14) (Operand.tmp 15)), none, ann0⟩,
  ⟨none, (Op.store 3 (Operand.tmp 26) (Operand.tmp 21)), none, ann0⟩,
  ⟨(some 27), (Op.indexAddr 74 (Operand.tmp 16) (Operand.tmp 17)), none, ann0⟩,
  ⟨none, (Op.store 3 (Operand.tmp 27) (Operand.tmp 25)), none, ann0⟩] (some [0, 0, 0, 0, 0, 0, 48, 112, 0, 0, 768, 1792, 4083, 8179, 16383, 32767])) (.tidy [0, 1, 2, 4] z (z + 0)))
 (.seq (.reg [⟨(some 28), (Op.move (Operand.tmp 1)), none, ann0⟩,
  ⟨(some 29), (Op.binOp BinOp.add 3 (Operand.tmp 28) (Operand.const (Value.int IntKind.i64 1)) 3), none, ann0⟩,
  ⟨(some 30), (Op.move (Operand.tmp 2)), none, ann0⟩,
  ⟨(some 31), (Op.binOp BinOp.sub 3 (Operand.tmp 30) (Operand.const (Value.int IntKind.i64 1)) 3), none, ann0⟩,
  ⟨(some 12), (Op.assign (Operand.tmp 29)), none, ann0⟩,
  ⟨(some 13), (Op.assign (Operand.tmp 31)), none, ann0⟩] none)
 (.seq (.post (.block 0 (.pre (.tidy [0, 1, 4, 12, 13] z (z + 0)) (.loop (s66_1 z)))) (.tidy [0, 1, 4, 12, 13] z (z + 0)))
 (.seq (.post (.block 2 (.pre (.tidy [0, 1, 4, 12, 13] z (z + 0)) (.loop (s66_2 z)))) (.tidy [0, 1, 4, 12, 13] z (z + 0)))
 (.seq (.post (.seq (.post (.reg [⟨(some 69), (Op.move (Operand.tmp 12)), none, ann0⟩,
  ⟨(some 70), (Op.move (Operand.tmp 13)), none, ann0⟩,
  ⟨(some 71), (Op.binOp BinOp.gtr 3 (Operand.tmp 69) (Operand.tmp 70) 3), none, ann0⟩] none) (.tidy [0, 1, 4, 12, 13, 71] z (z + 0)))
 (.cond (Operand.tmp 71) (.seq (.post (.reg [⟨(some 72), (Op.move (Operand.tmp 0)), none, ann0⟩,
  ⟨(some 73), (Op.move (Operand.tmp 13)), none, ann0⟩,
  ⟨(some 74), (Op.move (Operand.tmp 0)), none, ann0⟩,
  ⟨(some 75), (Op.move (Operand.tmp 1)), none, ann0⟩,
  ⟨(some 76), (Op.move (Operand.tmp 0)), none, ann0⟩,
  ⟨(some 77), (Op.move (Operand.tmp 1)), none, ann0⟩,
  ⟨(some 78), (Op.indexAddr 74 (Operand.tmp 76) (Operand.tmp 77)), none, ann0⟩,
  ⟨(some 79), (Op.load 3 (Operand.tmp 78)), none, ann0⟩,
  ⟨(some 80), (Op.move (Operand.tmp 0)), none, ann0⟩,
  ⟨(some 81), (Op.move (Operand.tmp 13)), none, ann0⟩,
  ⟨(some 82), (Op.indexAddr 74 (Operand.tmp 80) (Operand.tmp 81)), none, ann0⟩,
  ⟨(some 83), (Op.load 3 (Operand.tmp 82)), none, ann0⟩,
  ⟨(some 84), (Op.indexAddr 74 (Operand.tmp 72) (Operand.tmp 73)), none, ann0⟩,
  ⟨none, (Op.store 3 (Operand.tmp 84) (Operand.tmp 79)), none, ann0⟩,
  ⟨(some 85), (Op.indexAddr 74 (Operand.tmp 74) (Operand.tmp 75)), none, ann0⟩,
  ⟨none, (Op.store 3 (Operand.tmp 85) (Operand.tmp 83)), none, ann0⟩] (some [0, 0, 0, 0, 0, 0, 48, 112, 0, 0, 768, 1792, 4083, 8179, 16383, 32767])) (.tidy [13] z (z + 0)))
 (.seq (.reg [⟨(some 86), (Op.move (Operand.tmp 13)), none, ann0⟩,
  ⟨(some 10), (Op.assign (Operand.tmp 86)), none, ann0⟩,
  ⟨(some 11), (Op.assign (Operand.const (Value.bool true))), none, ann0⟩] none)
 .ret))
 .skip)) (.tidy [0, 1, 4, 12, 13] z (z + 0)))
 (.seq (.post (.reg [⟨(some 87), (Op.move (Operand.tmp 0)), none, ann0⟩,
  ⟨(some 88), (Op.move (Operand.tmp 12)), none, ann0⟩,
  ⟨(some 89), (Op.move (Operand.tmp 0)), none, ann0⟩,
  ⟨(some 90), (Op.move (Operand.tmp 13)), none, ann0⟩,
  ⟨(some 91), (Op.move (Operand.tmp 0)), none, ann0⟩,
  ⟨(some 92), (Op.move (Operand.tmp 13)), none, ann0⟩,
  ⟨(some 93), (Op.indexAddr 74 (Operand.tmp 91) (Operand.tmp 92)), none, ann0⟩,
  ⟨(some 94), (Op.load 3 (Operand.tmp 93)), none, ann0⟩,
  ⟨(some 95), (Op.move (Operand.tmp 0)), none, ann0⟩,
  ⟨(some 96), (Op.move (Operand.tmp 12)), none, ann0⟩,
  ⟨(some 97), (Op.indexAddr 74 (Operand.tmp 95) (Operand.tmp 96)), none, ann0⟩,
  ⟨(some 98), (Op.load 3 (Operand.tmp 97)), none, ann0⟩,
  ⟨(some 99), (Op.indexAddr 74 (Operand.tmp 87) (Operand.tmp 88)), none, ann0⟩,
  ⟨none, (Op.store 3 (Operand.tmp 99) (Operand.tmp 94)), none, ann0⟩,
  ⟨(some 100), (Op.indexAddr 74 (Operand.tmp 89) (Operand.tmp 90)), none, ann0⟩,
  ⟨none, (Op.store 3 (Operand.tmp 100) (Operand.tmp 98)), none, ann0⟩] (some [0, 0, 0, 0, 0, 0, 48, 112, 0, 0, 768, 1792, 4083, 8179, 16383, 32767])) (.tidy [0, 1, 4, 12, 13] z (z + 0)))
 (.seq (.reg [⟨(some 101), (Op.move (Operand.tmp 12)), none, ann0⟩,
  ⟨(some 102), (Op.binOp BinOp.add 3 (Operand.tmp 101) (Operand.const (Value.int IntKind.i64 1)) 3), none, ann0⟩,
  ⟨(some 12), (Op.assign (Operand.tmp 102)), none, ann0⟩] none)
 (.seq (.reg [⟨(some 103), (Op.move (Operand.tmp 13)), none, ann0⟩,
  ⟨(some 104), (Op.binOp BinOp.sub 3 (Operand.tmp 103) (Operand.const (Value.int IntKind.i64 1)) 3), none, ann0⟩,
  ⟨(some 13), (Op.assign (Operand.tmp 104)), none, ann0⟩] none)
 (.seq (.post (.block 4 (.pre (.tidy [0, 1, 4, 12, 13] z (z + 0)) (.loop (s66_3 z)))) (.tidy [0, 1, 13] z (z + 0)))
 (.seq (.post (.reg [⟨(some 163), (Op.move (Operand.tmp 0)), none, ann0⟩,
  ⟨(some 164), (Op.move (Operand.tmp 13)), none, ann0⟩,
  ⟨(some 165), (Op.move (Operand.tmp 0)), none, ann0⟩,
  ⟨(some 166), (Op.move (Operand.tmp 1)), none, ann0⟩,
  ⟨(some 167), (Op.move (Operand.tmp 0)), none, ann0⟩,
  ⟨(some 168), (Op.move (Operand.tmp 1)), none, ann0⟩,
  ⟨(some 169), (Op.indexAddr 74 (Operand.tmp 167) (Operand.tmp 168)), none, ann0⟩,
  ⟨(some 170), (Op.load 3 (Operand.tmp 169)), none, ann0⟩,
  ⟨(some 171), (Op.move (Operand.tmp 0)), none, ann0⟩,
  ⟨(some 172), (Op.move (Operand.tmp 13)), none, ann0⟩,
  ⟨(some 173), (Op.indexAddr 74 (Operand.tmp 171) (Operand.tmp 172)), none, ann0⟩,
  ⟨(some 174), (Op.load 3 (Operand.tmp 173)), none, ann0⟩,
  ⟨(some 175), (Op.indexAddr 74 (Operand.tmp 163) (Operand.tmp 164)), none, ann0⟩,
  ⟨none, (Op.store 3 (Operand.tmp 175) (Operand.tmp 170)), none, ann0⟩,
  ⟨(some 176), (Op.indexAddr 74 (Operand.tmp 165) (Operand.tmp 166)), none, ann0⟩,
  ⟨none, (Op.store 3 (Operand.tmp 176) (Operand.tmp 174)), none, ann0⟩] (some [0, 0, 0, 0, 0, 0, 48, 112, 0, 0, 768, 1792, 4083, 8179, 16383, 32767])) (.tidy [13] z (z + 0)))
 (.seq (.reg [⟨(some 177), (Op.move (Operand.tmp 13)), none, ann0⟩,
  ⟨(some 10), (Op.assign (Operand.tmp 177)), none, ann0⟩,
  ⟨(some 11), (Op.assign (Operand.const (Value.bool false))), none, ann0⟩] none)
 .ret))))))))))))⟩
theorem F66 (z : Nat) : FOk Try.prog 66 (s66 z) := by unfold FOk; kernel_rfl
def s67 (z : Nat) : SFn := ⟨1, 19, [(ResultVar.tmp 2)],
 (.seq (.reg [⟨(some 2), (Op.assign (Operand.const (Value.int IntKind.i64 0))), none, ann0⟩] none)
 (.seq (.post (.seq (.reg [⟨(some 3), (Op.move (Operand.tmp 0)), none, ann0⟩,
  ⟨(some 4), (Op.binOp BinOp.geq 22 (Operand.tmp 3) (Operand.const (Value.int IntKind.u32 65536)) 22), none, ann0⟩] none)
 (.cond (Operand.tmp 4) (.seq (.reg [⟨(some 5), (Op.move (Operand.tmp 0)), none, ann0⟩,
  ⟨(some 6), (Op.binOp BinOp.shr 22 (Operand.tmp 5) (Operand.const (Value.int IntKind.u64 16)) 85), none, ann0⟩,
  ⟨(some 0), (Op.assign (Operand.tmp 6)), none, ann0⟩] none)
 (.reg [⟨(some 2), (Op.assign (Operand.const (Value.int IntKind.i64 16))), none, ann0⟩] none))
 .skip)) (.tidy [0, 2] z (z + 0)))
 (.seq (.post (.seq (.reg [⟨(some 7), (Op.move (Operand.tmp 0)), none, ann0⟩,
  ⟨(some 8), (Op.binOp BinOp.geq 22 (Operand.tmp 7) (Operand.const (Value.int IntKind.u32 256)) 22), none, ann0⟩] none)
 (.cond (Operand.tmp 8) (.seq (.reg [⟨(some 9), (Op.move (Operand.tmp 0)), none, ann0⟩,
  ⟨(some 10), (Op.binOp BinOp.shr 22 (Operand.tmp 9) (Operand.const (Value.int IntKind.u64 8)) 85), none, ann0⟩,
  ⟨(some 0), (Op.assign (Operand.tmp 10)), none, ann0⟩] none)
 (.reg [⟨(some 11), (Op.move (Operand.tmp 2)), none, ann0⟩,
  ⟨(some 12), (Op.binOp BinOp.add 3 (Operand.tmp 11) (Operand.const (Value.int IntKind.i64 8)) 3), none, ann0⟩,
  ⟨(some 2), (Op.assign (Operand.tmp 12)), none, ann0⟩] none))
 .skip)) (.tidy [0, 2] z (z + 0)))
 (.seq (.reg [⟨(some 13), (Op.move (Operand.tmp 2)), none, ann0⟩,
  ⟨(some 14), (Op.move (Operand.tmp 0)), none, ann0⟩,
  ⟨(some 15), (Op.convert 22 5 (Operand.tmp 14)), none, ann0⟩,
  ⟨(some 16), (Op.index 9 (Operand.const (Value.string ⟨#[0, 1, 2, 2, 3, 3, 3, 3, 4, 4, 4, 4, 4, 4, 4, 4, 5, 5, 5, 5, 5, 5, 5, 5, 5, 5, 5, 5, 5, 5, 5, 5, 6, 6, 6, 6, 6, 6, 6, 6, 6, 6, 6, 6, 6, 6, 6, 6, 6, 6, 6, 6, 6, 6, 6, 6, 6, 6, 6, 6, 6, 6, 6, 6, 7, 7, 7, 7, 7, 7, 7, 7, 7, 7, 7, 7, 7, 7, 7, 7, 7, 7, 7, 7, 7, 7, 7, 7, 7, 7, 7, 7, 7, 7, 7, 7, 7, 7, 7, 7, 7, 7, 7, 7, 7, 7, 7, 7, 7, 7, 7, 7, 7, 7, 7, 7, 7, 7, 7, 7, 7, 7, 7, 7, 7, 7, 7, 7, 8, 8, 8, 8, 8, 8, 8, 8, 8, 8, 8, 8, 8, 8, 8, 8, 8, 8, 8, 8, 8, 8, 8, 8, 8, 8, 8, 8, 8, 8, 8, 8, 8, 8, 8, 8, 8, 8, 8, 8, 8, 8, 8, 8, 8, 8, 8, 8, 8, 8, 8, 8, 8, 8, 8, 8, 8, 8, 8, 8, 8, 8, 8, 8, 8, 8, 8, 8, 8, 8, 8, 8, 8, 8, 8, 8, 8, 8, 8, 8, 8, 8, 8, 8, 8, 8, 8, 8, 8, 8, 8, 8, 8, 8, 8, 8, 8, 8, 8, 8, 8, 8, 8, 8, 8, 8, 8, 8, 8, 8, 8, 8, 8, 8, 8, 8, 8, 8, 8, 8, 8, 8, 8, 8, 8, 8, 8, 8]⟩)) (Operand.tmp 15)), none, ann0⟩,
  ⟨(some 17), (Op.convert 5 3 (Operand.tmp 16)), none, ann0⟩,
  ⟨(some 18), (Op.binOp BinOp.add 3 (Operand.tmp 13) (Operand.tmp 17) 3), none, ann0⟩,
  ⟨(some 2), (Op.assign (Operand.tmp 18)), none, ann0⟩] none)
 .ret))))⟩
theorem F67 (z : Nat) : FOk Try.prog 67 (s67 z) := by unfold FOk; kernel_rfl
def s68 (z : Nat) : SFn := ⟨1, 25, [(ResultVar.tmp 2)],
 (.seq (.reg [⟨(some 2), (Op.assign (Operand.const (Value.int IntKind.i64 0))), none, ann0⟩] none)
 (.seq (.post (.seq (.reg [⟨(some 3), (Op.move (Operand.tmp 0)), none, ann0⟩,
  ⟨(some 4), (Op.binOp BinOp.geq 98 (Operand.tmp 3) (Operand.const (Value.int IntKind.u64 4294967296)) 98), none, ann0⟩] none)
 (.cond (Operand.tmp 4) (.seq (.reg [⟨(some 5), (Op.move (Operand.tmp 0)), none, ann0⟩,
  ⟨(some 6), (Op.binOp BinOp.shr 98 (Operand.tmp 5) (Operand.const (Value.int IntKind.u64 32)) 85), none, ann0⟩,
  ⟨(some 0), (Op.assign (Operand.tmp 6)), none, ann0⟩] none)
 (.reg [⟨(some 2), (Op.assign (Operand.const (Value.int IntKind.i64 32))), none, ann0⟩] none))
 .skip)) (.tidy [0, 2] z (z + 0)))
 (.seq (.post (.seq (.reg [⟨(some 7), (Op.move (Operand.tmp 0)), none, ann0⟩,
  ⟨(some 8), (Op.binOp BinOp.geq 98 (Operand.tmp 7) (Operand.const (Value.int IntKind.u64 65536)) 98), none, ann0⟩] none)
 (.cond (Operand.tmp 8) (.seq (.reg [⟨(some 9), (Op.move (Operand.tmp 0)), none, ann0⟩,
  ⟨(some 10), (Op.binOp BinOp.shr 98 (Operand.tmp 9) (Operand.const (Value.int IntKind.u64 16)) 85), none, ann0⟩,
  ⟨(some 0), (Op.assign (Operand.tmp 10)), none, ann0⟩] none)
 (.reg [⟨(some 11), (Op.move (Operand.tmp 2)), none, ann0⟩,
  ⟨(some 12), (Op.binOp BinOp.add 3 (Operand.tmp 11) (Operand.const (Value.int IntKind.i64 16)) 3), none, ann0⟩,
  ⟨(some 2), (Op.assign (Operand.tmp 12)), none, ann0⟩] none))
 .skip)) (.tidy [0, 2] z (z + 0)))
 (.seq (.post (.seq (.reg [⟨(some 13), (Op.move (Operand.tmp 0)), none, ann0⟩,
  ⟨(some 14), (Op.binOp BinOp.geq 98 (Operand.tmp 13) (Operand.const (Value.int IntKind.u64 256)) 98), none, ann0⟩] none)
 (.cond (Operand.tmp 14) (.seq (.reg [⟨(some 15), (Op.move (Operand.tmp 0)), none, ann0⟩,
  ⟨(some 16), (Op.binOp BinOp.shr 98 (Operand.tmp 15) (Operand.const (Value.int IntKind.u64 8)) 85), none, ann0⟩,
  ⟨(some 0), (Op.assign (Operand.tmp 16)), none, ann0⟩] none)
 (.reg [⟨(some 17), (Op.move (Operand.tmp 2)), none, ann0⟩,
  ⟨(some 18), (Op.binOp BinOp.add 3 (Operand.tmp 17) (Operand.const (Value.int IntKind.i64 8)) 3), none, ann0⟩,
  ⟨(some 2), (Op.assign (Operand.tmp 18)), none, ann0⟩] none))
 .skip)) (.tidy [0, 2] z (z + 0)))
 (.seq (.reg [⟨(some 19), (Op.move (Operand.tmp 2)), none, ann0⟩,
  ⟨(some 20), (Op.move (Operand.tmp 0)), none, ann0⟩,
  ⟨(some 21), (Op.convert 98 5 (Operand.tmp 20)), none, ann0⟩,
  ⟨(some 22), (Op.index 9 (Operand.const (Value.string ⟨#[0, 1, 2, 2, 3, 3, 3, 3, 4, 4, 4, 4, 4, 4, 4, 4, 5, 5, 5, 5, 5, 5, 5, 5, 5, 5, 5, 5, 5, 5, 5, 5, 6, 6, 6, 6, 6, 6, 6, 6, 6, 6, 6, 6, 6, 6, 6, 6, 6, 6, 6, 6, 6, 6, 6, 6, 6, 6, 6, 6, 6, 6, 6, 6, 7, 7, 7, 7, 7, 7, 7, 7, 7, 7, 7, 7, 7, 7, 7, 7, 7, 7, 7, 7, 7, 7, 7, 7, 7, 7, 7, 7, 7, 7, 7, 7, 7, 7, 7, 7, 7, 7, 7, 7, 7, 7, 7, 7, 7, 7, 7, 7, 7, 7, 7, 7, 7, 7, 7, 7, 7, 7, 7, 7, 7, 7, 7, 7, 8, 8, 8, 8, 8, 8, 8, 8, 8, 8, 8, 8, 8, 8, 8, 8, 8, 8, 8, 8, 8, 8, 8, 8, 8, 8, 8, 8, 8, 8, 8, 8, 8, 8, 8, 8, 8, 8, 8, 8, 8, 8, 8, 8, 8, 8, 8, 8, 8, 8, 8, 8, 8, 8, 8, 8, 8, 8, 8, 8, 8, 8, 8, 8, 8, 8, 8, 8, 8, 8, 8, 8, 8, 8, 8, 8, 8, 8, 8, 8, 8, 8, 8, 8, 8, 8, 8, 8, 8, 8, 8, 8, 8, 8, 8, 8, 8, 8, 8, 8, 8, 8, 8, 8, 8, 8, 8, 8, 8, 8, 8, 8, 8, 8, 8, 8, 8, 8, 8, 8, 8, 8, 8, 8, 8, 8, 8, 8]⟩)) (Operand.tmp 21)), none, ann0⟩,
  ⟨(some 23), (Op.convert 5 3 (Operand.tmp 22)), none, ann0⟩,
  ⟨(some 24), (Op.binOp BinOp.add 3 (Operand.tmp 19) (Operand.tmp 23) 3), none, ann0⟩,
  ⟨(some 2), (Op.assign (Operand.tmp 24)), none, ann0⟩] none)
 .ret)))))⟩
theorem F68 (z : Nat) : FOk Try.prog 68 (s68 z) := by unfold FOk; kernel_rfl
def c69_2 (z : Nat) : SC := .post (.seq (.post (.seq (.post (.reg [⟨(some 18), (Op.move (Operand.tmp 9)), none, ann0⟩,
  ⟨(some 19), (Op.move (Operand.tmp 1)), none, ann0⟩,
  ⟨(some 20), (Op.binOp BinOp.gtr 3 (Operand.tmp 18) (Operand.tmp 19) 3), none, ann0⟩,
  ⟨(some 21), (Op.move (Operand.tmp 20)), none, ann0⟩,
  ⟨(some 22), (Op.move (Operand.tmp 3)), (some (21, true)), ann0⟩,
  ⟨(some 23), (Op.move (Operand.tmp 0)), (some (21, true)), ann0⟩,
  ⟨(some 24), (Op.move (Operand.tmp 9)), (some (21, true)), ann0⟩,
  ⟨(some 25), (Op.indexAddr 26 (Operand.tmp 23) (Operand.tmp 24)), (some (21, true)), ann0⟩,
  ⟨(some 26), (Op.load 25 (Operand.tmp 25)), (some (21, true)), ann0⟩,
  ⟨(some 27), (Op.move (Operand.tmp 0)), (some (21, true)), ann0⟩,
  ⟨(some 28), (Op.move (Operand.tmp 9)), (some (21, true)), ann0⟩,
  ⟨(some 29), (Op.binOp BinOp.sub 3 (Operand.tmp 28) (Operand.const (Value.int IntKind.i64 1)) 3), (some (21, true)), ann0⟩,
  ⟨(some 30), (Op.indexAddr 26 (Operand.tmp 27) (Operand.tmp 29)), (some (21, true)), ann0⟩,
  ⟨(some 31), (Op.load 25 (Operand.tmp 30)), (some (21, true)), ann0⟩,
  ⟨(some 32), (Op.call { callee := (Callee.value (Operand.tmp 22)), args := #[(Operand.tmp 26), (Operand.tmp 31)], argTypes := #[25, 25] }), (some (21, true)), ann0⟩,
  ⟨(some 33), (Op.binOp BinOp.lss 3 (Operand.tmp 32) (Operand.const (Value.int IntKind.i64 0)) 3), (some (21, true)), ann0⟩,
  ⟨(some 34), (Op.pick (Operand.tmp 21) (Operand.tmp 33) (Operand.const (Value.bool false))), none, ann0⟩] (some [0, 0, 3, 7, 15, 15, 15, 111, 239, 15, 15, 1039, 3599, 7695, 16383, 32767, 65535])) (.tidy [0, 1, 2, 3, 8, 9, 34] z (z + 0)))
 (.cond (Operand.tmp 34) .skip
 (.exit 2))) (.tidy [0, 1, 2, 3, 8, 9] z (z + 0)))
 (.seq (.post (.block 3 (.reg [⟨(some 37), (Op.move (Operand.tmp 0)), none, ann0⟩,
  ⟨(some 38), (Op.move (Operand.tmp 9)), none, ann0⟩,
  ⟨(some 39), (Op.move (Operand.tmp 0)), none, ann0⟩,
  ⟨(some 40), (Op.move (Operand.tmp 9)), none, ann0⟩,
  ⟨(some 41), (Op.binOp BinOp.sub 3 (Operand.tmp 40) (Operand.const (Value.int IntKind.i64 1)) 3), none, ann0⟩,
  ⟨(some 42), (Op.move (Operand.tmp 0)), none, ann0⟩,
  ⟨(some 43), (Op.move (Operand.tmp 9)), none, ann0⟩,
  ⟨(some 44), (Op.binOp BinOp.sub 3 (Operand.tmp 43) (Operand.const (Value.int IntKind.i64 1)) 3), none, ann0⟩,
  ⟨(some 45), (Op.indexAddr 26 (Operand.tmp 42) (Operand.tmp 44)), none, ann0⟩,
  ⟨(some 46), (Op.load 25 (Operand.tmp 45)), none, ann0⟩,
  ⟨(some 47), (Op.move (Operand.tmp 0)), none, ann0⟩,
  ⟨(some 48), (Op.move (Operand.tmp 9)), none, ann0⟩,
  ⟨(some 49), (Op.indexAddr 26 (Operand.tmp 47) (Operand.tmp 48)), none, ann0⟩,
  ⟨(some 50), (Op.load 25 (Operand.tmp 49)), none, ann0⟩,
  ⟨(some 51), (Op.indexAddr 26 (Operand.tmp 37) (Operand.tmp 38)), none, ann0⟩,
  ⟨none, (Op.store 25 (Operand.tmp 51) (Operand.tmp 46)), none, ann0⟩,
  ⟨(some 52), (Op.indexAddr 26 (Operand.tmp 39) (Operand.tmp 41)), none, ann0⟩,
  ⟨none, (Op.store 25 (Operand.tmp 52) (Operand.tmp 50)), none, ann0⟩] (some [0, 0, 0, 0, 8, 0, 0, 64, 224, 480, 0, 0, 3072, 7168, 16355, 32739, 65535, 131071]))) (.tidy [0, 1, 2, 3, 8, 9] z (z + 0)))
 (.reg [⟨(some 35), (Op.move (Operand.tmp 9)), none, ann0⟩,
  ⟨(some 36), (Op.binOp BinOp.sub 3 (Operand.tmp 35) (Operand.const (Value.int IntKind.i64 1)) 3), none, ann0⟩,
  ⟨(some 9), (Op.assign (Operand.tmp 36)), none, ann0⟩] none))) (.tidy [0, 1, 2, 3, 8, 9] z (z + 0))
def s69_2 (z : Nat) : SC := c69_2 z
theorem e69_2 {C : Pg} {z : Nat} {st : St} {ks : List Fr} {K : Ex → St → Prop} : wpk C (s69_2 z) st ks K ↔ wpk C (c69_2 z) st ks K := Iff.rfl
def c69_1 (z : Nat) : SC := .post (.seq (.post (.seq (.reg [⟨(some 12), (Op.move (Operand.tmp 8)), none, ann0⟩,
  ⟨(some 13), (Op.move (Operand.tmp 2)), none, ann0⟩,
  ⟨(some 14), (Op.binOp BinOp.lss 3 (Operand.tmp 12) (Operand.tmp 13) 3), none, ann0⟩] none)
 (.cond (Operand.tmp 14) .skip
 (.exit 0))) (.tidy [0, 1, 2, 3, 8] z (z + 0)))
 (.seq (.post (.block 1 (.seq (.reg [⟨(some 17), (Op.move (Operand.tmp 8)), none, ann0⟩,
  ⟨(some 9), (Op.assign (Operand.tmp 17)), none, ann0⟩] none)
 (.post (.block 2 (.pre (.tidy [0, 1, 2, 3, 8, 9] z (z + 0)) (.loop (s69_2 z)))) (.tidy [0, 1, 2, 3, 8] z (z + 0))))) (.tidy [0, 1, 2, 3, 8] z (z + 0)))
 (.reg [⟨(some 15), (Op.move (Operand.tmp 8)), none, ann0⟩,
  ⟨(some 16), (Op.binOp BinOp.add 3 (Operand.tmp 15) (Operand.const (Value.int IntKind.i64 1)) 3), none, ann0⟩,
  ⟨(some 8), (Op.assign (Operand.tmp 16)), none, ann0⟩] none))) (.tidy [0, 1, 2, 3, 8] z (z + 0))
def s69_1 (z : Nat) : SC := c69_1 z
theorem e69_1 {C : Pg} {z : Nat} {st : St} {ks : List Fr} {K : Ex → St → Prop} : wpk C (s69_1 z) st ks K ↔ wpk C (c69_1 z) st ks K := Iff.rfl
def s69 (z : Nat) : SFn := ⟨4, 53, [],
 (.seq (.reg [⟨(some 10), (Op.move (Operand.tmp 1)), none, ann0⟩,
  ⟨(some 11), (Op.binOp BinOp.add 3 (Operand.tmp 10) (Operand.const (Value.int IntKind.i64 1)) 3), none, ann0⟩,
  ⟨(some 8), (Op.assign (Operand.tmp 11)), none, ann0⟩] none)
 (.post (.block 0 (.pre (.tidy [0, 1, 2, 3, 8] z (z + 0)) (.loop (s69_1 z)))) (.tidy [] z (z + 0))))⟩
theorem F69 (z : Nat) : FOk Try.prog 69 (s69 z) := by unfold FOk; kernel_rfl
def c70_1 (z : Nat) : SC := .post (.seq (.seq (.reg [⟨(some 20), (Op.move (Operand.tmp 11)), none, ann0⟩,
  ⟨(some 21), (Op.binOp BinOp.geq 3 (Operand.tmp 20) (Operand.const (Value.int IntKind.i64 0)) 3), none, ann0⟩] none)
 (.cond (Operand.tmp 21) .skip
 (.exit 0)))
 (.seq (.post (.block 1 (.reg [⟨(some 24), (Op.move (Operand.tmp 0)), none, ann0⟩,
  ⟨(some 25), (Op.move (Operand.tmp 11)), none, ann0⟩,
  ⟨(some 26), (Op.move (Operand.tmp 10)), none, ann0⟩,
  ⟨(some 27), (Op.move (Operand.tmp 8)), none, ann0⟩,
  ⟨(some 28), (Op.move (Operand.tmp 3)), none, ann0⟩,
  ⟨(some 29), (Op.call { callee := (Callee.value (Operand.func 82)), args := #[(Operand.tmp 24), (Operand.tmp 25), (Operand.tmp 26), (Operand.tmp 27), (Operand.tmp 28)], argTypes := #[26, 3, 3, 3, 82] }), none, ann0⟩] none)) (.tidy [0, 3, 8, 9, 10, 11] z (z + 0)))
 (.reg [⟨(some 22), (Op.move (Operand.tmp 11)), none, ann0⟩,
  ⟨(some 23), (Op.binOp BinOp.sub 3 (Operand.tmp 22) (Operand.const (Value.int IntKind.i64 1)) 3), none, ann0⟩,
  ⟨(some 11), (Op.assign (Operand.tmp 23)), none, ann0⟩] none))) (.tidy [0, 3, 8, 9, 10, 11] z (z + 0))
def s70_1 (z : Nat) : SC := c70_1 z
theorem e70_1 {C : Pg} {z : Nat} {st : St} {ks : List Fr} {K : Ex → St → Prop} : wpk C (s70_1 z) st ks K ↔ wpk C (c70_1 z) st ks K := Iff.rfl
def c70_2 (z : Nat) : SC := .post (.seq (.seq (.reg [⟨(some 32), (Op.move (Operand.tmp 12)), none, ann0⟩,
  ⟨(some 33), (Op.binOp BinOp.geq 3 (Operand.tmp 32) (Operand.const (Value.int IntKind.i64 0)) 3), none, ann0⟩] none)
 (.cond (Operand.tmp 33) .skip
 (.exit 2)))
 (.seq (.post (.block 3 (.seq (.post (.reg [⟨(some 36), (Op.move (Operand.tmp 0)), none, ann0⟩,
  ⟨(some 37), (Op.move (Operand.tmp 8)), none, ann0⟩,
  ⟨(some 38), (Op.move (Operand.tmp 0)), none, ann0⟩,
  ⟨(some 39), (Op.move (Operand.tmp 8)), none, ann0⟩,
  ⟨(some 40), (Op.move (Operand.tmp 12)), none, ann0⟩,
  ⟨(some 41), (Op.binOp BinOp.add 3 (Operand.tmp 39) (Operand.tmp 40) 3), none, ann0⟩,
  ⟨(some 42), (Op.move (Operand.tmp 0)), none, ann0⟩,
  ⟨(some 43), (Op.move (Operand.tmp 8)), none, ann0⟩,
  ⟨(some 44), (Op.move (Operand.tmp 12)), none, ann0⟩,
  ⟨(some 45), (Op.binOp BinOp.add 3 (Operand.tmp 43) (Operand.tmp 44) 3), none, ann0⟩,
  ⟨(some 46), (Op.indexAddr 26 (Operand.tmp 42) (Operand.tmp 45)), none, ann0⟩,
  ⟨(some 47), (Op.load 25 (Operand.tmp 46)), none, ann0⟩,
  ⟨(some 48), (Op.move (Operand.tmp 0)), none, ann0⟩,
  ⟨(some 49), (Op.move (Operand.tmp 8)), none, ann0⟩,
  ⟨(some 50), (Op.indexAddr 26 (Operand.tmp 48) (Operand.tmp 49)), none, ann0⟩,
  ⟨(some 51), (Op.load 25 (Operand.tmp 50)), none, ann0⟩,
  ⟨(some 52), (Op.indexAddr 26 (Operand.tmp 36) (Operand.tmp 37)), none, ann0⟩,
  ⟨none, (Op.store 25 (Operand.tmp 52) (Operand.tmp 47)), none, ann0⟩,
  ⟨(some 53), (Op.indexAddr 26 (Operand.tmp 38) (Operand.tmp 41)), none, ann0⟩,
  ⟨none, (Op.store 25 (Operand.tmp 53) (Operand.tmp 51)), none, ann0⟩] (some [0, 0, 0, 0, 0, 24, 0, 0, 0, 384, 960, 1984, 0, 0, 12288, 28672, 65475, 131011, 262143, 524287])) (.tidy [0, 3, 8, 9, 12] z (z + 0)))
 (.reg [⟨(some 54), (Op.move (Operand.tmp 0)), none, ann0⟩,
  ⟨(some 55), (Op.move (Operand.tmp 9)), none, ann0⟩,
  ⟨(some 56), (Op.move (Operand.tmp 12)), none, ann0⟩,
  ⟨(some 57), (Op.move (Operand.tmp 8)), none, ann0⟩,
  ⟨(some 58), (Op.move (Operand.tmp 3)), none, ann0⟩,
  ⟨(some 59), (Op.call { callee := (Callee.value (Operand.func 82)), args := #[(Operand.tmp 54), (Operand.tmp 55), (Operand.tmp 56), (Operand.tmp 57), (Operand.tmp 58)], argTypes := #[26, 3, 3, 3, 82] }), none, ann0⟩] none))) (.tidy [0, 3, 8, 9, 12] z (z + 0)))
 (.reg [⟨(some 34), (Op.move (Operand.tmp 12)), none, ann0⟩,
  ⟨(some 35), (Op.binOp BinOp.sub 3 (Operand.tmp 34) (Operand.const (Value.int IntKind.i64 1)) 3), none, ann0⟩,
  ⟨(some 12), (Op.assign (Operand.tmp 35)), none, ann0⟩] none))) (.tidy [0, 3, 8, 9, 12] z (z + 0))
def s70_2 (z : Nat) : SC := c70_2 z
theorem e70_2 {C : Pg} {z : Nat} {st : St} {ks : List Fr} {K : Ex → St → Prop} : wpk C (s70_2 z) st ks K ↔ wpk C (c70_2 z) st ks K := Iff.rfl
def s70 (z : Nat) : SFn := ⟨4, 60, [],
 (.seq (.reg [⟨(some 13), (Op.move (Operand.tmp 1)), none, ann0⟩,
  ⟨(some 8), (Op.assign (Operand.tmp 13)), none, ann0⟩] none)
 (.seq (.reg [⟨(some 9), (Op.assign (Operand.const (Value.int IntKind.i64 0))), none, ann0⟩] none)
 (.seq (.reg [⟨(some 14), (Op.move (Operand.tmp 2)), none, ann0⟩,
  ⟨(some 15), (Op.move (Operand.tmp 1)), none, ann0⟩,
  ⟨(some 16), (Op.binOp BinOp.sub 3 (Operand.tmp 14) (Operand.tmp 15) 3), none, ann0⟩,
  ⟨(some 10), (Op.assign (Operand.tmp 16)), none, ann0⟩] none)
 (.seq (.post (.seq (.post (.reg [⟨(some 17), (Op.move (Operand.tmp 10)), none, ann0⟩,
  ⟨(some 18), (Op.binOp BinOp.sub 3 (Operand.tmp 17) (Operand.const (Value.int IntKind.i64 1)) 3), none, ann0⟩,
  ⟨(some 19), (Op.binOp BinOp.quo 3 (Operand.tmp 18) (Operand.const (Value.int IntKind.i64 2)) 3), none, ann0⟩,
  ⟨(some 11), (Op.assign (Operand.tmp 19)), none, ann0⟩] none) (.tidy [0, 3, 8, 9, 10, 11] z (z + 0)))
 (.post (.block 0 (.pre (.tidy [0, 3, 8, 9, 10, 11] z (z + 0)) (.loop (s70_1 z)))) (.tidy [0, 3, 8, 9, 10] z (z + 0)))) (.tidy [0, 3, 8, 9, 10] z (z + 0)))
 (.seq (.reg [⟨(some 30), (Op.move (Operand.tmp 10)), none, ann0⟩,
  ⟨(some 31), (Op.binOp BinOp.sub 3 (Operand.tmp 30) (Operand.const (Value.int IntKind.i64 1)) 3), none, ann0⟩,
  ⟨(some 12), (Op.assign (Operand.tmp 31)), none, ann0⟩] none)
 (.post (.block 2 (.pre (.tidy [0, 3, 8, 9, 12] z (z + 0)) (.loop (s70_2 z)))) (.tidy [] z (z + 0))))))))⟩
theorem F70 (z : Nat) : FOk Try.prog 70 (s70 z) := by unfold FOk; kernel_rfl
def c71_1 (z : Nat) : SC := .post (.seq (.post (.seq (.post (.reg [⟨(some 28), (Op.move (Operand.tmp 11)), none, ann0⟩,
  ⟨(some 29), (Op.move (Operand.tmp 1)), none, ann0⟩,
  ⟨(some 30), (Op.move (Operand.tmp 8)), none, ann0⟩,
  ⟨(some 31), (Op.binOp BinOp.quo 3 (Operand.tmp 30) (Operand.const (Value.int IntKind.i64 4)) 3), none, ann0⟩,
  ⟨(some 32), (Op.binOp BinOp.mul 3 (Operand.tmp 31) (Operand.const (Value.int IntKind.i64 2)) 3), none, ann0⟩,
  ⟨(some 33), (Op.binOp BinOp.add 3 (Operand.tmp 29) (Operand.tmp 32) 3), none, ann0⟩,
  ⟨(some 34), (Op.binOp BinOp.add 3 (Operand.tmp 33) (Operand.const (Value.int IntKind.i64 1)) 3), none, ann0⟩,
  ⟨(some 35), (Op.binOp BinOp.leq 3 (Operand.tmp 28) (Operand.tmp 34) 3), none, ann0⟩] none) (.tidy [0, 1, 8, 9, 10, 11, 35] z (z + 1)))
 (.cond (Operand.tmp 35) .skip
 (.exit 0))) (.tidy [0, 1, 8, 9, 10, 11] z (z + 1)))
 (.seq (.post (.block 1 (.seq (.reg [⟨(some 38), (Op.call { callee := (Callee.value (Operand.func 79)), args := #[(Operand.tmp 9)], argTypes := #[104] }), none, ann0⟩,
  ⟨(some 39), (Op.move (Operand.tmp 10)), none, ann0⟩,
  ⟨(some 40), (Op.binOp BinOp.sub 85 (Operand.tmp 39) (Operand.const (Value.int IntKind.u64 1)) 85), none, ann0⟩,
  ⟨(some 41), (Op.binOp BinOp.and 85 (Operand.tmp 38) (Operand.tmp 40) 85), none, ann0⟩,
  ⟨(some 42), (Op.convert 85 3 (Operand.tmp 41)), none, ann0⟩,
  ⟨(some 12), (Op.assign (Operand.tmp 42)), none, ann0⟩] none)
 (.seq (.post (.seq (.post (.reg [⟨(some 43), (Op.move (Operand.tmp 12)), none, ann0⟩,
  ⟨(some 44), (Op.move (Operand.tmp 8)), none, ann0⟩,
  ⟨(some 45), (Op.binOp BinOp.geq 3 (Operand.tmp 43) (Operand.tmp 44) 3), none, ann0⟩] none) (.tidy [0, 1, 8, 9, 10, 11, 12, 45] z (z + 1)))
 (.cond (Operand.tmp 45) (.reg [⟨(some 46), (Op.move (Operand.tmp 12)), none, ann0⟩,
  ⟨(some 47), (Op.move (Operand.tmp 8)), none, ann0⟩,
  ⟨(some 48), (Op.binOp BinOp.sub 3 (Operand.tmp 46) (Operand.tmp 47) 3), none, ann0⟩,
  ⟨(some 12), (Op.assign (Operand.tmp 48)), none, ann0⟩] none)
 .skip)) (.tidy [0, 1, 8, 9, 10, 11, 12] z (z + 1)))
 (.reg [⟨(some 49), (Op.move (Operand.tmp 0)), none, ann0⟩,
  ⟨(some 50), (Op.move (Operand.tmp 11)), none, ann0⟩,
  ⟨(some 51), (Op.move (Operand.tmp 0)), none, ann0⟩,
  ⟨(some 52), (Op.move (Operand.tmp 1)), none, ann0⟩,
  ⟨(some 53), (Op.move (Operand.tmp 12)), none, ann0⟩,
  ⟨(some 54), (Op.binOp BinOp.add 3 (Operand.tmp 52) (Operand.tmp 53) 3), none, ann0⟩,
  ⟨(some 55), (Op.move (Operand.tmp 0)), none, ann0⟩,
  ⟨(some 56), (Op.move (Operand.tmp 1)), none, ann0⟩,
  ⟨(some 57), (Op.move (Operand.tmp 12)), none, ann0⟩,
  ⟨(some 58), (Op.binOp BinOp.add 3 (Operand.tmp 56) (Operand.tmp 57) 3), none, ann0⟩,
  ⟨(some 59), (Op.indexAddr 26 (Operand.tmp 55) (Operand.tmp 58)), none, ann0⟩,
  ⟨(some 60), (Op.load 25 (Operand.tmp 59)), none, ann0⟩,
  ⟨(some 61), (Op.move (Operand.tmp 0)), none, ann0⟩,
  ⟨(some 62), (Op.move (Operand.tmp 11)), none, ann0⟩,
  ⟨(some 63), (Op.indexAddr 26 (Operand.tmp 61) (Operand.tmp 62)), none, ann0⟩,
  ⟨(some 64), (Op.load 25 (Operand.tmp 63)), none, ann0⟩,
  ⟨(some 65), (Op.indexAddr 26 (Operand.tmp 49) (Operand.tmp 50)), none, ann0⟩,
  ⟨none, (Op.store 25 (Operand.tmp 65) (Operand.tmp 60)), none, ann0⟩,
  ⟨(some 66), (Op.indexAddr 26 (Operand.tmp 51) (Operand.tmp 54)), none, ann0⟩,
  ⟨none, (Op.store 25 (Operand.tmp 66) (Operand.tmp 64)), none, ann0⟩] (some [0, 0, 0, 0, 0, 24, 0, 0, 0, 384, 960, 1984, 0, 0, 12288, 28672, 65475, 131011, 262143, 524287]))))) (.tidy [0, 1, 8, 9, 10, 11] z (z + 1)))
 (.reg [⟨(some 36), (Op.move (Operand.tmp 11)), none, ann0⟩,
  ⟨(some 37), (Op.binOp BinOp.add 3 (Operand.tmp 36) (Operand.const (Value.int IntKind.i64 1)) 3), none, ann0⟩,
  ⟨(some 11), (Op.assign (Operand.tmp 37)), none, ann0⟩] none))) (.tidy [0, 1, 8, 9, 10, 11] z (z + 1))
def s71_1 (z : Nat) : SC := c71_1 z
theorem e71_1 {C : Pg} {z : Nat} {st : St} {ks : List Fr} {K : Ex → St → Prop} : wpk C (s71_1 z) st ks K ↔ wpk C (c71_1 z) st ks K := Iff.rfl
def s71 (z : Nat) : SFn := ⟨4, 67, [],
 (.seq (.reg [⟨(some 13), (Op.move (Operand.tmp 2)), none, ann0⟩,
  ⟨(some 14), (Op.move (Operand.tmp 1)), none, ann0⟩,
  ⟨(some 15), (Op.binOp BinOp.sub 3 (Operand.tmp 13) (Operand.tmp 14) 3), none, ann0⟩,
  ⟨(some 8), (Op.assign (Operand.tmp 15)), none, ann0⟩] none)
 (.seq (.reg [⟨(some 16), (Op.move (Operand.tmp 8)), none, ann0⟩,
  ⟨(some 17), (Op.binOp BinOp.geq 3 (Operand.tmp 16) (Operand.const (Value.int IntKind.i64 8)) 3), none, ann0⟩] none)
 (.cond (Operand.tmp 17) (.seq (.post (.reg [⟨(some 18), (Op.move (Operand.tmp 8)), none, ann0⟩,
  ⟨(some 19), (Op.convert 3 104 (Operand.tmp 18)), none, ann0⟩,
  ⟨(some 9), (Op.alloc 104), none, ⟨1, false, false⟩⟩,
  ⟨none, (Op.store 104 (Operand.tmp 9) (Operand.tmp 19)), none, ann0⟩] none) (.tidy [0, 1, 8, 9] z (z + 1)))
 (.seq (.reg [⟨(some 20), (Op.move (Operand.tmp 8)), none, ann0⟩,
  ⟨(some 21), (Op.call { callee := (Callee.value (Operand.func 78)), args := #[(Operand.tmp 20)], argTypes := #[3] }), none, ann0⟩,
  ⟨(some 10), (Op.assign (Operand.tmp 21)), none, ann0⟩] none)
 (.seq (.post (.reg [⟨(some 22), (Op.move (Operand.tmp 1)), none, ann0⟩,
  ⟨(some 23), (Op.move (Operand.tmp 8)), none, ann0⟩,
  ⟨(some 24), (Op.binOp BinOp.quo 3 (Operand.tmp 23) (Operand.const (Value.int IntKind.i64 4)) 3), none, ann0⟩,
  ⟨(some 25), (Op.binOp BinOp.mul 3 (Operand.tmp 24) (Operand.const (Value.int IntKind.i64 2)) 3), none, ann0⟩,
  ⟨(some 26), (Op.binOp BinOp.add 3 (Operand.tmp 22) (Operand.tmp 25) 3), none, ann0⟩,
  ⟨(some 27), (Op.binOp BinOp.sub 3 (Operand.tmp 26) (Operand.const (Value.int IntKind.i64 1)) 3), none, ann0⟩,
  ⟨(some 11), (Op.assign (Operand.tmp 27)), none, ann0⟩] none) (.tidy [0, 1, 8, 9, 10, 11] z (z + 1)))
 (.post (.block 0 (.pre (.tidy [0, 1, 8, 9, 10, 11] z (z + 1)) (.loop (s71_1 z)))) (.tidy [] z (z + 1))))))
 .skip)))⟩
theorem F71 (z : Nat) : FOk Try.prog 71 (s71 z) := by unfold FOk; kernel_rfl
def s72 (z : Nat) : SFn := ⟨4, 63, [(ResultVar.tmp 8), (ResultVar.tmp 9)],
 (.seq (.reg [⟨(some 8), (Op.assign (Operand.const (Value.int IntKind.i64 0))), none, ann0⟩,
  ⟨(some 9), (Op.assign (Operand.const (Value.int IntKind.i64 0))), none, ann0⟩] none)
 (.seq (.reg [⟨(some 15), (Op.move (Operand.tmp 2)), none, ann0⟩,
  ⟨(some 16), (Op.move (Operand.tmp 1)), none, ann0⟩,
  ⟨(some 17), (Op.binOp BinOp.sub 3 (Operand.tmp 15) (Operand.tmp 16) 3), none, ann0⟩,
  ⟨(some 10), (Op.assign (Operand.tmp 17)), none, ann0⟩] none)
 (.seq (.reg [⟨(some 11), (Op.alloc 3), none, ⟨1, false, false⟩⟩] none)
 (.seq (.post (.reg [⟨(some 18), (Op.move (Operand.tmp 1)), none, ann0⟩,
  ⟨(some 19), (Op.move (Operand.tmp 10)), none, ann0⟩,
  ⟨(some 20), (Op.binOp BinOp.quo 3 (Operand.tmp 19) (Operand.const (Value.int IntKind.i64 4)) 3), none, ann0⟩,
  ⟨(some 21), (Op.binOp BinOp.mul 3 (Operand.tmp 20) (Operand.const (Value.int IntKind.i64 1)) 3), none, ann0⟩,
  ⟨(some 22), (Op.binOp BinOp.add 3 (Operand.tmp 18) (Operand.tmp 21) 3), none, ann0⟩,
  ⟨(some 12), (Op.assign (Operand.tmp 22)), none, ann0⟩] none) (.tidy [0, 1, 3, 10, 11, 12] z (z + 1)))
 (.seq (.reg [⟨(some 23), (Op.move (Operand.tmp 1)), none, ann0⟩,
  ⟨(some 24), (Op.move (Operand.tmp 10)), none, ann0⟩,
  ⟨(some 25), (Op.binOp BinOp.quo 3 (Operand.tmp 24) (Operand.const (Value.int IntKind.i64 4)) 3), none, ann0⟩,
  ⟨(some 26), (Op.binOp BinOp.mul 3 (Operand.tmp 25) (Operand.const (Value.int IntKind.i64 2)) 3), none, ann0⟩,
  ⟨(some 27), (Op.binOp BinOp.add 3 (Operand.tmp 23) (Operand.tmp 26) 3), none, ann0⟩,
  ⟨(some 13), (Op.assign (Operand.tmp 27)), none, ann0⟩] none)
 (.seq (.post (.reg [⟨(some 28), (Op.move (Operand.tmp 1)), none, ann0⟩,
  ⟨(some 29), (Op.move (Operand.tmp 10)), none, ann0⟩,
  ⟨(some 30), (Op.binOp BinOp.quo 3 (Operand.tmp 29) (Operand.const (Value.int IntKind.i64 4)) 3), none, ann0⟩,
  ⟨(some 31), (Op.binOp BinOp.mul 3 (Operand.tmp 30) (Operand.const (Value.int IntKind.i64 3)) 3), none, ann0⟩,
  ⟨(some 32), (Op.binOp BinOp.add 3 (Operand.tmp 28) (Operand.tmp 31) 3), none, ann0⟩,
  ⟨(some 14), (Op.assign (Operand.tmp 32)), none, ann0⟩] none) (.tidy [0, 3, 10, 11, 12, 13, 14] z (z + 1)))
 (.seq (.post (.seq (.reg [⟨(some 33), (Op.move (Operand.tmp 10)), none, ann0⟩,
  ⟨(some 34), (Op.binOp BinOp.geq 3 (Operand.tmp 33) (Operand.const (Value.int IntKind.i64 8)) 3), none, ann0⟩] none)
 (.cond (Operand.tmp 34) (.seq (.post (.seq (.reg [⟨(some 35), (Op.move (Operand.tmp 10)), none, ann0⟩,
  ⟨(some 36), (Op.binOp BinOp.geq 3 (Operand.tmp 35) (Operand.const (Value.int IntKind.i64 50)) 3), none, ann0⟩] none)
 (.cond (Operand.tmp 36) (.seq (.post (.reg [⟨(some 37), (Op.move (Operand.tmp 0)), none, ann0⟩,
  ⟨(some 38), (Op.move (Operand.tmp 12)), none, ann0⟩,
  ⟨(some 39), (Op.move (Operand.tmp 3)), none, ann0⟩,
  ⟨(some 40), (Op.call { callee := (Callee.value (Operand.func 83)), args := #[(Operand.tmp 37), (Operand.tmp 38), (Operand.tmp 11), (Operand.tmp 39)], argTypes := #[26, 3, 108, 82] }), none, ann0⟩,
  ⟨(some 12), (Op.assign (Operand.tmp 40)), none, ann0⟩] none) (.tidy [0, 3, 11, 12, 13, 14] z (z + 1)))
 (.seq (.reg [⟨(some 41), (Op.move (Operand.tmp 0)), none, ann0⟩,
  ⟨(some 42), (Op.move (Operand.tmp 13)), none, ann0⟩,
  ⟨(some 43), (Op.move (Operand.tmp 3)), none, ann0⟩,
  ⟨(some 44), (Op.call { callee := (Callee.value (Operand.func 83)), args := #[(Operand.tmp 41), (Operand.tmp 42), (Operand.tmp 11), (Operand.tmp 43)], argTypes := #[26, 3, 108, 82] }), none, ann0⟩,
  ⟨(some 13), (Op.assign (Operand.tmp 44)), none, ann0⟩] none)
 (.reg [⟨(some 45), (Op.move (Operand.tmp 0)), none, ann0⟩,
  ⟨(some 46), (Op.move (Operand.tmp 14)), none, ann0⟩,
  ⟨(some 47), (Op.move (Operand.tmp 3)), none, ann0⟩,
  ⟨(some 48), (Op.call { callee := (Callee.value (Operand.func 83)), args := #[(Operand.tmp 45), (Operand.tmp 46), (Operand.tmp 11), (Operand.tmp 47)], argTypes := #[26, 3, 108, 82] }), none, ann0⟩,
  ⟨(some 14), (Op.assign (Operand.tmp 48)), none, ann0⟩] none)))
 .skip)) (.tidy [0, 3, 11, 12, 13, 14] z (z + 1)))
 (.reg [⟨(some 49), (Op.move (Operand.tmp 0)), none, ann0⟩,
  ⟨(some 50), (Op.move (Operand.tmp 12)), none, ann0⟩,
  ⟨(some 51), (Op.move (Operand.tmp 13)), none, ann0⟩,
  ⟨(some 52), (Op.move (Operand.tmp 14)), none, ann0⟩,
  ⟨(some 53), (Op.move (Operand.tmp 3)), none, ann0⟩,
  ⟨(some 54), (Op.call { callee := (Callee.value (Operand.func 84)), args := #[(Operand.tmp 49), (Operand.tmp 50), (Operand.tmp 51), (Operand.tmp 52), (Operand.tmp 11), (Operand.tmp 53)], argTypes := #[26, 3, 3, 3, 108, 82] }), none, ann0⟩,
  ⟨(some 13), (Op.assign (Operand.tmp 54)), none, ann0⟩] none))
 .skip)) (.tidy [11, 13] z (z + 1)))
 (.seq (.reg [⟨(some 55), (Op.load 3 (Operand.tmp 11)), none, ann0⟩] none)
 (.block 0 (.seq (.reg [⟨(some 58), (Op.binOp BinOp.eql 3 (Operand.tmp 55) (Operand.const (Value.int IntKind.i64 0)) 3), none, ann0⟩,
  ⟨(some 57), (Op.assign (Operand.tmp 58)), none, ann0⟩] none)
 (.cond (Operand.tmp 57) (.seq (.reg [⟨(some 59), (Op.move (Operand.tmp 13)), none, ann0⟩,
  ⟨(some 8), (Op.assign (Operand.tmp 59)), none, ann0⟩,
  ⟨(some 9), (Op.assign (Operand.const (Value.int IntKind.i64 1))), none, ann0⟩] none)
 .ret)
 (.seq (.reg [⟨(some 61), (Op.binOp BinOp.eql 3 (Operand.tmp 55) (Operand.const (Value.int IntKind.i64 12)) 3), none, ann0⟩,
  ⟨(some 60), (Op.assign (Operand.tmp 61)), none, ann0⟩] none)
 (.cond (Operand.tmp 60) (.seq (.reg [⟨(some 62), (Op.move (Operand.tmp 13)), none, ann0⟩,
  ⟨(some 8), (Op.assign (Operand.tmp 62)), none, ann0⟩,
  ⟨(some 9), (Op.assign (Operand.const (Value.int IntKind.i64 2))), none, ann0⟩] none)
 .ret)
 (.seq (.reg [⟨(some 56), (Op.move (Operand.tmp 13)), none, ann0⟩,
  ⟨(some 8), (Op.assign (Operand.tmp 56)), none, ann0⟩,
  ⟨(some 9), (Op.assign (Operand.const (Value.int IntKind.i64 0))), none, ann0⟩] none)
 .ret))))))))))))))⟩
theorem F72 (z : Nat) : FOk Try.prog 72 (s72 z) := by unfold FOk; kernel_rfl
def c73_1 (z : Nat) : SC := .post (.seq (.post (.seq (.reg [⟨(some 13), (Op.move (Operand.tmp 8)), none, ann0⟩,
  ⟨(some 14), (Op.move (Operand.tmp 9)), none, ann0⟩,
  ⟨(some 15), (Op.binOp BinOp.lss 3 (Operand.tmp 13) (Operand.tmp 14) 3), none, ann0⟩] none)
 (.cond (Operand.tmp 15) .skip
 (.exit 0))) (.tidy [0, 8, 9] z (z + 0)))
 (.block 1 (.seq (.post (.reg [⟨(some 16), (Op.move (Operand.tmp 0)), none, ann0⟩,
  ⟨(some 17), (Op.move (Operand.tmp 8)), none, ann0⟩,
  ⟨(some 18), (Op.move (Operand.tmp 0)), none, ann0⟩,
  ⟨(some 19), (Op.move (Operand.tmp 9)), none, ann0⟩,
  ⟨(some 20), (Op.move (Operand.tmp 0)), none, ann0⟩,
  ⟨(some 21), (Op.move (Operand.tmp 9)), none, ann0⟩,
  ⟨(some 22), (Op.indexAddr 26 (Operand.tmp 20) (Operand.tmp 21)), none, ann0⟩,
  ⟨(some 23), (Op.load 25 (Operand.tmp 22)), none, ann0⟩,
  ⟨(some 24), (Op.move (Operand.tmp 0)), none, ann0⟩,
  ⟨(some 25), (Op.move (Operand.tmp 8)), none, ann0⟩,
  ⟨(some 26), (Op.indexAddr 26 (Operand.tmp 24) (Operand.tmp 25)), none, ann0⟩,
  ⟨(some 27), (Op.load 25 (Operand.tmp 26)), none, ann0⟩,
  ⟨(some 28), (Op.indexAddr 26 (Operand.tmp 16) (Operand.tmp 17)), none, ann0⟩,
  ⟨none, (Op.store 25 (Operand.tmp 28) (Operand.tmp 23)), none, ann0⟩,
  ⟨(some 29), (Op.indexAddr 26 (Operand.tmp 18) (Operand.tmp 19)), none, ann0⟩,
  ⟨none, (Op.store 25 (Operand.tmp 29) (Operand.tmp 27)), none, ann0⟩] (some [0, 0, 0, 0, 0, 0, 48, 112, 0, 0, 768, 1792, 4083, 8179, 16383, 32767])) (.tidy [0, 8, 9] z (z + 0)))
 (.seq (.reg [⟨(some 30), (Op.move (Operand.tmp 8)), none, ann0⟩,
  ⟨(some 31), (Op.binOp BinOp.add 3 (Operand.tmp 30) (Operand.const (Value.int IntKind.i64 1)) 3), none, ann0⟩,
  ⟨(some 8), (Op.assign (Operand.tmp 31)), none, ann0⟩] none)
 (.reg [⟨(some 32), (Op.move (Operand.tmp 9)), none, ann0⟩,
  ⟨(some 33), (Op.binOp BinOp.sub 3 (Operand.tmp 32) (Operand.const (Value.int IntKind.i64 1)) 3), none, ann0⟩,
  ⟨(some 9), (Op.assign (Operand.tmp 33)), none, ann0⟩] none))))) (.tidy [0, 8, 9] z (z + 0))
def s73_1 (z : Nat) : SC := c73_1 z
theorem e73_1 {C : Pg} {z : Nat} {st : St} {ks : List Fr} {K : Ex → St → Prop} : wpk C (s73_1 z) st ks K ↔ wpk C (c73_1 z) st ks K := Iff.rfl
def s73 (z : Nat) : SFn := ⟨4, 34, [],
 (.seq (.reg [⟨(some 10), (Op.move (Operand.tmp 1)), none, ann0⟩,
  ⟨(some 8), (Op.assign (Operand.tmp 10)), none, ann0⟩] none)
 (.seq (.reg [⟨(some 11), (Op.move (Operand.tmp 2)), none, ann0⟩,
  ⟨(some 12), (Op.binOp BinOp.sub 3 (Operand.tmp 11) (Operand.const (Value.int IntKind.i64 1)) 3), none, ann0⟩,
  ⟨(some 9), (Op.assign (Operand.tmp 12)), none, ann0⟩] none)
 (.post (.block 0 (.pre (.tidy [0, 8, 9] z (z + 0)) (.loop (s73_1 z)))) (.tidy [] z (z + 0)))))⟩
theorem F73 (z : Nat) : FOk Try.prog 73 (s73 z) := by unfold FOk; kernel_rfl
def c74_2 (z : Nat) : SC := .post (.seq (.post (.seq (.post (.reg [⟨(some 19), (Op.move (Operand.tmp 9)), none, ann0⟩,
  ⟨(some 20), (Op.move (Operand.tmp 2)), none, ann0⟩,
  ⟨(some 21), (Op.binOp BinOp.lss 3 (Operand.tmp 19) (Operand.tmp 20) 3), none, ann0⟩,
  ⟨(some 22), (Op.move (Operand.tmp 21)), none, ann0⟩,
  ⟨(some 23), (Op.move (Operand.tmp 3)), (some (22, true)), ann0⟩,
  ⟨(some 24), (Op.move (Operand.tmp 0)), (some (22, true)), ann0⟩,
  ⟨(some 25), (Op.move (Operand.tmp 9)), (some (22, true)), ann0⟩,
  ⟨(some 26), (Op.indexAddr 26 (Operand.tmp 24) (Operand.tmp 25)), (some (22, true)), ann0⟩,
  ⟨(some 27), (Op.load 25 (Operand.tmp 26)), (some (22, true)), ann0⟩,
  ⟨(some 28), (Op.move (Operand.tmp 0)), (some (22, true)), ann0⟩,
  ⟨(some 29), (Op.move (Operand.tmp 9)), (some (22, true)), ann0⟩,
  ⟨(some 30), (Op.binOp BinOp.sub 3 (Operand.tmp 29) (Operand.const (Value.int IntKind.i64 1)) 3), (some (22, true)), ann0⟩,
  ⟨(some 31), (Op.indexAddr 26 (Operand.tmp 28) (Operand.tmp 30)), (some (22, true)), ann0⟩,
  ⟨(some 32), (Op.load 25 (Operand.tmp 31)), (some (22, true)), ann0⟩,
  ⟨(some 33), (Op.call { callee := (Callee.value (Operand.tmp 23)), args := #[(Operand.tmp 27), (Operand.tmp 32)], argTypes := #[25, 25] }), (some (22, true)), ann0⟩,
  ⟨(some 34), (Op.binOp BinOp.lss 3 (Operand.tmp 33) (Operand.const (Value.int IntKind.i64 0)) 3), (some (22, true)), ann0⟩,
  ⟨(some 35), (Op.unOp UnOp.not 4 (Operand.tmp 34)), (some (22, true)), ann0⟩,
  ⟨(some 36), (Op.pick (Operand.tmp 22) (Operand.tmp 35) (Operand.const (Value.bool false))), none, ann0⟩] (some [0, 0, 3, 7, 15, 15, 15, 111, 239, 15, 15, 1039, 3599, 7695, 16383, 32767, 65535, 131071])) (.tidy [0, 1, 2, 3, 9, 10, 36] z (z + 0)))
 (.cond (Operand.tmp 36) .skip
 (.exit 2))) (.tidy [0, 1, 2, 3, 9, 10] z (z + 0)))
 (.block 3 (.reg [⟨(some 37), (Op.move (Operand.tmp 9)), none, ann0⟩,
  ⟨(some 38), (Op.binOp BinOp.add 3 (Operand.tmp 37) (Operand.const (Value.int IntKind.i64 1)) 3), none, ann0⟩,
  ⟨(some 9), (Op.assign (Operand.tmp 38)), none, ann0⟩] none))) (.tidy [0, 1, 2, 3, 9, 10] z (z + 0))
def s74_2 (z : Nat) : SC := c74_2 z
theorem e74_2 {C : Pg} {z : Nat} {st : St} {ks : List Fr} {K : Ex → St → Prop} : wpk C (s74_2 z) st ks K ↔ wpk C (c74_2 z) st ks K := Iff.rfl
def c74_3 (z : Nat) : SC := .post (.seq (.seq (.post (.reg [⟨(some 68), (Op.move (Operand.tmp 11)), none, ann0⟩,
  ⟨(some 69), (Op.binOp BinOp.geq 3 (Operand.tmp 68) (Operand.const (Value.int IntKind.i64 1)) 3), none, ann0⟩] none) (.tidy [0, 1, 2, 3, 9, 10, 11, 69] z (z + 0)))
 (.cond (Operand.tmp 69) .skip
 (.exit 4)))
 (.seq (.post (.block 5 (.seq (.post (.seq (.post (.reg [⟨(some 72), (Op.move (Operand.tmp 3)), none, ann0⟩,
  ⟨(some 73), (Op.move (Operand.tmp 0)), none, ann0⟩,
  ⟨(some 74), (Op.move (Operand.tmp 11)), none, ann0⟩,
  ⟨(some 75), (Op.indexAddr 26 (Operand.tmp 73) (Operand.tmp 74)), none, ann0⟩,
  ⟨(some 76), (Op.load 25 (Operand.tmp 75)), none, ann0⟩,
  ⟨(some 77), (Op.move (Operand.tmp 0)), none, ann0⟩,
  ⟨(some 78), (Op.move (Operand.tmp 11)), none, ann0⟩,
  ⟨(some 79), (Op.binOp BinOp.sub 3 (Operand.tmp 78) (Operand.const (Value.int IntKind.i64 1)) 3), none, ann0⟩,
  ⟨(some 80), (Op.indexAddr 26 (Operand.tmp 77) (Operand.tmp 79)), none, ann0⟩,
  ⟨(some 81), (Op.load 25 (Operand.tmp 80)), none, ann0⟩,
  ⟨(some 82), (Op.call { callee := (Callee.value (Operand.tmp 72)), args := #[(Operand.tmp 76), (Operand.tmp 81)], argTypes := #[25, 25] }), none, ann0⟩,
  ⟨(some 83), (Op.binOp BinOp.lss 3 (Operand.tmp 82) (Operand.const (Value.int IntKind.i64 0)) 3), none, ann0⟩,
  ⟨(some 84), (Op.unOp UnOp.not 4 (Operand.tmp 83)), none, ann0⟩] (some [0, 0, 0, 6, 14, 0, 0, 64, 224, 480, 1023, 2047, 4095])) (.tidy [0, 1, 2, 3, 9, 10, 11, 84] z (z + 0)))
 (.cond (Operand.tmp 84) (.exit 4)
 .skip)) (.tidy [0, 1, 2, 3, 9, 10, 11] z (z + 0)))
 (.reg [⟨(some 85), (Op.move (Operand.tmp 0)), none, ann0⟩,
  ⟨(some 86), (Op.move (Operand.tmp 11)), none, ann0⟩,
  ⟨(some 87), (Op.move (Operand.tmp 0)), none, ann0⟩,
  ⟨(some 88), (Op.move (Operand.tmp 11)), none, ann0⟩,
  ⟨(some 89), (Op.binOp BinOp.sub 3 (Operand.tmp 88) (Operand.const (Value.int IntKind.i64 1)) 3), none, ann0⟩,
  ⟨(some 90), (Op.move (Operand.tmp 0)), none, ann0⟩,
  ⟨(some 91), (Op.move (Operand.tmp 11)), none, ann0⟩,
  ⟨(some 92), (Op.binOp BinOp.sub 3 (Operand.tmp 91) (Operand.const (Value.int IntKind.i64 1)) 3), none, ann0⟩,
  ⟨(some 93), (Op.indexAddr 26 (Operand.tmp 90) (Operand.tmp 92)), none, ann0⟩,
  ⟨(some 94), (Op.load 25 (Operand.tmp 93)), none, ann0⟩,
  ⟨(some 95), (Op.move (Operand.tmp 0)), none, ann0⟩,
  ⟨(some 96), (Op.move (Operand.tmp 11)), none, ann0⟩,
  ⟨(some 97), (Op.indexAddr 26 (Operand.tmp 95) (Operand.tmp 96)), none, ann0⟩,
  ⟨(some 98), (Op.load 25 (Operand.tmp 97)), none, ann0⟩,
  ⟨(some 99), (Op.indexAddr 26 (Operand.tmp 85) (Operand.tmp 86)), none, ann0⟩,
  ⟨none, (Op.store 25 (Operand.tmp 99) (Operand.tmp 94)), none, ann0⟩,
  ⟨(some 100), (Op.indexAddr 26 (Operand.tmp 87) (Operand.tmp 89)), none, ann0⟩,
  ⟨none, (Op.store 25 (Operand.tmp 100) (Operand.tmp 98)), none, ann0⟩] (some [0, 0, 0, 0, 8, 0, 0, 64, 224, 480, 0, 0, 3072, 7168, 16355, 32739, 65535, 131071])))) (.tidy [0, 1, 2, 3, 9, 10, 11] z (z + 0)))
 (.reg [⟨(some 70), (Op.move (Operand.tmp 11)), none, ann0⟩,
  ⟨(some 71), (Op.binOp BinOp.sub 3 (Operand.tmp 70) (Operand.const (Value.int IntKind.i64 1)) 3), none, ann0⟩,
  ⟨(some 11), (Op.assign (Operand.tmp 71)), none, ann0⟩] none))) (.tidy [0, 1, 2, 3, 9, 10, 11] z (z + 0))
def s74_3 (z : Nat) : SC := c74_3 z
theorem e74_3 {C : Pg} {z : Nat} {st : St} {ks : List Fr} {K : Ex → St → Prop} : wpk C (s74_3 z) st ks K ↔ wpk C (c74_3 z) st ks K := Iff.rfl
def c74_4 (z : Nat) : SC := .post (.seq (.seq (.post (.reg [⟨(some 107), (Op.move (Operand.tmp 12)), none, ann0⟩,
  ⟨(some 108), (Op.move (Operand.tmp 2)), none, ann0⟩,
  ⟨(some 109), (Op.binOp BinOp.lss 3 (Operand.tmp 107) (Operand.tmp 108) 3), none, ann0⟩] none) (.tidy [0, 1, 2, 3, 9, 10, 12, 109] z (z + 0)))
 (.cond (Operand.tmp 109) .skip
 (.exit 6)))
 (.seq (.post (.block 7 (.seq (.post (.seq (.post (.reg [⟨(some 112), (Op.move (Operand.tmp 3)), none, ann0⟩,
  ⟨(some 113), (Op.move (Operand.tmp 0)), none, ann0⟩,
  ⟨(some 114), (Op.move (Operand.tmp 12)), none, ann0⟩,
  ⟨(some 115), (Op.indexAddr 26 (Operand.tmp 113) (Operand.tmp 114)), none, ann0⟩,
  ⟨(some 116), (Op.load 25 (Operand.tmp 115)), none, ann0⟩,
  ⟨(some 117), (Op.move (Operand.tmp 0)), none, ann0⟩,
  ⟨(some 118), (Op.move (Operand.tmp 12)), none, ann0⟩,
  ⟨(some 119), (Op.binOp BinOp.sub 3 (Operand.tmp 118) (Operand.const (Value.int IntKind.i64 1)) 3), none, ann0⟩,
  ⟨(some 120), (Op.indexAddr 26 (Operand.tmp 117) (Operand.tmp 119)), none, ann0⟩,
  ⟨(some 121), (Op.load 25 (Operand.tmp 120)), none, ann0⟩,
  ⟨(some 122), (Op.call { callee := (Callee.value (Operand.tmp 112)), args := #[(Operand.tmp 116), (Operand.tmp 121)], argTypes := #[25, 25] }), none, ann0⟩,
  ⟨(some 123), (Op.binOp BinOp.lss 3 (Operand.tmp 122) (Operand.const (Value.int IntKind.i64 0)) 3), none, ann0⟩,
  ⟨(some 124), (Op.unOp UnOp.not 4 (Operand.tmp 123)), none, ann0⟩] (some [0, 0, 0, 6, 14, 0, 0, 64, 224, 480, 1023, 2047, 4095])) (.tidy [0, 1, 2, 3, 9, 10, 12, 124] z (z + 0)))
 (.cond (Operand.tmp 124) (.exit 6)
 .skip)) (.tidy [0, 1, 2, 3, 9, 10, 12] z (z + 0)))
 (.reg [⟨(some 125), (Op.move (Operand.tmp 0)), none, ann0⟩,
  ⟨(some 126), (Op.move (Operand.tmp 12)), none, ann0⟩,
  ⟨(some 127), (Op.move (Operand.tmp 0)), none, ann0⟩,
  ⟨(some 128), (Op.move (Operand.tmp 12)), none, ann0⟩,
  ⟨(some 129), (Op.binOp BinOp.sub 3 (Operand.tmp 128) (Operand.const (Value.int IntKind.i64 1)) 3), none, ann0⟩,
  ⟨(some 130), (Op.move (Operand.tmp 0)), none, ann0⟩,
  ⟨(some 131), (Op.move (Operand.tmp 12)), none, ann0⟩,
  ⟨(some 132), (Op.binOp BinOp.sub 3 (Operand.tmp 131) (Operand.const (Value.int IntKind.i64 1)) 3), none, ann0⟩,
  ⟨(some 133), (Op.indexAddr 26 (Operand.tmp 130) (Operand.tmp 132)), none, ann0⟩,
  ⟨(some 134), (Op.load 25 (Operand.tmp 133)), none, ann0⟩,
  ⟨(some 135), (Op.move (Operand.tmp 0)), none, ann0⟩,
  ⟨(some 136), (Op.move (Operand.tmp 12)), none, ann0⟩,
  ⟨(some 137), (Op.indexAddr 26 (Operand.tmp 135) (Operand.tmp 136)), none, ann0⟩,
  ⟨(some 138), (Op.load 25 (Operand.tmp 137)), none, ann0⟩,
  ⟨(some 139), (Op.indexAddr 26 (Operand.tmp 125) (Operand.tmp 126)), none, ann0⟩,
  ⟨none, (Op.store 25 (Operand.tmp 139) (Operand.tmp 134)), none, ann0⟩,
  ⟨(some 140), (Op.indexAddr 26 (Operand.tmp 127) (Operand.tmp 129)), none, ann0⟩,
  ⟨none, (Op.store 25 (Operand.tmp 140) (Operand.tmp 138)), none, ann0⟩] (some [0, 0, 0, 0, 8, 0, 0, 64, 224, 480, 0, 0, 3072, 7168, 16355, 32739, 65535, 131071])))) (.tidy [0, 1, 2, 3, 9, 10, 12] z (z + 0)))
 (.reg [⟨(some 110), (Op.move (Operand.tmp 12)), none, ann0⟩,
  ⟨(some 111), (Op.binOp BinOp.add 3 (Operand.tmp 110) (Operand.const (Value.int IntKind.i64 1)) 3), none, ann0⟩,
  ⟨(some 12), (Op.assign (Operand.tmp 111)), none, ann0⟩] none))) (.tidy [0, 1, 2, 3, 9, 10, 12] z (z + 0))
def s74_4 (z : Nat) : SC := c74_4 z
theorem e74_4 {C : Pg} {z : Nat} {st : St} {ks : List Fr} {K : Ex → St → Prop} : wpk C (s74_4 z) st ks K ↔ wpk C (c74_4 z) st ks K := Iff.rfl
def c74_1 (z : Nat) : SC := .post (.seq (.post (.seq (.reg [⟨(some 15), (Op.move (Operand.tmp 10)), none, ann0⟩,
  ⟨(some 16), (Op.binOp BinOp.lss 3 (Operand.tmp 15) (Operand.const (Value.int IntKind.i64 5)) 3), none, ann0⟩] none)
 (.cond (Operand.tmp 16) .skip
 (.exit 0))) (.tidy [0, 1, 2, 3, 9, 10] z (z + 0)))
 (.seq (.post (.block 1 (.seq (.post (.block 2 (.pre (.tidy [0, 1, 2, 3, 9, 10] z (z + 0)) (.loop (s74_2 z)))) (.tidy [0, 1, 2, 3, 9, 10] z (z + 0)))
 (.seq (.seq (.post (.reg [⟨(some 39), (Op.move (Operand.tmp 9)), none, ann0⟩,
  ⟨(some 40), (Op.move (Operand.tmp 2)), none, ann0⟩,
  ⟨(some 41), (Op.binOp BinOp.eql 3 (Operand.tmp 39) (Operand.tmp 40) 3), none, ann0⟩] none) (.tidy [0, 1, 2, 3, 9, 10, 41] z (z + 0)))
 (.cond (Operand.tmp 41) (.seq (.reg [⟨(some 8), (Op.assign (Operand.const (Value.bool true))), none, ann0⟩] none)
 .ret)
 .skip))
 (.seq (.seq (.post (.reg [⟨(some 42), (Op.move (Operand.tmp 2)), none, ann0⟩,
  ⟨(some 43), (Op.move (Operand.tmp 1)), none, ann0⟩,
  ⟨(some 44), (Op.binOp BinOp.sub 3 (Operand.tmp 42) (Operand.tmp 43) 3), none, ann0⟩,
  ⟨(some 45), (Op.binOp BinOp.lss 3 (Operand.tmp 44) (Operand.const (Value.int IntKind.i64 50)) 3), none, ann0⟩] none) (.tidy [0, 1, 2, 3, 9, 10, 45] z (z + 0)))
 (.cond (Operand.tmp 45) (.seq (.reg [⟨(some 8), (Op.assign (Operand.const (Value.bool false))), none, ann0⟩] none)
 .ret)
 .skip))
 (.seq (.post (.reg [⟨(some 46), (Op.move (Operand.tmp 0)), none, ann0⟩,
  ⟨(some 47), (Op.move (Operand.tmp 9)), none, ann0⟩,
  ⟨(some 48), (Op.move (Operand.tmp 0)), none, ann0⟩,
  ⟨(some 49), (Op.move (Operand.tmp 9)), none, ann0⟩,
  ⟨(some 50), (Op.binOp BinOp.sub 3 (Operand.tmp 49) (Operand.const (Value.int IntKind.i64 1)) 3), none, ann0⟩,
  ⟨(some 51), (Op.move (Operand.tmp 0)), none, ann0⟩,
  ⟨(some 52), (Op.move (Operand.tmp 9)), none, ann0⟩,
  ⟨(some 53), (Op.binOp BinOp.sub 3 (Operand.tmp 52) (Operand.const (Value.int IntKind.i64 1)) 3), none, ann0⟩,
  ⟨(some 54), (Op.indexAddr 26 (Operand.tmp 51) (Operand.tmp 53)), none, ann0⟩,
  ⟨(some 55), (Op.load 25 (Operand.tmp 54)), none, ann0⟩,
  ⟨(some 56), (Op.move (Operand.tmp 0)), none, ann0⟩,
  ⟨(some 57), (Op.move (Operand.tmp 9)), none, ann0⟩,
  ⟨(some 58), (Op.indexAddr 26 (Operand.tmp 56) (Operand.tmp 57)), none, ann0⟩,
  ⟨(some 59), (Op.load 25 (Operand.tmp 58)), none, ann0⟩,
  ⟨(some 60), (Op.indexAddr 26 (Operand.tmp 46) (Operand.tmp 47)), none, ann0⟩,
  ⟨none, (Op.store 25 (Operand.tmp 60) (Operand.tmp 55)), none, ann0⟩,
  ⟨(some 61), (Op.indexAddr 26 (Operand.tmp 48) (Operand.tmp 50)), none, ann0⟩,
  ⟨none, (Op.store 25 (Operand.tmp 61) (Operand.tmp 59)), none, ann0⟩] (some [0, 0, 0, 0, 8, 0, 0, 64, 224, 480, 0, 0, 3072, 7168, 16355, 32739, 65535, 131071])) (.tidy [0, 1, 2, 3, 9, 10] z (z + 0)))
 (.seq (.post (.seq (.reg [⟨(some 62), (Op.move (Operand.tmp 9)), none, ann0⟩,
  ⟨(some 63), (Op.move (Operand.tmp 1)), none, ann0⟩,
  ⟨(some 64), (Op.binOp BinOp.sub 3 (Operand.tmp 62) (Operand.tmp 63) 3), none, ann0⟩,
  ⟨(some 65), (Op.binOp BinOp.geq 3 (Operand.tmp 64) (Operand.const (Value.int IntKind.i64 2)) 3), none, ann0⟩] none)
 (.cond (Operand.tmp 65) (.seq (.reg [⟨(some 66), (Op.move (Operand.tmp 9)), none, ann0⟩,
  ⟨(some 67), (Op.binOp BinOp.sub 3 (Operand.tmp 66) (Operand.const (Value.int IntKind.i64 1)) 3), none, ann0⟩,
  ⟨(some 11), (Op.assign (Operand.tmp 67)), none, ann0⟩] none)
 (.post (.block 4 (.pre (.tidy [0, 1, 2, 3, 9, 10, 11] z (z + 0)) (.loop (s74_3 z)))) (.tidy [0, 1, 2, 3, 9, 10] z (z + 0))))
 .skip)) (.tidy [0, 1, 2, 3, 9, 10] z (z + 0)))
 (.seq (.reg [⟨(some 101), (Op.move (Operand.tmp 2)), none, ann0⟩,
  ⟨(some 102), (Op.move (Operand.tmp 9)), none, ann0⟩,
  ⟨(some 103), (Op.binOp BinOp.sub 3 (Operand.tmp 101) (Operand.tmp 102) 3), none, ann0⟩,
  ⟨(some 104), (Op.binOp BinOp.geq 3 (Operand.tmp 103) (Operand.const (Value.int IntKind.i64 2)) 3), none, ann0⟩] none)
 (.cond (Operand.tmp 104) (.seq (.reg [⟨(some 105), (Op.move (Operand.tmp 9)), none, ann0⟩,
  ⟨(some 106), (Op.binOp BinOp.add 3 (Operand.tmp 105) (Operand.const (Value.int IntKind.i64 1)) 3), none, ann0⟩,
  ⟨(some 12), (Op.assign (Operand.tmp 106)), none, ann0⟩] none)
 (.post (.block 6 (.pre (.tidy [0, 1, 2, 3, 9, 10, 12] z (z + 0)) (.loop (s74_4 z)))) (.tidy [0, 1, 2, 3, 9, 10] z (z + 0))))
 .skip)))))))) (.tidy [0, 1, 2, 3, 9, 10] z (z + 0)))
 (.reg [⟨(some 17), (Op.move (Operand.tmp 10)), none, ann0⟩,
  ⟨(some 18), (Op.binOp BinOp.add 3 (Operand.tmp 17) (Operand.const (Value.int IntKind.i64 1)) 3), none, ann0⟩,
  ⟨(some 10), (Op.assign (Operand.tmp 18)), none, ann0⟩] none))) (.tidy [0, 1, 2, 3, 9, 10] z (z + 0))
def s74_1 (z : Nat) : SC := c74_1 z
theorem e74_1 {C : Pg} {z : Nat} {st : St} {ks : List Fr} {K : Ex → St → Prop} : wpk C (s74_1 z) st ks K ↔ wpk C (c74_1 z) st ks K := Iff.rfl
def s74 (z : Nat) : SFn := ⟨4, 141, [(ResultVar.tmp 8)],
 (.seq (.reg [⟨(some 8), (Op.assign (Operand.const (Value.bool false))), none, ann0⟩] none)
 (.seq (.reg [⟨(some 13), (Op.move (Operand.tmp 1)), none, ann0⟩,
  ⟨(some 14), (Op.binOp BinOp.add 3 (Operand.tmp 13) (Operand.const (Value.int IntKind.i64 1)) 3), none, ann0⟩,
  ⟨(some 9), (Op.assign (Operand.tmp 14)), none, ann0⟩] none)
 (.seq (.post (.seq (.reg [⟨(some 10), (Op.assign (Operand.const (Value.int IntKind.i64 0))), none, ann0⟩] none)
 (.post (.block 0 (.pre (.tidy [0, 1, 2, 3, 9, 10] z (z + 0)) (.loop (s74_1 z)))) (.tidy [] z (z + 0)))) (.tidy [] z (z + 0)))
 (.seq (.reg [⟨(some 8), (Op.assign (Operand.const (Value.bool false))), none, ann0⟩] none)
 .ret))))⟩
theorem F74 (z : Nat) : FOk Try.prog 74 (s74 z) := by unfold FOk; kernel_rfl
end Go.Proofs.YtdhbecdlablonaaV
