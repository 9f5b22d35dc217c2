/- Functions' code, with notes for the interpreter, and the facts that it is the program's: made by a program. -/
import Derived.Test.YtnpppjipbkceeaaVC
import Derived.Test.YtnpppjipbkceeaaProg
import Derived.KernelRfl
set_option linter.unusedVariables false
namespace Go.Proofs.YtnpppjipbkceeaaV
open Go.RowKit

def s3 (z : Nat) : SFn := ⟨2, 39, [(ResultVar.tmp 4)],
 (.seq (.reg [⟨(some 4), (Op.assign (Operand.const (Value.bool false))), none, ann0⟩] none)
 (.seq (.reg [⟨(some 7), (Op.move (Operand.tmp 0)), none, ann0⟩,
  ⟨(some 8), (Op.call { callee := (Callee.value (Operand.func 13)), args := #[(Operand.tmp 7)], argTypes := #[22] }), none, ann0⟩,
  ⟨(some 9), (Op.move (Operand.tmp 1)), none, ann0⟩,
  ⟨(some 10), (Op.call { callee := (Callee.value (Operand.func 13)), args := #[(Operand.tmp 9)], argTypes := #[22] }), none, ann0⟩,
  ⟨(some 5), (Op.assign (Operand.tmp 8)), none, ann0⟩,
  ⟨(some 6), (Op.assign (Operand.tmp 10)), none, ann0⟩] none)
 (.seq (.reg [⟨(some 11), (Op.call { callee := (Callee.value (Operand.func 14)), args := #[], argTypes := #[] }), none, ann0⟩,
  ⟨(some 12), (Op.move (Operand.tmp 11)), none, ann0⟩,
  ⟨(some 13), (Op.move (Operand.tmp 5)), (some (12, true)), ann0⟩,
  ⟨(some 14), (Op.move (Operand.tmp 6)), (some (12, true)), ann0⟩,
  ⟨(some 15), (Op.call { callee := (Callee.value (Operand.func 16)), args := #[(Operand.tmp 13), (Operand.tmp 14)], argTypes := #[23, 23] }), (some (12, true)), ann0⟩,
  ⟨(some 16), (Op.move (Operand.tmp 5)), (some (12, true)), ann0⟩,
  ⟨(some 17), (Op.move (Operand.tmp 6)), (some (12, true)), ann0⟩,
  ⟨(some 18), (Op.call { callee := (Callee.value (Operand.func 17)), args := #[(Operand.const (Value.int IntKind.i64 1)), (Operand.tmp 16), (Operand.tmp 17)], argTypes := #[3, 23, 23] }), (some (12, true)), ann0⟩,
  ⟨(some 19), (Op.call { callee := (Callee.value (Operand.func 15)), args := #[(Operand.tmp 15), (Operand.tmp 18)], argTypes := #[23, 23] }), (some (12, true)), ann0⟩,
  ⟨(some 20), (Op.pick (Operand.tmp 12) (Operand.tmp 19) (Operand.const (Value.bool false))), none, ann0⟩,
  ⟨(some 21), (Op.move (Operand.tmp 20)), none, ann0⟩,
  ⟨(some 22), (Op.move (Operand.tmp 5)), (some (21, true)), ann0⟩,
  ⟨(some 23), (Op.move (Operand.tmp 6)), (some (21, true)), ann0⟩,
  ⟨(some 24), (Op.call { callee := (Callee.value (Operand.func 18)), args := #[(Operand.tmp 22), (Operand.tmp 23)], argTypes := #[23, 23] }), (some (21, true)), ann0⟩,
  ⟨(some 25), (Op.move (Operand.tmp 5)), (some (21, true)), ann0⟩,
  ⟨(some 26), (Op.move (Operand.tmp 6)), (some (21, true)), ann0⟩,
  ⟨(some 27), (Op.call { callee := (Callee.value (Operand.func 17)), args := #[(Operand.const (Value.int IntKind.i64 2)), (Operand.tmp 25), (Operand.tmp 26)], argTypes := #[3, 23, 23] }), (some (21, true)), ann0⟩,
  ⟨(some 28), (Op.call { callee := (Callee.value (Operand.func 15)), args := #[(Operand.tmp 24), (Operand.tmp 27)], argTypes := #[23, 23] }), (some (21, true)), ann0⟩,
  ⟨(some 29), (Op.pick (Operand.tmp 21) (Operand.tmp 28) (Operand.const (Value.bool false))), none, ann0⟩,
  ⟨(some 30), (Op.move (Operand.tmp 29)), none, ann0⟩,
  ⟨(some 31), (Op.move (Operand.tmp 5)), (some (30, true)), ann0⟩,
  ⟨(some 32), (Op.move (Operand.tmp 6)), (some (30, true)), ann0⟩,
  ⟨(some 33), (Op.call { callee := (Callee.value (Operand.func 19)), args := #[(Operand.tmp 31), (Operand.tmp 32)], argTypes := #[23, 23] }), (some (30, true)), ann0⟩,
  ⟨(some 34), (Op.move (Operand.tmp 5)), (some (30, true)), ann0⟩,
  ⟨(some 35), (Op.move (Operand.tmp 6)), (some (30, true)), ann0⟩,
  ⟨(some 36), (Op.call { callee := (Callee.value (Operand.func 17)), args := #[(Operand.const (Value.int IntKind.i64 3)), (Operand.tmp 34), (Operand.tmp 35)], argTypes := #[3, 23, 23] }), (some (30, true)), ann0⟩,
  ⟨(some 37), (Op.call { callee := (Callee.value (Operand.func 15)), args := #[(Operand.tmp 33), (Operand.tmp 36)], argTypes := #[23, 23] }), (some (30, true)), ann0⟩,
  ⟨(some 38), (Op.pick (Operand.tmp 30) (Operand.tmp 37) (Operand.const (Value.bool false))), none, ann0⟩,
  ⟨(some 4), (Op.assign (Operand.tmp 38)), none, ann0⟩] none)
 .ret)))⟩
theorem F3 (z : Nat) : FOk Try.prog 3 (s3 z) := by unfold FOk; kernel_rfl
def s4 (z : Nat) : SFn := ⟨3, 84, [(ResultVar.tmp 6)],
 (.seq (.reg [⟨(some 6), (Op.assign (Operand.const (Value.bool false))), none, ann0⟩] none)
 (.seq (.post (.reg [⟨(some 12), (Op.move (Operand.tmp 0)), none, ann0⟩,
  ⟨(some 13), (Op.call { callee := (Callee.value (Operand.func 13)), args := #[(Operand.tmp 12)], argTypes := #[22] }), none, ann0⟩,
  ⟨(some 14), (Op.move (Operand.tmp 1)), none, ann0⟩,
  ⟨(some 15), (Op.call { callee := (Callee.value (Operand.func 13)), args := #[(Operand.tmp 14)], argTypes := #[22] }), none, ann0⟩,
  ⟨(some 16), (Op.move (Operand.tmp 2)), none, ann0⟩,
  ⟨(some 17), (Op.call { callee := (Callee.value (Operand.func 13)), args := #[(Operand.tmp 16)], argTypes := #[22] }), none, ann0⟩,
  ⟨(some 7), (Op.assign (Operand.tmp 13)), none, ann0⟩,
  ⟨(some 8), (Op.assign (Operand.tmp 15)), none, ann0⟩,
  ⟨(some 9), (Op.assign (Operand.tmp 17)), none, ann0⟩] none) (.tidy [7, 8, 9] z (z + 0)))
 (.seq (.post (.reg [⟨(some 18), (Op.move (Operand.tmp 7)), none, ann0⟩,
  ⟨(some 19), (Op.move (Operand.tmp 8)), none, ann0⟩,
  ⟨(some 20), (Op.call { callee := (Callee.value (Operand.func 16)), args := #[(Operand.tmp 18), (Operand.tmp 19)], argTypes := #[23, 23] }), none, ann0⟩,
  ⟨(some 21), (Op.move (Operand.tmp 7)), none, ann0⟩,
  ⟨(some 22), (Op.move (Operand.tmp 8)), none, ann0⟩,
  ⟨(some 23), (Op.call { callee := (Callee.value (Operand.func 18)), args := #[(Operand.tmp 21), (Operand.tmp 22)], argTypes := #[23, 23] }), none, ann0⟩,
  ⟨(some 10), (Op.assign (Operand.tmp 20)), none, ann0⟩,
  ⟨(some 11), (Op.assign (Operand.tmp 23)), none, ann0⟩] none) (.tidy [7, 8, 9, 10, 11] z (z + 0)))
 (.seq (.post (.seq (.post (.reg [⟨(some 24), (Op.call { callee := (Callee.value (Operand.func 14)), args := #[], argTypes := #[] }), none, ann0⟩,
  ⟨(some 25), (Op.unOp UnOp.not 4 (Operand.tmp 24)), none, ann0⟩,
  ⟨(some 26), (Op.move (Operand.tmp 25)), none, ann0⟩,
  ⟨(some 27), (Op.move (Operand.tmp 10)), (some (26, false)), ann0⟩,
  ⟨(some 28), (Op.move (Operand.tmp 8)), (some (26, false)), ann0⟩,
  ⟨(some 29), (Op.move (Operand.tmp 7)), (some (26, false)), ann0⟩,
  ⟨(some 30), (Op.call { callee := (Callee.value (Operand.func 16)), args := #[(Operand.tmp 28), (Operand.tmp 29)], argTypes := #[23, 23] }), (some (26, false)), ann0⟩,
  ⟨(some 31), (Op.call { callee := (Callee.value (Operand.func 15)), args := #[(Operand.tmp 27), (Operand.tmp 30)], argTypes := #[23, 23] }), (some (26, false)), ann0⟩,
  ⟨(some 32), (Op.unOp UnOp.not 4 (Operand.tmp 31)), (some (26, false)), ann0⟩,
  ⟨(some 33), (Op.pick (Operand.tmp 26) (Operand.const (Value.bool true)) (Operand.tmp 32)), none, ann0⟩,
  ⟨(some 34), (Op.move (Operand.tmp 33)), none, ann0⟩,
  ⟨(some 35), (Op.move (Operand.tmp 11)), (some (34, false)), ann0⟩,
  ⟨(some 36), (Op.move (Operand.tmp 8)), (some (34, false)), ann0⟩,
  ⟨(some 37), (Op.move (Operand.tmp 7)), (some (34, false)), ann0⟩,
  ⟨(some 38), (Op.call { callee := (Callee.value (Operand.func 18)), args := #[(Operand.tmp 36), (Operand.tmp 37)], argTypes := #[23, 23] }), (some (34, false)), ann0⟩,
  ⟨(some 39), (Op.call { callee := (Callee.value (Operand.func 15)), args := #[(Operand.tmp 35), (Operand.tmp 38)], argTypes := #[23, 23] }), (some (34, false)), ann0⟩,
  ⟨(some 40), (Op.unOp UnOp.not 4 (Operand.tmp 39)), (some (34, false)), ann0⟩,
  ⟨(some 41), (Op.pick (Operand.tmp 34) (Operand.const (Value.bool true)) (Operand.tmp 40)), none, ann0⟩,
  ⟨(some 42), (Op.move (Operand.tmp 41)), none, ann0⟩,
  ⟨(some 43), (Op.move (Operand.tmp 7)), (some (42, false)), ann0⟩,
  ⟨(some 44), (Op.call { callee := (Callee.value (Operand.func 20)), args := #[(Operand.tmp 43)], argTypes := #[23] }), (some (42, false)), ann0⟩,
  ⟨(some 45), (Op.move (Operand.tmp 8)), (some (42, false)), ann0⟩,
  ⟨(some 46), (Op.call { callee := (Callee.value (Operand.func 20)), args := #[(Operand.tmp 45)], argTypes := #[23] }), (some (42, false)), ann0⟩,
  ⟨(some 47), (Op.binOp BinOp.add 3 (Operand.tmp 44) (Operand.tmp 46) 3), (some (42, false)), ann0⟩,
  ⟨(some 48), (Op.move (Operand.tmp 10)), (some (42, false)), ann0⟩,
  ⟨(some 49), (Op.call { callee := (Callee.value (Operand.func 20)), args := #[(Operand.tmp 48)], argTypes := #[23] }), (some (42, false)), ann0⟩,
  ⟨(some 50), (Op.move (Operand.tmp 11)), (some (42, false)), ann0⟩,
  ⟨(some 51), (Op.call { callee := (Callee.value (Operand.func 20)), args := #[(Operand.tmp 50)], argTypes := #[23] }), (some (42, false)), ann0⟩,
  ⟨(some 52), (Op.binOp BinOp.add 3 (Operand.tmp 49) (Operand.tmp 51) 3), (some (42, false)), ann0⟩,
  ⟨(some 53), (Op.binOp BinOp.neq 3 (Operand.tmp 47) (Operand.tmp 52) 3), (some (42, false)), ann0⟩,
  ⟨(some 54), (Op.pick (Operand.tmp 42) (Operand.const (Value.bool true)) (Operand.tmp 53)), none, ann0⟩] none) (.tidy [7, 8, 9, 10, 11, 54] z (z + 0)))
 (.cond (Operand.tmp 54) (.seq (.reg [⟨(some 6), (Op.assign (Operand.const (Value.bool false))), none, ann0⟩] none)
 .ret)
 .skip)) (.tidy [7, 8, 9, 10, 11] z (z + 0)))
 (.seq (.reg [⟨(some 55), (Op.move (Operand.tmp 10)), none, ann0⟩,
  ⟨(some 56), (Op.move (Operand.tmp 9)), none, ann0⟩,
  ⟨(some 57), (Op.call { callee := (Callee.value (Operand.func 18)), args := #[(Operand.tmp 55), (Operand.tmp 56)], argTypes := #[23, 23] }), none, ann0⟩,
  ⟨(some 58), (Op.move (Operand.tmp 7)), none, ann0⟩,
  ⟨(some 59), (Op.move (Operand.tmp 9)), none, ann0⟩,
  ⟨(some 60), (Op.call { callee := (Callee.value (Operand.func 18)), args := #[(Operand.tmp 58), (Operand.tmp 59)], argTypes := #[23, 23] }), none, ann0⟩,
  ⟨(some 61), (Op.move (Operand.tmp 8)), none, ann0⟩,
  ⟨(some 62), (Op.move (Operand.tmp 9)), none, ann0⟩,
  ⟨(some 63), (Op.call { callee := (Callee.value (Operand.func 18)), args := #[(Operand.tmp 61), (Operand.tmp 62)], argTypes := #[23, 23] }), none, ann0⟩,
  ⟨(some 64), (Op.call { callee := (Callee.value (Operand.func 16)), args := #[(Operand.tmp 60), (Operand.tmp 63)], argTypes := #[23, 23] }), none, ann0⟩,
  ⟨(some 65), (Op.call { callee := (Callee.value (Operand.func 15)), args := #[(Operand.tmp 57), (Operand.tmp 64)], argTypes := #[23, 23] }), none, ann0⟩,
  ⟨(some 66), (Op.move (Operand.tmp 65)), none, ann0⟩,
  ⟨(some 67), (Op.move (Operand.tmp 11)), (some (66, true)), ann0⟩,
  ⟨(some 68), (Op.move (Operand.tmp 7)), (some (66, true)), ann0⟩,
  ⟨(some 69), (Op.move (Operand.tmp 8)), (some (66, true)), ann0⟩,
  ⟨(some 70), (Op.call { callee := (Callee.value (Operand.func 19)), args := #[(Operand.tmp 68), (Operand.tmp 69)], argTypes := #[23, 23] }), (some (66, true)), ann0⟩,
  ⟨(some 71), (Op.call { callee := (Callee.value (Operand.func 16)), args := #[(Operand.tmp 67), (Operand.tmp 70)], argTypes := #[23, 23] }), (some (66, true)), ann0⟩,
  ⟨(some 72), (Op.move (Operand.tmp 7)), (some (66, true)), ann0⟩,
  ⟨(some 73), (Op.call { callee := (Callee.value (Operand.func 15)), args := #[(Operand.tmp 71), (Operand.tmp 72)], argTypes := #[23, 23] }), (some (66, true)), ann0⟩,
  ⟨(some 74), (Op.pick (Operand.tmp 66) (Operand.tmp 73) (Operand.const (Value.bool false))), none, ann0⟩,
  ⟨(some 75), (Op.move (Operand.tmp 74)), none, ann0⟩,
  ⟨(some 76), (Op.move (Operand.tmp 7)), (some (75, true)), ann0⟩,
  ⟨(some 77), (Op.move (Operand.tmp 8)), (some (75, true)), ann0⟩,
  ⟨(some 78), (Op.call { callee := (Callee.value (Operand.func 19)), args := #[(Operand.tmp 76), (Operand.tmp 77)], argTypes := #[23, 23] }), (some (75, true)), ann0⟩,
  ⟨(some 79), (Op.move (Operand.tmp 8)), (some (75, true)), ann0⟩,
  ⟨(some 80), (Op.call { callee := (Callee.value (Operand.func 18)), args := #[(Operand.tmp 78), (Operand.tmp 79)], argTypes := #[23, 23] }), (some (75, true)), ann0⟩,
  ⟨(some 81), (Op.call { callee := (Callee.builtin Builtin.len), args := #[(Operand.tmp 80)], argTypes := #[23] }), (some (75, true)), ann0⟩,
  ⟨(some 82), (Op.binOp BinOp.eql 3 (Operand.tmp 81) (Operand.const (Value.int IntKind.i64 0)) 3), (some (75, true)), ann0⟩,
  ⟨(some 83), (Op.pick (Operand.tmp 75) (Operand.tmp 82) (Operand.const (Value.bool false))), none, ann0⟩,
  ⟨(some 6), (Op.assign (Operand.tmp 83)), none, ann0⟩] none)
 .ret)))))⟩
theorem F4 (z : Nat) : FOk Try.prog 4 (s4 z) := by unfold FOk; kernel_rfl
def s5 (z : Nat) : SFn := ⟨1, 59, [(ResultVar.tmp 2)],
 (.seq (.reg [⟨(some 2), (Op.assign (Operand.const (Value.bool false))), none, ann0⟩] none)
 (.seq (.reg [⟨(some 7), (Op.move (Operand.tmp 0)), none, ann0⟩,
  ⟨(some 8), (Op.call { callee := (Callee.value (Operand.func 13)), args := #[(Operand.tmp 7)], argTypes := #[22] }), none, ann0⟩,
  ⟨(some 3), (Op.assign (Operand.tmp 8)), none, ann0⟩] none)
 (.seq (.post (.reg [⟨(some 10), (Op.move (Operand.tmp 3)), none, ann0⟩,
  ⟨(some 11), (Op.call { callee := (Callee.value (Operand.func 21)), args := #[(Operand.tmp 10)], argTypes := #[23] }), none, ann0⟩,
  ⟨(some 9), (Op.move (Operand.tmp 11)), none, ann0⟩,
  ⟨(some 12), (Op.extract (Operand.tmp 9) 0), none, ann0⟩,
  ⟨(some 13), (Op.extract (Operand.tmp 9) 1), none, ann0⟩,
  ⟨(some 4), (Op.alloc 33), none, ⟨1, false, false⟩⟩,
  ⟨none, (Op.store 33 (Operand.tmp 4) (Operand.tmp 12)), none, ann0⟩,
  ⟨(some 5), (Op.assign (Operand.tmp 13)), none, ann0⟩] none) (.tidy [3, 4, 5] z (z + 1)))
 (.seq (.reg [⟨(some 14), (Op.move (Operand.tmp 3)), none, ann0⟩,
  ⟨(some 15), (Op.call { callee := (Callee.value (Operand.func 22)), args := #[(Operand.tmp 14)], argTypes := #[23] }), none, ann0⟩,
  ⟨(some 6), (Op.assign (Operand.tmp 15)), none, ann0⟩] none)
 (.seq (.post (.seq (.post (.reg [⟨(some 16), (Op.call { callee := (Callee.value (Operand.func 14)), args := #[], argTypes := #[] }), none, ann0⟩,
  ⟨(some 17), (Op.unOp UnOp.not 4 (Operand.tmp 16)), none, ann0⟩,
  ⟨(some 18), (Op.move (Operand.tmp 17)), none, ann0⟩,
  ⟨(some 19), (Op.move (Operand.tmp 6)), (some (18, false)), ann0⟩,
  ⟨(some 20), (Op.move (Operand.tmp 3)), (some (18, false)), ann0⟩,
  ⟨(some 21), (Op.call { callee := (Callee.value (Operand.func 23)), args := #[(Operand.tmp 20)], argTypes := #[23] }), (some (18, false)), ann0⟩,
  ⟨(some 22), (Op.call { callee := (Callee.value (Operand.func 15)), args := #[(Operand.tmp 19), (Operand.tmp 21)], argTypes := #[23, 23] }), (some (18, false)), ann0⟩,
  ⟨(some 23), (Op.unOp UnOp.not 4 (Operand.tmp 22)), (some (18, false)), ann0⟩,
  ⟨(some 24), (Op.pick (Operand.tmp 18) (Operand.const (Value.bool true)) (Operand.tmp 23)), none, ann0⟩,
  ⟨(some 25), (Op.move (Operand.tmp 24)), none, ann0⟩,
  ⟨(some 26), (Op.move (Operand.tmp 5)), (some (25, false)), ann0⟩,
  ⟨(some 27), (Op.move (Operand.tmp 3)), (some (25, false)), ann0⟩,
  ⟨(some 28), (Op.call { callee := (Callee.builtin Builtin.len), args := #[(Operand.tmp 27)], argTypes := #[23] }), (some (25, false)), ann0⟩,
  ⟨(some 29), (Op.binOp BinOp.gtr 3 (Operand.tmp 28) (Operand.const (Value.int IntKind.i64 0)) 3), (some (25, false)), ann0⟩,
  ⟨(some 30), (Op.binOp BinOp.neq 4 (Operand.tmp 26) (Operand.tmp 29) 4), (some (25, false)), ann0⟩,
  ⟨(some 31), (Op.pick (Operand.tmp 25) (Operand.const (Value.bool true)) (Operand.tmp 30)), none, ann0⟩] none) (.tidy [3, 4, 5, 6, 31] z (z + 1)))
 (.cond (Operand.tmp 31) (.seq (.reg [⟨(some 2), (Op.assign (Operand.const (Value.bool false))), none, ann0⟩] none)
 .ret)
 .skip)) (.tidy [3, 4, 5, 6] z (z + 1)))
 (.seq (.post (.seq (.reg [⟨(some 32), (Op.move (Operand.tmp 5)), none, ann0⟩,
  ⟨(some 33), (Op.unOp UnOp.not 4 (Operand.tmp 32)), none, ann0⟩] none)
 (.cond (Operand.tmp 33) (.seq (.reg [⟨(some 34), (Op.load 33 (Operand.tmp 4)), none, ann0⟩,
  ⟨(some 35), (Op.build 33 #[]), none, ann0⟩,
  ⟨(some 36), (Op.binOp BinOp.eql 33 (Operand.tmp 34) (Operand.tmp 35) 33), none, ann0⟩,
  ⟨(some 2), (Op.assign (Operand.tmp 36)), none, ann0⟩] none)
 .ret)
 .skip)) (.tidy [3, 4, 6] z (z + 1)))
 (.seq (.reg [⟨(some 37), (Op.load 33 (Operand.tmp 4)), none, ann0⟩,
  ⟨(some 38), (Op.move (Operand.tmp 3)), none, ann0⟩,
  ⟨(some 39), (Op.indexAddr 23 (Operand.tmp 38) (Operand.const (Value.int IntKind.i64 0))), none, ann0⟩,
  ⟨(some 40), (Op.fieldAddr 33 (Operand.tmp 39) 0), none, ann0⟩,
  ⟨(some 41), (Op.load 3 (Operand.tmp 40)), none, ann0⟩,
  ⟨(some 42), (Op.move (Operand.tmp 3)), none, ann0⟩,
  ⟨(some 43), (Op.move (Operand.tmp 3)), none, ann0⟩,
  ⟨(some 44), (Op.call { callee := (Callee.builtin Builtin.len), args := #[(Operand.tmp 43)], argTypes := #[23] }), none, ann0⟩,
  ⟨(some 45), (Op.binOp BinOp.sub 3 (Operand.tmp 44) (Operand.const (Value.int IntKind.i64 1)) 3), none, ann0⟩,
  ⟨(some 46), (Op.indexAddr 23 (Operand.tmp 42) (Operand.tmp 45)), none, ann0⟩,
  ⟨(some 47), (Op.fieldAddr 33 (Operand.tmp 46) 1), none, ann0⟩,
  ⟨(some 48), (Op.load 3 (Operand.tmp 47)), none, ann0⟩,
  ⟨(some 49), (Op.build 33 #[(0, (Operand.tmp 41)), (1, (Operand.tmp 48))]), none, ann0⟩,
  ⟨(some 50), (Op.binOp BinOp.eql 33 (Operand.tmp 37) (Operand.tmp 49) 33), none, ann0⟩,
  ⟨(some 51), (Op.move (Operand.tmp 50)), none, ann0⟩,
  ⟨(some 52), (Op.move (Operand.tmp 3)), (some (51, true)), ann0⟩,
  ⟨(some 53), (Op.move (Operand.tmp 6)), (some (51, true)), ann0⟩,
  ⟨(some 54), (Op.call { callee := (Callee.value (Operand.func 16)), args := #[(Operand.tmp 52), (Operand.tmp 53)], argTypes := #[23, 23] }), (some (51, true)), ann0⟩,
  ⟨(some 55), (Op.load 33 (Operand.tmp 4)), (some (51, true)), ann0⟩,
  ⟨(some 56), (Op.buildSlice 23 1 #[(0, (Operand.tmp 55))]), (some (51, true)), ⟨1, true, false⟩⟩,
  ⟨(some 57), (Op.call { callee := (Callee.value (Operand.func 15)), args := #[(Operand.tmp 54), (Operand.tmp 56)], argTypes := #[23, 23] }), (some (51, true)), ann0⟩,
  ⟨(some 58), (Op.pick (Operand.tmp 51) (Operand.tmp 57) (Operand.const (Value.bool false))), none, ann0⟩,
  ⟨(some 2), (Op.assign (Operand.tmp 58)), none, ann0⟩] (some [0, 0, 2, 6, 14, 0, 0, 64, 192, 480, 992, 2016, 4094, 8191, 16383, 32767, 32767, 131071, 32767, 294911, 1048575, 2097151, 4194303]))
 .ret)))))))⟩
theorem F5 (z : Nat) : FOk Try.prog 5 (s5 z) := by unfold FOk; kernel_rfl
def c6_1 (z : Nat) : SC := .post (.seq (.seq (.reg [⟨(some 23), (Op.move (Operand.tmp 7)), none, ann0⟩,
  ⟨(some 24), (Op.move (Operand.tmp 5)), none, ann0⟩,
  ⟨(some 25), (Op.binOp BinOp.lss 3 (Operand.tmp 23) (Operand.tmp 24) 3), none, ann0⟩] none)
 (.cond (Operand.tmp 25) .skip
 (.exit 0)))
 (.seq (.post (.block 1 (.reg [⟨(some 28), (Op.move (Operand.tmp 6)), none, ann0⟩,
  ⟨(some 29), (Op.move (Operand.tmp 7)), none, ann0⟩,
  ⟨(some 30), (Op.move (Operand.tmp 7)), none, ann0⟩,
  ⟨(some 31), (Op.binOp BinOp.mul 3 (Operand.const (Value.int IntKind.i64 3)) (Operand.tmp 30) 3), none, ann0⟩,
  ⟨(some 32), (Op.move (Operand.tmp 7)), none, ann0⟩,
  ⟨(some 33), (Op.binOp BinOp.mul 3 (Operand.const (Value.int IntKind.i64 3)) (Operand.tmp 32) 3), none, ann0⟩,
  ⟨(some 34), (Op.binOp BinOp.add 3 (Operand.tmp 33) (Operand.const (Value.int IntKind.i64 2)) 3), none, ann0⟩,
  ⟨(some 35), (Op.build 33 #[(0, (Operand.tmp 31)), (1, (Operand.tmp 34))]), none, ann0⟩,
  ⟨(some 36), (Op.indexAddr 23 (Operand.tmp 28) (Operand.tmp 29)), none, ann0⟩,
  ⟨none, (Op.store 33 (Operand.tmp 36) (Operand.tmp 35)), none, ann0⟩] none)) (.tidy [0, 5, 6, 7] z (z + 1)))
 (.reg [⟨(some 26), (Op.move (Operand.tmp 7)), none, ann0⟩,
  ⟨(some 27), (Op.binOp BinOp.add 3 (Operand.tmp 26) (Operand.const (Value.int IntKind.i64 1)) 3), none, ann0⟩,
  ⟨(some 7), (Op.assign (Operand.tmp 27)), none, ann0⟩] none))) (.tidy [0, 5, 6, 7] z (z + 1))
def s6_1 (z : Nat) : SC := c6_1 z
theorem e6_1 {C : Pg} {z : Nat} {st : St} {ks : List Fr} {K : Ex → St → Prop} : wpk C (s6_1 z) st ks K ↔ wpk C (c6_1 z) st ks K := Iff.rfl
def s6 (z : Nat) : SFn := ⟨2, 50, [(ResultVar.tmp 4)],
 (.seq (.reg [⟨(some 4), (Op.assign (Operand.const (Value.bool false))), none, ann0⟩] none)
 (.seq (.post (.seq (.post (.reg [⟨(some 9), (Op.call { callee := (Callee.value (Operand.func 14)), args := #[], argTypes := #[] }), none, ann0⟩,
  ⟨(some 10), (Op.unOp UnOp.not 4 (Operand.tmp 9)), none, ann0⟩,
  ⟨(some 11), (Op.move (Operand.tmp 10)), none, ann0⟩,
  ⟨(some 12), (Op.move (Operand.tmp 0)), (some (11, false)), ann0⟩,
  ⟨(some 13), (Op.call { callee := (Callee.builtin Builtin.len), args := #[(Operand.tmp 12)], argTypes := #[23] }), (some (11, false)), ann0⟩,
  ⟨(some 14), (Op.binOp BinOp.gtr 3 (Operand.tmp 13) (Operand.const (Value.int IntKind.i64 20)) 3), (some (11, false)), ann0⟩,
  ⟨(some 15), (Op.pick (Operand.tmp 11) (Operand.const (Value.bool true)) (Operand.tmp 14)), none, ann0⟩] none) (.tidy [0, 1, 15] z (z + 0)))
 (.cond (Operand.tmp 15) (.seq (.reg [⟨(some 16), (Op.call { callee := (Callee.value (Operand.func 14)), args := #[], argTypes := #[] }), none, ann0⟩,
  ⟨(some 4), (Op.assign (Operand.tmp 16)), none, ann0⟩] none)
 .ret)
 .skip)) (.tidy [0, 1] z (z + 0)))
 (.seq (.reg [⟨(some 17), (Op.move (Operand.tmp 1)), none, ann0⟩,
  ⟨(some 18), (Op.binOp BinOp.rem 5 (Operand.tmp 17) (Operand.const (Value.int IntKind.u8 3)) 5), none, ann0⟩,
  ⟨(some 19), (Op.convert 5 3 (Operand.tmp 18)), none, ann0⟩,
  ⟨(some 20), (Op.binOp BinOp.add 3 (Operand.const (Value.int IntKind.i64 4095)) (Operand.tmp 19) 3), none, ann0⟩,
  ⟨(some 5), (Op.assign (Operand.tmp 20)), none, ann0⟩] none)
 (.seq (.post (.reg [⟨(some 21), (Op.move (Operand.tmp 5)), none, ann0⟩,
  ⟨(some 22), (Op.makeSlice 23 (Operand.tmp 21) (Operand.tmp 21)), none, ⟨1, false, false⟩⟩,
  ⟨(some 6), (Op.assign (Operand.tmp 22)), none, ann0⟩] none) (.tidy [0, 5, 6] z (z + 1)))
 (.seq (.post (.seq (.reg [⟨(some 7), (Op.assign (Operand.const (Value.int IntKind.i64 0))), none, ann0⟩] none)
 (.post (.block 0 (.pre (.tidy [0, 5, 6, 7] z (z + 1)) (.loop (s6_1 z)))) (.tidy [0, 5, 6] z (z + 1)))) (.tidy [0, 5, 6] z (z + 1)))
 (.seq (.reg [⟨(some 8), (Op.assign (Operand.const (Value.int IntKind.i64 0))), none, ann0⟩] none)
 (.seq (.seq (.reg [⟨(some 37), (Op.move (Operand.tmp 5)), none, ann0⟩,
  ⟨(some 38), (Op.binOp BinOp.gtr 3 (Operand.tmp 37) (Operand.const (Value.int IntKind.i64 4096)) 3), none, ann0⟩] none)
 (.cond (Operand.tmp 38) (.reg [⟨(some 8), (Op.assign (Operand.const (Value.int IntKind.i64 6))), none, ann0⟩] none)
 .skip))
 (.seq (.reg [⟨(some 39), (Op.move (Operand.tmp 0)), none, ann0⟩,
  ⟨(some 40), (Op.call { callee := (Callee.value (Operand.func 24)), args := #[(Operand.tmp 39)], argTypes := #[23] }), none, ann0⟩,
  ⟨(some 41), (Op.move (Operand.tmp 0)), none, ann0⟩,
  ⟨(some 42), (Op.call { callee := (Callee.value (Operand.func 25)), args := #[(Operand.tmp 41)], argTypes := #[23] }), none, ann0⟩,
  ⟨(some 43), (Op.binOp BinOp.eql 38 (Operand.tmp 40) (Operand.tmp 42) 38), none, ann0⟩,
  ⟨(some 44), (Op.move (Operand.tmp 43)), none, ann0⟩,
  ⟨(some 45), (Op.move (Operand.tmp 6)), (some (44, true)), ann0⟩,
  ⟨(some 46), (Op.call { callee := (Callee.value (Operand.func 24)), args := #[(Operand.tmp 45)], argTypes := #[23] }), (some (44, true)), ann0⟩,
  ⟨(some 47), (Op.move (Operand.tmp 8)), (some (44, true)), ann0⟩,
  ⟨(some 48), (Op.binOp BinOp.eql 38 (Operand.tmp 46) (Operand.tmp 47) 38), (some (44, true)), ann0⟩,
  ⟨(some 49), (Op.pick (Operand.tmp 44) (Operand.tmp 48) (Operand.const (Value.bool false))), none, ann0⟩,
  ⟨(some 4), (Op.assign (Operand.tmp 49)), none, ann0⟩] none)
 .ret))))))))⟩
theorem F6 (z : Nat) : FOk Try.prog 6 (s6 z) := by unfold FOk; kernel_rfl
def s7 (z : Nat) : SFn := ⟨1, 92, [(ResultVar.tmp 2)],
 (.seq (.reg [⟨(some 2), (Op.assign (Operand.const (Value.bool false))), none, ann0⟩] none)
 (.seq (.post (.seq (.post (.reg [⟨(some 9), (Op.call { callee := (Callee.value (Operand.func 14)), args := #[], argTypes := #[] }), none, ann0⟩,
  ⟨(some 10), (Op.unOp UnOp.not 4 (Operand.tmp 9)), none, ann0⟩,
  ⟨(some 11), (Op.move (Operand.tmp 10)), none, ann0⟩,
  ⟨(some 12), (Op.move (Operand.tmp 0)), (some (11, false)), ann0⟩,
  ⟨(some 13), (Op.call { callee := (Callee.builtin Builtin.len), args := #[(Operand.tmp 12)], argTypes := #[23] }), (some (11, false)), ann0⟩,
  ⟨(some 14), (Op.binOp BinOp.gtr 3 (Operand.tmp 13) (Operand.const (Value.int IntKind.i64 20)) 3), (some (11, false)), ann0⟩,
  ⟨(some 15), (Op.pick (Operand.tmp 11) (Operand.const (Value.bool true)) (Operand.tmp 14)), none, ann0⟩] none) (.tidy [0, 15] z (z + 0)))
 (.cond (Operand.tmp 15) (.seq (.reg [⟨(some 16), (Op.call { callee := (Callee.value (Operand.func 14)), args := #[], argTypes := #[] }), none, ann0⟩,
  ⟨(some 2), (Op.assign (Operand.tmp 16)), none, ann0⟩] none)
 .ret)
 .skip)) (.tidy [0] z (z + 0)))
 (.seq (.reg [⟨(some 18), (Op.move (Operand.tmp 0)), none, ann0⟩,
  ⟨(some 19), (Op.call { callee := (Callee.value (Operand.func 26)), args := #[(Operand.tmp 18)], argTypes := #[23] }), none, ann0⟩,
  ⟨(some 17), (Op.move (Operand.tmp 19)), none, ann0⟩,
  ⟨(some 20), (Op.extract (Operand.tmp 17) 0), none, ann0⟩,
  ⟨(some 21), (Op.extract (Operand.tmp 17) 1), none, ann0⟩,
  ⟨(some 3), (Op.assign (Operand.tmp 20)), none, ann0⟩,
  ⟨(some 4), (Op.assign (Operand.tmp 21)), none, ann0⟩] none)
 (.seq (.post (.reg [⟨(some 23), (Op.move (Operand.tmp 0)), none, ann0⟩,
  ⟨(some 24), (Op.call { callee := (Callee.value (Operand.func 27)), args := #[(Operand.tmp 23)], argTypes := #[23] }), none, ann0⟩,
  ⟨(some 22), (Op.move (Operand.tmp 24)), none, ann0⟩,
  ⟨(some 25), (Op.extract (Operand.tmp 22) 0), none, ann0⟩,
  ⟨(some 26), (Op.extract (Operand.tmp 22) 1), none, ann0⟩,
  ⟨(some 5), (Op.assign (Operand.tmp 25)), none, ann0⟩,
  ⟨(some 6), (Op.assign (Operand.tmp 26)), none, ann0⟩] none) (.tidy [0, 3, 4, 5, 6] z (z + 0)))
 (.seq (.post (.seq (.post (.reg [⟨(some 27), (Op.move (Operand.tmp 4)), none, ann0⟩,
  ⟨(some 28), (Op.move (Operand.tmp 6)), none, ann0⟩,
  ⟨(some 29), (Op.binOp BinOp.neq 38 (Operand.tmp 27) (Operand.tmp 28) 38), none, ann0⟩,
  ⟨(some 30), (Op.move (Operand.tmp 29)), none, ann0⟩,
  ⟨(some 31), (Op.move (Operand.tmp 3)), (some (30, false)), ann0⟩,
  ⟨(some 32), (Op.move (Operand.tmp 5)), (some (30, false)), ann0⟩,
  ⟨(some 33), (Op.call { callee := (Callee.value (Operand.func 15)), args := #[(Operand.tmp 31), (Operand.tmp 32)], argTypes := #[23, 23] }), (some (30, false)), ann0⟩,
  ⟨(some 34), (Op.unOp UnOp.not 4 (Operand.tmp 33)), (some (30, false)), ann0⟩,
  ⟨(some 35), (Op.pick (Operand.tmp 30) (Operand.const (Value.bool true)) (Operand.tmp 34)), none, ann0⟩,
  ⟨(some 36), (Op.move (Operand.tmp 35)), none, ann0⟩,
  ⟨(some 37), (Op.move (Operand.tmp 4)), (some (36, false)), ann0⟩,
  ⟨(some 38), (Op.binOp BinOp.neq 38 (Operand.tmp 37) (Operand.const (Value.int IntKind.i64 0)) 38), (some (36, false)), ann0⟩,
  ⟨(some 39), (Op.pick (Operand.tmp 36) (Operand.const (Value.bool true)) (Operand.tmp 38)), none, ann0⟩] none) (.tidy [0, 3, 4, 5, 6, 39] z (z + 0)))
 (.cond (Operand.tmp 39) (.seq (.reg [⟨(some 40), (Op.move (Operand.tmp 4)), none, ann0⟩,
  ⟨(some 41), (Op.move (Operand.tmp 6)), none, ann0⟩,
  ⟨(some 42), (Op.binOp BinOp.eql 38 (Operand.tmp 40) (Operand.tmp 41) 38), none, ann0⟩,
  ⟨(some 43), (Op.move (Operand.tmp 42)), none, ann0⟩,
  ⟨(some 44), (Op.move (Operand.tmp 3)), (some (43, true)), ann0⟩,
  ⟨(some 45), (Op.call { callee := (Callee.builtin Builtin.len), args := #[(Operand.tmp 44)], argTypes := #[23] }), (some (43, true)), ann0⟩,
  ⟨(some 46), (Op.move (Operand.tmp 5)), (some (43, true)), ann0⟩,
  ⟨(some 47), (Op.call { callee := (Callee.builtin Builtin.len), args := #[(Operand.tmp 46)], argTypes := #[23] }), (some (43, true)), ann0⟩,
  ⟨(some 48), (Op.binOp BinOp.eql 3 (Operand.tmp 45) (Operand.tmp 47) 3), (some (43, true)), ann0⟩,
  ⟨(some 49), (Op.pick (Operand.tmp 43) (Operand.tmp 48) (Operand.const (Value.bool false))), none, ann0⟩,
  ⟨(some 50), (Op.move (Operand.tmp 49)), none, ann0⟩,
  ⟨(some 51), (Op.move (Operand.tmp 4)), (some (50, true)), ann0⟩,
  ⟨(some 52), (Op.binOp BinOp.eql 38 (Operand.tmp 51) (Operand.const (Value.int IntKind.i64 0)) 38), (some (50, true)), ann0⟩,
  ⟨(some 53), (Op.move (Operand.tmp 6)), (some (50, true)), ann0⟩,
  ⟨(some 54), (Op.binOp BinOp.eql 38 (Operand.tmp 53) (Operand.const (Value.int IntKind.i64 0)) 38), (some (50, true)), ann0⟩,
  ⟨(some 55), (Op.binOp BinOp.eql 4 (Operand.tmp 52) (Operand.tmp 54) 4), (some (50, true)), ann0⟩,
  ⟨(some 56), (Op.pick (Operand.tmp 50) (Operand.tmp 55) (Operand.const (Value.bool false))), none, ann0⟩,
  ⟨(some 57), (Op.move (Operand.tmp 56)), none, ann0⟩,
  ⟨(some 58), (Op.move (Operand.tmp 4)), (some (57, true)), ann0⟩,
  ⟨(some 59), (Op.binOp BinOp.neq 38 (Operand.tmp 58) (Operand.const (Value.int IntKind.i64 0)) 38), (some (57, true)), ann0⟩,
  ⟨(some 60), (Op.move (Operand.tmp 59)), (some (57, true)), ann0⟩,
  ⟨(some 61), (Op.move (Operand.tmp 3)), (some (60, false)), ann0⟩,
  ⟨(some 62), (Op.move (Operand.tmp 5)), (some (60, false)), ann0⟩,
  ⟨(some 63), (Op.call { callee := (Callee.value (Operand.func 15)), args := #[(Operand.tmp 61), (Operand.tmp 62)], argTypes := #[23, 23] }), (some (60, false)), ann0⟩,
  ⟨(some 64), (Op.pick (Operand.tmp 60) (Operand.const (Value.bool true)) (Operand.tmp 63)), (some (57, true)), ann0⟩,
  ⟨(some 65), (Op.pick (Operand.tmp 57) (Operand.tmp 64) (Operand.const (Value.bool false))), none, ann0⟩,
  ⟨(some 2), (Op.assign (Operand.tmp 65)), none, ann0⟩] none)
 .ret)
 .skip)) (.tidy [0, 3] z (z + 0)))
 (.seq (.reg [⟨(some 67), (Op.move (Operand.tmp 3)), none, ann0⟩,
  ⟨(some 68), (Op.call { callee := (Callee.value (Operand.func 26)), args := #[(Operand.tmp 67)], argTypes := #[23] }), none, ann0⟩,
  ⟨(some 66), (Op.move (Operand.tmp 68)), none, ann0⟩,
  ⟨(some 69), (Op.extract (Operand.tmp 66) 0), none, ann0⟩,
  ⟨(some 70), (Op.extract (Operand.tmp 66) 1), none, ann0⟩,
  ⟨(some 7), (Op.assign (Operand.tmp 69)), none, ann0⟩,
  ⟨(some 8), (Op.assign (Operand.tmp 70)), none, ann0⟩] none)
 (.seq (.reg [⟨(some 71), (Op.move (Operand.tmp 8)), none, ann0⟩,
  ⟨(some 72), (Op.binOp BinOp.eql 38 (Operand.tmp 71) (Operand.const (Value.int IntKind.i64 0)) 38), none, ann0⟩,
  ⟨(some 73), (Op.move (Operand.tmp 72)), none, ann0⟩,
  ⟨(some 74), (Op.move (Operand.tmp 7)), (some (73, true)), ann0⟩,
  ⟨(some 75), (Op.move (Operand.tmp 3)), (some (73, true)), ann0⟩,
  ⟨(some 76), (Op.call { callee := (Callee.value (Operand.func 15)), args := #[(Operand.tmp 74), (Operand.tmp 75)], argTypes := #[23, 23] }), (some (73, true)), ann0⟩,
  ⟨(some 77), (Op.pick (Operand.tmp 73) (Operand.tmp 76) (Operand.const (Value.bool false))), none, ann0⟩,
  ⟨(some 78), (Op.move (Operand.tmp 77)), none, ann0⟩,
  ⟨(some 79), (Op.move (Operand.tmp 3)), (some (78, true)), ann0⟩,
  ⟨(some 80), (Op.call { callee := (Callee.value (Operand.func 24)), args := #[(Operand.tmp 79)], argTypes := #[23] }), (some (78, true)), ann0⟩,
  ⟨(some 81), (Op.binOp BinOp.eql 38 (Operand.tmp 80) (Operand.const (Value.int IntKind.i64 0)) 38), (some (78, true)), ann0⟩,
  ⟨(some 82), (Op.pick (Operand.tmp 78) (Operand.tmp 81) (Operand.const (Value.bool false))), none, ann0⟩,
  ⟨(some 83), (Op.move (Operand.tmp 82)), none, ann0⟩,
  ⟨(some 84), (Op.move (Operand.tmp 0)), (some (83, true)), ann0⟩,
  ⟨(some 85), (Op.call { callee := (Callee.value (Operand.func 24)), args := #[(Operand.tmp 84)], argTypes := #[23] }), (some (83, true)), ann0⟩,
  ⟨(some 86), (Op.binOp BinOp.eql 38 (Operand.tmp 85) (Operand.const (Value.int IntKind.i64 0)) 38), (some (83, true)), ann0⟩,
  ⟨(some 87), (Op.move (Operand.tmp 0)), (some (83, true)), ann0⟩,
  ⟨(some 88), (Op.move (Operand.tmp 3)), (some (83, true)), ann0⟩,
  ⟨(some 89), (Op.call { callee := (Callee.value (Operand.func 15)), args := #[(Operand.tmp 87), (Operand.tmp 88)], argTypes := #[23, 23] }), (some (83, true)), ann0⟩,
  ⟨(some 90), (Op.binOp BinOp.eql 4 (Operand.tmp 86) (Operand.tmp 89) 4), (some (83, true)), ann0⟩,
  ⟨(some 91), (Op.pick (Operand.tmp 83) (Operand.tmp 90) (Operand.const (Value.bool false))), none, ann0⟩,
  ⟨(some 2), (Op.assign (Operand.tmp 91)), none, ann0⟩] none)
 .ret)))))))⟩
theorem F7 (z : Nat) : FOk Try.prog 7 (s7 z) := by unfold FOk; kernel_rfl
def s8 (z : Nat) : SFn := ⟨3, 149, [(ResultVar.tmp 6)],
 (.seq (.reg [⟨(some 5), (Op.box 44 (Operand.tmp 2)), none, ⟨1, false, false⟩⟩,
  ⟨(some 6), (Op.assign (Operand.const (Value.bool false))), none, ann0⟩] none)
 (.seq (.reg [⟨(some 23), (Op.move (Operand.tmp 0)), none, ann0⟩,
  ⟨(some 24), (Op.call { callee := (Callee.value (Operand.func 13)), args := #[(Operand.tmp 23)], argTypes := #[22] }), none, ann0⟩,
  ⟨(some 25), (Op.move (Operand.tmp 1)), none, ann0⟩,
  ⟨(some 26), (Op.call { callee := (Callee.value (Operand.func 13)), args := #[(Operand.tmp 25)], argTypes := #[22] }), none, ann0⟩,
  ⟨(some 7), (Op.assign (Operand.tmp 24)), none, ann0⟩,
  ⟨(some 8), (Op.assign (Operand.tmp 26)), none, ann0⟩] none)
 (.seq (.post (.reg [⟨(some 27), (Op.indexAddr 44 (Operand.tmp 5) (Operand.const (Value.int IntKind.i64 0))), none, ann0⟩,
  ⟨(some 28), (Op.load 3 (Operand.tmp 27)), none, ann0⟩,
  ⟨(some 29), (Op.convert 3 45 (Operand.tmp 28)), none, ann0⟩,
  ⟨(some 30), (Op.binOp BinOp.rem 45 (Operand.tmp 29) (Operand.const (Value.int IntKind.u64 30)) 45), none, ann0⟩,
  ⟨(some 31), (Op.convert 45 3 (Operand.tmp 30)), none, ann0⟩,
  ⟨(some 32), (Op.binOp BinOp.add 3 (Operand.const (Value.int IntKind.i64 1)) (Operand.tmp 31) 3), none, ann0⟩,
  ⟨(some 33), (Op.indexAddr 44 (Operand.tmp 5) (Operand.const (Value.int IntKind.i64 1))), none, ann0⟩,
  ⟨(some 34), (Op.load 3 (Operand.tmp 33)), none, ann0⟩,
  ⟨(some 35), (Op.convert 3 45 (Operand.tmp 34)), none, ann0⟩,
  ⟨(some 36), (Op.binOp BinOp.rem 45 (Operand.tmp 35) (Operand.const (Value.int IntKind.u64 30)) 45), none, ann0⟩,
  ⟨(some 37), (Op.convert 45 3 (Operand.tmp 36)), none, ann0⟩,
  ⟨(some 38), (Op.binOp BinOp.add 3 (Operand.const (Value.int IntKind.i64 1)) (Operand.tmp 37) 3), none, ann0⟩,
  ⟨(some 9), (Op.assign (Operand.tmp 32)), none, ann0⟩,
  ⟨(some 10), (Op.assign (Operand.tmp 38)), none, ann0⟩] (some [0, 1, 3, 7, 15, 31, 0, 64, 192, 448, 960, 1984, 63, 8191])) (.tidy [5, 7, 8, 9, 10] z (z + 1)))
 (.seq (.post (.reg [⟨(some 40), (Op.move (Operand.tmp 7)), none, ann0⟩,
  ⟨(some 41), (Op.move (Operand.tmp 9)), none, ann0⟩,
  ⟨(some 42), (Op.call { callee := (Callee.value (Operand.func 28)), args := #[(Operand.tmp 40), (Operand.tmp 41)], argTypes := #[23, 3] }), none, ann0⟩,
  ⟨(some 39), (Op.move (Operand.tmp 42)), none, ann0⟩,
  ⟨(some 43), (Op.extract (Operand.tmp 39) 0), none, ann0⟩,
  ⟨(some 44), (Op.extract (Operand.tmp 39) 1), none, ann0⟩,
  ⟨(some 11), (Op.assign (Operand.tmp 43)), none, ann0⟩,
  ⟨(some 12), (Op.assign (Operand.tmp 44)), none, ann0⟩] none) (.tidy [5, 7, 8, 9, 10, 11, 12] z (z + 1)))
 (.seq (.post (.reg [⟨(some 46), (Op.move (Operand.tmp 8)), none, ann0⟩,
  ⟨(some 47), (Op.move (Operand.tmp 9)), none, ann0⟩,
  ⟨(some 48), (Op.call { callee := (Callee.value (Operand.func 28)), args := #[(Operand.tmp 46), (Operand.tmp 47)], argTypes := #[23, 3] }), none, ann0⟩,
  ⟨(some 45), (Op.move (Operand.tmp 48)), none, ann0⟩,
  ⟨(some 49), (Op.extract (Operand.tmp 45) 0), none, ann0⟩,
  ⟨(some 50), (Op.extract (Operand.tmp 45) 1), none, ann0⟩,
  ⟨(some 13), (Op.assign (Operand.tmp 49)), none, ann0⟩,
  ⟨(some 14), (Op.assign (Operand.tmp 50)), none, ann0⟩] none) (.tidy [5, 7, 8, 9, 10, 11, 12, 13, 14] z (z + 1)))
 (.seq (.post (.reg [⟨(some 52), (Op.move (Operand.tmp 7)), none, ann0⟩,
  ⟨(some 53), (Op.move (Operand.tmp 8)), none, ann0⟩,
  ⟨(some 54), (Op.call { callee := (Callee.value (Operand.func 16)), args := #[(Operand.tmp 52), (Operand.tmp 53)], argTypes := #[23, 23] }), none, ann0⟩,
  ⟨(some 55), (Op.move (Operand.tmp 9)), none, ann0⟩,
  ⟨(some 56), (Op.call { callee := (Callee.value (Operand.func 28)), args := #[(Operand.tmp 54), (Operand.tmp 55)], argTypes := #[23, 3] }), none, ann0⟩,
  ⟨(some 51), (Op.move (Operand.tmp 56)), none, ann0⟩,
  ⟨(some 57), (Op.extract (Operand.tmp 51) 0), none, ann0⟩,
  ⟨(some 58), (Op.extract (Operand.tmp 51) 1), none, ann0⟩,
  ⟨(some 15), (Op.assign (Operand.tmp 57)), none, ann0⟩,
  ⟨(some 16), (Op.assign (Operand.tmp 58)), none, ann0⟩] none) (.tidy [5, 7, 9, 10, 11, 12, 13, 14, 15, 16] z (z + 1)))
 (.seq (.post (.reg [⟨(some 60), (Op.move (Operand.tmp 11)), none, ann0⟩,
  ⟨(some 61), (Op.move (Operand.tmp 10)), none, ann0⟩,
  ⟨(some 62), (Op.call { callee := (Callee.value (Operand.func 28)), args := #[(Operand.tmp 60), (Operand.tmp 61)], argTypes := #[23, 3] }), none, ann0⟩,
  ⟨(some 59), (Op.move (Operand.tmp 62)), none, ann0⟩,
  ⟨(some 63), (Op.extract (Operand.tmp 59) 0), none, ann0⟩,
  ⟨(some 64), (Op.extract (Operand.tmp 59) 1), none, ann0⟩,
  ⟨(some 17), (Op.assign (Operand.tmp 63)), none, ann0⟩,
  ⟨(some 18), (Op.assign (Operand.tmp 64)), none, ann0⟩] none) (.tidy [5, 7, 9, 10, 11, 12, 13, 14, 15, 16, 17, 18] z (z + 1)))
 (.seq (.post (.reg [⟨(some 66), (Op.move (Operand.tmp 7)), none, ann0⟩,
  ⟨(some 67), (Op.move (Operand.tmp 9)), none, ann0⟩,
  ⟨(some 68), (Op.move (Operand.tmp 10)), none, ann0⟩,
  ⟨(some 69), (Op.binOp BinOp.mul 3 (Operand.tmp 67) (Operand.tmp 68) 3), none, ann0⟩,
  ⟨(some 70), (Op.call { callee := (Callee.value (Operand.func 28)), args := #[(Operand.tmp 66), (Operand.tmp 69)], argTypes := #[23, 3] }), none, ann0⟩,
  ⟨(some 65), (Op.move (Operand.tmp 70)), none, ann0⟩,
  ⟨(some 71), (Op.extract (Operand.tmp 65) 0), none, ann0⟩,
  ⟨(some 72), (Op.extract (Operand.tmp 65) 1), none, ann0⟩,
  ⟨(some 19), (Op.assign (Operand.tmp 71)), none, ann0⟩,
  ⟨(some 20), (Op.assign (Operand.tmp 72)), none, ann0⟩] none) (.tidy [5, 7, 9, 11, 12, 13, 14, 15, 16, 17, 18, 19, 20] z (z + 1)))
 (.seq (.post (.seq (.post (.reg [⟨(some 73), (Op.call { callee := (Callee.value (Operand.func 14)), args := #[], argTypes := #[] }), none, ann0⟩,
  ⟨(some 74), (Op.unOp UnOp.not 4 (Operand.tmp 73)), none, ann0⟩,
  ⟨(some 75), (Op.move (Operand.tmp 74)), none, ann0⟩,
  ⟨(some 76), (Op.move (Operand.tmp 12)), (some (75, false)), ann0⟩,
  ⟨(some 77), (Op.binOp BinOp.neq 38 (Operand.tmp 76) (Operand.const (Value.int IntKind.i64 0)) 38), (some (75, false)), ann0⟩,
  ⟨(some 78), (Op.pick (Operand.tmp 75) (Operand.const (Value.bool true)) (Operand.tmp 77)), none, ann0⟩,
  ⟨(some 79), (Op.move (Operand.tmp 78)), none, ann0⟩,
  ⟨(some 80), (Op.move (Operand.tmp 14)), (some (79, false)), ann0⟩,
  ⟨(some 81), (Op.binOp BinOp.neq 38 (Operand.tmp 80) (Operand.const (Value.int IntKind.i64 0)) 38), (some (79, false)), ann0⟩,
  ⟨(some 82), (Op.pick (Operand.tmp 79) (Operand.const (Value.bool true)) (Operand.tmp 81)), none, ann0⟩,
  ⟨(some 83), (Op.move (Operand.tmp 82)), none, ann0⟩,
  ⟨(some 84), (Op.move (Operand.tmp 16)), (some (83, false)), ann0⟩,
  ⟨(some 85), (Op.binOp BinOp.neq 38 (Operand.tmp 84) (Operand.const (Value.int IntKind.i64 0)) 38), (some (83, false)), ann0⟩,
  ⟨(some 86), (Op.pick (Operand.tmp 83) (Operand.const (Value.bool true)) (Operand.tmp 85)), none, ann0⟩,
  ⟨(some 87), (Op.move (Operand.tmp 86)), none, ann0⟩,
  ⟨(some 88), (Op.move (Operand.tmp 18)), (some (87, false)), ann0⟩,
  ⟨(some 89), (Op.binOp BinOp.neq 38 (Operand.tmp 88) (Operand.const (Value.int IntKind.i64 0)) 38), (some (87, false)), ann0⟩,
  ⟨(some 90), (Op.pick (Operand.tmp 87) (Operand.const (Value.bool true)) (Operand.tmp 89)), none, ann0⟩,
  ⟨(some 91), (Op.move (Operand.tmp 90)), none, ann0⟩,
  ⟨(some 92), (Op.move (Operand.tmp 20)), (some (91, false)), ann0⟩,
  ⟨(some 93), (Op.binOp BinOp.neq 38 (Operand.tmp 92) (Operand.const (Value.int IntKind.i64 0)) 38), (some (91, false)), ann0⟩,
  ⟨(some 94), (Op.pick (Operand.tmp 91) (Operand.const (Value.bool true)) (Operand.tmp 93)), none, ann0⟩,
  ⟨(some 95), (Op.move (Operand.tmp 94)), none, ann0⟩,
  ⟨(some 96), (Op.move (Operand.tmp 11)), (some (95, false)), ann0⟩,
  ⟨(some 97), (Op.move (Operand.tmp 7)), (some (95, false)), ann0⟩,
  ⟨(some 98), (Op.move (Operand.tmp 9)), (some (95, false)), ann0⟩,
  ⟨(some 99), (Op.call { callee := (Callee.value (Operand.func 29)), args := #[(Operand.tmp 97), (Operand.tmp 98)], argTypes := #[23, 3] }), (some (95, false)), ann0⟩,
  ⟨(some 100), (Op.call { callee := (Callee.value (Operand.func 15)), args := #[(Operand.tmp 96), (Operand.tmp 99)], argTypes := #[23, 23] }), (some (95, false)), ann0⟩,
  ⟨(some 101), (Op.unOp UnOp.not 4 (Operand.tmp 100)), (some (95, false)), ann0⟩,
  ⟨(some 102), (Op.pick (Operand.tmp 95) (Operand.const (Value.bool true)) (Operand.tmp 101)), none, ann0⟩,
  ⟨(some 103), (Op.move (Operand.tmp 102)), none, ann0⟩,
  ⟨(some 104), (Op.move (Operand.tmp 15)), (some (103, false)), ann0⟩,
  ⟨(some 105), (Op.move (Operand.tmp 11)), (some (103, false)), ann0⟩,
  ⟨(some 106), (Op.move (Operand.tmp 13)), (some (103, false)), ann0⟩,
  ⟨(some 107), (Op.call { callee := (Callee.value (Operand.func 16)), args := #[(Operand.tmp 105), (Operand.tmp 106)], argTypes := #[23, 23] }), (some (103, false)), ann0⟩,
  ⟨(some 108), (Op.call { callee := (Callee.value (Operand.func 15)), args := #[(Operand.tmp 104), (Operand.tmp 107)], argTypes := #[23, 23] }), (some (103, false)), ann0⟩,
  ⟨(some 109), (Op.unOp UnOp.not 4 (Operand.tmp 108)), (some (103, false)), ann0⟩,
  ⟨(some 110), (Op.pick (Operand.tmp 103) (Operand.const (Value.bool true)) (Operand.tmp 109)), none, ann0⟩,
  ⟨(some 111), (Op.move (Operand.tmp 110)), none, ann0⟩,
  ⟨(some 112), (Op.move (Operand.tmp 17)), (some (111, false)), ann0⟩,
  ⟨(some 113), (Op.move (Operand.tmp 19)), (some (111, false)), ann0⟩,
  ⟨(some 114), (Op.call { callee := (Callee.value (Operand.func 15)), args := #[(Operand.tmp 112), (Operand.tmp 113)], argTypes := #[23, 23] }), (some (111, false)), ann0⟩,
  ⟨(some 115), (Op.unOp UnOp.not 4 (Operand.tmp 114)), (some (111, false)), ann0⟩,
  ⟨(some 116), (Op.pick (Operand.tmp 111) (Operand.const (Value.bool true)) (Operand.tmp 115)), none, ann0⟩] none) (.tidy [5, 7, 116] z (z + 1)))
 (.cond (Operand.tmp 116) (.seq (.reg [⟨(some 6), (Op.assign (Operand.const (Value.bool false))), none, ann0⟩] none)
 .ret)
 .skip)) (.tidy [5, 7] z (z + 1)))
 (.seq (.post (.reg [⟨(some 118), (Op.move (Operand.tmp 7)), none, ann0⟩,
  ⟨(some 119), (Op.indexAddr 44 (Operand.tmp 5) (Operand.const (Value.int IntKind.i64 2))), none, ann0⟩,
  ⟨(some 120), (Op.load 3 (Operand.tmp 119)), none, ann0⟩,
  ⟨(some 121), (Op.call { callee := (Callee.value (Operand.func 28)), args := #[(Operand.tmp 118), (Operand.tmp 120)], argTypes := #[23, 3] }), none, ann0⟩,
  ⟨(some 117), (Op.move (Operand.tmp 121)), none, ann0⟩,
  ⟨(some 122), (Op.extract (Operand.tmp 117) 0), none, ann0⟩,
  ⟨(some 123), (Op.extract (Operand.tmp 117) 1), none, ann0⟩,
  ⟨(some 21), (Op.assign (Operand.tmp 122)), none, ann0⟩,
  ⟨(some 22), (Op.assign (Operand.tmp 123)), none, ann0⟩] none) (.tidy [5, 7, 21, 22] z (z + 1)))
 (.seq (.post (.seq (.post (.reg [⟨(some 124), (Op.indexAddr 44 (Operand.tmp 5) (Operand.const (Value.int IntKind.i64 2))), none, ann0⟩,
  ⟨(some 125), (Op.load 3 (Operand.tmp 124)), none, ann0⟩,
  ⟨(some 126), (Op.binOp BinOp.lss 3 (Operand.tmp 125) (Operand.const (Value.int IntKind.i64 1)) 3), none, ann0⟩,
  ⟨(some 127), (Op.move (Operand.tmp 126)), none, ann0⟩,
  ⟨(some 128), (Op.indexAddr 44 (Operand.tmp 5) (Operand.const (Value.int IntKind.i64 2))), (some (127, false)), ann0⟩,
  ⟨(some 129), (Op.load 3 (Operand.tmp 128)), (some (127, false)), ann0⟩,
  ⟨(some 130), (Op.binOp BinOp.gtr 3 (Operand.tmp 129) (Operand.const (Value.int IntKind.i64 1125899906842624)) 3), (some (127, false)), ann0⟩,
  ⟨(some 131), (Op.pick (Operand.tmp 127) (Operand.const (Value.bool true)) (Operand.tmp 130)), none, ann0⟩] none) (.tidy [5, 7, 21, 22, 131] z (z + 1)))
 (.cond (Operand.tmp 131) (.seq (.reg [⟨(some 132), (Op.move (Operand.tmp 22)), none, ann0⟩,
  ⟨(some 133), (Op.binOp BinOp.eql 38 (Operand.tmp 132) (Operand.const (Value.int IntKind.i64 2)) 38), none, ann0⟩,
  ⟨(some 134), (Op.move (Operand.tmp 133)), none, ann0⟩,
  ⟨(some 135), (Op.move (Operand.tmp 21)), (some (134, true)), ann0⟩,
  ⟨(some 136), (Op.call { callee := (Callee.builtin Builtin.len), args := #[(Operand.tmp 135)], argTypes := #[23] }), (some (134, true)), ann0⟩,
  ⟨(some 137), (Op.binOp BinOp.eql 3 (Operand.tmp 136) (Operand.const (Value.int IntKind.i64 0)) 3), (some (134, true)), ann0⟩,
  ⟨(some 138), (Op.pick (Operand.tmp 134) (Operand.tmp 137) (Operand.const (Value.bool false))), none, ann0⟩,
  ⟨(some 6), (Op.assign (Operand.tmp 138)), none, ann0⟩] none)
 .ret)
 .skip)) (.tidy [5, 7, 21, 22] z (z + 1)))
 (.seq (.reg [⟨(some 139), (Op.move (Operand.tmp 22)), none, ann0⟩,
  ⟨(some 140), (Op.binOp BinOp.eql 38 (Operand.tmp 139) (Operand.const (Value.int IntKind.i64 0)) 38), none, ann0⟩,
  ⟨(some 141), (Op.move (Operand.tmp 140)), none, ann0⟩,
  ⟨(some 142), (Op.move (Operand.tmp 21)), (some (141, true)), ann0⟩,
  ⟨(some 143), (Op.move (Operand.tmp 7)), (some (141, true)), ann0⟩,
  ⟨(some 144), (Op.indexAddr 44 (Operand.tmp 5) (Operand.const (Value.int IntKind.i64 2))), (some (141, true)), ann0⟩,
  ⟨(some 145), (Op.load 3 (Operand.tmp 144)), (some (141, true)), ann0⟩,
  ⟨(some 146), (Op.call { callee := (Callee.value (Operand.func 29)), args := #[(Operand.tmp 143), (Operand.tmp 145)], argTypes := #[23, 3] }), (some (141, true)), ann0⟩,
  ⟨(some 147), (Op.call { callee := (Callee.value (Operand.func 15)), args := #[(Operand.tmp 142), (Operand.tmp 146)], argTypes := #[23, 23] }), (some (141, true)), ann0⟩,
  ⟨(some 148), (Op.pick (Operand.tmp 141) (Operand.tmp 147) (Operand.const (Value.bool false))), none, ann0⟩,
  ⟨(some 6), (Op.assign (Operand.tmp 148)), none, ann0⟩] none)
 .ret))))))))))))⟩
theorem F8 (z : Nat) : FOk Try.prog 8 (s8 z) := by unfold FOk; kernel_rfl
def s9 (z : Nat) : SFn := ⟨3, 110, [(ResultVar.tmp 6)],
 (.seq (.reg [⟨(some 6), (Op.assign (Operand.const (Value.bool false))), none, ann0⟩] none)
 (.seq (.reg [⟨(some 19), (Op.move (Operand.tmp 0)), none, ann0⟩,
  ⟨(some 20), (Op.call { callee := (Callee.value (Operand.func 13)), args := #[(Operand.tmp 19)], argTypes := #[22] }), none, ann0⟩,
  ⟨(some 7), (Op.assign (Operand.tmp 20)), none, ann0⟩] none)
 (.seq (.post (.reg [⟨(some 22), (Op.move (Operand.tmp 7)), none, ann0⟩,
  ⟨(some 23), (Op.move (Operand.tmp 1)), none, ann0⟩,
  ⟨(some 24), (Op.call { callee := (Callee.value (Operand.func 30)), args := #[(Operand.tmp 22), (Operand.tmp 23)], argTypes := #[23, 3] }), none, ann0⟩,
  ⟨(some 21), (Op.move (Operand.tmp 24)), none, ann0⟩,
  ⟨(some 25), (Op.extract (Operand.tmp 21) 0), none, ann0⟩,
  ⟨(some 26), (Op.extract (Operand.tmp 21) 1), none, ann0⟩,
  ⟨(some 8), (Op.assign (Operand.tmp 25)), none, ann0⟩,
  ⟨(some 9), (Op.assign (Operand.tmp 26)), none, ann0⟩] none) (.tidy [1, 2, 7, 8, 9] z (z + 0)))
 (.seq (.post (.reg [⟨(some 28), (Op.move (Operand.tmp 7)), none, ann0⟩,
  ⟨(some 29), (Op.move (Operand.tmp 1)), none, ann0⟩,
  ⟨(some 30), (Op.move (Operand.tmp 2)), none, ann0⟩,
  ⟨(some 31), (Op.call { callee := (Callee.value (Operand.func 31)), args := #[(Operand.tmp 28), (Operand.tmp 29), (Operand.tmp 30)], argTypes := #[23, 3, 3] }), none, ann0⟩,
  ⟨(some 27), (Op.move (Operand.tmp 31)), none, ann0⟩,
  ⟨(some 32), (Op.extract (Operand.tmp 27) 0), none, ann0⟩,
  ⟨(some 33), (Op.extract (Operand.tmp 27) 1), none, ann0⟩,
  ⟨(some 10), (Op.assign (Operand.tmp 32)), none, ann0⟩,
  ⟨(some 11), (Op.assign (Operand.tmp 33)), none, ann0⟩] none) (.tidy [1, 2, 7, 8, 9, 10, 11] z (z + 0)))
 (.seq (.reg [⟨(some 12), (Op.assign (Operand.func 32)), none, ann0⟩] none)
 (.seq (.reg [⟨(some 13), (Op.assign (Operand.const (Value.int IntKind.i64 0))), none, ann0⟩,
  ⟨(some 14), (Op.assign (Operand.const (Value.int IntKind.i64 0))), none, ann0⟩] none)
 (.seq (.reg [⟨(some 15), (Op.assign (Operand.const (Value.slice none 0 0))), none, ann0⟩,
  ⟨(some 16), (Op.assign (Operand.const (Value.slice none 0 0))), none, ann0⟩] none)
 (.seq (.post (.seq (.reg [⟨(some 34), (Op.move (Operand.tmp 12)), none, ann0⟩,
  ⟨(some 35), (Op.move (Operand.tmp 1)), none, ann0⟩,
  ⟨(some 36), (Op.call { callee := (Callee.value (Operand.tmp 34)), args := #[(Operand.tmp 35)], argTypes := #[3] }), none, ann0⟩] none)
 (.cond (Operand.tmp 36) (.reg [⟨(some 13), (Op.assign (Operand.const (Value.int IntKind.i64 2))), none, ann0⟩] none)
 (.reg [⟨(some 38), (Op.move (Operand.tmp 7)), none, ann0⟩,
  ⟨(some 39), (Op.move (Operand.tmp 1)), none, ann0⟩,
  ⟨(some 40), (Op.binOp BinOp.sub 3 (Operand.const (Value.int IntKind.i64 0)) (Operand.tmp 39) 3), none, ann0⟩,
  ⟨(some 41), (Op.move (Operand.tmp 1)), none, ann0⟩,
  ⟨(some 42), (Op.call { callee := (Callee.value (Operand.func 33)), args := #[(Operand.tmp 38), (Operand.tmp 40), (Operand.tmp 41)], argTypes := #[23, 3, 3] }), none, ann0⟩,
  ⟨(some 37), (Op.move (Operand.tmp 42)), none, ann0⟩,
  ⟨(some 43), (Op.extract (Operand.tmp 37) 0), none, ann0⟩,
  ⟨(some 44), (Op.extract (Operand.tmp 37) 1), none, ann0⟩,
  ⟨(some 15), (Op.assign (Operand.tmp 43)), none, ann0⟩,
  ⟨(some 13), (Op.assign (Operand.tmp 44)), none, ann0⟩] none))) (.tidy [1, 2, 7, 8, 9, 10, 11, 12, 13, 15, 16] z (z + 0)))
 (.seq (.post (.seq (.post (.reg [⟨(some 45), (Op.move (Operand.tmp 12)), none, ann0⟩,
  ⟨(some 46), (Op.move (Operand.tmp 1)), none, ann0⟩,
  ⟨(some 47), (Op.call { callee := (Callee.value (Operand.tmp 45)), args := #[(Operand.tmp 46)], argTypes := #[3] }), none, ann0⟩,
  ⟨(some 48), (Op.move (Operand.tmp 47)), none, ann0⟩,
  ⟨(some 49), (Op.move (Operand.tmp 12)), (some (48, false)), ann0⟩,
  ⟨(some 50), (Op.move (Operand.tmp 2)), (some (48, false)), ann0⟩,
  ⟨(some 51), (Op.call { callee := (Callee.value (Operand.tmp 49)), args := #[(Operand.tmp 50)], argTypes := #[3] }), (some (48, false)), ann0⟩,
  ⟨(some 52), (Op.pick (Operand.tmp 48) (Operand.const (Value.bool true)) (Operand.tmp 51)), none, ann0⟩,
  ⟨(some 53), (Op.move (Operand.tmp 52)), none, ann0⟩,
  ⟨(some 54), (Op.move (Operand.tmp 1)), (some (53, false)), ann0⟩,
  ⟨(some 55), (Op.binOp BinOp.lss 3 (Operand.tmp 54) (Operand.const (Value.int IntKind.i64 0)) 3), (some (53, false)), ann0⟩,
  ⟨(some 56), (Op.pick (Operand.tmp 53) (Operand.const (Value.bool true)) (Operand.tmp 55)), none, ann0⟩,
  ⟨(some 57), (Op.move (Operand.tmp 56)), none, ann0⟩,
  ⟨(some 58), (Op.move (Operand.tmp 2)), (some (57, false)), ann0⟩,
  ⟨(some 59), (Op.binOp BinOp.lss 3 (Operand.tmp 58) (Operand.const (Value.int IntKind.i64 0)) 3), (some (57, false)), ann0⟩,
  ⟨(some 60), (Op.pick (Operand.tmp 57) (Operand.const (Value.bool true)) (Operand.tmp 59)), none, ann0⟩] none) (.tidy [1, 2, 7, 8, 9, 10, 11, 13, 15, 16, 60] z (z + 0)))
 (.cond (Operand.tmp 60) (.reg [⟨(some 14), (Op.assign (Operand.const (Value.int IntKind.i64 2))), none, ann0⟩] none)
 (.reg [⟨(some 62), (Op.move (Operand.tmp 7)), none, ann0⟩,
  ⟨(some 63), (Op.move (Operand.tmp 1)), none, ann0⟩,
  ⟨(some 64), (Op.move (Operand.tmp 2)), none, ann0⟩,
  ⟨(some 65), (Op.call { callee := (Callee.value (Operand.func 33)), args := #[(Operand.tmp 62), (Operand.tmp 63), (Operand.tmp 64)], argTypes := #[23, 3, 3] }), none, ann0⟩,
  ⟨(some 61), (Op.move (Operand.tmp 65)), none, ann0⟩,
  ⟨(some 66), (Op.extract (Operand.tmp 61) 0), none, ann0⟩,
  ⟨(some 67), (Op.extract (Operand.tmp 61) 1), none, ann0⟩,
  ⟨(some 16), (Op.assign (Operand.tmp 66)), none, ann0⟩,
  ⟨(some 14), (Op.assign (Operand.tmp 67)), none, ann0⟩] none))) (.tidy [1, 7, 8, 9, 10, 11, 13, 14, 15, 16] z (z + 0)))
 (.seq (.post (.seq (.post (.reg [⟨(some 68), (Op.call { callee := (Callee.value (Operand.func 14)), args := #[], argTypes := #[] }), none, ann0⟩,
  ⟨(some 69), (Op.unOp UnOp.not 4 (Operand.tmp 68)), none, ann0⟩,
  ⟨(some 70), (Op.move (Operand.tmp 69)), none, ann0⟩,
  ⟨(some 71), (Op.move (Operand.tmp 9)), (some (70, false)), ann0⟩,
  ⟨(some 72), (Op.move (Operand.tmp 13)), (some (70, false)), ann0⟩,
  ⟨(some 73), (Op.binOp BinOp.neq 38 (Operand.tmp 71) (Operand.tmp 72) 38), (some (70, false)), ann0⟩,
  ⟨(some 74), (Op.pick (Operand.tmp 70) (Operand.const (Value.bool true)) (Operand.tmp 73)), none, ann0⟩,
  ⟨(some 75), (Op.move (Operand.tmp 74)), none, ann0⟩,
  ⟨(some 76), (Op.move (Operand.tmp 11)), (some (75, false)), ann0⟩,
  ⟨(some 77), (Op.move (Operand.tmp 14)), (some (75, false)), ann0⟩,
  ⟨(some 78), (Op.binOp BinOp.neq 38 (Operand.tmp 76) (Operand.tmp 77) 38), (some (75, false)), ann0⟩,
  ⟨(some 79), (Op.pick (Operand.tmp 75) (Operand.const (Value.bool true)) (Operand.tmp 78)), none, ann0⟩,
  ⟨(some 80), (Op.move (Operand.tmp 79)), none, ann0⟩,
  ⟨(some 81), (Op.move (Operand.tmp 8)), (some (80, false)), ann0⟩,
  ⟨(some 82), (Op.move (Operand.tmp 15)), (some (80, false)), ann0⟩,
  ⟨(some 83), (Op.call { callee := (Callee.value (Operand.func 15)), args := #[(Operand.tmp 81), (Operand.tmp 82)], argTypes := #[23, 23] }), (some (80, false)), ann0⟩,
  ⟨(some 84), (Op.unOp UnOp.not 4 (Operand.tmp 83)), (some (80, false)), ann0⟩,
  ⟨(some 85), (Op.pick (Operand.tmp 80) (Operand.const (Value.bool true)) (Operand.tmp 84)), none, ann0⟩,
  ⟨(some 86), (Op.move (Operand.tmp 85)), none, ann0⟩,
  ⟨(some 87), (Op.move (Operand.tmp 10)), (some (86, false)), ann0⟩,
  ⟨(some 88), (Op.move (Operand.tmp 16)), (some (86, false)), ann0⟩,
  ⟨(some 89), (Op.call { callee := (Callee.value (Operand.func 15)), args := #[(Operand.tmp 87), (Operand.tmp 88)], argTypes := #[23, 23] }), (some (86, false)), ann0⟩,
  ⟨(some 90), (Op.unOp UnOp.not 4 (Operand.tmp 89)), (some (86, false)), ann0⟩,
  ⟨(some 91), (Op.pick (Operand.tmp 86) (Operand.const (Value.bool true)) (Operand.tmp 90)), none, ann0⟩] none) (.tidy [1, 7, 8, 9, 91] z (z + 0)))
 (.cond (Operand.tmp 91) (.seq (.reg [⟨(some 6), (Op.assign (Operand.const (Value.bool false))), none, ann0⟩] none)
 .ret)
 .skip)) (.tidy [1, 7, 8, 9] z (z + 0)))
 (.seq (.post (.reg [⟨(some 93), (Op.move (Operand.tmp 8)), none, ann0⟩,
  ⟨(some 94), (Op.move (Operand.tmp 1)), none, ann0⟩,
  ⟨(some 95), (Op.binOp BinOp.sub 3 (Operand.const (Value.int IntKind.i64 0)) (Operand.tmp 94) 3), none, ann0⟩,
  ⟨(some 96), (Op.call { callee := (Callee.value (Operand.func 30)), args := #[(Operand.tmp 93), (Operand.tmp 95)], argTypes := #[23, 3] }), none, ann0⟩,
  ⟨(some 92), (Op.move (Operand.tmp 96)), none, ann0⟩,
  ⟨(some 97), (Op.extract (Operand.tmp 92) 0), none, ann0⟩,
  ⟨(some 98), (Op.extract (Operand.tmp 92) 1), none, ann0⟩,
  ⟨(some 17), (Op.assign (Operand.tmp 97)), none, ann0⟩,
  ⟨(some 18), (Op.assign (Operand.tmp 98)), none, ann0⟩] none) (.tidy [7, 9, 17, 18] z (z + 0)))
 (.seq (.reg [⟨(some 99), (Op.move (Operand.tmp 9)), none, ann0⟩,
  ⟨(some 100), (Op.binOp BinOp.neq 38 (Operand.tmp 99) (Operand.const (Value.int IntKind.i64 0)) 38), none, ann0⟩,
  ⟨(some 101), (Op.move (Operand.tmp 100)), none, ann0⟩,
  ⟨(some 102), (Op.move (Operand.tmp 18)), (some (101, false)), ann0⟩,
  ⟨(some 103), (Op.binOp BinOp.eql 38 (Operand.tmp 102) (Operand.const (Value.int IntKind.i64 0)) 38), (some (101, false)), ann0⟩,
  ⟨(some 104), (Op.move (Operand.tmp 103)), (some (101, false)), ann0⟩,
  ⟨(some 105), (Op.move (Operand.tmp 17)), (some (104, true)), ann0⟩,
  ⟨(some 106), (Op.move (Operand.tmp 7)), (some (104, true)), ann0⟩,
  ⟨(some 107), (Op.call { callee := (Callee.value (Operand.func 15)), args := #[(Operand.tmp 105), (Operand.tmp 106)], argTypes := #[23, 23] }), (some (104, true)), ann0⟩,
  ⟨(some 108), (Op.pick (Operand.tmp 104) (Operand.tmp 107) (Operand.const (Value.bool false))), (some (101, false)), ann0⟩,
  ⟨(some 109), (Op.pick (Operand.tmp 101) (Operand.const (Value.bool true)) (Operand.tmp 108)), none, ann0⟩,
  ⟨(some 6), (Op.assign (Operand.tmp 109)), none, ann0⟩] none)
 .ret))))))))))))⟩
theorem F9 (z : Nat) : FOk Try.prog 9 (s9 z) := by unfold FOk; kernel_rfl
def s10 (z : Nat) : SFn := ⟨2, 68, [(ResultVar.tmp 4)],
 (.seq (.reg [⟨(some 4), (Op.assign (Operand.const (Value.bool false))), none, ann0⟩] none)
 (.seq (.reg [⟨(some 8), (Op.move (Operand.tmp 0)), none, ann0⟩,
  ⟨(some 9), (Op.call { callee := (Callee.value (Operand.func 13)), args := #[(Operand.tmp 8)], argTypes := #[22] }), none, ann0⟩,
  ⟨(some 5), (Op.assign (Operand.tmp 9)), none, ann0⟩] none)
 (.seq (.post (.seq (.post (.reg [⟨(some 10), (Op.call { callee := (Callee.value (Operand.func 14)), args := #[], argTypes := #[] }), none, ann0⟩,
  ⟨(some 11), (Op.unOp UnOp.not 4 (Operand.tmp 10)), none, ann0⟩,
  ⟨(some 12), (Op.move (Operand.tmp 11)), none, ann0⟩,
  ⟨(some 13), (Op.move (Operand.tmp 5)), (some (12, false)), ann0⟩,
  ⟨(some 14), (Op.call { callee := (Callee.value (Operand.func 20)), args := #[(Operand.tmp 13)], argTypes := #[23] }), (some (12, false)), ann0⟩,
  ⟨(some 15), (Op.move (Operand.tmp 5)), (some (12, false)), ann0⟩,
  ⟨(some 16), (Op.call { callee := (Callee.value (Operand.func 34)), args := #[(Operand.tmp 15)], argTypes := #[23] }), (some (12, false)), ann0⟩,
  ⟨(some 17), (Op.binOp BinOp.neq 3 (Operand.tmp 14) (Operand.tmp 16) 3), (some (12, false)), ann0⟩,
  ⟨(some 18), (Op.pick (Operand.tmp 12) (Operand.const (Value.bool true)) (Operand.tmp 17)), none, ann0⟩,
  ⟨(some 19), (Op.move (Operand.tmp 18)), none, ann0⟩,
  ⟨(some 20), (Op.move (Operand.tmp 5)), (some (19, false)), ann0⟩,
  ⟨(some 21), (Op.move (Operand.tmp 1)), (some (19, false)), ann0⟩,
  ⟨(some 22), (Op.call { callee := (Callee.value (Operand.func 35)), args := #[(Operand.tmp 20), (Operand.tmp 21)], argTypes := #[23, 3] }), (some (19, false)), ann0⟩,
  ⟨(some 23), (Op.move (Operand.tmp 5)), (some (19, false)), ann0⟩,
  ⟨(some 24), (Op.move (Operand.tmp 1)), (some (19, false)), ann0⟩,
  ⟨(some 25), (Op.call { callee := (Callee.value (Operand.func 36)), args := #[(Operand.tmp 23), (Operand.tmp 24)], argTypes := #[23, 3] }), (some (19, false)), ann0⟩,
  ⟨(some 26), (Op.binOp BinOp.neq 3 (Operand.tmp 22) (Operand.tmp 25) 3), (some (19, false)), ann0⟩,
  ⟨(some 27), (Op.pick (Operand.tmp 19) (Operand.const (Value.bool true)) (Operand.tmp 26)), none, ann0⟩] none) (.tidy [1, 5, 27] z (z + 0)))
 (.cond (Operand.tmp 27) (.seq (.reg [⟨(some 4), (Op.assign (Operand.const (Value.bool false))), none, ann0⟩] none)
 .ret)
 .skip)) (.tidy [1, 5] z (z + 0)))
 (.seq (.post (.reg [⟨(some 29), (Op.move (Operand.tmp 5)), none, ann0⟩,
  ⟨(some 30), (Op.move (Operand.tmp 1)), none, ann0⟩,
  ⟨(some 31), (Op.call { callee := (Callee.value (Operand.func 37)), args := #[(Operand.tmp 29), (Operand.tmp 30)], argTypes := #[23, 3] }), none, ann0⟩,
  ⟨(some 28), (Op.move (Operand.tmp 31)), none, ann0⟩,
  ⟨(some 32), (Op.extract (Operand.tmp 28) 0), none, ann0⟩,
  ⟨(some 33), (Op.extract (Operand.tmp 28) 1), none, ann0⟩,
  ⟨(some 6), (Op.assign (Operand.tmp 32)), none, ann0⟩,
  ⟨(some 7), (Op.assign (Operand.tmp 33)), none, ann0⟩] none) (.tidy [1, 5, 6, 7] z (z + 0)))
 (.seq (.post (.seq (.post (.reg [⟨(some 34), (Op.move (Operand.tmp 1)), none, ann0⟩,
  ⟨(some 35), (Op.binOp BinOp.lss 3 (Operand.tmp 34) (Operand.const (Value.int IntKind.i64 0)) 3), none, ann0⟩,
  ⟨(some 36), (Op.move (Operand.tmp 35)), none, ann0⟩,
  ⟨(some 37), (Op.move (Operand.tmp 1)), (some (36, false)), ann0⟩,
  ⟨(some 38), (Op.move (Operand.tmp 5)), (some (36, false)), ann0⟩,
  ⟨(some 39), (Op.call { callee := (Callee.value (Operand.func 34)), args := #[(Operand.tmp 38)], argTypes := #[23] }), (some (36, false)), ann0⟩,
  ⟨(some 40), (Op.binOp BinOp.geq 3 (Operand.tmp 37) (Operand.tmp 39) 3), (some (36, false)), ann0⟩,
  ⟨(some 41), (Op.pick (Operand.tmp 36) (Operand.const (Value.bool true)) (Operand.tmp 40)), none, ann0⟩] none) (.tidy [1, 5, 6, 7, 41] z (z + 0)))
 (.cond (Operand.tmp 41) (.seq (.reg [⟨(some 42), (Op.move (Operand.tmp 7)), none, ann0⟩,
  ⟨(some 43), (Op.unOp UnOp.not 4 (Operand.tmp 42)), none, ann0⟩,
  ⟨(some 44), (Op.move (Operand.tmp 43)), none, ann0⟩,
  ⟨(some 45), (Op.move (Operand.tmp 6)), (some (44, true)), ann0⟩,
  ⟨(some 46), (Op.binOp BinOp.eql 3 (Operand.tmp 45) (Operand.const (Value.int IntKind.i64 0)) 3), (some (44, true)), ann0⟩,
  ⟨(some 47), (Op.pick (Operand.tmp 44) (Operand.tmp 46) (Operand.const (Value.bool false))), none, ann0⟩,
  ⟨(some 4), (Op.assign (Operand.tmp 47)), none, ann0⟩] none)
 .ret)
 .skip)) (.tidy [1, 5, 6, 7] z (z + 0)))
 (.seq (.reg [⟨(some 48), (Op.move (Operand.tmp 7)), none, ann0⟩,
  ⟨(some 49), (Op.move (Operand.tmp 48)), none, ann0⟩,
  ⟨(some 50), (Op.move (Operand.tmp 5)), (some (49, true)), ann0⟩,
  ⟨(some 51), (Op.move (Operand.tmp 6)), (some (49, true)), ann0⟩,
  ⟨(some 52), (Op.call { callee := (Callee.value (Operand.func 38)), args := #[(Operand.tmp 50), (Operand.tmp 51)], argTypes := #[23, 3] }), (some (49, true)), ann0⟩,
  ⟨(some 53), (Op.pick (Operand.tmp 49) (Operand.tmp 52) (Operand.const (Value.bool false))), none, ann0⟩,
  ⟨(some 54), (Op.move (Operand.tmp 53)), none, ann0⟩,
  ⟨(some 55), (Op.move (Operand.tmp 5)), (some (54, true)), ann0⟩,
  ⟨(some 56), (Op.move (Operand.tmp 6)), (some (54, true)), ann0⟩,
  ⟨(some 57), (Op.call { callee := (Callee.value (Operand.func 36)), args := #[(Operand.tmp 55), (Operand.tmp 56)], argTypes := #[23, 3] }), (some (54, true)), ann0⟩,
  ⟨(some 58), (Op.move (Operand.tmp 1)), (some (54, true)), ann0⟩,
  ⟨(some 59), (Op.binOp BinOp.eql 3 (Operand.tmp 57) (Operand.tmp 58) 3), (some (54, true)), ann0⟩,
  ⟨(some 60), (Op.pick (Operand.tmp 54) (Operand.tmp 59) (Operand.const (Value.bool false))), none, ann0⟩,
  ⟨(some 61), (Op.move (Operand.tmp 60)), none, ann0⟩,
  ⟨(some 62), (Op.move (Operand.tmp 5)), (some (61, true)), ann0⟩,
  ⟨(some 63), (Op.move (Operand.tmp 6)), (some (61, true)), ann0⟩,
  ⟨(some 64), (Op.call { callee := (Callee.value (Operand.func 35)), args := #[(Operand.tmp 62), (Operand.tmp 63)], argTypes := #[23, 3] }), (some (61, true)), ann0⟩,
  ⟨(some 65), (Op.move (Operand.tmp 1)), (some (61, true)), ann0⟩,
  ⟨(some 66), (Op.binOp BinOp.eql 3 (Operand.tmp 64) (Operand.tmp 65) 3), (some (61, true)), ann0⟩,
  ⟨(some 67), (Op.pick (Operand.tmp 61) (Operand.tmp 66) (Operand.const (Value.bool false))), none, ann0⟩,
  ⟨(some 4), (Op.assign (Operand.tmp 67)), none, ann0⟩] none)
 .ret))))))⟩
theorem F10 (z : Nat) : FOk Try.prog 10 (s10 z) := by unfold FOk; kernel_rfl
def s11 (z : Nat) : SFn := ⟨2, 61, [(ResultVar.tmp 4)],
 (.seq (.reg [⟨(some 4), (Op.assign (Operand.const (Value.bool false))), none, ann0⟩] none)
 (.seq (.reg [⟨(some 14), (Op.move (Operand.tmp 0)), none, ann0⟩,
  ⟨(some 15), (Op.call { callee := (Callee.value (Operand.func 13)), args := #[(Operand.tmp 14)], argTypes := #[22] }), none, ann0⟩,
  ⟨(some 5), (Op.assign (Operand.tmp 15)), none, ann0⟩] none)
 (.seq (.post (.reg [⟨(some 17), (Op.move (Operand.tmp 5)), none, ann0⟩,
  ⟨(some 18), (Op.move (Operand.tmp 1)), none, ann0⟩,
  ⟨(some 19), (Op.call { callee := (Callee.value (Operand.func 39)), args := #[(Operand.tmp 17), (Operand.tmp 18)], argTypes := #[23, 3] }), none, ann0⟩,
  ⟨(some 16), (Op.move (Operand.tmp 19)), none, ann0⟩,
  ⟨(some 20), (Op.extract (Operand.tmp 16) 0), none, ann0⟩,
  ⟨(some 21), (Op.extract (Operand.tmp 16) 1), none, ann0⟩,
  ⟨(some 6), (Op.assign (Operand.tmp 20)), none, ann0⟩,
  ⟨(some 7), (Op.assign (Operand.tmp 21)), none, ann0⟩] none) (.tidy [1, 5, 6, 7] z (z + 0)))
 (.seq (.post (.reg [⟨(some 23), (Op.move (Operand.tmp 5)), none, ann0⟩,
  ⟨(some 24), (Op.move (Operand.tmp 1)), none, ann0⟩,
  ⟨(some 25), (Op.call { callee := (Callee.value (Operand.func 40)), args := #[(Operand.tmp 23), (Operand.tmp 24)], argTypes := #[23, 3] }), none, ann0⟩,
  ⟨(some 22), (Op.move (Operand.tmp 25)), none, ann0⟩,
  ⟨(some 26), (Op.extract (Operand.tmp 22) 0), none, ann0⟩,
  ⟨(some 27), (Op.extract (Operand.tmp 22) 1), none, ann0⟩,
  ⟨(some 8), (Op.assign (Operand.tmp 26)), none, ann0⟩,
  ⟨(some 9), (Op.assign (Operand.tmp 27)), none, ann0⟩] none) (.tidy [1, 5, 6, 7, 8, 9] z (z + 0)))
 (.seq (.post (.reg [⟨(some 29), (Op.move (Operand.tmp 5)), none, ann0⟩,
  ⟨(some 30), (Op.move (Operand.tmp 1)), none, ann0⟩,
  ⟨(some 31), (Op.call { callee := (Callee.value (Operand.func 41)), args := #[(Operand.tmp 29), (Operand.tmp 30)], argTypes := #[23, 3] }), none, ann0⟩,
  ⟨(some 28), (Op.move (Operand.tmp 31)), none, ann0⟩,
  ⟨(some 32), (Op.extract (Operand.tmp 28) 0), none, ann0⟩,
  ⟨(some 33), (Op.extract (Operand.tmp 28) 1), none, ann0⟩,
  ⟨(some 10), (Op.assign (Operand.tmp 32)), none, ann0⟩,
  ⟨(some 11), (Op.assign (Operand.tmp 33)), none, ann0⟩] none) (.tidy [1, 5, 6, 7, 8, 9, 10, 11] z (z + 0)))
 (.seq (.post (.reg [⟨(some 35), (Op.move (Operand.tmp 5)), none, ann0⟩,
  ⟨(some 36), (Op.move (Operand.tmp 1)), none, ann0⟩,
  ⟨(some 37), (Op.call { callee := (Callee.value (Operand.func 42)), args := #[(Operand.tmp 35), (Operand.tmp 36)], argTypes := #[23, 3] }), none, ann0⟩,
  ⟨(some 34), (Op.move (Operand.tmp 37)), none, ann0⟩,
  ⟨(some 38), (Op.extract (Operand.tmp 34) 0), none, ann0⟩,
  ⟨(some 39), (Op.extract (Operand.tmp 34) 1), none, ann0⟩,
  ⟨(some 12), (Op.assign (Operand.tmp 38)), none, ann0⟩,
  ⟨(some 13), (Op.assign (Operand.tmp 39)), none, ann0⟩] none) (.tidy [6, 7, 8, 9, 10, 11, 12, 13] z (z + 0)))
 (.seq (.reg [⟨(some 40), (Op.call { callee := (Callee.value (Operand.func 14)), args := #[], argTypes := #[] }), none, ann0⟩,
  ⟨(some 41), (Op.move (Operand.tmp 40)), none, ann0⟩,
  ⟨(some 42), (Op.move (Operand.tmp 6)), (some (41, true)), ann0⟩,
  ⟨(some 43), (Op.move (Operand.tmp 10)), (some (41, true)), ann0⟩,
  ⟨(some 44), (Op.binOp BinOp.eql 3 (Operand.tmp 42) (Operand.tmp 43) 3), (some (41, true)), ann0⟩,
  ⟨(some 45), (Op.pick (Operand.tmp 41) (Operand.tmp 44) (Operand.const (Value.bool false))), none, ann0⟩,
  ⟨(some 46), (Op.move (Operand.tmp 45)), none, ann0⟩,
  ⟨(some 47), (Op.move (Operand.tmp 7)), (some (46, true)), ann0⟩,
  ⟨(some 48), (Op.move (Operand.tmp 11)), (some (46, true)), ann0⟩,
  ⟨(some 49), (Op.binOp BinOp.eql 4 (Operand.tmp 47) (Operand.tmp 48) 4), (some (46, true)), ann0⟩,
  ⟨(some 50), (Op.pick (Operand.tmp 46) (Operand.tmp 49) (Operand.const (Value.bool false))), none, ann0⟩,
  ⟨(some 51), (Op.move (Operand.tmp 50)), none, ann0⟩,
  ⟨(some 52), (Op.move (Operand.tmp 8)), (some (51, true)), ann0⟩,
  ⟨(some 53), (Op.move (Operand.tmp 12)), (some (51, true)), ann0⟩,
  ⟨(some 54), (Op.binOp BinOp.eql 3 (Operand.tmp 52) (Operand.tmp 53) 3), (some (51, true)), ann0⟩,
  ⟨(some 55), (Op.pick (Operand.tmp 51) (Operand.tmp 54) (Operand.const (Value.bool false))), none, ann0⟩,
  ⟨(some 56), (Op.move (Operand.tmp 55)), none, ann0⟩,
  ⟨(some 57), (Op.move (Operand.tmp 9)), (some (56, true)), ann0⟩,
  ⟨(some 58), (Op.move (Operand.tmp 13)), (some (56, true)), ann0⟩,
  ⟨(some 59), (Op.binOp BinOp.eql 4 (Operand.tmp 57) (Operand.tmp 58) 4), (some (56, true)), ann0⟩,
  ⟨(some 60), (Op.pick (Operand.tmp 56) (Operand.tmp 59) (Operand.const (Value.bool false))), none, ann0⟩,
  ⟨(some 4), (Op.assign (Operand.tmp 60)), none, ann0⟩] none)
 .ret)))))))⟩
theorem F11 (z : Nat) : FOk Try.prog 11 (s11 z) := by unfold FOk; kernel_rfl
def s12 (z : Nat) : SFn := ⟨3, 64, [(ResultVar.tmp 6)],
 (.seq (.reg [⟨(some 6), (Op.assign (Operand.const (Value.bool false))), none, ann0⟩] none)
 (.seq (.reg [⟨(some 9), (Op.move (Operand.tmp 0)), none, ann0⟩,
  ⟨(some 10), (Op.call { callee := (Callee.value (Operand.func 13)), args := #[(Operand.tmp 9)], argTypes := #[22] }), none, ann0⟩,
  ⟨(some 11), (Op.move (Operand.tmp 1)), none, ann0⟩,
  ⟨(some 12), (Op.call { callee := (Callee.value (Operand.func 13)), args := #[(Operand.tmp 11)], argTypes := #[22] }), none, ann0⟩,
  ⟨(some 7), (Op.assign (Operand.tmp 10)), none, ann0⟩,
  ⟨(some 8), (Op.assign (Operand.tmp 12)), none, ann0⟩] none)
 (.seq (.reg [⟨(some 13), (Op.call { callee := (Callee.value (Operand.func 14)), args := #[], argTypes := #[] }), none, ann0⟩,
  ⟨(some 14), (Op.move (Operand.tmp 13)), none, ann0⟩,
  ⟨(some 15), (Op.move (Operand.tmp 7)), (some (14, true)), ann0⟩,
  ⟨(some 16), (Op.move (Operand.tmp 2)), (some (14, true)), ann0⟩,
  ⟨(some 17), (Op.call { callee := (Callee.value (Operand.func 43)), args := #[(Operand.tmp 15), (Operand.tmp 16)], argTypes := #[23, 3] }), (some (14, true)), ann0⟩,
  ⟨(some 18), (Op.move (Operand.tmp 7)), (some (14, true)), ann0⟩,
  ⟨(some 19), (Op.move (Operand.tmp 2)), (some (14, true)), ann0⟩,
  ⟨(some 20), (Op.call { callee := (Callee.value (Operand.func 38)), args := #[(Operand.tmp 18), (Operand.tmp 19)], argTypes := #[23, 3] }), (some (14, true)), ann0⟩,
  ⟨(some 21), (Op.binOp BinOp.eql 4 (Operand.tmp 17) (Operand.tmp 20) 4), (some (14, true)), ann0⟩,
  ⟨(some 22), (Op.pick (Operand.tmp 14) (Operand.tmp 21) (Operand.const (Value.bool false))), none, ann0⟩,
  ⟨(some 23), (Op.move (Operand.tmp 22)), none, ann0⟩,
  ⟨(some 24), (Op.move (Operand.tmp 7)), (some (23, true)), ann0⟩,
  ⟨(some 25), (Op.move (Operand.tmp 8)), (some (23, true)), ann0⟩,
  ⟨(some 26), (Op.call { callee := (Callee.value (Operand.func 44)), args := #[(Operand.tmp 24), (Operand.tmp 25)], argTypes := #[23, 23] }), (some (23, true)), ann0⟩,
  ⟨(some 27), (Op.move (Operand.tmp 8)), (some (23, true)), ann0⟩,
  ⟨(some 28), (Op.move (Operand.tmp 7)), (some (23, true)), ann0⟩,
  ⟨(some 29), (Op.call { callee := (Callee.value (Operand.func 17)), args := #[(Operand.const (Value.int IntKind.i64 3)), (Operand.tmp 27), (Operand.tmp 28)], argTypes := #[3, 23, 23] }), (some (23, true)), ann0⟩,
  ⟨(some 30), (Op.call { callee := (Callee.builtin Builtin.len), args := #[(Operand.tmp 29)], argTypes := #[23] }), (some (23, true)), ann0⟩,
  ⟨(some 31), (Op.binOp BinOp.eql 3 (Operand.tmp 30) (Operand.const (Value.int IntKind.i64 0)) 3), (some (23, true)), ann0⟩,
  ⟨(some 32), (Op.binOp BinOp.eql 4 (Operand.tmp 26) (Operand.tmp 31) 4), (some (23, true)), ann0⟩,
  ⟨(some 33), (Op.pick (Operand.tmp 23) (Operand.tmp 32) (Operand.const (Value.bool false))), none, ann0⟩,
  ⟨(some 34), (Op.move (Operand.tmp 33)), none, ann0⟩,
  ⟨(some 35), (Op.move (Operand.tmp 7)), (some (34, true)), ann0⟩,
  ⟨(some 36), (Op.move (Operand.tmp 8)), (some (34, true)), ann0⟩,
  ⟨(some 37), (Op.call { callee := (Callee.value (Operand.func 45)), args := #[(Operand.tmp 35), (Operand.tmp 36)], argTypes := #[23, 23] }), (some (34, true)), ann0⟩,
  ⟨(some 38), (Op.move (Operand.tmp 7)), (some (34, true)), ann0⟩,
  ⟨(some 39), (Op.move (Operand.tmp 8)), (some (34, true)), ann0⟩,
  ⟨(some 40), (Op.call { callee := (Callee.value (Operand.func 17)), args := #[(Operand.const (Value.int IntKind.i64 2)), (Operand.tmp 38), (Operand.tmp 39)], argTypes := #[3, 23, 23] }), (some (34, true)), ann0⟩,
  ⟨(some 41), (Op.call { callee := (Callee.builtin Builtin.len), args := #[(Operand.tmp 40)], argTypes := #[23] }), (some (34, true)), ann0⟩,
  ⟨(some 42), (Op.binOp BinOp.gtr 3 (Operand.tmp 41) (Operand.const (Value.int IntKind.i64 0)) 3), (some (34, true)), ann0⟩,
  ⟨(some 43), (Op.binOp BinOp.eql 4 (Operand.tmp 37) (Operand.tmp 42) 4), (some (34, true)), ann0⟩,
  ⟨(some 44), (Op.pick (Operand.tmp 34) (Operand.tmp 43) (Operand.const (Value.bool false))), none, ann0⟩,
  ⟨(some 45), (Op.move (Operand.tmp 44)), none, ann0⟩,
  ⟨(some 46), (Op.move (Operand.tmp 7)), (some (45, true)), ann0⟩,
  ⟨(some 47), (Op.move (Operand.tmp 8)), (some (45, true)), ann0⟩,
  ⟨(some 48), (Op.call { callee := (Callee.value (Operand.func 46)), args := #[(Operand.tmp 46), (Operand.tmp 47)], argTypes := #[23, 23] }), (some (45, true)), ann0⟩,
  ⟨(some 49), (Op.move (Operand.tmp 7)), (some (45, true)), ann0⟩,
  ⟨(some 50), (Op.move (Operand.tmp 8)), (some (45, true)), ann0⟩,
  ⟨(some 51), (Op.call { callee := (Callee.value (Operand.func 15)), args := #[(Operand.tmp 49), (Operand.tmp 50)], argTypes := #[23, 23] }), (some (45, true)), ann0⟩,
  ⟨(some 52), (Op.binOp BinOp.eql 4 (Operand.tmp 48) (Operand.tmp 51) 4), (some (45, true)), ann0⟩,
  ⟨(some 53), (Op.pick (Operand.tmp 45) (Operand.tmp 52) (Operand.const (Value.bool false))), none, ann0⟩,
  ⟨(some 54), (Op.move (Operand.tmp 53)), none, ann0⟩,
  ⟨(some 55), (Op.move (Operand.tmp 7)), (some (54, true)), ann0⟩,
  ⟨(some 56), (Op.move (Operand.tmp 7)), (some (54, true)), ann0⟩,
  ⟨(some 57), (Op.call { callee := (Callee.value (Operand.func 44)), args := #[(Operand.tmp 55), (Operand.tmp 56)], argTypes := #[23, 23] }), (some (54, true)), ann0⟩,
  ⟨(some 58), (Op.pick (Operand.tmp 54) (Operand.tmp 57) (Operand.const (Value.bool false))), none, ann0⟩,
  ⟨(some 59), (Op.move (Operand.tmp 58)), none, ann0⟩,
  ⟨(some 60), (Op.move (Operand.tmp 7)), (some (59, true)), ann0⟩,
  ⟨(some 61), (Op.move (Operand.tmp 7)), (some (59, true)), ann0⟩,
  ⟨(some 62), (Op.call { callee := (Callee.value (Operand.func 46)), args := #[(Operand.tmp 60), (Operand.tmp 61)], argTypes := #[23, 23] }), (some (59, true)), ann0⟩,
  ⟨(some 63), (Op.pick (Operand.tmp 59) (Operand.tmp 62) (Operand.const (Value.bool false))), none, ann0⟩,
  ⟨(some 6), (Op.assign (Operand.tmp 63)), none, ann0⟩] none)
 .ret)))⟩
theorem F12 (z : Nat) : FOk Try.prog 12 (s12 z) := by unfold FOk; kernel_rfl
def c13_1 (z : Nat) : SC := .post (.seq (.post (.seq (.post (.reg [⟨(some 5), (Op.move (Operand.tmp 4)), none, ann0⟩,
  ⟨(some 6), (Op.move (Operand.tmp 0)), none, ann0⟩,
  ⟨(some 7), (Op.call { callee := (Callee.builtin Builtin.len), args := #[(Operand.tmp 6)], argTypes := #[22] }), none, ann0⟩,
  ⟨(some 8), (Op.binOp BinOp.lss 3 (Operand.tmp 5) (Operand.tmp 7) 3), none, ann0⟩,
  ⟨(some 9), (Op.move (Operand.tmp 8)), none, ann0⟩,
  ⟨(some 10), (Op.move (Operand.tmp 4)), (some (9, true)), ann0⟩,
  ⟨(some 11), (Op.binOp BinOp.lss 3 (Operand.tmp 10) (Operand.const (Value.int IntKind.i64 10)) 3), (some (9, true)), ann0⟩,
  ⟨(some 12), (Op.pick (Operand.tmp 9) (Operand.tmp 11) (Operand.const (Value.bool false))), none, ann0⟩] none) (.tidy [0, 3, 4, 12] z (z + 1)))
 (.cond (Operand.tmp 12) .skip
 (.exit 0))) (.tidy [0, 3, 4] z (z + 1)))
 (.seq (.post (.block 1 (.reg [⟨(some 15), (Op.move (Operand.tmp 3)), none, ann0⟩,
  ⟨(some 16), (Op.move (Operand.tmp 0)), none, ann0⟩,
  ⟨(some 17), (Op.move (Operand.tmp 4)), none, ann0⟩,
  ⟨(some 18), (Op.indexAddr 22 (Operand.tmp 16) (Operand.tmp 17)), none, ann0⟩,
  ⟨(some 19), (Op.fieldAddr 60 (Operand.tmp 18) 0), none, ann0⟩,
  ⟨(some 20), (Op.load 58 (Operand.tmp 19)), none, ann0⟩,
  ⟨(some 21), (Op.binOp BinOp.rem 58 (Operand.tmp 20) (Operand.const (Value.int IntKind.i16 200)) 58), none, ann0⟩,
  ⟨(some 22), (Op.convert 58 3 (Operand.tmp 21)), none, ann0⟩,
  ⟨(some 23), (Op.move (Operand.tmp 0)), none, ann0⟩,
  ⟨(some 24), (Op.move (Operand.tmp 4)), none, ann0⟩,
  ⟨(some 25), (Op.indexAddr 22 (Operand.tmp 23) (Operand.tmp 24)), none, ann0⟩,
  ⟨(some 26), (Op.fieldAddr 60 (Operand.tmp 25) 0), none, ann0⟩,
  ⟨(some 27), (Op.load 58 (Operand.tmp 26)), none, ann0⟩,
  ⟨(some 28), (Op.binOp BinOp.rem 58 (Operand.tmp 27) (Operand.const (Value.int IntKind.i16 200)) 58), none, ann0⟩,
  ⟨(some 29), (Op.convert 58 3 (Operand.tmp 28)), none, ann0⟩,
  ⟨(some 30), (Op.move (Operand.tmp 0)), none, ann0⟩,
  ⟨(some 31), (Op.move (Operand.tmp 4)), none, ann0⟩,
  ⟨(some 32), (Op.indexAddr 22 (Operand.tmp 30) (Operand.tmp 31)), none, ann0⟩,
  ⟨(some 33), (Op.fieldAddr 60 (Operand.tmp 32) 1), none, ann0⟩,
  ⟨(some 34), (Op.load 5 (Operand.tmp 33)), none, ann0⟩,
  ⟨(some 35), (Op.binOp BinOp.rem 5 (Operand.tmp 34) (Operand.const (Value.int IntKind.u8 40)) 5), none, ann0⟩,
  ⟨(some 36), (Op.convert 5 3 (Operand.tmp 35)), none, ann0⟩,
  ⟨(some 37), (Op.binOp BinOp.add 3 (Operand.tmp 29) (Operand.tmp 36) 3), none, ann0⟩,
  ⟨(some 38), (Op.build 33 #[(0, (Operand.tmp 22)), (1, (Operand.tmp 37))]), none, ann0⟩,
  ⟨(some 39), (Op.buildSlice 23 1 #[(0, (Operand.tmp 38))]), none, ⟨1, true, false⟩⟩,
  ⟨(some 40), (Op.call { callee := (Callee.builtin Builtin.append), args := #[(Operand.tmp 15), (Operand.tmp 39)], argTypes := #[23, 23] }), none, ann0⟩,
  ⟨(some 3), (Op.assign (Operand.tmp 40)), none, ann0⟩] (some [0, 0, 0, 6, 14, 30, 62, 126, 0, 0, 768, 1792, 3840, 7936, 16128, 0, 0, 98304, 229376, 491520, 1015808, 2064384, 4194048, 8388606, 16777214, 33554431, 67108863]))) (.tidy [0, 3, 4] z (z + 2)))
 (.reg [⟨(some 13), (Op.move (Operand.tmp 4)), none, ann0⟩,
  ⟨(some 14), (Op.binOp BinOp.add 3 (Operand.tmp 13) (Operand.const (Value.int IntKind.i64 1)) 3), none, ann0⟩,
  ⟨(some 4), (Op.assign (Operand.tmp 14)), none, ann0⟩] none))) (.tidy [0, 3, 4] z (z + 1))
def s13_1 (z : Nat) : SC := c13_1 z
theorem e13_1 {C : Pg} {z : Nat} {st : St} {ks : List Fr} {K : Ex → St → Prop} : wpk C (s13_1 z) st ks K ↔ wpk C (c13_1 z) st ks K := Iff.rfl
def s13 (z : Nat) : SFn := ⟨1, 43, [(ResultVar.tmp 2)],
 (.post (.seq (.reg [⟨(some 2), (Op.assign (Operand.const (Value.slice none 0 0))), none, ann0⟩] none)
 (.seq (.post (.reg [⟨(some 3), (Op.assign (Operand.const (Value.slice none 0 0))), none, ann0⟩] none) (.mkv 3 33 2))
 (.seq (.post (.seq (.reg [⟨(some 4), (Op.assign (Operand.const (Value.int IntKind.i64 0))), none, ann0⟩] none)
 (.post (.post (.block 0 (.pre (.tidy [0, 3, 4] z (z + 1)) (.loop (s13_1 z)))) (.tidy [3] z (z + 1))) (.frz 3))) (.tidy [3] z (z + 1)))
 (.seq (.reg [⟨(some 41), (Op.move (Operand.tmp 3)), none, ann0⟩,
  ⟨(some 42), (Op.call { callee := (Callee.value (Operand.func 47)), args := #[(Operand.tmp 41)], argTypes := #[23] }), none, ann0⟩,
  ⟨(some 2), (Op.assign (Operand.tmp 42)), none, ann0⟩] none)
 .ret)))) (.frz 2))⟩
theorem F13 (z : Nat) : FOk Try.prog 13 (s13 z) := by unfold FOk; kernel_rfl
def s14 (z : Nat) : SFn := ⟨0, 62, [(ResultVar.tmp 0)],
 (.seq (.reg [⟨(some 0), (Op.assign (Operand.const (Value.bool false))), none, ann0⟩] none)
 (.seq (.post (.reg [⟨(some 7), (Op.build 33 #[(0, (Operand.const (Value.int IntKind.i64 3))), (1, (Operand.const (Value.int IntKind.i64 5)))]), none, ann0⟩,
  ⟨(some 8), (Op.build 33 #[(0, (Operand.const (Value.int IntKind.i64 1))), (1, (Operand.const (Value.int IntKind.i64 3)))]), none, ann0⟩,
  ⟨(some 9), (Op.build 33 #[(0, (Operand.const (Value.int IntKind.i64 8))), (1, (Operand.const (Value.int IntKind.i64 8)))]), none, ann0⟩,
  ⟨(some 10), (Op.build 33 #[(0, (Operand.const (Value.int IntKind.i64 4))), (1, (Operand.const (Value.int IntKind.i64 6)))]), none, ann0⟩,
  ⟨(some 11), (Op.buildSlice 23 4 #[(0, (Operand.tmp 7)), (1, (Operand.tmp 8)), (2, (Operand.tmp 9)), (3, (Operand.tmp 10))]), none, ⟨1, true, false⟩⟩,
  ⟨(some 12), (Op.call { callee := (Callee.value (Operand.func 26)), args := #[(Operand.tmp 11)], argTypes := #[23] }), none, ann0⟩,
  ⟨(some 6), (Op.move (Operand.tmp 12)), none, ann0⟩,
  ⟨(some 13), (Op.extract (Operand.tmp 6) 0), none, ann0⟩,
  ⟨(some 14), (Op.extract (Operand.tmp 6) 1), none, ann0⟩,
  ⟨(some 1), (Op.assign (Operand.tmp 13)), none, ann0⟩,
  ⟨(some 2), (Op.assign (Operand.tmp 14)), none, ann0⟩] none) (.tidy [1, 2] z (z + 1)))
 (.seq (.reg [⟨(some 16), (Op.move (Operand.tmp 1)), none, ann0⟩,
  ⟨(some 17), (Op.call { callee := (Callee.value (Operand.func 37)), args := #[(Operand.tmp 16), (Operand.const (Value.int IntKind.i64 2))], argTypes := #[23, 3] }), none, ann0⟩,
  ⟨(some 15), (Op.move (Operand.tmp 17)), none, ann0⟩,
  ⟨(some 18), (Op.extract (Operand.tmp 15) 0), none, ann0⟩,
  ⟨(some 19), (Op.extract (Operand.tmp 15) 1), none, ann0⟩,
  ⟨(some 3), (Op.assign (Operand.tmp 18)), none, ann0⟩,
  ⟨(some 4), (Op.assign (Operand.tmp 19)), none, ann0⟩] none)
 (.seq (.post (.reg [⟨(some 20), (Op.move (Operand.tmp 1)), none, ann0⟩,
  ⟨(some 21), (Op.build 33 #[(0, (Operand.const (Value.int IntKind.i64 2))), (1, (Operand.const (Value.int IntKind.i64 3)))]), none, ann0⟩,
  ⟨(some 22), (Op.buildSlice 23 1 #[(0, (Operand.tmp 21))]), none, ⟨1, true, false⟩⟩,
  ⟨(some 23), (Op.call { callee := (Callee.value (Operand.func 19)), args := #[(Operand.tmp 20), (Operand.tmp 22)], argTypes := #[23, 23] }), none, ann0⟩,
  ⟨(some 5), (Op.assign (Operand.tmp 23)), none, ann0⟩] none) (.tidy [1, 2, 3, 4, 5] z (z + 2)))
 (.seq (.reg [⟨(some 24), (Op.move (Operand.tmp 2)), none, ann0⟩,
  ⟨(some 25), (Op.binOp BinOp.eql 38 (Operand.tmp 24) (Operand.const (Value.int IntKind.i64 0)) 38), none, ann0⟩,
  ⟨(some 26), (Op.move (Operand.tmp 25)), none, ann0⟩,
  ⟨(some 27), (Op.move (Operand.tmp 1)), (some (26, true)), ann0⟩,
  ⟨(some 28), (Op.call { callee := (Callee.builtin Builtin.len), args := #[(Operand.tmp 27)], argTypes := #[23] }), (some (26, true)), ann0⟩,
  ⟨(some 29), (Op.binOp BinOp.eql 3 (Operand.tmp 28) (Operand.const (Value.int IntKind.i64 1)) 3), (some (26, true)), ann0⟩,
  ⟨(some 30), (Op.pick (Operand.tmp 26) (Operand.tmp 29) (Operand.const (Value.bool false))), none, ann0⟩,
  ⟨(some 31), (Op.move (Operand.tmp 30)), none, ann0⟩,
  ⟨(some 32), (Op.move (Operand.tmp 1)), (some (31, true)), ann0⟩,
  ⟨(some 33), (Op.indexAddr 23 (Operand.tmp 32) (Operand.const (Value.int IntKind.i64 0))), (some (31, true)), ann0⟩,
  ⟨(some 34), (Op.load 33 (Operand.tmp 33)), (some (31, true)), ann0⟩,
  ⟨(some 35), (Op.build 33 #[(0, (Operand.const (Value.int IntKind.i64 1))), (1, (Operand.const (Value.int IntKind.i64 6)))]), (some (31, true)), ann0⟩,
  ⟨(some 36), (Op.binOp BinOp.eql 33 (Operand.tmp 34) (Operand.tmp 35) 33), (some (31, true)), ann0⟩,
  ⟨(some 37), (Op.pick (Operand.tmp 31) (Operand.tmp 36) (Operand.const (Value.bool false))), none, ann0⟩,
  ⟨(some 38), (Op.move (Operand.tmp 37)), none, ann0⟩,
  ⟨(some 39), (Op.move (Operand.tmp 1)), (some (38, true)), ann0⟩,
  ⟨(some 40), (Op.call { callee := (Callee.value (Operand.func 20)), args := #[(Operand.tmp 39)], argTypes := #[23] }), (some (38, true)), ann0⟩,
  ⟨(some 41), (Op.binOp BinOp.eql 3 (Operand.tmp 40) (Operand.const (Value.int IntKind.i64 5)) 3), (some (38, true)), ann0⟩,
  ⟨(some 42), (Op.pick (Operand.tmp 38) (Operand.tmp 41) (Operand.const (Value.bool false))), none, ann0⟩,
  ⟨(some 43), (Op.move (Operand.tmp 42)), none, ann0⟩,
  ⟨(some 44), (Op.move (Operand.tmp 3)), (some (43, true)), ann0⟩,
  ⟨(some 45), (Op.binOp BinOp.eql 3 (Operand.tmp 44) (Operand.const (Value.int IntKind.i64 3)) 3), (some (43, true)), ann0⟩,
  ⟨(some 46), (Op.pick (Operand.tmp 43) (Operand.tmp 45) (Operand.const (Value.bool false))), none, ann0⟩,
  ⟨(some 47), (Op.move (Operand.tmp 46)), none, ann0⟩,
  ⟨(some 48), (Op.move (Operand.tmp 4)), (some (47, true)), ann0⟩,
  ⟨(some 49), (Op.pick (Operand.tmp 47) (Operand.tmp 48) (Operand.const (Value.bool false))), none, ann0⟩,
  ⟨(some 50), (Op.move (Operand.tmp 49)), none, ann0⟩,
  ⟨(some 51), (Op.move (Operand.tmp 5)), (some (50, true)), ann0⟩,
  ⟨(some 52), (Op.call { callee := (Callee.builtin Builtin.len), args := #[(Operand.tmp 51)], argTypes := #[23] }), (some (50, true)), ann0⟩,
  ⟨(some 53), (Op.binOp BinOp.eql 3 (Operand.tmp 52) (Operand.const (Value.int IntKind.i64 2)) 3), (some (50, true)), ann0⟩,
  ⟨(some 54), (Op.pick (Operand.tmp 50) (Operand.tmp 53) (Operand.const (Value.bool false))), none, ann0⟩,
  ⟨(some 55), (Op.move (Operand.tmp 54)), none, ann0⟩,
  ⟨(some 56), (Op.move (Operand.tmp 5)), (some (55, true)), ann0⟩,
  ⟨(some 57), (Op.indexAddr 23 (Operand.tmp 56) (Operand.const (Value.int IntKind.i64 1))), (some (55, true)), ann0⟩,
  ⟨(some 58), (Op.load 33 (Operand.tmp 57)), (some (55, true)), ann0⟩,
  ⟨(some 59), (Op.build 33 #[(0, (Operand.const (Value.int IntKind.i64 3))), (1, (Operand.const (Value.int IntKind.i64 6)))]), (some (55, true)), ann0⟩,
  ⟨(some 60), (Op.binOp BinOp.eql 33 (Operand.tmp 58) (Operand.tmp 59) 33), (some (55, true)), ann0⟩,
  ⟨(some 61), (Op.pick (Operand.tmp 55) (Operand.tmp 60) (Operand.const (Value.bool false))), none, ann0⟩,
  ⟨(some 0), (Op.assign (Operand.tmp 61)), none, ann0⟩] none)
 .ret)))))⟩
theorem F14 (z : Nat) : FOk Try.prog 14 (s14 z) := by unfold FOk; kernel_rfl
def c15_1 (z : Nat) : SC := .post (.seq (.post (.seq (.reg [⟨(some 11), (Op.move (Operand.tmp 5)), none, ann0⟩,
  ⟨(some 12), (Op.move (Operand.tmp 0)), none, ann0⟩,
  ⟨(some 13), (Op.call { callee := (Callee.builtin Builtin.len), args := #[(Operand.tmp 12)], argTypes := #[23] }), none, ann0⟩,
  ⟨(some 14), (Op.binOp BinOp.lss 3 (Operand.tmp 11) (Operand.tmp 13) 3), none, ann0⟩] none)
 (.cond (Operand.tmp 14) .skip
 (.exit 0))) (.tidy [0, 1, 5] z (z + 0)))
 (.seq (.post (.block 1 (.seq (.post (.reg [⟨(some 17), (Op.move (Operand.tmp 0)), none, ann0⟩,
  ⟨(some 18), (Op.move (Operand.tmp 5)), none, ann0⟩,
  ⟨(some 19), (Op.indexAddr 23 (Operand.tmp 17) (Operand.tmp 18)), none, ann0⟩,
  ⟨(some 20), (Op.load 33 (Operand.tmp 19)), none, ann0⟩,
  ⟨(some 21), (Op.move (Operand.tmp 1)), none, ann0⟩,
  ⟨(some 22), (Op.move (Operand.tmp 5)), none, ann0⟩,
  ⟨(some 23), (Op.indexAddr 23 (Operand.tmp 21) (Operand.tmp 22)), none, ann0⟩,
  ⟨(some 24), (Op.load 33 (Operand.tmp 23)), none, ann0⟩,
  ⟨(some 25), (Op.binOp BinOp.neq 33 (Operand.tmp 20) (Operand.tmp 24) 33), none, ann0⟩] (some [0, 0, 3, 7, 0, 0, 48, 112, 255])) (.tidy [0, 1, 5, 25] z (z + 0)))
 (.cond (Operand.tmp 25) (.seq (.reg [⟨(some 4), (Op.assign (Operand.const (Value.bool false))), none, ann0⟩] none)
 .ret)
 .skip))) (.tidy [0, 1, 5] z (z + 0)))
 (.reg [⟨(some 15), (Op.move (Operand.tmp 5)), none, ann0⟩,
  ⟨(some 16), (Op.binOp BinOp.add 3 (Operand.tmp 15) (Operand.const (Value.int IntKind.i64 1)) 3), none, ann0⟩,
  ⟨(some 5), (Op.assign (Operand.tmp 16)), none, ann0⟩] none))) (.tidy [0, 1, 5] z (z + 0))
def s15_1 (z : Nat) : SC := c15_1 z
theorem e15_1 {C : Pg} {z : Nat} {st : St} {ks : List Fr} {K : Ex → St → Prop} : wpk C (s15_1 z) st ks K ↔ wpk C (c15_1 z) st ks K := Iff.rfl
def s15 (z : Nat) : SFn := ⟨2, 26, [(ResultVar.tmp 4)],
 (.seq (.reg [⟨(some 4), (Op.assign (Operand.const (Value.bool false))), none, ann0⟩] none)
 (.seq (.post (.seq (.reg [⟨(some 6), (Op.move (Operand.tmp 0)), none, ann0⟩,
  ⟨(some 7), (Op.call { callee := (Callee.builtin Builtin.len), args := #[(Operand.tmp 6)], argTypes := #[23] }), none, ann0⟩,
  ⟨(some 8), (Op.move (Operand.tmp 1)), none, ann0⟩,
  ⟨(some 9), (Op.call { callee := (Callee.builtin Builtin.len), args := #[(Operand.tmp 8)], argTypes := #[23] }), none, ann0⟩,
  ⟨(some 10), (Op.binOp BinOp.neq 3 (Operand.tmp 7) (Operand.tmp 9) 3), none, ann0⟩] none)
 (.cond (Operand.tmp 10) (.seq (.reg [⟨(some 4), (Op.assign (Operand.const (Value.bool false))), none, ann0⟩] none)
 .ret)
 .skip)) (.tidy [0, 1] z (z + 0)))
 (.seq (.post (.seq (.reg [⟨(some 5), (Op.assign (Operand.const (Value.int IntKind.i64 0))), none, ann0⟩] none)
 (.post (.block 0 (.pre (.tidy [0, 1, 5] z (z + 0)) (.loop (s15_1 z)))) (.tidy [] z (z + 0)))) (.tidy [] z (z + 0)))
 (.seq (.reg [⟨(some 4), (Op.assign (Operand.const (Value.bool true))), none, ann0⟩] none)
 .ret))))⟩
theorem F15 (z : Nat) : FOk Try.prog 15 (s15 z) := by unfold FOk; kernel_rfl
def s16 (z : Nat) : SFn := ⟨2, 8, [(ResultVar.tmp 4)],
 (.post (.seq (.reg [⟨(some 4), (Op.assign (Operand.const (Value.slice none 0 0))), none, ann0⟩] none)
 (.seq (.reg [⟨(some 5), (Op.move (Operand.tmp 0)), none, ann0⟩,
  ⟨(some 6), (Op.move (Operand.tmp 1)), none, ann0⟩,
  ⟨(some 7), (Op.call { callee := (Callee.value (Operand.func 48)), args := #[(Operand.tmp 5), (Operand.tmp 6), (Operand.func 49)], argTypes := #[23, 23, 62] }), none, ann0⟩,
  ⟨(some 4), (Op.assign (Operand.tmp 7)), none, ann0⟩] none)
 .ret)) (.frz 4))⟩
theorem F16 (z : Nat) : FOk Try.prog 16 (s16 z) := by unfold FOk; kernel_rfl
def c17_1 (z : Nat) : SC := .post (.seq (.seq (.post (.reg [⟨(some 15), (Op.move (Operand.tmp 9)), none, ann0⟩,
  ⟨(some 16), (Op.binOp BinOp.add 3 (Operand.tmp 15) (Operand.const (Value.int IntKind.i64 1)) 3), none, ann0⟩,
  ⟨(some 17), (Op.move (Operand.tmp 7)), none, ann0⟩,
  ⟨(some 18), (Op.call { callee := (Callee.builtin Builtin.len), args := #[(Operand.tmp 17)], argTypes := #[63] }), none, ann0⟩,
  ⟨(some 19), (Op.binOp BinOp.lss 3 (Operand.tmp 16) (Operand.tmp 18) 3), none, ann0⟩] none) (.tidy [0, 1, 2, 7, 8, 9, 19] z (z + 1)))
 (.cond (Operand.tmp 19) .skip
 (.exit 0)))
 (.seq (.post (.block 1 (.seq (.post (.reg [⟨(some 22), (Op.move (Operand.tmp 1)), none, ann0⟩,
  ⟨(some 23), (Op.move (Operand.tmp 7)), none, ann0⟩,
  ⟨(some 24), (Op.move (Operand.tmp 9)), none, ann0⟩,
  ⟨(some 25), (Op.indexAddr 63 (Operand.tmp 23) (Operand.tmp 24)), none, ann0⟩,
  ⟨(some 26), (Op.load 3 (Operand.tmp 25)), none, ann0⟩,
  ⟨(some 27), (Op.call { callee := (Callee.value (Operand.func 38)), args := #[(Operand.tmp 22), (Operand.tmp 26)], argTypes := #[23, 3] }), none, ann0⟩,
  ⟨(some 28), (Op.move (Operand.tmp 2)), none, ann0⟩,
  ⟨(some 29), (Op.move (Operand.tmp 7)), none, ann0⟩,
  ⟨(some 30), (Op.move (Operand.tmp 9)), none, ann0⟩,
  ⟨(some 31), (Op.indexAddr 63 (Operand.tmp 29) (Operand.tmp 30)), none, ann0⟩,
  ⟨(some 32), (Op.load 3 (Operand.tmp 31)), none, ann0⟩,
  ⟨(some 33), (Op.call { callee := (Callee.value (Operand.func 38)), args := #[(Operand.tmp 28), (Operand.tmp 32)], argTypes := #[23, 3] }), none, ann0⟩,
  ⟨(some 10), (Op.assign (Operand.tmp 27)), none, ann0⟩,
  ⟨(some 11), (Op.assign (Operand.tmp 33)), none, ann0⟩] (some [0, 0, 0, 6, 14, 31, 0, 0, 0, 384, 896, 2047, 4095, 8191])) (.tidy [0, 1, 2, 7, 8, 9, 10, 11] z (z + 1)))
 (.seq (.post (.reg [⟨(some 34), (Op.move (Operand.tmp 0)), none, ann0⟩,
  ⟨(some 35), (Op.binOp BinOp.eql 3 (Operand.tmp 34) (Operand.const (Value.int IntKind.i64 1)) 3), none, ann0⟩,
  ⟨(some 36), (Op.move (Operand.tmp 35)), none, ann0⟩,
  ⟨(some 37), (Op.move (Operand.tmp 10)), (some (36, true)), ann0⟩,
  ⟨(some 38), (Op.move (Operand.tmp 37)), (some (36, true)), ann0⟩,
  ⟨(some 39), (Op.move (Operand.tmp 11)), (some (38, false)), ann0⟩,
  ⟨(some 40), (Op.pick (Operand.tmp 38) (Operand.const (Value.bool true)) (Operand.tmp 39)), (some (36, true)), ann0⟩,
  ⟨(some 41), (Op.pick (Operand.tmp 36) (Operand.tmp 40) (Operand.const (Value.bool false))), none, ann0⟩,
  ⟨(some 42), (Op.move (Operand.tmp 41)), none, ann0⟩,
  ⟨(some 43), (Op.move (Operand.tmp 0)), (some (42, false)), ann0⟩,
  ⟨(some 44), (Op.binOp BinOp.eql 3 (Operand.tmp 43) (Operand.const (Value.int IntKind.i64 2)) 3), (some (42, false)), ann0⟩,
  ⟨(some 45), (Op.move (Operand.tmp 44)), (some (42, false)), ann0⟩,
  ⟨(some 46), (Op.move (Operand.tmp 10)), (some (45, true)), ann0⟩,
  ⟨(some 47), (Op.pick (Operand.tmp 45) (Operand.tmp 46) (Operand.const (Value.bool false))), (some (42, false)), ann0⟩,
  ⟨(some 48), (Op.move (Operand.tmp 47)), (some (42, false)), ann0⟩,
  ⟨(some 49), (Op.move (Operand.tmp 11)), (some (48, true)), ann0⟩,
  ⟨(some 50), (Op.pick (Operand.tmp 48) (Operand.tmp 49) (Operand.const (Value.bool false))), (some (42, false)), ann0⟩,
  ⟨(some 51), (Op.pick (Operand.tmp 42) (Operand.const (Value.bool true)) (Operand.tmp 50)), none, ann0⟩,
  ⟨(some 52), (Op.move (Operand.tmp 51)), none, ann0⟩,
  ⟨(some 53), (Op.move (Operand.tmp 0)), (some (52, false)), ann0⟩,
  ⟨(some 54), (Op.binOp BinOp.eql 3 (Operand.tmp 53) (Operand.const (Value.int IntKind.i64 3)) 3), (some (52, false)), ann0⟩,
  ⟨(some 55), (Op.move (Operand.tmp 54)), (some (52, false)), ann0⟩,
  ⟨(some 56), (Op.move (Operand.tmp 10)), (some (55, true)), ann0⟩,
  ⟨(some 57), (Op.pick (Operand.tmp 55) (Operand.tmp 56) (Operand.const (Value.bool false))), (some (52, false)), ann0⟩,
  ⟨(some 58), (Op.move (Operand.tmp 57)), (some (52, false)), ann0⟩,
  ⟨(some 59), (Op.move (Operand.tmp 11)), (some (58, true)), ann0⟩,
  ⟨(some 60), (Op.unOp UnOp.not 4 (Operand.tmp 59)), (some (58, true)), ann0⟩,
  ⟨(some 61), (Op.pick (Operand.tmp 58) (Operand.tmp 60) (Operand.const (Value.bool false))), (some (52, false)), ann0⟩,
  ⟨(some 62), (Op.pick (Operand.tmp 52) (Operand.const (Value.bool true)) (Operand.tmp 61)), none, ann0⟩] none) (.tidy [0, 1, 2, 7, 8, 9, 62] z (z + 1)))
 (.cond (Operand.tmp 62) (.reg [⟨(some 63), (Op.move (Operand.tmp 8)), none, ann0⟩,
  ⟨(some 64), (Op.move (Operand.tmp 7)), none, ann0⟩,
  ⟨(some 65), (Op.move (Operand.tmp 9)), none, ann0⟩,
  ⟨(some 66), (Op.indexAddr 63 (Operand.tmp 64) (Operand.tmp 65)), none, ann0⟩,
  ⟨(some 67), (Op.load 3 (Operand.tmp 66)), none, ann0⟩,
  ⟨(some 68), (Op.move (Operand.tmp 7)), none, ann0⟩,
  ⟨(some 69), (Op.move (Operand.tmp 9)), none, ann0⟩,
  ⟨(some 70), (Op.binOp BinOp.add 3 (Operand.tmp 69) (Operand.const (Value.int IntKind.i64 1)) 3), none, ann0⟩,
  ⟨(some 71), (Op.indexAddr 63 (Operand.tmp 68) (Operand.tmp 70)), none, ann0⟩,
  ⟨(some 72), (Op.load 3 (Operand.tmp 71)), none, ann0⟩,
  ⟨(some 73), (Op.build 33 #[(0, (Operand.tmp 67)), (1, (Operand.tmp 72))]), none, ann0⟩,
  ⟨(some 74), (Op.buildSlice 23 1 #[(0, (Operand.tmp 73))]), none, ⟨1, true, false⟩⟩,
  ⟨(some 75), (Op.call { callee := (Callee.builtin Builtin.append), args := #[(Operand.tmp 63), (Operand.tmp 74)], argTypes := #[23, 23] }), none, ann0⟩,
  ⟨(some 8), (Op.assign (Operand.tmp 75)), none, ann0⟩] (some [0, 0, 0, 6, 14, 0, 0, 64, 224, 480, 1022, 2046, 4095, 8191]))
 .skip)))) (.tidy [0, 1, 2, 7, 8, 9] z (z + 2)))
 (.reg [⟨(some 20), (Op.move (Operand.tmp 9)), none, ann0⟩,
  ⟨(some 21), (Op.binOp BinOp.add 3 (Operand.tmp 20) (Operand.const (Value.int IntKind.i64 1)) 3), none, ann0⟩,
  ⟨(some 9), (Op.assign (Operand.tmp 21)), none, ann0⟩] none))) (.tidy [0, 1, 2, 7, 8, 9] z (z + 1))
def s17_1 (z : Nat) : SC := c17_1 z
theorem e17_1 {C : Pg} {z : Nat} {st : St} {ks : List Fr} {K : Ex → St → Prop} : wpk C (s17_1 z) st ks K ↔ wpk C (c17_1 z) st ks K := Iff.rfl
def s17 (z : Nat) : SFn := ⟨3, 78, [(ResultVar.tmp 6)],
 (.post (.seq (.reg [⟨(some 6), (Op.assign (Operand.const (Value.slice none 0 0))), none, ann0⟩] none)
 (.seq (.reg [⟨(some 12), (Op.move (Operand.tmp 1)), none, ann0⟩,
  ⟨(some 13), (Op.move (Operand.tmp 2)), none, ann0⟩,
  ⟨(some 14), (Op.call { callee := (Callee.value (Operand.func 50)), args := #[(Operand.tmp 12), (Operand.tmp 13)], argTypes := #[23, 23] }), none, ann0⟩,
  ⟨(some 7), (Op.assign (Operand.tmp 14)), none, ann0⟩] none)
 (.seq (.post (.reg [⟨(some 8), (Op.assign (Operand.const (Value.slice none 0 0))), none, ann0⟩] none) (.mkv 8 33 2))
 (.seq (.post (.seq (.reg [⟨(some 9), (Op.assign (Operand.const (Value.int IntKind.i64 0))), none, ann0⟩] none)
 (.post (.post (.block 0 (.pre (.tidy [0, 1, 2, 7, 8, 9] z (z + 1)) (.loop (s17_1 z)))) (.tidy [8] z (z + 1))) (.frz 8))) (.tidy [8] z (z + 1)))
 (.seq (.reg [⟨(some 76), (Op.move (Operand.tmp 8)), none, ann0⟩,
  ⟨(some 77), (Op.call { callee := (Callee.value (Operand.func 47)), args := #[(Operand.tmp 76)], argTypes := #[23] }), none, ann0⟩,
  ⟨(some 6), (Op.assign (Operand.tmp 77)), none, ann0⟩] none)
 .ret))))) (.frz 6))⟩
theorem F17 (z : Nat) : FOk Try.prog 17 (s17 z) := by unfold FOk; kernel_rfl
def s18 (z : Nat) : SFn := ⟨2, 8, [(ResultVar.tmp 4)],
 (.post (.seq (.reg [⟨(some 4), (Op.assign (Operand.const (Value.slice none 0 0))), none, ann0⟩] none)
 (.seq (.reg [⟨(some 5), (Op.move (Operand.tmp 0)), none, ann0⟩,
  ⟨(some 6), (Op.move (Operand.tmp 1)), none, ann0⟩,
  ⟨(some 7), (Op.call { callee := (Callee.value (Operand.func 48)), args := #[(Operand.tmp 5), (Operand.tmp 6), (Operand.func 51)], argTypes := #[23, 23, 62] }), none, ann0⟩,
  ⟨(some 4), (Op.assign (Operand.tmp 7)), none, ann0⟩] none)
 .ret)) (.frz 4))⟩
theorem F18 (z : Nat) : FOk Try.prog 18 (s18 z) := by unfold FOk; kernel_rfl
def s19 (z : Nat) : SFn := ⟨2, 8, [(ResultVar.tmp 4)],
 (.post (.seq (.reg [⟨(some 4), (Op.assign (Operand.const (Value.slice none 0 0))), none, ann0⟩] none)
 (.seq (.reg [⟨(some 5), (Op.move (Operand.tmp 0)), none, ann0⟩,
  ⟨(some 6), (Op.move (Operand.tmp 1)), none, ann0⟩,
  ⟨(some 7), (Op.call { callee := (Callee.value (Operand.func 48)), args := #[(Operand.tmp 5), (Operand.tmp 6), (Operand.func 52)], argTypes := #[23, 23, 62] }), none, ann0⟩,
  ⟨(some 4), (Op.assign (Operand.tmp 7)), none, ann0⟩] none)
 .ret)) (.frz 4))⟩
theorem F19 (z : Nat) : FOk Try.prog 19 (s19 z) := by unfold FOk; kernel_rfl
def c20_1 (z : Nat) : SC := .post (.seq (.reg [⟨(some 9), (Op.binOp BinOp.lss 3 (Operand.tmp 8) (Operand.tmp 7) 3), none, ann0⟩] none)
 (.seq (.cond (Operand.tmp 9) .skip
 (.exit 0))
 (.seq (.post (.block 1 (.seq (.reg [⟨(some 10), (Op.indexAddr 23 (Operand.tmp 6) (Operand.tmp 8)), none, ann0⟩,
  ⟨(some 11), (Op.load 33 (Operand.tmp 10)), none, ann0⟩,
  ⟨(some 5), (Op.alloc 33), none, ⟨1, false, false⟩⟩,
  ⟨none, (Op.store 33 (Operand.tmp 5) (Operand.tmp 11)), none, ann0⟩] none)
 (.reg [⟨(some 12), (Op.move (Operand.tmp 3)), none, ann0⟩,
  ⟨(some 13), (Op.fieldAddr 33 (Operand.tmp 5) 1), none, ann0⟩,
  ⟨(some 14), (Op.load 3 (Operand.tmp 13)), none, ann0⟩,
  ⟨(some 15), (Op.fieldAddr 33 (Operand.tmp 5) 0), none, ann0⟩,
  ⟨(some 16), (Op.load 3 (Operand.tmp 15)), none, ann0⟩,
  ⟨(some 17), (Op.binOp BinOp.sub 3 (Operand.tmp 14) (Operand.tmp 16) 3), none, ann0⟩,
  ⟨(some 18), (Op.binOp BinOp.add 3 (Operand.tmp 12) (Operand.tmp 17) 3), none, ann0⟩,
  ⟨(some 3), (Op.assign (Operand.tmp 18)), none, ann0⟩] none))) (.tidy [3, 6, 7, 8] z (z + 1)))
 (.reg [⟨(some 19), (Op.binOp BinOp.add 3 (Operand.tmp 8) (Operand.const (Value.int IntKind.i64 1)) 3), none, ann0⟩,
  ⟨(some 8), (Op.move (Operand.tmp 19)), none, ann0⟩] none)))) (.tidy [3, 6, 7, 8] z (z + 0))
def s20_1 (z : Nat) : SC := c20_1 z
theorem e20_1 {C : Pg} {z : Nat} {st : St} {ks : List Fr} {K : Ex → St → Prop} : wpk C (s20_1 z) st ks K ↔ wpk C (c20_1 z) st ks K := Iff.rfl
def s20 (z : Nat) : SFn := ⟨1, 21, [(ResultVar.tmp 2)],
 (.seq (.reg [⟨(some 2), (Op.assign (Operand.const (Value.int IntKind.i64 0))), none, ann0⟩] none)
 (.seq (.reg [⟨(some 3), (Op.assign (Operand.const (Value.int IntKind.i64 0))), none, ann0⟩] none)
 (.seq (.post (.seq (.reg [⟨(some 6), (Op.move (Operand.tmp 0)), none, ann0⟩,
  ⟨(some 7), (Op.call { callee := (Callee.builtin Builtin.len), args := #[(Operand.tmp 6)], argTypes := #[23] }), none, ann0⟩,
  ⟨(some 8), (Op.move (Operand.const (Value.int IntKind.i64 0))), none, ann0⟩] none)
 (.post (.block 0 (.pre (.tidy [3, 6, 7, 8] z (z + 0)) (.loop (s20_1 z)))) (.tidy [3] z (z + 0)))) (.tidy [3] z (z + 0)))
 (.seq (.reg [⟨(some 20), (Op.move (Operand.tmp 3)), none, ann0⟩,
  ⟨(some 2), (Op.assign (Operand.tmp 20)), none, ann0⟩] none)
 .ret))))⟩
theorem F20 (z : Nat) : FOk Try.prog 20 (s20 z) := by unfold FOk; kernel_rfl
def s21 (z : Nat) : SFn := ⟨1, 20, [(ResultVar.cell 2 33), (ResultVar.tmp 3)],
 (.seq (.reg [⟨(some 2), (Op.alloc 33), none, ⟨1, false, false⟩⟩,
  ⟨(some 3), (Op.assign (Operand.const (Value.bool false))), none, ann0⟩] none)
 (.seq (.post (.seq (.reg [⟨(some 4), (Op.move (Operand.tmp 0)), none, ann0⟩,
  ⟨(some 5), (Op.call { callee := (Callee.builtin Builtin.len), args := #[(Operand.tmp 4)], argTypes := #[23] }), none, ann0⟩,
  ⟨(some 6), (Op.binOp BinOp.eql 3 (Operand.tmp 5) (Operand.const (Value.int IntKind.i64 0)) 3), none, ann0⟩] none)
 (.cond (Operand.tmp 6) (.seq (.reg [⟨(some 7), (Op.build 33 #[]), none, ann0⟩,
  ⟨none, (Op.store 33 (Operand.tmp 2) (Operand.tmp 7)), none, ann0⟩,
  ⟨(some 3), (Op.assign (Operand.const (Value.bool false))), none, ann0⟩] none)
 .ret)
 .skip)) (.tidy [0, 2] z (z + 1)))
 (.seq (.reg [⟨(some 8), (Op.move (Operand.tmp 0)), none, ann0⟩,
  ⟨(some 9), (Op.indexAddr 23 (Operand.tmp 8) (Operand.const (Value.int IntKind.i64 0))), none, ann0⟩,
  ⟨(some 10), (Op.fieldAddr 33 (Operand.tmp 9) 0), none, ann0⟩,
  ⟨(some 11), (Op.load 3 (Operand.tmp 10)), none, ann0⟩,
  ⟨(some 12), (Op.move (Operand.tmp 0)), none, ann0⟩,
  ⟨(some 13), (Op.move (Operand.tmp 0)), none, ann0⟩,
  ⟨(some 14), (Op.call { callee := (Callee.builtin Builtin.len), args := #[(Operand.tmp 13)], argTypes := #[23] }), none, ann0⟩,
  ⟨(some 15), (Op.binOp BinOp.sub 3 (Operand.tmp 14) (Operand.const (Value.int IntKind.i64 1)) 3), none, ann0⟩,
  ⟨(some 16), (Op.indexAddr 23 (Operand.tmp 12) (Operand.tmp 15)), none, ann0⟩,
  ⟨(some 17), (Op.fieldAddr 33 (Operand.tmp 16) 1), none, ann0⟩,
  ⟨(some 18), (Op.load 3 (Operand.tmp 17)), none, ann0⟩,
  ⟨(some 19), (Op.build 33 #[(0, (Operand.tmp 11)), (1, (Operand.tmp 18))]), none, ann0⟩,
  ⟨none, (Op.store 33 (Operand.tmp 2) (Operand.tmp 19)), none, ann0⟩,
  ⟨(some 3), (Op.assign (Operand.const (Value.bool true))), none, ann0⟩] (some [0, 1, 3, 7, 0, 0, 32, 96, 240, 496, 1008, 2047, 4095, 8191]))
 .ret)))⟩
theorem F21 (z : Nat) : FOk Try.prog 21 (s21 z) := by unfold FOk; kernel_rfl
def s22 (z : Nat) : SFn := ⟨1, 15, [(ResultVar.tmp 2)],
 (.post (.seq (.reg [⟨(some 2), (Op.assign (Operand.const (Value.slice none 0 0))), none, ann0⟩] none)
 (.seq (.post (.reg [⟨(some 6), (Op.move (Operand.tmp 0)), none, ann0⟩,
  ⟨(some 7), (Op.call { callee := (Callee.value (Operand.func 21)), args := #[(Operand.tmp 6)], argTypes := #[23] }), none, ann0⟩,
  ⟨(some 5), (Op.move (Operand.tmp 7)), none, ann0⟩,
  ⟨(some 8), (Op.extract (Operand.tmp 5) 0), none, ann0⟩,
  ⟨(some 9), (Op.extract (Operand.tmp 5) 1), none, ann0⟩,
  ⟨(some 3), (Op.alloc 33), none, ⟨1, false, false⟩⟩,
  ⟨none, (Op.store 33 (Operand.tmp 3) (Operand.tmp 8)), none, ann0⟩,
  ⟨(some 4), (Op.assign (Operand.tmp 9)), none, ann0⟩] none) (.tidy [0, 3] z (z + 1)))
 (.seq (.reg [⟨(some 10), (Op.load 33 (Operand.tmp 3)), none, ann0⟩,
  ⟨(some 11), (Op.buildSlice 23 1 #[(0, (Operand.tmp 10))]), none, ⟨1, true, false⟩⟩,
  ⟨(some 12), (Op.call { callee := (Callee.value (Operand.func 53)), args := #[(Operand.tmp 11)], argTypes := #[23] }), none, ann0⟩,
  ⟨(some 13), (Op.move (Operand.tmp 0)), none, ann0⟩,
  ⟨(some 14), (Op.call { callee := (Callee.value (Operand.func 19)), args := #[(Operand.tmp 12), (Operand.tmp 13)], argTypes := #[23, 23] }), none, ann0⟩,
  ⟨(some 2), (Op.assign (Operand.tmp 14)), none, ann0⟩] none)
 .ret))) (.frz 2))⟩
theorem F22 (z : Nat) : FOk Try.prog 22 (s22 z) := by unfold FOk; kernel_rfl
def c23_1 (z : Nat) : SC := .post (.seq (.post (.seq (.reg [⟨(some 5), (Op.move (Operand.tmp 4)), none, ann0⟩,
  ⟨(some 6), (Op.move (Operand.tmp 0)), none, ann0⟩,
  ⟨(some 7), (Op.call { callee := (Callee.builtin Builtin.len), args := #[(Operand.tmp 6)], argTypes := #[23] }), none, ann0⟩,
  ⟨(some 8), (Op.binOp BinOp.lss 3 (Operand.tmp 5) (Operand.tmp 7) 3), none, ann0⟩] none)
 (.cond (Operand.tmp 8) .skip
 (.exit 0))) (.tidy [0, 3, 4] z (z + 1)))
 (.seq (.post (.block 1 (.reg [⟨(some 11), (Op.move (Operand.tmp 3)), none, ann0⟩,
  ⟨(some 12), (Op.move (Operand.tmp 0)), none, ann0⟩,
  ⟨(some 13), (Op.move (Operand.tmp 4)), none, ann0⟩,
  ⟨(some 14), (Op.binOp BinOp.sub 3 (Operand.tmp 13) (Operand.const (Value.int IntKind.i64 1)) 3), none, ann0⟩,
  ⟨(some 15), (Op.indexAddr 23 (Operand.tmp 12) (Operand.tmp 14)), none, ann0⟩,
  ⟨(some 16), (Op.fieldAddr 33 (Operand.tmp 15) 1), none, ann0⟩,
  ⟨(some 17), (Op.load 3 (Operand.tmp 16)), none, ann0⟩,
  ⟨(some 18), (Op.move (Operand.tmp 0)), none, ann0⟩,
  ⟨(some 19), (Op.move (Operand.tmp 4)), none, ann0⟩,
  ⟨(some 20), (Op.indexAddr 23 (Operand.tmp 18) (Operand.tmp 19)), none, ann0⟩,
  ⟨(some 21), (Op.fieldAddr 33 (Operand.tmp 20) 0), none, ann0⟩,
  ⟨(some 22), (Op.load 3 (Operand.tmp 21)), none, ann0⟩,
  ⟨(some 23), (Op.build 33 #[(0, (Operand.tmp 17)), (1, (Operand.tmp 22))]), none, ann0⟩,
  ⟨(some 24), (Op.buildSlice 23 1 #[(0, (Operand.tmp 23))]), none, ⟨1, true, false⟩⟩,
  ⟨(some 25), (Op.call { callee := (Callee.builtin Builtin.append), args := #[(Operand.tmp 11), (Operand.tmp 24)], argTypes := #[23, 23] }), none, ann0⟩,
  ⟨(some 3), (Op.assign (Operand.tmp 25)), none, ann0⟩] (some [0, 0, 0, 4, 14, 30, 62, 0, 0, 384, 896, 1920, 4094, 8190, 16383, 32767]))) (.tidy [0, 3, 4] z (z + 2)))
 (.reg [⟨(some 9), (Op.move (Operand.tmp 4)), none, ann0⟩,
  ⟨(some 10), (Op.binOp BinOp.add 3 (Operand.tmp 9) (Operand.const (Value.int IntKind.i64 1)) 3), none, ann0⟩,
  ⟨(some 4), (Op.assign (Operand.tmp 10)), none, ann0⟩] none))) (.tidy [0, 3, 4] z (z + 1))
def s23_1 (z : Nat) : SC := c23_1 z
theorem e23_1 {C : Pg} {z : Nat} {st : St} {ks : List Fr} {K : Ex → St → Prop} : wpk C (s23_1 z) st ks K ↔ wpk C (c23_1 z) st ks K := Iff.rfl
def s23 (z : Nat) : SFn := ⟨1, 27, [(ResultVar.tmp 2)],
 (.post (.seq (.reg [⟨(some 2), (Op.assign (Operand.const (Value.slice none 0 0))), none, ann0⟩] none)
 (.seq (.post (.reg [⟨(some 3), (Op.assign (Operand.const (Value.slice none 0 0))), none, ann0⟩] none) (.mkv 3 33 2))
 (.seq (.post (.seq (.reg [⟨(some 4), (Op.assign (Operand.const (Value.int IntKind.i64 1))), none, ann0⟩] none)
 (.post (.block 0 (.pre (.tidy [0, 3, 4] z (z + 1)) (.loop (s23_1 z)))) (.tidy [3] z (z + 1)))) (.tidy [3] z (z + 1)))
 (.seq (.reg [⟨(some 26), (Op.move (Operand.tmp 3)), none, ann0⟩,
  ⟨(some 2), (Op.assign (Operand.tmp 26)), none, ann0⟩] none)
 .ret)))) (.frz 2))⟩
theorem F23 (z : Nat) : FOk Try.prog 23 (s23 z) := by unfold FOk; kernel_rfl
def c24_1 (z : Nat) : SC := .post (.seq (.reg [⟨(some 11), (Op.binOp BinOp.lss 3 (Operand.tmp 10) (Operand.tmp 9) 3), none, ann0⟩] none)
 (.seq (.cond (Operand.tmp 11) .skip
 (.exit 0))
 (.seq (.post (.block 1 (.seq (.reg [⟨(some 12), (Op.move (Operand.tmp 10)), none, ann0⟩,
  ⟨(some 13), (Op.indexAddr 23 (Operand.tmp 8) (Operand.tmp 10)), none, ann0⟩,
  ⟨(some 14), (Op.load 33 (Operand.tmp 13)), none, ann0⟩,
  ⟨(some 4), (Op.alloc 33), none, ⟨1, false, false⟩⟩,
  ⟨(some 3), (Op.assign (Operand.tmp 12)), none, ann0⟩,
  ⟨none, (Op.store 33 (Operand.tmp 4) (Operand.tmp 14)), none, ann0⟩] none)
 (.block 2 (.seq (.post (.reg [⟨(some 16), (Op.load 33 (Operand.tmp 4)), none, ann0⟩,
  ⟨(some 17), (Op.call { callee := (Callee.value (Operand.func 54)), args := #[(Operand.tmp 16)], argTypes := #[33] }), none, ann0⟩,
  ⟨(some 18), (Op.unOp UnOp.not 4 (Operand.tmp 17)), none, ann0⟩,
  ⟨(some 15), (Op.assign (Operand.tmp 18)), none, ann0⟩] none) (.tidy [0, 3, 4, 8, 9, 10, 15] z (z + 1)))
 (.cond (Operand.tmp 15) (.seq (.reg [⟨(some 2), (Op.assign (Operand.const (Value.int IntKind.i64 2))), none, ann0⟩] none)
 .ret)
 (.seq (.reg [⟨(some 20), (Op.fieldAddr 33 (Operand.tmp 4) 0), none, ann0⟩,
  ⟨(some 21), (Op.load 3 (Operand.tmp 20)), none, ann0⟩,
  ⟨(some 22), (Op.fieldAddr 33 (Operand.tmp 4) 1), none, ann0⟩,
  ⟨(some 23), (Op.load 3 (Operand.tmp 22)), none, ann0⟩,
  ⟨(some 24), (Op.binOp BinOp.geq 3 (Operand.tmp 21) (Operand.tmp 23) 3), none, ann0⟩,
  ⟨(some 19), (Op.assign (Operand.tmp 24)), none, ann0⟩] none)
 (.cond (Operand.tmp 19) (.seq (.reg [⟨(some 2), (Op.assign (Operand.const (Value.int IntKind.i64 7))), none, ann0⟩] none)
 .ret)
 (.seq (.post (.reg [⟨(some 26), (Op.move (Operand.tmp 3)), none, ann0⟩,
  ⟨(some 27), (Op.binOp BinOp.gtr 3 (Operand.tmp 26) (Operand.const (Value.int IntKind.i64 0)) 3), none, ann0⟩,
  ⟨(some 28), (Op.move (Operand.tmp 27)), none, ann0⟩,
  ⟨(some 29), (Op.fieldAddr 33 (Operand.tmp 4) 0), (some (28, true)), ann0⟩,
  ⟨(some 30), (Op.load 3 (Operand.tmp 29)), (some (28, true)), ann0⟩,
  ⟨(some 31), (Op.move (Operand.tmp 0)), (some (28, true)), ann0⟩,
  ⟨(some 32), (Op.move (Operand.tmp 3)), (some (28, true)), ann0⟩,
  ⟨(some 33), (Op.binOp BinOp.sub 3 (Operand.tmp 32) (Operand.const (Value.int IntKind.i64 1)) 3), (some (28, true)), ann0⟩,
  ⟨(some 34), (Op.indexAddr 23 (Operand.tmp 31) (Operand.tmp 33)), (some (28, true)), ann0⟩,
  ⟨(some 35), (Op.fieldAddr 33 (Operand.tmp 34) 1), (some (28, true)), ann0⟩,
  ⟨(some 36), (Op.load 3 (Operand.tmp 35)), (some (28, true)), ann0⟩,
  ⟨(some 37), (Op.binOp BinOp.leq 3 (Operand.tmp 30) (Operand.tmp 36) 3), (some (28, true)), ann0⟩,
  ⟨(some 38), (Op.pick (Operand.tmp 28) (Operand.tmp 37) (Operand.const (Value.bool false))), none, ann0⟩,
  ⟨(some 25), (Op.assign (Operand.tmp 38)), none, ann0⟩] (some [0, 1, 3, 7, 15, 7, 7, 71, 231, 487, 999, 2047, 4095, 8191])) (.tidy [0, 8, 9, 10, 25] z (z + 1)))
 (.cond (Operand.tmp 25) (.seq (.reg [⟨(some 2), (Op.assign (Operand.const (Value.int IntKind.i64 8))), none, ann0⟩] none)
 .ret)
 .skip))))))))) (.tidy [0, 8, 9, 10] z (z + 1)))
 (.reg [⟨(some 39), (Op.binOp BinOp.add 3 (Operand.tmp 10) (Operand.const (Value.int IntKind.i64 1)) 3), none, ann0⟩,
  ⟨(some 10), (Op.move (Operand.tmp 39)), none, ann0⟩] none)))) (.tidy [0, 8, 9, 10] z (z + 0))
def s24_1 (z : Nat) : SC := c24_1 z
theorem e24_1 {C : Pg} {z : Nat} {st : St} {ks : List Fr} {K : Ex → St → Prop} : wpk C (s24_1 z) st ks K ↔ wpk C (c24_1 z) st ks K := Iff.rfl
def s24 (z : Nat) : SFn := ⟨1, 40, [(ResultVar.tmp 2)],
 (.seq (.reg [⟨(some 2), (Op.assign (Operand.const (Value.int IntKind.i64 0))), none, ann0⟩] none)
 (.seq (.post (.seq (.reg [⟨(some 5), (Op.move (Operand.tmp 0)), none, ann0⟩,
  ⟨(some 6), (Op.call { callee := (Callee.builtin Builtin.len), args := #[(Operand.tmp 5)], argTypes := #[23] }), none, ann0⟩,
  ⟨(some 7), (Op.binOp BinOp.gtr 3 (Operand.tmp 6) (Operand.const (Value.int IntKind.i64 4096)) 3), none, ann0⟩] none)
 (.cond (Operand.tmp 7) (.seq (.reg [⟨(some 2), (Op.assign (Operand.const (Value.int IntKind.i64 6))), none, ann0⟩] none)
 .ret)
 .skip)) (.tidy [0] z (z + 0)))
 (.seq (.post (.seq (.reg [⟨(some 8), (Op.move (Operand.tmp 0)), none, ann0⟩,
  ⟨(some 9), (Op.call { callee := (Callee.builtin Builtin.len), args := #[(Operand.tmp 8)], argTypes := #[23] }), none, ann0⟩,
  ⟨(some 10), (Op.move (Operand.const (Value.int IntKind.i64 0))), none, ann0⟩] none)
 (.post (.block 0 (.pre (.tidy [0, 8, 9, 10] z (z + 0)) (.loop (s24_1 z)))) (.tidy [] z (z + 0)))) (.tidy [] z (z + 0)))
 (.seq (.reg [⟨(some 2), (Op.assign (Operand.const (Value.int IntKind.i64 0))), none, ann0⟩] none)
 .ret))))⟩
theorem F24 (z : Nat) : FOk Try.prog 24 (s24 z) := by unfold FOk; kernel_rfl
def c25_1 (z : Nat) : SC := .post (.seq (.post (.seq (.reg [⟨(some 7), (Op.move (Operand.tmp 3)), none, ann0⟩,
  ⟨(some 8), (Op.move (Operand.tmp 0)), none, ann0⟩,
  ⟨(some 9), (Op.call { callee := (Callee.builtin Builtin.len), args := #[(Operand.tmp 8)], argTypes := #[23] }), none, ann0⟩,
  ⟨(some 10), (Op.binOp BinOp.lss 3 (Operand.tmp 7) (Operand.tmp 9) 3), none, ann0⟩] none)
 (.cond (Operand.tmp 10) .skip
 (.exit 0))) (.tidy [0, 3] z (z + 0)))
 (.seq (.post (.block 1 (.seq (.post (.seq (.post (.reg [⟨(some 13), (Op.move (Operand.tmp 0)), none, ann0⟩,
  ⟨(some 14), (Op.move (Operand.tmp 3)), none, ann0⟩,
  ⟨(some 15), (Op.indexAddr 23 (Operand.tmp 13) (Operand.tmp 14)), none, ann0⟩,
  ⟨(some 16), (Op.fieldAddr 33 (Operand.tmp 15) 0), none, ann0⟩,
  ⟨(some 17), (Op.load 3 (Operand.tmp 16)), none, ann0⟩,
  ⟨(some 18), (Op.call { callee := (Callee.value (Operand.func 55)), args := #[(Operand.tmp 17)], argTypes := #[3] }), none, ann0⟩,
  ⟨(some 19), (Op.unOp UnOp.not 4 (Operand.tmp 18)), none, ann0⟩,
  ⟨(some 20), (Op.move (Operand.tmp 19)), none, ann0⟩,
  ⟨(some 21), (Op.move (Operand.tmp 0)), (some (20, false)), ann0⟩,
  ⟨(some 22), (Op.move (Operand.tmp 3)), (some (20, false)), ann0⟩,
  ⟨(some 23), (Op.indexAddr 23 (Operand.tmp 21) (Operand.tmp 22)), (some (20, false)), ann0⟩,
  ⟨(some 24), (Op.fieldAddr 33 (Operand.tmp 23) 1), (some (20, false)), ann0⟩,
  ⟨(some 25), (Op.load 3 (Operand.tmp 24)), (some (20, false)), ann0⟩,
  ⟨(some 26), (Op.call { callee := (Callee.value (Operand.func 55)), args := #[(Operand.tmp 25)], argTypes := #[3] }), (some (20, false)), ann0⟩,
  ⟨(some 27), (Op.unOp UnOp.not 4 (Operand.tmp 26)), (some (20, false)), ann0⟩,
  ⟨(some 28), (Op.pick (Operand.tmp 20) (Operand.const (Value.bool true)) (Operand.tmp 27)), none, ann0⟩] none) (.tidy [0, 3, 28] z (z + 0)))
 (.cond (Operand.tmp 28) (.seq (.reg [⟨(some 2), (Op.assign (Operand.const (Value.int IntKind.i64 2))), none, ann0⟩] none)
 .ret)
 .skip)) (.tidy [0, 3] z (z + 0)))
 (.seq (.post (.seq (.post (.reg [⟨(some 29), (Op.move (Operand.tmp 0)), none, ann0⟩,
  ⟨(some 30), (Op.move (Operand.tmp 3)), none, ann0⟩,
  ⟨(some 31), (Op.indexAddr 23 (Operand.tmp 29) (Operand.tmp 30)), none, ann0⟩,
  ⟨(some 32), (Op.fieldAddr 33 (Operand.tmp 31) 0), none, ann0⟩,
  ⟨(some 33), (Op.load 3 (Operand.tmp 32)), none, ann0⟩,
  ⟨(some 34), (Op.move (Operand.tmp 0)), none, ann0⟩,
  ⟨(some 35), (Op.move (Operand.tmp 3)), none, ann0⟩,
  ⟨(some 36), (Op.indexAddr 23 (Operand.tmp 34) (Operand.tmp 35)), none, ann0⟩,
  ⟨(some 37), (Op.fieldAddr 33 (Operand.tmp 36) 1), none, ann0⟩,
  ⟨(some 38), (Op.load 3 (Operand.tmp 37)), none, ann0⟩,
  ⟨(some 39), (Op.binOp BinOp.geq 3 (Operand.tmp 33) (Operand.tmp 38) 3), none, ann0⟩] (some [0, 0, 3, 7, 15, 0, 0, 96, 224, 480, 1023])) (.tidy [0, 3, 39] z (z + 0)))
 (.cond (Operand.tmp 39) (.seq (.reg [⟨(some 2), (Op.assign (Operand.const (Value.int IntKind.i64 7))), none, ann0⟩] none)
 .ret)
 .skip)) (.tidy [0, 3] z (z + 0)))
 (.seq (.post (.reg [⟨(some 40), (Op.move (Operand.tmp 3)), none, ann0⟩,
  ⟨(some 41), (Op.binOp BinOp.gtr 3 (Operand.tmp 40) (Operand.const (Value.int IntKind.i64 0)) 3), none, ann0⟩,
  ⟨(some 42), (Op.move (Operand.tmp 41)), none, ann0⟩,
  ⟨(some 43), (Op.move (Operand.tmp 0)), (some (42, true)), ann0⟩,
  ⟨(some 44), (Op.move (Operand.tmp 3)), (some (42, true)), ann0⟩,
  ⟨(some 45), (Op.indexAddr 23 (Operand.tmp 43) (Operand.tmp 44)), (some (42, true)), ann0⟩,
  ⟨(some 46), (Op.fieldAddr 33 (Operand.tmp 45) 0), (some (42, true)), ann0⟩,
  ⟨(some 47), (Op.load 3 (Operand.tmp 46)), (some (42, true)), ann0⟩,
  ⟨(some 48), (Op.move (Operand.tmp 0)), (some (42, true)), ann0⟩,
  ⟨(some 49), (Op.move (Operand.tmp 3)), (some (42, true)), ann0⟩,
  ⟨(some 50), (Op.binOp BinOp.sub 3 (Operand.tmp 49) (Operand.const (Value.int IntKind.i64 1)) 3), (some (42, true)), ann0⟩,
  ⟨(some 51), (Op.indexAddr 23 (Operand.tmp 48) (Operand.tmp 50)), (some (42, true)), ann0⟩,
  ⟨(some 52), (Op.fieldAddr 33 (Operand.tmp 51) 1), (some (42, true)), ann0⟩,
  ⟨(some 53), (Op.load 3 (Operand.tmp 52)), (some (42, true)), ann0⟩,
  ⟨(some 54), (Op.binOp BinOp.leq 3 (Operand.tmp 47) (Operand.tmp 53) 3), (some (42, true)), ann0⟩,
  ⟨(some 55), (Op.pick (Operand.tmp 42) (Operand.tmp 54) (Operand.const (Value.bool false))), none, ann0⟩] (some [0, 1, 3, 7, 7, 31, 63, 127, 7, 7, 519, 1799, 3847, 7943, 16383, 32767])) (.tidy [0, 3, 55] z (z + 0)))
 (.cond (Operand.tmp 55) (.seq (.reg [⟨(some 2), (Op.assign (Operand.const (Value.int IntKind.i64 8))), none, ann0⟩] none)
 .ret)
 .skip))))) (.tidy [0, 3] z (z + 0)))
 (.reg [⟨(some 11), (Op.move (Operand.tmp 3)), none, ann0⟩,
  ⟨(some 12), (Op.binOp BinOp.add 3 (Operand.tmp 11) (Operand.const (Value.int IntKind.i64 1)) 3), none, ann0⟩,
  ⟨(some 3), (Op.assign (Operand.tmp 12)), none, ann0⟩] none))) (.tidy [0, 3] z (z + 0))
def s25_1 (z : Nat) : SC := c25_1 z
theorem e25_1 {C : Pg} {z : Nat} {st : St} {ks : List Fr} {K : Ex → St → Prop} : wpk C (s25_1 z) st ks K ↔ wpk C (c25_1 z) st ks K := Iff.rfl
def s25 (z : Nat) : SFn := ⟨1, 56, [(ResultVar.tmp 2)],
 (.seq (.reg [⟨(some 2), (Op.assign (Operand.const (Value.int IntKind.i64 0))), none, ann0⟩] none)
 (.seq (.post (.seq (.reg [⟨(some 4), (Op.move (Operand.tmp 0)), none, ann0⟩,
  ⟨(some 5), (Op.call { callee := (Callee.builtin Builtin.len), args := #[(Operand.tmp 4)], argTypes := #[23] }), none, ann0⟩,
  ⟨(some 6), (Op.binOp BinOp.gtr 3 (Operand.tmp 5) (Operand.const (Value.int IntKind.i64 4096)) 3), none, ann0⟩] none)
 (.cond (Operand.tmp 6) (.seq (.reg [⟨(some 2), (Op.assign (Operand.const (Value.int IntKind.i64 6))), none, ann0⟩] none)
 .ret)
 .skip)) (.tidy [0] z (z + 0)))
 (.seq (.post (.seq (.reg [⟨(some 3), (Op.assign (Operand.const (Value.int IntKind.i64 0))), none, ann0⟩] none)
 (.post (.block 0 (.pre (.tidy [0, 3] z (z + 0)) (.loop (s25_1 z)))) (.tidy [] z (z + 0)))) (.tidy [] z (z + 0)))
 (.seq (.reg [⟨(some 2), (Op.assign (Operand.const (Value.int IntKind.i64 0))), none, ann0⟩] none)
 .ret))))⟩
theorem F25 (z : Nat) : FOk Try.prog 25 (s25 z) := by unfold FOk; kernel_rfl
def s26 (z : Nat) : SFn := ⟨1, 15, [(ResultVar.tmp 2), (ResultVar.tmp 3)],
 (.post (.seq (.reg [⟨(some 2), (Op.assign (Operand.const (Value.slice none 0 0))), none, ann0⟩,
  ⟨(some 3), (Op.assign (Operand.const (Value.int IntKind.i64 0))), none, ann0⟩] none)
 (.seq (.post (.seq (.reg [⟨(some 5), (Op.move (Operand.tmp 0)), none, ann0⟩,
  ⟨(some 6), (Op.call { callee := (Callee.builtin Builtin.len), args := #[(Operand.tmp 5)], argTypes := #[23] }), none, ann0⟩,
  ⟨(some 7), (Op.binOp BinOp.gtr 3 (Operand.tmp 6) (Operand.const (Value.int IntKind.i64 4096)) 3), none, ann0⟩] none)
 (.cond (Operand.tmp 7) (.seq (.reg [⟨(some 2), (Op.assign (Operand.const (Value.slice none 0 0))), none, ann0⟩,
  ⟨(some 3), (Op.assign (Operand.const (Value.int IntKind.i64 6))), none, ann0⟩] none)
 .ret)
 .skip)) (.tidy [0] z (z + 0)))
 (.seq (.seq (.reg [⟨(some 8), (Op.move (Operand.tmp 0)), none, ann0⟩,
  ⟨(some 9), (Op.call { callee := (Callee.value (Operand.func 56)), args := #[(Operand.tmp 8), (Operand.func 57)], argTypes := #[23, 65] }), none, ann0⟩] none)
 (.cond (Operand.tmp 9) (.seq (.reg [⟨(some 2), (Op.assign (Operand.const (Value.slice none 0 0))), none, ann0⟩,
  ⟨(some 3), (Op.assign (Operand.const (Value.int IntKind.i64 2))), none, ann0⟩] none)
 .ret)
 .skip))
 (.seq (.post (.reg [⟨(some 10), (Op.move (Operand.tmp 0)), none, ann0⟩,
  ⟨(some 11), (Op.call { callee := (Callee.value (Operand.func 59)), args := #[(Operand.tmp 10)], argTypes := #[23] }), none, ⟨1, false, false⟩⟩,
  ⟨(some 12), (Op.call { callee := (Callee.value (Operand.func 58)), args := #[(Operand.tmp 11), (Operand.func 60)], argTypes := #[69, 72] }), none, ann0⟩,
  ⟨(some 4), (Op.assign (Operand.tmp 12)), none, ann0⟩] none) (.tidy [4] z (z + 1)))
 (.seq (.reg [⟨(some 13), (Op.move (Operand.tmp 4)), none, ann0⟩,
  ⟨(some 14), (Op.call { callee := (Callee.value (Operand.func 53)), args := #[(Operand.tmp 13)], argTypes := #[23] }), none, ann0⟩,
  ⟨(some 2), (Op.assign (Operand.tmp 14)), none, ann0⟩,
  ⟨(some 3), (Op.assign (Operand.const (Value.int IntKind.i64 0))), none, ann0⟩] none)
 .ret))))) (.frz 2))⟩
theorem F26 (z : Nat) : FOk Try.prog 26 (s26 z) := by unfold FOk; kernel_rfl
def c27_1 (z : Nat) : SC := .post (.seq (.post (.seq (.reg [⟨(some 8), (Op.move (Operand.tmp 4)), none, ann0⟩,
  ⟨(some 9), (Op.move (Operand.tmp 0)), none, ann0⟩,
  ⟨(some 10), (Op.call { callee := (Callee.builtin Builtin.len), args := #[(Operand.tmp 9)], argTypes := #[23] }), none, ann0⟩,
  ⟨(some 11), (Op.binOp BinOp.lss 3 (Operand.tmp 8) (Operand.tmp 10) 3), none, ann0⟩] none)
 (.cond (Operand.tmp 11) .skip
 (.exit 0))) (.tidy [0, 4] z (z + 0)))
 (.seq (.post (.block 1 (.seq (.post (.reg [⟨(some 14), (Op.move (Operand.tmp 0)), none, ann0⟩,
  ⟨(some 15), (Op.move (Operand.tmp 4)), none, ann0⟩,
  ⟨(some 16), (Op.indexAddr 23 (Operand.tmp 14) (Operand.tmp 15)), none, ann0⟩,
  ⟨(some 17), (Op.fieldAddr 33 (Operand.tmp 16) 0), none, ann0⟩,
  ⟨(some 18), (Op.load 3 (Operand.tmp 17)), none, ann0⟩,
  ⟨(some 19), (Op.call { callee := (Callee.value (Operand.func 55)), args := #[(Operand.tmp 18)], argTypes := #[3] }), none, ann0⟩,
  ⟨(some 20), (Op.unOp UnOp.not 4 (Operand.tmp 19)), none, ann0⟩,
  ⟨(some 21), (Op.move (Operand.tmp 20)), none, ann0⟩,
  ⟨(some 22), (Op.move (Operand.tmp 0)), (some (21, false)), ann0⟩,
  ⟨(some 23), (Op.move (Operand.tmp 4)), (some (21, false)), ann0⟩,
  ⟨(some 24), (Op.indexAddr 23 (Operand.tmp 22) (Operand.tmp 23)), (some (21, false)), ann0⟩,
  ⟨(some 25), (Op.fieldAddr 33 (Operand.tmp 24) 1), (some (21, false)), ann0⟩,
  ⟨(some 26), (Op.load 3 (Operand.tmp 25)), (some (21, false)), ann0⟩,
  ⟨(some 27), (Op.call { callee := (Callee.value (Operand.func 55)), args := #[(Operand.tmp 26)], argTypes := #[3] }), (some (21, false)), ann0⟩,
  ⟨(some 28), (Op.unOp UnOp.not 4 (Operand.tmp 27)), (some (21, false)), ann0⟩,
  ⟨(some 29), (Op.pick (Operand.tmp 21) (Operand.const (Value.bool true)) (Operand.tmp 28)), none, ann0⟩] none) (.tidy [0, 4, 29] z (z + 0)))
 (.cond (Operand.tmp 29) (.seq (.reg [⟨(some 2), (Op.assign (Operand.const (Value.slice none 0 0))), none, ann0⟩,
  ⟨(some 3), (Op.assign (Operand.const (Value.int IntKind.i64 2))), none, ann0⟩] none)
 .ret)
 .skip))) (.tidy [0, 4] z (z + 0)))
 (.reg [⟨(some 12), (Op.move (Operand.tmp 4)), none, ann0⟩,
  ⟨(some 13), (Op.binOp BinOp.add 3 (Operand.tmp 12) (Operand.const (Value.int IntKind.i64 1)) 3), none, ann0⟩,
  ⟨(some 4), (Op.assign (Operand.tmp 13)), none, ann0⟩] none))) (.tidy [0, 4] z (z + 0))
def s27_1 (z : Nat) : SC := c27_1 z
theorem e27_1 {C : Pg} {z : Nat} {st : St} {ks : List Fr} {K : Ex → St → Prop} : wpk C (s27_1 z) st ks K ↔ wpk C (c27_1 z) st ks K := Iff.rfl
def s27 (z : Nat) : SFn := ⟨1, 32, [(ResultVar.tmp 2), (ResultVar.tmp 3)],
 (.post (.seq (.reg [⟨(some 2), (Op.assign (Operand.const (Value.slice none 0 0))), none, ann0⟩,
  ⟨(some 3), (Op.assign (Operand.const (Value.int IntKind.i64 0))), none, ann0⟩] none)
 (.seq (.post (.seq (.reg [⟨(some 5), (Op.move (Operand.tmp 0)), none, ann0⟩,
  ⟨(some 6), (Op.call { callee := (Callee.builtin Builtin.len), args := #[(Operand.tmp 5)], argTypes := #[23] }), none, ann0⟩,
  ⟨(some 7), (Op.binOp BinOp.gtr 3 (Operand.tmp 6) (Operand.const (Value.int IntKind.i64 4096)) 3), none, ann0⟩] none)
 (.cond (Operand.tmp 7) (.seq (.reg [⟨(some 2), (Op.assign (Operand.const (Value.slice none 0 0))), none, ann0⟩,
  ⟨(some 3), (Op.assign (Operand.const (Value.int IntKind.i64 6))), none, ann0⟩] none)
 .ret)
 .skip)) (.tidy [0] z (z + 0)))
 (.seq (.post (.seq (.reg [⟨(some 4), (Op.assign (Operand.const (Value.int IntKind.i64 0))), none, ann0⟩] none)
 (.post (.block 0 (.pre (.tidy [0, 4] z (z + 0)) (.loop (s27_1 z)))) (.tidy [0] z (z + 0)))) (.tidy [0] z (z + 0)))
 (.seq (.reg [⟨(some 30), (Op.move (Operand.tmp 0)), none, ann0⟩,
  ⟨(some 31), (Op.call { callee := (Callee.value (Operand.func 47)), args := #[(Operand.tmp 30)], argTypes := #[23] }), none, ann0⟩,
  ⟨(some 2), (Op.assign (Operand.tmp 31)), none, ann0⟩,
  ⟨(some 3), (Op.assign (Operand.const (Value.int IntKind.i64 0))), none, ann0⟩] none)
 .ret)))) (.frz 2))⟩
theorem F27 (z : Nat) : FOk Try.prog 27 (s27 z) := by unfold FOk; kernel_rfl
def c28_1 (z : Nat) : SC := .post (.seq (.reg [⟨(some 18), (Op.binOp BinOp.lss 3 (Operand.tmp 17) (Operand.tmp 16) 3), none, ann0⟩] none)
 (.seq (.cond (Operand.tmp 18) .skip
 (.exit 0))
 (.seq (.post (.block 1 (.seq (.reg [⟨(some 19), (Op.indexAddr 23 (Operand.tmp 15) (Operand.tmp 17)), none, ann0⟩,
  ⟨(some 20), (Op.load 33 (Operand.tmp 19)), none, ann0⟩,
  ⟨(some 8), (Op.alloc 33), none, ⟨1, false, false⟩⟩,
  ⟨none, (Op.store 33 (Operand.tmp 8) (Operand.tmp 20)), none, ann0⟩] none)
 (.reg [⟨(some 21), (Op.move (Operand.tmp 6)), none, ann0⟩,
  ⟨(some 22), (Op.fieldAddr 33 (Operand.tmp 8) 0), none, ann0⟩,
  ⟨(some 23), (Op.load 3 (Operand.tmp 22)), none, ann0⟩,
  ⟨(some 24), (Op.move (Operand.tmp 1)), none, ann0⟩,
  ⟨(some 25), (Op.call { callee := (Callee.value (Operand.func 62)), args := #[(Operand.tmp 23), (Operand.tmp 24)], argTypes := #[3, 3] }), none, ann0⟩,
  ⟨(some 26), (Op.fieldAddr 33 (Operand.tmp 8) 1), none, ann0⟩,
  ⟨(some 27), (Op.load 3 (Operand.tmp 26)), none, ann0⟩,
  ⟨(some 28), (Op.binOp BinOp.sub 3 (Operand.tmp 27) (Operand.const (Value.int IntKind.i64 1)) 3), none, ann0⟩,
  ⟨(some 29), (Op.move (Operand.tmp 1)), none, ann0⟩,
  ⟨(some 30), (Op.call { callee := (Callee.value (Operand.func 62)), args := #[(Operand.tmp 28), (Operand.tmp 29)], argTypes := #[3, 3] }), none, ann0⟩,
  ⟨(some 31), (Op.binOp BinOp.add 3 (Operand.tmp 30) (Operand.const (Value.int IntKind.i64 1)) 3), none, ann0⟩,
  ⟨(some 32), (Op.build 33 #[(0, (Operand.tmp 25)), (1, (Operand.tmp 31))]), none, ann0⟩,
  ⟨(some 33), (Op.buildSlice 23 1 #[(0, (Operand.tmp 32))]), none, ⟨1, true, false⟩⟩,
  ⟨(some 34), (Op.call { callee := (Callee.builtin Builtin.append), args := #[(Operand.tmp 21), (Operand.tmp 33)], argTypes := #[23, 23] }), none, ann0⟩,
  ⟨(some 6), (Op.assign (Operand.tmp 34)), none, ann0⟩] (some [0, 0, 2, 0, 14, 0, 32, 96, 0, 510, 1022, 2046, 4094, 8191, 16383])))) (.tidy [1, 6, 15, 16, 17] z (z + 3)))
 (.reg [⟨(some 35), (Op.binOp BinOp.add 3 (Operand.tmp 17) (Operand.const (Value.int IntKind.i64 1)) 3), none, ann0⟩,
  ⟨(some 17), (Op.move (Operand.tmp 35)), none, ann0⟩] none)))) (.tidy [1, 6, 15, 16, 17] z (z + 1))
def s28_1 (z : Nat) : SC := c28_1 z
theorem e28_1 {C : Pg} {z : Nat} {st : St} {ks : List Fr} {K : Ex → St → Prop} : wpk C (s28_1 z) st ks K ↔ wpk C (c28_1 z) st ks K := Iff.rfl
def s28 (z : Nat) : SFn := ⟨2, 38, [(ResultVar.tmp 4), (ResultVar.tmp 5)],
 (.post (.seq (.reg [⟨(some 4), (Op.assign (Operand.const (Value.slice none 0 0))), none, ann0⟩,
  ⟨(some 5), (Op.assign (Operand.const (Value.int IntKind.i64 0))), none, ann0⟩] none)
 (.seq (.post (.seq (.post (.reg [⟨(some 9), (Op.move (Operand.tmp 1)), none, ann0⟩,
  ⟨(some 10), (Op.binOp BinOp.lss 3 (Operand.tmp 9) (Operand.const (Value.int IntKind.i64 1)) 3), none, ann0⟩,
  ⟨(some 11), (Op.move (Operand.tmp 10)), none, ann0⟩,
  ⟨(some 12), (Op.move (Operand.tmp 1)), (some (11, false)), ann0⟩,
  ⟨(some 13), (Op.binOp BinOp.gtr 3 (Operand.tmp 12) (Operand.const (Value.int IntKind.i64 1125899906842624)) 3), (some (11, false)), ann0⟩,
  ⟨(some 14), (Op.pick (Operand.tmp 11) (Operand.const (Value.bool true)) (Operand.tmp 13)), none, ann0⟩] none) (.tidy [0, 1, 14] z (z + 0)))
 (.cond (Operand.tmp 14) (.seq (.reg [⟨(some 4), (Op.assign (Operand.const (Value.slice none 0 0))), none, ann0⟩,
  ⟨(some 5), (Op.assign (Operand.const (Value.int IntKind.i64 2))), none, ann0⟩] none)
 .ret)
 .skip)) (.tidy [0, 1] z (z + 0)))
 (.seq (.post (.reg [⟨(some 6), (Op.assign (Operand.const (Value.slice none 0 0))), none, ann0⟩] none) (.mkv 6 33 2))
 (.seq (.post (.seq (.reg [⟨(some 15), (Op.move (Operand.tmp 0)), none, ann0⟩,
  ⟨(some 16), (Op.call { callee := (Callee.builtin Builtin.len), args := #[(Operand.tmp 15)], argTypes := #[23] }), none, ann0⟩,
  ⟨(some 17), (Op.move (Operand.const (Value.int IntKind.i64 0))), none, ann0⟩] none)
 (.post (.post (.block 0 (.pre (.tidy [1, 6, 15, 16, 17] z (z + 1)) (.loop (s28_1 z)))) (.tidy [6] z (z + 1))) (.frz 6))) (.tidy [6] z (z + 1)))
 (.seq (.reg [⟨(some 36), (Op.move (Operand.tmp 6)), none, ann0⟩,
  ⟨(some 37), (Op.call { callee := (Callee.value (Operand.func 53)), args := #[(Operand.tmp 36)], argTypes := #[23] }), none, ann0⟩,
  ⟨(some 4), (Op.assign (Operand.tmp 37)), none, ann0⟩,
  ⟨(some 5), (Op.assign (Operand.const (Value.int IntKind.i64 0))), none, ann0⟩] none)
 .ret))))) (.frz 4))⟩
theorem F28 (z : Nat) : FOk Try.prog 28 (s28 z) := by unfold FOk; kernel_rfl
def c29_1 (z : Nat) : SC := .post (.seq (.post (.seq (.reg [⟨(some 7), (Op.move (Operand.tmp 6)), none, ann0⟩,
  ⟨(some 8), (Op.move (Operand.tmp 0)), none, ann0⟩,
  ⟨(some 9), (Op.call { callee := (Callee.builtin Builtin.len), args := #[(Operand.tmp 8)], argTypes := #[23] }), none, ann0⟩,
  ⟨(some 10), (Op.binOp BinOp.lss 3 (Operand.tmp 7) (Operand.tmp 9) 3), none, ann0⟩] none)
 (.cond (Operand.tmp 10) .skip
 (.exit 0))) (.tidy [0, 1, 5, 6] z (z + 1)))
 (.seq (.post (.block 1 (.reg [⟨(some 13), (Op.move (Operand.tmp 5)), none, ann0⟩,
  ⟨(some 14), (Op.move (Operand.tmp 0)), none, ann0⟩,
  ⟨(some 15), (Op.move (Operand.tmp 6)), none, ann0⟩,
  ⟨(some 16), (Op.indexAddr 23 (Operand.tmp 14) (Operand.tmp 15)), none, ann0⟩,
  ⟨(some 17), (Op.fieldAddr 33 (Operand.tmp 16) 0), none, ann0⟩,
  ⟨(some 18), (Op.load 3 (Operand.tmp 17)), none, ann0⟩,
  ⟨(some 19), (Op.move (Operand.tmp 1)), none, ann0⟩,
  ⟨(some 20), (Op.call { callee := (Callee.value (Operand.func 63)), args := #[(Operand.tmp 18), (Operand.tmp 19)], argTypes := #[3, 3] }), none, ann0⟩,
  ⟨(some 21), (Op.move (Operand.tmp 0)), none, ann0⟩,
  ⟨(some 22), (Op.move (Operand.tmp 6)), none, ann0⟩,
  ⟨(some 23), (Op.indexAddr 23 (Operand.tmp 21) (Operand.tmp 22)), none, ann0⟩,
  ⟨(some 24), (Op.fieldAddr 33 (Operand.tmp 23) 1), none, ann0⟩,
  ⟨(some 25), (Op.load 3 (Operand.tmp 24)), none, ann0⟩,
  ⟨(some 26), (Op.binOp BinOp.sub 3 (Operand.tmp 25) (Operand.const (Value.int IntKind.i64 1)) 3), none, ann0⟩,
  ⟨(some 27), (Op.move (Operand.tmp 1)), none, ann0⟩,
  ⟨(some 28), (Op.call { callee := (Callee.value (Operand.func 63)), args := #[(Operand.tmp 26), (Operand.tmp 27)], argTypes := #[3, 3] }), none, ann0⟩,
  ⟨(some 29), (Op.binOp BinOp.add 3 (Operand.tmp 28) (Operand.const (Value.int IntKind.i64 1)) 3), none, ann0⟩,
  ⟨(some 30), (Op.build 33 #[(0, (Operand.tmp 20)), (1, (Operand.tmp 29))]), none, ann0⟩,
  ⟨(some 31), (Op.buildSlice 23 1 #[(0, (Operand.tmp 30))]), none, ⟨1, true, false⟩⟩,
  ⟨(some 32), (Op.call { callee := (Callee.builtin Builtin.append), args := #[(Operand.tmp 13), (Operand.tmp 31)], argTypes := #[23, 23] }), none, ann0⟩,
  ⟨(some 5), (Op.assign (Operand.tmp 32)), none, ann0⟩] (some [0, 0, 0, 6, 14, 30, 0, 126, 0, 0, 768, 1792, 3840, 7936, 0, 32766, 65534, 131070, 262142, 524287, 1048575]))) (.tidy [0, 1, 5, 6] z (z + 2)))
 (.reg [⟨(some 11), (Op.move (Operand.tmp 6)), none, ann0⟩,
  ⟨(some 12), (Op.binOp BinOp.add 3 (Operand.tmp 11) (Operand.const (Value.int IntKind.i64 1)) 3), none, ann0⟩,
  ⟨(some 6), (Op.assign (Operand.tmp 12)), none, ann0⟩] none))) (.tidy [0, 1, 5, 6] z (z + 1))
def s29_1 (z : Nat) : SC := c29_1 z
theorem e29_1 {C : Pg} {z : Nat} {st : St} {ks : List Fr} {K : Ex → St → Prop} : wpk C (s29_1 z) st ks K ↔ wpk C (c29_1 z) st ks K := Iff.rfl
def s29 (z : Nat) : SFn := ⟨2, 35, [(ResultVar.tmp 4)],
 (.post (.seq (.reg [⟨(some 4), (Op.assign (Operand.const (Value.slice none 0 0))), none, ann0⟩] none)
 (.seq (.post (.reg [⟨(some 5), (Op.assign (Operand.const (Value.slice none 0 0))), none, ann0⟩] none) (.mkv 5 33 2))
 (.seq (.post (.seq (.reg [⟨(some 6), (Op.assign (Operand.const (Value.int IntKind.i64 0))), none, ann0⟩] none)
 (.post (.post (.block 0 (.pre (.tidy [0, 1, 5, 6] z (z + 1)) (.loop (s29_1 z)))) (.tidy [5] z (z + 1))) (.frz 5))) (.tidy [5] z (z + 1)))
 (.seq (.reg [⟨(some 33), (Op.move (Operand.tmp 5)), none, ann0⟩,
  ⟨(some 34), (Op.call { callee := (Callee.value (Operand.func 47)), args := #[(Operand.tmp 33)], argTypes := #[23] }), none, ann0⟩,
  ⟨(some 4), (Op.assign (Operand.tmp 34)), none, ann0⟩] none)
 .ret)))) (.frz 4))⟩
theorem F29 (z : Nat) : FOk Try.prog 29 (s29 z) := by unfold FOk; kernel_rfl
def s30 (z : Nat) : SFn := ⟨2, 18, [(ResultVar.tmp 4), (ResultVar.tmp 5)],
 (.post (.seq (.reg [⟨(some 4), (Op.assign (Operand.const (Value.slice none 0 0))), none, ann0⟩,
  ⟨(some 5), (Op.assign (Operand.const (Value.int IntKind.i64 0))), none, ann0⟩] none)
 (.seq (.post (.seq (.post (.reg [⟨(some 6), (Op.move (Operand.tmp 1)), none, ann0⟩,
  ⟨(some 7), (Op.binOp BinOp.lss 3 (Operand.tmp 6) (Operand.const (Value.int IntKind.i64 (-2251799813685248))) 3), none, ann0⟩,
  ⟨(some 8), (Op.move (Operand.tmp 7)), none, ann0⟩,
  ⟨(some 9), (Op.move (Operand.tmp 1)), (some (8, false)), ann0⟩,
  ⟨(some 10), (Op.binOp BinOp.gtr 3 (Operand.tmp 9) (Operand.const (Value.int IntKind.i64 2251799813685248)) 3), (some (8, false)), ann0⟩,
  ⟨(some 11), (Op.pick (Operand.tmp 8) (Operand.const (Value.bool true)) (Operand.tmp 10)), none, ann0⟩] none) (.tidy [0, 1, 11] z (z + 0)))
 (.cond (Operand.tmp 11) (.seq (.reg [⟨(some 4), (Op.assign (Operand.const (Value.slice none 0 0))), none, ann0⟩,
  ⟨(some 5), (Op.assign (Operand.const (Value.int IntKind.i64 2))), none, ann0⟩] none)
 .ret)
 .skip)) (.tidy [0, 1] z (z + 0)))
 (.seq (.reg [⟨(some 12), (Op.move (Operand.tmp 0)), none, ann0⟩,
  ⟨(some 13), (Op.move (Operand.tmp 1)), none, ann0⟩,
  ⟨(some 14), (Op.move (Operand.tmp 1)), none, ann0⟩,
  ⟨(some 15), (Op.call { callee := (Callee.value (Operand.func 64)), args := #[(Operand.tmp 12), (Operand.tmp 13), (Operand.tmp 14)], argTypes := #[23, 3, 3] }), none, ann0⟩,
  ⟨(some 16), (Op.extract (Operand.tmp 15) 0), none, ann0⟩,
  ⟨(some 17), (Op.extract (Operand.tmp 15) 1), none, ann0⟩,
  ⟨(some 4), (Op.assign (Operand.tmp 16)), none, ann0⟩,
  ⟨(some 5), (Op.assign (Operand.tmp 17)), none, ann0⟩] none)
 .ret))) (.frz 4))⟩
theorem F30 (z : Nat) : FOk Try.prog 30 (s30 z) := by unfold FOk; kernel_rfl
def s31 (z : Nat) : SFn := ⟨3, 25, [(ResultVar.tmp 6), (ResultVar.tmp 7)],
 (.post (.seq (.reg [⟨(some 6), (Op.assign (Operand.const (Value.slice none 0 0))), none, ann0⟩,
  ⟨(some 7), (Op.assign (Operand.const (Value.int IntKind.i64 0))), none, ann0⟩] none)
 (.seq (.post (.seq (.post (.reg [⟨(some 8), (Op.move (Operand.tmp 1)), none, ann0⟩,
  ⟨(some 9), (Op.move (Operand.tmp 2)), none, ann0⟩,
  ⟨(some 10), (Op.call { callee := (Callee.builtin Builtin.min), args := #[(Operand.tmp 8), (Operand.tmp 9)], argTypes := #[3, 3] }), none, ann0⟩,
  ⟨(some 11), (Op.binOp BinOp.lss 3 (Operand.tmp 10) (Operand.const (Value.int IntKind.i64 0)) 3), none, ann0⟩,
  ⟨(some 12), (Op.move (Operand.tmp 11)), none, ann0⟩,
  ⟨(some 13), (Op.move (Operand.tmp 1)), (some (12, false)), ann0⟩,
  ⟨(some 14), (Op.move (Operand.tmp 2)), (some (12, false)), ann0⟩,
  ⟨(some 15), (Op.call { callee := (Callee.builtin Builtin.max), args := #[(Operand.tmp 13), (Operand.tmp 14)], argTypes := #[3, 3] }), (some (12, false)), ann0⟩,
  ⟨(some 16), (Op.binOp BinOp.gtr 3 (Operand.tmp 15) (Operand.const (Value.int IntKind.i64 2251799813685248)) 3), (some (12, false)), ann0⟩,
  ⟨(some 17), (Op.pick (Operand.tmp 12) (Operand.const (Value.bool true)) (Operand.tmp 16)), none, ann0⟩] none) (.tidy [0, 1, 2, 17] z (z + 0)))
 (.cond (Operand.tmp 17) (.seq (.reg [⟨(some 6), (Op.assign (Operand.const (Value.slice none 0 0))), none, ann0⟩,
  ⟨(some 7), (Op.assign (Operand.const (Value.int IntKind.i64 2))), none, ann0⟩] none)
 .ret)
 .skip)) (.tidy [0, 1, 2] z (z + 0)))
 (.seq (.reg [⟨(some 18), (Op.move (Operand.tmp 0)), none, ann0⟩,
  ⟨(some 19), (Op.move (Operand.tmp 1)), none, ann0⟩,
  ⟨(some 20), (Op.unOp UnOp.neg 3 (Operand.tmp 19)), none, ann0⟩,
  ⟨(some 21), (Op.move (Operand.tmp 2)), none, ann0⟩,
  ⟨(some 22), (Op.call { callee := (Callee.value (Operand.func 64)), args := #[(Operand.tmp 18), (Operand.tmp 20), (Operand.tmp 21)], argTypes := #[23, 3, 3] }), none, ann0⟩,
  ⟨(some 23), (Op.extract (Operand.tmp 22) 0), none, ann0⟩,
  ⟨(some 24), (Op.extract (Operand.tmp 22) 1), none, ann0⟩,
  ⟨(some 6), (Op.assign (Operand.tmp 23)), none, ann0⟩,
  ⟨(some 7), (Op.assign (Operand.tmp 24)), none, ann0⟩] none)
 .ret))) (.frz 6))⟩
theorem F31 (z : Nat) : FOk Try.prog 31 (s31 z) := by unfold FOk; kernel_rfl
def s32 (z : Nat) : SFn := ⟨1, 9, [(ResultVar.tmp 2)],
 (.seq (.reg [⟨(some 2), (Op.assign (Operand.const (Value.bool false))), none, ann0⟩] none)
 (.seq (.reg [⟨(some 3), (Op.move (Operand.tmp 0)), none, ann0⟩,
  ⟨(some 4), (Op.binOp BinOp.lss 3 (Operand.tmp 3) (Operand.const (Value.int IntKind.i64 (-2251799813685248))) 3), none, ann0⟩,
  ⟨(some 5), (Op.move (Operand.tmp 4)), none, ann0⟩,
  ⟨(some 6), (Op.move (Operand.tmp 0)), (some (5, false)), ann0⟩,
  ⟨(some 7), (Op.binOp BinOp.gtr 3 (Operand.tmp 6) (Operand.const (Value.int IntKind.i64 2251799813685248)) 3), (some (5, false)), ann0⟩,
  ⟨(some 8), (Op.pick (Operand.tmp 5) (Operand.const (Value.bool true)) (Operand.tmp 7)), none, ann0⟩,
  ⟨(some 2), (Op.assign (Operand.tmp 8)), none, ann0⟩] none)
 .ret))⟩
theorem F32 (z : Nat) : FOk Try.prog 32 (s32 z) := by unfold FOk; kernel_rfl
def c33_1 (z : Nat) : SC := .post (.seq (.post (.seq (.reg [⟨(some 11), (Op.move (Operand.tmp 9)), none, ann0⟩,
  ⟨(some 12), (Op.move (Operand.tmp 0)), none, ann0⟩,
  ⟨(some 13), (Op.call { callee := (Callee.builtin Builtin.len), args := #[(Operand.tmp 12)], argTypes := #[23] }), none, ann0⟩,
  ⟨(some 14), (Op.binOp BinOp.lss 3 (Operand.tmp 11) (Operand.tmp 13) 3), none, ann0⟩] none)
 (.cond (Operand.tmp 14) .skip
 (.exit 0))) (.tidy [0, 1, 2, 8, 9] z (z + 1)))
 (.seq (.post (.block 1 (.seq (.post (.reg [⟨(some 17), (Op.move (Operand.tmp 0)), none, ann0⟩,
  ⟨(some 18), (Op.move (Operand.tmp 9)), none, ann0⟩,
  ⟨(some 19), (Op.indexAddr 23 (Operand.tmp 17) (Operand.tmp 18)), none, ann0⟩,
  ⟨(some 20), (Op.fieldAddr 33 (Operand.tmp 19) 0), none, ann0⟩,
  ⟨(some 21), (Op.load 3 (Operand.tmp 20)), none, ann0⟩,
  ⟨(some 22), (Op.move (Operand.tmp 1)), none, ann0⟩,
  ⟨(some 23), (Op.binOp BinOp.sub 3 (Operand.tmp 21) (Operand.tmp 22) 3), none, ann0⟩,
  ⟨(some 24), (Op.move (Operand.tmp 0)), none, ann0⟩,
  ⟨(some 25), (Op.move (Operand.tmp 9)), none, ann0⟩,
  ⟨(some 26), (Op.indexAddr 23 (Operand.tmp 24) (Operand.tmp 25)), none, ann0⟩,
  ⟨(some 27), (Op.fieldAddr 33 (Operand.tmp 26) 1), none, ann0⟩,
  ⟨(some 28), (Op.load 3 (Operand.tmp 27)), none, ann0⟩,
  ⟨(some 29), (Op.move (Operand.tmp 2)), none, ann0⟩,
  ⟨(some 30), (Op.binOp BinOp.add 3 (Operand.tmp 28) (Operand.tmp 29) 3), none, ann0⟩,
  ⟨(some 31), (Op.build 33 #[(0, (Operand.tmp 23)), (1, (Operand.tmp 30))]), none, ann0⟩,
  ⟨(some 10), (Op.alloc 33), none, ⟨1, false, false⟩⟩,
  ⟨none, (Op.store 33 (Operand.tmp 10) (Operand.tmp 31)), none, ann0⟩] (some [0, 0, 3, 7, 15, 0, 63, 0, 0, 384, 896, 1920, 0, 8064, 16383, 0, 65535])) (.tidy [0, 1, 2, 8, 9, 10] z (z + 2)))
 (.seq (.post (.seq (.post (.reg [⟨(some 32), (Op.fieldAddr 33 (Operand.tmp 10) 0), none, ann0⟩,
  ⟨(some 33), (Op.load 3 (Operand.tmp 32)), none, ann0⟩,
  ⟨(some 34), (Op.call { callee := (Callee.value (Operand.func 55)), args := #[(Operand.tmp 33)], argTypes := #[3] }), none, ann0⟩,
  ⟨(some 35), (Op.unOp UnOp.not 4 (Operand.tmp 34)), none, ann0⟩,
  ⟨(some 36), (Op.move (Operand.tmp 35)), none, ann0⟩,
  ⟨(some 37), (Op.fieldAddr 33 (Operand.tmp 10) 1), (some (36, false)), ann0⟩,
  ⟨(some 38), (Op.load 3 (Operand.tmp 37)), (some (36, false)), ann0⟩,
  ⟨(some 39), (Op.call { callee := (Callee.value (Operand.func 55)), args := #[(Operand.tmp 38)], argTypes := #[3] }), (some (36, false)), ann0⟩,
  ⟨(some 40), (Op.unOp UnOp.not 4 (Operand.tmp 39)), (some (36, false)), ann0⟩,
  ⟨(some 41), (Op.pick (Operand.tmp 36) (Operand.const (Value.bool true)) (Operand.tmp 40)), none, ann0⟩] none) (.tidy [0, 1, 2, 8, 9, 10, 41] z (z + 2)))
 (.cond (Operand.tmp 41) (.seq (.reg [⟨(some 6), (Op.assign (Operand.const (Value.slice none 0 0))), none, ann0⟩,
  ⟨(some 7), (Op.assign (Operand.const (Value.int IntKind.i64 2))), none, ann0⟩] none)
 .ret)
 .skip)) (.tidy [0, 1, 2, 8, 9, 10] z (z + 2)))
 (.reg [⟨(some 42), (Op.move (Operand.tmp 8)), none, ann0⟩,
  ⟨(some 43), (Op.load 33 (Operand.tmp 10)), none, ann0⟩,
  ⟨(some 44), (Op.buildSlice 23 1 #[(0, (Operand.tmp 43))]), none, ⟨1, true, false⟩⟩,
  ⟨(some 45), (Op.call { callee := (Callee.builtin Builtin.append), args := #[(Operand.tmp 42), (Operand.tmp 44)], argTypes := #[23, 23] }), none, ann0⟩,
  ⟨(some 8), (Op.assign (Operand.tmp 45)), none, ann0⟩] none)))) (.tidy [0, 1, 2, 8, 9] z (z + 3)))
 (.reg [⟨(some 15), (Op.move (Operand.tmp 9)), none, ann0⟩,
  ⟨(some 16), (Op.binOp BinOp.add 3 (Operand.tmp 15) (Operand.const (Value.int IntKind.i64 1)) 3), none, ann0⟩,
  ⟨(some 9), (Op.assign (Operand.tmp 16)), none, ann0⟩] none))) (.tidy [0, 1, 2, 8, 9] z (z + 1))
def s33_1 (z : Nat) : SC := c33_1 z
theorem e33_1 {C : Pg} {z : Nat} {st : St} {ks : List Fr} {K : Ex → St → Prop} : wpk C (s33_1 z) st ks K ↔ wpk C (c33_1 z) st ks K := Iff.rfl
def s33 (z : Nat) : SFn := ⟨3, 48, [(ResultVar.tmp 6), (ResultVar.tmp 7)],
 (.post (.seq (.reg [⟨(some 6), (Op.assign (Operand.const (Value.slice none 0 0))), none, ann0⟩,
  ⟨(some 7), (Op.assign (Operand.const (Value.int IntKind.i64 0))), none, ann0⟩] none)
 (.seq (.post (.reg [⟨(some 8), (Op.assign (Operand.const (Value.slice none 0 0))), none, ann0⟩] none) (.mkv 8 33 2))
 (.seq (.post (.seq (.reg [⟨(some 9), (Op.assign (Operand.const (Value.int IntKind.i64 0))), none, ann0⟩] none)
 (.post (.post (.block 0 (.pre (.tidy [0, 1, 2, 8, 9] z (z + 1)) (.loop (s33_1 z)))) (.tidy [8] z (z + 1))) (.frz 8))) (.tidy [8] z (z + 1)))
 (.seq (.reg [⟨(some 46), (Op.move (Operand.tmp 8)), none, ann0⟩,
  ⟨(some 47), (Op.call { callee := (Callee.value (Operand.func 47)), args := #[(Operand.tmp 46)], argTypes := #[23] }), none, ann0⟩,
  ⟨(some 6), (Op.assign (Operand.tmp 47)), none, ann0⟩,
  ⟨(some 7), (Op.assign (Operand.const (Value.int IntKind.i64 0))), none, ann0⟩] none)
 .ret)))) (.frz 6))⟩
theorem F33 (z : Nat) : FOk Try.prog 33 (s33 z) := by unfold FOk; kernel_rfl
def s34 (z : Nat) : SFn := ⟨1, 5, [(ResultVar.tmp 2)],
 (.seq (.reg [⟨(some 2), (Op.assign (Operand.const (Value.int IntKind.i64 0))), none, ann0⟩] none)
 (.seq (.reg [⟨(some 3), (Op.move (Operand.tmp 0)), none, ann0⟩,
  ⟨(some 4), (Op.call { callee := (Callee.value (Operand.func 36)), args := #[(Operand.tmp 3), (Operand.const (Value.int IntKind.i64 1125899906842624))], argTypes := #[23, 3] }), none, ann0⟩,
  ⟨(some 2), (Op.assign (Operand.tmp 4)), none, ann0⟩] none)
 .ret))⟩
theorem F34 (z : Nat) : FOk Try.prog 34 (s34 z) := by unfold FOk; kernel_rfl
def s35 (z : Nat) : SFn := ⟨2, 37, [(ResultVar.tmp 4)],
 (.seq (.reg [⟨(some 4), (Op.assign (Operand.const (Value.int IntKind.i64 0))), none, ann0⟩] none)
 (.seq (.reg [⟨(some 7), (Op.move (Operand.tmp 0)), none, ann0⟩,
  ⟨(some 8), (Op.move (Operand.tmp 1)), none, ann0⟩,
  ⟨(some 9), (Op.call { callee := (Callee.value (Operand.func 65)), args := #[(Operand.tmp 7), (Operand.tmp 8)], argTypes := #[23, 3] }), none, ann0⟩,
  ⟨(some 5), (Op.assign (Operand.tmp 9)), none, ann0⟩] none)
 (.seq (.post (.reg [⟨(some 10), (Op.move (Operand.tmp 0)), none, ann0⟩,
  ⟨(some 11), (Op.move (Operand.tmp 5)), none, ann0⟩,
  ⟨(some 12), (Op.slice 23 (Operand.tmp 10) none (some (Operand.tmp 11)) none), none, ann0⟩,
  ⟨(some 13), (Op.call { callee := (Callee.value (Operand.func 20)), args := #[(Operand.tmp 12)], argTypes := #[23] }), none, ann0⟩,
  ⟨(some 6), (Op.assign (Operand.tmp 13)), none, ann0⟩] none) (.tidy [0, 1, 5, 6] z (z + 0)))
 (.seq (.post (.seq (.post (.reg [⟨(some 14), (Op.move (Operand.tmp 5)), none, ann0⟩,
  ⟨(some 15), (Op.move (Operand.tmp 0)), none, ann0⟩,
  ⟨(some 16), (Op.call { callee := (Callee.builtin Builtin.len), args := #[(Operand.tmp 15)], argTypes := #[23] }), none, ann0⟩,
  ⟨(some 17), (Op.binOp BinOp.lss 3 (Operand.tmp 14) (Operand.tmp 16) 3), none, ann0⟩,
  ⟨(some 18), (Op.move (Operand.tmp 17)), none, ann0⟩,
  ⟨(some 19), (Op.move (Operand.tmp 0)), (some (18, true)), ann0⟩,
  ⟨(some 20), (Op.move (Operand.tmp 5)), (some (18, true)), ann0⟩,
  ⟨(some 21), (Op.indexAddr 23 (Operand.tmp 19) (Operand.tmp 20)), (some (18, true)), ann0⟩,
  ⟨(some 22), (Op.fieldAddr 33 (Operand.tmp 21) 0), (some (18, true)), ann0⟩,
  ⟨(some 23), (Op.load 3 (Operand.tmp 22)), (some (18, true)), ann0⟩,
  ⟨(some 24), (Op.move (Operand.tmp 1)), (some (18, true)), ann0⟩,
  ⟨(some 25), (Op.binOp BinOp.lss 3 (Operand.tmp 23) (Operand.tmp 24) 3), (some (18, true)), ann0⟩,
  ⟨(some 26), (Op.pick (Operand.tmp 18) (Operand.tmp 25) (Operand.const (Value.bool false))), none, ann0⟩] none) (.tidy [0, 1, 5, 6, 26] z (z + 0)))
 (.cond (Operand.tmp 26) (.reg [⟨(some 27), (Op.move (Operand.tmp 6)), none, ann0⟩,
  ⟨(some 28), (Op.move (Operand.tmp 1)), none, ann0⟩,
  ⟨(some 29), (Op.move (Operand.tmp 0)), none, ann0⟩,
  ⟨(some 30), (Op.move (Operand.tmp 5)), none, ann0⟩,
  ⟨(some 31), (Op.indexAddr 23 (Operand.tmp 29) (Operand.tmp 30)), none, ann0⟩,
  ⟨(some 32), (Op.fieldAddr 33 (Operand.tmp 31) 0), none, ann0⟩,
  ⟨(some 33), (Op.load 3 (Operand.tmp 32)), none, ann0⟩,
  ⟨(some 34), (Op.binOp BinOp.sub 3 (Operand.tmp 28) (Operand.tmp 33) 3), none, ann0⟩,
  ⟨(some 35), (Op.binOp BinOp.add 3 (Operand.tmp 27) (Operand.tmp 34) 3), none, ann0⟩,
  ⟨(some 6), (Op.assign (Operand.tmp 35)), none, ann0⟩] none)
 .skip)) (.tidy [6] z (z + 0)))
 (.seq (.reg [⟨(some 36), (Op.move (Operand.tmp 6)), none, ann0⟩,
  ⟨(some 4), (Op.assign (Operand.tmp 36)), none, ann0⟩] none)
 .ret)))))⟩
theorem F35 (z : Nat) : FOk Try.prog 35 (s35 z) := by unfold FOk; kernel_rfl
def c36_1 (z : Nat) : SC := .post (.seq (.post (.seq (.reg [⟨(some 7), (Op.move (Operand.tmp 6)), none, ann0⟩,
  ⟨(some 8), (Op.move (Operand.tmp 0)), none, ann0⟩,
  ⟨(some 9), (Op.call { callee := (Callee.builtin Builtin.len), args := #[(Operand.tmp 8)], argTypes := #[23] }), none, ann0⟩,
  ⟨(some 10), (Op.binOp BinOp.lss 3 (Operand.tmp 7) (Operand.tmp 9) 3), none, ann0⟩] none)
 (.cond (Operand.tmp 10) .skip
 (.exit 0))) (.tidy [0, 1, 5, 6] z (z + 0)))
 (.seq (.post (.block 1 (.seq (.post (.reg [⟨(some 13), (Op.move (Operand.tmp 1)), none, ann0⟩,
  ⟨(some 14), (Op.move (Operand.tmp 0)), none, ann0⟩,
  ⟨(some 15), (Op.move (Operand.tmp 6)), none, ann0⟩,
  ⟨(some 16), (Op.indexAddr 23 (Operand.tmp 14) (Operand.tmp 15)), none, ann0⟩,
  ⟨(some 17), (Op.fieldAddr 33 (Operand.tmp 16) 0), none, ann0⟩,
  ⟨(some 18), (Op.load 3 (Operand.tmp 17)), none, ann0⟩,
  ⟨(some 19), (Op.binOp BinOp.gtr 3 (Operand.tmp 13) (Operand.tmp 18) 3), none, ann0⟩] none) (.tidy [0, 1, 5, 6, 19] z (z + 0)))
 (.cond (Operand.tmp 19) (.reg [⟨(some 20), (Op.move (Operand.tmp 5)), none, ann0⟩,
  ⟨(some 21), (Op.move (Operand.tmp 1)), none, ann0⟩,
  ⟨(some 22), (Op.move (Operand.tmp 0)), none, ann0⟩,
  ⟨(some 23), (Op.move (Operand.tmp 6)), none, ann0⟩,
  ⟨(some 24), (Op.indexAddr 23 (Operand.tmp 22) (Operand.tmp 23)), none, ann0⟩,
  ⟨(some 25), (Op.fieldAddr 33 (Operand.tmp 24) 1), none, ann0⟩,
  ⟨(some 26), (Op.load 3 (Operand.tmp 25)), none, ann0⟩,
  ⟨(some 27), (Op.call { callee := (Callee.builtin Builtin.min), args := #[(Operand.tmp 21), (Operand.tmp 26)], argTypes := #[3, 3] }), none, ann0⟩,
  ⟨(some 28), (Op.binOp BinOp.add 3 (Operand.tmp 20) (Operand.tmp 27) 3), none, ann0⟩,
  ⟨(some 29), (Op.move (Operand.tmp 0)), none, ann0⟩,
  ⟨(some 30), (Op.move (Operand.tmp 6)), none, ann0⟩,
  ⟨(some 31), (Op.indexAddr 23 (Operand.tmp 29) (Operand.tmp 30)), none, ann0⟩,
  ⟨(some 32), (Op.fieldAddr 33 (Operand.tmp 31) 0), none, ann0⟩,
  ⟨(some 33), (Op.load 3 (Operand.tmp 32)), none, ann0⟩,
  ⟨(some 34), (Op.binOp BinOp.sub 3 (Operand.tmp 28) (Operand.tmp 33) 3), none, ann0⟩,
  ⟨(some 5), (Op.assign (Operand.tmp 34)), none, ann0⟩] (some [0, 0, 0, 0, 12, 28, 60, 126, 255, 0, 0, 1536, 3584, 7680, 16383, 32767]))
 .skip))) (.tidy [0, 1, 5, 6] z (z + 0)))
 (.reg [⟨(some 11), (Op.move (Operand.tmp 6)), none, ann0⟩,
  ⟨(some 12), (Op.binOp BinOp.add 3 (Operand.tmp 11) (Operand.const (Value.int IntKind.i64 1)) 3), none, ann0⟩,
  ⟨(some 6), (Op.assign (Operand.tmp 12)), none, ann0⟩] none))) (.tidy [0, 1, 5, 6] z (z + 0))
def s36_1 (z : Nat) : SC := c36_1 z
theorem e36_1 {C : Pg} {z : Nat} {st : St} {ks : List Fr} {K : Ex → St → Prop} : wpk C (s36_1 z) st ks K ↔ wpk C (c36_1 z) st ks K := Iff.rfl
def s36 (z : Nat) : SFn := ⟨2, 36, [(ResultVar.tmp 4)],
 (.seq (.reg [⟨(some 4), (Op.assign (Operand.const (Value.int IntKind.i64 0))), none, ann0⟩] none)
 (.seq (.reg [⟨(some 5), (Op.assign (Operand.const (Value.int IntKind.i64 0))), none, ann0⟩] none)
 (.seq (.post (.seq (.reg [⟨(some 6), (Op.assign (Operand.const (Value.int IntKind.i64 0))), none, ann0⟩] none)
 (.post (.block 0 (.pre (.tidy [0, 1, 5, 6] z (z + 0)) (.loop (s36_1 z)))) (.tidy [5] z (z + 0)))) (.tidy [5] z (z + 0)))
 (.seq (.reg [⟨(some 35), (Op.move (Operand.tmp 5)), none, ann0⟩,
  ⟨(some 4), (Op.assign (Operand.tmp 35)), none, ann0⟩] none)
 .ret))))⟩
theorem F36 (z : Nat) : FOk Try.prog 36 (s36 z) := by unfold FOk; kernel_rfl
def c37_1 (z : Nat) : SC := .post (.seq (.reg [⟨(some 14), (Op.binOp BinOp.lss 3 (Operand.tmp 13) (Operand.tmp 12) 3), none, ann0⟩] none)
 (.seq (.cond (Operand.tmp 14) .skip
 (.exit 0))
 (.seq (.post (.block 1 (.seq (.reg [⟨(some 15), (Op.indexAddr 23 (Operand.tmp 11) (Operand.tmp 13)), none, ann0⟩,
  ⟨(some 16), (Op.load 33 (Operand.tmp 15)), none, ann0⟩,
  ⟨(some 7), (Op.alloc 33), none, ⟨1, false, false⟩⟩,
  ⟨none, (Op.store 33 (Operand.tmp 7) (Operand.tmp 16)), none, ann0⟩] none)
 (.seq (.post (.reg [⟨(some 17), (Op.fieldAddr 33 (Operand.tmp 7) 1), none, ann0⟩,
  ⟨(some 18), (Op.load 3 (Operand.tmp 17)), none, ann0⟩,
  ⟨(some 19), (Op.fieldAddr 33 (Operand.tmp 7) 0), none, ann0⟩,
  ⟨(some 20), (Op.load 3 (Operand.tmp 19)), none, ann0⟩,
  ⟨(some 21), (Op.binOp BinOp.sub 3 (Operand.tmp 18) (Operand.tmp 20) 3), none, ann0⟩,
  ⟨(some 8), (Op.assign (Operand.tmp 21)), none, ann0⟩] none) (.tidy [1, 7, 8, 11, 12, 13] z (z + 1)))
 (.seq (.post (.seq (.reg [⟨(some 22), (Op.move (Operand.tmp 1)), none, ann0⟩,
  ⟨(some 23), (Op.move (Operand.tmp 8)), none, ann0⟩,
  ⟨(some 24), (Op.binOp BinOp.lss 3 (Operand.tmp 22) (Operand.tmp 23) 3), none, ann0⟩] none)
 (.cond (Operand.tmp 24) (.seq (.reg [⟨(some 25), (Op.fieldAddr 33 (Operand.tmp 7) 0), none, ann0⟩,
  ⟨(some 26), (Op.load 3 (Operand.tmp 25)), none, ann0⟩,
  ⟨(some 27), (Op.move (Operand.tmp 1)), none, ann0⟩,
  ⟨(some 28), (Op.binOp BinOp.add 3 (Operand.tmp 26) (Operand.tmp 27) 3), none, ann0⟩,
  ⟨(some 4), (Op.assign (Operand.tmp 28)), none, ann0⟩,
  ⟨(some 5), (Op.assign (Operand.const (Value.bool true))), none, ann0⟩] none)
 .ret)
 .skip)) (.tidy [1, 8, 11, 12, 13] z (z + 1)))
 (.reg [⟨(some 29), (Op.move (Operand.tmp 1)), none, ann0⟩,
  ⟨(some 30), (Op.move (Operand.tmp 8)), none, ann0⟩,
  ⟨(some 31), (Op.binOp BinOp.sub 3 (Operand.tmp 29) (Operand.tmp 30) 3), none, ann0⟩,
  ⟨(some 1), (Op.assign (Operand.tmp 31)), none, ann0⟩] none))))) (.tidy [1, 11, 12, 13] z (z + 1)))
 (.reg [⟨(some 32), (Op.binOp BinOp.add 3 (Operand.tmp 13) (Operand.const (Value.int IntKind.i64 1)) 3), none, ann0⟩,
  ⟨(some 13), (Op.move (Operand.tmp 32)), none, ann0⟩] none)))) (.tidy [1, 11, 12, 13] z (z + 0))
def s37_1 (z : Nat) : SC := c37_1 z
theorem e37_1 {C : Pg} {z : Nat} {st : St} {ks : List Fr} {K : Ex → St → Prop} : wpk C (s37_1 z) st ks K ↔ wpk C (c37_1 z) st ks K := Iff.rfl
def s37 (z : Nat) : SFn := ⟨2, 33, [(ResultVar.tmp 4), (ResultVar.tmp 5)],
 (.seq (.reg [⟨(some 4), (Op.assign (Operand.const (Value.int IntKind.i64 0))), none, ann0⟩,
  ⟨(some 5), (Op.assign (Operand.const (Value.bool false))), none, ann0⟩] none)
 (.seq (.post (.seq (.reg [⟨(some 9), (Op.move (Operand.tmp 1)), none, ann0⟩,
  ⟨(some 10), (Op.binOp BinOp.lss 3 (Operand.tmp 9) (Operand.const (Value.int IntKind.i64 0)) 3), none, ann0⟩] none)
 (.cond (Operand.tmp 10) (.seq (.reg [⟨(some 4), (Op.assign (Operand.const (Value.int IntKind.i64 0))), none, ann0⟩,
  ⟨(some 5), (Op.assign (Operand.const (Value.bool false))), none, ann0⟩] none)
 .ret)
 .skip)) (.tidy [0, 1] z (z + 0)))
 (.seq (.post (.seq (.reg [⟨(some 11), (Op.move (Operand.tmp 0)), none, ann0⟩,
  ⟨(some 12), (Op.call { callee := (Callee.builtin Builtin.len), args := #[(Operand.tmp 11)], argTypes := #[23] }), none, ann0⟩,
  ⟨(some 13), (Op.move (Operand.const (Value.int IntKind.i64 0))), none, ann0⟩] none)
 (.post (.block 0 (.pre (.tidy [1, 11, 12, 13] z (z + 0)) (.loop (s37_1 z)))) (.tidy [] z (z + 0)))) (.tidy [] z (z + 0)))
 (.seq (.reg [⟨(some 4), (Op.assign (Operand.const (Value.int IntKind.i64 0))), none, ann0⟩,
  ⟨(some 5), (Op.assign (Operand.const (Value.bool false))), none, ann0⟩] none)
 .ret))))⟩
theorem F37 (z : Nat) : FOk Try.prog 37 (s37 z) := by unfold FOk; kernel_rfl
def c38_1 (z : Nat) : SC := .post (.seq (.post (.seq (.reg [⟨(some 6), (Op.move (Operand.tmp 5)), none, ann0⟩,
  ⟨(some 7), (Op.move (Operand.tmp 0)), none, ann0⟩,
  ⟨(some 8), (Op.call { callee := (Callee.builtin Builtin.len), args := #[(Operand.tmp 7)], argTypes := #[23] }), none, ann0⟩,
  ⟨(some 9), (Op.binOp BinOp.lss 3 (Operand.tmp 6) (Operand.tmp 8) 3), none, ann0⟩] none)
 (.cond (Operand.tmp 9) .skip
 (.exit 0))) (.tidy [0, 1, 5] z (z + 0)))
 (.seq (.post (.block 1 (.seq (.post (.reg [⟨(some 12), (Op.move (Operand.tmp 0)), none, ann0⟩,
  ⟨(some 13), (Op.move (Operand.tmp 5)), none, ann0⟩,
  ⟨(some 14), (Op.indexAddr 23 (Operand.tmp 12) (Operand.tmp 13)), none, ann0⟩,
  ⟨(some 15), (Op.fieldAddr 33 (Operand.tmp 14) 0), none, ann0⟩,
  ⟨(some 16), (Op.load 3 (Operand.tmp 15)), none, ann0⟩,
  ⟨(some 17), (Op.move (Operand.tmp 1)), none, ann0⟩,
  ⟨(some 18), (Op.binOp BinOp.leq 3 (Operand.tmp 16) (Operand.tmp 17) 3), none, ann0⟩,
  ⟨(some 19), (Op.move (Operand.tmp 18)), none, ann0⟩,
  ⟨(some 20), (Op.move (Operand.tmp 1)), (some (19, true)), ann0⟩,
  ⟨(some 21), (Op.move (Operand.tmp 0)), (some (19, true)), ann0⟩,
  ⟨(some 22), (Op.move (Operand.tmp 5)), (some (19, true)), ann0⟩,
  ⟨(some 23), (Op.indexAddr 23 (Operand.tmp 21) (Operand.tmp 22)), (some (19, true)), ann0⟩,
  ⟨(some 24), (Op.fieldAddr 33 (Operand.tmp 23) 1), (some (19, true)), ann0⟩,
  ⟨(some 25), (Op.load 3 (Operand.tmp 24)), (some (19, true)), ann0⟩,
  ⟨(some 26), (Op.binOp BinOp.lss 3 (Operand.tmp 20) (Operand.tmp 25) 3), (some (19, true)), ann0⟩,
  ⟨(some 27), (Op.pick (Operand.tmp 19) (Operand.tmp 26) (Operand.const (Value.bool false))), none, ann0⟩] none) (.tidy [0, 1, 5, 27] z (z + 0)))
 (.cond (Operand.tmp 27) (.seq (.reg [⟨(some 4), (Op.assign (Operand.const (Value.bool true))), none, ann0⟩] none)
 .ret)
 .skip))) (.tidy [0, 1, 5] z (z + 0)))
 (.reg [⟨(some 10), (Op.move (Operand.tmp 5)), none, ann0⟩,
  ⟨(some 11), (Op.binOp BinOp.add 3 (Operand.tmp 10) (Operand.const (Value.int IntKind.i64 1)) 3), none, ann0⟩,
  ⟨(some 5), (Op.assign (Operand.tmp 11)), none, ann0⟩] none))) (.tidy [0, 1, 5] z (z + 0))
def s38_1 (z : Nat) : SC := c38_1 z
theorem e38_1 {C : Pg} {z : Nat} {st : St} {ks : List Fr} {K : Ex → St → Prop} : wpk C (s38_1 z) st ks K ↔ wpk C (c38_1 z) st ks K := Iff.rfl
def s38 (z : Nat) : SFn := ⟨2, 28, [(ResultVar.tmp 4)],
 (.seq (.reg [⟨(some 4), (Op.assign (Operand.const (Value.bool false))), none, ann0⟩] none)
 (.seq (.post (.seq (.reg [⟨(some 5), (Op.assign (Operand.const (Value.int IntKind.i64 0))), none, ann0⟩] none)
 (.post (.block 0 (.pre (.tidy [0, 1, 5] z (z + 0)) (.loop (s38_1 z)))) (.tidy [] z (z + 0)))) (.tidy [] z (z + 0)))
 (.seq (.reg [⟨(some 4), (Op.assign (Operand.const (Value.bool false))), none, ann0⟩] none)
 .ret)))⟩
theorem F38 (z : Nat) : FOk Try.prog 38 (s38 z) := by unfold FOk; kernel_rfl
def s39 (z : Nat) : SFn := ⟨2, 21, [(ResultVar.tmp 4), (ResultVar.tmp 5)],
 (.seq (.reg [⟨(some 4), (Op.assign (Operand.const (Value.int IntKind.i64 0))), none, ann0⟩,
  ⟨(some 5), (Op.assign (Operand.const (Value.bool false))), none, ann0⟩] none)
 (.seq (.reg [⟨(some 7), (Op.move (Operand.tmp 0)), none, ann0⟩,
  ⟨(some 8), (Op.move (Operand.tmp 1)), none, ann0⟩,
  ⟨(some 9), (Op.call { callee := (Callee.value (Operand.func 65)), args := #[(Operand.tmp 7), (Operand.tmp 8)], argTypes := #[23, 3] }), none, ann0⟩,
  ⟨(some 6), (Op.assign (Operand.tmp 9)), none, ann0⟩] none)
 (.seq (.post (.seq (.post (.reg [⟨(some 10), (Op.move (Operand.tmp 6)), none, ann0⟩,
  ⟨(some 11), (Op.move (Operand.tmp 0)), none, ann0⟩,
  ⟨(some 12), (Op.call { callee := (Callee.builtin Builtin.len), args := #[(Operand.tmp 11)], argTypes := #[23] }), none, ann0⟩,
  ⟨(some 13), (Op.binOp BinOp.eql 3 (Operand.tmp 10) (Operand.tmp 12) 3), none, ann0⟩] none) (.tidy [0, 1, 6, 13] z (z + 0)))
 (.cond (Operand.tmp 13) (.seq (.reg [⟨(some 4), (Op.assign (Operand.const (Value.int IntKind.i64 0))), none, ann0⟩,
  ⟨(some 5), (Op.assign (Operand.const (Value.bool false))), none, ann0⟩] none)
 .ret)
 .skip)) (.tidy [0, 1, 6] z (z + 0)))
 (.seq (.reg [⟨(some 14), (Op.move (Operand.tmp 1)), none, ann0⟩,
  ⟨(some 15), (Op.move (Operand.tmp 0)), none, ann0⟩,
  ⟨(some 16), (Op.move (Operand.tmp 6)), none, ann0⟩,
  ⟨(some 17), (Op.indexAddr 23 (Operand.tmp 15) (Operand.tmp 16)), none, ann0⟩,
  ⟨(some 18), (Op.fieldAddr 33 (Operand.tmp 17) 0), none, ann0⟩,
  ⟨(some 19), (Op.load 3 (Operand.tmp 18)), none, ann0⟩,
  ⟨(some 20), (Op.call { callee := (Callee.builtin Builtin.max), args := #[(Operand.tmp 14), (Operand.tmp 19)], argTypes := #[3, 3] }), none, ann0⟩,
  ⟨(some 4), (Op.assign (Operand.tmp 20)), none, ann0⟩,
  ⟨(some 5), (Op.assign (Operand.const (Value.bool true))), none, ann0⟩] none)
 .ret))))⟩
theorem F39 (z : Nat) : FOk Try.prog 39 (s39 z) := by unfold FOk; kernel_rfl
def s40 (z : Nat) : SFn := ⟨2, 22, [(ResultVar.tmp 4), (ResultVar.tmp 5)],
 (.seq (.reg [⟨(some 2), (Op.box 23 (Operand.tmp 0)), none, ⟨1, false, false⟩⟩,
  ⟨(some 3), (Op.box 3 (Operand.tmp 1)), none, ⟨1, false, false⟩⟩,
  ⟨(some 4), (Op.assign (Operand.const (Value.int IntKind.i64 0))), none, ann0⟩,
  ⟨(some 5), (Op.assign (Operand.const (Value.bool false))), none, ann0⟩] none)
 (.seq (.post (.reg [⟨(some 7), (Op.load 23 (Operand.tmp 2)), none, ann0⟩,
  ⟨(some 8), (Op.call { callee := (Callee.builtin Builtin.len), args := #[(Operand.tmp 7)], argTypes := #[23] }), none, ann0⟩,
  ⟨(some 9), (Op.makeFunc (Fn.func 67) #[] #[(Operand.tmp 2), (Operand.tmp 3)]), none, ann0⟩,
  ⟨(some 10), (Op.call { callee := (Callee.value (Operand.func 66)), args := #[(Operand.tmp 8), (Operand.tmp 9)], argTypes := #[3, 50] }), none, ann0⟩,
  ⟨(some 6), (Op.assign (Operand.tmp 10)), none, ann0⟩] none) (.tidy [2, 3, 6] z (z + 2)))
 (.seq (.seq (.reg [⟨(some 11), (Op.move (Operand.tmp 6)), none, ann0⟩,
  ⟨(some 12), (Op.binOp BinOp.eql 3 (Operand.tmp 11) (Operand.const (Value.int IntKind.i64 0)) 3), none, ann0⟩] none)
 (.cond (Operand.tmp 12) (.seq (.reg [⟨(some 4), (Op.assign (Operand.const (Value.int IntKind.i64 0))), none, ann0⟩,
  ⟨(some 5), (Op.assign (Operand.const (Value.bool false))), none, ann0⟩] none)
 .ret)
 .skip))
 (.seq (.reg [⟨(some 13), (Op.load 3 (Operand.tmp 3)), none, ann0⟩,
  ⟨(some 14), (Op.load 23 (Operand.tmp 2)), none, ann0⟩,
  ⟨(some 15), (Op.move (Operand.tmp 6)), none, ann0⟩,
  ⟨(some 16), (Op.binOp BinOp.sub 3 (Operand.tmp 15) (Operand.const (Value.int IntKind.i64 1)) 3), none, ann0⟩,
  ⟨(some 17), (Op.indexAddr 23 (Operand.tmp 14) (Operand.tmp 16)), none, ann0⟩,
  ⟨(some 18), (Op.fieldAddr 33 (Operand.tmp 17) 1), none, ann0⟩,
  ⟨(some 19), (Op.load 3 (Operand.tmp 18)), none, ann0⟩,
  ⟨(some 20), (Op.binOp BinOp.sub 3 (Operand.tmp 19) (Operand.const (Value.int IntKind.i64 1)) 3), none, ann0⟩,
  ⟨(some 21), (Op.call { callee := (Callee.builtin Builtin.min), args := #[(Operand.tmp 13), (Operand.tmp 20)], argTypes := #[3, 3] }), none, ann0⟩,
  ⟨(some 4), (Op.assign (Operand.tmp 21)), none, ann0⟩,
  ⟨(some 5), (Op.assign (Operand.const (Value.bool true))), none, ann0⟩] (some [0, 0, 0, 4, 14, 30, 62, 126, 255, 511, 1023]))
 .ret))))⟩
theorem F40 (z : Nat) : FOk Try.prog 40 (s40 z) := by unfold FOk; kernel_rfl
def c41_1 (z : Nat) : SC := .post (.seq (.post (.seq (.reg [⟨(some 7), (Op.move (Operand.tmp 6)), none, ann0⟩,
  ⟨(some 8), (Op.move (Operand.tmp 0)), none, ann0⟩,
  ⟨(some 9), (Op.call { callee := (Callee.builtin Builtin.len), args := #[(Operand.tmp 8)], argTypes := #[23] }), none, ann0⟩,
  ⟨(some 10), (Op.binOp BinOp.lss 3 (Operand.tmp 7) (Operand.tmp 9) 3), none, ann0⟩] none)
 (.cond (Operand.tmp 10) .skip
 (.exit 0))) (.tidy [0, 1, 6] z (z + 0)))
 (.seq (.post (.block 1 (.seq (.post (.reg [⟨(some 13), (Op.move (Operand.tmp 1)), none, ann0⟩,
  ⟨(some 14), (Op.move (Operand.tmp 0)), none, ann0⟩,
  ⟨(some 15), (Op.move (Operand.tmp 6)), none, ann0⟩,
  ⟨(some 16), (Op.indexAddr 23 (Operand.tmp 14) (Operand.tmp 15)), none, ann0⟩,
  ⟨(some 17), (Op.fieldAddr 33 (Operand.tmp 16) 1), none, ann0⟩,
  ⟨(some 18), (Op.load 3 (Operand.tmp 17)), none, ann0⟩,
  ⟨(some 19), (Op.binOp BinOp.lss 3 (Operand.tmp 13) (Operand.tmp 18) 3), none, ann0⟩] none) (.tidy [0, 1, 6, 19] z (z + 0)))
 (.cond (Operand.tmp 19) (.seq (.reg [⟨(some 20), (Op.move (Operand.tmp 1)), none, ann0⟩,
  ⟨(some 21), (Op.move (Operand.tmp 0)), none, ann0⟩,
  ⟨(some 22), (Op.move (Operand.tmp 6)), none, ann0⟩,
  ⟨(some 23), (Op.indexAddr 23 (Operand.tmp 21) (Operand.tmp 22)), none, ann0⟩,
  ⟨(some 24), (Op.fieldAddr 33 (Operand.tmp 23) 0), none, ann0⟩,
  ⟨(some 25), (Op.load 3 (Operand.tmp 24)), none, ann0⟩,
  ⟨(some 26), (Op.call { callee := (Callee.builtin Builtin.max), args := #[(Operand.tmp 20), (Operand.tmp 25)], argTypes := #[3, 3] }), none, ann0⟩,
  ⟨(some 4), (Op.assign (Operand.tmp 26)), none, ann0⟩,
  ⟨(some 5), (Op.assign (Operand.const (Value.bool true))), none, ann0⟩] none)
 .ret)
 .skip))) (.tidy [0, 1, 6] z (z + 0)))
 (.reg [⟨(some 11), (Op.move (Operand.tmp 6)), none, ann0⟩,
  ⟨(some 12), (Op.binOp BinOp.add 3 (Operand.tmp 11) (Operand.const (Value.int IntKind.i64 1)) 3), none, ann0⟩,
  ⟨(some 6), (Op.assign (Operand.tmp 12)), none, ann0⟩] none))) (.tidy [0, 1, 6] z (z + 0))
def s41_1 (z : Nat) : SC := c41_1 z
theorem e41_1 {C : Pg} {z : Nat} {st : St} {ks : List Fr} {K : Ex → St → Prop} : wpk C (s41_1 z) st ks K ↔ wpk C (c41_1 z) st ks K := Iff.rfl
def s41 (z : Nat) : SFn := ⟨2, 27, [(ResultVar.tmp 4), (ResultVar.tmp 5)],
 (.seq (.reg [⟨(some 4), (Op.assign (Operand.const (Value.int IntKind.i64 0))), none, ann0⟩,
  ⟨(some 5), (Op.assign (Operand.const (Value.bool false))), none, ann0⟩] none)
 (.seq (.post (.seq (.reg [⟨(some 6), (Op.assign (Operand.const (Value.int IntKind.i64 0))), none, ann0⟩] none)
 (.post (.block 0 (.pre (.tidy [0, 1, 6] z (z + 0)) (.loop (s41_1 z)))) (.tidy [] z (z + 0)))) (.tidy [] z (z + 0)))
 (.seq (.reg [⟨(some 4), (Op.assign (Operand.const (Value.int IntKind.i64 0))), none, ann0⟩,
  ⟨(some 5), (Op.assign (Operand.const (Value.bool false))), none, ann0⟩] none)
 .ret)))⟩
theorem F41 (z : Nat) : FOk Try.prog 41 (s41 z) := by unfold FOk; kernel_rfl
def c42_1 (z : Nat) : SC := .post (.seq (.seq (.post (.reg [⟨(some 10), (Op.move (Operand.tmp 6)), none, ann0⟩,
  ⟨(some 11), (Op.binOp BinOp.geq 3 (Operand.tmp 10) (Operand.const (Value.int IntKind.i64 0)) 3), none, ann0⟩] none) (.tidy [0, 1, 6, 11] z (z + 0)))
 (.cond (Operand.tmp 11) .skip
 (.exit 0)))
 (.seq (.post (.block 1 (.seq (.post (.reg [⟨(some 14), (Op.move (Operand.tmp 1)), none, ann0⟩,
  ⟨(some 15), (Op.move (Operand.tmp 0)), none, ann0⟩,
  ⟨(some 16), (Op.move (Operand.tmp 6)), none, ann0⟩,
  ⟨(some 17), (Op.indexAddr 23 (Operand.tmp 15) (Operand.tmp 16)), none, ann0⟩,
  ⟨(some 18), (Op.fieldAddr 33 (Operand.tmp 17) 0), none, ann0⟩,
  ⟨(some 19), (Op.load 3 (Operand.tmp 18)), none, ann0⟩,
  ⟨(some 20), (Op.binOp BinOp.geq 3 (Operand.tmp 14) (Operand.tmp 19) 3), none, ann0⟩] none) (.tidy [0, 1, 6, 20] z (z + 0)))
 (.cond (Operand.tmp 20) (.seq (.reg [⟨(some 21), (Op.move (Operand.tmp 1)), none, ann0⟩,
  ⟨(some 22), (Op.move (Operand.tmp 0)), none, ann0⟩,
  ⟨(some 23), (Op.move (Operand.tmp 6)), none, ann0⟩,
  ⟨(some 24), (Op.indexAddr 23 (Operand.tmp 22) (Operand.tmp 23)), none, ann0⟩,
  ⟨(some 25), (Op.fieldAddr 33 (Operand.tmp 24) 1), none, ann0⟩,
  ⟨(some 26), (Op.load 3 (Operand.tmp 25)), none, ann0⟩,
  ⟨(some 27), (Op.binOp BinOp.sub 3 (Operand.tmp 26) (Operand.const (Value.int IntKind.i64 1)) 3), none, ann0⟩,
  ⟨(some 28), (Op.call { callee := (Callee.builtin Builtin.min), args := #[(Operand.tmp 21), (Operand.tmp 27)], argTypes := #[3, 3] }), none, ann0⟩,
  ⟨(some 4), (Op.assign (Operand.tmp 28)), none, ann0⟩,
  ⟨(some 5), (Op.assign (Operand.const (Value.bool true))), none, ann0⟩] none)
 .ret)
 .skip))) (.tidy [0, 1, 6] z (z + 0)))
 (.reg [⟨(some 12), (Op.move (Operand.tmp 6)), none, ann0⟩,
  ⟨(some 13), (Op.binOp BinOp.sub 3 (Operand.tmp 12) (Operand.const (Value.int IntKind.i64 1)) 3), none, ann0⟩,
  ⟨(some 6), (Op.assign (Operand.tmp 13)), none, ann0⟩] none))) (.tidy [0, 1, 6] z (z + 0))
def s42_1 (z : Nat) : SC := c42_1 z
theorem e42_1 {C : Pg} {z : Nat} {st : St} {ks : List Fr} {K : Ex → St → Prop} : wpk C (s42_1 z) st ks K ↔ wpk C (c42_1 z) st ks K := Iff.rfl
def s42 (z : Nat) : SFn := ⟨2, 29, [(ResultVar.tmp 4), (ResultVar.tmp 5)],
 (.seq (.reg [⟨(some 4), (Op.assign (Operand.const (Value.int IntKind.i64 0))), none, ann0⟩,
  ⟨(some 5), (Op.assign (Operand.const (Value.bool false))), none, ann0⟩] none)
 (.seq (.post (.seq (.reg [⟨(some 7), (Op.move (Operand.tmp 0)), none, ann0⟩,
  ⟨(some 8), (Op.call { callee := (Callee.builtin Builtin.len), args := #[(Operand.tmp 7)], argTypes := #[23] }), none, ann0⟩,
  ⟨(some 9), (Op.binOp BinOp.sub 3 (Operand.tmp 8) (Operand.const (Value.int IntKind.i64 1)) 3), none, ann0⟩,
  ⟨(some 6), (Op.assign (Operand.tmp 9)), none, ann0⟩] none)
 (.post (.block 0 (.pre (.tidy [0, 1, 6] z (z + 0)) (.loop (s42_1 z)))) (.tidy [] z (z + 0)))) (.tidy [] z (z + 0)))
 (.seq (.reg [⟨(some 4), (Op.assign (Operand.const (Value.int IntKind.i64 0))), none, ann0⟩,
  ⟨(some 5), (Op.assign (Operand.const (Value.bool false))), none, ann0⟩] none)
 .ret)))⟩
theorem F42 (z : Nat) : FOk Try.prog 42 (s42 z) := by unfold FOk; kernel_rfl
def s43 (z : Nat) : SFn := ⟨2, 22, [(ResultVar.tmp 4)],
 (.seq (.reg [⟨(some 4), (Op.assign (Operand.const (Value.bool false))), none, ann0⟩] none)
 (.seq (.reg [⟨(some 6), (Op.move (Operand.tmp 0)), none, ann0⟩,
  ⟨(some 7), (Op.move (Operand.tmp 1)), none, ann0⟩,
  ⟨(some 8), (Op.call { callee := (Callee.value (Operand.func 65)), args := #[(Operand.tmp 6), (Operand.tmp 7)], argTypes := #[23, 3] }), none, ann0⟩,
  ⟨(some 5), (Op.assign (Operand.tmp 8)), none, ann0⟩] none)
 (.seq (.reg [⟨(some 9), (Op.move (Operand.tmp 5)), none, ann0⟩,
  ⟨(some 10), (Op.move (Operand.tmp 0)), none, ann0⟩,
  ⟨(some 11), (Op.call { callee := (Callee.builtin Builtin.len), args := #[(Operand.tmp 10)], argTypes := #[23] }), none, ann0⟩,
  ⟨(some 12), (Op.binOp BinOp.lss 3 (Operand.tmp 9) (Operand.tmp 11) 3), none, ann0⟩,
  ⟨(some 13), (Op.move (Operand.tmp 12)), none, ann0⟩,
  ⟨(some 14), (Op.move (Operand.tmp 0)), (some (13, true)), ann0⟩,
  ⟨(some 15), (Op.move (Operand.tmp 5)), (some (13, true)), ann0⟩,
  ⟨(some 16), (Op.indexAddr 23 (Operand.tmp 14) (Operand.tmp 15)), (some (13, true)), ann0⟩,
  ⟨(some 17), (Op.fieldAddr 33 (Operand.tmp 16) 0), (some (13, true)), ann0⟩,
  ⟨(some 18), (Op.load 3 (Operand.tmp 17)), (some (13, true)), ann0⟩,
  ⟨(some 19), (Op.move (Operand.tmp 1)), (some (13, true)), ann0⟩,
  ⟨(some 20), (Op.binOp BinOp.leq 3 (Operand.tmp 18) (Operand.tmp 19) 3), (some (13, true)), ann0⟩,
  ⟨(some 21), (Op.pick (Operand.tmp 13) (Operand.tmp 20) (Operand.const (Value.bool false))), none, ann0⟩,
  ⟨(some 4), (Op.assign (Operand.tmp 21)), none, ann0⟩] none)
 .ret)))⟩
theorem F43 (z : Nat) : FOk Try.prog 43 (s43 z) := by unfold FOk; kernel_rfl
def s44 (z : Nat) : SFn := ⟨2, 10, [(ResultVar.tmp 4)],
 (.seq (.reg [⟨(some 4), (Op.assign (Operand.const (Value.bool false))), none, ann0⟩] none)
 (.seq (.reg [⟨(some 5), (Op.move (Operand.tmp 1)), none, ann0⟩,
  ⟨(some 6), (Op.move (Operand.tmp 0)), none, ann0⟩,
  ⟨(some 7), (Op.call { callee := (Callee.value (Operand.func 19)), args := #[(Operand.tmp 5), (Operand.tmp 6)], argTypes := #[23, 23] }), none, ann0⟩,
  ⟨(some 8), (Op.call { callee := (Callee.builtin Builtin.len), args := #[(Operand.tmp 7)], argTypes := #[23] }), none, ann0⟩,
  ⟨(some 9), (Op.binOp BinOp.eql 3 (Operand.tmp 8) (Operand.const (Value.int IntKind.i64 0)) 3), none, ann0⟩,
  ⟨(some 4), (Op.assign (Operand.tmp 9)), none, ann0⟩] none)
 .ret))⟩
theorem F44 (z : Nat) : FOk Try.prog 44 (s44 z) := by unfold FOk; kernel_rfl
def s45 (z : Nat) : SFn := ⟨2, 10, [(ResultVar.tmp 4)],
 (.seq (.reg [⟨(some 4), (Op.assign (Operand.const (Value.bool false))), none, ann0⟩] none)
 (.seq (.reg [⟨(some 5), (Op.move (Operand.tmp 0)), none, ann0⟩,
  ⟨(some 6), (Op.move (Operand.tmp 1)), none, ann0⟩,
  ⟨(some 7), (Op.call { callee := (Callee.value (Operand.func 18)), args := #[(Operand.tmp 5), (Operand.tmp 6)], argTypes := #[23, 23] }), none, ann0⟩,
  ⟨(some 8), (Op.call { callee := (Callee.builtin Builtin.len), args := #[(Operand.tmp 7)], argTypes := #[23] }), none, ann0⟩,
  ⟨(some 9), (Op.binOp BinOp.gtr 3 (Operand.tmp 8) (Operand.const (Value.int IntKind.i64 0)) 3), none, ann0⟩,
  ⟨(some 4), (Op.assign (Operand.tmp 9)), none, ann0⟩] none)
 .ret))⟩
theorem F45 (z : Nat) : FOk Try.prog 45 (s45 z) := by unfold FOk; kernel_rfl
def s46 (z : Nat) : SFn := ⟨2, 8, [(ResultVar.tmp 4)],
 (.seq (.reg [⟨(some 4), (Op.assign (Operand.const (Value.bool false))), none, ann0⟩] none)
 (.seq (.reg [⟨(some 5), (Op.move (Operand.tmp 0)), none, ann0⟩,
  ⟨(some 6), (Op.move (Operand.tmp 1)), none, ann0⟩,
  ⟨(some 7), (Op.call { callee := (Callee.value (Operand.func 68)), args := #[(Operand.tmp 5), (Operand.tmp 6)], argTypes := #[23, 23] }), none, ann0⟩,
  ⟨(some 4), (Op.assign (Operand.tmp 7)), none, ann0⟩] none)
 .ret))⟩
theorem F46 (z : Nat) : FOk Try.prog 46 (s46 z) := by unfold FOk; kernel_rfl
def c47_2 (z : Nat) : SC := .post (.seq (.post (.seq (.post (.reg [⟨(some 28), (Op.move (Operand.tmp 5)), none, ann0⟩,
  ⟨(some 29), (Op.binOp BinOp.gtr 3 (Operand.tmp 28) (Operand.const (Value.int IntKind.i64 0)) 3), none, ann0⟩,
  ⟨(some 30), (Op.move (Operand.tmp 29)), none, ann0⟩,
  ⟨(some 31), (Op.move (Operand.tmp 3)), (some (30, true)), ann0⟩,
  ⟨(some 32), (Op.move (Operand.tmp 5)), (some (30, true)), ann0⟩,
  ⟨(some 33), (Op.binOp BinOp.sub 3 (Operand.tmp 32) (Operand.const (Value.int IntKind.i64 1)) 3), (some (30, true)), ann0⟩,
  ⟨(some 34), (Op.indexAddr 23 (Operand.tmp 31) (Operand.tmp 33)), (some (30, true)), ann0⟩,
  ⟨(some 35), (Op.fieldAddr 33 (Operand.tmp 34) 0), (some (30, true)), ann0⟩,
  ⟨(some 36), (Op.load 3 (Operand.tmp 35)), (some (30, true)), ann0⟩,
  ⟨(some 37), (Op.move (Operand.tmp 0)), (some (30, true)), ann0⟩,
  ⟨(some 38), (Op.move (Operand.tmp 4)), (some (30, true)), ann0⟩,
  ⟨(some 39), (Op.indexAddr 23 (Operand.tmp 37) (Operand.tmp 38)), (some (30, true)), ann0⟩,
  ⟨(some 40), (Op.fieldAddr 33 (Operand.tmp 39) 0), (some (30, true)), ann0⟩,
  ⟨(some 41), (Op.load 3 (Operand.tmp 40)), (some (30, true)), ann0⟩,
  ⟨(some 42), (Op.binOp BinOp.gtr 3 (Operand.tmp 36) (Operand.tmp 41) 3), (some (30, true)), ann0⟩,
  ⟨(some 43), (Op.pick (Operand.tmp 30) (Operand.tmp 42) (Operand.const (Value.bool false))), none, ann0⟩] (some [0, 1, 3, 7, 7, 23, 63, 127, 255, 7, 7, 1543, 3591, 7687, 16383, 32767])) (.tidy [0, 3, 4, 5, 43] z (z + 0)))
 (.cond (Operand.tmp 43) .skip
 (.exit 2))) (.tidy [0, 3, 4, 5] z (z + 0)))
 (.block 3 (.reg [⟨(some 44), (Op.move (Operand.tmp 5)), none, ann0⟩,
  ⟨(some 45), (Op.binOp BinOp.sub 3 (Operand.tmp 44) (Operand.const (Value.int IntKind.i64 1)) 3), none, ann0⟩,
  ⟨(some 5), (Op.assign (Operand.tmp 45)), none, ann0⟩] none))) (.tidy [0, 3, 4, 5] z (z + 0))
def s47_2 (z : Nat) : SC := c47_2 z
theorem e47_2 {C : Pg} {z : Nat} {st : St} {ks : List Fr} {K : Ex → St → Prop} : wpk C (s47_2 z) st ks K ↔ wpk C (c47_2 z) st ks K := Iff.rfl
def c47_1 (z : Nat) : SC := .post (.seq (.post (.seq (.reg [⟨(some 9), (Op.move (Operand.tmp 4)), none, ann0⟩,
  ⟨(some 10), (Op.move (Operand.tmp 0)), none, ann0⟩,
  ⟨(some 11), (Op.call { callee := (Callee.builtin Builtin.len), args := #[(Operand.tmp 10)], argTypes := #[23] }), none, ann0⟩,
  ⟨(some 12), (Op.binOp BinOp.lss 3 (Operand.tmp 9) (Operand.tmp 11) 3), none, ann0⟩] none)
 (.cond (Operand.tmp 12) .skip
 (.exit 0))) (.tidy [0, 3, 4] z (z + 0)))
 (.seq (.post (.block 1 (.seq (.post (.seq (.post (.reg [⟨(some 15), (Op.move (Operand.tmp 0)), none, ann0⟩,
  ⟨(some 16), (Op.move (Operand.tmp 4)), none, ann0⟩,
  ⟨(some 17), (Op.indexAddr 23 (Operand.tmp 15) (Operand.tmp 16)), none, ann0⟩,
  ⟨(some 18), (Op.fieldAddr 33 (Operand.tmp 17) 0), none, ann0⟩,
  ⟨(some 19), (Op.load 3 (Operand.tmp 18)), none, ann0⟩,
  ⟨(some 20), (Op.move (Operand.tmp 0)), none, ann0⟩,
  ⟨(some 21), (Op.move (Operand.tmp 4)), none, ann0⟩,
  ⟨(some 22), (Op.indexAddr 23 (Operand.tmp 20) (Operand.tmp 21)), none, ann0⟩,
  ⟨(some 23), (Op.fieldAddr 33 (Operand.tmp 22) 1), none, ann0⟩,
  ⟨(some 24), (Op.load 3 (Operand.tmp 23)), none, ann0⟩,
  ⟨(some 25), (Op.binOp BinOp.geq 3 (Operand.tmp 19) (Operand.tmp 24) 3), none, ann0⟩] (some [0, 0, 3, 7, 15, 0, 0, 96, 224, 480, 1023])) (.tidy [0, 3, 4, 25] z (z + 0)))
 (.cond (Operand.tmp 25) (.exit 1)
 .skip)) (.tidy [0, 3, 4] z (z + 0)))
 (.seq (.reg [⟨(some 26), (Op.move (Operand.tmp 3)), none, ann0⟩,
  ⟨(some 27), (Op.call { callee := (Callee.builtin Builtin.len), args := #[(Operand.tmp 26)], argTypes := #[23] }), none, ann0⟩,
  ⟨(some 5), (Op.assign (Operand.tmp 27)), none, ann0⟩] none)
 (.seq (.post (.block 2 (.pre (.tidy [0, 3, 4, 5] z (z + 0)) (.loop (s47_2 z)))) (.tidy [0, 3, 4, 5] z (z + 0)))
 (.post (.reg [⟨(some 46), (Op.buildSlice 23 0 #[]), none, ⟨1, false, false⟩⟩,
  ⟨(some 47), (Op.move (Operand.tmp 3)), none, ann0⟩,
  ⟨(some 48), (Op.move (Operand.tmp 5)), none, ann0⟩,
  ⟨(some 49), (Op.slice 23 (Operand.tmp 47) none (some (Operand.tmp 48)) none), none, ann0⟩,
  ⟨(some 50), (Op.call { callee := (Callee.builtin Builtin.append), args := #[(Operand.tmp 46), (Operand.tmp 49)], argTypes := #[23, 23] }), none, ann0⟩,
  ⟨(some 51), (Op.move (Operand.tmp 0)), none, ann0⟩,
  ⟨(some 52), (Op.move (Operand.tmp 4)), none, ann0⟩,
  ⟨(some 53), (Op.indexAddr 23 (Operand.tmp 51) (Operand.tmp 52)), none, ann0⟩,
  ⟨(some 54), (Op.load 33 (Operand.tmp 53)), none, ann0⟩,
  ⟨(some 55), (Op.buildSlice 23 1 #[(0, (Operand.tmp 54))]), none, ⟨1, true, false⟩⟩,
  ⟨(some 56), (Op.call { callee := (Callee.builtin Builtin.append), args := #[(Operand.tmp 50), (Operand.tmp 55)], argTypes := #[23, 23] }), none, ann0⟩,
  ⟨(some 57), (Op.move (Operand.tmp 3)), none, ann0⟩,
  ⟨(some 58), (Op.move (Operand.tmp 5)), none, ann0⟩,
  ⟨(some 59), (Op.slice 23 (Operand.tmp 57) (some (Operand.tmp 58)) none none), none, ann0⟩,
  ⟨(some 60), (Op.call { callee := (Callee.builtin Builtin.append), args := #[(Operand.tmp 56), (Operand.tmp 59)], argTypes := #[23, 23] }), none, ann0⟩,
  ⟨(some 3), (Op.assign (Operand.tmp 60)), none, ann0⟩] (some [0, 0, 0, 6, 15, 0, 0, 96, 224, 480, 1023, 0, 0, 6144, 16383, 32767])) (.frz 3)))))) (.tidy [0, 3, 4] z (z + 2)))
 (.reg [⟨(some 13), (Op.move (Operand.tmp 4)), none, ann0⟩,
  ⟨(some 14), (Op.binOp BinOp.add 3 (Operand.tmp 13) (Operand.const (Value.int IntKind.i64 1)) 3), none, ann0⟩,
  ⟨(some 4), (Op.assign (Operand.tmp 14)), none, ann0⟩] none))) (.tidy [0, 3, 4] z (z + 0))
def s47_1 (z : Nat) : SC := c47_1 z
theorem e47_1 {C : Pg} {z : Nat} {st : St} {ks : List Fr} {K : Ex → St → Prop} : wpk C (s47_1 z) st ks K ↔ wpk C (c47_1 z) st ks K := Iff.rfl
def c47_3 (z : Nat) : SC := .post (.seq (.post (.seq (.reg [⟨(some 61), (Op.move (Operand.tmp 7)), none, ann0⟩,
  ⟨(some 62), (Op.move (Operand.tmp 3)), none, ann0⟩,
  ⟨(some 63), (Op.call { callee := (Callee.builtin Builtin.len), args := #[(Operand.tmp 62)], argTypes := #[23] }), none, ann0⟩,
  ⟨(some 64), (Op.binOp BinOp.lss 3 (Operand.tmp 61) (Operand.tmp 63) 3), none, ann0⟩] none)
 (.cond (Operand.tmp 64) .skip
 (.exit 4))) (.tidy [3, 6, 7] z (z + 1)))
 (.seq (.post (.block 5 (.seq (.reg [⟨(some 67), (Op.move (Operand.tmp 6)), none, ann0⟩,
  ⟨(some 68), (Op.call { callee := (Callee.builtin Builtin.len), args := #[(Operand.tmp 67)], argTypes := #[23] }), none, ann0⟩,
  ⟨(some 69), (Op.binOp BinOp.sub 3 (Operand.tmp 68) (Operand.const (Value.int IntKind.i64 1)) 3), none, ann0⟩,
  ⟨(some 8), (Op.assign (Operand.tmp 69)), none, ann0⟩] none)
 (.seq (.post (.reg [⟨(some 70), (Op.move (Operand.tmp 8)), none, ann0⟩,
  ⟨(some 71), (Op.binOp BinOp.geq 3 (Operand.tmp 70) (Operand.const (Value.int IntKind.i64 0)) 3), none, ann0⟩,
  ⟨(some 72), (Op.move (Operand.tmp 71)), none, ann0⟩,
  ⟨(some 73), (Op.move (Operand.tmp 3)), (some (72, true)), ann0⟩,
  ⟨(some 74), (Op.move (Operand.tmp 7)), (some (72, true)), ann0⟩,
  ⟨(some 75), (Op.indexAddr 23 (Operand.tmp 73) (Operand.tmp 74)), (some (72, true)), ann0⟩,
  ⟨(some 76), (Op.fieldAddr 33 (Operand.tmp 75) 0), (some (72, true)), ann0⟩,
  ⟨(some 77), (Op.load 3 (Operand.tmp 76)), (some (72, true)), ann0⟩,
  ⟨(some 78), (Op.move (Operand.tmp 6)), (some (72, true)), ann0⟩,
  ⟨(some 79), (Op.move (Operand.tmp 8)), (some (72, true)), ann0⟩,
  ⟨(some 80), (Op.indexAddr 23 (Operand.tmp 78) (Operand.tmp 79)), (some (72, true)), ann0⟩,
  ⟨(some 81), (Op.fieldAddr 33 (Operand.tmp 80) 1), (some (72, true)), ann0⟩,
  ⟨(some 82), (Op.load 3 (Operand.tmp 81)), (some (72, true)), ann0⟩,
  ⟨(some 83), (Op.binOp BinOp.leq 3 (Operand.tmp 77) (Operand.tmp 82) 3), (some (72, true)), ann0⟩,
  ⟨(some 84), (Op.pick (Operand.tmp 72) (Operand.tmp 83) (Operand.const (Value.bool false))), none, ann0⟩] (some [0, 1, 3, 7, 7, 31, 63, 127, 7, 7, 775, 1799, 3847, 8191, 16383])) (.tidy [3, 6, 7, 8, 84] z (z + 1)))
 (.cond (Operand.tmp 84) (.reg [⟨(some 85), (Op.move (Operand.tmp 6)), none, ann0⟩,
  ⟨(some 86), (Op.move (Operand.tmp 8)), none, ann0⟩,
  ⟨(some 87), (Op.move (Operand.tmp 6)), none, ann0⟩,
  ⟨(some 88), (Op.move (Operand.tmp 8)), none, ann0⟩,
  ⟨(some 89), (Op.indexAddr 23 (Operand.tmp 87) (Operand.tmp 88)), none, ann0⟩,
  ⟨(some 90), (Op.fieldAddr 33 (Operand.tmp 89) 1), none, ann0⟩,
  ⟨(some 91), (Op.load 3 (Operand.tmp 90)), none, ann0⟩,
  ⟨(some 92), (Op.move (Operand.tmp 3)), none, ann0⟩,
  ⟨(some 93), (Op.move (Operand.tmp 7)), none, ann0⟩,
  ⟨(some 94), (Op.indexAddr 23 (Operand.tmp 92) (Operand.tmp 93)), none, ann0⟩,
  ⟨(some 95), (Op.fieldAddr 33 (Operand.tmp 94) 1), none, ann0⟩,
  ⟨(some 96), (Op.load 3 (Operand.tmp 95)), none, ann0⟩,
  ⟨(some 97), (Op.call { callee := (Callee.builtin Builtin.max), args := #[(Operand.tmp 91), (Operand.tmp 96)], argTypes := #[3, 3] }), none, ann0⟩,
  ⟨(some 98), (Op.indexAddr 23 (Operand.tmp 85) (Operand.tmp 86)), none, ann0⟩,
  ⟨(some 99), (Op.fieldAddr 33 (Operand.tmp 98) 1), none, ann0⟩,
  ⟨none, (Op.store 3 (Operand.tmp 99) (Operand.tmp 97)), none, ann0⟩] (some [0, 0, 0, 0, 12, 28, 60, 0, 0, 384, 896, 1920, 4092, 8191, 16383, 32767]))
 (.reg [⟨(some 100), (Op.move (Operand.tmp 6)), none, ann0⟩,
  ⟨(some 101), (Op.move (Operand.tmp 3)), none, ann0⟩,
  ⟨(some 102), (Op.move (Operand.tmp 7)), none, ann0⟩,
  ⟨(some 103), (Op.indexAddr 23 (Operand.tmp 101) (Operand.tmp 102)), none, ann0⟩,
  ⟨(some 104), (Op.load 33 (Operand.tmp 103)), none, ann0⟩,
  ⟨(some 105), (Op.buildSlice 23 1 #[(0, (Operand.tmp 104))]), none, ⟨1, true, false⟩⟩,
  ⟨(some 106), (Op.call { callee := (Callee.builtin Builtin.append), args := #[(Operand.tmp 100), (Operand.tmp 105)], argTypes := #[23, 23] }), none, ann0⟩,
  ⟨(some 6), (Op.assign (Operand.tmp 106)), none, ann0⟩] none))))) (.tidy [3, 6, 7] z (z + 2)))
 (.reg [⟨(some 65), (Op.move (Operand.tmp 7)), none, ann0⟩,
  ⟨(some 66), (Op.binOp BinOp.add 3 (Operand.tmp 65) (Operand.const (Value.int IntKind.i64 1)) 3), none, ann0⟩,
  ⟨(some 7), (Op.assign (Operand.tmp 66)), none, ann0⟩] none))) (.tidy [3, 6, 7] z (z + 1))
def s47_3 (z : Nat) : SC := c47_3 z
theorem e47_3 {C : Pg} {z : Nat} {st : St} {ks : List Fr} {K : Ex → St → Prop} : wpk C (s47_3 z) st ks K ↔ wpk C (c47_3 z) st ks K := Iff.rfl
def s47 (z : Nat) : SFn := ⟨1, 108, [(ResultVar.tmp 2)],
 (.post (.seq (.reg [⟨(some 2), (Op.assign (Operand.const (Value.slice none 0 0))), none, ann0⟩] none)
 (.seq (.reg [⟨(some 3), (Op.assign (Operand.const (Value.slice none 0 0))), none, ann0⟩] none)
 (.seq (.post (.seq (.reg [⟨(some 4), (Op.assign (Operand.const (Value.int IntKind.i64 0))), none, ann0⟩] none)
 (.post (.block 0 (.pre (.tidy [0, 3, 4] z (z + 0)) (.loop (s47_1 z)))) (.tidy [3] z (z + 0)))) (.tidy [3] z (z + 0)))
 (.seq (.post (.reg [⟨(some 6), (Op.assign (Operand.const (Value.slice none 0 0))), none, ann0⟩] none) (.mkv 6 33 2))
 (.seq (.post (.seq (.reg [⟨(some 7), (Op.assign (Operand.const (Value.int IntKind.i64 0))), none, ann0⟩] none)
 (.post (.block 4 (.pre (.tidy [3, 6, 7] z (z + 1)) (.loop (s47_3 z)))) (.tidy [6] z (z + 1)))) (.tidy [6] z (z + 1)))
 (.seq (.reg [⟨(some 107), (Op.move (Operand.tmp 6)), none, ann0⟩,
  ⟨(some 2), (Op.assign (Operand.tmp 107)), none, ann0⟩] none)
 .ret)))))) (.frz 2))⟩
theorem F47 (z : Nat) : FOk Try.prog 47 (s47 z) := by unfold FOk; kernel_rfl
def l48_0 : SLoop := ⟨45, [16, 17],
 (.seq (.reg [⟨(some 10), (Op.assign (Operand.tmp 16)), none, ann0⟩] none)
 (.reg [⟨(some 11), (Op.alloc 76), none, ⟨1, false, false⟩⟩,
  ⟨none, (Op.store 76 (Operand.tmp 11) (Operand.tmp 17)), none, ann0⟩] none)),
 (.block 1 (.seq (.reg [⟨(some 18), (Op.load 62 (Operand.tmp 5)), none, ann0⟩,
  ⟨(some 19), (Op.indexAddr 76 (Operand.tmp 11) (Operand.const (Value.int IntKind.i64 0))), none, ann0⟩,
  ⟨(some 20), (Op.load 4 (Operand.tmp 19)), none, ann0⟩,
  ⟨(some 21), (Op.indexAddr 76 (Operand.tmp 11) (Operand.const (Value.int IntKind.i64 1))), none, ann0⟩,
  ⟨(some 22), (Op.load 4 (Operand.tmp 21)), none, ann0⟩,
  ⟨(some 23), (Op.call { callee := (Callee.value (Operand.tmp 18)), args := #[(Operand.tmp 20), (Operand.tmp 22)], argTypes := #[4, 4] }), none, ann0⟩,
  ⟨(some 12), (Op.assign (Operand.tmp 23)), none, ann0⟩] none)
 (.seq (.block 2 (.seq (.reg [⟨(some 25), (Op.move (Operand.tmp 12)), none, ann0⟩,
  ⟨(some 26), (Op.move (Operand.tmp 25)), none, ann0⟩,
  ⟨(some 27), (Op.load 4 (Operand.tmp 9)), (some (26, true)), ann0⟩,
  ⟨(some 28), (Op.unOp UnOp.not 4 (Operand.tmp 27)), (some (26, true)), ann0⟩,
  ⟨(some 29), (Op.pick (Operand.tmp 26) (Operand.tmp 28) (Operand.const (Value.bool false))), none, ann0⟩,
  ⟨(some 24), (Op.assign (Operand.tmp 29)), none, ann0⟩] none)
 (.cond (Operand.tmp 24) (.reg [⟨(some 30), (Op.move (Operand.tmp 10)), none, ann0⟩,
  ⟨none, (Op.store 3 (Operand.tmp 8) (Operand.tmp 30)), none, ann0⟩] none)
 (.seq (.reg [⟨(some 32), (Op.move (Operand.tmp 12)), none, ann0⟩,
  ⟨(some 33), (Op.unOp UnOp.not 4 (Operand.tmp 32)), none, ann0⟩,
  ⟨(some 34), (Op.move (Operand.tmp 33)), none, ann0⟩,
  ⟨(some 35), (Op.load 4 (Operand.tmp 9)), (some (34, true)), ann0⟩,
  ⟨(some 36), (Op.pick (Operand.tmp 34) (Operand.tmp 35) (Operand.const (Value.bool false))), none, ann0⟩,
  ⟨(some 31), (Op.assign (Operand.tmp 36)), none, ann0⟩] none)
 (.cond (Operand.tmp 31) (.reg [⟨(some 37), (Op.load 23 (Operand.tmp 7)), none, ann0⟩,
  ⟨(some 38), (Op.load 3 (Operand.tmp 8)), none, ann0⟩,
  ⟨(some 39), (Op.move (Operand.tmp 10)), none, ann0⟩,
  ⟨(some 40), (Op.build 33 #[(0, (Operand.tmp 38)), (1, (Operand.tmp 39))]), none, ann0⟩,
  ⟨(some 41), (Op.buildSlice 23 1 #[(0, (Operand.tmp 40))]), none, ⟨1, true, false⟩⟩,
  ⟨(some 42), (Op.call { callee := (Callee.builtin Builtin.append), args := #[(Operand.tmp 37), (Operand.tmp 41)], argTypes := #[23, 23] }), none, ann0⟩,
  ⟨none, (Op.store 23 (Operand.tmp 7) (Operand.tmp 42)), none, ann0⟩] none)
 .skip)))))
 (.reg [⟨(some 43), (Op.move (Operand.tmp 12)), none, ann0⟩,
  ⟨none, (Op.store 4 (Operand.tmp 9) (Operand.tmp 43)), none, ann0⟩] none))))⟩
theorem N48_0 : LOk Try.prog 3072 l48_0 := by unfold LOk; kernel_rfl
def s48 (z : Nat) : SFn := ⟨3, 45, [(ResultVar.tmp 6)],
 (.post (.seq (.reg [⟨(some 5), (Op.box 62 (Operand.tmp 2)), none, ⟨1, false, false⟩⟩,
  ⟨(some 6), (Op.assign (Operand.const (Value.slice none 0 0))), none, ann0⟩] none)
 (.seq (.reg [⟨(some 7), (Op.alloc 23), none, ⟨1, false, false⟩⟩] none)
 (.seq (.reg [⟨(some 8), (Op.alloc 3), none, ⟨1, false, false⟩⟩,
  ⟨(some 9), (Op.alloc 4), none, ⟨1, false, false⟩⟩,
  ⟨none, (Op.store 3 (Operand.tmp 8) (Operand.const (Value.int IntKind.i64 0))), none, ann0⟩,
  ⟨none, (Op.store 4 (Operand.tmp 9) (Operand.const (Value.bool false))), none, ann0⟩] none)
 (.seq (.post (.seq (.reg [⟨(some 13), (Op.move (Operand.tmp 0)), none, ann0⟩,
  ⟨(some 14), (Op.move (Operand.tmp 1)), none, ann0⟩,
  ⟨(some 15), (Op.call { callee := (Callee.value (Operand.func 69)), args := #[(Operand.tmp 13), (Operand.tmp 14)], argTypes := #[23, 23] }), none, ⟨2, false, false⟩⟩] none)
 (.post (.pre (.mkb 7 0 33 2) (.block 0 (.rng (Operand.tmp 15) 3072 [5, 7, 8, 9] ⟨0, false, false⟩))) (.tidy [7] z (z + 8)))) (.tidy [7] z (z + 8)))
 (.seq (.reg [⟨(some 44), (Op.load 23 (Operand.tmp 7)), none, ann0⟩,
  ⟨(some 6), (Op.assign (Operand.tmp 44)), none, ann0⟩] none)
 .ret))))) (.frz 6))⟩
theorem F48 (z : Nat) : FOk Try.prog 48 (s48 z) := by unfold FOk; kernel_rfl
def s49 (z : Nat) : SFn := ⟨2, 9, [(ResultVar.tmp 4)],
 (.seq (.reg [⟨(some 4), (Op.assign (Operand.const (Value.bool false))), none, ann0⟩] none)
 (.seq (.reg [⟨(some 5), (Op.move (Operand.tmp 0)), none, ann0⟩,
  ⟨(some 6), (Op.move (Operand.tmp 5)), none, ann0⟩,
  ⟨(some 7), (Op.move (Operand.tmp 1)), (some (6, false)), ann0⟩,
  ⟨(some 8), (Op.pick (Operand.tmp 6) (Operand.const (Value.bool true)) (Operand.tmp 7)), none, ann0⟩,
  ⟨(some 4), (Op.assign (Operand.tmp 8)), none, ann0⟩] none)
 .ret))⟩
theorem F49 (z : Nat) : FOk Try.prog 49 (s49 z) := by unfold FOk; kernel_rfl
end Go.Proofs.YtnpppjipbkceeaaV
