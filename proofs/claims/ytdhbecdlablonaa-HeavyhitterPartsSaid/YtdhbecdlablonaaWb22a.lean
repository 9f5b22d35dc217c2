/- Functions' code, with notes for the interpreter, and the facts that it is the program's: made by a program. -/
import Derived.Test.YtdhbecdlablonaaVC
import Derived.Test.YtdhbecdlablonaaProg
import Derived.KernelRfl
set_option linter.unusedVariables false
namespace Go.Proofs.YtdhbecdlablonaaV
open Go.RowKit

def c5_1 (z : Nat) : SC := .post (.seq (.seq (.reg [⟨(some 117), (Op.move (Operand.tmp 18)), none, ann0⟩,
  ⟨(some 118), (Op.binOp BinOp.lss 3 (Operand.tmp 117) (Operand.const (Value.int IntKind.i64 26)) 3), none, ann0⟩] none)
 (.cond (Operand.tmp 118) .skip
 (.exit 0)))
 (.seq (.post (.block 1 (.seq (.post (.reg [⟨(some 121), (Op.move (Operand.tmp 18)), none, ann0⟩,
  ⟨(some 122), (Op.convert 3 5 (Operand.tmp 121)), none, ann0⟩,
  ⟨(some 123), (Op.build 41 #[(0, (Operand.tmp 122))]), none, ann0⟩,
  ⟨(some 124), (Op.call { callee := (Callee.value (Operand.func 20)), args := #[(Operand.tmp 123)], argTypes := #[41] }), none, ann0⟩,
  ⟨(some 19), (Op.assign (Operand.tmp 124)), none, ann0⟩] none) (.tidy [0, 1, 12, 15, 18, 19] z (z + 6)))
 (.seq (.reg [⟨(some 125), (Op.move (Operand.tmp 1)), none, ann0⟩,
  ⟨(some 126), (Op.move (Operand.tmp 19)), none, ann0⟩,
  ⟨(some 127), (Op.call { callee := (Callee.value (Operand.func 22)), args := #[(Operand.tmp 125), (Operand.tmp 126)], argTypes := #[36, 9] }), none, ann0⟩,
  ⟨(some 20), (Op.assign (Operand.tmp 127)), none, ann0⟩] none)
 (.seq (.post (.reg [⟨(some 129), (Op.load 28 (Operand.tmp 12)), none, ann0⟩,
  ⟨(some 130), (Op.move (Operand.tmp 19)), none, ann0⟩,
  ⟨(some 131), (Op.call { callee := (Callee.value (Operand.func 23)), args := #[(Operand.tmp 129), (Operand.tmp 130)], argTypes := #[28, 9] }), none, ann0⟩,
  ⟨(some 128), (Op.move (Operand.tmp 131)), none, ann0⟩,
  ⟨(some 132), (Op.extract (Operand.tmp 128) 0), none, ann0⟩,
  ⟨(some 133), (Op.extract (Operand.tmp 128) 1), none, ann0⟩,
  ⟨(some 21), (Op.assign (Operand.tmp 132)), none, ann0⟩,
  ⟨(some 22), (Op.assign (Operand.tmp 133)), none, ann0⟩] none) (.tidy [0, 1, 12, 15, 18, 19, 20, 21, 22] z (z + 6)))
 (.seq (.post (.reg [⟨(some 135), (Op.load 28 (Operand.tmp 15)), none, ann0⟩,
  ⟨(some 136), (Op.move (Operand.tmp 19)), none, ann0⟩,
  ⟨(some 137), (Op.call { callee := (Callee.value (Operand.func 23)), args := #[(Operand.tmp 135), (Operand.tmp 136)], argTypes := #[28, 9] }), none, ann0⟩,
  ⟨(some 134), (Op.move (Operand.tmp 137)), none, ann0⟩,
  ⟨(some 138), (Op.extract (Operand.tmp 134) 0), none, ann0⟩,
  ⟨(some 139), (Op.extract (Operand.tmp 134) 1), none, ann0⟩,
  ⟨(some 23), (Op.assign (Operand.tmp 138)), none, ann0⟩,
  ⟨(some 24), (Op.assign (Operand.tmp 139)), none, ann0⟩] none) (.tidy [0, 1, 12, 15, 18, 20, 21, 22, 23, 24] z (z + 6)))
 (.seq (.post (.reg [⟨(some 140), (Op.move (Operand.tmp 20)), none, ann0⟩,
  ⟨(some 141), (Op.move (Operand.tmp 21)), none, ann0⟩,
  ⟨(some 142), (Op.binOp BinOp.lss 3 (Operand.tmp 140) (Operand.tmp 141) 3), none, ann0⟩,
  ⟨(some 143), (Op.move (Operand.tmp 142)), none, ann0⟩,
  ⟨(some 144), (Op.move (Operand.tmp 20)), (some (143, false)), ann0⟩,
  ⟨(some 145), (Op.move (Operand.tmp 22)), (some (143, false)), ann0⟩,
  ⟨(some 146), (Op.binOp BinOp.gtr 3 (Operand.tmp 144) (Operand.tmp 145) 3), (some (143, false)), ann0⟩,
  ⟨(some 147), (Op.pick (Operand.tmp 143) (Operand.const (Value.bool true)) (Operand.tmp 146)), none, ann0⟩,
  ⟨(some 148), (Op.move (Operand.tmp 147)), none, ann0⟩,
  ⟨(some 149), (Op.move (Operand.tmp 20)), (some (148, false)), ann0⟩,
  ⟨(some 150), (Op.move (Operand.tmp 23)), (some (148, false)), ann0⟩,
  ⟨(some 151), (Op.binOp BinOp.lss 3 (Operand.tmp 149) (Operand.tmp 150) 3), (some (148, false)), ann0⟩,
  ⟨(some 152), (Op.pick (Operand.tmp 148) (Operand.const (Value.bool true)) (Operand.tmp 151)), none, ann0⟩,
  ⟨(some 153), (Op.move (Operand.tmp 152)), none, ann0⟩,
  ⟨(some 154), (Op.move (Operand.tmp 20)), (some (153, false)), ann0⟩,
  ⟨(some 155), (Op.move (Operand.tmp 24)), (some (153, false)), ann0⟩,
  ⟨(some 156), (Op.binOp BinOp.gtr 3 (Operand.tmp 154) (Operand.tmp 155) 3), (some (153, false)), ann0⟩,
  ⟨(some 157), (Op.pick (Operand.tmp 153) (Operand.const (Value.bool true)) (Operand.tmp 156)), none, ann0⟩] none) (.tidy [0, 1, 12, 15, 18, 157] z (z + 6)))
 (.cond (Operand.tmp 157) (.seq (.reg [⟨(some 6), (Op.assign (Operand.const (Value.bool false))), none, ann0⟩] none)
 .ret)
 .skip))))))) (.tidy [0, 1, 12, 15, 18] z (z + 6)))
 (.reg [⟨(some 119), (Op.move (Operand.tmp 18)), none, ann0⟩,
  ⟨(some 120), (Op.binOp BinOp.add 3 (Operand.tmp 119) (Operand.const (Value.int IntKind.i64 1)) 3), none, ann0⟩,
  ⟨(some 18), (Op.assign (Operand.tmp 120)), none, ann0⟩] none))) (.tidy [0, 1, 12, 15, 18] z (z + 6))
def s5_1 (z : Nat) : SC := c5_1 z
theorem e5_1 {C : Pg} {z : Nat} {st : St} {ks : List Fr} {K : Ex → St → Prop} : wpk C (s5_1 z) st ks K ↔ wpk C (c5_1 z) st ks K := Iff.rfl
def s5 (z : Nat) : SFn := ⟨3, 178, [(ResultVar.tmp 6)],
 (.seq (.reg [⟨(some 5), (Op.box 47 (Operand.tmp 2)), none, ⟨1, false, false⟩⟩,
  ⟨(some 6), (Op.assign (Operand.const (Value.bool false))), none, ann0⟩] none)
 (.seq (.post (.seq (.post (.reg [⟨(some 25), (Op.call { callee := (Callee.value (Operand.func 13)), args := #[], argTypes := #[] }), none, ann0⟩,
  ⟨(some 26), (Op.unOp UnOp.not 4 (Operand.tmp 25)), none, ann0⟩,
  ⟨(some 27), (Op.move (Operand.tmp 26)), none, ann0⟩,
  ⟨(some 28), (Op.move (Operand.tmp 1)), (some (27, false)), ann0⟩,
  ⟨(some 29), (Op.call { callee := (Callee.builtin Builtin.len), args := #[(Operand.tmp 28)], argTypes := #[36] }), (some (27, false)), ann0⟩,
  ⟨(some 30), (Op.binOp BinOp.gtr 3 (Operand.tmp 29) (Operand.const (Value.int IntKind.i64 60)) 3), (some (27, false)), ann0⟩,
  ⟨(some 31), (Op.pick (Operand.tmp 27) (Operand.const (Value.bool true)) (Operand.tmp 30)), none, ann0⟩] none) (.tidy [0, 1, 5, 31] z (z + 1)))
 (.cond (Operand.tmp 31) (.seq (.reg [⟨(some 32), (Op.call { callee := (Callee.value (Operand.func 13)), args := #[], argTypes := #[] }), none, ann0⟩,
  ⟨(some 6), (Op.assign (Operand.tmp 32)), none, ann0⟩] none)
 .ret)
 .skip)) (.tidy [0, 1, 5] z (z + 1)))
 (.seq (.post (.reg [⟨(some 33), (Op.indexAddr 47 (Operand.tmp 5) (Operand.const (Value.int IntKind.i64 0))), none, ann0⟩,
  ⟨(some 34), (Op.load 5 (Operand.tmp 33)), none, ann0⟩,
  ⟨(some 35), (Op.convert 5 3 (Operand.tmp 34)), none, ann0⟩,
  ⟨(some 36), (Op.move (Operand.tmp 1)), none, ann0⟩,
  ⟨(some 37), (Op.call { callee := (Callee.builtin Builtin.len), args := #[(Operand.tmp 36)], argTypes := #[36] }), none, ann0⟩,
  ⟨(some 38), (Op.binOp BinOp.add 3 (Operand.tmp 37) (Operand.const (Value.int IntKind.i64 1)) 3), none, ann0⟩,
  ⟨(some 39), (Op.binOp BinOp.rem 3 (Operand.tmp 35) (Operand.tmp 38) 3), none, ann0⟩,
  ⟨(some 40), (Op.indexAddr 47 (Operand.tmp 5) (Operand.const (Value.int IntKind.i64 1))), none, ann0⟩,
  ⟨(some 41), (Op.load 5 (Operand.tmp 40)), none, ann0⟩,
  ⟨(some 42), (Op.convert 5 3 (Operand.tmp 41)), none, ann0⟩,
  ⟨(some 43), (Op.move (Operand.tmp 1)), none, ann0⟩,
  ⟨(some 44), (Op.call { callee := (Callee.builtin Builtin.len), args := #[(Operand.tmp 43)], argTypes := #[36] }), none, ann0⟩,
  ⟨(some 45), (Op.binOp BinOp.add 3 (Operand.tmp 44) (Operand.const (Value.int IntKind.i64 1)) 3), none, ann0⟩,
  ⟨(some 46), (Op.binOp BinOp.rem 3 (Operand.tmp 42) (Operand.tmp 45) 3), none, ann0⟩,
  ⟨(some 7), (Op.assign (Operand.tmp 39)), none, ann0⟩,
  ⟨(some 8), (Op.assign (Operand.tmp 46)), none, ann0⟩] (some [0, 1, 3, 0, 8, 24, 63, 0, 128, 384, 0, 1024, 3072, 8064, 127, 32767])) (.tidy [0, 1, 7, 8] z (z + 1)))
 (.seq (.post (.reg [⟨(some 47), (Op.move (Operand.tmp 7)), none, ann0⟩,
  ⟨(some 48), (Op.move (Operand.tmp 8)), none, ann0⟩,
  ⟨(some 49), (Op.call { callee := (Callee.builtin Builtin.min), args := #[(Operand.tmp 47), (Operand.tmp 48)], argTypes := #[3, 3] }), none, ann0⟩,
  ⟨(some 50), (Op.move (Operand.tmp 7)), none, ann0⟩,
  ⟨(some 51), (Op.move (Operand.tmp 8)), none, ann0⟩,
  ⟨(some 52), (Op.call { callee := (Callee.builtin Builtin.max), args := #[(Operand.tmp 50), (Operand.tmp 51)], argTypes := #[3, 3] }), none, ann0⟩,
  ⟨(some 7), (Op.assign (Operand.tmp 49)), none, ann0⟩,
  ⟨(some 8), (Op.assign (Operand.tmp 52)), none, ann0⟩] none) (.tidy [0, 1, 7, 8] z (z + 1)))
 (.seq (.post (.reg [⟨(some 53), (Op.move (Operand.tmp 0)), none, ann0⟩,
  ⟨(some 54), (Op.call { callee := (Callee.value (Operand.func 19)), args := #[(Operand.tmp 53)], argTypes := #[5] }), none, ann0⟩,
  ⟨(some 55), (Op.move (Operand.tmp 1)), none, ann0⟩,
  ⟨(some 56), (Op.move (Operand.tmp 7)), none, ann0⟩,
  ⟨(some 57), (Op.slice 36 (Operand.tmp 55) none (some (Operand.tmp 56)) none), none, ann0⟩,
  ⟨(some 58), (Op.call { callee := (Callee.value (Operand.func 24)), args := #[(Operand.tmp 54), (Operand.tmp 57)], argTypes := #[3, 36] }), none, ann0⟩,
  ⟨(some 59), (Op.move (Operand.tmp 0)), none, ann0⟩,
  ⟨(some 60), (Op.call { callee := (Callee.value (Operand.func 19)), args := #[(Operand.tmp 59)], argTypes := #[5] }), none, ann0⟩,
  ⟨(some 61), (Op.move (Operand.tmp 1)), none, ann0⟩,
  ⟨(some 62), (Op.move (Operand.tmp 7)), none, ann0⟩,
  ⟨(some 63), (Op.move (Operand.tmp 8)), none, ann0⟩,
  ⟨(some 64), (Op.slice 36 (Operand.tmp 61) (some (Operand.tmp 62)) (some (Operand.tmp 63)) none), none, ann0⟩,
  ⟨(some 65), (Op.call { callee := (Callee.value (Operand.func 24)), args := #[(Operand.tmp 60), (Operand.tmp 64)], argTypes := #[3, 36] }), none, ann0⟩,
  ⟨(some 66), (Op.move (Operand.tmp 0)), none, ann0⟩,
  ⟨(some 67), (Op.call { callee := (Callee.value (Operand.func 19)), args := #[(Operand.tmp 66)], argTypes := #[5] }), none, ann0⟩,
  ⟨(some 68), (Op.move (Operand.tmp 1)), none, ann0⟩,
  ⟨(some 69), (Op.move (Operand.tmp 8)), none, ann0⟩,
  ⟨(some 70), (Op.slice 36 (Operand.tmp 68) (some (Operand.tmp 69)) none none), none, ann0⟩,
  ⟨(some 71), (Op.call { callee := (Callee.value (Operand.func 24)), args := #[(Operand.tmp 67), (Operand.tmp 70)], argTypes := #[3, 36] }), none, ann0⟩,
  ⟨(some 9), (Op.alloc 28), none, ⟨1, false, false⟩⟩,
  ⟨(some 10), (Op.alloc 28), none, ⟨1, false, false⟩⟩,
  ⟨(some 11), (Op.alloc 28), none, ⟨1, false, false⟩⟩,
  ⟨none, (Op.store 28 (Operand.tmp 9) (Operand.tmp 58)), none, ann0⟩,
  ⟨none, (Op.store 28 (Operand.tmp 10) (Operand.tmp 65)), none, ann0⟩,
  ⟨none, (Op.store 28 (Operand.tmp 11) (Operand.tmp 71)), none, ann0⟩] (some [0, 1, 0, 0, 12, 31, 0, 127, 0, 0, 0, 1792, 4095, 0, 16383, 0, 0, 98304, 262143, 0, 0, 0, 4194303, 8388607, 16777215])) (.tidy [0, 1, 9, 10, 11] z (z + 4)))
 (.seq (.post (.reg [⟨(some 73), (Op.load 28 (Operand.tmp 9)), none, ann0⟩,
  ⟨(some 74), (Op.load 28 (Operand.tmp 10)), none, ann0⟩,
  ⟨(some 75), (Op.call { callee := (Callee.value (Operand.func 15)), args := #[(Operand.tmp 73), (Operand.tmp 74)], argTypes := #[28, 28] }), none, ann0⟩,
  ⟨(some 72), (Op.move (Operand.tmp 75)), none, ann0⟩,
  ⟨(some 76), (Op.extract (Operand.tmp 72) 0), none, ann0⟩,
  ⟨(some 77), (Op.extract (Operand.tmp 72) 1), none, ann0⟩,
  ⟨(some 12), (Op.alloc 28), none, ⟨1, false, false⟩⟩,
  ⟨none, (Op.store 28 (Operand.tmp 12) (Operand.tmp 76)), none, ann0⟩,
  ⟨(some 13), (Op.assign (Operand.tmp 77)), none, ann0⟩] none) (.tidy [0, 1, 9, 10, 11, 12, 13] z (z + 5)))
 (.seq (.post (.reg [⟨(some 79), (Op.load 28 (Operand.tmp 12)), none, ann0⟩,
  ⟨(some 80), (Op.load 28 (Operand.tmp 11)), none, ann0⟩,
  ⟨(some 81), (Op.call { callee := (Callee.value (Operand.func 15)), args := #[(Operand.tmp 79), (Operand.tmp 80)], argTypes := #[28, 28] }), none, ann0⟩,
  ⟨(some 78), (Op.move (Operand.tmp 81)), none, ann0⟩,
  ⟨(some 82), (Op.extract (Operand.tmp 78) 0), none, ann0⟩,
  ⟨(some 83), (Op.extract (Operand.tmp 78) 1), none, ann0⟩,
  ⟨none, (Op.store 28 (Operand.tmp 12) (Operand.tmp 82)), none, ann0⟩,
  ⟨(some 14), (Op.assign (Operand.tmp 83)), none, ann0⟩] none) (.tidy [0, 1, 9, 10, 11, 12, 13, 14] z (z + 5)))
 (.seq (.post (.reg [⟨(some 85), (Op.load 28 (Operand.tmp 10)), none, ann0⟩,
  ⟨(some 86), (Op.load 28 (Operand.tmp 11)), none, ann0⟩,
  ⟨(some 87), (Op.call { callee := (Callee.value (Operand.func 15)), args := #[(Operand.tmp 85), (Operand.tmp 86)], argTypes := #[28, 28] }), none, ann0⟩,
  ⟨(some 84), (Op.move (Operand.tmp 87)), none, ann0⟩,
  ⟨(some 88), (Op.extract (Operand.tmp 84) 0), none, ann0⟩,
  ⟨(some 89), (Op.extract (Operand.tmp 84) 1), none, ann0⟩,
  ⟨(some 15), (Op.alloc 28), none, ⟨1, false, false⟩⟩,
  ⟨none, (Op.store 28 (Operand.tmp 15) (Operand.tmp 88)), none, ann0⟩,
  ⟨(some 16), (Op.assign (Operand.tmp 89)), none, ann0⟩] none) (.tidy [0, 1, 9, 12, 13, 14, 15, 16] z (z + 6)))
 (.seq (.post (.reg [⟨(some 91), (Op.load 28 (Operand.tmp 9)), none, ann0⟩,
  ⟨(some 92), (Op.load 28 (Operand.tmp 15)), none, ann0⟩,
  ⟨(some 93), (Op.call { callee := (Callee.value (Operand.func 15)), args := #[(Operand.tmp 91), (Operand.tmp 92)], argTypes := #[28, 28] }), none, ann0⟩,
  ⟨(some 90), (Op.move (Operand.tmp 93)), none, ann0⟩,
  ⟨(some 94), (Op.extract (Operand.tmp 90) 0), none, ann0⟩,
  ⟨(some 95), (Op.extract (Operand.tmp 90) 1), none, ann0⟩,
  ⟨none, (Op.store 28 (Operand.tmp 15) (Operand.tmp 94)), none, ann0⟩,
  ⟨(some 17), (Op.assign (Operand.tmp 95)), none, ann0⟩] none) (.tidy [0, 1, 12, 13, 14, 15, 16, 17] z (z + 6)))
 (.seq (.post (.seq (.post (.reg [⟨(some 96), (Op.move (Operand.tmp 13)), none, ann0⟩,
  ⟨(some 97), (Op.binOp BinOp.neq 29 (Operand.tmp 96) (Operand.const (Value.int IntKind.i64 0)) 29), none, ann0⟩,
  ⟨(some 98), (Op.move (Operand.tmp 97)), none, ann0⟩,
  ⟨(some 99), (Op.move (Operand.tmp 14)), (some (98, false)), ann0⟩,
  ⟨(some 100), (Op.binOp BinOp.neq 29 (Operand.tmp 99) (Operand.const (Value.int IntKind.i64 0)) 29), (some (98, false)), ann0⟩,
  ⟨(some 101), (Op.pick (Operand.tmp 98) (Operand.const (Value.bool true)) (Operand.tmp 100)), none, ann0⟩,
  ⟨(some 102), (Op.move (Operand.tmp 101)), none, ann0⟩,
  ⟨(some 103), (Op.move (Operand.tmp 16)), (some (102, false)), ann0⟩,
  ⟨(some 104), (Op.binOp BinOp.neq 29 (Operand.tmp 103) (Operand.const (Value.int IntKind.i64 0)) 29), (some (102, false)), ann0⟩,
  ⟨(some 105), (Op.pick (Operand.tmp 102) (Operand.const (Value.bool true)) (Operand.tmp 104)), none, ann0⟩,
  ⟨(some 106), (Op.move (Operand.tmp 105)), none, ann0⟩,
  ⟨(some 107), (Op.move (Operand.tmp 17)), (some (106, false)), ann0⟩,
  ⟨(some 108), (Op.binOp BinOp.neq 29 (Operand.tmp 107) (Operand.const (Value.int IntKind.i64 0)) 29), (some (106, false)), ann0⟩,
  ⟨(some 109), (Op.pick (Operand.tmp 106) (Operand.const (Value.bool true)) (Operand.tmp 108)), none, ann0⟩,
  ⟨(some 110), (Op.move (Operand.tmp 109)), none, ann0⟩,
  ⟨(some 111), (Op.fieldAddr 28 (Operand.tmp 12) 1), (some (110, false)), ann0⟩,
  ⟨(some 112), (Op.load 3 (Operand.tmp 111)), (some (110, false)), ann0⟩,
  ⟨(some 113), (Op.fieldAddr 28 (Operand.tmp 15) 1), (some (110, false)), ann0⟩,
  ⟨(some 114), (Op.load 3 (Operand.tmp 113)), (some (110, false)), ann0⟩,
  ⟨(some 115), (Op.binOp BinOp.neq 3 (Operand.tmp 112) (Operand.tmp 114) 3), (some (110, false)), ann0⟩,
  ⟨(some 116), (Op.pick (Operand.tmp 110) (Operand.const (Value.bool true)) (Operand.tmp 115)), none, ann0⟩] none) (.tidy [0, 1, 12, 15, 116] z (z + 6)))
 (.cond (Operand.tmp 116) (.seq (.reg [⟨(some 6), (Op.assign (Operand.const (Value.bool false))), none, ann0⟩] none)
 .ret)
 .skip)) (.tidy [0, 1, 12, 15] z (z + 6)))
 (.seq (.post (.seq (.reg [⟨(some 18), (Op.assign (Operand.const (Value.int IntKind.i64 0))), none, ann0⟩] none)
 (.post (.block 0 (.pre (.tidy [0, 1, 12, 15, 18] z (z + 6)) (.loop (s5_1 z)))) (.tidy [0, 12, 15] z (z + 6)))) (.tidy [0, 12, 15] z (z + 6)))
 (.seq (.reg [⟨(some 158), (Op.fieldAddr 28 (Operand.tmp 12) 2), none, ann0⟩,
  ⟨(some 159), (Op.load 3 (Operand.tmp 158)), none, ann0⟩,
  ⟨(some 160), (Op.move (Operand.tmp 0)), none, ann0⟩,
  ⟨(some 161), (Op.call { callee := (Callee.value (Operand.func 19)), args := #[(Operand.tmp 160)], argTypes := #[5] }), none, ann0⟩,
  ⟨(some 162), (Op.binOp BinOp.add 3 (Operand.tmp 161) (Operand.const (Value.int IntKind.i64 1)) 3), none, ann0⟩,
  ⟨(some 163), (Op.binOp BinOp.mul 3 (Operand.tmp 159) (Operand.tmp 162) 3), none, ann0⟩,
  ⟨(some 164), (Op.fieldAddr 28 (Operand.tmp 12) 1), none, ann0⟩,
  ⟨(some 165), (Op.load 3 (Operand.tmp 164)), none, ann0⟩,
  ⟨(some 166), (Op.binOp BinOp.leq 3 (Operand.tmp 163) (Operand.tmp 165) 3), none, ann0⟩,
  ⟨(some 167), (Op.move (Operand.tmp 166)), none, ann0⟩,
  ⟨(some 168), (Op.fieldAddr 28 (Operand.tmp 15) 2), (some (167, true)), ann0⟩,
  ⟨(some 169), (Op.load 3 (Operand.tmp 168)), (some (167, true)), ann0⟩,
  ⟨(some 170), (Op.move (Operand.tmp 0)), (some (167, true)), ann0⟩,
  ⟨(some 171), (Op.call { callee := (Callee.value (Operand.func 19)), args := #[(Operand.tmp 170)], argTypes := #[5] }), (some (167, true)), ann0⟩,
  ⟨(some 172), (Op.binOp BinOp.add 3 (Operand.tmp 171) (Operand.const (Value.int IntKind.i64 1)) 3), (some (167, true)), ann0⟩,
  ⟨(some 173), (Op.binOp BinOp.mul 3 (Operand.tmp 169) (Operand.tmp 172) 3), (some (167, true)), ann0⟩,
  ⟨(some 174), (Op.fieldAddr 28 (Operand.tmp 15) 1), (some (167, true)), ann0⟩,
  ⟨(some 175), (Op.load 3 (Operand.tmp 174)), (some (167, true)), ann0⟩,
  ⟨(some 176), (Op.binOp BinOp.leq 3 (Operand.tmp 173) (Operand.tmp 175) 3), (some (167, true)), ann0⟩,
  ⟨(some 177), (Op.pick (Operand.tmp 167) (Operand.tmp 176) (Operand.const (Value.bool false))), none, ann0⟩,
  ⟨(some 6), (Op.assign (Operand.tmp 177)), none, ann0⟩] (some [0, 1, 0, 4, 12, 31, 0, 64, 255, 511, 1023, 2047, 1023, 5119, 13311, 32767, 1023, 66559, 262143, 524287, 1048575]))
 .ret))))))))))))⟩
theorem F5 (z : Nat) : FOk Try.prog 5 (s5 z) := by unfold FOk; kernel_rfl
def c12_1 (z : Nat) : SC := .post (.seq (.seq (.reg [⟨(some 83), (Op.move (Operand.tmp 13)), none, ann0⟩,
  ⟨(some 84), (Op.binOp BinOp.lss 3 (Operand.tmp 83) (Operand.const (Value.int IntKind.i64 26)) 3), none, ann0⟩] none)
 (.cond (Operand.tmp 84) .skip
 (.exit 0)))
 (.seq (.post (.block 1 (.seq (.post (.reg [⟨(some 87), (Op.move (Operand.tmp 13)), none, ann0⟩,
  ⟨(some 88), (Op.convert 3 5 (Operand.tmp 87)), none, ann0⟩,
  ⟨(some 89), (Op.build 41 #[(0, (Operand.tmp 88))]), none, ann0⟩,
  ⟨(some 90), (Op.call { callee := (Callee.value (Operand.func 20)), args := #[(Operand.tmp 89)], argTypes := #[41] }), none, ann0⟩,
  ⟨(some 14), (Op.assign (Operand.tmp 90)), none, ann0⟩] none) (.tidy [1, 2, 9, 13, 14] z (z + 5)))
 (.seq (.post (.reg [⟨(some 91), (Op.move (Operand.tmp 1)), none, ann0⟩,
  ⟨(some 92), (Op.move (Operand.tmp 14)), none, ann0⟩,
  ⟨(some 93), (Op.call { callee := (Callee.value (Operand.func 22)), args := #[(Operand.tmp 91), (Operand.tmp 92)], argTypes := #[36, 9] }), none, ann0⟩,
  ⟨(some 94), (Op.move (Operand.tmp 2)), none, ann0⟩,
  ⟨(some 95), (Op.move (Operand.tmp 14)), none, ann0⟩,
  ⟨(some 96), (Op.call { callee := (Callee.value (Operand.func 22)), args := #[(Operand.tmp 94), (Operand.tmp 95)], argTypes := #[36, 9] }), none, ann0⟩,
  ⟨(some 97), (Op.binOp BinOp.add 3 (Operand.tmp 93) (Operand.tmp 96) 3), none, ann0⟩,
  ⟨(some 15), (Op.assign (Operand.tmp 97)), none, ann0⟩] none) (.tidy [1, 2, 9, 13, 14, 15] z (z + 5)))
 (.seq (.post (.reg [⟨(some 99), (Op.load 28 (Operand.tmp 9)), none, ann0⟩,
  ⟨(some 100), (Op.move (Operand.tmp 14)), none, ann0⟩,
  ⟨(some 101), (Op.call { callee := (Callee.value (Operand.func 23)), args := #[(Operand.tmp 99), (Operand.tmp 100)], argTypes := #[28, 9] }), none, ann0⟩,
  ⟨(some 98), (Op.move (Operand.tmp 101)), none, ann0⟩,
  ⟨(some 102), (Op.extract (Operand.tmp 98) 0), none, ann0⟩,
  ⟨(some 103), (Op.extract (Operand.tmp 98) 1), none, ann0⟩,
  ⟨(some 16), (Op.assign (Operand.tmp 102)), none, ann0⟩,
  ⟨(some 17), (Op.assign (Operand.tmp 103)), none, ann0⟩] none) (.tidy [1, 2, 9, 13, 15, 16, 17] z (z + 5)))
 (.seq (.post (.reg [⟨(some 104), (Op.move (Operand.tmp 15)), none, ann0⟩,
  ⟨(some 105), (Op.move (Operand.tmp 16)), none, ann0⟩,
  ⟨(some 106), (Op.binOp BinOp.lss 3 (Operand.tmp 104) (Operand.tmp 105) 3), none, ann0⟩,
  ⟨(some 107), (Op.move (Operand.tmp 106)), none, ann0⟩,
  ⟨(some 108), (Op.move (Operand.tmp 15)), (some (107, false)), ann0⟩,
  ⟨(some 109), (Op.move (Operand.tmp 17)), (some (107, false)), ann0⟩,
  ⟨(some 110), (Op.binOp BinOp.gtr 3 (Operand.tmp 108) (Operand.tmp 109) 3), (some (107, false)), ann0⟩,
  ⟨(some 111), (Op.pick (Operand.tmp 107) (Operand.const (Value.bool true)) (Operand.tmp 110)), none, ann0⟩] none) (.tidy [1, 2, 9, 13, 111] z (z + 5)))
 (.cond (Operand.tmp 111) (.seq (.reg [⟨(some 6), (Op.assign (Operand.const (Value.bool false))), none, ann0⟩] none)
 .ret)
 .skip)))))) (.tidy [1, 2, 9, 13] z (z + 5)))
 (.reg [⟨(some 85), (Op.move (Operand.tmp 13)), none, ann0⟩,
  ⟨(some 86), (Op.binOp BinOp.add 3 (Operand.tmp 85) (Operand.const (Value.int IntKind.i64 1)) 3), none, ann0⟩,
  ⟨(some 13), (Op.assign (Operand.tmp 86)), none, ann0⟩] none))) (.tidy [1, 2, 9, 13] z (z + 5))
def s12_1 (z : Nat) : SC := c12_1 z
theorem e12_1 {C : Pg} {z : Nat} {st : St} {ks : List Fr} {K : Ex → St → Prop} : wpk C (s12_1 z) st ks K ↔ wpk C (c12_1 z) st ks K := Iff.rfl
def s12 (z : Nat) : SFn := ⟨3, 112, [(ResultVar.tmp 6)],
 (.seq (.reg [⟨(some 3), (Op.box 47 (Operand.tmp 0)), none, ⟨1, false, false⟩⟩,
  ⟨(some 6), (Op.assign (Operand.const (Value.bool false))), none, ann0⟩] none)
 (.seq (.seq (.reg [⟨(some 18), (Op.call { callee := (Callee.value (Operand.func 13)), args := #[], argTypes := #[] }), none, ann0⟩,
  ⟨(some 19), (Op.unOp UnOp.not 4 (Operand.tmp 18)), none, ann0⟩] none)
 (.cond (Operand.tmp 19) (.seq (.reg [⟨(some 6), (Op.assign (Operand.const (Value.bool false))), none, ann0⟩] none)
 .ret)
 .skip))
 (.seq (.post (.reg [⟨(some 20), (Op.indexAddr 47 (Operand.tmp 3) (Operand.const (Value.int IntKind.i64 0))), none, ann0⟩,
  ⟨(some 21), (Op.load 5 (Operand.tmp 20)), none, ann0⟩,
  ⟨(some 22), (Op.call { callee := (Callee.value (Operand.func 19)), args := #[(Operand.tmp 21)], argTypes := #[5] }), none, ann0⟩,
  ⟨(some 23), (Op.move (Operand.tmp 1)), none, ann0⟩,
  ⟨(some 24), (Op.call { callee := (Callee.value (Operand.func 24)), args := #[(Operand.tmp 22), (Operand.tmp 23)], argTypes := #[3, 36] }), none, ann0⟩,
  ⟨(some 25), (Op.indexAddr 47 (Operand.tmp 3) (Operand.const (Value.int IntKind.i64 1))), none, ann0⟩,
  ⟨(some 26), (Op.load 5 (Operand.tmp 25)), none, ann0⟩,
  ⟨(some 27), (Op.call { callee := (Callee.value (Operand.func 19)), args := #[(Operand.tmp 26)], argTypes := #[5] }), none, ann0⟩,
  ⟨(some 28), (Op.move (Operand.tmp 2)), none, ann0⟩,
  ⟨(some 29), (Op.call { callee := (Callee.value (Operand.func 24)), args := #[(Operand.tmp 27), (Operand.tmp 28)], argTypes := #[3, 36] }), none, ann0⟩,
  ⟨(some 7), (Op.alloc 28), none, ⟨1, false, false⟩⟩,
  ⟨(some 8), (Op.alloc 28), none, ⟨1, false, false⟩⟩,
  ⟨none, (Op.store 28 (Operand.tmp 7) (Operand.tmp 24)), none, ann0⟩,
  ⟨none, (Op.store 28 (Operand.tmp 8) (Operand.tmp 29)), none, ann0⟩] (some [0, 1, 3, 0, 15, 0, 32, 127, 0, 511, 0, 0, 4095, 8191])) (.tidy [1, 2, 7, 8] z (z + 3)))
 (.seq (.post (.reg [⟨(some 31), (Op.load 28 (Operand.tmp 7)), none, ann0⟩,
  ⟨(some 32), (Op.load 28 (Operand.tmp 8)), none, ann0⟩,
  ⟨(some 33), (Op.call { callee := (Callee.value (Operand.func 15)), args := #[(Operand.tmp 31), (Operand.tmp 32)], argTypes := #[28, 28] }), none, ann0⟩,
  ⟨(some 30), (Op.move (Operand.tmp 33)), none, ann0⟩,
  ⟨(some 34), (Op.extract (Operand.tmp 30) 0), none, ann0⟩,
  ⟨(some 35), (Op.extract (Operand.tmp 30) 1), none, ann0⟩,
  ⟨(some 9), (Op.alloc 28), none, ⟨1, false, false⟩⟩,
  ⟨none, (Op.store 28 (Operand.tmp 9) (Operand.tmp 34)), none, ann0⟩,
  ⟨(some 10), (Op.assign (Operand.tmp 35)), none, ann0⟩] none) (.tidy [1, 2, 7, 8, 9, 10] z (z + 4)))
 (.seq (.post (.reg [⟨(some 37), (Op.load 28 (Operand.tmp 8)), none, ann0⟩,
  ⟨(some 38), (Op.load 28 (Operand.tmp 7)), none, ann0⟩,
  ⟨(some 39), (Op.call { callee := (Callee.value (Operand.func 15)), args := #[(Operand.tmp 37), (Operand.tmp 38)], argTypes := #[28, 28] }), none, ann0⟩,
  ⟨(some 36), (Op.move (Operand.tmp 39)), none, ann0⟩,
  ⟨(some 40), (Op.extract (Operand.tmp 36) 0), none, ann0⟩,
  ⟨(some 41), (Op.extract (Operand.tmp 36) 1), none, ann0⟩,
  ⟨(some 11), (Op.alloc 28), none, ⟨1, false, false⟩⟩,
  ⟨none, (Op.store 28 (Operand.tmp 11) (Operand.tmp 40)), none, ann0⟩,
  ⟨(some 12), (Op.assign (Operand.tmp 41)), none, ann0⟩] none) (.tidy [1, 2, 7, 8, 9, 10, 11, 12] z (z + 5)))
 (.seq (.post (.seq (.reg [⟨(some 42), (Op.fieldAddr 28 (Operand.tmp 7) 0), none, ann0⟩,
  ⟨(some 43), (Op.load 3 (Operand.tmp 42)), none, ann0⟩,
  ⟨(some 44), (Op.fieldAddr 28 (Operand.tmp 8) 0), none, ann0⟩,
  ⟨(some 45), (Op.load 3 (Operand.tmp 44)), none, ann0⟩,
  ⟨(some 46), (Op.binOp BinOp.neq 3 (Operand.tmp 43) (Operand.tmp 45) 3), none, ann0⟩] none)
 (.cond (Operand.tmp 46) (.seq (.reg [⟨(some 47), (Op.load 28 (Operand.tmp 9)), none, ann0⟩,
  ⟨(some 48), (Op.build 28 #[]), none, ann0⟩,
  ⟨(some 49), (Op.call { callee := (Callee.value (Operand.func 16)), args := #[(Operand.tmp 47), (Operand.tmp 48)], argTypes := #[28, 28] }), none, ann0⟩,
  ⟨(some 50), (Op.move (Operand.tmp 49)), none, ann0⟩,
  ⟨(some 51), (Op.move (Operand.tmp 10)), (some (50, true)), ann0⟩,
  ⟨(some 52), (Op.binOp BinOp.eql 29 (Operand.tmp 51) (Operand.const (Value.int IntKind.i64 3)) 29), (some (50, true)), ann0⟩,
  ⟨(some 53), (Op.pick (Operand.tmp 50) (Operand.tmp 52) (Operand.const (Value.bool false))), none, ann0⟩,
  ⟨(some 54), (Op.move (Operand.tmp 53)), none, ann0⟩,
  ⟨(some 55), (Op.move (Operand.tmp 12)), (some (54, true)), ann0⟩,
  ⟨(some 56), (Op.binOp BinOp.eql 29 (Operand.tmp 55) (Operand.const (Value.int IntKind.i64 3)) 29), (some (54, true)), ann0⟩,
  ⟨(some 57), (Op.pick (Operand.tmp 54) (Operand.tmp 56) (Operand.const (Value.bool false))), none, ann0⟩,
  ⟨(some 6), (Op.assign (Operand.tmp 57)), none, ann0⟩] none)
 .ret)
 .skip)) (.tidy [1, 2, 7, 8, 9, 10, 11, 12] z (z + 5)))
 (.seq (.post (.seq (.post (.reg [⟨(some 58), (Op.load 28 (Operand.tmp 9)), none, ann0⟩,
  ⟨(some 59), (Op.load 28 (Operand.tmp 7)), none, ann0⟩,
  ⟨(some 60), (Op.load 28 (Operand.tmp 8)), none, ann0⟩,
  ⟨(some 61), (Op.call { callee := (Callee.value (Operand.func 36)), args := #[(Operand.tmp 59), (Operand.tmp 60)], argTypes := #[28, 28] }), none, ann0⟩,
  ⟨(some 62), (Op.call { callee := (Callee.value (Operand.func 16)), args := #[(Operand.tmp 58), (Operand.tmp 61)], argTypes := #[28, 28] }), none, ann0⟩,
  ⟨(some 63), (Op.unOp UnOp.not 4 (Operand.tmp 62)), none, ann0⟩,
  ⟨(some 64), (Op.move (Operand.tmp 63)), none, ann0⟩,
  ⟨(some 65), (Op.move (Operand.tmp 10)), (some (64, false)), ann0⟩,
  ⟨(some 66), (Op.binOp BinOp.neq 29 (Operand.tmp 65) (Operand.const (Value.int IntKind.i64 0)) 29), (some (64, false)), ann0⟩,
  ⟨(some 67), (Op.pick (Operand.tmp 64) (Operand.const (Value.bool true)) (Operand.tmp 66)), none, ann0⟩,
  ⟨(some 68), (Op.move (Operand.tmp 67)), none, ann0⟩,
  ⟨(some 69), (Op.load 28 (Operand.tmp 11)), (some (68, false)), ann0⟩,
  ⟨(some 70), (Op.load 28 (Operand.tmp 9)), (some (68, false)), ann0⟩,
  ⟨(some 71), (Op.call { callee := (Callee.value (Operand.func 16)), args := #[(Operand.tmp 69), (Operand.tmp 70)], argTypes := #[28, 28] }), (some (68, false)), ann0⟩,
  ⟨(some 72), (Op.unOp UnOp.not 4 (Operand.tmp 71)), (some (68, false)), ann0⟩,
  ⟨(some 73), (Op.pick (Operand.tmp 68) (Operand.const (Value.bool true)) (Operand.tmp 72)), none, ann0⟩,
  ⟨(some 74), (Op.move (Operand.tmp 73)), none, ann0⟩,
  ⟨(some 75), (Op.move (Operand.tmp 12)), (some (74, false)), ann0⟩,
  ⟨(some 76), (Op.binOp BinOp.neq 29 (Operand.tmp 75) (Operand.const (Value.int IntKind.i64 0)) 29), (some (74, false)), ann0⟩,
  ⟨(some 77), (Op.pick (Operand.tmp 74) (Operand.const (Value.bool true)) (Operand.tmp 76)), none, ann0⟩,
  ⟨(some 78), (Op.move (Operand.tmp 77)), none, ann0⟩,
  ⟨(some 79), (Op.load 28 (Operand.tmp 9)), (some (78, false)), ann0⟩,
  ⟨(some 80), (Op.call { callee := (Callee.value (Operand.func 27)), args := #[(Operand.tmp 79)], argTypes := #[28] }), (some (78, false)), ann0⟩,
  ⟨(some 81), (Op.binOp BinOp.neq 29 (Operand.tmp 80) (Operand.const (Value.int IntKind.i64 0)) 29), (some (78, false)), ann0⟩,
  ⟨(some 82), (Op.pick (Operand.tmp 78) (Operand.const (Value.bool true)) (Operand.tmp 81)), none, ann0⟩] (some [0, 0, 0, 6, 15, 31, 63, 127, 255, 511, 1023, 2047, 2047, 8191, 16383, 32767, 65535, 131071, 262143, 524287, 1048575, 2097151, 4194303, 8388607, 16777215])) (.tidy [1, 2, 9, 82] z (z + 5)))
 (.cond (Operand.tmp 82) (.seq (.reg [⟨(some 6), (Op.assign (Operand.const (Value.bool false))), none, ann0⟩] none)
 .ret)
 .skip)) (.tidy [1, 2, 9] z (z + 5)))
 (.seq (.post (.seq (.reg [⟨(some 13), (Op.assign (Operand.const (Value.int IntKind.i64 0))), none, ann0⟩] none)
 (.post (.block 0 (.pre (.tidy [1, 2, 9, 13] z (z + 5)) (.loop (s12_1 z)))) (.tidy [] z (z + 5)))) (.tidy [] z (z + 5)))
 (.seq (.reg [⟨(some 6), (Op.assign (Operand.const (Value.bool true))), none, ann0⟩] none)
 .ret)))))))))⟩
theorem F12 (z : Nat) : FOk Try.prog 12 (s12 z) := by unfold FOk; kernel_rfl
def s13 (z : Nat) : SFn := ⟨0, 88, [(ResultVar.tmp 0)],
 (.seq (.reg [⟨(some 0), (Op.assign (Operand.const (Value.bool false))), none, ann0⟩] none)
 (.seq (.reg [⟨(some 9), (Op.call { callee := (Callee.value (Operand.func 18)), args := #[(Operand.const (Value.int IntKind.i64 2))], argTypes := #[3] }), none, ann0⟩,
  ⟨(some 8), (Op.move (Operand.tmp 9)), none, ann0⟩,
  ⟨(some 10), (Op.extract (Operand.tmp 8) 0), none, ann0⟩,
  ⟨(some 11), (Op.extract (Operand.tmp 8) 1), none, ann0⟩,
  ⟨(some 1), (Op.alloc 28), none, ⟨1, false, false⟩⟩,
  ⟨none, (Op.store 28 (Operand.tmp 1) (Operand.tmp 10)), none, ann0⟩,
  ⟨(some 2), (Op.assign (Operand.tmp 11)), none, ann0⟩] none)
 (.seq (.post (.reg [⟨(some 13), (Op.load 28 (Operand.tmp 1)), none, ann0⟩,
  ⟨(some 14), (Op.call { callee := (Callee.value (Operand.func 14)), args := #[(Operand.tmp 13), (Operand.const (Value.string ⟨#[97]⟩)), (Operand.const (Value.int IntKind.i64 3))], argTypes := #[28, 9, 3] }), none, ann0⟩,
  ⟨(some 12), (Op.move (Operand.tmp 14)), none, ann0⟩,
  ⟨(some 15), (Op.extract (Operand.tmp 12) 0), none, ann0⟩,
  ⟨(some 16), (Op.extract (Operand.tmp 12) 1), none, ann0⟩,
  ⟨none, (Op.store 28 (Operand.tmp 1) (Operand.tmp 15)), none, ann0⟩,
  ⟨(some 3), (Op.assign (Operand.tmp 16)), none, ann0⟩] none) (.tidy [1, 2, 3] z (z + 1)))
 (.seq (.reg [⟨(some 18), (Op.load 28 (Operand.tmp 1)), none, ann0⟩,
  ⟨(some 19), (Op.call { callee := (Callee.value (Operand.func 14)), args := #[(Operand.tmp 18), (Operand.const (Value.string ⟨#[98]⟩)), (Operand.const (Value.int IntKind.i64 1))], argTypes := #[28, 9, 3] }), none, ann0⟩,
  ⟨(some 17), (Op.move (Operand.tmp 19)), none, ann0⟩,
  ⟨(some 20), (Op.extract (Operand.tmp 17) 0), none, ann0⟩,
  ⟨(some 21), (Op.extract (Operand.tmp 17) 1), none, ann0⟩,
  ⟨none, (Op.store 28 (Operand.tmp 1) (Operand.tmp 20)), none, ann0⟩,
  ⟨(some 4), (Op.assign (Operand.tmp 21)), none, ann0⟩] none)
 (.seq (.post (.reg [⟨(some 23), (Op.load 28 (Operand.tmp 1)), none, ann0⟩,
  ⟨(some 24), (Op.call { callee := (Callee.value (Operand.func 14)), args := #[(Operand.tmp 23), (Operand.const (Value.string ⟨#[99]⟩)), (Operand.const (Value.int IntKind.i64 2))], argTypes := #[28, 9, 3] }), none, ann0⟩,
  ⟨(some 22), (Op.move (Operand.tmp 24)), none, ann0⟩,
  ⟨(some 25), (Op.extract (Operand.tmp 22) 0), none, ann0⟩,
  ⟨(some 26), (Op.extract (Operand.tmp 22) 1), none, ann0⟩,
  ⟨none, (Op.store 28 (Operand.tmp 1) (Operand.tmp 25)), none, ann0⟩,
  ⟨(some 5), (Op.assign (Operand.tmp 26)), none, ann0⟩] none) (.tidy [1, 2, 3, 4, 5] z (z + 1)))
 (.seq (.post (.reg [⟨(some 28), (Op.call { callee := (Callee.value (Operand.func 37)), args := #[(Operand.const (Value.string ⟨#[97]⟩)), (Operand.const (Value.int IntKind.i64 4)), (Operand.const (Value.string ⟨#[98]⟩)), (Operand.const (Value.int IntKind.i64 2))], argTypes := #[9, 3, 9, 3] }), none, ann0⟩,
  ⟨(some 29), (Op.build 28 #[(0, (Operand.const (Value.int IntKind.i64 2))), (1, (Operand.const (Value.int IntKind.i64 6))), (3, (Operand.tmp 28))]), none, ann0⟩,
  ⟨(some 30), (Op.call { callee := (Callee.value (Operand.func 37)), args := #[(Operand.const (Value.string ⟨#[98]⟩)), (Operand.const (Value.int IntKind.i64 1)), (Operand.const (Value.string ⟨#[99]⟩)), (Operand.const (Value.int IntKind.i64 3))], argTypes := #[9, 3, 9, 3] }), none, ann0⟩,
  ⟨(some 31), (Op.build 28 #[(0, (Operand.const (Value.int IntKind.i64 2))), (1, (Operand.const (Value.int IntKind.i64 4))), (3, (Operand.tmp 30))]), none, ann0⟩,
  ⟨(some 32), (Op.call { callee := (Callee.value (Operand.func 15)), args := #[(Operand.tmp 29), (Operand.tmp 31)], argTypes := #[28, 28] }), none, ann0⟩,
  ⟨(some 27), (Op.move (Operand.tmp 32)), none, ann0⟩,
  ⟨(some 33), (Op.extract (Operand.tmp 27) 0), none, ann0⟩,
  ⟨(some 34), (Op.extract (Operand.tmp 27) 1), none, ann0⟩,
  ⟨(some 6), (Op.alloc 28), none, ⟨1, false, false⟩⟩,
  ⟨none, (Op.store 28 (Operand.tmp 6) (Operand.tmp 33)), none, ann0⟩,
  ⟨(some 7), (Op.assign (Operand.tmp 34)), none, ann0⟩] none) (.tidy [1, 2, 3, 4, 5, 6, 7] z (z + 2)))
 (.seq (.reg [⟨(some 35), (Op.move (Operand.tmp 2)), none, ann0⟩,
  ⟨(some 36), (Op.binOp BinOp.eql 29 (Operand.tmp 35) (Operand.const (Value.int IntKind.i64 0)) 29), none, ann0⟩,
  ⟨(some 37), (Op.move (Operand.tmp 36)), none, ann0⟩,
  ⟨(some 38), (Op.move (Operand.tmp 3)), (some (37, true)), ann0⟩,
  ⟨(some 39), (Op.binOp BinOp.eql 29 (Operand.tmp 38) (Operand.const (Value.int IntKind.i64 0)) 29), (some (37, true)), ann0⟩,
  ⟨(some 40), (Op.pick (Operand.tmp 37) (Operand.tmp 39) (Operand.const (Value.bool false))), none, ann0⟩,
  ⟨(some 41), (Op.move (Operand.tmp 40)), none, ann0⟩,
  ⟨(some 42), (Op.move (Operand.tmp 4)), (some (41, true)), ann0⟩,
  ⟨(some 43), (Op.binOp BinOp.eql 29 (Operand.tmp 42) (Operand.const (Value.int IntKind.i64 0)) 29), (some (41, true)), ann0⟩,
  ⟨(some 44), (Op.pick (Operand.tmp 41) (Operand.tmp 43) (Operand.const (Value.bool false))), none, ann0⟩,
  ⟨(some 45), (Op.move (Operand.tmp 44)), none, ann0⟩,
  ⟨(some 46), (Op.move (Operand.tmp 5)), (some (45, true)), ann0⟩,
  ⟨(some 47), (Op.binOp BinOp.eql 29 (Operand.tmp 46) (Operand.const (Value.int IntKind.i64 0)) 29), (some (45, true)), ann0⟩,
  ⟨(some 48), (Op.pick (Operand.tmp 45) (Operand.tmp 47) (Operand.const (Value.bool false))), none, ann0⟩,
  ⟨(some 49), (Op.move (Operand.tmp 48)), none, ann0⟩,
  ⟨(some 50), (Op.fieldAddr 28 (Operand.tmp 1) 1), (some (49, true)), ann0⟩,
  ⟨(some 51), (Op.load 3 (Operand.tmp 50)), (some (49, true)), ann0⟩,
  ⟨(some 52), (Op.binOp BinOp.eql 3 (Operand.tmp 51) (Operand.const (Value.int IntKind.i64 6)) 3), (some (49, true)), ann0⟩,
  ⟨(some 53), (Op.pick (Operand.tmp 49) (Operand.tmp 52) (Operand.const (Value.bool false))), none, ann0⟩,
  ⟨(some 54), (Op.move (Operand.tmp 53)), none, ann0⟩,
  ⟨(some 55), (Op.fieldAddr 28 (Operand.tmp 1) 2), (some (54, true)), ann0⟩,
  ⟨(some 56), (Op.load 3 (Operand.tmp 55)), (some (54, true)), ann0⟩,
  ⟨(some 57), (Op.binOp BinOp.eql 3 (Operand.tmp 56) (Operand.const (Value.int IntKind.i64 1)) 3), (some (54, true)), ann0⟩,
  ⟨(some 58), (Op.pick (Operand.tmp 54) (Operand.tmp 57) (Operand.const (Value.bool false))), none, ann0⟩,
  ⟨(some 59), (Op.move (Operand.tmp 58)), none, ann0⟩,
  ⟨(some 60), (Op.fieldAddr 28 (Operand.tmp 1) 3), (some (59, true)), ann0⟩,
  ⟨(some 61), (Op.load 26 (Operand.tmp 60)), (some (59, true)), ann0⟩,
  ⟨(some 62), (Op.call { callee := (Callee.value (Operand.func 37)), args := #[(Operand.const (Value.string ⟨#[97]⟩)), (Operand.const (Value.int IntKind.i64 2)), (Operand.const (Value.string ⟨#[99]⟩)), (Operand.const (Value.int IntKind.i64 1))], argTypes := #[9, 3, 9, 3] }), (some (59, true)), ann0⟩,
  ⟨(some 63), (Op.call { callee := (Callee.value (Operand.func 32)), args := #[(Operand.tmp 61), (Operand.tmp 62)], argTypes := #[26, 26] }), (some (59, true)), ann0⟩,
  ⟨(some 64), (Op.pick (Operand.tmp 59) (Operand.tmp 63) (Operand.const (Value.bool false))), none, ann0⟩,
  ⟨(some 65), (Op.move (Operand.tmp 64)), none, ann0⟩,
  ⟨(some 66), (Op.move (Operand.tmp 7)), (some (65, true)), ann0⟩,
  ⟨(some 67), (Op.binOp BinOp.eql 29 (Operand.tmp 66) (Operand.const (Value.int IntKind.i64 0)) 29), (some (65, true)), ann0⟩,
  ⟨(some 68), (Op.pick (Operand.tmp 65) (Operand.tmp 67) (Operand.const (Value.bool false))), none, ann0⟩,
  ⟨(some 69), (Op.move (Operand.tmp 68)), none, ann0⟩,
  ⟨(some 70), (Op.fieldAddr 28 (Operand.tmp 6) 2), (some (69, true)), ann0⟩,
  ⟨(some 71), (Op.load 3 (Operand.tmp 70)), (some (69, true)), ann0⟩,
  ⟨(some 72), (Op.binOp BinOp.eql 3 (Operand.tmp 71) (Operand.const (Value.int IntKind.i64 3)) 3), (some (69, true)), ann0⟩,
  ⟨(some 73), (Op.pick (Operand.tmp 69) (Operand.tmp 72) (Operand.const (Value.bool false))), none, ann0⟩,
  ⟨(some 74), (Op.move (Operand.tmp 73)), none, ann0⟩,
  ⟨(some 75), (Op.fieldAddr 28 (Operand.tmp 6) 3), (some (74, true)), ann0⟩,
  ⟨(some 76), (Op.load 26 (Operand.tmp 75)), (some (74, true)), ann0⟩,
  ⟨(some 77), (Op.call { callee := (Callee.builtin Builtin.len), args := #[(Operand.tmp 76)], argTypes := #[26] }), (some (74, true)), ann0⟩,
  ⟨(some 78), (Op.binOp BinOp.eql 3 (Operand.tmp 77) (Operand.const (Value.int IntKind.i64 1)) 3), (some (74, true)), ann0⟩,
  ⟨(some 79), (Op.pick (Operand.tmp 74) (Operand.tmp 78) (Operand.const (Value.bool false))), none, ann0⟩,
  ⟨(some 80), (Op.move (Operand.tmp 79)), none, ann0⟩,
  ⟨(some 81), (Op.fieldAddr 28 (Operand.tmp 6) 3), (some (80, true)), ann0⟩,
  ⟨(some 82), (Op.load 26 (Operand.tmp 81)), (some (80, true)), ann0⟩,
  ⟨(some 83), (Op.indexAddr 26 (Operand.tmp 82) (Operand.const (Value.int IntKind.i64 0))), (some (80, true)), ann0⟩,
  ⟨(some 84), (Op.load 25 (Operand.tmp 83)), (some (80, true)), ann0⟩,
  ⟨(some 85), (Op.build 25 #[(0, (Operand.const (Value.string ⟨#[97]⟩))), (1, (Operand.const (Value.int IntKind.i64 1)))]), (some (80, true)), ann0⟩,
  ⟨(some 86), (Op.binOp BinOp.eql 25 (Operand.tmp 84) (Operand.tmp 85) 25), (some (80, true)), ann0⟩,
  ⟨(some 87), (Op.pick (Operand.tmp 80) (Operand.tmp 86) (Operand.const (Value.bool false))), none, ann0⟩,
  ⟨(some 0), (Op.assign (Operand.tmp 87)), none, ann0⟩] (some [0, 1, 3, 7, 15, 31, 63, 127, 255, 511, 1023, 2047, 4095, 8191, 16383, 32767, 65535, 131071, 262143, 524287, 1048575, 2097151, 4194303, 8388607, 16777215, 33554431, 67108863, 33554431, 268435455, 536870911, 1073741823, 2147483647, 4294967295, 8589934591, 17179869183, 34359738367, 68719476735, 137438953471, 274877906943, 549755813887, 1099511627775, 2199023255551, 4398046511103, 8796093022207, 17592186044415, 35184372088831, 70368744177663, 140737488355327, 281474976710655, 562949953421311, 70368744177663, 2251799813685247, 4503599627370495, 9007199254740991]))
 .ret)))))))⟩
theorem F13 (z : Nat) : FOk Try.prog 13 (s13 z) := by unfold FOk; kernel_rfl
def c14_1 (z : Nat) : SC := .post (.seq (.reg [⟨(some 63), (Op.next (Operand.tmp 62) false), none, ann0⟩,
  ⟨(some 64), (Op.extract (Operand.tmp 63) 0), none, ann0⟩] none)
 (.seq (.cond (Operand.tmp 64) .skip
 (.exit 1))
 (.block 2 (.seq (.reg [⟨(some 65), (Op.entry (Operand.tmp 62)), none, ann0⟩,
  ⟨(some 66), (Op.extract (Operand.tmp 65) 1), none, ann0⟩,
  ⟨(some 13), (Op.assign (Operand.tmp 66)), none, ann0⟩] none)
 (.reg [⟨(some 67), (Op.move (Operand.tmp 11)), none, ann0⟩,
  ⟨(some 68), (Op.move (Operand.tmp 13)), none, ann0⟩,
  ⟨(some 69), (Op.call { callee := (Callee.builtin Builtin.min), args := #[(Operand.tmp 67), (Operand.tmp 68)], argTypes := #[3, 3] }), none, ann0⟩,
  ⟨(some 11), (Op.assign (Operand.tmp 69)), none, ann0⟩] none))))) (.tidy [1, 2, 3, 6, 8, 11, 62] z (z + 4))
def s14_1 (z : Nat) : SC := c14_1 z
theorem e14_1 {C : Pg} {z : Nat} {st : St} {ks : List Fr} {K : Ex → St → Prop} : wpk C (s14_1 z) st ks K ↔ wpk C (c14_1 z) st ks K := Iff.rfl
def s14 (z : Nat) : SFn := ⟨3, 87, [(ResultVar.cell 6 28), (ResultVar.tmp 7)],
 (.seq (.reg [⟨(some 3), (Op.box 28 (Operand.tmp 0)), none, ⟨1, false, false⟩⟩,
  ⟨(some 6), (Op.alloc 28), none, ⟨1, false, false⟩⟩,
  ⟨(some 7), (Op.assign (Operand.const (Value.int IntKind.i64 0))), none, ann0⟩] none)
 (.seq (.post (.block 0 (.seq (.reg [⟨(some 15), (Op.move (Operand.tmp 1)), none, ann0⟩,
  ⟨(some 16), (Op.call { callee := (Callee.value (Operand.func 29)), args := #[(Operand.tmp 15)], argTypes := #[9] }), none, ann0⟩,
  ⟨(some 17), (Op.unOp UnOp.not 4 (Operand.tmp 16)), none, ann0⟩,
  ⟨(some 14), (Op.assign (Operand.tmp 17)), none, ann0⟩] none)
 (.cond (Operand.tmp 14) (.seq (.reg [⟨(some 18), (Op.build 28 #[]), none, ann0⟩,
  ⟨none, (Op.store 28 (Operand.tmp 6) (Operand.tmp 18)), none, ann0⟩,
  ⟨(some 7), (Op.assign (Operand.const (Value.int IntKind.i64 11))), none, ann0⟩] none)
 .ret)
 (.seq (.post (.reg [⟨(some 20), (Op.move (Operand.tmp 2)), none, ann0⟩,
  ⟨(some 21), (Op.binOp BinOp.lss 3 (Operand.tmp 20) (Operand.const (Value.int IntKind.i64 1)) 3), none, ann0⟩,
  ⟨(some 22), (Op.move (Operand.tmp 21)), none, ann0⟩,
  ⟨(some 23), (Op.move (Operand.tmp 2)), (some (22, false)), ann0⟩,
  ⟨(some 24), (Op.binOp BinOp.gtr 3 (Operand.tmp 23) (Operand.const (Value.int IntKind.i64 1099511627776)) 3), (some (22, false)), ann0⟩,
  ⟨(some 25), (Op.pick (Operand.tmp 22) (Operand.const (Value.bool true)) (Operand.tmp 24)), none, ann0⟩,
  ⟨(some 19), (Op.assign (Operand.tmp 25)), none, ann0⟩] none) (.tidy [1, 2, 3, 6, 19] z (z + 2)))
 (.cond (Operand.tmp 19) (.seq (.reg [⟨(some 26), (Op.build 28 #[]), none, ann0⟩,
  ⟨none, (Op.store 28 (Operand.tmp 6) (Operand.tmp 26)), none, ann0⟩,
  ⟨(some 7), (Op.assign (Operand.const (Value.int IntKind.i64 2))), none, ann0⟩] none)
 .ret)
 (.seq (.post (.reg [⟨(some 28), (Op.fieldAddr 28 (Operand.tmp 3) 1), none, ann0⟩,
  ⟨(some 29), (Op.load 3 (Operand.tmp 28)), none, ann0⟩,
  ⟨(some 30), (Op.move (Operand.tmp 2)), none, ann0⟩,
  ⟨(some 31), (Op.binOp BinOp.add 3 (Operand.tmp 29) (Operand.tmp 30) 3), none, ann0⟩,
  ⟨(some 32), (Op.binOp BinOp.gtr 3 (Operand.tmp 31) (Operand.const (Value.int IntKind.i64 1125899906842624)) 3), none, ann0⟩,
  ⟨(some 27), (Op.assign (Operand.tmp 32)), none, ann0⟩] none) (.tidy [1, 2, 3, 6, 27] z (z + 2)))
 (.cond (Operand.tmp 27) (.seq (.reg [⟨(some 33), (Op.build 28 #[]), none, ann0⟩,
  ⟨none, (Op.store 28 (Operand.tmp 6) (Operand.tmp 33)), none, ann0⟩,
  ⟨(some 7), (Op.assign (Operand.const (Value.int IntKind.i64 20))), none, ann0⟩] none)
 .ret)
 .skip))))))) (.tidy [1, 2, 3, 6] z (z + 2)))
 (.seq (.reg [⟨(some 34), (Op.load 28 (Operand.tmp 3)), none, ann0⟩,
  ⟨(some 35), (Op.call { callee := (Callee.value (Operand.func 38)), args := #[(Operand.tmp 34)], argTypes := #[28] }), none, ⟨1, false, false⟩⟩,
  ⟨(some 8), (Op.assign (Operand.tmp 35)), none, ann0⟩] none)
 (.seq (.post (.reg [⟨(some 36), (Op.fieldAddr 28 (Operand.tmp 3) 1), none, ann0⟩,
  ⟨(some 37), (Op.load 3 (Operand.tmp 36)), none, ann0⟩,
  ⟨(some 38), (Op.move (Operand.tmp 2)), none, ann0⟩,
  ⟨(some 39), (Op.binOp BinOp.add 3 (Operand.tmp 37) (Operand.tmp 38) 3), none, ann0⟩,
  ⟨(some 40), (Op.fieldAddr 28 (Operand.tmp 3) 1), none, ann0⟩,
  ⟨none, (Op.store 3 (Operand.tmp 40) (Operand.tmp 39)), none, ann0⟩] none) (.tidy [1, 2, 3, 6, 8] z (z + 3)))
 (.seq (.post (.seq (.post (.reg [⟨(some 42), (Op.move (Operand.tmp 8)), none, ann0⟩,
  ⟨(some 43), (Op.move (Operand.tmp 1)), none, ann0⟩,
  ⟨(some 44), (Op.lookup 69 (Operand.tmp 42) (Operand.tmp 43) true), none, ann0⟩,
  ⟨(some 41), (Op.move (Operand.tmp 44)), none, ann0⟩,
  ⟨(some 45), (Op.extract (Operand.tmp 41) 0), none, ann0⟩,
  ⟨(some 46), (Op.extract (Operand.tmp 41) 1), none, ann0⟩,
  ⟨(some 9), (Op.assign (Operand.tmp 45)), none, ann0⟩,
  ⟨(some 10), (Op.assign (Operand.tmp 46)), none, ann0⟩] none) (.tidy [1, 2, 3, 6, 8, 10] z (z + 3)))
 (.seq (.post (.reg [⟨(some 47), (Op.move (Operand.tmp 10)), none, ann0⟩,
  ⟨(some 48), (Op.move (Operand.tmp 47)), none, ann0⟩,
  ⟨(some 49), (Op.move (Operand.tmp 8)), (some (48, false)), ann0⟩,
  ⟨(some 50), (Op.call { callee := (Callee.builtin Builtin.len), args := #[(Operand.tmp 49)], argTypes := #[69] }), (some (48, false)), ann0⟩,
  ⟨(some 51), (Op.fieldAddr 28 (Operand.tmp 3) 0), (some (48, false)), ann0⟩,
  ⟨(some 52), (Op.load 3 (Operand.tmp 51)), (some (48, false)), ann0⟩,
  ⟨(some 53), (Op.binOp BinOp.lss 3 (Operand.tmp 50) (Operand.tmp 52) 3), (some (48, false)), ann0⟩,
  ⟨(some 54), (Op.pick (Operand.tmp 48) (Operand.const (Value.bool true)) (Operand.tmp 53)), none, ann0⟩] none) (.tidy [1, 2, 3, 6, 8, 54] z (z + 3)))
 (.cond (Operand.tmp 54) (.reg [⟨(some 55), (Op.move (Operand.tmp 8)), none, ann0⟩,
  ⟨(some 56), (Op.move (Operand.tmp 1)), none, ann0⟩,
  ⟨(some 57), (Op.lookup 69 (Operand.tmp 55) (Operand.tmp 56) false), none, ann0⟩,
  ⟨(some 58), (Op.move (Operand.tmp 2)), none, ann0⟩,
  ⟨(some 59), (Op.binOp BinOp.add 3 (Operand.tmp 57) (Operand.tmp 58) 3), none, ann0⟩,
  ⟨none, (Op.mapUpdate 69 (Operand.tmp 55) (Operand.tmp 56) (Operand.tmp 59)), none, ann0⟩] none)
 (.seq (.reg [⟨(some 60), (Op.move (Operand.tmp 2)), none, ann0⟩,
  ⟨(some 11), (Op.assign (Operand.tmp 60)), none, ann0⟩] none)
 (.seq (.post (.seq (.reg [⟨(some 61), (Op.move (Operand.tmp 8)), none, ann0⟩,
  ⟨(some 62), (Op.range 69 (Operand.tmp 61)), none, ⟨1, false, false⟩⟩] none)
 (.post (.block 1 (.pre (.tidy [1, 2, 3, 6, 8, 11, 62] z (z + 4)) (.loop (s14_1 z)))) (.tidy [1, 2, 3, 6, 8, 11] z (z + 4)))) (.tidy [1, 2, 3, 6, 8, 11] z (z + 4)))
 (.seq (.reg [⟨(some 70), (Op.move (Operand.tmp 8)), none, ann0⟩,
  ⟨(some 71), (Op.move (Operand.tmp 11)), none, ann0⟩,
  ⟨(some 72), (Op.call { callee := (Callee.value (Operand.func 39)), args := #[(Operand.tmp 70), (Operand.tmp 71)], argTypes := #[69, 3] }), none, ann0⟩] none)
 (.seq (.post (.reg [⟨(some 73), (Op.fieldAddr 28 (Operand.tmp 3) 2), none, ann0⟩,
  ⟨(some 74), (Op.load 3 (Operand.tmp 73)), none, ann0⟩,
  ⟨(some 75), (Op.move (Operand.tmp 11)), none, ann0⟩,
  ⟨(some 76), (Op.binOp BinOp.add 3 (Operand.tmp 74) (Operand.tmp 75) 3), none, ann0⟩,
  ⟨(some 77), (Op.fieldAddr 28 (Operand.tmp 3) 2), none, ann0⟩,
  ⟨none, (Op.store 3 (Operand.tmp 77) (Operand.tmp 76)), none, ann0⟩] none) (.tidy [1, 2, 3, 6, 8, 11] z (z + 4)))
 (.reg [⟨(some 78), (Op.move (Operand.tmp 8)), none, ann0⟩,
  ⟨(some 79), (Op.move (Operand.tmp 1)), none, ann0⟩,
  ⟨(some 80), (Op.move (Operand.tmp 2)), none, ann0⟩,
  ⟨(some 81), (Op.move (Operand.tmp 11)), none, ann0⟩,
  ⟨(some 82), (Op.binOp BinOp.sub 3 (Operand.tmp 80) (Operand.tmp 81) 3), none, ann0⟩,
  ⟨none, (Op.mapUpdate 69 (Operand.tmp 78) (Operand.tmp 79) (Operand.tmp 82)), none, ann0⟩] none)))))))) (.tidy [3, 6, 8] z (z + 4)))
 (.seq (.reg [⟨(some 83), (Op.move (Operand.tmp 8)), none, ann0⟩,
  ⟨(some 84), (Op.call { callee := (Callee.value (Operand.func 40)), args := #[(Operand.tmp 83)], argTypes := #[69] }), none, ann0⟩,
  ⟨(some 85), (Op.fieldAddr 28 (Operand.tmp 3) 3), none, ann0⟩,
  ⟨none, (Op.store 26 (Operand.tmp 85) (Operand.tmp 84)), none, ann0⟩] none)
 (.seq (.reg [⟨(some 86), (Op.load 28 (Operand.tmp 3)), none, ann0⟩,
  ⟨none, (Op.store 28 (Operand.tmp 6) (Operand.tmp 86)), none, ann0⟩,
  ⟨(some 7), (Op.assign (Operand.const (Value.int IntKind.i64 0))), none, ann0⟩] none)
 .ret)))))))⟩
theorem F14 (z : Nat) : FOk Try.prog 14 (s14 z) := by unfold FOk; kernel_rfl
def c15_1 (z : Nat) : SC := .post (.seq (.reg [⟨(some 48), (Op.binOp BinOp.lss 3 (Operand.tmp 47) (Operand.tmp 46) 3), none, ann0⟩] none)
 (.seq (.cond (Operand.tmp 48) .skip
 (.exit 1))
 (.seq (.post (.block 2 (.seq (.reg [⟨(some 49), (Op.indexAddr 26 (Operand.tmp 45) (Operand.tmp 47)), none, ann0⟩,
  ⟨(some 50), (Op.load 25 (Operand.tmp 49)), none, ann0⟩,
  ⟨(some 9), (Op.alloc 25), none, ⟨1, false, false⟩⟩,
  ⟨none, (Op.store 25 (Operand.tmp 9) (Operand.tmp 50)), none, ann0⟩] none)
 (.reg [⟨(some 51), (Op.move (Operand.tmp 7)), none, ann0⟩,
  ⟨(some 52), (Op.fieldAddr 25 (Operand.tmp 9) 0), none, ann0⟩,
  ⟨(some 53), (Op.load 9 (Operand.tmp 52)), none, ann0⟩,
  ⟨(some 54), (Op.lookup 69 (Operand.tmp 51) (Operand.tmp 53) false), none, ann0⟩,
  ⟨(some 55), (Op.fieldAddr 25 (Operand.tmp 9) 1), none, ann0⟩,
  ⟨(some 56), (Op.load 3 (Operand.tmp 55)), none, ann0⟩,
  ⟨(some 57), (Op.binOp BinOp.add 3 (Operand.tmp 54) (Operand.tmp 56) 3), none, ann0⟩,
  ⟨none, (Op.mapUpdate 69 (Operand.tmp 51) (Operand.tmp 53) (Operand.tmp 57)), none, ann0⟩] none))) (.tidy [4, 6, 7, 45, 46, 47] z (z + 6)))
 (.reg [⟨(some 58), (Op.binOp BinOp.add 3 (Operand.tmp 47) (Operand.const (Value.int IntKind.i64 1)) 3), none, ann0⟩,
  ⟨(some 47), (Op.move (Operand.tmp 58)), none, ann0⟩] none)))) (.tidy [4, 6, 7, 45, 46, 47] z (z + 5))
def s15_1 (z : Nat) : SC := c15_1 z
theorem e15_1 {C : Pg} {z : Nat} {st : St} {ks : List Fr} {K : Ex → St → Prop} : wpk C (s15_1 z) st ks K ↔ wpk C (c15_1 z) st ks K := Iff.rfl
def c15_2 (z : Nat) : SC := .post (.seq (.post (.reg [⟨(some 66), (Op.next (Operand.tmp 65) false), none, ann0⟩,
  ⟨(some 67), (Op.extract (Operand.tmp 66) 0), none, ann0⟩] none) (.tidy [4, 6, 7, 10, 65, 67] z (z + 7)))
 (.seq (.cond (Operand.tmp 67) .skip
 (.exit 3))
 (.block 4 (.seq (.reg [⟨(some 68), (Op.entry (Operand.tmp 65)), none, ann0⟩,
  ⟨(some 69), (Op.extract (Operand.tmp 68) 1), none, ann0⟩,
  ⟨(some 12), (Op.assign (Operand.tmp 69)), none, ann0⟩] none)
 (.reg [⟨(some 70), (Op.move (Operand.tmp 10)), none, ann0⟩,
  ⟨(some 71), (Op.move (Operand.tmp 12)), none, ann0⟩,
  ⟨(some 72), (Op.buildSlice 74 1 #[(0, (Operand.tmp 71))]), none, ⟨1, true, false⟩⟩,
  ⟨(some 73), (Op.call { callee := (Callee.builtin Builtin.append), args := #[(Operand.tmp 70), (Operand.tmp 72)], argTypes := #[74, 74] }), none, ann0⟩,
  ⟨(some 10), (Op.assign (Operand.tmp 73)), none, ann0⟩] none))))) (.tidy [4, 6, 7, 10, 65] z (z + 7))
def s15_2 (z : Nat) : SC := c15_2 z
theorem e15_2 {C : Pg} {z : Nat} {st : St} {ks : List Fr} {K : Ex → St → Prop} : wpk C (s15_2 z) st ks K ↔ wpk C (c15_2 z) st ks K := Iff.rfl
def s15 (z : Nat) : SFn := ⟨2, 93, [(ResultVar.cell 4 28), (ResultVar.tmp 5)],
 (.seq (.reg [⟨(some 2), (Op.box 28 (Operand.tmp 0)), none, ⟨1, false, false⟩⟩,
  ⟨(some 3), (Op.box 28 (Operand.tmp 1)), none, ⟨1, false, false⟩⟩,
  ⟨(some 4), (Op.alloc 28), none, ⟨1, false, false⟩⟩,
  ⟨(some 5), (Op.assign (Operand.const (Value.int IntKind.i64 0))), none, ann0⟩] none)
 (.seq (.post (.block 0 (.seq (.post (.reg [⟨(some 15), (Op.fieldAddr 28 (Operand.tmp 2) 0), none, ann0⟩,
  ⟨(some 16), (Op.load 3 (Operand.tmp 15)), none, ann0⟩,
  ⟨(some 17), (Op.fieldAddr 28 (Operand.tmp 3) 0), none, ann0⟩,
  ⟨(some 18), (Op.load 3 (Operand.tmp 17)), none, ann0⟩,
  ⟨(some 19), (Op.binOp BinOp.neq 3 (Operand.tmp 16) (Operand.tmp 18) 3), none, ann0⟩,
  ⟨(some 14), (Op.assign (Operand.tmp 19)), none, ann0⟩] none) (.tidy [2, 3, 4, 14] z (z + 3)))
 (.cond (Operand.tmp 14) (.seq (.reg [⟨(some 20), (Op.build 28 #[]), none, ann0⟩,
  ⟨none, (Op.store 28 (Operand.tmp 4) (Operand.tmp 20)), none, ann0⟩,
  ⟨(some 5), (Op.assign (Operand.const (Value.int IntKind.i64 3))), none, ann0⟩] none)
 .ret)
 (.seq (.post (.reg [⟨(some 22), (Op.fieldAddr 28 (Operand.tmp 2) 1), none, ann0⟩,
  ⟨(some 23), (Op.load 3 (Operand.tmp 22)), none, ann0⟩,
  ⟨(some 24), (Op.fieldAddr 28 (Operand.tmp 3) 1), none, ann0⟩,
  ⟨(some 25), (Op.load 3 (Operand.tmp 24)), none, ann0⟩,
  ⟨(some 26), (Op.binOp BinOp.add 3 (Operand.tmp 23) (Operand.tmp 25) 3), none, ann0⟩,
  ⟨(some 27), (Op.binOp BinOp.gtr 3 (Operand.tmp 26) (Operand.const (Value.int IntKind.i64 1125899906842624)) 3), none, ann0⟩,
  ⟨(some 21), (Op.assign (Operand.tmp 27)), none, ann0⟩] none) (.tidy [2, 3, 4, 21] z (z + 3)))
 (.cond (Operand.tmp 21) (.seq (.reg [⟨(some 28), (Op.build 28 #[]), none, ann0⟩,
  ⟨none, (Op.store 28 (Operand.tmp 4) (Operand.tmp 28)), none, ann0⟩,
  ⟨(some 5), (Op.assign (Operand.const (Value.int IntKind.i64 20))), none, ann0⟩] none)
 .ret)
 .skip))))) (.tidy [2, 3, 4] z (z + 3)))
 (.seq (.post (.reg [⟨(some 29), (Op.fieldAddr 28 (Operand.tmp 2) 0), none, ann0⟩,
  ⟨(some 30), (Op.load 3 (Operand.tmp 29)), none, ann0⟩,
  ⟨(some 31), (Op.fieldAddr 28 (Operand.tmp 2) 1), none, ann0⟩,
  ⟨(some 32), (Op.load 3 (Operand.tmp 31)), none, ann0⟩,
  ⟨(some 33), (Op.fieldAddr 28 (Operand.tmp 3) 1), none, ann0⟩,
  ⟨(some 34), (Op.load 3 (Operand.tmp 33)), none, ann0⟩,
  ⟨(some 35), (Op.binOp BinOp.add 3 (Operand.tmp 32) (Operand.tmp 34) 3), none, ann0⟩,
  ⟨(some 36), (Op.fieldAddr 28 (Operand.tmp 2) 2), none, ann0⟩,
  ⟨(some 37), (Op.load 3 (Operand.tmp 36)), none, ann0⟩,
  ⟨(some 38), (Op.fieldAddr 28 (Operand.tmp 3) 2), none, ann0⟩,
  ⟨(some 39), (Op.load 3 (Operand.tmp 38)), none, ann0⟩,
  ⟨(some 40), (Op.binOp BinOp.add 3 (Operand.tmp 37) (Operand.tmp 39) 3), none, ann0⟩,
  ⟨(some 41), (Op.build 28 #[(0, (Operand.tmp 30)), (1, (Operand.tmp 35)), (2, (Operand.tmp 40))]), none, ann0⟩,
  ⟨(some 6), (Op.alloc 28), none, ⟨1, false, false⟩⟩,
  ⟨none, (Op.store 28 (Operand.tmp 6) (Operand.tmp 41)), none, ann0⟩] none) (.tidy [2, 3, 4, 6] z (z + 4)))
 (.seq (.reg [⟨(some 42), (Op.load 28 (Operand.tmp 2)), none, ann0⟩,
  ⟨(some 43), (Op.call { callee := (Callee.value (Operand.func 38)), args := #[(Operand.tmp 42)], argTypes := #[28] }), none, ⟨1, false, false⟩⟩,
  ⟨(some 7), (Op.assign (Operand.tmp 43)), none, ann0⟩] none)
 (.seq (.post (.seq (.reg [⟨(some 44), (Op.fieldAddr 28 (Operand.tmp 3) 3), none, ann0⟩,
  ⟨(some 45), (Op.load 26 (Operand.tmp 44)), none, ann0⟩,
  ⟨(some 46), (Op.call { callee := (Callee.builtin Builtin.len), args := #[(Operand.tmp 45)], argTypes := #[26] }), none, ann0⟩,
  ⟨(some 47), (Op.move (Operand.const (Value.int IntKind.i64 0))), none, ann0⟩] none)
 (.post (.block 1 (.pre (.tidy [4, 6, 7, 45, 46, 47] z (z + 5)) (.loop (s15_1 z)))) (.tidy [4, 6, 7] z (z + 5)))) (.tidy [4, 6, 7] z (z + 5)))
 (.seq (.post (.seq (.reg [⟨(some 59), (Op.move (Operand.tmp 7)), none, ann0⟩,
  ⟨(some 60), (Op.call { callee := (Callee.builtin Builtin.len), args := #[(Operand.tmp 59)], argTypes := #[69] }), none, ann0⟩,
  ⟨(some 61), (Op.fieldAddr 28 (Operand.tmp 6) 0), none, ann0⟩,
  ⟨(some 62), (Op.load 3 (Operand.tmp 61)), none, ann0⟩,
  ⟨(some 63), (Op.binOp BinOp.gtr 3 (Operand.tmp 60) (Operand.tmp 62) 3), none, ann0⟩] none)
 (.cond (Operand.tmp 63) (.seq (.post (.reg [⟨(some 10), (Op.assign (Operand.const (Value.slice none 0 0))), none, ann0⟩] none) (.mkv 10 3 1))
 (.seq (.post (.seq (.reg [⟨(some 64), (Op.move (Operand.tmp 7)), none, ann0⟩,
  ⟨(some 65), (Op.range 69 (Operand.tmp 64)), none, ⟨1, false, false⟩⟩] none)
 (.post (.block 3 (.pre (.tidy [4, 6, 7, 10, 65] z (z + 7)) (.loop (s15_2 z)))) (.tidy [4, 6, 7, 10] z (z + 7)))) (.tidy [4, 6, 7, 10] z (z + 7)))
 (.seq (.reg [⟨(some 74), (Op.move (Operand.tmp 10)), none, ann0⟩,
  ⟨(some 75), (Op.call { callee := (Callee.value (Operand.func 41)), args := #[(Operand.tmp 74), (Operand.func 42)], argTypes := #[74, 76] }), none, ann0⟩] none)
 (.seq (.post (.reg [⟨(some 76), (Op.move (Operand.tmp 10)), none, ann0⟩,
  ⟨(some 77), (Op.fieldAddr 28 (Operand.tmp 6) 0), none, ann0⟩,
  ⟨(some 78), (Op.load 3 (Operand.tmp 77)), none, ann0⟩,
  ⟨(some 79), (Op.indexAddr 74 (Operand.tmp 76) (Operand.tmp 78)), none, ann0⟩,
  ⟨(some 80), (Op.load 3 (Operand.tmp 79)), none, ann0⟩,
  ⟨(some 13), (Op.assign (Operand.tmp 80)), none, ann0⟩] none) (.tidy [4, 6, 7, 13] z (z + 7)))
 (.seq (.reg [⟨(some 81), (Op.move (Operand.tmp 7)), none, ann0⟩,
  ⟨(some 82), (Op.move (Operand.tmp 13)), none, ann0⟩,
  ⟨(some 83), (Op.call { callee := (Callee.value (Operand.func 39)), args := #[(Operand.tmp 81), (Operand.tmp 82)], argTypes := #[69, 3] }), none, ann0⟩] none)
 (.reg [⟨(some 84), (Op.fieldAddr 28 (Operand.tmp 6) 2), none, ann0⟩,
  ⟨(some 85), (Op.load 3 (Operand.tmp 84)), none, ann0⟩,
  ⟨(some 86), (Op.move (Operand.tmp 13)), none, ann0⟩,
  ⟨(some 87), (Op.binOp BinOp.add 3 (Operand.tmp 85) (Operand.tmp 86) 3), none, ann0⟩,
  ⟨(some 88), (Op.fieldAddr 28 (Operand.tmp 6) 2), none, ann0⟩,
  ⟨none, (Op.store 3 (Operand.tmp 88) (Operand.tmp 87)), none, ann0⟩] none))))))
 .skip)) (.tidy [4, 6, 7] z (z + 7)))
 (.seq (.reg [⟨(some 89), (Op.move (Operand.tmp 7)), none, ann0⟩,
  ⟨(some 90), (Op.call { callee := (Callee.value (Operand.func 40)), args := #[(Operand.tmp 89)], argTypes := #[69] }), none, ann0⟩,
  ⟨(some 91), (Op.fieldAddr 28 (Operand.tmp 6) 3), none, ann0⟩,
  ⟨none, (Op.store 26 (Operand.tmp 91) (Operand.tmp 90)), none, ann0⟩] none)
 (.seq (.reg [⟨(some 92), (Op.load 28 (Operand.tmp 6)), none, ann0⟩,
  ⟨none, (Op.store 28 (Operand.tmp 4) (Operand.tmp 92)), none, ann0⟩,
  ⟨(some 5), (Op.assign (Operand.const (Value.int IntKind.i64 0))), none, ann0⟩] none)
 .ret))))))))⟩
theorem F15 (z : Nat) : FOk Try.prog 15 (s15 z) := by unfold FOk; kernel_rfl
def s16 (z : Nat) : SFn := ⟨2, 31, [(ResultVar.tmp 4)],
 (.seq (.reg [⟨(some 2), (Op.box 28 (Operand.tmp 0)), none, ⟨1, false, false⟩⟩,
  ⟨(some 3), (Op.box 28 (Operand.tmp 1)), none, ⟨1, false, false⟩⟩,
  ⟨(some 4), (Op.assign (Operand.const (Value.bool false))), none, ann0⟩] none)
 (.seq (.reg [⟨(some 5), (Op.fieldAddr 28 (Operand.tmp 2) 0), none, ann0⟩,
  ⟨(some 6), (Op.load 3 (Operand.tmp 5)), none, ann0⟩,
  ⟨(some 7), (Op.fieldAddr 28 (Operand.tmp 3) 0), none, ann0⟩,
  ⟨(some 8), (Op.load 3 (Operand.tmp 7)), none, ann0⟩,
  ⟨(some 9), (Op.binOp BinOp.eql 3 (Operand.tmp 6) (Operand.tmp 8) 3), none, ann0⟩,
  ⟨(some 10), (Op.move (Operand.tmp 9)), none, ann0⟩,
  ⟨(some 11), (Op.fieldAddr 28 (Operand.tmp 2) 1), (some (10, true)), ann0⟩,
  ⟨(some 12), (Op.load 3 (Operand.tmp 11)), (some (10, true)), ann0⟩,
  ⟨(some 13), (Op.fieldAddr 28 (Operand.tmp 3) 1), (some (10, true)), ann0⟩,
  ⟨(some 14), (Op.load 3 (Operand.tmp 13)), (some (10, true)), ann0⟩,
  ⟨(some 15), (Op.binOp BinOp.eql 3 (Operand.tmp 12) (Operand.tmp 14) 3), (some (10, true)), ann0⟩,
  ⟨(some 16), (Op.pick (Operand.tmp 10) (Operand.tmp 15) (Operand.const (Value.bool false))), none, ann0⟩,
  ⟨(some 17), (Op.move (Operand.tmp 16)), none, ann0⟩,
  ⟨(some 18), (Op.fieldAddr 28 (Operand.tmp 2) 2), (some (17, true)), ann0⟩,
  ⟨(some 19), (Op.load 3 (Operand.tmp 18)), (some (17, true)), ann0⟩,
  ⟨(some 20), (Op.fieldAddr 28 (Operand.tmp 3) 2), (some (17, true)), ann0⟩,
  ⟨(some 21), (Op.load 3 (Operand.tmp 20)), (some (17, true)), ann0⟩,
  ⟨(some 22), (Op.binOp BinOp.eql 3 (Operand.tmp 19) (Operand.tmp 21) 3), (some (17, true)), ann0⟩,
  ⟨(some 23), (Op.pick (Operand.tmp 17) (Operand.tmp 22) (Operand.const (Value.bool false))), none, ann0⟩,
  ⟨(some 24), (Op.move (Operand.tmp 23)), none, ann0⟩,
  ⟨(some 25), (Op.fieldAddr 28 (Operand.tmp 2) 3), (some (24, true)), ann0⟩,
  ⟨(some 26), (Op.load 26 (Operand.tmp 25)), (some (24, true)), ann0⟩,
  ⟨(some 27), (Op.fieldAddr 28 (Operand.tmp 3) 3), (some (24, true)), ann0⟩,
  ⟨(some 28), (Op.load 26 (Operand.tmp 27)), (some (24, true)), ann0⟩,
  ⟨(some 29), (Op.call { callee := (Callee.value (Operand.func 32)), args := #[(Operand.tmp 26), (Operand.tmp 28)], argTypes := #[26, 26] }), (some (24, true)), ann0⟩,
  ⟨(some 30), (Op.pick (Operand.tmp 24) (Operand.tmp 29) (Operand.const (Value.bool false))), none, ann0⟩,
  ⟨(some 4), (Op.assign (Operand.tmp 30)), none, ann0⟩] none)
 .ret))⟩
theorem F16 (z : Nat) : FOk Try.prog 16 (s16 z) := by unfold FOk; kernel_rfl
def c17_1 (z : Nat) : SC := .post (.seq (.post (.seq (.reg [⟨(some 35), (Op.move (Operand.tmp 8)), none, ann0⟩,
  ⟨(some 36), (Op.fieldAddr 28 (Operand.tmp 3) 3), none, ann0⟩,
  ⟨(some 37), (Op.load 26 (Operand.tmp 36)), none, ann0⟩,
  ⟨(some 38), (Op.call { callee := (Callee.builtin Builtin.len), args := #[(Operand.tmp 37)], argTypes := #[26] }), none, ann0⟩,
  ⟨(some 39), (Op.binOp BinOp.lss 3 (Operand.tmp 35) (Operand.tmp 38) 3), none, ann0⟩] none)
 (.cond (Operand.tmp 39) .skip
 (.exit 0))) (.tidy [1, 2, 3, 6, 7, 8] z (z + 2)))
 (.seq (.post (.block 1 (.reg [⟨(some 42), (Op.move (Operand.tmp 7)), none, ann0⟩,
  ⟨(some 43), (Op.fieldAddr 28 (Operand.tmp 3) 3), none, ann0⟩,
  ⟨(some 44), (Op.load 26 (Operand.tmp 43)), none, ann0⟩,
  ⟨(some 45), (Op.move (Operand.tmp 8)), none, ann0⟩,
  ⟨(some 46), (Op.indexAddr 26 (Operand.tmp 44) (Operand.tmp 45)), none, ann0⟩,
  ⟨(some 47), (Op.fieldAddr 25 (Operand.tmp 46) 1), none, ann0⟩,
  ⟨(some 48), (Op.load 3 (Operand.tmp 47)), none, ann0⟩,
  ⟨(some 49), (Op.call { callee := (Callee.builtin Builtin.min), args := #[(Operand.tmp 42), (Operand.tmp 48)], argTypes := #[3, 3] }), none, ann0⟩,
  ⟨(some 7), (Op.assign (Operand.tmp 49)), none, ann0⟩] none)) (.tidy [1, 2, 3, 6, 7, 8] z (z + 2)))
 (.reg [⟨(some 40), (Op.move (Operand.tmp 8)), none, ann0⟩,
  ⟨(some 41), (Op.binOp BinOp.add 3 (Operand.tmp 40) (Operand.const (Value.int IntKind.i64 1)) 3), none, ann0⟩,
  ⟨(some 8), (Op.assign (Operand.tmp 41)), none, ann0⟩] none))) (.tidy [1, 2, 3, 6, 7, 8] z (z + 2))
def s17_1 (z : Nat) : SC := c17_1 z
theorem e17_1 {C : Pg} {z : Nat} {st : St} {ks : List Fr} {K : Ex → St → Prop} : wpk C (s17_1 z) st ks K ↔ wpk C (c17_1 z) st ks K := Iff.rfl
def s17 (z : Nat) : SFn := ⟨3, 72, [(ResultVar.cell 6 28)],
 (.seq (.reg [⟨(some 3), (Op.box 28 (Operand.tmp 0)), none, ⟨1, false, false⟩⟩,
  ⟨(some 6), (Op.alloc 28), none, ⟨1, false, false⟩⟩] none)
 (.seq (.reg [⟨(some 9), (Op.fieldAddr 28 (Operand.tmp 3) 1), none, ann0⟩,
  ⟨(some 10), (Op.load 3 (Operand.tmp 9)), none, ann0⟩,
  ⟨(some 11), (Op.move (Operand.tmp 2)), none, ann0⟩,
  ⟨(some 12), (Op.binOp BinOp.add 3 (Operand.tmp 10) (Operand.tmp 11) 3), none, ann0⟩,
  ⟨(some 13), (Op.fieldAddr 28 (Operand.tmp 3) 1), none, ann0⟩,
  ⟨none, (Op.store 3 (Operand.tmp 13) (Operand.tmp 12)), none, ann0⟩] none)
 (.seq (.post (.seq (.post (.reg [⟨(some 14), (Op.fieldAddr 28 (Operand.tmp 3) 3), none, ann0⟩,
  ⟨(some 15), (Op.load 26 (Operand.tmp 14)), none, ann0⟩,
  ⟨(some 16), (Op.move (Operand.tmp 1)), none, ann0⟩,
  ⟨(some 17), (Op.call { callee := (Callee.value (Operand.func 25)), args := #[(Operand.tmp 15), (Operand.tmp 16)], argTypes := #[26, 9] }), none, ann0⟩,
  ⟨(some 18), (Op.binOp BinOp.gtr 3 (Operand.tmp 17) (Operand.const (Value.int IntKind.i64 0)) 3), none, ann0⟩,
  ⟨(some 19), (Op.move (Operand.tmp 18)), none, ann0⟩,
  ⟨(some 20), (Op.fieldAddr 28 (Operand.tmp 3) 3), (some (19, false)), ann0⟩,
  ⟨(some 21), (Op.load 26 (Operand.tmp 20)), (some (19, false)), ann0⟩,
  ⟨(some 22), (Op.call { callee := (Callee.builtin Builtin.len), args := #[(Operand.tmp 21)], argTypes := #[26] }), (some (19, false)), ann0⟩,
  ⟨(some 23), (Op.fieldAddr 28 (Operand.tmp 3) 0), (some (19, false)), ann0⟩,
  ⟨(some 24), (Op.load 3 (Operand.tmp 23)), (some (19, false)), ann0⟩,
  ⟨(some 25), (Op.binOp BinOp.lss 3 (Operand.tmp 22) (Operand.tmp 24) 3), (some (19, false)), ann0⟩,
  ⟨(some 26), (Op.pick (Operand.tmp 19) (Operand.const (Value.bool true)) (Operand.tmp 25)), none, ann0⟩] none) (.tidy [1, 2, 3, 6, 26] z (z + 2)))
 (.cond (Operand.tmp 26) (.seq (.post (.reg [⟨(some 27), (Op.fieldAddr 28 (Operand.tmp 3) 3), none, ann0⟩,
  ⟨(some 28), (Op.load 26 (Operand.tmp 27)), none, ann0⟩,
  ⟨(some 29), (Op.move (Operand.tmp 1)), none, ann0⟩,
  ⟨(some 30), (Op.move (Operand.tmp 2)), none, ann0⟩,
  ⟨(some 31), (Op.call { callee := (Callee.value (Operand.func 44)), args := #[(Operand.tmp 28), (Operand.tmp 29), (Operand.tmp 30)], argTypes := #[26, 9, 3] }), none, ann0⟩,
  ⟨(some 32), (Op.fieldAddr 28 (Operand.tmp 3) 3), none, ann0⟩,
  ⟨none, (Op.store 26 (Operand.tmp 32) (Operand.tmp 31)), none, ann0⟩] none) (.tidy [3, 6] z (z + 2)))
 (.seq (.reg [⟨(some 33), (Op.load 28 (Operand.tmp 3)), none, ann0⟩,
  ⟨none, (Op.store 28 (Operand.tmp 6) (Operand.tmp 33)), none, ann0⟩] none)
 .ret))
 .skip)) (.tidy [1, 2, 3, 6] z (z + 2)))
 (.seq (.reg [⟨(some 34), (Op.move (Operand.tmp 2)), none, ann0⟩,
  ⟨(some 7), (Op.assign (Operand.tmp 34)), none, ann0⟩] none)
 (.seq (.post (.seq (.reg [⟨(some 8), (Op.assign (Operand.const (Value.int IntKind.i64 0))), none, ann0⟩] none)
 (.post (.block 0 (.pre (.tidy [1, 2, 3, 6, 7, 8] z (z + 2)) (.loop (s17_1 z)))) (.tidy [1, 2, 3, 6, 7] z (z + 2)))) (.tidy [1, 2, 3, 6, 7] z (z + 2)))
 (.seq (.post (.reg [⟨(some 50), (Op.fieldAddr 28 (Operand.tmp 3) 3), none, ann0⟩,
  ⟨(some 51), (Op.load 26 (Operand.tmp 50)), none, ann0⟩,
  ⟨(some 52), (Op.move (Operand.tmp 7)), none, ann0⟩,
  ⟨(some 53), (Op.call { callee := (Callee.value (Operand.func 45)), args := #[(Operand.tmp 51), (Operand.tmp 52)], argTypes := #[26, 3] }), none, ann0⟩,
  ⟨(some 54), (Op.fieldAddr 28 (Operand.tmp 3) 2), none, ann0⟩,
  ⟨(some 55), (Op.load 3 (Operand.tmp 54)), none, ann0⟩,
  ⟨(some 56), (Op.move (Operand.tmp 7)), none, ann0⟩,
  ⟨(some 57), (Op.binOp BinOp.add 3 (Operand.tmp 55) (Operand.tmp 56) 3), none, ann0⟩,
  ⟨(some 58), (Op.fieldAddr 28 (Operand.tmp 3) 3), none, ann0⟩,
  ⟨none, (Op.store 26 (Operand.tmp 58) (Operand.tmp 53)), none, ann0⟩,
  ⟨(some 59), (Op.fieldAddr 28 (Operand.tmp 3) 2), none, ann0⟩,
  ⟨none, (Op.store 3 (Operand.tmp 59) (Operand.tmp 57)), none, ann0⟩] (some [0, 1, 0, 7, 0, 16, 0, 112, 63, 319, 1023, 2047])) (.tidy [1, 2, 3, 6, 7] z (z + 2)))
 (.seq (.post (.seq (.reg [⟨(some 60), (Op.move (Operand.tmp 2)), none, ann0⟩,
  ⟨(some 61), (Op.move (Operand.tmp 7)), none, ann0⟩,
  ⟨(some 62), (Op.binOp BinOp.gtr 3 (Operand.tmp 60) (Operand.tmp 61) 3), none, ann0⟩] none)
 (.cond (Operand.tmp 62) (.reg [⟨(some 63), (Op.fieldAddr 28 (Operand.tmp 3) 3), none, ann0⟩,
  ⟨(some 64), (Op.load 26 (Operand.tmp 63)), none, ann0⟩,
  ⟨(some 65), (Op.move (Operand.tmp 1)), none, ann0⟩,
  ⟨(some 66), (Op.move (Operand.tmp 2)), none, ann0⟩,
  ⟨(some 67), (Op.move (Operand.tmp 7)), none, ann0⟩,
  ⟨(some 68), (Op.binOp BinOp.sub 3 (Operand.tmp 66) (Operand.tmp 67) 3), none, ann0⟩,
  ⟨(some 69), (Op.call { callee := (Callee.value (Operand.func 44)), args := #[(Operand.tmp 64), (Operand.tmp 65), (Operand.tmp 68)], argTypes := #[26, 9, 3] }), none, ann0⟩,
  ⟨(some 70), (Op.fieldAddr 28 (Operand.tmp 3) 3), none, ann0⟩,
  ⟨none, (Op.store 26 (Operand.tmp 70) (Operand.tmp 69)), none, ann0⟩] none)
 .skip)) (.tidy [3, 6] z (z + 2)))
 (.seq (.reg [⟨(some 71), (Op.load 28 (Operand.tmp 3)), none, ann0⟩,
  ⟨none, (Op.store 28 (Operand.tmp 6) (Operand.tmp 71)), none, ann0⟩] none)
 .ret))))))))⟩
theorem F17 (z : Nat) : FOk Try.prog 17 (s17 z) := by unfold FOk; kernel_rfl
def s18 (z : Nat) : SFn := ⟨1, 13, [(ResultVar.cell 2 28), (ResultVar.tmp 3)],
 (.seq (.reg [⟨(some 2), (Op.alloc 28), none, ⟨1, false, false⟩⟩,
  ⟨(some 3), (Op.assign (Operand.const (Value.int IntKind.i64 0))), none, ann0⟩] none)
 (.seq (.post (.seq (.post (.reg [⟨(some 4), (Op.move (Operand.tmp 0)), none, ann0⟩,
  ⟨(some 5), (Op.binOp BinOp.lss 3 (Operand.tmp 4) (Operand.const (Value.int IntKind.i64 1)) 3), none, ann0⟩,
  ⟨(some 6), (Op.move (Operand.tmp 5)), none, ann0⟩,
  ⟨(some 7), (Op.move (Operand.tmp 0)), (some (6, false)), ann0⟩,
  ⟨(some 8), (Op.binOp BinOp.gtr 3 (Operand.tmp 7) (Operand.const (Value.int IntKind.i64 256)) 3), (some (6, false)), ann0⟩,
  ⟨(some 9), (Op.pick (Operand.tmp 6) (Operand.const (Value.bool true)) (Operand.tmp 8)), none, ann0⟩] none) (.tidy [0, 2, 9] z (z + 1)))
 (.cond (Operand.tmp 9) (.seq (.reg [⟨(some 10), (Op.build 28 #[]), none, ann0⟩,
  ⟨none, (Op.store 28 (Operand.tmp 2) (Operand.tmp 10)), none, ann0⟩,
  ⟨(some 3), (Op.assign (Operand.const (Value.int IntKind.i64 2))), none, ann0⟩] none)
 .ret)
 .skip)) (.tidy [0, 2] z (z + 1)))
 (.seq (.reg [⟨(some 11), (Op.move (Operand.tmp 0)), none, ann0⟩,
  ⟨(some 12), (Op.build 28 #[(0, (Operand.tmp 11))]), none, ann0⟩,
  ⟨none, (Op.store 28 (Operand.tmp 2) (Operand.tmp 12)), none, ann0⟩,
  ⟨(some 3), (Op.assign (Operand.const (Value.int IntKind.i64 0))), none, ann0⟩] none)
 .ret)))⟩
theorem F18 (z : Nat) : FOk Try.prog 18 (s18 z) := by unfold FOk; kernel_rfl
def s19 (z : Nat) : SFn := ⟨1, 7, [(ResultVar.tmp 2)],
 (.seq (.reg [⟨(some 2), (Op.assign (Operand.const (Value.int IntKind.i64 0))), none, ann0⟩] none)
 (.seq (.reg [⟨(some 3), (Op.move (Operand.tmp 0)), none, ann0⟩,
  ⟨(some 4), (Op.binOp BinOp.rem 5 (Operand.tmp 3) (Operand.const (Value.int IntKind.u8 8)) 5), none, ann0⟩,
  ⟨(some 5), (Op.convert 5 3 (Operand.tmp 4)), none, ann0⟩,
  ⟨(some 6), (Op.binOp BinOp.add 3 (Operand.const (Value.int IntKind.i64 1)) (Operand.tmp 5) 3), none, ann0⟩,
  ⟨(some 2), (Op.assign (Operand.tmp 6)), none, ann0⟩] none)
 .ret))⟩
theorem F19 (z : Nat) : FOk Try.prog 19 (s19 z) := by unfold FOk; kernel_rfl
def s20 (z : Nat) : SFn := ⟨1, 9, [(ResultVar.tmp 2)],
 (.seq (.reg [⟨(some 1), (Op.box 41 (Operand.tmp 0)), none, ⟨1, false, false⟩⟩,
  ⟨(some 2), (Op.assign (Operand.const (Value.string ⟨#[]⟩))), none, ann0⟩] none)
 (.seq (.reg [⟨(some 3), (Op.fieldAddr 41 (Operand.tmp 1) 0), none, ann0⟩,
  ⟨(some 4), (Op.load 5 (Operand.tmp 3)), none, ann0⟩,
  ⟨(some 5), (Op.binOp BinOp.rem 5 (Operand.tmp 4) (Operand.const (Value.int IntKind.u8 26)) 5), none, ann0⟩,
  ⟨(some 6), (Op.binOp BinOp.add 5 (Operand.const (Value.int IntKind.u8 97)) (Operand.tmp 5) 5), none, ann0⟩,
  ⟨(some 7), (Op.buildSlice 78 2 #[(0, (Operand.const (Value.int IntKind.u8 107))), (1, (Operand.tmp 6))]), none, ⟨1, true, false⟩⟩,
  ⟨(some 8), (Op.convert 78 9 (Operand.tmp 7)), none, ann0⟩,
  ⟨(some 2), (Op.assign (Operand.tmp 8)), none, ann0⟩] none)
 .ret))⟩
theorem F20 (z : Nat) : FOk Try.prog 20 (s20 z) := by unfold FOk; kernel_rfl
def s21 (z : Nat) : SFn := ⟨1, 8, [(ResultVar.tmp 2)],
 (.seq (.reg [⟨(some 1), (Op.box 41 (Operand.tmp 0)), none, ⟨1, false, false⟩⟩,
  ⟨(some 2), (Op.assign (Operand.const (Value.int IntKind.i64 0))), none, ann0⟩] none)
 (.seq (.reg [⟨(some 3), (Op.fieldAddr 41 (Operand.tmp 1) 1), none, ann0⟩,
  ⟨(some 4), (Op.load 5 (Operand.tmp 3)), none, ann0⟩,
  ⟨(some 5), (Op.binOp BinOp.rem 5 (Operand.tmp 4) (Operand.const (Value.int IntKind.u8 32)) 5), none, ann0⟩,
  ⟨(some 6), (Op.convert 5 3 (Operand.tmp 5)), none, ann0⟩,
  ⟨(some 7), (Op.binOp BinOp.add 3 (Operand.const (Value.int IntKind.i64 1)) (Operand.tmp 6) 3), none, ann0⟩,
  ⟨(some 2), (Op.assign (Operand.tmp 7)), none, ann0⟩] none)
 .ret))⟩
theorem F21 (z : Nat) : FOk Try.prog 21 (s21 z) := by unfold FOk; kernel_rfl
def c22_1 (z : Nat) : SC := .post (.seq (.post (.seq (.post (.reg [⟨(some 7), (Op.move (Operand.tmp 6)), none, ann0⟩,
  ⟨(some 8), (Op.move (Operand.tmp 0)), none, ann0⟩,
  ⟨(some 9), (Op.call { callee := (Callee.builtin Builtin.len), args := #[(Operand.tmp 8)], argTypes := #[36] }), none, ann0⟩,
  ⟨(some 10), (Op.binOp BinOp.lss 3 (Operand.tmp 7) (Operand.tmp 9) 3), none, ann0⟩,
  ⟨(some 11), (Op.move (Operand.tmp 10)), none, ann0⟩,
  ⟨(some 12), (Op.move (Operand.tmp 6)), (some (11, true)), ann0⟩,
  ⟨(some 13), (Op.binOp BinOp.lss 3 (Operand.tmp 12) (Operand.const (Value.int IntKind.i64 60)) 3), (some (11, true)), ann0⟩,
  ⟨(some 14), (Op.pick (Operand.tmp 11) (Operand.tmp 13) (Operand.const (Value.bool false))), none, ann0⟩] none) (.tidy [0, 1, 5, 6, 14] z (z + 0)))
 (.cond (Operand.tmp 14) .skip
 (.exit 0))) (.tidy [0, 1, 5, 6] z (z + 0)))
 (.seq (.post (.block 1 (.seq (.post (.reg [⟨(some 17), (Op.move (Operand.tmp 0)), none, ann0⟩,
  ⟨(some 18), (Op.move (Operand.tmp 6)), none, ann0⟩,
  ⟨(some 19), (Op.indexAddr 36 (Operand.tmp 17) (Operand.tmp 18)), none, ann0⟩,
  ⟨(some 20), (Op.load 41 (Operand.tmp 19)), none, ann0⟩,
  ⟨(some 21), (Op.call { callee := (Callee.value (Operand.func 20)), args := #[(Operand.tmp 20)], argTypes := #[41] }), none, ann0⟩,
  ⟨(some 22), (Op.move (Operand.tmp 1)), none, ann0⟩,
  ⟨(some 23), (Op.binOp BinOp.eql 9 (Operand.tmp 21) (Operand.tmp 22) 9), none, ann0⟩] none) (.tidy [0, 1, 5, 6, 23] z (z + 0)))
 (.cond (Operand.tmp 23) (.reg [⟨(some 24), (Op.move (Operand.tmp 5)), none, ann0⟩,
  ⟨(some 25), (Op.move (Operand.tmp 0)), none, ann0⟩,
  ⟨(some 26), (Op.move (Operand.tmp 6)), none, ann0⟩,
  ⟨(some 27), (Op.indexAddr 36 (Operand.tmp 25) (Operand.tmp 26)), none, ann0⟩,
  ⟨(some 28), (Op.load 41 (Operand.tmp 27)), none, ann0⟩,
  ⟨(some 29), (Op.call { callee := (Callee.value (Operand.func 21)), args := #[(Operand.tmp 28)], argTypes := #[41] }), none, ann0⟩,
  ⟨(some 30), (Op.binOp BinOp.add 3 (Operand.tmp 24) (Operand.tmp 29) 3), none, ann0⟩,
  ⟨(some 5), (Op.assign (Operand.tmp 30)), none, ann0⟩] none)
 .skip))) (.tidy [0, 1, 5, 6] z (z + 0)))
 (.reg [⟨(some 15), (Op.move (Operand.tmp 6)), none, ann0⟩,
  ⟨(some 16), (Op.binOp BinOp.add 3 (Operand.tmp 15) (Operand.const (Value.int IntKind.i64 1)) 3), none, ann0⟩,
  ⟨(some 6), (Op.assign (Operand.tmp 16)), none, ann0⟩] none))) (.tidy [0, 1, 5, 6] z (z + 0))
def s22_1 (z : Nat) : SC := c22_1 z
theorem e22_1 {C : Pg} {z : Nat} {st : St} {ks : List Fr} {K : Ex → St → Prop} : wpk C (s22_1 z) st ks K ↔ wpk C (c22_1 z) st ks K := Iff.rfl
def s22 (z : Nat) : SFn := ⟨2, 32, [(ResultVar.tmp 4)],
 (.seq (.reg [⟨(some 4), (Op.assign (Operand.const (Value.int IntKind.i64 0))), none, ann0⟩] none)
 (.seq (.reg [⟨(some 5), (Op.assign (Operand.const (Value.int IntKind.i64 0))), none, ann0⟩] none)
 (.seq (.post (.seq (.reg [⟨(some 6), (Op.assign (Operand.const (Value.int IntKind.i64 0))), none, ann0⟩] none)
 (.post (.block 0 (.pre (.tidy [0, 1, 5, 6] z (z + 0)) (.loop (s22_1 z)))) (.tidy [5] z (z + 0)))) (.tidy [5] z (z + 0)))
 (.seq (.reg [⟨(some 31), (Op.move (Operand.tmp 5)), none, ann0⟩,
  ⟨(some 4), (Op.assign (Operand.tmp 31)), none, ann0⟩] none)
 .ret))))⟩
theorem F22 (z : Nat) : FOk Try.prog 22 (s22 z) := by unfold FOk; kernel_rfl
def s23 (z : Nat) : SFn := ⟨2, 15, [(ResultVar.tmp 4), (ResultVar.tmp 5)],
 (.seq (.reg [⟨(some 2), (Op.box 28 (Operand.tmp 0)), none, ⟨1, false, false⟩⟩,
  ⟨(some 4), (Op.assign (Operand.const (Value.int IntKind.i64 0))), none, ann0⟩,
  ⟨(some 5), (Op.assign (Operand.const (Value.int IntKind.i64 0))), none, ann0⟩] none)
 (.seq (.post (.reg [⟨(some 6), (Op.load 28 (Operand.tmp 2)), none, ann0⟩,
  ⟨(some 7), (Op.call { callee := (Callee.value (Operand.func 38)), args := #[(Operand.tmp 6)], argTypes := #[28] }), none, ⟨1, false, false⟩⟩,
  ⟨(some 8), (Op.move (Operand.tmp 1)), none, ann0⟩,
  ⟨(some 9), (Op.lookup 69 (Operand.tmp 7) (Operand.tmp 8) false), none, ann0⟩,
  ⟨(some 4), (Op.assign (Operand.tmp 9)), none, ann0⟩] none) (.tidy [2, 4] z (z + 2)))
 (.seq (.reg [⟨(some 10), (Op.move (Operand.tmp 4)), none, ann0⟩,
  ⟨(some 11), (Op.move (Operand.tmp 4)), none, ann0⟩,
  ⟨(some 12), (Op.fieldAddr 28 (Operand.tmp 2) 2), none, ann0⟩,
  ⟨(some 13), (Op.load 3 (Operand.tmp 12)), none, ann0⟩,
  ⟨(some 14), (Op.binOp BinOp.add 3 (Operand.tmp 11) (Operand.tmp 13) 3), none, ann0⟩,
  ⟨(some 4), (Op.assign (Operand.tmp 10)), none, ann0⟩,
  ⟨(some 5), (Op.assign (Operand.tmp 14)), none, ann0⟩] (some [0, 0, 0, 4, 14, 3, 63]))
 .ret)))⟩
theorem F23 (z : Nat) : FOk Try.prog 23 (s23 z) := by unfold FOk; kernel_rfl
def c24_1 (z : Nat) : SC := .post (.seq (.post (.seq (.post (.reg [⟨(some 9), (Op.move (Operand.tmp 6)), none, ann0⟩,
  ⟨(some 10), (Op.move (Operand.tmp 1)), none, ann0⟩,
  ⟨(some 11), (Op.call { callee := (Callee.builtin Builtin.len), args := #[(Operand.tmp 10)], argTypes := #[36] }), none, ann0⟩,
  ⟨(some 12), (Op.binOp BinOp.lss 3 (Operand.tmp 9) (Operand.tmp 11) 3), none, ann0⟩,
  ⟨(some 13), (Op.move (Operand.tmp 12)), none, ann0⟩,
  ⟨(some 14), (Op.move (Operand.tmp 6)), (some (13, true)), ann0⟩,
  ⟨(some 15), (Op.binOp BinOp.lss 3 (Operand.tmp 14) (Operand.const (Value.int IntKind.i64 60)) 3), (some (13, true)), ann0⟩,
  ⟨(some 16), (Op.pick (Operand.tmp 13) (Operand.tmp 15) (Operand.const (Value.bool false))), none, ann0⟩] none) (.tidy [1, 4, 5, 6, 16] z (z + 2)))
 (.cond (Operand.tmp 16) .skip
 (.exit 0))) (.tidy [1, 4, 5, 6] z (z + 2)))
 (.seq (.post (.block 1 (.reg [⟨(some 19), (Op.load 28 (Operand.tmp 5)), none, ann0⟩,
  ⟨(some 20), (Op.move (Operand.tmp 1)), none, ann0⟩,
  ⟨(some 21), (Op.move (Operand.tmp 6)), none, ann0⟩,
  ⟨(some 22), (Op.indexAddr 36 (Operand.tmp 20) (Operand.tmp 21)), none, ann0⟩,
  ⟨(some 23), (Op.load 41 (Operand.tmp 22)), none, ann0⟩,
  ⟨(some 24), (Op.call { callee := (Callee.value (Operand.func 20)), args := #[(Operand.tmp 23)], argTypes := #[41] }), none, ann0⟩,
  ⟨(some 25), (Op.move (Operand.tmp 1)), none, ann0⟩,
  ⟨(some 26), (Op.move (Operand.tmp 6)), none, ann0⟩,
  ⟨(some 27), (Op.indexAddr 36 (Operand.tmp 25) (Operand.tmp 26)), none, ann0⟩,
  ⟨(some 28), (Op.load 41 (Operand.tmp 27)), none, ann0⟩,
  ⟨(some 29), (Op.call { callee := (Callee.value (Operand.func 21)), args := #[(Operand.tmp 28)], argTypes := #[41] }), none, ann0⟩,
  ⟨(some 30), (Op.call { callee := (Callee.value (Operand.func 17)), args := #[(Operand.tmp 19), (Operand.tmp 24), (Operand.tmp 29)], argTypes := #[28, 9, 3] }), none, ann0⟩,
  ⟨none, (Op.store 28 (Operand.tmp 5) (Operand.tmp 30)), none, ann0⟩] (some [0, 0, 0, 6, 14, 30, 0, 0, 192, 448, 1022, 2047, 4095]))) (.tidy [1, 4, 5, 6] z (z + 2)))
 (.reg [⟨(some 17), (Op.move (Operand.tmp 6)), none, ann0⟩,
  ⟨(some 18), (Op.binOp BinOp.add 3 (Operand.tmp 17) (Operand.const (Value.int IntKind.i64 1)) 3), none, ann0⟩,
  ⟨(some 6), (Op.assign (Operand.tmp 18)), none, ann0⟩] none))) (.tidy [1, 4, 5, 6] z (z + 2))
def s24_1 (z : Nat) : SC := c24_1 z
theorem e24_1 {C : Pg} {z : Nat} {st : St} {ks : List Fr} {K : Ex → St → Prop} : wpk C (s24_1 z) st ks K ↔ wpk C (c24_1 z) st ks K := Iff.rfl
def s24 (z : Nat) : SFn := ⟨2, 32, [(ResultVar.cell 4 28)],
 (.seq (.reg [⟨(some 4), (Op.alloc 28), none, ⟨1, false, false⟩⟩] none)
 (.seq (.reg [⟨(some 7), (Op.move (Operand.tmp 0)), none, ann0⟩,
  ⟨(some 8), (Op.build 28 #[(0, (Operand.tmp 7))]), none, ann0⟩,
  ⟨(some 5), (Op.alloc 28), none, ⟨1, false, false⟩⟩,
  ⟨none, (Op.store 28 (Operand.tmp 5) (Operand.tmp 8)), none, ann0⟩] none)
 (.seq (.post (.seq (.reg [⟨(some 6), (Op.assign (Operand.const (Value.int IntKind.i64 0))), none, ann0⟩] none)
 (.post (.block 0 (.pre (.tidy [1, 4, 5, 6] z (z + 2)) (.loop (s24_1 z)))) (.tidy [4, 5] z (z + 2)))) (.tidy [4, 5] z (z + 2)))
 (.seq (.reg [⟨(some 31), (Op.load 28 (Operand.tmp 5)), none, ann0⟩,
  ⟨none, (Op.store 28 (Operand.tmp 4) (Operand.tmp 31)), none, ann0⟩] none)
 .ret))))⟩
theorem F24 (z : Nat) : FOk Try.prog 24 (s24 z) := by unfold FOk; kernel_rfl
def c25_1 (z : Nat) : SC := .post (.seq (.post (.seq (.reg [⟨(some 6), (Op.move (Operand.tmp 5)), none, ann0⟩,
  ⟨(some 7), (Op.move (Operand.tmp 0)), none, ann0⟩,
  ⟨(some 8), (Op.call { callee := (Callee.builtin Builtin.len), args := #[(Operand.tmp 7)], argTypes := #[26] }), none, ann0⟩,
  ⟨(some 9), (Op.binOp BinOp.lss 3 (Operand.tmp 6) (Operand.tmp 8) 3), none, ann0⟩] none)
 (.cond (Operand.tmp 9) .skip
 (.exit 0))) (.tidy [0, 1, 5] z (z + 0)))
 (.seq (.post (.block 1 (.seq (.post (.reg [⟨(some 12), (Op.move (Operand.tmp 0)), none, ann0⟩,
  ⟨(some 13), (Op.move (Operand.tmp 5)), none, ann0⟩,
  ⟨(some 14), (Op.indexAddr 26 (Operand.tmp 12) (Operand.tmp 13)), none, ann0⟩,
  ⟨(some 15), (Op.fieldAddr 25 (Operand.tmp 14) 0), none, ann0⟩,
  ⟨(some 16), (Op.load 9 (Operand.tmp 15)), none, ann0⟩,
  ⟨(some 17), (Op.move (Operand.tmp 1)), none, ann0⟩,
  ⟨(some 18), (Op.binOp BinOp.eql 9 (Operand.tmp 16) (Operand.tmp 17) 9), none, ann0⟩] none) (.tidy [0, 1, 5, 18] z (z + 0)))
 (.cond (Operand.tmp 18) (.seq (.reg [⟨(some 19), (Op.move (Operand.tmp 0)), none, ann0⟩,
  ⟨(some 20), (Op.move (Operand.tmp 5)), none, ann0⟩,
  ⟨(some 21), (Op.indexAddr 26 (Operand.tmp 19) (Operand.tmp 20)), none, ann0⟩,
  ⟨(some 22), (Op.fieldAddr 25 (Operand.tmp 21) 1), none, ann0⟩,
  ⟨(some 23), (Op.load 3 (Operand.tmp 22)), none, ann0⟩,
  ⟨(some 4), (Op.assign (Operand.tmp 23)), none, ann0⟩] none)
 .ret)
 .skip))) (.tidy [0, 1, 5] z (z + 0)))
 (.reg [⟨(some 10), (Op.move (Operand.tmp 5)), none, ann0⟩,
  ⟨(some 11), (Op.binOp BinOp.add 3 (Operand.tmp 10) (Operand.const (Value.int IntKind.i64 1)) 3), none, ann0⟩,
  ⟨(some 5), (Op.assign (Operand.tmp 11)), none, ann0⟩] none))) (.tidy [0, 1, 5] z (z + 0))
def s25_1 (z : Nat) : SC := c25_1 z
theorem e25_1 {C : Pg} {z : Nat} {st : St} {ks : List Fr} {K : Ex → St → Prop} : wpk C (s25_1 z) st ks K ↔ wpk C (c25_1 z) st ks K := Iff.rfl
def s25 (z : Nat) : SFn := ⟨2, 24, [(ResultVar.tmp 4)],
 (.seq (.reg [⟨(some 4), (Op.assign (Operand.const (Value.int IntKind.i64 0))), none, ann0⟩] none)
 (.seq (.post (.seq (.reg [⟨(some 5), (Op.assign (Operand.const (Value.int IntKind.i64 0))), none, ann0⟩] none)
 (.post (.block 0 (.pre (.tidy [0, 1, 5] z (z + 0)) (.loop (s25_1 z)))) (.tidy [] z (z + 0)))) (.tidy [] z (z + 0)))
 (.seq (.reg [⟨(some 4), (Op.assign (Operand.const (Value.int IntKind.i64 0))), none, ann0⟩] none)
 .ret)))⟩
theorem F25 (z : Nat) : FOk Try.prog 25 (s25 z) := by unfold FOk; kernel_rfl
def s26 (z : Nat) : SFn := ⟨2, 31, [(ResultVar.tmp 4)],
 (.seq (.reg [⟨(some 2), (Op.box 28 (Operand.tmp 0)), none, ⟨1, false, false⟩⟩,
  ⟨(some 3), (Op.box 28 (Operand.tmp 1)), none, ⟨1, false, false⟩⟩,
  ⟨(some 4), (Op.assign (Operand.const (Value.bool false))), none, ann0⟩] none)
 (.seq (.reg [⟨(some 5), (Op.fieldAddr 28 (Operand.tmp 2) 0), none, ann0⟩,
  ⟨(some 6), (Op.load 3 (Operand.tmp 5)), none, ann0⟩,
  ⟨(some 7), (Op.fieldAddr 28 (Operand.tmp 3) 0), none, ann0⟩,
  ⟨(some 8), (Op.load 3 (Operand.tmp 7)), none, ann0⟩,
  ⟨(some 9), (Op.binOp BinOp.eql 3 (Operand.tmp 6) (Operand.tmp 8) 3), none, ann0⟩,
  ⟨(some 10), (Op.move (Operand.tmp 9)), none, ann0⟩,
  ⟨(some 11), (Op.fieldAddr 28 (Operand.tmp 2) 1), (some (10, true)), ann0⟩,
  ⟨(some 12), (Op.load 3 (Operand.tmp 11)), (some (10, true)), ann0⟩,
  ⟨(some 13), (Op.fieldAddr 28 (Operand.tmp 3) 1), (some (10, true)), ann0⟩,
  ⟨(some 14), (Op.load 3 (Operand.tmp 13)), (some (10, true)), ann0⟩,
  ⟨(some 15), (Op.binOp BinOp.eql 3 (Operand.tmp 12) (Operand.tmp 14) 3), (some (10, true)), ann0⟩,
  ⟨(some 16), (Op.pick (Operand.tmp 10) (Operand.tmp 15) (Operand.const (Value.bool false))), none, ann0⟩,
  ⟨(some 17), (Op.move (Operand.tmp 16)), none, ann0⟩,
  ⟨(some 18), (Op.fieldAddr 28 (Operand.tmp 2) 2), (some (17, true)), ann0⟩,
  ⟨(some 19), (Op.load 3 (Operand.tmp 18)), (some (17, true)), ann0⟩,
  ⟨(some 20), (Op.fieldAddr 28 (Operand.tmp 3) 2), (some (17, true)), ann0⟩,
  ⟨(some 21), (Op.load 3 (Operand.tmp 20)), (some (17, true)), ann0⟩,
  ⟨(some 22), (Op.binOp BinOp.eql 3 (Operand.tmp 19) (Operand.tmp 21) 3), (some (17, true)), ann0⟩,
  ⟨(some 23), (Op.pick (Operand.tmp 17) (Operand.tmp 22) (Operand.const (Value.bool false))), none, ann0⟩,
  ⟨(some 24), (Op.move (Operand.tmp 23)), none, ann0⟩,
  ⟨(some 25), (Op.fieldAddr 28 (Operand.tmp 2) 3), (some (24, true)), ann0⟩,
  ⟨(some 26), (Op.load 26 (Operand.tmp 25)), (some (24, true)), ann0⟩,
  ⟨(some 27), (Op.fieldAddr 28 (Operand.tmp 3) 3), (some (24, true)), ann0⟩,
  ⟨(some 28), (Op.load 26 (Operand.tmp 27)), (some (24, true)), ann0⟩,
  ⟨(some 29), (Op.call { callee := (Callee.value (Operand.func 46)), args := #[(Operand.tmp 26), (Operand.tmp 28)], argTypes := #[26, 26] }), (some (24, true)), ann0⟩,
  ⟨(some 30), (Op.pick (Operand.tmp 24) (Operand.tmp 29) (Operand.const (Value.bool false))), none, ann0⟩,
  ⟨(some 4), (Op.assign (Operand.tmp 30)), none, ann0⟩] none)
 .ret))⟩
theorem F26 (z : Nat) : FOk Try.prog 26 (s26 z) := by unfold FOk; kernel_rfl
def c27_1 (z : Nat) : SC := .post (.seq (.reg [⟨(some 41), (Op.binOp BinOp.lss 3 (Operand.tmp 40) (Operand.tmp 39) 3), none, ann0⟩] none)
 (.seq (.cond (Operand.tmp 41) .skip
 (.exit 1))
 (.seq (.post (.block 2 (.seq (.reg [⟨(some 42), (Op.move (Operand.tmp 40)), none, ann0⟩,
  ⟨(some 43), (Op.indexAddr 26 (Operand.tmp 38) (Operand.tmp 40)), none, ann0⟩,
  ⟨(some 44), (Op.load 25 (Operand.tmp 43)), none, ann0⟩,
  ⟨(some 5), (Op.alloc 25), none, ⟨1, false, false⟩⟩,
  ⟨(some 4), (Op.assign (Operand.tmp 42)), none, ann0⟩,
  ⟨none, (Op.store 25 (Operand.tmp 5) (Operand.tmp 44)), none, ann0⟩] none)
 (.seq (.post (.block 3 (.seq (.post (.reg [⟨(some 46), (Op.fieldAddr 25 (Operand.tmp 5) 0), none, ann0⟩,
  ⟨(some 47), (Op.load 9 (Operand.tmp 46)), none, ann0⟩,
  ⟨(some 48), (Op.call { callee := (Callee.value (Operand.func 29)), args := #[(Operand.tmp 47)], argTypes := #[9] }), none, ann0⟩,
  ⟨(some 49), (Op.unOp UnOp.not 4 (Operand.tmp 48)), none, ann0⟩,
  ⟨(some 45), (Op.assign (Operand.tmp 49)), none, ann0⟩] none) (.tidy [1, 3, 4, 5, 38, 39, 40, 45] z (z + 2)))
 (.cond (Operand.tmp 45) (.seq (.reg [⟨(some 2), (Op.assign (Operand.const (Value.int IntKind.i64 11))), none, ann0⟩] none)
 .ret)
 (.seq (.post (.reg [⟨(some 51), (Op.move (Operand.tmp 4)), none, ann0⟩,
  ⟨(some 52), (Op.binOp BinOp.gtr 3 (Operand.tmp 51) (Operand.const (Value.int IntKind.i64 0)) 3), none, ann0⟩,
  ⟨(some 53), (Op.move (Operand.tmp 52)), none, ann0⟩,
  ⟨(some 54), (Op.fieldAddr 25 (Operand.tmp 5) 0), (some (53, true)), ann0⟩,
  ⟨(some 55), (Op.load 9 (Operand.tmp 54)), (some (53, true)), ann0⟩,
  ⟨(some 56), (Op.fieldAddr 28 (Operand.tmp 1) 3), (some (53, true)), ann0⟩,
  ⟨(some 57), (Op.load 26 (Operand.tmp 56)), (some (53, true)), ann0⟩,
  ⟨(some 58), (Op.move (Operand.tmp 4)), (some (53, true)), ann0⟩,
  ⟨(some 59), (Op.binOp BinOp.sub 3 (Operand.tmp 58) (Operand.const (Value.int IntKind.i64 1)) 3), (some (53, true)), ann0⟩,
  ⟨(some 60), (Op.indexAddr 26 (Operand.tmp 57) (Operand.tmp 59)), (some (53, true)), ann0⟩,
  ⟨(some 61), (Op.fieldAddr 25 (Operand.tmp 60) 0), (some (53, true)), ann0⟩,
  ⟨(some 62), (Op.load 9 (Operand.tmp 61)), (some (53, true)), ann0⟩,
  ⟨(some 63), (Op.binOp BinOp.leq 9 (Operand.tmp 55) (Operand.tmp 62) 9), (some (53, true)), ann0⟩,
  ⟨(some 64), (Op.pick (Operand.tmp 53) (Operand.tmp 63) (Operand.const (Value.bool false))), none, ann0⟩,
  ⟨(some 50), (Op.assign (Operand.tmp 64)), none, ann0⟩] (some [0, 1, 3, 7, 15, 7, 39, 7, 135, 487, 999, 2023, 4095, 8191, 16383])) (.tidy [1, 3, 5, 38, 39, 40, 50] z (z + 2)))
 (.cond (Operand.tmp 50) (.seq (.reg [⟨(some 2), (Op.assign (Operand.const (Value.int IntKind.i64 8))), none, ann0⟩] none)
 .ret)
 (.seq (.post (.reg [⟨(some 66), (Op.fieldAddr 25 (Operand.tmp 5) 1), none, ann0⟩,
  ⟨(some 67), (Op.load 3 (Operand.tmp 66)), none, ann0⟩,
  ⟨(some 68), (Op.binOp BinOp.lss 3 (Operand.tmp 67) (Operand.const (Value.int IntKind.i64 1)) 3), none, ann0⟩,
  ⟨(some 69), (Op.move (Operand.tmp 68)), none, ann0⟩,
  ⟨(some 70), (Op.fieldAddr 25 (Operand.tmp 5) 1), (some (69, false)), ann0⟩,
  ⟨(some 71), (Op.load 3 (Operand.tmp 70)), (some (69, false)), ann0⟩,
  ⟨(some 72), (Op.fieldAddr 28 (Operand.tmp 1) 1), (some (69, false)), ann0⟩,
  ⟨(some 73), (Op.load 3 (Operand.tmp 72)), (some (69, false)), ann0⟩,
  ⟨(some 74), (Op.binOp BinOp.gtr 3 (Operand.tmp 71) (Operand.tmp 73) 3), (some (69, false)), ann0⟩,
  ⟨(some 75), (Op.pick (Operand.tmp 69) (Operand.const (Value.bool true)) (Operand.tmp 74)), none, ann0⟩,
  ⟨(some 65), (Op.assign (Operand.tmp 75)), none, ann0⟩] none) (.tidy [1, 3, 5, 38, 39, 40, 65] z (z + 2)))
 (.cond (Operand.tmp 65) (.seq (.reg [⟨(some 2), (Op.assign (Operand.const (Value.int IntKind.i64 2))), none, ann0⟩] none)
 .ret)
 .skip))))))) (.tidy [1, 3, 5, 38, 39, 40] z (z + 2)))
 (.reg [⟨(some 76), (Op.move (Operand.tmp 3)), none, ann0⟩,
  ⟨(some 77), (Op.fieldAddr 25 (Operand.tmp 5) 1), none, ann0⟩,
  ⟨(some 78), (Op.load 3 (Operand.tmp 77)), none, ann0⟩,
  ⟨(some 79), (Op.binOp BinOp.add 3 (Operand.tmp 76) (Operand.tmp 78) 3), none, ann0⟩,
  ⟨(some 3), (Op.assign (Operand.tmp 79)), none, ann0⟩] none)))) (.tidy [1, 3, 38, 39, 40] z (z + 2)))
 (.reg [⟨(some 80), (Op.binOp BinOp.add 3 (Operand.tmp 40) (Operand.const (Value.int IntKind.i64 1)) 3), none, ann0⟩,
  ⟨(some 40), (Op.move (Operand.tmp 80)), none, ann0⟩] none)))) (.tidy [1, 3, 38, 39, 40] z (z + 1))
def s27_1 (z : Nat) : SC := c27_1 z
theorem e27_1 {C : Pg} {z : Nat} {st : St} {ks : List Fr} {K : Ex → St → Prop} : wpk C (s27_1 z) st ks K ↔ wpk C (c27_1 z) st ks K := Iff.rfl
def s27 (z : Nat) : SFn := ⟨1, 99, [(ResultVar.tmp 2)],
 (.seq (.reg [⟨(some 1), (Op.box 28 (Operand.tmp 0)), none, ⟨1, false, false⟩⟩,
  ⟨(some 2), (Op.assign (Operand.const (Value.int IntKind.i64 0))), none, ann0⟩] none)
 (.seq (.post (.block 0 (.seq (.post (.reg [⟨(some 7), (Op.fieldAddr 28 (Operand.tmp 1) 0), none, ann0⟩,
  ⟨(some 8), (Op.load 3 (Operand.tmp 7)), none, ann0⟩,
  ⟨(some 9), (Op.binOp BinOp.lss 3 (Operand.tmp 8) (Operand.const (Value.int IntKind.i64 1)) 3), none, ann0⟩,
  ⟨(some 10), (Op.move (Operand.tmp 9)), none, ann0⟩,
  ⟨(some 11), (Op.fieldAddr 28 (Operand.tmp 1) 0), (some (10, false)), ann0⟩,
  ⟨(some 12), (Op.load 3 (Operand.tmp 11)), (some (10, false)), ann0⟩,
  ⟨(some 13), (Op.binOp BinOp.gtr 3 (Operand.tmp 12) (Operand.const (Value.int IntKind.i64 256)) 3), (some (10, false)), ann0⟩,
  ⟨(some 14), (Op.pick (Operand.tmp 10) (Operand.const (Value.bool true)) (Operand.tmp 13)), none, ann0⟩,
  ⟨(some 15), (Op.move (Operand.tmp 14)), none, ann0⟩,
  ⟨(some 16), (Op.fieldAddr 28 (Operand.tmp 1) 1), (some (15, false)), ann0⟩,
  ⟨(some 17), (Op.load 3 (Operand.tmp 16)), (some (15, false)), ann0⟩,
  ⟨(some 18), (Op.binOp BinOp.lss 3 (Operand.tmp 17) (Operand.const (Value.int IntKind.i64 0)) 3), (some (15, false)), ann0⟩,
  ⟨(some 19), (Op.pick (Operand.tmp 15) (Operand.const (Value.bool true)) (Operand.tmp 18)), none, ann0⟩,
  ⟨(some 20), (Op.move (Operand.tmp 19)), none, ann0⟩,
  ⟨(some 21), (Op.fieldAddr 28 (Operand.tmp 1) 1), (some (20, false)), ann0⟩,
  ⟨(some 22), (Op.load 3 (Operand.tmp 21)), (some (20, false)), ann0⟩,
  ⟨(some 23), (Op.binOp BinOp.gtr 3 (Operand.tmp 22) (Operand.const (Value.int IntKind.i64 1125899906842624)) 3), (some (20, false)), ann0⟩,
  ⟨(some 24), (Op.pick (Operand.tmp 20) (Operand.const (Value.bool true)) (Operand.tmp 23)), none, ann0⟩,
  ⟨(some 25), (Op.move (Operand.tmp 24)), none, ann0⟩,
  ⟨(some 26), (Op.fieldAddr 28 (Operand.tmp 1) 2), (some (25, false)), ann0⟩,
  ⟨(some 27), (Op.load 3 (Operand.tmp 26)), (some (25, false)), ann0⟩,
  ⟨(some 28), (Op.binOp BinOp.lss 3 (Operand.tmp 27) (Operand.const (Value.int IntKind.i64 0)) 3), (some (25, false)), ann0⟩,
  ⟨(some 29), (Op.pick (Operand.tmp 25) (Operand.const (Value.bool true)) (Operand.tmp 28)), none, ann0⟩,
  ⟨(some 6), (Op.assign (Operand.tmp 29)), none, ann0⟩] none) (.tidy [1, 6] z (z + 1)))
 (.cond (Operand.tmp 6) (.seq (.reg [⟨(some 2), (Op.assign (Operand.const (Value.int IntKind.i64 2))), none, ann0⟩] none)
 .ret)
 (.seq (.post (.reg [⟨(some 31), (Op.fieldAddr 28 (Operand.tmp 1) 3), none, ann0⟩,
  ⟨(some 32), (Op.load 26 (Operand.tmp 31)), none, ann0⟩,
  ⟨(some 33), (Op.call { callee := (Callee.builtin Builtin.len), args := #[(Operand.tmp 32)], argTypes := #[26] }), none, ann0⟩,
  ⟨(some 34), (Op.fieldAddr 28 (Operand.tmp 1) 0), none, ann0⟩,
  ⟨(some 35), (Op.load 3 (Operand.tmp 34)), none, ann0⟩,
  ⟨(some 36), (Op.binOp BinOp.gtr 3 (Operand.tmp 33) (Operand.tmp 35) 3), none, ann0⟩,
  ⟨(some 30), (Op.assign (Operand.tmp 36)), none, ann0⟩] none) (.tidy [1, 30] z (z + 1)))
 (.cond (Operand.tmp 30) (.seq (.reg [⟨(some 2), (Op.assign (Operand.const (Value.int IntKind.i64 6))), none, ann0⟩] none)
 .ret)
 .skip))))) (.tidy [1] z (z + 1)))
 (.seq (.reg [⟨(some 3), (Op.assign (Operand.const (Value.int IntKind.i64 0))), none, ann0⟩] none)
 (.seq (.post (.seq (.reg [⟨(some 37), (Op.fieldAddr 28 (Operand.tmp 1) 3), none, ann0⟩,
  ⟨(some 38), (Op.load 26 (Operand.tmp 37)), none, ann0⟩,
  ⟨(some 39), (Op.call { callee := (Callee.builtin Builtin.len), args := #[(Operand.tmp 38)], argTypes := #[26] }), none, ann0⟩,
  ⟨(some 40), (Op.move (Operand.const (Value.int IntKind.i64 0))), none, ann0⟩] none)
 (.post (.block 1 (.pre (.tidy [1, 3, 38, 39, 40] z (z + 1)) (.loop (s27_1 z)))) (.tidy [1, 3] z (z + 1)))) (.tidy [1, 3] z (z + 1)))
 (.seq (.post (.seq (.post (.reg [⟨(some 81), (Op.fieldAddr 28 (Operand.tmp 1) 2), none, ann0⟩,
  ⟨(some 82), (Op.load 3 (Operand.tmp 81)), none, ann0⟩,
  ⟨(some 83), (Op.fieldAddr 28 (Operand.tmp 1) 1), none, ann0⟩,
  ⟨(some 84), (Op.load 3 (Operand.tmp 83)), none, ann0⟩,
  ⟨(some 85), (Op.binOp BinOp.gtr 3 (Operand.tmp 82) (Operand.tmp 84) 3), none, ann0⟩,
  ⟨(some 86), (Op.move (Operand.tmp 85)), none, ann0⟩,
  ⟨(some 87), (Op.move (Operand.tmp 3)), (some (86, false)), ann0⟩,
  ⟨(some 88), (Op.fieldAddr 28 (Operand.tmp 1) 2), (some (86, false)), ann0⟩,
  ⟨(some 89), (Op.load 3 (Operand.tmp 88)), (some (86, false)), ann0⟩,
  ⟨(some 90), (Op.fieldAddr 28 (Operand.tmp 1) 0), (some (86, false)), ann0⟩,
  ⟨(some 91), (Op.load 3 (Operand.tmp 90)), (some (86, false)), ann0⟩,
  ⟨(some 92), (Op.binOp BinOp.add 3 (Operand.tmp 91) (Operand.const (Value.int IntKind.i64 1)) 3), (some (86, false)), ann0⟩,
  ⟨(some 93), (Op.binOp BinOp.mul 3 (Operand.tmp 89) (Operand.tmp 92) 3), (some (86, false)), ann0⟩,
  ⟨(some 94), (Op.binOp BinOp.add 3 (Operand.tmp 87) (Operand.tmp 93) 3), (some (86, false)), ann0⟩,
  ⟨(some 95), (Op.fieldAddr 28 (Operand.tmp 1) 1), (some (86, false)), ann0⟩,
  ⟨(some 96), (Op.load 3 (Operand.tmp 95)), (some (86, false)), ann0⟩,
  ⟨(some 97), (Op.binOp BinOp.gtr 3 (Operand.tmp 94) (Operand.tmp 96) 3), (some (86, false)), ann0⟩,
  ⟨(some 98), (Op.pick (Operand.tmp 86) (Operand.const (Value.bool true)) (Operand.tmp 97)), none, ann0⟩] none) (.tidy [98] z (z + 1)))
 (.cond (Operand.tmp 98) (.seq (.reg [⟨(some 2), (Op.assign (Operand.const (Value.int IntKind.i64 17))), none, ann0⟩] none)
 .ret)
 .skip)) (.tidy [] z (z + 1)))
 (.seq (.reg [⟨(some 2), (Op.assign (Operand.const (Value.int IntKind.i64 0))), none, ann0⟩] none)
 .ret))))))⟩
theorem F27 (z : Nat) : FOk Try.prog 27 (s27 z) := by unfold FOk; kernel_rfl
def s29 (z : Nat) : SFn := ⟨1, 14, [(ResultVar.tmp 2)],
 (.seq (.reg [⟨(some 2), (Op.assign (Operand.const (Value.bool false))), none, ann0⟩] none)
 (.seq (.reg [⟨(some 3), (Op.move (Operand.tmp 0)), none, ann0⟩,
  ⟨(some 4), (Op.binOp BinOp.neq 9 (Operand.tmp 3) (Operand.const (Value.string ⟨#[]⟩)) 9), none, ann0⟩,
  ⟨(some 5), (Op.move (Operand.tmp 4)), none, ann0⟩,
  ⟨(some 6), (Op.move (Operand.tmp 0)), (some (5, true)), ann0⟩,
  ⟨(some 7), (Op.call { callee := (Callee.builtin Builtin.len), args := #[(Operand.tmp 6)], argTypes := #[9] }), (some (5, true)), ann0⟩,
  ⟨(some 8), (Op.binOp BinOp.leq 3 (Operand.tmp 7) (Operand.const (Value.int IntKind.i64 64)) 3), (some (5, true)), ann0⟩,
  ⟨(some 9), (Op.pick (Operand.tmp 5) (Operand.tmp 8) (Operand.const (Value.bool false))), none, ann0⟩,
  ⟨(some 10), (Op.move (Operand.tmp 9)), none, ann0⟩,
  ⟨(some 11), (Op.move (Operand.tmp 0)), (some (10, true)), ann0⟩,
  ⟨(some 12), (Op.call { callee := (Callee.value (Operand.func 47)), args := #[(Operand.tmp 11), (Operand.const (Value.int IntKind.u8 33)), (Operand.const (Value.int IntKind.u8 126))], argTypes := #[9, 5, 5] }), (some (10, true)), ann0⟩,
  ⟨(some 13), (Op.pick (Operand.tmp 10) (Operand.tmp 12) (Operand.const (Value.bool false))), none, ann0⟩,
  ⟨(some 2), (Op.assign (Operand.tmp 13)), none, ann0⟩] none)
 .ret))⟩
theorem F29 (z : Nat) : FOk Try.prog 29 (s29 z) := by unfold FOk; kernel_rfl
def c32_1 (z : Nat) : SC := .post (.seq (.post (.seq (.reg [⟨(some 11), (Op.move (Operand.tmp 5)), none, ann0⟩,
  ⟨(some 12), (Op.move (Operand.tmp 0)), none, ann0⟩,
  ⟨(some 13), (Op.call { callee := (Callee.builtin Builtin.len), args := #[(Operand.tmp 12)], argTypes := #[26] }), none, ann0⟩,
  ⟨(some 14), (Op.binOp BinOp.lss 3 (Operand.tmp 11) (Operand.tmp 13) 3), none, ann0⟩] none)
 (.cond (Operand.tmp 14) .skip
 (.exit 0))) (.tidy [0, 1, 5] z (z + 0)))
 (.seq (.post (.block 1 (.seq (.post (.reg [⟨(some 17), (Op.move (Operand.tmp 0)), none, ann0⟩,
  ⟨(some 18), (Op.move (Operand.tmp 5)), none, ann0⟩,
  ⟨(some 19), (Op.indexAddr 26 (Operand.tmp 17) (Operand.tmp 18)), none, ann0⟩,
  ⟨(some 20), (Op.load 25 (Operand.tmp 19)), none, ann0⟩,
  ⟨(some 21), (Op.move (Operand.tmp 1)), none, ann0⟩,
  ⟨(some 22), (Op.move (Operand.tmp 5)), none, ann0⟩,
  ⟨(some 23), (Op.indexAddr 26 (Operand.tmp 21) (Operand.tmp 22)), none, ann0⟩,
  ⟨(some 24), (Op.load 25 (Operand.tmp 23)), none, ann0⟩,
  ⟨(some 25), (Op.binOp BinOp.neq 25 (Operand.tmp 20) (Operand.tmp 24) 25), none, ann0⟩] (some [0, 0, 3, 7, 0, 0, 48, 112, 255])) (.tidy [0, 1, 5, 25] z (z + 0)))
 (.cond (Operand.tmp 25) (.seq (.reg [⟨(some 4), (Op.assign (Operand.const (Value.bool false))), none, ann0⟩] none)
 .ret)
 .skip))) (.tidy [0, 1, 5] z (z + 0)))
 (.reg [⟨(some 15), (Op.move (Operand.tmp 5)), none, ann0⟩,
  ⟨(some 16), (Op.binOp BinOp.add 3 (Operand.tmp 15) (Operand.const (Value.int IntKind.i64 1)) 3), none, ann0⟩,
  ⟨(some 5), (Op.assign (Operand.tmp 16)), none, ann0⟩] none))) (.tidy [0, 1, 5] z (z + 0))
def s32_1 (z : Nat) : SC := c32_1 z
theorem e32_1 {C : Pg} {z : Nat} {st : St} {ks : List Fr} {K : Ex → St → Prop} : wpk C (s32_1 z) st ks K ↔ wpk C (c32_1 z) st ks K := Iff.rfl
def s32 (z : Nat) : SFn := ⟨2, 26, [(ResultVar.tmp 4)],
 (.seq (.reg [⟨(some 4), (Op.assign (Operand.const (Value.bool false))), none, ann0⟩] none)
 (.seq (.post (.seq (.reg [⟨(some 6), (Op.move (Operand.tmp 0)), none, ann0⟩,
  ⟨(some 7), (Op.call { callee := (Callee.builtin Builtin.len), args := #[(Operand.tmp 6)], argTypes := #[26] }), none, ann0⟩,
  ⟨(some 8), (Op.move (Operand.tmp 1)), none, ann0⟩,
  ⟨(some 9), (Op.call { callee := (Callee.builtin Builtin.len), args := #[(Operand.tmp 8)], argTypes := #[26] }), none, ann0⟩,
  ⟨(some 10), (Op.binOp BinOp.neq 3 (Operand.tmp 7) (Operand.tmp 9) 3), none, ann0⟩] none)
 (.cond (Operand.tmp 10) (.seq (.reg [⟨(some 4), (Op.assign (Operand.const (Value.bool false))), none, ann0⟩] none)
 .ret)
 .skip)) (.tidy [0, 1] z (z + 0)))
 (.seq (.post (.seq (.reg [⟨(some 5), (Op.assign (Operand.const (Value.int IntKind.i64 0))), none, ann0⟩] none)
 (.post (.block 0 (.pre (.tidy [0, 1, 5] z (z + 0)) (.loop (s32_1 z)))) (.tidy [] z (z + 0)))) (.tidy [] z (z + 0)))
 (.seq (.reg [⟨(some 4), (Op.assign (Operand.const (Value.bool true))), none, ann0⟩] none)
 .ret))))⟩
theorem F32 (z : Nat) : FOk Try.prog 32 (s32 z) := by unfold FOk; kernel_rfl
def c35_2 (z : Nat) : SC := .post (.seq (.post (.seq (.post (.reg [⟨(some 12), (Op.move (Operand.tmp 5)), none, ann0⟩,
  ⟨(some 13), (Op.move (Operand.tmp 3)), none, ann0⟩,
  ⟨(some 14), (Op.call { callee := (Callee.builtin Builtin.len), args := #[(Operand.tmp 13)], argTypes := #[26] }), none, ann0⟩,
  ⟨(some 15), (Op.binOp BinOp.lss 3 (Operand.tmp 12) (Operand.tmp 14) 3), none, ann0⟩,
  ⟨(some 16), (Op.move (Operand.tmp 15)), none, ann0⟩,
  ⟨(some 17), (Op.move (Operand.tmp 3)), (some (16, true)), ann0⟩,
  ⟨(some 18), (Op.move (Operand.tmp 5)), (some (16, true)), ann0⟩,
  ⟨(some 19), (Op.indexAddr 26 (Operand.tmp 17) (Operand.tmp 18)), (some (16, true)), ann0⟩,
  ⟨(some 20), (Op.fieldAddr 25 (Operand.tmp 19) 1), (some (16, true)), ann0⟩,
  ⟨(some 21), (Op.load 3 (Operand.tmp 20)), (some (16, true)), ann0⟩,
  ⟨(some 22), (Op.move (Operand.tmp 0)), (some (16, true)), ann0⟩,
  ⟨(some 23), (Op.move (Operand.tmp 4)), (some (16, true)), ann0⟩,
  ⟨(some 24), (Op.indexAddr 26 (Operand.tmp 22) (Operand.tmp 23)), (some (16, true)), ann0⟩,
  ⟨(some 25), (Op.fieldAddr 25 (Operand.tmp 24) 1), (some (16, true)), ann0⟩,
  ⟨(some 26), (Op.load 3 (Operand.tmp 25)), (some (16, true)), ann0⟩,
  ⟨(some 27), (Op.binOp BinOp.gtr 3 (Operand.tmp 21) (Operand.tmp 26) 3), (some (16, true)), ann0⟩,
  ⟨(some 28), (Op.move (Operand.tmp 27)), (some (16, true)), ann0⟩,
  ⟨(some 29), (Op.move (Operand.tmp 3)), (some (28, false)), ann0⟩,
  ⟨(some 30), (Op.move (Operand.tmp 5)), (some (28, false)), ann0⟩,
  ⟨(some 31), (Op.indexAddr 26 (Operand.tmp 29) (Operand.tmp 30)), (some (28, false)), ann0⟩,
  ⟨(some 32), (Op.fieldAddr 25 (Operand.tmp 31) 1), (some (28, false)), ann0⟩,
  ⟨(some 33), (Op.load 3 (Operand.tmp 32)), (some (28, false)), ann0⟩,
  ⟨(some 34), (Op.move (Operand.tmp 0)), (some (28, false)), ann0⟩,
  ⟨(some 35), (Op.move (Operand.tmp 4)), (some (28, false)), ann0⟩,
  ⟨(some 36), (Op.indexAddr 26 (Operand.tmp 34) (Operand.tmp 35)), (some (28, false)), ann0⟩,
  ⟨(some 37), (Op.fieldAddr 25 (Operand.tmp 36) 1), (some (28, false)), ann0⟩,
  ⟨(some 38), (Op.load 3 (Operand.tmp 37)), (some (28, false)), ann0⟩,
  ⟨(some 39), (Op.binOp BinOp.eql 3 (Operand.tmp 33) (Operand.tmp 38) 3), (some (28, false)), ann0⟩,
  ⟨(some 40), (Op.move (Operand.tmp 39)), (some (28, false)), ann0⟩,
  ⟨(some 41), (Op.move (Operand.tmp 3)), (some (40, true)), ann0⟩,
  ⟨(some 42), (Op.move (Operand.tmp 5)), (some (40, true)), ann0⟩,
  ⟨(some 43), (Op.indexAddr 26 (Operand.tmp 41) (Operand.tmp 42)), (some (40, true)), ann0⟩,
  ⟨(some 44), (Op.fieldAddr 25 (Operand.tmp 43) 0), (some (40, true)), ann0⟩,
  ⟨(some 45), (Op.load 9 (Operand.tmp 44)), (some (40, true)), ann0⟩,
  ⟨(some 46), (Op.move (Operand.tmp 0)), (some (40, true)), ann0⟩,
  ⟨(some 47), (Op.move (Operand.tmp 4)), (some (40, true)), ann0⟩,
  ⟨(some 48), (Op.indexAddr 26 (Operand.tmp 46) (Operand.tmp 47)), (some (40, true)), ann0⟩,
  ⟨(some 49), (Op.fieldAddr 25 (Operand.tmp 48) 0), (some (40, true)), ann0⟩,
  ⟨(some 50), (Op.load 9 (Operand.tmp 49)), (some (40, true)), ann0⟩,
  ⟨(some 51), (Op.binOp BinOp.lss 9 (Operand.tmp 45) (Operand.tmp 50) 9), (some (40, true)), ann0⟩,
  ⟨(some 52), (Op.pick (Operand.tmp 40) (Operand.tmp 51) (Operand.const (Value.bool false))), (some (28, false)), ann0⟩,
  ⟨(some 53), (Op.pick (Operand.tmp 28) (Operand.const (Value.bool true)) (Operand.tmp 52)), (some (16, true)), ann0⟩,
  ⟨(some 54), (Op.pick (Operand.tmp 16) (Operand.tmp 53) (Operand.const (Value.bool false))), none, ann0⟩] (some [0, 0, 2, 7, 15, 31, 31, 127, 255, 511, 31, 31, 3103, 7199, 15391, 32767, 65535, 131071, 131071, 524287, 1048575, 2097151, 131071, 131071, 12713983, 29491199, 63045631, 134217727, 268435455, 536870911, 536870911, 2147483647, 4294967295, 8589934591, 536870911, 536870911, 52076478463, 120795955199, 258234908671, 549755813887, 1099511627775, 2199023255551, 4398046511103])) (.tidy [0, 3, 4, 5, 54] z (z + 0)))
 (.cond (Operand.tmp 54) .skip
 (.exit 2))) (.tidy [0, 3, 4, 5] z (z + 0)))
 (.block 3 (.reg [⟨(some 55), (Op.move (Operand.tmp 5)), none, ann0⟩,
  ⟨(some 56), (Op.binOp BinOp.add 3 (Operand.tmp 55) (Operand.const (Value.int IntKind.i64 1)) 3), none, ann0⟩,
  ⟨(some 5), (Op.assign (Operand.tmp 56)), none, ann0⟩] none))) (.tidy [0, 3, 4, 5] z (z + 0))
def s35_2 (z : Nat) : SC := c35_2 z
theorem e35_2 {C : Pg} {z : Nat} {st : St} {ks : List Fr} {K : Ex → St → Prop} : wpk C (s35_2 z) st ks K ↔ wpk C (c35_2 z) st ks K := Iff.rfl
def c35_1 (z : Nat) : SC := .post (.seq (.post (.seq (.reg [⟨(some 6), (Op.move (Operand.tmp 4)), none, ann0⟩,
  ⟨(some 7), (Op.move (Operand.tmp 0)), none, ann0⟩,
  ⟨(some 8), (Op.call { callee := (Callee.builtin Builtin.len), args := #[(Operand.tmp 7)], argTypes := #[26] }), none, ann0⟩,
  ⟨(some 9), (Op.binOp BinOp.lss 3 (Operand.tmp 6) (Operand.tmp 8) 3), none, ann0⟩] none)
 (.cond (Operand.tmp 9) .skip
 (.exit 0))) (.tidy [0, 3, 4] z (z + 0)))
 (.seq (.post (.block 1 (.seq (.reg [⟨(some 5), (Op.assign (Operand.const (Value.int IntKind.i64 0))), none, ann0⟩] none)
 (.seq (.post (.block 2 (.pre (.tidy [0, 3, 4, 5] z (z + 0)) (.loop (s35_2 z)))) (.tidy [0, 3, 4, 5] z (z + 0)))
 (.post (.reg [⟨(some 57), (Op.move (Operand.tmp 3)), none, ann0⟩,
  ⟨(some 58), (Op.move (Operand.tmp 5)), none, ann0⟩,
  ⟨(some 59), (Op.move (Operand.tmp 5)), none, ann0⟩,
  ⟨(some 60), (Op.slice 26 (Operand.tmp 57) none (some (Operand.tmp 58)) (some (Operand.tmp 59))), none, ann0⟩,
  ⟨(some 61), (Op.move (Operand.tmp 0)), none, ann0⟩,
  ⟨(some 62), (Op.move (Operand.tmp 4)), none, ann0⟩,
  ⟨(some 63), (Op.indexAddr 26 (Operand.tmp 61) (Operand.tmp 62)), none, ann0⟩,
  ⟨(some 64), (Op.load 25 (Operand.tmp 63)), none, ann0⟩,
  ⟨(some 65), (Op.buildSlice 26 1 #[(0, (Operand.tmp 64))]), none, ⟨1, false, false⟩⟩,
  ⟨(some 66), (Op.move (Operand.tmp 3)), none, ann0⟩,
  ⟨(some 67), (Op.move (Operand.tmp 5)), none, ann0⟩,
  ⟨(some 68), (Op.slice 26 (Operand.tmp 66) (some (Operand.tmp 67)) none none), none, ann0⟩,
  ⟨(some 69), (Op.call { callee := (Callee.builtin Builtin.append), args := #[(Operand.tmp 65), (Operand.tmp 68)], argTypes := #[26, 26] }), none, ann0⟩,
  ⟨(some 70), (Op.call { callee := (Callee.builtin Builtin.append), args := #[(Operand.tmp 60), (Operand.tmp 69)], argTypes := #[26, 26] }), none, ⟨1, true, false⟩⟩,
  ⟨(some 3), (Op.assign (Operand.tmp 70)), none, ann0⟩] (some [0, 0, 0, 7, 0, 0, 48, 112, 240, 0, 0, 1536, 4080, 8191, 16383])) (.frz 3))))) (.tidy [0, 3, 4] z (z + 2)))
 (.reg [⟨(some 10), (Op.move (Operand.tmp 4)), none, ann0⟩,
  ⟨(some 11), (Op.binOp BinOp.add 3 (Operand.tmp 10) (Operand.const (Value.int IntKind.i64 1)) 3), none, ann0⟩,
  ⟨(some 4), (Op.assign (Operand.tmp 11)), none, ann0⟩] none))) (.tidy [0, 3, 4] z (z + 0))
def s35_1 (z : Nat) : SC := c35_1 z
theorem e35_1 {C : Pg} {z : Nat} {st : St} {ks : List Fr} {K : Ex → St → Prop} : wpk C (s35_1 z) st ks K ↔ wpk C (c35_1 z) st ks K := Iff.rfl
def s35 (z : Nat) : SFn := ⟨1, 72, [(ResultVar.tmp 2)],
 (.post (.seq (.reg [⟨(some 2), (Op.assign (Operand.const (Value.slice none 0 0))), none, ann0⟩] none)
 (.seq (.reg [⟨(some 3), (Op.assign (Operand.const (Value.slice none 0 0))), none, ann0⟩] none)
 (.seq (.post (.seq (.reg [⟨(some 4), (Op.assign (Operand.const (Value.int IntKind.i64 0))), none, ann0⟩] none)
 (.post (.block 0 (.pre (.tidy [0, 3, 4] z (z + 0)) (.loop (s35_1 z)))) (.tidy [3] z (z + 0)))) (.tidy [3] z (z + 0)))
 (.seq (.reg [⟨(some 71), (Op.move (Operand.tmp 3)), none, ann0⟩,
  ⟨(some 2), (Op.assign (Operand.tmp 71)), none, ann0⟩] none)
 .ret)))) (.frz 2))⟩
theorem F35 (z : Nat) : FOk Try.prog 35 (s35 z) := by unfold FOk; kernel_rfl
def c36_1 (z : Nat) : SC := .post (.seq (.seq (.post (.reg [⟨(some 26), (Op.move (Operand.tmp 6)), none, ann0⟩,
  ⟨(some 27), (Op.fieldAddr 28 (Operand.tmp 3) 3), none, ann0⟩,
  ⟨(some 28), (Op.load 26 (Operand.tmp 27)), none, ann0⟩,
  ⟨(some 29), (Op.call { callee := (Callee.builtin Builtin.len), args := #[(Operand.tmp 28)], argTypes := #[26] }), none, ann0⟩,
  ⟨(some 30), (Op.binOp BinOp.lss 3 (Operand.tmp 26) (Operand.tmp 29) 3), none, ann0⟩] none) (.tidy [3, 4, 5, 6, 30] z (z + 5)))
 (.cond (Operand.tmp 30) .skip
 (.exit 0)))
 (.seq (.post (.block 1 (.reg [⟨(some 33), (Op.fieldAddr 28 (Operand.tmp 5) 3), none, ann0⟩,
  ⟨(some 34), (Op.load 26 (Operand.tmp 33)), none, ann0⟩,
  ⟨(some 35), (Op.fieldAddr 28 (Operand.tmp 3) 3), none, ann0⟩,
  ⟨(some 36), (Op.load 26 (Operand.tmp 35)), none, ann0⟩,
  ⟨(some 37), (Op.move (Operand.tmp 6)), none, ann0⟩,
  ⟨(some 38), (Op.indexAddr 26 (Operand.tmp 36) (Operand.tmp 37)), none, ann0⟩,
  ⟨(some 39), (Op.fieldAddr 25 (Operand.tmp 38) 0), none, ann0⟩,
  ⟨(some 40), (Op.load 9 (Operand.tmp 39)), none, ann0⟩,
  ⟨(some 41), (Op.fieldAddr 28 (Operand.tmp 3) 3), none, ann0⟩,
  ⟨(some 42), (Op.load 26 (Operand.tmp 41)), none, ann0⟩,
  ⟨(some 43), (Op.move (Operand.tmp 6)), none, ann0⟩,
  ⟨(some 44), (Op.indexAddr 26 (Operand.tmp 42) (Operand.tmp 43)), none, ann0⟩,
  ⟨(some 45), (Op.fieldAddr 25 (Operand.tmp 44) 1), none, ann0⟩,
  ⟨(some 46), (Op.load 3 (Operand.tmp 45)), none, ann0⟩,
  ⟨(some 47), (Op.call { callee := (Callee.value (Operand.func 44)), args := #[(Operand.tmp 34), (Operand.tmp 40), (Operand.tmp 46)], argTypes := #[26, 9, 3] }), none, ann0⟩,
  ⟨(some 48), (Op.fieldAddr 28 (Operand.tmp 5) 3), none, ann0⟩,
  ⟨none, (Op.store 26 (Operand.tmp 48) (Operand.tmp 47)), none, ann0⟩] (some [0, 1, 0, 4, 0, 28, 60, 124, 0, 256, 0, 1792, 3840, 7936, 16383, 32767, 65535]))) (.tidy [3, 4, 5, 6] z (z + 5)))
 (.reg [⟨(some 31), (Op.move (Operand.tmp 6)), none, ann0⟩,
  ⟨(some 32), (Op.binOp BinOp.add 3 (Operand.tmp 31) (Operand.const (Value.int IntKind.i64 1)) 3), none, ann0⟩,
  ⟨(some 6), (Op.assign (Operand.tmp 32)), none, ann0⟩] none))) (.tidy [3, 4, 5, 6] z (z + 5))
def s36_1 (z : Nat) : SC := c36_1 z
theorem e36_1 {C : Pg} {z : Nat} {st : St} {ks : List Fr} {K : Ex → St → Prop} : wpk C (s36_1 z) st ks K ↔ wpk C (c36_1 z) st ks K := Iff.rfl
def s36 (z : Nat) : SFn := ⟨2, 74, [(ResultVar.cell 4 28)],
 (.seq (.reg [⟨(some 2), (Op.box 28 (Operand.tmp 0)), none, ⟨1, false, false⟩⟩,
  ⟨(some 3), (Op.box 28 (Operand.tmp 1)), none, ⟨1, false, false⟩⟩,
  ⟨(some 4), (Op.alloc 28), none, ⟨1, false, false⟩⟩] none)
 (.seq (.post (.reg [⟨(some 8), (Op.fieldAddr 28 (Operand.tmp 2) 0), none, ann0⟩,
  ⟨(some 9), (Op.load 3 (Operand.tmp 8)), none, ann0⟩,
  ⟨(some 10), (Op.fieldAddr 28 (Operand.tmp 2) 1), none, ann0⟩,
  ⟨(some 11), (Op.load 3 (Operand.tmp 10)), none, ann0⟩,
  ⟨(some 12), (Op.fieldAddr 28 (Operand.tmp 3) 1), none, ann0⟩,
  ⟨(some 13), (Op.load 3 (Operand.tmp 12)), none, ann0⟩,
  ⟨(some 14), (Op.binOp BinOp.add 3 (Operand.tmp 11) (Operand.tmp 13) 3), none, ann0⟩,
  ⟨(some 15), (Op.fieldAddr 28 (Operand.tmp 2) 2), none, ann0⟩,
  ⟨(some 16), (Op.load 3 (Operand.tmp 15)), none, ann0⟩,
  ⟨(some 17), (Op.fieldAddr 28 (Operand.tmp 3) 2), none, ann0⟩,
  ⟨(some 18), (Op.load 3 (Operand.tmp 17)), none, ann0⟩,
  ⟨(some 19), (Op.binOp BinOp.add 3 (Operand.tmp 16) (Operand.tmp 18) 3), none, ann0⟩,
  ⟨(some 20), (Op.build 28 #[(0, (Operand.tmp 9)), (1, (Operand.tmp 14)), (2, (Operand.tmp 19))]), none, ann0⟩,
  ⟨(some 5), (Op.alloc 28), none, ⟨1, false, false⟩⟩,
  ⟨none, (Op.store 28 (Operand.tmp 5) (Operand.tmp 20)), none, ann0⟩] none) (.tidy [2, 3, 4, 5] z (z + 4)))
 (.seq (.reg [⟨(some 21), (Op.buildSlice 26 0 #[]), none, ⟨1, false, false⟩⟩,
  ⟨(some 22), (Op.fieldAddr 28 (Operand.tmp 2) 3), none, ann0⟩,
  ⟨(some 23), (Op.load 26 (Operand.tmp 22)), none, ann0⟩,
  ⟨(some 24), (Op.call { callee := (Callee.builtin Builtin.append), args := #[(Operand.tmp 21), (Operand.tmp 23)], argTypes := #[26, 26] }), none, ann0⟩,
  ⟨(some 25), (Op.fieldAddr 28 (Operand.tmp 5) 3), none, ann0⟩,
  ⟨none, (Op.store 26 (Operand.tmp 25) (Operand.tmp 24)), none, ann0⟩] none)
 (.seq (.post (.seq (.reg [⟨(some 6), (Op.assign (Operand.const (Value.int IntKind.i64 0))), none, ann0⟩] none)
 (.post (.pre (.frb 5 3) (.block 0 (.pre (.tidy [3, 4, 5, 6] z (z + 5)) (.loop (s36_1 z))))) (.tidy [4, 5] z (z + 5)))) (.tidy [4, 5] z (z + 5)))
 (.seq (.post (.seq (.reg [⟨(some 49), (Op.fieldAddr 28 (Operand.tmp 5) 3), none, ann0⟩,
  ⟨(some 50), (Op.load 26 (Operand.tmp 49)), none, ann0⟩,
  ⟨(some 51), (Op.call { callee := (Callee.builtin Builtin.len), args := #[(Operand.tmp 50)], argTypes := #[26] }), none, ann0⟩,
  ⟨(some 52), (Op.fieldAddr 28 (Operand.tmp 5) 0), none, ann0⟩,
  ⟨(some 53), (Op.load 3 (Operand.tmp 52)), none, ann0⟩,
  ⟨(some 54), (Op.binOp BinOp.gtr 3 (Operand.tmp 51) (Operand.tmp 53) 3), none, ann0⟩] none)
 (.cond (Operand.tmp 54) (.seq (.post (.reg [⟨(some 55), (Op.fieldAddr 28 (Operand.tmp 5) 3), none, ann0⟩,
  ⟨(some 56), (Op.load 26 (Operand.tmp 55)), none, ann0⟩,
  ⟨(some 57), (Op.call { callee := (Callee.value (Operand.func 35)), args := #[(Operand.tmp 56)], argTypes := #[26] }), none, ann0⟩,
  ⟨(some 58), (Op.fieldAddr 28 (Operand.tmp 5) 0), none, ann0⟩,
  ⟨(some 59), (Op.load 3 (Operand.tmp 58)), none, ann0⟩,
  ⟨(some 60), (Op.indexAddr 26 (Operand.tmp 57) (Operand.tmp 59)), none, ann0⟩,
  ⟨(some 61), (Op.fieldAddr 25 (Operand.tmp 60) 1), none, ann0⟩,
  ⟨(some 62), (Op.load 3 (Operand.tmp 61)), none, ann0⟩,
  ⟨(some 7), (Op.assign (Operand.tmp 62)), none, ann0⟩] (some [0, 1, 3, 0, 8, 31, 63, 127, 255])) (.tidy [4, 5, 7] z (z + 5)))
 (.reg [⟨(some 63), (Op.fieldAddr 28 (Operand.tmp 5) 3), none, ann0⟩,
  ⟨(some 64), (Op.load 26 (Operand.tmp 63)), none, ann0⟩,
  ⟨(some 65), (Op.move (Operand.tmp 7)), none, ann0⟩,
  ⟨(some 66), (Op.call { callee := (Callee.value (Operand.func 45)), args := #[(Operand.tmp 64), (Operand.tmp 65)], argTypes := #[26, 3] }), none, ann0⟩,
  ⟨(some 67), (Op.fieldAddr 28 (Operand.tmp 5) 2), none, ann0⟩,
  ⟨(some 68), (Op.load 3 (Operand.tmp 67)), none, ann0⟩,
  ⟨(some 69), (Op.move (Operand.tmp 7)), none, ann0⟩,
  ⟨(some 70), (Op.binOp BinOp.add 3 (Operand.tmp 68) (Operand.tmp 69) 3), none, ann0⟩,
  ⟨(some 71), (Op.fieldAddr 28 (Operand.tmp 5) 3), none, ann0⟩,
  ⟨none, (Op.store 26 (Operand.tmp 71) (Operand.tmp 66)), none, ann0⟩,
  ⟨(some 72), (Op.fieldAddr 28 (Operand.tmp 5) 2), none, ann0⟩,
  ⟨none, (Op.store 3 (Operand.tmp 72) (Operand.tmp 70)), none, ann0⟩] (some [0, 1, 0, 7, 0, 16, 0, 112, 63, 319, 1023, 2047])))
 .skip)) (.tidy [4, 5] z (z + 5)))
 (.seq (.reg [⟨(some 73), (Op.load 28 (Operand.tmp 5)), none, ann0⟩,
  ⟨none, (Op.store 28 (Operand.tmp 4) (Operand.tmp 73)), none, ann0⟩] none)
 .ret))))))⟩
theorem F36 (z : Nat) : FOk Try.prog 36 (s36 z) := by unfold FOk; kernel_rfl
def s37 (z : Nat) : SFn := ⟨4, 16, [(ResultVar.tmp 8)],
 (.post (.seq (.reg [⟨(some 8), (Op.assign (Operand.const (Value.slice none 0 0))), none, ann0⟩] none)
 (.seq (.reg [⟨(some 9), (Op.move (Operand.tmp 0)), none, ann0⟩,
  ⟨(some 10), (Op.move (Operand.tmp 1)), none, ann0⟩,
  ⟨(some 11), (Op.build 25 #[(0, (Operand.tmp 9)), (1, (Operand.tmp 10))]), none, ann0⟩,
  ⟨(some 12), (Op.move (Operand.tmp 2)), none, ann0⟩,
  ⟨(some 13), (Op.move (Operand.tmp 3)), none, ann0⟩,
  ⟨(some 14), (Op.build 25 #[(0, (Operand.tmp 12)), (1, (Operand.tmp 13))]), none, ann0⟩,
  ⟨(some 15), (Op.buildSlice 26 2 #[(0, (Operand.tmp 11)), (1, (Operand.tmp 14))]), none, ⟨1, true, false⟩⟩,
  ⟨(some 8), (Op.assign (Operand.tmp 15)), none, ann0⟩] none)
 .ret)) (.frz 8))⟩
theorem F37 (z : Nat) : FOk Try.prog 37 (s37 z) := by unfold FOk; kernel_rfl
def c38_1 (z : Nat) : SC := .post (.seq (.reg [⟨(some 11), (Op.binOp BinOp.lss 3 (Operand.tmp 10) (Operand.tmp 9) 3), none, ann0⟩] none)
 (.seq (.cond (Operand.tmp 11) .skip
 (.exit 0))
 (.seq (.post (.block 1 (.seq (.reg [⟨(some 12), (Op.indexAddr 26 (Operand.tmp 8) (Operand.tmp 10)), none, ann0⟩,
  ⟨(some 13), (Op.load 25 (Operand.tmp 12)), none, ann0⟩,
  ⟨(some 5), (Op.alloc 25), none, ⟨1, false, false⟩⟩,
  ⟨none, (Op.store 25 (Operand.tmp 5) (Operand.tmp 13)), none, ann0⟩] none)
 (.reg [⟨(some 14), (Op.move (Operand.tmp 3)), none, ann0⟩,
  ⟨(some 15), (Op.fieldAddr 25 (Operand.tmp 5) 0), none, ann0⟩,
  ⟨(some 16), (Op.load 9 (Operand.tmp 15)), none, ann0⟩,
  ⟨(some 17), (Op.lookup 69 (Operand.tmp 14) (Operand.tmp 16) false), none, ann0⟩,
  ⟨(some 18), (Op.fieldAddr 25 (Operand.tmp 5) 1), none, ann0⟩,
  ⟨(some 19), (Op.load 3 (Operand.tmp 18)), none, ann0⟩,
  ⟨(some 20), (Op.binOp BinOp.add 3 (Operand.tmp 17) (Operand.tmp 19) 3), none, ann0⟩,
  ⟨none, (Op.mapUpdate 69 (Operand.tmp 14) (Operand.tmp 16) (Operand.tmp 20)), none, ann0⟩] none))) (.tidy [3, 8, 9, 10] z (z + 3)))
 (.reg [⟨(some 21), (Op.binOp BinOp.add 3 (Operand.tmp 10) (Operand.const (Value.int IntKind.i64 1)) 3), none, ann0⟩,
  ⟨(some 10), (Op.move (Operand.tmp 21)), none, ann0⟩] none)))) (.tidy [3, 8, 9, 10] z (z + 2))
def s38_1 (z : Nat) : SC := c38_1 z
theorem e38_1 {C : Pg} {z : Nat} {st : St} {ks : List Fr} {K : Ex → St → Prop} : wpk C (s38_1 z) st ks K ↔ wpk C (c38_1 z) st ks K := Iff.rfl
def s38 (z : Nat) : SFn := ⟨1, 23, [(ResultVar.tmp 2)],
 (.seq (.reg [⟨(some 1), (Op.box 28 (Operand.tmp 0)), none, ⟨1, false, false⟩⟩,
  ⟨(some 2), (Op.assign (Operand.const (Value.map none))), none, ann0⟩] none)
 (.seq (.reg [⟨(some 6), (Op.makeMap 69 none), none, ⟨1, false, false⟩⟩,
  ⟨(some 3), (Op.assign (Operand.tmp 6)), none, ann0⟩] none)
 (.seq (.post (.seq (.reg [⟨(some 7), (Op.fieldAddr 28 (Operand.tmp 1) 3), none, ann0⟩,
  ⟨(some 8), (Op.load 26 (Operand.tmp 7)), none, ann0⟩,
  ⟨(some 9), (Op.call { callee := (Callee.builtin Builtin.len), args := #[(Operand.tmp 8)], argTypes := #[26] }), none, ann0⟩,
  ⟨(some 10), (Op.move (Operand.const (Value.int IntKind.i64 0))), none, ann0⟩] none)
 (.post (.block 0 (.pre (.tidy [3, 8, 9, 10] z (z + 2)) (.loop (s38_1 z)))) (.tidy [3] z (z + 2)))) (.tidy [3] z (z + 2)))
 (.seq (.reg [⟨(some 22), (Op.move (Operand.tmp 3)), none, ann0⟩,
  ⟨(some 2), (Op.assign (Operand.tmp 22)), none, ann0⟩] none)
 .ret))))⟩
theorem F38 (z : Nat) : FOk Try.prog 38 (s38 z) := by unfold FOk; kernel_rfl
def c39_1 (z : Nat) : SC := .post (.seq (.reg [⟨(some 7), (Op.next (Operand.tmp 6) false), none, ann0⟩,
  ⟨(some 8), (Op.extract (Operand.tmp 7) 0), none, ann0⟩] none)
 (.seq (.cond (Operand.tmp 8) .skip
 (.exit 0))
 (.block 1 (.seq (.reg [⟨(some 9), (Op.entry (Operand.tmp 6)), none, ann0⟩,
  ⟨(some 10), (Op.extract (Operand.tmp 9) 0), none, ann0⟩,
  ⟨(some 4), (Op.assign (Operand.tmp 10)), none, ann0⟩] none)
 (.reg [⟨(some 11), (Op.move (Operand.tmp 0)), none, ann0⟩,
  ⟨(some 12), (Op.move (Operand.tmp 4)), none, ann0⟩,
  ⟨(some 13), (Op.lookup 69 (Operand.tmp 11) (Operand.tmp 12) false), none, ann0⟩,
  ⟨(some 14), (Op.move (Operand.tmp 1)), none, ann0⟩,
  ⟨(some 15), (Op.binOp BinOp.sub 3 (Operand.tmp 13) (Operand.tmp 14) 3), none, ann0⟩,
  ⟨none, (Op.mapUpdate 69 (Operand.tmp 11) (Operand.tmp 12) (Operand.tmp 15)), none, ann0⟩] none))))) (.tidy [0, 1, 6] z (z + 1))
def s39_1 (z : Nat) : SC := c39_1 z
theorem e39_1 {C : Pg} {z : Nat} {st : St} {ks : List Fr} {K : Ex → St → Prop} : wpk C (s39_1 z) st ks K ↔ wpk C (c39_1 z) st ks K := Iff.rfl
def s39 (z : Nat) : SFn := ⟨2, 16, [],
 (.seq (.reg [⟨(some 5), (Op.move (Operand.tmp 0)), none, ann0⟩,
  ⟨(some 6), (Op.range 69 (Operand.tmp 5)), none, ⟨1, false, false⟩⟩] none)
 (.post (.block 0 (.pre (.tidy [0, 1, 6] z (z + 1)) (.loop (s39_1 z)))) (.tidy [] z (z + 1))))⟩
theorem F39 (z : Nat) : FOk Try.prog 39 (s39 z) := by unfold FOk; kernel_rfl
def c40_1 (z : Nat) : SC := .post (.seq (.reg [⟨(some 8), (Op.next (Operand.tmp 7) false), none, ann0⟩,
  ⟨(some 9), (Op.extract (Operand.tmp 8) 0), none, ann0⟩] none)
 (.seq (.cond (Operand.tmp 9) .skip
 (.exit 0))
 (.block 1 (.seq (.post (.reg [⟨(some 10), (Op.entry (Operand.tmp 7)), none, ann0⟩,
  ⟨(some 11), (Op.extract (Operand.tmp 10) 0), none, ann0⟩,
  ⟨(some 12), (Op.extract (Operand.tmp 10) 1), none, ann0⟩,
  ⟨(some 4), (Op.assign (Operand.tmp 11)), none, ann0⟩,
  ⟨(some 5), (Op.assign (Operand.tmp 12)), none, ann0⟩] none) (.tidy [0, 3, 4, 5, 7] z (z + 2)))
 (.seq (.post (.seq (.reg [⟨(some 13), (Op.move (Operand.tmp 5)), none, ann0⟩,
  ⟨(some 14), (Op.binOp BinOp.leq 3 (Operand.tmp 13) (Operand.const (Value.int IntKind.i64 0)) 3), none, ann0⟩] none)
 (.cond (Operand.tmp 14) (.seq (.reg [⟨(some 15), (Op.move (Operand.tmp 0)), none, ann0⟩,
  ⟨(some 16), (Op.move (Operand.tmp 4)), none, ann0⟩,
  ⟨none, (Op.call { callee := (Callee.builtin Builtin.delete), args := #[(Operand.tmp 15), (Operand.tmp 16)], argTypes := #[69, 9] }), none, ann0⟩] none)
 (.exit 1))
 .skip)) (.tidy [0, 3, 4, 5, 7] z (z + 2)))
 (.reg [⟨(some 17), (Op.move (Operand.tmp 3)), none, ann0⟩,
  ⟨(some 18), (Op.move (Operand.tmp 4)), none, ann0⟩,
  ⟨(some 19), (Op.move (Operand.tmp 5)), none, ann0⟩,
  ⟨(some 20), (Op.build 25 #[(0, (Operand.tmp 18)), (1, (Operand.tmp 19))]), none, ann0⟩,
  ⟨(some 21), (Op.buildSlice 26 1 #[(0, (Operand.tmp 20))]), none, ⟨1, true, false⟩⟩,
  ⟨(some 22), (Op.call { callee := (Callee.builtin Builtin.append), args := #[(Operand.tmp 17), (Operand.tmp 21)], argTypes := #[26, 26] }), none, ann0⟩,
  ⟨(some 3), (Op.assign (Operand.tmp 22)), none, ann0⟩] none)))))) (.tidy [0, 3, 7] z (z + 2))
def s40_1 (z : Nat) : SC := c40_1 z
theorem e40_1 {C : Pg} {z : Nat} {st : St} {ks : List Fr} {K : Ex → St → Prop} : wpk C (s40_1 z) st ks K ↔ wpk C (c40_1 z) st ks K := Iff.rfl
def s40 (z : Nat) : SFn := ⟨1, 26, [(ResultVar.tmp 2)],
 (.post (.seq (.reg [⟨(some 2), (Op.assign (Operand.const (Value.slice none 0 0))), none, ann0⟩] none)
 (.seq (.post (.reg [⟨(some 3), (Op.assign (Operand.const (Value.slice none 0 0))), none, ann0⟩] none) (.mkv 3 25 2))
 (.seq (.post (.seq (.reg [⟨(some 6), (Op.move (Operand.tmp 0)), none, ann0⟩,
  ⟨(some 7), (Op.range 69 (Operand.tmp 6)), none, ⟨1, false, false⟩⟩] none)
 (.post (.block 0 (.pre (.tidy [0, 3, 7] z (z + 2)) (.loop (s40_1 z)))) (.tidy [3] z (z + 2)))) (.tidy [3] z (z + 2)))
 (.seq (.reg [⟨(some 23), (Op.move (Operand.tmp 3)), none, ann0⟩,
  ⟨(some 24), (Op.call { callee := (Callee.value (Operand.func 49)), args := #[(Operand.tmp 23), (Operand.func 50)], argTypes := #[26, 82] }), none, ann0⟩] none)
 (.seq (.reg [⟨(some 25), (Op.move (Operand.tmp 3)), none, ann0⟩,
  ⟨(some 2), (Op.assign (Operand.tmp 25)), none, ann0⟩] none)
 .ret))))) (.frz 2))⟩
theorem F40 (z : Nat) : FOk Try.prog 40 (s40 z) := by unfold FOk; kernel_rfl
def s41 (z : Nat) : SFn := ⟨2, 14, [],
 (.seq (.reg [⟨(some 5), (Op.move (Operand.tmp 0)), none, ann0⟩,
  ⟨(some 6), (Op.call { callee := (Callee.builtin Builtin.len), args := #[(Operand.tmp 5)], argTypes := #[74] }), none, ann0⟩,
  ⟨(some 4), (Op.assign (Operand.tmp 6)), none, ann0⟩] none)
 (.reg [⟨(some 7), (Op.move (Operand.tmp 0)), none, ann0⟩,
  ⟨(some 8), (Op.move (Operand.tmp 4)), none, ann0⟩,
  ⟨(some 9), (Op.move (Operand.tmp 4)), none, ann0⟩,
  ⟨(some 10), (Op.convert 3 85 (Operand.tmp 9)), none, ann0⟩,
  ⟨(some 11), (Op.call { callee := (Callee.value (Operand.func 53)), args := #[(Operand.tmp 10)], argTypes := #[85] }), none, ann0⟩,
  ⟨(some 12), (Op.move (Operand.tmp 1)), none, ann0⟩,
  ⟨(some 13), (Op.call { callee := (Callee.value (Operand.func 52)), args := #[(Operand.tmp 7), (Operand.const (Value.int IntKind.i64 0)), (Operand.tmp 8), (Operand.tmp 11), (Operand.tmp 12)], argTypes := #[74, 3, 3, 3, 76] }), none, ann0⟩] none))⟩
theorem F41 (z : Nat) : FOk Try.prog 41 (s41 z) := by unfold FOk; kernel_rfl
def s42 (z : Nat) : SFn := ⟨2, 8, [(ResultVar.tmp 4)],
 (.seq (.reg [⟨(some 4), (Op.assign (Operand.const (Value.int IntKind.i64 0))), none, ann0⟩] none)
 (.seq (.reg [⟨(some 5), (Op.move (Operand.tmp 1)), none, ann0⟩,
  ⟨(some 6), (Op.move (Operand.tmp 0)), none, ann0⟩,
  ⟨(some 7), (Op.call { callee := (Callee.value (Operand.func 43)), args := #[(Operand.tmp 5), (Operand.tmp 6)], argTypes := #[3, 3] }), none, ann0⟩,
  ⟨(some 4), (Op.assign (Operand.tmp 7)), none, ann0⟩] none)
 .ret))⟩
theorem F42 (z : Nat) : FOk Try.prog 42 (s42 z) := by unfold FOk; kernel_rfl
def s43 (z : Nat) : SFn := ⟨2, 20, [(ResultVar.tmp 4)],
 (.seq (.reg [⟨(some 4), (Op.assign (Operand.const (Value.int IntKind.i64 0))), none, ann0⟩] none)
 (.seq (.reg [⟨(some 7), (Op.move (Operand.tmp 0)), none, ann0⟩,
  ⟨(some 8), (Op.call { callee := (Callee.value (Operand.func 54)), args := #[(Operand.tmp 7)], argTypes := #[3] }), none, ann0⟩,
  ⟨(some 5), (Op.assign (Operand.tmp 8)), none, ann0⟩] none)
 (.seq (.reg [⟨(some 9), (Op.move (Operand.tmp 1)), none, ann0⟩,
  ⟨(some 10), (Op.call { callee := (Callee.value (Operand.func 54)), args := #[(Operand.tmp 9)], argTypes := #[3] }), none, ann0⟩,
  ⟨(some 6), (Op.assign (Operand.tmp 10)), none, ann0⟩] none)
 (.seq (.seq (.reg [⟨(some 11), (Op.move (Operand.tmp 5)), none, ann0⟩] none)
 (.cond (Operand.tmp 11) (.seq (.post (.seq (.reg [⟨(some 12), (Op.move (Operand.tmp 6)), none, ann0⟩] none)
 (.cond (Operand.tmp 12) (.seq (.reg [⟨(some 4), (Op.assign (Operand.const (Value.int IntKind.i64 0))), none, ann0⟩] none)
 .ret)
 .skip)) (.tidy [] z (z + 0)))
 (.seq (.reg [⟨(some 4), (Op.assign (Operand.const (Value.int IntKind.i64 (-1)))), none, ann0⟩] none)
 .ret))
 .skip))
 (.seq (.seq (.reg [⟨(some 13), (Op.move (Operand.tmp 6)), none, ann0⟩] none)
 (.cond (Operand.tmp 13) (.seq (.reg [⟨(some 4), (Op.assign (Operand.const (Value.int IntKind.i64 1))), none, ann0⟩] none)
 .ret)
 .skip))
 (.seq (.seq (.post (.reg [⟨(some 14), (Op.move (Operand.tmp 0)), none, ann0⟩,
  ⟨(some 15), (Op.move (Operand.tmp 1)), none, ann0⟩,
  ⟨(some 16), (Op.binOp BinOp.lss 3 (Operand.tmp 14) (Operand.tmp 15) 3), none, ann0⟩] none) (.tidy [0, 1, 16] z (z + 0)))
 (.cond (Operand.tmp 16) (.seq (.reg [⟨(some 4), (Op.assign (Operand.const (Value.int IntKind.i64 (-1)))), none, ann0⟩] none)
 .ret)
 .skip))
 (.seq (.seq (.post (.reg [⟨(some 17), (Op.move (Operand.tmp 0)), none, ann0⟩,
  ⟨(some 18), (Op.move (Operand.tmp 1)), none, ann0⟩,
  ⟨(some 19), (Op.binOp BinOp.gtr 3 (Operand.tmp 17) (Operand.tmp 18) 3), none, ann0⟩] none) (.tidy [19] z (z + 0)))
 (.cond (Operand.tmp 19) (.seq (.reg [⟨(some 4), (Op.assign (Operand.const (Value.int IntKind.i64 1))), none, ann0⟩] none)
 .ret)
 .skip))
 (.seq (.reg [⟨(some 4), (Op.assign (Operand.const (Value.int IntKind.i64 0))), none, ann0⟩] none)
 .ret))))))))⟩
theorem F43 (z : Nat) : FOk Try.prog 43 (s43 z) := by unfold FOk; kernel_rfl
def c44_1 (z : Nat) : SC := .post (.seq (.post (.seq (.post (.reg [⟨(some 9), (Op.move (Operand.tmp 7)), none, ann0⟩,
  ⟨(some 10), (Op.move (Operand.tmp 0)), none, ann0⟩,
  ⟨(some 11), (Op.call { callee := (Callee.builtin Builtin.len), args := #[(Operand.tmp 10)], argTypes := #[26] }), none, ann0⟩,
  ⟨(some 12), (Op.binOp BinOp.lss 3 (Operand.tmp 9) (Operand.tmp 11) 3), none, ann0⟩,
  ⟨(some 13), (Op.move (Operand.tmp 12)), none, ann0⟩,
  ⟨(some 14), (Op.move (Operand.tmp 0)), (some (13, true)), ann0⟩,
  ⟨(some 15), (Op.move (Operand.tmp 7)), (some (13, true)), ann0⟩,
  ⟨(some 16), (Op.indexAddr 26 (Operand.tmp 14) (Operand.tmp 15)), (some (13, true)), ann0⟩,
  ⟨(some 17), (Op.fieldAddr 25 (Operand.tmp 16) 0), (some (13, true)), ann0⟩,
  ⟨(some 18), (Op.load 9 (Operand.tmp 17)), (some (13, true)), ann0⟩,
  ⟨(some 19), (Op.move (Operand.tmp 1)), (some (13, true)), ann0⟩,
  ⟨(some 20), (Op.binOp BinOp.lss 9 (Operand.tmp 18) (Operand.tmp 19) 9), (some (13, true)), ann0⟩,
  ⟨(some 21), (Op.pick (Operand.tmp 13) (Operand.tmp 20) (Operand.const (Value.bool false))), none, ann0⟩] none) (.tidy [0, 1, 2, 7, 21] z (z + 0)))
 (.cond (Operand.tmp 21) .skip
 (.exit 0))) (.tidy [0, 1, 2, 7] z (z + 0)))
 (.block 1 (.reg [⟨(some 22), (Op.move (Operand.tmp 7)), none, ann0⟩,
  ⟨(some 23), (Op.binOp BinOp.add 3 (Operand.tmp 22) (Operand.const (Value.int IntKind.i64 1)) 3), none, ann0⟩,
  ⟨(some 7), (Op.assign (Operand.tmp 23)), none, ann0⟩] none))) (.tidy [0, 1, 2, 7] z (z + 0))
def s44_1 (z : Nat) : SC := c44_1 z
theorem e44_1 {C : Pg} {z : Nat} {st : St} {ks : List Fr} {K : Ex → St → Prop} : wpk C (s44_1 z) st ks K ↔ wpk C (c44_1 z) st ks K := Iff.rfl
def s44 (z : Nat) : SFn := ⟨3, 63, [(ResultVar.tmp 6)],
 (.post (.seq (.reg [⟨(some 6), (Op.assign (Operand.const (Value.slice none 0 0))), none, ann0⟩] none)
 (.seq (.reg [⟨(some 7), (Op.assign (Operand.const (Value.int IntKind.i64 0))), none, ann0⟩] none)
 (.seq (.post (.block 0 (.pre (.tidy [0, 1, 2, 7] z (z + 0)) (.loop (s44_1 z)))) (.tidy [0, 1, 2, 7] z (z + 0)))
 (.seq (.post (.seq (.post (.reg [⟨(some 24), (Op.move (Operand.tmp 7)), none, ann0⟩,
  ⟨(some 25), (Op.move (Operand.tmp 0)), none, ann0⟩,
  ⟨(some 26), (Op.call { callee := (Callee.builtin Builtin.len), args := #[(Operand.tmp 25)], argTypes := #[26] }), none, ann0⟩,
  ⟨(some 27), (Op.binOp BinOp.lss 3 (Operand.tmp 24) (Operand.tmp 26) 3), none, ann0⟩,
  ⟨(some 28), (Op.move (Operand.tmp 27)), none, ann0⟩,
  ⟨(some 29), (Op.move (Operand.tmp 0)), (some (28, true)), ann0⟩,
  ⟨(some 30), (Op.move (Operand.tmp 7)), (some (28, true)), ann0⟩,
  ⟨(some 31), (Op.indexAddr 26 (Operand.tmp 29) (Operand.tmp 30)), (some (28, true)), ann0⟩,
  ⟨(some 32), (Op.fieldAddr 25 (Operand.tmp 31) 0), (some (28, true)), ann0⟩,
  ⟨(some 33), (Op.load 9 (Operand.tmp 32)), (some (28, true)), ann0⟩,
  ⟨(some 34), (Op.move (Operand.tmp 1)), (some (28, true)), ann0⟩,
  ⟨(some 35), (Op.binOp BinOp.eql 9 (Operand.tmp 33) (Operand.tmp 34) 9), (some (28, true)), ann0⟩,
  ⟨(some 36), (Op.pick (Operand.tmp 28) (Operand.tmp 35) (Operand.const (Value.bool false))), none, ann0⟩] none) (.tidy [0, 1, 2, 7, 36] z (z + 0)))
 (.cond (Operand.tmp 36) (.seq (.reg [⟨(some 37), (Op.buildSlice 26 0 #[]), none, ⟨1, false, false⟩⟩,
  ⟨(some 38), (Op.move (Operand.tmp 0)), none, ann0⟩,
  ⟨(some 39), (Op.call { callee := (Callee.builtin Builtin.append), args := #[(Operand.tmp 37), (Operand.tmp 38)], argTypes := #[26, 26] }), none, ann0⟩,
  ⟨(some 8), (Op.assign (Operand.tmp 39)), none, ann0⟩] none)
 (.seq (.post (.reg [⟨(some 40), (Op.move (Operand.tmp 8)), none, ann0⟩,
  ⟨(some 41), (Op.move (Operand.tmp 7)), none, ann0⟩,
  ⟨(some 42), (Op.indexAddr 26 (Operand.tmp 40) (Operand.tmp 41)), none, ann0⟩,
  ⟨(some 43), (Op.fieldAddr 25 (Operand.tmp 42) 1), none, ann0⟩,
  ⟨(some 44), (Op.load 3 (Operand.tmp 43)), none, ann0⟩,
  ⟨(some 45), (Op.move (Operand.tmp 2)), none, ann0⟩,
  ⟨(some 46), (Op.binOp BinOp.add 3 (Operand.tmp 44) (Operand.tmp 45) 3), none, ann0⟩,
  ⟨(some 47), (Op.indexAddr 26 (Operand.tmp 40) (Operand.tmp 41)), none, ann0⟩,
  ⟨(some 48), (Op.fieldAddr 25 (Operand.tmp 47) 1), none, ann0⟩,
  ⟨none, (Op.store 3 (Operand.tmp 48) (Operand.tmp 46)), none, ann0⟩] none) (.tidy [8] z (z + 1)))
 (.seq (.reg [⟨(some 49), (Op.move (Operand.tmp 8)), none, ann0⟩,
  ⟨(some 6), (Op.assign (Operand.tmp 49)), none, ann0⟩] none)
 .ret)))
 .skip)) (.tidy [0, 1, 2, 7] z (z + 1)))
 (.seq (.post (.reg [⟨(some 50), (Op.move (Operand.tmp 0)), none, ann0⟩,
  ⟨(some 51), (Op.move (Operand.tmp 7)), none, ann0⟩,
  ⟨(some 52), (Op.move (Operand.tmp 7)), none, ann0⟩,
  ⟨(some 53), (Op.slice 26 (Operand.tmp 50) none (some (Operand.tmp 51)) (some (Operand.tmp 52))), none, ann0⟩,
  ⟨(some 54), (Op.move (Operand.tmp 1)), none, ann0⟩,
  ⟨(some 55), (Op.move (Operand.tmp 2)), none, ann0⟩,
  ⟨(some 56), (Op.build 25 #[(0, (Operand.tmp 54)), (1, (Operand.tmp 55))]), none, ann0⟩,
  ⟨(some 57), (Op.buildSlice 26 1 #[(0, (Operand.tmp 56))]), none, ⟨1, false, false⟩⟩,
  ⟨(some 58), (Op.move (Operand.tmp 0)), none, ann0⟩,
  ⟨(some 59), (Op.move (Operand.tmp 7)), none, ann0⟩,
  ⟨(some 60), (Op.slice 26 (Operand.tmp 58) (some (Operand.tmp 59)) none none), none, ann0⟩,
  ⟨(some 61), (Op.call { callee := (Callee.builtin Builtin.append), args := #[(Operand.tmp 57), (Operand.tmp 60)], argTypes := #[26, 26] }), none, ann0⟩,
  ⟨(some 62), (Op.call { callee := (Callee.builtin Builtin.append), args := #[(Operand.tmp 53), (Operand.tmp 61)], argTypes := #[26, 26] }), none, ⟨1, true, false⟩⟩,
  ⟨(some 6), (Op.assign (Operand.tmp 62)), none, ann0⟩] (some [0, 0, 0, 7, 0, 0, 48, 112, 0, 0, 768, 2032, 4095, 8191])) (.frz 6))
 .ret))))) (.frz 6))⟩
theorem F44 (z : Nat) : FOk Try.prog 44 (s44 z) := by unfold FOk; kernel_rfl
def c45_1 (z : Nat) : SC := .post (.seq (.post (.seq (.reg [⟨(some 7), (Op.move (Operand.tmp 6)), none, ann0⟩,
  ⟨(some 8), (Op.move (Operand.tmp 0)), none, ann0⟩,
  ⟨(some 9), (Op.call { callee := (Callee.builtin Builtin.len), args := #[(Operand.tmp 8)], argTypes := #[26] }), none, ann0⟩,
  ⟨(some 10), (Op.binOp BinOp.lss 3 (Operand.tmp 7) (Operand.tmp 9) 3), none, ann0⟩] none)
 (.cond (Operand.tmp 10) .skip
 (.exit 0))) (.tidy [0, 1, 5, 6] z (z + 1)))
 (.seq (.post (.block 1 (.seq (.post (.reg [⟨(some 13), (Op.move (Operand.tmp 0)), none, ann0⟩,
  ⟨(some 14), (Op.move (Operand.tmp 6)), none, ann0⟩,
  ⟨(some 15), (Op.indexAddr 26 (Operand.tmp 13) (Operand.tmp 14)), none, ann0⟩,
  ⟨(some 16), (Op.fieldAddr 25 (Operand.tmp 15) 1), none, ann0⟩,
  ⟨(some 17), (Op.load 3 (Operand.tmp 16)), none, ann0⟩,
  ⟨(some 18), (Op.move (Operand.tmp 1)), none, ann0⟩,
  ⟨(some 19), (Op.binOp BinOp.gtr 3 (Operand.tmp 17) (Operand.tmp 18) 3), none, ann0⟩] none) (.tidy [0, 1, 5, 6, 19] z (z + 1)))
 (.cond (Operand.tmp 19) (.reg [⟨(some 20), (Op.move (Operand.tmp 5)), none, ann0⟩,
  ⟨(some 21), (Op.move (Operand.tmp 0)), none, ann0⟩,
  ⟨(some 22), (Op.move (Operand.tmp 6)), none, ann0⟩,
  ⟨(some 23), (Op.indexAddr 26 (Operand.tmp 21) (Operand.tmp 22)), none, ann0⟩,
  ⟨(some 24), (Op.fieldAddr 25 (Operand.tmp 23) 0), none, ann0⟩,
  ⟨(some 25), (Op.load 9 (Operand.tmp 24)), none, ann0⟩,
  ⟨(some 26), (Op.move (Operand.tmp 0)), none, ann0⟩,
  ⟨(some 27), (Op.move (Operand.tmp 6)), none, ann0⟩,
  ⟨(some 28), (Op.indexAddr 26 (Operand.tmp 26) (Operand.tmp 27)), none, ann0⟩,
  ⟨(some 29), (Op.fieldAddr 25 (Operand.tmp 28) 1), none, ann0⟩,
  ⟨(some 30), (Op.load 3 (Operand.tmp 29)), none, ann0⟩,
  ⟨(some 31), (Op.move (Operand.tmp 1)), none, ann0⟩,
  ⟨(some 32), (Op.binOp BinOp.sub 3 (Operand.tmp 30) (Operand.tmp 31) 3), none, ann0⟩,
  ⟨(some 33), (Op.build 25 #[(0, (Operand.tmp 25)), (1, (Operand.tmp 32))]), none, ann0⟩,
  ⟨(some 34), (Op.buildSlice 26 1 #[(0, (Operand.tmp 33))]), none, ⟨1, true, false⟩⟩,
  ⟨(some 35), (Op.call { callee := (Callee.builtin Builtin.append), args := #[(Operand.tmp 20), (Operand.tmp 34)], argTypes := #[26, 26] }), none, ann0⟩,
  ⟨(some 5), (Op.assign (Operand.tmp 35)), none, ann0⟩] (some [0, 0, 0, 6, 14, 30, 0, 0, 192, 448, 960, 0, 4032, 8190, 16382, 32767, 65535]))
 .skip))) (.tidy [0, 1, 5, 6] z (z + 2)))
 (.reg [⟨(some 11), (Op.move (Operand.tmp 6)), none, ann0⟩,
  ⟨(some 12), (Op.binOp BinOp.add 3 (Operand.tmp 11) (Operand.const (Value.int IntKind.i64 1)) 3), none, ann0⟩,
  ⟨(some 6), (Op.assign (Operand.tmp 12)), none, ann0⟩] none))) (.tidy [0, 1, 5, 6] z (z + 1))
def s45_1 (z : Nat) : SC := c45_1 z
theorem e45_1 {C : Pg} {z : Nat} {st : St} {ks : List Fr} {K : Ex → St → Prop} : wpk C (s45_1 z) st ks K ↔ wpk C (c45_1 z) st ks K := Iff.rfl
def s45 (z : Nat) : SFn := ⟨2, 37, [(ResultVar.tmp 4)],
 (.post (.seq (.reg [⟨(some 4), (Op.assign (Operand.const (Value.slice none 0 0))), none, ann0⟩] none)
 (.seq (.post (.reg [⟨(some 5), (Op.assign (Operand.const (Value.slice none 0 0))), none, ann0⟩] none) (.mkv 5 25 2))
 (.seq (.post (.seq (.reg [⟨(some 6), (Op.assign (Operand.const (Value.int IntKind.i64 0))), none, ann0⟩] none)
 (.post (.block 0 (.pre (.tidy [0, 1, 5, 6] z (z + 1)) (.loop (s45_1 z)))) (.tidy [5] z (z + 1)))) (.tidy [5] z (z + 1)))
 (.seq (.reg [⟨(some 36), (Op.move (Operand.tmp 5)), none, ann0⟩,
  ⟨(some 4), (Op.assign (Operand.tmp 36)), none, ann0⟩] none)
 .ret)))) (.frz 4))⟩
theorem F45 (z : Nat) : FOk Try.prog 45 (s45 z) := by unfold FOk; kernel_rfl
def c46_1 (z : Nat) : SC := .post (.seq (.reg [⟨(some 14), (Op.binOp BinOp.lss 3 (Operand.tmp 13) (Operand.tmp 12) 3), none, ann0⟩] none)
 (.seq (.cond (Operand.tmp 14) .skip
 (.exit 0))
 (.seq (.post (.block 1 (.seq (.reg [⟨(some 15), (Op.move (Operand.tmp 13)), none, ann0⟩,
  ⟨(some 5), (Op.assign (Operand.tmp 15)), none, ann0⟩] none)
 (.seq (.post (.reg [⟨(some 16), (Op.move (Operand.tmp 0)), none, ann0⟩,
  ⟨(some 17), (Op.move (Operand.tmp 5)), none, ann0⟩,
  ⟨(some 18), (Op.indexAddr 26 (Operand.tmp 16) (Operand.tmp 17)), none, ann0⟩,
  ⟨(some 19), (Op.load 25 (Operand.tmp 18)), none, ann0⟩,
  ⟨(some 20), (Op.move (Operand.tmp 1)), none, ann0⟩,
  ⟨(some 21), (Op.move (Operand.tmp 5)), none, ann0⟩,
  ⟨(some 22), (Op.indexAddr 26 (Operand.tmp 20) (Operand.tmp 21)), none, ann0⟩,
  ⟨(some 23), (Op.load 25 (Operand.tmp 22)), none, ann0⟩,
  ⟨(some 24), (Op.binOp BinOp.neq 25 (Operand.tmp 19) (Operand.tmp 23) 25), none, ann0⟩] (some [0, 0, 3, 7, 0, 0, 48, 112, 255])) (.tidy [0, 1, 12, 13, 24] z (z + 0)))
 (.cond (Operand.tmp 24) (.seq (.reg [⟨(some 4), (Op.assign (Operand.const (Value.bool false))), none, ann0⟩] none)
 .ret)
 .skip)))) (.tidy [0, 1, 12, 13] z (z + 0)))
 (.reg [⟨(some 25), (Op.binOp BinOp.add 3 (Operand.tmp 13) (Operand.const (Value.int IntKind.i64 1)) 3), none, ann0⟩,
  ⟨(some 13), (Op.move (Operand.tmp 25)), none, ann0⟩] none)))) (.tidy [0, 1, 12, 13] z (z + 0))
def s46_1 (z : Nat) : SC := c46_1 z
theorem e46_1 {C : Pg} {z : Nat} {st : St} {ks : List Fr} {K : Ex → St → Prop} : wpk C (s46_1 z) st ks K ↔ wpk C (c46_1 z) st ks K := Iff.rfl
def s46 (z : Nat) : SFn := ⟨2, 26, [(ResultVar.tmp 4)],
 (.seq (.reg [⟨(some 4), (Op.assign (Operand.const (Value.bool false))), none, ann0⟩] none)
 (.seq (.post (.seq (.reg [⟨(some 6), (Op.move (Operand.tmp 0)), none, ann0⟩,
  ⟨(some 7), (Op.call { callee := (Callee.builtin Builtin.len), args := #[(Operand.tmp 6)], argTypes := #[26] }), none, ann0⟩,
  ⟨(some 8), (Op.move (Operand.tmp 1)), none, ann0⟩,
  ⟨(some 9), (Op.call { callee := (Callee.builtin Builtin.len), args := #[(Operand.tmp 8)], argTypes := #[26] }), none, ann0⟩,
  ⟨(some 10), (Op.binOp BinOp.neq 3 (Operand.tmp 7) (Operand.tmp 9) 3), none, ann0⟩] none)
 (.cond (Operand.tmp 10) (.seq (.reg [⟨(some 4), (Op.assign (Operand.const (Value.bool false))), none, ann0⟩] none)
 .ret)
 .skip)) (.tidy [0, 1] z (z + 0)))
 (.seq (.post (.seq (.reg [⟨(some 11), (Op.move (Operand.tmp 0)), none, ann0⟩,
  ⟨(some 12), (Op.call { callee := (Callee.builtin Builtin.len), args := #[(Operand.tmp 11)], argTypes := #[26] }), none, ann0⟩,
  ⟨(some 13), (Op.move (Operand.const (Value.int IntKind.i64 0))), none, ann0⟩] none)
 (.post (.block 0 (.pre (.tidy [0, 1, 12, 13] z (z + 0)) (.loop (s46_1 z)))) (.tidy [] z (z + 0)))) (.tidy [] z (z + 0)))
 (.seq (.reg [⟨(some 4), (Op.assign (Operand.const (Value.bool true))), none, ann0⟩] none)
 .ret))))⟩
theorem F46 (z : Nat) : FOk Try.prog 46 (s46 z) := by unfold FOk; kernel_rfl
def c47_1 (z : Nat) : SC := .post (.seq (.reg [⟨(some 11), (Op.binOp BinOp.lss 3 (Operand.tmp 10) (Operand.tmp 9) 3), none, ann0⟩] none)
 (.seq (.cond (Operand.tmp 11) .skip
 (.exit 0))
 (.seq (.post (.block 1 (.seq (.reg [⟨(some 12), (Op.move (Operand.tmp 10)), none, ann0⟩,
  ⟨(some 7), (Op.assign (Operand.tmp 12)), none, ann0⟩] none)
 (.seq (.post (.reg [⟨(some 13), (Op.move (Operand.tmp 0)), none, ann0⟩,
  ⟨(some 14), (Op.move (Operand.tmp 7)), none, ann0⟩,
  ⟨(some 15), (Op.index 9 (Operand.tmp 13) (Operand.tmp 14)), none, ann0⟩,
  ⟨(some 16), (Op.move (Operand.tmp 1)), none, ann0⟩,
  ⟨(some 17), (Op.binOp BinOp.lss 5 (Operand.tmp 15) (Operand.tmp 16) 5), none, ann0⟩,
  ⟨(some 18), (Op.move (Operand.tmp 17)), none, ann0⟩,
  ⟨(some 19), (Op.move (Operand.tmp 0)), (some (18, false)), ann0⟩,
  ⟨(some 20), (Op.move (Operand.tmp 7)), (some (18, false)), ann0⟩,
  ⟨(some 21), (Op.index 9 (Operand.tmp 19) (Operand.tmp 20)), (some (18, false)), ann0⟩,
  ⟨(some 22), (Op.move (Operand.tmp 2)), (some (18, false)), ann0⟩,
  ⟨(some 23), (Op.binOp BinOp.gtr 5 (Operand.tmp 21) (Operand.tmp 22) 5), (some (18, false)), ann0⟩,
  ⟨(some 24), (Op.pick (Operand.tmp 18) (Operand.const (Value.bool true)) (Operand.tmp 23)), none, ann0⟩] none) (.tidy [0, 1, 2, 9, 10, 24] z (z + 0)))
 (.cond (Operand.tmp 24) (.seq (.reg [⟨(some 6), (Op.assign (Operand.const (Value.bool false))), none, ann0⟩] none)
 .ret)
 .skip)))) (.tidy [0, 1, 2, 9, 10] z (z + 0)))
 (.reg [⟨(some 25), (Op.binOp BinOp.add 3 (Operand.tmp 10) (Operand.const (Value.int IntKind.i64 1)) 3), none, ann0⟩,
  ⟨(some 10), (Op.move (Operand.tmp 25)), none, ann0⟩] none)))) (.tidy [0, 1, 2, 9, 10] z (z + 0))
def s47_1 (z : Nat) : SC := c47_1 z
theorem e47_1 {C : Pg} {z : Nat} {st : St} {ks : List Fr} {K : Ex → St → Prop} : wpk C (s47_1 z) st ks K ↔ wpk C (c47_1 z) st ks K := Iff.rfl
def s47 (z : Nat) : SFn := ⟨3, 26, [(ResultVar.tmp 6)],
 (.seq (.reg [⟨(some 6), (Op.assign (Operand.const (Value.bool false))), none, ann0⟩] none)
 (.seq (.post (.seq (.reg [⟨(some 8), (Op.move (Operand.tmp 0)), none, ann0⟩,
  ⟨(some 9), (Op.call { callee := (Callee.builtin Builtin.len), args := #[(Operand.tmp 8)], argTypes := #[9] }), none, ann0⟩,
  ⟨(some 10), (Op.move (Operand.const (Value.int IntKind.i64 0))), none, ann0⟩] none)
 (.post (.block 0 (.pre (.tidy [0, 1, 2, 9, 10] z (z + 0)) (.loop (s47_1 z)))) (.tidy [] z (z + 0)))) (.tidy [] z (z + 0)))
 (.seq (.reg [⟨(some 6), (Op.assign (Operand.const (Value.bool true))), none, ann0⟩] none)
 .ret)))⟩
theorem F47 (z : Nat) : FOk Try.prog 47 (s47 z) := by unfold FOk; kernel_rfl
def s49 (z : Nat) : SFn := ⟨2, 14, [],
 (.seq (.reg [⟨(some 5), (Op.move (Operand.tmp 0)), none, ann0⟩,
  ⟨(some 6), (Op.call { callee := (Callee.builtin Builtin.len), args := #[(Operand.tmp 5)], argTypes := #[26] }), none, ann0⟩,
  ⟨(some 4), (Op.assign (Operand.tmp 6)), none, ann0⟩] none)
 (.reg [⟨(some 7), (Op.move (Operand.tmp 0)), none, ann0⟩,
  ⟨(some 8), (Op.move (Operand.tmp 4)), none, ann0⟩,
  ⟨(some 9), (Op.move (Operand.tmp 4)), none, ann0⟩,
  ⟨(some 10), (Op.convert 3 85 (Operand.tmp 9)), none, ann0⟩,
  ⟨(some 11), (Op.call { callee := (Callee.value (Operand.func 53)), args := #[(Operand.tmp 10)], argTypes := #[85] }), none, ann0⟩,
  ⟨(some 12), (Op.move (Operand.tmp 1)), none, ann0⟩,
  ⟨(some 13), (Op.call { callee := (Callee.value (Operand.func 57)), args := #[(Operand.tmp 7), (Operand.const (Value.int IntKind.i64 0)), (Operand.tmp 8), (Operand.tmp 11), (Operand.tmp 12)], argTypes := #[26, 3, 3, 3, 82] }), none, ann0⟩] none))⟩
theorem F49 (z : Nat) : FOk Try.prog 49 (s49 z) := by unfold FOk; kernel_rfl
def s50 (z : Nat) : SFn := ⟨2, 10, [(ResultVar.tmp 4)],
 (.seq (.reg [⟨(some 2), (Op.box 25 (Operand.tmp 0)), none, ⟨1, false, false⟩⟩,
  ⟨(some 3), (Op.box 25 (Operand.tmp 1)), none, ⟨1, false, false⟩⟩,
  ⟨(some 4), (Op.assign (Operand.const (Value.int IntKind.i64 0))), none, ann0⟩] none)
 (.seq (.reg [⟨(some 5), (Op.fieldAddr 25 (Operand.tmp 2) 0), none, ann0⟩,
  ⟨(some 6), (Op.load 9 (Operand.tmp 5)), none, ann0⟩,
  ⟨(some 7), (Op.fieldAddr 25 (Operand.tmp 3) 0), none, ann0⟩,
  ⟨(some 8), (Op.load 9 (Operand.tmp 7)), none, ann0⟩,
  ⟨(some 9), (Op.call { callee := (Callee.value (Operand.func 51)), args := #[(Operand.tmp 6), (Operand.tmp 8)], argTypes := #[9, 9] }), none, ann0⟩,
  ⟨(some 4), (Op.assign (Operand.tmp 9)), none, ann0⟩] none)
 .ret))⟩
theorem F50 (z : Nat) : FOk Try.prog 50 (s50 z) := by unfold FOk; kernel_rfl
def s51 (z : Nat) : SFn := ⟨2, 20, [(ResultVar.tmp 4)],
 (.seq (.reg [⟨(some 4), (Op.assign (Operand.const (Value.int IntKind.i64 0))), none, ann0⟩] none)
 (.seq (.reg [⟨(some 7), (Op.move (Operand.tmp 0)), none, ann0⟩,
  ⟨(some 8), (Op.call { callee := (Callee.value (Operand.func 58)), args := #[(Operand.tmp 7)], argTypes := #[9] }), none, ann0⟩,
  ⟨(some 5), (Op.assign (Operand.tmp 8)), none, ann0⟩] none)
 (.seq (.reg [⟨(some 9), (Op.move (Operand.tmp 1)), none, ann0⟩,
  ⟨(some 10), (Op.call { callee := (Callee.value (Operand.func 58)), args := #[(Operand.tmp 9)], argTypes := #[9] }), none, ann0⟩,
  ⟨(some 6), (Op.assign (Operand.tmp 10)), none, ann0⟩] none)
 (.seq (.seq (.reg [⟨(some 11), (Op.move (Operand.tmp 5)), none, ann0⟩] none)
 (.cond (Operand.tmp 11) (.seq (.post (.seq (.reg [⟨(some 12), (Op.move (Operand.tmp 6)), none, ann0⟩] none)
 (.cond (Operand.tmp 12) (.seq (.reg [⟨(some 4), (Op.assign (Operand.const (Value.int IntKind.i64 0))), none, ann0⟩] none)
 .ret)
 .skip)) (.tidy [] z (z + 0)))
 (.seq (.reg [⟨(some 4), (Op.assign (Operand.const (Value.int IntKind.i64 (-1)))), none, ann0⟩] none)
 .ret))
 .skip))
 (.seq (.seq (.reg [⟨(some 13), (Op.move (Operand.tmp 6)), none, ann0⟩] none)
 (.cond (Operand.tmp 13) (.seq (.reg [⟨(some 4), (Op.assign (Operand.const (Value.int IntKind.i64 1))), none, ann0⟩] none)
 .ret)
 .skip))
 (.seq (.seq (.post (.reg [⟨(some 14), (Op.move (Operand.tmp 0)), none, ann0⟩,
  ⟨(some 15), (Op.move (Operand.tmp 1)), none, ann0⟩,
  ⟨(some 16), (Op.binOp BinOp.lss 9 (Operand.tmp 14) (Operand.tmp 15) 9), none, ann0⟩] none) (.tidy [0, 1, 16] z (z + 0)))
 (.cond (Operand.tmp 16) (.seq (.reg [⟨(some 4), (Op.assign (Operand.const (Value.int IntKind.i64 (-1)))), none, ann0⟩] none)
 .ret)
 .skip))
 (.seq (.seq (.post (.reg [⟨(some 17), (Op.move (Operand.tmp 0)), none, ann0⟩,
  ⟨(some 18), (Op.move (Operand.tmp 1)), none, ann0⟩,
  ⟨(some 19), (Op.binOp BinOp.gtr 9 (Operand.tmp 17) (Operand.tmp 18) 9), none, ann0⟩] none) (.tidy [19] z (z + 0)))
 (.cond (Operand.tmp 19) (.seq (.reg [⟨(some 4), (Op.assign (Operand.const (Value.int IntKind.i64 1))), none, ann0⟩] none)
 .ret)
 .skip))
 (.seq (.reg [⟨(some 4), (Op.assign (Operand.const (Value.int IntKind.i64 0))), none, ann0⟩] none)
 .ret))))))))⟩
theorem F51 (z : Nat) : FOk Try.prog 51 (s51 z) := by unfold FOk; kernel_rfl
def t52_106 (z : Nat) : SC := (.seq (.post (.reg [⟨(some 106), (Op.move (Operand.tmp 0)), none, ann0⟩,
  ⟨(some 107), (Op.move (Operand.tmp 1)), none, ann0⟩,
  ⟨(some 108), (Op.move (Operand.tmp 2)), none, ann0⟩,
  ⟨(some 109), (Op.move (Operand.tmp 13)), none, ann0⟩,
  ⟨(some 110), (Op.move (Operand.tmp 4)), none, ann0⟩,
  ⟨(some 111), (Op.call { callee := (Callee.value (Operand.func 66)), args := #[(Operand.tmp 106), (Operand.tmp 107), (Operand.tmp 108), (Operand.tmp 109), (Operand.tmp 110)], argTypes := #[74, 3, 3, 3, 76] }), none, ann0⟩,
  ⟨(some 105), (Op.move (Operand.tmp 111)), none, ann0⟩,
  ⟨(some 112), (Op.extract (Operand.tmp 105) 0), none, ann0⟩,
  ⟨(some 113), (Op.extract (Operand.tmp 105) 1), none, ann0⟩,
  ⟨(some 16), (Op.assign (Operand.tmp 112)), none, ann0⟩,
  ⟨(some 17), (Op.assign (Operand.tmp 113)), none, ann0⟩] none) (.tidy [0, 1, 2, 3, 4, 12, 16, 17] z (z + 0)))
 (.seq (.reg [⟨(some 114), (Op.move (Operand.tmp 17)), none, ann0⟩,
  ⟨(some 11), (Op.assign (Operand.tmp 114)), none, ann0⟩] none)
 (.seq (.post (.reg [⟨(some 115), (Op.move (Operand.tmp 16)), none, ann0⟩,
  ⟨(some 116), (Op.move (Operand.tmp 1)), none, ann0⟩,
  ⟨(some 117), (Op.binOp BinOp.sub 3 (Operand.tmp 115) (Operand.tmp 116) 3), none, ann0⟩,
  ⟨(some 118), (Op.move (Operand.tmp 2)), none, ann0⟩,
  ⟨(some 119), (Op.move (Operand.tmp 16)), none, ann0⟩,
  ⟨(some 120), (Op.binOp BinOp.sub 3 (Operand.tmp 118) (Operand.tmp 119) 3), none, ann0⟩,
  ⟨(some 18), (Op.assign (Operand.tmp 117)), none, ann0⟩,
  ⟨(some 19), (Op.assign (Operand.tmp 120)), none, ann0⟩] none) (.tidy [0, 1, 2, 3, 4, 11, 12, 16, 18, 19] z (z + 0)))
 (.seq (.reg [⟨(some 121), (Op.move (Operand.tmp 12)), none, ann0⟩,
  ⟨(some 122), (Op.binOp BinOp.quo 3 (Operand.tmp 121) (Operand.const (Value.int IntKind.i64 8)) 3), none, ann0⟩,
  ⟨(some 20), (Op.assign (Operand.tmp 122)), none, ann0⟩] none)
 (.seq (.reg [⟨(some 123), (Op.move (Operand.tmp 18)), none, ann0⟩,
  ⟨(some 124), (Op.move (Operand.tmp 19)), none, ann0⟩,
  ⟨(some 125), (Op.binOp BinOp.lss 3 (Operand.tmp 123) (Operand.tmp 124) 3), none, ann0⟩] none)
 (.cond (Operand.tmp 125) (.seq (.post (.reg [⟨(some 126), (Op.move (Operand.tmp 18)), none, ann0⟩,
  ⟨(some 127), (Op.move (Operand.tmp 20)), none, ann0⟩,
  ⟨(some 128), (Op.binOp BinOp.geq 3 (Operand.tmp 126) (Operand.tmp 127) 3), none, ann0⟩,
  ⟨(some 10), (Op.assign (Operand.tmp 128)), none, ann0⟩] none) (.tidy [0, 1, 2, 3, 4, 10, 11, 16] z (z + 0)))
 (.seq (.post (.reg [⟨(some 129), (Op.move (Operand.tmp 0)), none, ann0⟩,
  ⟨(some 130), (Op.move (Operand.tmp 1)), none, ann0⟩,
  ⟨(some 131), (Op.move (Operand.tmp 16)), none, ann0⟩,
  ⟨(some 132), (Op.move (Operand.tmp 3)), none, ann0⟩,
  ⟨(some 133), (Op.move (Operand.tmp 4)), none, ann0⟩,
  ⟨(some 134), (Op.call { callee := (Callee.value (Operand.func 52)), args := #[(Operand.tmp 129), (Operand.tmp 130), (Operand.tmp 131), (Operand.tmp 132), (Operand.tmp 133)], argTypes := #[74, 3, 3, 3, 76] }), none, ann0⟩] none) (.tidy [0, 2, 3, 4, 10, 11, 16] z (z + 0)))
 (.reg [⟨(some 135), (Op.move (Operand.tmp 16)), none, ann0⟩,
  ⟨(some 136), (Op.binOp BinOp.add 3 (Operand.tmp 135) (Operand.const (Value.int IntKind.i64 1)) 3), none, ann0⟩,
  ⟨(some 1), (Op.assign (Operand.tmp 136)), none, ann0⟩] none)))
 (.seq (.reg [⟨(some 137), (Op.move (Operand.tmp 19)), none, ann0⟩,
  ⟨(some 138), (Op.move (Operand.tmp 20)), none, ann0⟩,
  ⟨(some 139), (Op.binOp BinOp.geq 3 (Operand.tmp 137) (Operand.tmp 138) 3), none, ann0⟩,
  ⟨(some 10), (Op.assign (Operand.tmp 139)), none, ann0⟩] none)
 (.seq (.post (.reg [⟨(some 140), (Op.move (Operand.tmp 0)), none, ann0⟩,
  ⟨(some 141), (Op.move (Operand.tmp 16)), none, ann0⟩,
  ⟨(some 142), (Op.binOp BinOp.add 3 (Operand.tmp 141) (Operand.const (Value.int IntKind.i64 1)) 3), none, ann0⟩,
  ⟨(some 143), (Op.move (Operand.tmp 2)), none, ann0⟩,
  ⟨(some 144), (Op.move (Operand.tmp 3)), none, ann0⟩,
  ⟨(some 145), (Op.move (Operand.tmp 4)), none, ann0⟩,
  ⟨(some 146), (Op.call { callee := (Callee.value (Operand.func 52)), args := #[(Operand.tmp 140), (Operand.tmp 142), (Operand.tmp 143), (Operand.tmp 144), (Operand.tmp 145)], argTypes := #[74, 3, 3, 3, 76] }), none, ann0⟩] none) (.tidy [0, 1, 3, 4, 10, 11, 16] z (z + 0)))
 (.reg [⟨(some 147), (Op.move (Operand.tmp 16)), none, ann0⟩,
  ⟨(some 2), (Op.assign (Operand.tmp 147)), none, ann0⟩] none)))))))))
def t52_81 (z : Nat) : SC := (.seq (.post (.seq (.post (.reg [⟨(some 81), (Op.move (Operand.tmp 1)), none, ann0⟩,
  ⟨(some 82), (Op.binOp BinOp.gtr 3 (Operand.tmp 81) (Operand.const (Value.int IntKind.i64 0)) 3), none, ann0⟩,
  ⟨(some 83), (Op.move (Operand.tmp 82)), none, ann0⟩,
  ⟨(some 84), (Op.move (Operand.tmp 4)), (some (83, true)), ann0⟩,
  ⟨(some 85), (Op.move (Operand.tmp 0)), (some (83, true)), ann0⟩,
  ⟨(some 86), (Op.move (Operand.tmp 1)), (some (83, true)), ann0⟩,
  ⟨(some 87), (Op.binOp BinOp.sub 3 (Operand.tmp 86) (Operand.const (Value.int IntKind.i64 1)) 3), (some (83, true)), ann0⟩,
  ⟨(some 88), (Op.indexAddr 74 (Operand.tmp 85) (Operand.tmp 87)), (some (83, true)), ann0⟩,
  ⟨(some 89), (Op.load 3 (Operand.tmp 88)), (some (83, true)), ann0⟩,
  ⟨(some 90), (Op.move (Operand.tmp 0)), (some (83, true)), ann0⟩,
  ⟨(some 91), (Op.move (Operand.tmp 13)), (some (83, true)), ann0⟩,
  ⟨(some 92), (Op.indexAddr 74 (Operand.tmp 90) (Operand.tmp 91)), (some (83, true)), ann0⟩,
  ⟨(some 93), (Op.load 3 (Operand.tmp 92)), (some (83, true)), ann0⟩,
  ⟨(some 94), (Op.call { callee := (Callee.value (Operand.tmp 84)), args := #[(Operand.tmp 89), (Operand.tmp 93)], argTypes := #[3, 3] }), (some (83, true)), ann0⟩,
  ⟨(some 95), (Op.binOp BinOp.lss 3 (Operand.tmp 94) (Operand.const (Value.int IntKind.i64 0)) 3), (some (83, true)), ann0⟩,
  ⟨(some 96), (Op.unOp UnOp.not 4 (Operand.tmp 95)), (some (83, true)), ann0⟩,
  ⟨(some 97), (Op.pick (Operand.tmp 83) (Operand.tmp 96) (Operand.const (Value.bool false))), none, ann0⟩] (some [0, 1, 3, 7, 7, 7, 39, 119, 247, 7, 7, 1543, 3591, 8191, 16383, 32767, 65535])) (.tidy [0, 1, 2, 3, 4, 10, 11, 12, 13, 97] z (z + 0)))
 (.cond (Operand.tmp 97) (.seq (.post (.reg [⟨(some 98), (Op.move (Operand.tmp 0)), none, ann0⟩,
  ⟨(some 99), (Op.move (Operand.tmp 1)), none, ann0⟩,
  ⟨(some 100), (Op.move (Operand.tmp 2)), none, ann0⟩,
  ⟨(some 101), (Op.move (Operand.tmp 13)), none, ann0⟩,
  ⟨(some 102), (Op.move (Operand.tmp 4)), none, ann0⟩,
  ⟨(some 103), (Op.call { callee := (Callee.value (Operand.func 65)), args := #[(Operand.tmp 98), (Operand.tmp 99), (Operand.tmp 100), (Operand.tmp 101), (Operand.tmp 102)], argTypes := #[74, 3, 3, 3, 76] }), none, ann0⟩,
  ⟨(some 15), (Op.assign (Operand.tmp 103)), none, ann0⟩] none) (.tidy [0, 2, 3, 4, 10, 11, 15] z (z + 0)))
 (.seq (.reg [⟨(some 104), (Op.move (Operand.tmp 15)), none, ann0⟩,
  ⟨(some 1), (Op.assign (Operand.tmp 104)), none, ann0⟩] none)
 (.exit 1)))
 .skip)) (.tidy [0, 1, 2, 3, 4, 12, 13] z (z + 0)))
 (t52_106 z))
def t52_68 (z : Nat) : SC := (.seq (.post (.seq (.post (.reg [⟨(some 68), (Op.move (Operand.tmp 10)), none, ann0⟩,
  ⟨(some 69), (Op.move (Operand.tmp 68)), none, ann0⟩,
  ⟨(some 70), (Op.move (Operand.tmp 11)), (some (69, true)), ann0⟩,
  ⟨(some 71), (Op.pick (Operand.tmp 69) (Operand.tmp 70) (Operand.const (Value.bool false))), none, ann0⟩,
  ⟨(some 72), (Op.move (Operand.tmp 71)), none, ann0⟩,
  ⟨(some 73), (Op.move (Operand.tmp 14)), (some (72, true)), ann0⟩,
  ⟨(some 74), (Op.binOp BinOp.eql 90 (Operand.tmp 73) (Operand.const (Value.int IntKind.i64 1)) 90), (some (72, true)), ann0⟩,
  ⟨(some 75), (Op.pick (Operand.tmp 72) (Operand.tmp 74) (Operand.const (Value.bool false))), none, ann0⟩] none) (.tidy [0, 1, 2, 3, 4, 10, 11, 12, 13, 75] z (z + 0)))
 (.cond (Operand.tmp 75) (.seq (.reg [⟨(some 76), (Op.move (Operand.tmp 0)), none, ann0⟩,
  ⟨(some 77), (Op.move (Operand.tmp 1)), none, ann0⟩,
  ⟨(some 78), (Op.move (Operand.tmp 2)), none, ann0⟩,
  ⟨(some 79), (Op.move (Operand.tmp 4)), none, ann0⟩,
  ⟨(some 80), (Op.call { callee := (Callee.value (Operand.func 64)), args := #[(Operand.tmp 76), (Operand.tmp 77), (Operand.tmp 78), (Operand.tmp 79)], argTypes := #[74, 3, 3, 76] }), none, ann0⟩] none)
 (.cond (Operand.tmp 80) .ret
 .skip))
 .skip)) (.tidy [0, 1, 2, 3, 4, 10, 11, 12, 13] z (z + 0)))
 (t52_81 z))
def t52_48 (z : Nat) : SC := (.seq (.post (.reg [⟨(some 48), (Op.move (Operand.tmp 0)), none, ann0⟩,
  ⟨(some 49), (Op.move (Operand.tmp 1)), none, ann0⟩,
  ⟨(some 50), (Op.move (Operand.tmp 2)), none, ann0⟩,
  ⟨(some 51), (Op.move (Operand.tmp 4)), none, ann0⟩,
  ⟨(some 52), (Op.call { callee := (Callee.value (Operand.func 62)), args := #[(Operand.tmp 48), (Operand.tmp 49), (Operand.tmp 50), (Operand.tmp 51)], argTypes := #[74, 3, 3, 76] }), none, ann0⟩,
  ⟨(some 47), (Op.move (Operand.tmp 52)), none, ann0⟩,
  ⟨(some 53), (Op.extract (Operand.tmp 47) 0), none, ann0⟩,
  ⟨(some 54), (Op.extract (Operand.tmp 47) 1), none, ann0⟩,
  ⟨(some 13), (Op.assign (Operand.tmp 53)), none, ann0⟩,
  ⟨(some 14), (Op.assign (Operand.tmp 54)), none, ann0⟩] none) (.tidy [0, 1, 2, 3, 4, 10, 11, 12, 13, 14] z (z + 0)))
 (.seq (.post (.seq (.reg [⟨(some 55), (Op.move (Operand.tmp 14)), none, ann0⟩,
  ⟨(some 56), (Op.binOp BinOp.eql 90 (Operand.tmp 55) (Operand.const (Value.int IntKind.i64 2)) 90), none, ann0⟩] none)
 (.cond (Operand.tmp 56) (.seq (.post (.reg [⟨(some 57), (Op.move (Operand.tmp 0)), none, ann0⟩,
  ⟨(some 58), (Op.move (Operand.tmp 1)), none, ann0⟩,
  ⟨(some 59), (Op.move (Operand.tmp 2)), none, ann0⟩,
  ⟨(some 60), (Op.move (Operand.tmp 4)), none, ann0⟩,
  ⟨(some 61), (Op.call { callee := (Callee.value (Operand.func 63)), args := #[(Operand.tmp 57), (Operand.tmp 58), (Operand.tmp 59), (Operand.tmp 60)], argTypes := #[74, 3, 3, 76] }), none, ann0⟩] none) (.tidy [0, 1, 2, 3, 4, 10, 11, 12, 13] z (z + 0)))
 (.seq (.post (.reg [⟨(some 62), (Op.move (Operand.tmp 2)), none, ann0⟩,
  ⟨(some 63), (Op.binOp BinOp.sub 3 (Operand.tmp 62) (Operand.const (Value.int IntKind.i64 1)) 3), none, ann0⟩,
  ⟨(some 64), (Op.move (Operand.tmp 13)), none, ann0⟩,
  ⟨(some 65), (Op.move (Operand.tmp 1)), none, ann0⟩,
  ⟨(some 66), (Op.binOp BinOp.sub 3 (Operand.tmp 64) (Operand.tmp 65) 3), none, ann0⟩,
  ⟨(some 67), (Op.binOp BinOp.sub 3 (Operand.tmp 63) (Operand.tmp 66) 3), none, ann0⟩,
  ⟨(some 13), (Op.assign (Operand.tmp 67)), none, ann0⟩] none) (.tidy [0, 1, 2, 3, 4, 10, 11, 12, 13] z (z + 0)))
 (.reg [⟨(some 14), (Op.assign (Operand.const (Value.int IntKind.i64 1))), none, ann0⟩] none)))
 .skip)) (.tidy [0, 1, 2, 3, 4, 10, 11, 12, 13, 14] z (z + 0)))
 (t52_68 z)))
def c52_1 (z : Nat) : SC := .post (.block 1 (.seq (.reg [⟨(some 21), (Op.move (Operand.tmp 2)), none, ann0⟩,
  ⟨(some 22), (Op.move (Operand.tmp 1)), none, ann0⟩,
  ⟨(some 23), (Op.binOp BinOp.sub 3 (Operand.tmp 21) (Operand.tmp 22) 3), none, ann0⟩,
  ⟨(some 12), (Op.assign (Operand.tmp 23)), none, ann0⟩] none)
 (.seq (.post (.seq (.reg [⟨(some 24), (Op.move (Operand.tmp 12)), none, ann0⟩,
  ⟨(some 25), (Op.binOp BinOp.leq 3 (Operand.tmp 24) (Operand.const (Value.int IntKind.i64 12)) 3), none, ann0⟩] none)
 (.cond (Operand.tmp 25) (.seq (.reg [⟨(some 26), (Op.move (Operand.tmp 0)), none, ann0⟩,
  ⟨(some 27), (Op.move (Operand.tmp 1)), none, ann0⟩,
  ⟨(some 28), (Op.move (Operand.tmp 2)), none, ann0⟩,
  ⟨(some 29), (Op.move (Operand.tmp 4)), none, ann0⟩,
  ⟨(some 30), (Op.call { callee := (Callee.value (Operand.func 59)), args := #[(Operand.tmp 26), (Operand.tmp 27), (Operand.tmp 28), (Operand.tmp 29)], argTypes := #[74, 3, 3, 76] }), none, ann0⟩] none)
 .ret)
 .skip)) (.tidy [0, 1, 2, 3, 4, 10, 11, 12] z (z + 0)))
 (.seq (.post (.seq (.reg [⟨(some 31), (Op.move (Operand.tmp 3)), none, ann0⟩,
  ⟨(some 32), (Op.binOp BinOp.eql 3 (Operand.tmp 31) (Operand.const (Value.int IntKind.i64 0)) 3), none, ann0⟩] none)
 (.cond (Operand.tmp 32) (.seq (.reg [⟨(some 33), (Op.move (Operand.tmp 0)), none, ann0⟩,
  ⟨(some 34), (Op.move (Operand.tmp 1)), none, ann0⟩,
  ⟨(some 35), (Op.move (Operand.tmp 2)), none, ann0⟩,
  ⟨(some 36), (Op.move (Operand.tmp 4)), none, ann0⟩,
  ⟨(some 37), (Op.call { callee := (Callee.value (Operand.func 60)), args := #[(Operand.tmp 33), (Operand.tmp 34), (Operand.tmp 35), (Operand.tmp 36)], argTypes := #[74, 3, 3, 76] }), none, ann0⟩] none)
 .ret)
 .skip)) (.tidy [0, 1, 2, 3, 4, 10, 11, 12] z (z + 0)))
 (.seq (.post (.seq (.reg [⟨(some 38), (Op.move (Operand.tmp 10)), none, ann0⟩,
  ⟨(some 39), (Op.unOp UnOp.not 4 (Operand.tmp 38)), none, ann0⟩] none)
 (.cond (Operand.tmp 39) (.seq (.post (.reg [⟨(some 40), (Op.move (Operand.tmp 0)), none, ann0⟩,
  ⟨(some 41), (Op.move (Operand.tmp 1)), none, ann0⟩,
  ⟨(some 42), (Op.move (Operand.tmp 2)), none, ann0⟩,
  ⟨(some 43), (Op.move (Operand.tmp 4)), none, ann0⟩,
  ⟨(some 44), (Op.call { callee := (Callee.value (Operand.func 61)), args := #[(Operand.tmp 40), (Operand.tmp 41), (Operand.tmp 42), (Operand.tmp 43)], argTypes := #[74, 3, 3, 76] }), none, ann0⟩] none) (.tidy [0, 1, 2, 3, 4, 10, 11, 12] z (z + 0)))
 (.reg [⟨(some 45), (Op.move (Operand.tmp 3)), none, ann0⟩,
  ⟨(some 46), (Op.binOp BinOp.sub 3 (Operand.tmp 45) (Operand.const (Value.int IntKind.i64 1)) 3), none, ann0⟩,
  ⟨(some 3), (Op.assign (Operand.tmp 46)), none, ann0⟩] none))
 .skip)) (.tidy [0, 1, 2, 3, 4, 10, 11, 12] z (z + 0)))
 (t52_48 z)))))) (.tidy [0, 1, 2, 3, 4, 10, 11] z (z + 0))
def s52_1 (z : Nat) : SC := c52_1 z
theorem e52_1 {C : Pg} {z : Nat} {st : St} {ks : List Fr} {K : Ex → St → Prop} : wpk C (s52_1 z) st ks K ↔ wpk C (c52_1 z) st ks K := Iff.rfl
def s52 (z : Nat) : SFn := ⟨5, 148, [],
 (.seq (.reg [⟨(some 10), (Op.assign (Operand.const (Value.bool true))), none, ann0⟩] none)
 (.seq (.reg [⟨(some 11), (Op.assign (Operand.const (Value.bool true))), none, ann0⟩] none)
 (.post (.block 0 (.pre (.tidy [0, 1, 2, 3, 4, 10, 11] z (z + 0)) (.loop (s52_1 z)))) (.tidy [] z (z + 0)))))⟩
theorem F52 (z : Nat) : FOk Try.prog 52 (s52 z) := by unfold FOk; kernel_rfl
def s53 (z : Nat) : SFn := ⟨1, 8, [(ResultVar.tmp 2)],
 (.seq (.reg [⟨(some 2), (Op.assign (Operand.const (Value.int IntKind.i64 0))), none, ann0⟩] none)
 (.seq (.post (.cond (Operand.const (Value.bool false)) (.seq (.reg [⟨(some 3), (Op.move (Operand.tmp 0)), none, ann0⟩,
  ⟨(some 4), (Op.convert 85 22 (Operand.tmp 3)), none, ann0⟩,
  ⟨(some 5), (Op.call { callee := (Callee.value (Operand.func 67)), args := #[(Operand.tmp 4)], argTypes := #[22] }), none, ann0⟩,
  ⟨(some 2), (Op.assign (Operand.tmp 5)), none, ann0⟩] none)
 .ret)
 .skip) (.tidy [0] z (z + 0)))
 (.seq (.reg [⟨(some 6), (Op.move (Operand.tmp 0)), none, ann0⟩,
  ⟨(some 7), (Op.call { callee := (Callee.value (Operand.func 68)), args := #[(Operand.tmp 6)], argTypes := #[98] }), none, ann0⟩,
  ⟨(some 2), (Op.assign (Operand.tmp 7)), none, ann0⟩] none)
 .ret)))⟩
theorem F53 (z : Nat) : FOk Try.prog 53 (s53 z) := by unfold FOk; kernel_rfl
def s54 (z : Nat) : SFn := ⟨1, 6, [(ResultVar.tmp 2)],
 (.seq (.reg [⟨(some 2), (Op.assign (Operand.const (Value.bool false))), none, ann0⟩] none)
 (.seq (.reg [⟨(some 3), (Op.move (Operand.tmp 0)), none, ann0⟩,
  ⟨(some 4), (Op.move (Operand.tmp 0)), none, ann0⟩,
  ⟨(some 5), (Op.binOp BinOp.neq 3 (Operand.tmp 3) (Operand.tmp 4) 3), none, ann0⟩,
  ⟨(some 2), (Op.assign (Operand.tmp 5)), none, ann0⟩] none)
 .ret))⟩
theorem F54 (z : Nat) : FOk Try.prog 54 (s54 z) := by unfold FOk; kernel_rfl
def c56_1 (z : Nat) : SC := .post (.seq (.reg [⟨(some 9), (Op.binOp BinOp.lss 3 (Operand.tmp 8) (Operand.tmp 7) 3), none, ann0⟩] none)
 (.seq (.cond (Operand.tmp 9) .skip
 (.exit 0))
 (.seq (.post (.block 1 (.seq (.reg [⟨(some 10), (Op.indexAddr 74 (Operand.tmp 6) (Operand.tmp 8)), none, ann0⟩,
  ⟨(some 11), (Op.load 3 (Operand.tmp 10)), none, ann0⟩,
  ⟨(some 5), (Op.assign (Operand.tmp 11)), none, ann0⟩] none)
 (.seq (.reg [⟨(some 12), (Op.move (Operand.tmp 5)), none, ann0⟩,
  ⟨(some 13), (Op.move (Operand.tmp 3)), none, ann0⟩,
  ⟨(some 14), (Op.binOp BinOp.neq 3 (Operand.tmp 12) (Operand.tmp 13) 3), none, ann0⟩] none)
 (.cond (Operand.tmp 14) (.seq (.reg [⟨(some 15), (Op.move (Operand.tmp 5)), none, ann0⟩,
  ⟨(some 2), (Op.assign (Operand.tmp 15)), none, ann0⟩] none)
 .ret)
 .skip)))) (.tidy [3, 6, 7, 8] z (z + 0)))
 (.reg [⟨(some 16), (Op.binOp BinOp.add 3 (Operand.tmp 8) (Operand.const (Value.int IntKind.i64 1)) 3), none, ann0⟩,
  ⟨(some 8), (Op.move (Operand.tmp 16)), none, ann0⟩] none)))) (.tidy [3, 6, 7, 8] z (z + 0))
def s56_1 (z : Nat) : SC := c56_1 z
theorem e56_1 {C : Pg} {z : Nat} {st : St} {ks : List Fr} {K : Ex → St → Prop} : wpk C (s56_1 z) st ks K ↔ wpk C (c56_1 z) st ks K := Iff.rfl
def s56 (z : Nat) : SFn := ⟨1, 18, [(ResultVar.tmp 2)],
 (.seq (.reg [⟨(some 2), (Op.assign (Operand.const (Value.int IntKind.i64 0))), none, ann0⟩] none)
 (.seq (.reg [⟨(some 3), (Op.assign (Operand.const (Value.int IntKind.i64 0))), none, ann0⟩] none)
 (.seq (.post (.seq (.reg [⟨(some 6), (Op.move (Operand.tmp 0)), none, ann0⟩,
  ⟨(some 7), (Op.call { callee := (Callee.builtin Builtin.len), args := #[(Operand.tmp 6)], argTypes := #[74] }), none, ann0⟩,
  ⟨(some 8), (Op.move (Operand.const (Value.int IntKind.i64 0))), none, ann0⟩] none)
 (.post (.block 0 (.pre (.tidy [3, 6, 7, 8] z (z + 0)) (.loop (s56_1 z)))) (.tidy [3] z (z + 0)))) (.tidy [3] z (z + 0)))
 (.seq (.reg [⟨(some 17), (Op.move (Operand.tmp 3)), none, ann0⟩,
  ⟨(some 2), (Op.assign (Operand.tmp 17)), none, ann0⟩] none)
 .ret))))⟩
theorem F56 (z : Nat) : FOk Try.prog 56 (s56 z) := by unfold FOk; kernel_rfl
def c57_1 (z : Nat) : SC := .post (.block 1 (.seq (.reg [⟨(some 21), (Op.move (Operand.tmp 2)), none, ann0⟩,
  ⟨(some 22), (Op.move (Operand.tmp 1)), none, ann0⟩,
  ⟨(some 23), (Op.binOp BinOp.sub 3 (Operand.tmp 21) (Operand.tmp 22) 3), none, ann0⟩,
  ⟨(some 12), (Op.assign (Operand.tmp 23)), none, ann0⟩] none)
 (.seq (.post (.seq (.reg [⟨(some 24), (Op.move (Operand.tmp 12)), none, ann0⟩,
  ⟨(some 25), (Op.binOp BinOp.leq 3 (Operand.tmp 24) (Operand.const (Value.int IntKind.i64 12)) 3), none, ann0⟩] none)
 (.cond (Operand.tmp 25) (.seq (.reg [⟨(some 26), (Op.move (Operand.tmp 0)), none, ann0⟩,
  ⟨(some 27), (Op.move (Operand.tmp 1)), none, ann0⟩,
  ⟨(some 28), (Op.move (Operand.tmp 2)), none, ann0⟩,
  ⟨(some 29), (Op.move (Operand.tmp 4)), none, ann0⟩,
  ⟨(some 30), (Op.call { callee := (Callee.value (Operand.func 69)), args := #[(Operand.tmp 26), (Operand.tmp 27), (Operand.tmp 28), (Operand.tmp 29)], argTypes := #[26, 3, 3, 82] }), none, ann0⟩] none)
 .ret)
 .skip)) (.tidy [0, 1, 2, 3, 4, 10, 11, 12] z (z + 0)))
 (.seq (.post (.seq (.reg [⟨(some 31), (Op.move (Operand.tmp 3)), none, ann0⟩,
  ⟨(some 32), (Op.binOp BinOp.eql 3 (Operand.tmp 31) (Operand.const (Value.int IntKind.i64 0)) 3), none, ann0⟩] none)
 (.cond (Operand.tmp 32) (.seq (.reg [⟨(some 33), (Op.move (Operand.tmp 0)), none, ann0⟩,
  ⟨(some 34), (Op.move (Operand.tmp 1)), none, ann0⟩,
  ⟨(some 35), (Op.move (Operand.tmp 2)), none, ann0⟩,
  ⟨(some 36), (Op.move (Operand.tmp 4)), none, ann0⟩,
  ⟨(some 37), (Op.call { callee := (Callee.value (Operand.func 70)), args := #[(Operand.tmp 33), (Operand.tmp 34), (Operand.tmp 35), (Operand.tmp 36)], argTypes := #[26, 3, 3, 82] }), none, ann0⟩] none)
 .ret)
 .skip)) (.tidy [0, 1, 2, 3, 4, 10, 11, 12] z (z + 0)))
 (.seq (.post (.seq (.reg [⟨(some 38), (Op.move (Operand.tmp 10)), none, ann0⟩,
  ⟨(some 39), (Op.unOp UnOp.not 4 (Operand.tmp 38)), none, ann0⟩] none)
 (.cond (Operand.tmp 39) (.seq (.post (.reg [⟨(some 40), (Op.move (Operand.tmp 0)), none, ann0⟩,
  ⟨(some 41), (Op.move (Operand.tmp 1)), none, ann0⟩,
  ⟨(some 42), (Op.move (Operand.tmp 2)), none, ann0⟩,
  ⟨(some 43), (Op.move (Operand.tmp 4)), none, ann0⟩,
  ⟨(some 44), (Op.call { callee := (Callee.value (Operand.func 71)), args := #[(Operand.tmp 40), (Operand.tmp 41), (Operand.tmp 42), (Operand.tmp 43)], argTypes := #[26, 3, 3, 82] }), none, ann0⟩] none) (.tidy [0, 1, 2, 3, 4, 10, 11, 12] z (z + 0)))
 (.reg [⟨(some 45), (Op.move (Operand.tmp 3)), none, ann0⟩,
  ⟨(some 46), (Op.binOp BinOp.sub 3 (Operand.tmp 45) (Operand.const (Value.int IntKind.i64 1)) 3), none, ann0⟩,
  ⟨(some 3), (Op.assign (Operand.tmp 46)), none, ann0⟩] none))
 .skip)) (.tidy [0, 1, 2, 3, 4, 10, 11, 12] z (z + 0)))
 (.seq (.post (.reg [⟨(some 48), (Op.move (Operand.tmp 0)), none, ann0⟩,
  ⟨(some 49), (Op.move (Operand.tmp 1)), none, ann0⟩,
  ⟨(some 50), (Op.move (Operand.tmp 2)), none, ann0⟩,
  ⟨(some 51), (Op.move (Operand.tmp 4)), none, ann0⟩,
  ⟨(some 52), (Op.call { callee := (Callee.value (Operand.func 72)), args := #[(Operand.tmp 48), (Operand.tmp 49), (Operand.tmp 50), (Operand.tmp 51)], argTypes := #[26, 3, 3, 82] }), none, ann0⟩,
  ⟨(some 47), (Op.move (Operand.tmp 52)), none, ann0⟩,
  ⟨(some 53), (Op.extract (Operand.tmp 47) 0), none, ann0⟩,
  ⟨(some 54), (Op.extract (Operand.tmp 47) 1), none, ann0⟩,
  ⟨(some 13), (Op.assign (Operand.tmp 53)), none, ann0⟩,
  ⟨(some 14), (Op.assign (Operand.tmp 54)), none, ann0⟩] none) (.tidy [0, 1, 2, 3, 4, 10, 11, 12, 13, 14] z (z + 0)))
 (.seq (.post (.seq (.reg [⟨(some 55), (Op.move (Operand.tmp 14)), none, ann0⟩,
  ⟨(some 56), (Op.binOp BinOp.eql 90 (Operand.tmp 55) (Operand.const (Value.int IntKind.i64 2)) 90), none, ann0⟩] none)
 (.cond (Operand.tmp 56) (.seq (.post (.reg [⟨(some 57), (Op.move (Operand.tmp 0)), none, ann0⟩,
  ⟨(some 58), (Op.move (Operand.tmp 1)), none, ann0⟩,
  ⟨(some 59), (Op.move (Operand.tmp 2)), none, ann0⟩,
  ⟨(some 60), (Op.move (Operand.tmp 4)), none, ann0⟩,
  ⟨(some 61), (Op.call { callee := (Callee.value (Operand.func 73)), args := #[(Operand.tmp 57), (Operand.tmp 58), (Operand.tmp 59), (Operand.tmp 60)], argTypes := #[26, 3, 3, 82] }), none, ann0⟩] none) (.tidy [0, 1, 2, 3, 4, 10, 11, 12, 13] z (z + 0)))
 (.seq (.post (.reg [⟨(some 62), (Op.move (Operand.tmp 2)), none, ann0⟩,
  ⟨(some 63), (Op.binOp BinOp.sub 3 (Operand.tmp 62) (Operand.const (Value.int IntKind.i64 1)) 3), none, ann0⟩,
  ⟨(some 64), (Op.move (Operand.tmp 13)), none, ann0⟩,
  ⟨(some 65), (Op.move (Operand.tmp 1)), none, ann0⟩,
  ⟨(some 66), (Op.binOp BinOp.sub 3 (Operand.tmp 64) (Operand.tmp 65) 3), none, ann0⟩,
  ⟨(some 67), (Op.binOp BinOp.sub 3 (Operand.tmp 63) (Operand.tmp 66) 3), none, ann0⟩,
  ⟨(some 13), (Op.assign (Operand.tmp 67)), none, ann0⟩] none) (.tidy [0, 1, 2, 3, 4, 10, 11, 12, 13] z (z + 0)))
 (.reg [⟨(some 14), (Op.assign (Operand.const (Value.int IntKind.i64 1))), none, ann0⟩] none)))
 .skip)) (.tidy [0, 1, 2, 3, 4, 10, 11, 12, 13, 14] z (z + 0)))
 (.seq (.post (.seq (.post (.reg [⟨(some 68), (Op.move (Operand.tmp 10)), none, ann0⟩,
  ⟨(some 69), (Op.move (Operand.tmp 68)), none, ann0⟩,
  ⟨(some 70), (Op.move (Operand.tmp 11)), (some (69, true)), ann0⟩,
  ⟨(some 71), (Op.pick (Operand.tmp 69) (Operand.tmp 70) (Operand.const (Value.bool false))), none, ann0⟩,
  ⟨(some 72), (Op.move (Operand.tmp 71)), none, ann0⟩,
  ⟨(some 73), (Op.move (Operand.tmp 14)), (some (72, true)), ann0⟩,
  ⟨(some 74), (Op.binOp BinOp.eql 90 (Operand.tmp 73) (Operand.const (Value.int IntKind.i64 1)) 90), (some (72, true)), ann0⟩,
  ⟨(some 75), (Op.pick (Operand.tmp 72) (Operand.tmp 74) (Operand.const (Value.bool false))), none, ann0⟩] none) (.tidy [0, 1, 2, 3, 4, 10, 11, 12, 13, 75] z (z + 0)))
 (.cond (Operand.tmp 75) (.seq (.reg [⟨(some 76), (Op.move (Operand.tmp 0)), none, ann0⟩,
  ⟨(some 77), (Op.move (Operand.tmp 1)), none, ann0⟩,
  ⟨(some 78), (Op.move (Operand.tmp 2)), none, ann0⟩,
  ⟨(some 79), (Op.move (Operand.tmp 4)), none, ann0⟩,
  ⟨(some 80), (Op.call { callee := (Callee.value (Operand.func 74)), args := #[(Operand.tmp 76), (Operand.tmp 77), (Operand.tmp 78), (Operand.tmp 79)], argTypes := #[26, 3, 3, 82] }), none, ann0⟩] none)
 (.cond (Operand.tmp 80) .ret
 .skip))
 .skip)) (.tidy [0, 1, 2, 3, 4, 10, 11, 12, 13] z (z + 0)))
 (.seq (.post (.seq (.post (.reg [⟨(some 81), (Op.move (Operand.tmp 1)), none, ann0⟩,
  ⟨(some 82), (Op.binOp BinOp.gtr 3 (Operand.tmp 81) (Operand.const (Value.int IntKind.i64 0)) 3), none, ann0⟩,
  ⟨(some 83), (Op.move (Operand.tmp 82)), none, ann0⟩,
  ⟨(some 84), (Op.move (Operand.tmp 4)), (some (83, true)), ann0⟩,
  ⟨(some 85), (Op.move (Operand.tmp 0)), (some (83, true)), ann0⟩,
  ⟨(some 86), (Op.move (Operand.tmp 1)), (some (83, true)), ann0⟩,
  ⟨(some 87), (Op.binOp BinOp.sub 3 (Operand.tmp 86) (Operand.const (Value.int IntKind.i64 1)) 3), (some (83, true)), ann0⟩,
  ⟨(some 88), (Op.indexAddr 26 (Operand.tmp 85) (Operand.tmp 87)), (some (83, true)), ann0⟩,
  ⟨(some 89), (Op.load 25 (Operand.tmp 88)), (some (83, true)), ann0⟩,
  ⟨(some 90), (Op.move (Operand.tmp 0)), (some (83, true)), ann0⟩,
  ⟨(some 91), (Op.move (Operand.tmp 13)), (some (83, true)), ann0⟩,
  ⟨(some 92), (Op.indexAddr 26 (Operand.tmp 90) (Operand.tmp 91)), (some (83, true)), ann0⟩,
  ⟨(some 93), (Op.load 25 (Operand.tmp 92)), (some (83, true)), ann0⟩,
  ⟨(some 94), (Op.call { callee := (Callee.value (Operand.tmp 84)), args := #[(Operand.tmp 89), (Operand.tmp 93)], argTypes := #[25, 25] }), (some (83, true)), ann0⟩,
  ⟨(some 95), (Op.binOp BinOp.lss 3 (Operand.tmp 94) (Operand.const (Value.int IntKind.i64 0)) 3), (some (83, true)), ann0⟩,
  ⟨(some 96), (Op.unOp UnOp.not 4 (Operand.tmp 95)), (some (83, true)), ann0⟩,
  ⟨(some 97), (Op.pick (Operand.tmp 83) (Operand.tmp 96) (Operand.const (Value.bool false))), none, ann0⟩] (some [0, 1, 3, 7, 7, 7, 39, 119, 247, 7, 7, 1543, 3591, 8191, 16383, 32767, 65535])) (.tidy [0, 1, 2, 3, 4, 10, 11, 12, 13, 97] z (z + 0)))
 (.cond (Operand.tmp 97) (.seq (.post (.reg [⟨(some 98), (Op.move (Operand.tmp 0)), none, ann0⟩,
  ⟨(some 99), (Op.move (Operand.tmp 1)), none, ann0⟩,
  ⟨(some 100), (Op.move (Operand.tmp 2)), none, ann0⟩,
  ⟨(some 101), (Op.move (Operand.tmp 13)), none, ann0⟩,
  ⟨(some 102), (Op.move (Operand.tmp 4)), none, ann0⟩,
  ⟨(some 103), (Op.call { callee := (Callee.value (Operand.func 75)), args := #[(Operand.tmp 98), (Operand.tmp 99), (Operand.tmp 100), (Operand.tmp 101), (Operand.tmp 102)], argTypes := #[26, 3, 3, 3, 82] }), none, ann0⟩,
  ⟨(some 15), (Op.assign (Operand.tmp 103)), none, ann0⟩] none) (.tidy [0, 2, 3, 4, 10, 11, 15] z (z + 0)))
 (.seq (.reg [⟨(some 104), (Op.move (Operand.tmp 15)), none, ann0⟩,
  ⟨(some 1), (Op.assign (Operand.tmp 104)), none, ann0⟩] none)
 (.exit 1)))
 .skip)) (.tidy [0, 1, 2, 3, 4, 12, 13] z (z + 0)))
 (.seq (.post (.reg [⟨(some 106), (Op.move (Operand.tmp 0)), none, ann0⟩,
  ⟨(some 107), (Op.move (Operand.tmp 1)), none, ann0⟩,
  ⟨(some 108), (Op.move (Operand.tmp 2)), none, ann0⟩,
  ⟨(some 109), (Op.move (Operand.tmp 13)), none, ann0⟩,
  ⟨(some 110), (Op.move (Operand.tmp 4)), none, ann0⟩,
  ⟨(some 111), (Op.call { callee := (Callee.value (Operand.func 76)), args := #[(Operand.tmp 106), (Operand.tmp 107), (Operand.tmp 108), (Operand.tmp 109), (Operand.tmp 110)], argTypes := #[26, 3, 3, 3, 82] }), none, ann0⟩,
  ⟨(some 105), (Op.move (Operand.tmp 111)), none, ann0⟩,
  ⟨(some 112), (Op.extract (Operand.tmp 105) 0), none, ann0⟩,
  ⟨(some 113), (Op.extract (Operand.tmp 105) 1), none, ann0⟩,
  ⟨(some 16), (Op.assign (Operand.tmp 112)), none, ann0⟩,
  ⟨(some 17), (Op.assign (Operand.tmp 113)), none, ann0⟩] none) (.tidy [0, 1, 2, 3, 4, 12, 16, 17] z (z + 0)))
 (.seq (.reg [⟨(some 114), (Op.move (Operand.tmp 17)), none, ann0⟩,
  ⟨(some 11), (Op.assign (Operand.tmp 114)), none, ann0⟩] none)
 (.seq (.post (.reg [⟨(some 115), (Op.move (Operand.tmp 16)), none, ann0⟩,
  ⟨(some 116), (Op.move (Operand.tmp 1)), none, ann0⟩,
  ⟨(some 117), (Op.binOp BinOp.sub 3 (Operand.tmp 115) (Operand.tmp 116) 3), none, ann0⟩,
  ⟨(some 118), (Op.move (Operand.tmp 2)), none, ann0⟩,
  ⟨(some 119), (Op.move (Operand.tmp 16)), none, ann0⟩,
  ⟨(some 120), (Op.binOp BinOp.sub 3 (Operand.tmp 118) (Operand.tmp 119) 3), none, ann0⟩,
  ⟨(some 18), (Op.assign (Operand.tmp 117)), none, ann0⟩,
  ⟨(some 19), (Op.assign (Operand.tmp 120)), none, ann0⟩] none) (.tidy [0, 1, 2, 3, 4, 11, 12, 16, 18, 19] z (z + 0)))
 (.seq (.reg [⟨(some 121), (Op.move (Operand.tmp 12)), none, ann0⟩,
  ⟨(some 122), (Op.binOp BinOp.quo 3 (Operand.tmp 121) (Operand.const (Value.int IntKind.i64 8)) 3), none, ann0⟩,
  ⟨(some 20), (Op.assign (Operand.tmp 122)), none, ann0⟩] none)
 (.seq (.reg [⟨(some 123), (Op.move (Operand.tmp 18)), none, ann0⟩,
  ⟨(some 124), (Op.move (Operand.tmp 19)), none, ann0⟩,
  ⟨(some 125), (Op.binOp BinOp.lss 3 (Operand.tmp 123) (Operand.tmp 124) 3), none, ann0⟩] none)
 (.cond (Operand.tmp 125) (.seq (.post (.reg [⟨(some 126), (Op.move (Operand.tmp 18)), none, ann0⟩,
  ⟨(some 127), (Op.move (Operand.tmp 20)), none, ann0⟩,
  ⟨(some 128), (Op.binOp BinOp.geq 3 (Operand.tmp 126) (Operand.tmp 127) 3), none, ann0⟩,
  ⟨(some 10), (Op.assign (Operand.tmp 128)), none, ann0⟩] none) (.tidy [0, 1, 2, 3, 4, 10, 11, 16] z (z + 0)))
 (.seq (.post (.reg [⟨(some 129), (Op.move (Operand.tmp 0)), none, ann0⟩,
  ⟨(some 130), (Op.move (Operand.tmp 1)), none, ann0⟩,
  ⟨(some 131), (Op.move (Operand.tmp 16)), none, ann0⟩,
  ⟨(some 132), (Op.move (Operand.tmp 3)), none, ann0⟩,
  ⟨(some 133), (Op.move (Operand.tmp 4)), none, ann0⟩,
  ⟨(some 134), (Op.call { callee := (Callee.value (Operand.func 57)), args := #[(Operand.tmp 129), (Operand.tmp 130), (Operand.tmp 131), (Operand.tmp 132), (Operand.tmp 133)], argTypes := #[26, 3, 3, 3, 82] }), none, ann0⟩] none) (.tidy [0, 2, 3, 4, 10, 11, 16] z (z + 0)))
 (.reg [⟨(some 135), (Op.move (Operand.tmp 16)), none, ann0⟩,
  ⟨(some 136), (Op.binOp BinOp.add 3 (Operand.tmp 135) (Operand.const (Value.int IntKind.i64 1)) 3), none, ann0⟩,
  ⟨(some 1), (Op.assign (Operand.tmp 136)), none, ann0⟩] none)))
 (.seq (.reg [⟨(some 137), (Op.move (Operand.tmp 19)), none, ann0⟩,
  ⟨(some 138), (Op.move (Operand.tmp 20)), none, ann0⟩,
  ⟨(some 139), (Op.binOp BinOp.geq 3 (Operand.tmp 137) (Operand.tmp 138) 3), none, ann0⟩,
  ⟨(some 10), (Op.assign (Operand.tmp 139)), none, ann0⟩] none)
 (.seq (.post (.reg [⟨(some 140), (Op.move (Operand.tmp 0)), none, ann0⟩,
  ⟨(some 141), (Op.move (Operand.tmp 16)), none, ann0⟩,
  ⟨(some 142), (Op.binOp BinOp.add 3 (Operand.tmp 141) (Operand.const (Value.int IntKind.i64 1)) 3), none, ann0⟩,
  ⟨(some 143), (Op.move (Operand.tmp 2)), none, ann0⟩,
  ⟨(some 144), (Op.move (Operand.tmp 3)), none, ann0⟩,
  ⟨(some 145), (Op.move (Operand.tmp 4)), none, ann0⟩,
  ⟨(some 146), (Op.call { callee := (Callee.value (Operand.func 57)), args := #[(Operand.tmp 140), (Operand.tmp 142), (Operand.tmp 143), (Operand.tmp 144), (Operand.tmp 145)], argTypes := #[26, 3, 3, 3, 82] }), none, ann0⟩] none) (.tidy [0, 1, 3, 4, 10, 11, 16] z (z + 0)))
 (.reg [⟨(some 147), (Op.move (Operand.tmp 16)), none, ann0⟩,
  ⟨(some 2), (Op.assign (Operand.tmp 147)), none, ann0⟩] none)))))))))))))))))) (.tidy [0, 1, 2, 3, 4, 10, 11] z (z + 0))
def s57_1 (z : Nat) : SC := c57_1 z
theorem e57_1 {C : Pg} {z : Nat} {st : St} {ks : List Fr} {K : Ex → St → Prop} : wpk C (s57_1 z) st ks K ↔ wpk C (c57_1 z) st ks K := Iff.rfl
def s57 (z : Nat) : SFn := ⟨5, 148, [],
 (.seq (.reg [⟨(some 10), (Op.assign (Operand.const (Value.bool true))), none, ann0⟩] none)
 (.seq (.reg [⟨(some 11), (Op.assign (Operand.const (Value.bool true))), none, ann0⟩] none)
 (.post (.block 0 (.pre (.tidy [0, 1, 2, 3, 4, 10, 11] z (z + 0)) (.loop (s57_1 z)))) (.tidy [] z (z + 0)))))⟩
theorem F57 (z : Nat) : FOk Try.prog 57 (s57 z) := by unfold FOk; kernel_rfl
def s58 (z : Nat) : SFn := ⟨1, 6, [(ResultVar.tmp 2)],
 (.seq (.reg [⟨(some 2), (Op.assign (Operand.const (Value.bool false))), none, ann0⟩] none)
 (.seq (.reg [⟨(some 3), (Op.move (Operand.tmp 0)), none, ann0⟩,
  ⟨(some 4), (Op.move (Operand.tmp 0)), none, ann0⟩,
  ⟨(some 5), (Op.binOp BinOp.neq 9 (Operand.tmp 3) (Operand.tmp 4) 9), none, ann0⟩,
  ⟨(some 2), (Op.assign (Operand.tmp 5)), none, ann0⟩] none)
 .ret))⟩
theorem F58 (z : Nat) : FOk Try.prog 58 (s58 z) := by unfold FOk; kernel_rfl
def c59_2 (z : Nat) : SC := .post (.seq (.post (.seq (.post (.reg [⟨(some 18), (Op.move (Operand.tmp 9)), none, ann0⟩,
  ⟨(some 19), (Op.move (Operand.tmp 1)), none, ann0⟩,
  ⟨(some 20), (Op.binOp BinOp.gtr 3 (Operand.tmp 18) (Operand.tmp 19) 3), none, ann0⟩,
  ⟨(some 21), (Op.move (Operand.tmp 20)), none, ann0⟩,
  ⟨(some 22), (Op.move (Operand.tmp 3)), (some (21, true)), ann0⟩,
  ⟨(some 23), (Op.move (Operand.tmp 0)), (some (21, true)), ann0⟩,
  ⟨(some 24), (Op.move (Operand.tmp 9)), (some (21, true)), ann0⟩,
  ⟨(some 25), (Op.indexAddr 74 (Operand.tmp 23) (Operand.tmp 24)), (some (21, true)), ann0⟩,
  ⟨(some 26), (Op.load 3 (Operand.tmp 25)), (some (21, true)), ann0⟩,
  ⟨(some 27), (Op.move (Operand.tmp 0)), (some (21, true)), ann0⟩,
  ⟨(some 28), (Op.move (Operand.tmp 9)), (some (21, true)), ann0⟩,
  ⟨(some 29), (Op.binOp BinOp.sub 3 (Operand.tmp 28) (Operand.const (Value.int IntKind.i64 1)) 3), (some (21, true)), ann0⟩,
  ⟨(some 30), (Op.indexAddr 74 (Operand.tmp 27) (Operand.tmp 29)), (some (21, true)), ann0⟩,
  ⟨(some 31), (Op.load 3 (Operand.tmp 30)), (some (21, true)), ann0⟩,
  ⟨(some 32), (Op.call { callee := (Callee.value (Operand.tmp 22)), args := #[(Operand.tmp 26), (Operand.tmp 31)], argTypes := #[3, 3] }), (some (21, true)), ann0⟩,
  ⟨(some 33), (Op.binOp BinOp.lss 3 (Operand.tmp 32) (Operand.const (Value.int IntKind.i64 0)) 3), (some (21, true)), ann0⟩,
  ⟨(some 34), (Op.pick (Operand.tmp 21) (Operand.tmp 33) (Operand.const (Value.bool false))), none, ann0⟩] (some [0, 0, 3, 7, 15, 15, 15, 111, 239, 15, 15, 1039, 3599, 7695, 16383, 32767, 65535])) (.tidy [0, 1, 2, 3, 8, 9, 34] z (z + 0)))
 (.cond (Operand.tmp 34) .skip
 (.exit 2))) (.tidy [0, 1, 2, 3, 8, 9] z (z + 0)))
 (.seq (.post (.block 3 (.reg [⟨(some 37), (Op.move (Operand.tmp 0)), none, ann0⟩,
  ⟨(some 38), (Op.move (Operand.tmp 9)), none, ann0⟩,
  ⟨(some 39), (Op.move (Operand.tmp 0)), none, ann0⟩,
  ⟨(some 40), (Op.move (Operand.tmp 9)), none, ann0⟩,
  ⟨(some 41), (Op.binOp BinOp.sub 3 (Operand.tmp 40) (Operand.const (Value.int IntKind.i64 1)) 3), none, ann0⟩,
  ⟨(some 42), (Op.move (Operand.tmp 0)), none, ann0⟩,
  ⟨(some 43), (Op.move (Operand.tmp 9)), none, ann0⟩,
  ⟨(some 44), (Op.binOp BinOp.sub 3 (Operand.tmp 43) (Operand.const (Value.int IntKind.i64 1)) 3), none, ann0⟩,
  ⟨(some 45), (Op.indexAddr 74 (Operand.tmp 42) (Operand.tmp 44)), none, ann0⟩,
  ⟨(some 46), (Op.load 3 (Operand.tmp 45)), none, ann0⟩,
  ⟨(some 47), (Op.move (Operand.tmp 0)), none, ann0⟩,
  ⟨(some 48), (Op.move (Operand.tmp 9)), none, ann0⟩,
  ⟨(some 49), (Op.indexAddr 74 (Operand.tmp 47) (Operand.tmp 48)), none, ann0⟩,
  ⟨(some 50), (Op.load 3 (Operand.tmp 49)), none, ann0⟩,
  ⟨(some 51), (Op.indexAddr 74 (Operand.tmp 37) (Operand.tmp 38)), none, ann0⟩,
  ⟨none, (Op.store 3 (Operand.tmp 51) (Operand.tmp 46)), none, ann0⟩,
  ⟨(some 52), (Op.indexAddr 74 (Operand.tmp 39) (Operand.tmp 41)), none, ann0⟩,
  ⟨none, (Op.store 3 (Operand.tmp 52) (Operand.tmp 50)), none, ann0⟩] (some [0, 0, 0, 0, 8, 0, 0, 64, 224, 480, 0, 0, 3072, 7168, 16355, 32739, 65535, 131071]))) (.tidy [0, 1, 2, 3, 8, 9] z (z + 0)))
 (.reg [⟨(some 35), (Op.move (Operand.tmp 9)), none, ann0⟩,
  ⟨(some 36), (Op.binOp BinOp.sub 3 (Operand.tmp 35) (Operand.const (Value.int IntKind.i64 1)) 3), none, ann0⟩,
  ⟨(some 9), (Op.assign (Operand.tmp 36)), none, ann0⟩] none))) (.tidy [0, 1, 2, 3, 8, 9] z (z + 0))
def s59_2 (z : Nat) : SC := c59_2 z
theorem e59_2 {C : Pg} {z : Nat} {st : St} {ks : List Fr} {K : Ex → St → Prop} : wpk C (s59_2 z) st ks K ↔ wpk C (c59_2 z) st ks K := Iff.rfl
def c59_1 (z : Nat) : SC := .post (.seq (.post (.seq (.reg [⟨(some 12), (Op.move (Operand.tmp 8)), none, ann0⟩,
  ⟨(some 13), (Op.move (Operand.tmp 2)), none, ann0⟩,
  ⟨(some 14), (Op.binOp BinOp.lss 3 (Operand.tmp 12) (Operand.tmp 13) 3), none, ann0⟩] none)
 (.cond (Operand.tmp 14) .skip
 (.exit 0))) (.tidy [0, 1, 2, 3, 8] z (z + 0)))
 (.seq (.post (.block 1 (.seq (.reg [⟨(some 17), (Op.move (Operand.tmp 8)), none, ann0⟩,
  ⟨(some 9), (Op.assign (Operand.tmp 17)), none, ann0⟩] none)
 (.post (.block 2 (.pre (.tidy [0, 1, 2, 3, 8, 9] z (z + 0)) (.loop (s59_2 z)))) (.tidy [0, 1, 2, 3, 8] z (z + 0))))) (.tidy [0, 1, 2, 3, 8] z (z + 0)))
 (.reg [⟨(some 15), (Op.move (Operand.tmp 8)), none, ann0⟩,
  ⟨(some 16), (Op.binOp BinOp.add 3 (Operand.tmp 15) (Operand.const (Value.int IntKind.i64 1)) 3), none, ann0⟩,
  ⟨(some 8), (Op.assign (Operand.tmp 16)), none, ann0⟩] none))) (.tidy [0, 1, 2, 3, 8] z (z + 0))
def s59_1 (z : Nat) : SC := c59_1 z
theorem e59_1 {C : Pg} {z : Nat} {st : St} {ks : List Fr} {K : Ex → St → Prop} : wpk C (s59_1 z) st ks K ↔ wpk C (c59_1 z) st ks K := Iff.rfl
def s59 (z : Nat) : SFn := ⟨4, 53, [],
 (.seq (.reg [⟨(some 10), (Op.move (Operand.tmp 1)), none, ann0⟩,
  ⟨(some 11), (Op.binOp BinOp.add 3 (Operand.tmp 10) (Operand.const (Value.int IntKind.i64 1)) 3), none, ann0⟩,
  ⟨(some 8), (Op.assign (Operand.tmp 11)), none, ann0⟩] none)
 (.post (.block 0 (.pre (.tidy [0, 1, 2, 3, 8] z (z + 0)) (.loop (s59_1 z)))) (.tidy [] z (z + 0))))⟩
theorem F59 (z : Nat) : FOk Try.prog 59 (s59 z) := by unfold FOk; kernel_rfl
def c60_1 (z : Nat) : SC := .post (.seq (.seq (.reg [⟨(some 20), (Op.move (Operand.tmp 11)), none, ann0⟩,
  ⟨(some 21), (Op.binOp BinOp.geq 3 (Operand.tmp 20) (Operand.const (Value.int IntKind.i64 0)) 3), none, ann0⟩] none)
 (.cond (Operand.tmp 21) .skip
 (.exit 0)))
 (.seq (.post (.block 1 (.reg [⟨(some 24), (Op.move (Operand.tmp 0)), none, ann0⟩,
  ⟨(some 25), (Op.move (Operand.tmp 11)), none, ann0⟩,
  ⟨(some 26), (Op.move (Operand.tmp 10)), none, ann0⟩,
  ⟨(some 27), (Op.move (Operand.tmp 8)), none, ann0⟩,
  ⟨(some 28), (Op.move (Operand.tmp 3)), none, ann0⟩,
  ⟨(some 29), (Op.call { callee := (Callee.value (Operand.func 77)), args := #[(Operand.tmp 24), (Operand.tmp 25), (Operand.tmp 26), (Operand.tmp 27), (Operand.tmp 28)], argTypes := #[74, 3, 3, 3, 76] }), none, ann0⟩] none)) (.tidy [0, 3, 8, 9, 10, 11] z (z + 0)))
 (.reg [⟨(some 22), (Op.move (Operand.tmp 11)), none, ann0⟩,
  ⟨(some 23), (Op.binOp BinOp.sub 3 (Operand.tmp 22) (Operand.const (Value.int IntKind.i64 1)) 3), none, ann0⟩,
  ⟨(some 11), (Op.assign (Operand.tmp 23)), none, ann0⟩] none))) (.tidy [0, 3, 8, 9, 10, 11] z (z + 0))
def s60_1 (z : Nat) : SC := c60_1 z
theorem e60_1 {C : Pg} {z : Nat} {st : St} {ks : List Fr} {K : Ex → St → Prop} : wpk C (s60_1 z) st ks K ↔ wpk C (c60_1 z) st ks K := Iff.rfl
def c60_2 (z : Nat) : SC := .post (.seq (.seq (.reg [⟨(some 32), (Op.move (Operand.tmp 12)), none, ann0⟩,
  ⟨(some 33), (Op.binOp BinOp.geq 3 (Operand.tmp 32) (Operand.const (Value.int IntKind.i64 0)) 3), none, ann0⟩] none)
 (.cond (Operand.tmp 33) .skip
 (.exit 2)))
 (.seq (.post (.block 3 (.seq (.post (.reg [⟨(some 36), (Op.move (Operand.tmp 0)), none, ann0⟩,
  ⟨(some 37), (Op.move (Operand.tmp 8)), none, ann0⟩,
  ⟨(some 38), (Op.move (Operand.tmp 0)), none, ann0⟩,
  ⟨(some 39), (Op.move (Operand.tmp 8)), none, ann0⟩,
  ⟨(some 40), (Op.move (Operand.tmp 12)), none, ann0⟩,
  ⟨(some 41), (Op.binOp BinOp.add 3 (Operand.tmp 39) (Operand.tmp 40) 3), none, ann0⟩,
  ⟨(some 42), (Op.move (Operand.tmp 0)), none, ann0⟩,
  ⟨(some 43), (Op.move (Operand.tmp 8)), none, ann0⟩,
  ⟨(some 44), (Op.move (Operand.tmp 12)), none, ann0⟩,
  ⟨(some 45), (Op.binOp BinOp.add 3 (Operand.tmp 43) (Operand.tmp 44) 3), none, ann0⟩,
  ⟨(some 46), (Op.indexAddr 74 (Operand.tmp 42) (Operand.tmp 45)), none, ann0⟩,
  ⟨(some 47), (Op.load 3 (Operand.tmp 46)), none, ann0⟩,
  ⟨(some 48), (Op.move (Operand.tmp 0)), none, ann0⟩,
  ⟨(some 49), (Op.move (Operand.tmp 8)), none, ann0⟩,
  ⟨(some 50), (Op.indexAddr 74 (Operand.tmp 48) (Operand.tmp 49)), none, ann0⟩,
  ⟨(some 51), (Op.load 3 (Operand.tmp 50)), none, ann0⟩,
  ⟨(some 52), (Op.indexAddr 74 (Operand.tmp 36) (Operand.tmp 37)), none, ann0⟩,
  ⟨none, (Op.store 3 (Operand.tmp 52) (Operand.tmp 47)), none, ann0⟩,
  ⟨(some 53), (Op.indexAddr 74 (Operand.tmp 38) (Operand.tmp 41)), none, ann0⟩,
  ⟨none, (Op.store 3 (Operand.tmp 53) (Operand.tmp 51)), none, ann0⟩] (some [0, 0, 0, 0, 0, 24, 0, 0, 0, 384, 960, 1984, 0, 0, 12288, 28672, 65475, 131011, 262143, 524287])) (.tidy [0, 3, 8, 9, 12] z (z + 0)))
 (.reg [⟨(some 54), (Op.move (Operand.tmp 0)), none, ann0⟩,
  ⟨(some 55), (Op.move (Operand.tmp 9)), none, ann0⟩,
  ⟨(some 56), (Op.move (Operand.tmp 12)), none, ann0⟩,
  ⟨(some 57), (Op.move (Operand.tmp 8)), none, ann0⟩,
  ⟨(some 58), (Op.move (Operand.tmp 3)), none, ann0⟩,
  ⟨(some 59), (Op.call { callee := (Callee.value (Operand.func 77)), args := #[(Operand.tmp 54), (Operand.tmp 55), (Operand.tmp 56), (Operand.tmp 57), (Operand.tmp 58)], argTypes := #[74, 3, 3, 3, 76] }), none, ann0⟩] none))) (.tidy [0, 3, 8, 9, 12] z (z + 0)))
 (.reg [⟨(some 34), (Op.move (Operand.tmp 12)), none, ann0⟩,
  ⟨(some 35), (Op.binOp BinOp.sub 3 (Operand.tmp 34) (Operand.const (Value.int IntKind.i64 1)) 3), none, ann0⟩,
  ⟨(some 12), (Op.assign (Operand.tmp 35)), none, ann0⟩] none))) (.tidy [0, 3, 8, 9, 12] z (z + 0))
def s60_2 (z : Nat) : SC := c60_2 z
theorem e60_2 {C : Pg} {z : Nat} {st : St} {ks : List Fr} {K : Ex → St → Prop} : wpk C (s60_2 z) st ks K ↔ wpk C (c60_2 z) st ks K := Iff.rfl
def s60 (z : Nat) : SFn := ⟨4, 60, [],
 (.seq (.reg [⟨(some 13), (Op.move (Operand.tmp 1)), none, ann0⟩,
  ⟨(some 8), (Op.assign (Operand.tmp 13)), none, ann0⟩] none)
 (.seq (.reg [⟨(some 9), (Op.assign (Operand.const (Value.int IntKind.i64 0))), none, ann0⟩] none)
 (.seq (.reg [⟨(some 14), (Op.move (Operand.tmp 2)), none, ann0⟩,
  ⟨(some 15), (Op.move (Operand.tmp 1)), none, ann0⟩,
  ⟨(some 16), (Op.binOp BinOp.sub 3 (Operand.tmp 14) (Operand.tmp 15) 3), none, ann0⟩,
  ⟨(some 10), (Op.assign (Operand.tmp 16)), none, ann0⟩] none)
 (.seq (.post (.seq (.post (.reg [⟨(some 17), (Op.move (Operand.tmp 10)), none, ann0⟩,
  ⟨(some 18), (Op.binOp BinOp.sub 3 (Operand.tmp 17) (Operand.const (Value.int IntKind.i64 1)) 3), none, ann0⟩,
  ⟨(some 19), (Op.binOp BinOp.quo 3 (Operand.tmp 18) (Operand.const (Value.int IntKind.i64 2)) 3), none, ann0⟩,
  ⟨(some 11), (Op.assign (Operand.tmp 19)), none, ann0⟩] none) (.tidy [0, 3, 8, 9, 10, 11] z (z + 0)))
 (.post (.block 0 (.pre (.tidy [0, 3, 8, 9, 10, 11] z (z + 0)) (.loop (s60_1 z)))) (.tidy [0, 3, 8, 9, 10] z (z + 0)))) (.tidy [0, 3, 8, 9, 10] z (z + 0)))
 (.seq (.reg [⟨(some 30), (Op.move (Operand.tmp 10)), none, ann0⟩,
  ⟨(some 31), (Op.binOp BinOp.sub 3 (Operand.tmp 30) (Operand.const (Value.int IntKind.i64 1)) 3), none, ann0⟩,
  ⟨(some 12), (Op.assign (Operand.tmp 31)), none, ann0⟩] none)
 (.post (.block 2 (.pre (.tidy [0, 3, 8, 9, 12] z (z + 0)) (.loop (s60_2 z)))) (.tidy [] z (z + 0))))))))⟩
theorem F60 (z : Nat) : FOk Try.prog 60 (s60 z) := by unfold FOk; kernel_rfl
end Go.Proofs.YtdhbecdlablonaaV
