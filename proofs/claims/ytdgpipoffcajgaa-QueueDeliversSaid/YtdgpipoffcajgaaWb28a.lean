/- Functions' code, with notes for the interpreter, and the facts that it is the program's: made by a program. -/
import Derived.Test.YtdgpipoffcajgaaVC
import Derived.Test.YtdgpipoffcajgaaProg
import Derived.KernelRfl
set_option linter.unusedVariables false
namespace Go.Proofs.YtdgpipoffcajgaaV
open Go.RowKit

def c5_1 (z : Nat) : SC := .post (.seq (.reg [⟨(some 35), (Op.binOp BinOp.lss 3 (Operand.tmp 34) (Operand.tmp 33) 3), none, ann0⟩] none)
 (.seq (.cond (Operand.tmp 35) .skip
 (.exit 0))
 (.seq (.post (.block 1 (.seq (.post (.reg [⟨(some 36), (Op.indexAddr 54 (Operand.tmp 32) (Operand.tmp 34)), none, ann0⟩,
  ⟨(some 37), (Op.load 57 (Operand.tmp 36)), none, ann0⟩,
  ⟨(some 11), (Op.alloc 57), none, ⟨1, false, false⟩⟩,
  ⟨none, (Op.store 57 (Operand.tmp 11) (Operand.tmp 37)), none, ann0⟩] none) (.tidy [2, 7, 8, 9, 11, 32, 33, 34] z (z + 8)))
 (.seq (.reg [⟨(some 38), (Op.move (Operand.tmp 8)), none, ann0⟩,
  ⟨(some 39), (Op.move (Operand.tmp 7)), none, ann0⟩,
  ⟨(some 40), (Op.load 57 (Operand.tmp 11)), none, ann0⟩,
  ⟨(some 41), (Op.call { callee := (Callee.value (Operand.func 24)), args := #[(Operand.tmp 38), (Operand.tmp 39), (Operand.tmp 40)], argTypes := #[28, 27, 57] }), none, ⟨1, false, false⟩⟩] none)
 (.seq (.post (.reg [⟨(some 42), (Op.move (Operand.tmp 7)), none, ann0⟩,
  ⟨(some 43), (Op.call { callee := (Callee.value (Operand.func 16)), args := #[(Operand.tmp 42)], argTypes := #[27] }), none, ann0⟩,
  ⟨(some 44), (Op.fieldAddr 46 (Operand.tmp 9) 0), none, ann0⟩,
  ⟨(some 45), (Op.load 3 (Operand.tmp 44)), none, ann0⟩,
  ⟨(some 46), (Op.binOp BinOp.gtr 3 (Operand.tmp 43) (Operand.tmp 45) 3), none, ann0⟩] (some [0, 1, 0, 4, 15])) (.tidy [2, 7, 8, 9, 32, 33, 34, 46] z (z + 9)))
 (.cond (Operand.tmp 46) (.seq (.reg [⟨(some 6), (Op.assign (Operand.const (Value.bool false))), none, ann0⟩] none)
 .ret)
 .skip))))) (.tidy [2, 7, 8, 9, 32, 33, 34] z (z + 9)))
 (.reg [⟨(some 47), (Op.binOp BinOp.add 3 (Operand.tmp 34) (Operand.const (Value.int IntKind.i64 1)) 3), none, ann0⟩,
  ⟨(some 34), (Op.move (Operand.tmp 47)), none, ann0⟩] none)))) (.can [2, 7, 8, 9, 32, 33, 34] z (z + 7))
def s5_1 (z : Nat) : SC := c5_1 z
theorem e5_1 {C : Pg} {z : Nat} {st : St} {ks : List Fr} {K : Ex → St → Prop} : wpk C (s5_1 z) st ks K ↔ wpk C (c5_1 z) st ks K := Iff.rfl
def c5_2 (z : Nat) : SC := .post (.seq (.seq (.reg [⟨(some 55), (Op.move (Operand.tmp 14)), none, ann0⟩,
  ⟨(some 56), (Op.move (Operand.tmp 13)), none, ann0⟩,
  ⟨(some 57), (Op.binOp BinOp.lss 3 (Operand.tmp 55) (Operand.tmp 56) 3), none, ann0⟩] none)
 (.cond (Operand.tmp 57) .skip
 (.exit 2)))
 (.seq (.post (.block 3 (.seq (.post (.reg [⟨(some 60), (Op.move (Operand.tmp 13)), none, ann0⟩,
  ⟨(some 61), (Op.binOp BinOp.gtr 3 (Operand.tmp 60) (Operand.const (Value.int IntKind.i64 6)) 3), none, ann0⟩,
  ⟨(some 62), (Op.move (Operand.tmp 61)), none, ann0⟩,
  ⟨(some 63), (Op.move (Operand.tmp 7)), (some (62, false)), ann0⟩,
  ⟨(some 64), (Op.move (Operand.tmp 12)), (some (62, false)), ann0⟩,
  ⟨(some 65), (Op.move (Operand.tmp 14)), (some (62, false)), ann0⟩,
  ⟨(some 66), (Op.binOp BinOp.add 3 (Operand.const (Value.int IntKind.i64 1000)) (Operand.tmp 65) 3), (some (62, false)), ann0⟩,
  ⟨(some 67), (Op.build 25 #[(0, (Operand.tmp 64)), (1, (Operand.tmp 66))]), (some (62, false)), ann0⟩,
  ⟨(some 68), (Op.call { callee := (Callee.value (Operand.func 15)), args := #[(Operand.tmp 63), (Operand.tmp 67)], argTypes := #[27, 25] }), (some (62, false)), ann0⟩,
  ⟨(some 69), (Op.binOp BinOp.neq 34 (Operand.tmp 68) (Operand.const (Value.int IntKind.i64 0)) 34), (some (62, false)), ann0⟩,
  ⟨(some 70), (Op.pick (Operand.tmp 62) (Operand.const (Value.bool true)) (Operand.tmp 69)), none, ann0⟩] none) (.tidy [7, 12, 13, 14, 70] z (z + 7)))
 (.cond (Operand.tmp 70) (.seq (.reg [⟨(some 6), (Op.assign (Operand.const (Value.bool false))), none, ann0⟩] none)
 .ret)
 .skip))) (.tidy [7, 12, 13, 14] z (z + 7)))
 (.reg [⟨(some 58), (Op.move (Operand.tmp 14)), none, ann0⟩,
  ⟨(some 59), (Op.binOp BinOp.add 3 (Operand.tmp 58) (Operand.const (Value.int IntKind.i64 1)) 3), none, ann0⟩,
  ⟨(some 14), (Op.assign (Operand.tmp 59)), none, ann0⟩] none))) (.tidy [7, 12, 13, 14] z (z + 7))
def s5_2 (z : Nat) : SC := c5_2 z
theorem e5_2 {C : Pg} {z : Nat} {st : St} {ks : List Fr} {K : Ex → St → Prop} : wpk C (s5_2 z) st ks K ↔ wpk C (c5_2 z) st ks K := Iff.rfl
def s5 (z : Nat) : SFn := ⟨3, 82, [(ResultVar.tmp 6)],
 (.seq (.reg [⟨(some 3), (Op.box 32 (Operand.tmp 0)), none, ⟨1, false, false⟩⟩,
  ⟨(some 6), (Op.assign (Operand.const (Value.bool false))), none, ann0⟩] none)
 (.seq (.post (.seq (.post (.reg [⟨(some 15), (Op.call { callee := (Callee.value (Operand.func 12)), args := #[], argTypes := #[] }), none, ann0⟩,
  ⟨(some 16), (Op.unOp UnOp.not 4 (Operand.tmp 15)), none, ann0⟩,
  ⟨(some 17), (Op.move (Operand.tmp 16)), none, ann0⟩,
  ⟨(some 18), (Op.move (Operand.tmp 1)), (some (17, false)), ann0⟩,
  ⟨(some 19), (Op.call { callee := (Callee.builtin Builtin.len), args := #[(Operand.tmp 18)], argTypes := #[54] }), (some (17, false)), ann0⟩,
  ⟨(some 20), (Op.binOp BinOp.gtr 3 (Operand.tmp 19) (Operand.const (Value.int IntKind.i64 25)) 3), (some (17, false)), ann0⟩,
  ⟨(some 21), (Op.pick (Operand.tmp 17) (Operand.const (Value.bool true)) (Operand.tmp 20)), none, ann0⟩] none) (.tidy [1, 2, 3, 21] z (z + 1)))
 (.cond (Operand.tmp 21) (.seq (.reg [⟨(some 22), (Op.call { callee := (Callee.value (Operand.func 12)), args := #[], argTypes := #[] }), none, ann0⟩,
  ⟨(some 6), (Op.assign (Operand.tmp 22)), none, ann0⟩] none)
 .ret)
 .skip)) (.tidy [1, 2, 3] z (z + 1)))
 (.seq (.reg [⟨(some 24), (Op.load 32 (Operand.tmp 3)), none, ann0⟩,
  ⟨(some 25), (Op.call { callee := (Callee.value (Operand.func 13)), args := #[(Operand.tmp 24)], argTypes := #[32] }), none, ⟨4, false, false⟩⟩,
  ⟨(some 23), (Op.move (Operand.tmp 25)), none, ann0⟩,
  ⟨(some 26), (Op.extract (Operand.tmp 23) 0), none, ann0⟩,
  ⟨(some 27), (Op.extract (Operand.tmp 23) 1), none, ann0⟩,
  ⟨(some 7), (Op.assign (Operand.tmp 26)), none, ann0⟩,
  ⟨(some 8), (Op.assign (Operand.tmp 27)), none, ann0⟩] none)
 (.seq (.seq (.post (.reg [⟨(some 28), (Op.move (Operand.tmp 7)), none, ann0⟩,
  ⟨(some 29), (Op.binOp BinOp.eql 27 (Operand.tmp 28) (Operand.const (Value.pointer none)) 27), none, ann0⟩] none) (.tidy [1, 2, 3, 7, 8, 29] z (z + 5)))
 (.cond (Operand.tmp 29) (.seq (.reg [⟨(some 6), (Op.assign (Operand.const (Value.bool false))), none, ann0⟩] none)
 .ret)
 .skip))
 (.seq (.reg [⟨(some 30), (Op.load 32 (Operand.tmp 3)), none, ann0⟩,
  ⟨(some 31), (Op.call { callee := (Callee.value (Operand.func 23)), args := #[(Operand.tmp 30)], argTypes := #[32] }), none, ann0⟩,
  ⟨(some 9), (Op.alloc 46), none, ⟨1, false, false⟩⟩,
  ⟨none, (Op.store 46 (Operand.tmp 9) (Operand.tmp 31)), none, ann0⟩] none)
 (.seq (.post (.seq (.reg [⟨(some 32), (Op.move (Operand.tmp 1)), none, ann0⟩,
  ⟨(some 33), (Op.call { callee := (Callee.builtin Builtin.len), args := #[(Operand.tmp 32)], argTypes := #[54] }), none, ann0⟩,
  ⟨(some 34), (Op.move (Operand.const (Value.int IntKind.i64 0))), none, ann0⟩] none)
 (.post (.pre (.mkb 8 3 101 8) (.block 0 (.pre (.can [2, 7, 8, 9, 32, 33, 34] z (z + 7)) (.loop (s5_1 z))))) (.tidy [2, 7] z (z + 7)))) (.tidy [2, 7] z (z + 7)))
 (.seq (.reg [⟨(some 48), (Op.move (Operand.tmp 2)), none, ann0⟩,
  ⟨(some 49), (Op.binOp BinOp.rem 5 (Operand.tmp 48) (Operand.const (Value.int IntKind.u8 4)) 5), none, ann0⟩,
  ⟨(some 50), (Op.convert 5 3 (Operand.tmp 49)), none, ann0⟩,
  ⟨(some 51), (Op.binOp BinOp.add 3 (Operand.const (Value.int IntKind.i64 1)) (Operand.tmp 50) 3), none, ann0⟩,
  ⟨(some 12), (Op.assign (Operand.tmp 51)), none, ann0⟩] none)
 (.seq (.post (.reg [⟨(some 52), (Op.move (Operand.tmp 7)), none, ann0⟩,
  ⟨(some 53), (Op.move (Operand.tmp 12)), none, ann0⟩,
  ⟨(some 54), (Op.call { callee := (Callee.value (Operand.func 14)), args := #[(Operand.tmp 52), (Operand.tmp 53)], argTypes := #[27, 3] }), none, ann0⟩,
  ⟨(some 13), (Op.assign (Operand.tmp 54)), none, ann0⟩] none) (.tidy [7, 12, 13] z (z + 7)))
 (.seq (.post (.seq (.reg [⟨(some 14), (Op.assign (Operand.const (Value.int IntKind.i64 0))), none, ann0⟩] none)
 (.post (.block 2 (.pre (.tidy [7, 12, 13, 14] z (z + 7)) (.loop (s5_2 z)))) (.tidy [7, 12] z (z + 7)))) (.tidy [7, 12] z (z + 7)))
 (.seq (.reg [⟨(some 71), (Op.move (Operand.tmp 7)), none, ann0⟩,
  ⟨(some 72), (Op.move (Operand.tmp 12)), none, ann0⟩,
  ⟨(some 73), (Op.call { callee := (Callee.value (Operand.func 14)), args := #[(Operand.tmp 71), (Operand.tmp 72)], argTypes := #[27, 3] }), none, ann0⟩,
  ⟨(some 74), (Op.binOp BinOp.eql 3 (Operand.tmp 73) (Operand.const (Value.int IntKind.i64 0)) 3), none, ann0⟩,
  ⟨(some 75), (Op.move (Operand.tmp 74)), none, ann0⟩,
  ⟨(some 76), (Op.move (Operand.tmp 7)), (some (75, true)), ann0⟩,
  ⟨(some 77), (Op.move (Operand.tmp 12)), (some (75, true)), ann0⟩,
  ⟨(some 78), (Op.build 25 #[(0, (Operand.tmp 77)), (1, (Operand.const (Value.int IntKind.i64 2000)))]), (some (75, true)), ann0⟩,
  ⟨(some 79), (Op.call { callee := (Callee.value (Operand.func 15)), args := #[(Operand.tmp 76), (Operand.tmp 78)], argTypes := #[27, 25] }), (some (75, true)), ann0⟩,
  ⟨(some 80), (Op.binOp BinOp.eql 34 (Operand.tmp 79) (Operand.const (Value.int IntKind.i64 28)) 34), (some (75, true)), ann0⟩,
  ⟨(some 81), (Op.pick (Operand.tmp 75) (Operand.tmp 80) (Operand.const (Value.bool false))), none, ann0⟩,
  ⟨(some 6), (Op.assign (Operand.tmp 81)), none, ann0⟩] none)
 .ret))))))))))⟩
theorem F5 (z : Nat) : FOk Try.prog 5 (s5 z) := by unfold FOk; kernel_rfl
def c6_1 (z : Nat) : SC := .post (.seq (.reg [⟨(some 27), (Op.binOp BinOp.lss 3 (Operand.tmp 26) (Operand.tmp 25) 3), none, ann0⟩] none)
 (.seq (.cond (Operand.tmp 27) .skip
 (.exit 0))
 (.seq (.post (.block 1 (.seq (.reg [⟨(some 28), (Op.indexAddr 54 (Operand.tmp 24) (Operand.tmp 26)), none, ann0⟩,
  ⟨(some 29), (Op.load 57 (Operand.tmp 28)), none, ann0⟩,
  ⟨(some 8), (Op.alloc 57), none, ⟨1, false, false⟩⟩,
  ⟨none, (Op.store 57 (Operand.tmp 8) (Operand.tmp 29)), none, ann0⟩] none)
 (.seq (.post (.reg [⟨(some 30), (Op.move (Operand.tmp 6)), none, ann0⟩,
  ⟨(some 31), (Op.move (Operand.tmp 5)), none, ann0⟩,
  ⟨(some 32), (Op.load 57 (Operand.tmp 8)), none, ann0⟩,
  ⟨(some 33), (Op.call { callee := (Callee.value (Operand.func 24)), args := #[(Operand.tmp 30), (Operand.tmp 31), (Operand.tmp 32)], argTypes := #[28, 27, 57] }), none, ⟨1, false, false⟩⟩,
  ⟨(some 34), (Op.unOp UnOp.not 4 (Operand.tmp 33)), none, ann0⟩,
  ⟨(some 35), (Op.move (Operand.tmp 34)), none, ann0⟩,
  ⟨(some 36), (Op.move (Operand.tmp 6)), (some (35, false)), ann0⟩,
  ⟨(some 37), (Op.move (Operand.tmp 5)), (some (35, false)), ann0⟩,
  ⟨(some 38), (Op.call { callee := (Callee.value (Operand.func 25)), args := #[(Operand.tmp 36), (Operand.tmp 37)], argTypes := #[28, 27] }), (some (35, false)), ann0⟩,
  ⟨(some 39), (Op.unOp UnOp.not 4 (Operand.tmp 38)), (some (35, false)), ann0⟩,
  ⟨(some 40), (Op.pick (Operand.tmp 35) (Operand.const (Value.bool true)) (Operand.tmp 39)), none, ann0⟩] none) (.tidy [5, 6, 24, 25, 26, 40] z (z + 8)))
 (.cond (Operand.tmp 40) (.seq (.reg [⟨(some 4), (Op.assign (Operand.const (Value.bool false))), none, ann0⟩] none)
 .ret)
 .skip)))) (.tidy [5, 6, 24, 25, 26] z (z + 8)))
 (.reg [⟨(some 41), (Op.binOp BinOp.add 3 (Operand.tmp 26) (Operand.const (Value.int IntKind.i64 1)) 3), none, ann0⟩,
  ⟨(some 26), (Op.move (Operand.tmp 41)), none, ann0⟩] none)))) (.can [5, 6, 24, 25, 26] z (z + 6))
def s6_1 (z : Nat) : SC := c6_1 z
theorem e6_1 {C : Pg} {z : Nat} {st : St} {ks : List Fr} {K : Ex → St → Prop} : wpk C (s6_1 z) st ks K ↔ wpk C (c6_1 z) st ks K := Iff.rfl
def s6 (z : Nat) : SFn := ⟨2, 45, [(ResultVar.tmp 4)],
 (.seq (.reg [⟨(some 2), (Op.box 32 (Operand.tmp 0)), none, ⟨1, false, false⟩⟩,
  ⟨(some 4), (Op.assign (Operand.const (Value.bool false))), none, ann0⟩] none)
 (.seq (.post (.seq (.post (.reg [⟨(some 9), (Op.call { callee := (Callee.value (Operand.func 12)), args := #[], argTypes := #[] }), none, ann0⟩,
  ⟨(some 10), (Op.unOp UnOp.not 4 (Operand.tmp 9)), none, ann0⟩,
  ⟨(some 11), (Op.move (Operand.tmp 10)), none, ann0⟩,
  ⟨(some 12), (Op.move (Operand.tmp 1)), (some (11, false)), ann0⟩,
  ⟨(some 13), (Op.call { callee := (Callee.builtin Builtin.len), args := #[(Operand.tmp 12)], argTypes := #[54] }), (some (11, false)), ann0⟩,
  ⟨(some 14), (Op.binOp BinOp.gtr 3 (Operand.tmp 13) (Operand.const (Value.int IntKind.i64 25)) 3), (some (11, false)), ann0⟩,
  ⟨(some 15), (Op.pick (Operand.tmp 11) (Operand.const (Value.bool true)) (Operand.tmp 14)), none, ann0⟩] none) (.tidy [1, 2, 15] z (z + 1)))
 (.cond (Operand.tmp 15) (.seq (.reg [⟨(some 16), (Op.call { callee := (Callee.value (Operand.func 12)), args := #[], argTypes := #[] }), none, ann0⟩,
  ⟨(some 4), (Op.assign (Operand.tmp 16)), none, ann0⟩] none)
 .ret)
 .skip)) (.tidy [1, 2] z (z + 1)))
 (.seq (.reg [⟨(some 18), (Op.load 32 (Operand.tmp 2)), none, ann0⟩,
  ⟨(some 19), (Op.call { callee := (Callee.value (Operand.func 13)), args := #[(Operand.tmp 18)], argTypes := #[32] }), none, ⟨4, false, false⟩⟩,
  ⟨(some 17), (Op.move (Operand.tmp 19)), none, ann0⟩,
  ⟨(some 20), (Op.extract (Operand.tmp 17) 0), none, ann0⟩,
  ⟨(some 21), (Op.extract (Operand.tmp 17) 1), none, ann0⟩,
  ⟨(some 5), (Op.assign (Operand.tmp 20)), none, ann0⟩,
  ⟨(some 6), (Op.assign (Operand.tmp 21)), none, ann0⟩] none)
 (.seq (.seq (.post (.reg [⟨(some 22), (Op.move (Operand.tmp 5)), none, ann0⟩,
  ⟨(some 23), (Op.binOp BinOp.eql 27 (Operand.tmp 22) (Operand.const (Value.pointer none)) 27), none, ann0⟩] none) (.tidy [1, 5, 6, 23] z (z + 5)))
 (.cond (Operand.tmp 23) (.seq (.reg [⟨(some 4), (Op.assign (Operand.const (Value.bool false))), none, ann0⟩] none)
 .ret)
 .skip))
 (.seq (.post (.seq (.reg [⟨(some 24), (Op.move (Operand.tmp 1)), none, ann0⟩,
  ⟨(some 25), (Op.call { callee := (Callee.builtin Builtin.len), args := #[(Operand.tmp 24)], argTypes := #[54] }), none, ann0⟩,
  ⟨(some 26), (Op.move (Operand.const (Value.int IntKind.i64 0))), none, ann0⟩] none)
 (.post (.pre (.mkb 6 3 101 8) (.block 0 (.pre (.can [5, 6, 24, 25, 26] z (z + 6)) (.loop (s6_1 z))))) (.tidy [5, 6] z (z + 6)))) (.tidy [5, 6] z (z + 6)))
 (.seq (.reg [⟨(some 42), (Op.move (Operand.tmp 6)), none, ann0⟩,
  ⟨(some 43), (Op.move (Operand.tmp 5)), none, ann0⟩,
  ⟨(some 44), (Op.call { callee := (Callee.value (Operand.func 25)), args := #[(Operand.tmp 42), (Operand.tmp 43)], argTypes := #[28, 27] }), none, ann0⟩,
  ⟨(some 4), (Op.assign (Operand.tmp 44)), none, ann0⟩] none)
 .ret))))))⟩
theorem F6 (z : Nat) : FOk Try.prog 6 (s6 z) := by unfold FOk; kernel_rfl
def c7_1 (z : Nat) : SC := .post (.seq (.reg [⟨(some 40), (Op.binOp BinOp.lss 3 (Operand.tmp 39) (Operand.tmp 38) 3), none, ann0⟩] none)
 (.seq (.cond (Operand.tmp 40) .skip
 (.exit 0))
 (.seq (.post (.block 1 (.seq (.reg [⟨(some 41), (Op.indexAddr 54 (Operand.tmp 37) (Operand.tmp 39)), none, ann0⟩,
  ⟨(some 42), (Op.load 57 (Operand.tmp 41)), none, ann0⟩,
  ⟨(some 8), (Op.alloc 57), none, ⟨1, false, false⟩⟩,
  ⟨none, (Op.store 57 (Operand.tmp 8) (Operand.tmp 42)), none, ann0⟩] none)
 (.reg [⟨(some 43), (Op.move (Operand.tmp 6)), none, ann0⟩,
  ⟨(some 44), (Op.move (Operand.tmp 5)), none, ann0⟩,
  ⟨(some 45), (Op.load 57 (Operand.tmp 8)), none, ann0⟩,
  ⟨(some 46), (Op.call { callee := (Callee.value (Operand.func 24)), args := #[(Operand.tmp 43), (Operand.tmp 44), (Operand.tmp 45)], argTypes := #[28, 27, 57] }), none, ⟨1, false, false⟩⟩] none))) (.tidy [2, 5, 6, 37, 38, 39] z (z + 8)))
 (.reg [⟨(some 47), (Op.binOp BinOp.add 3 (Operand.tmp 39) (Operand.const (Value.int IntKind.i64 1)) 3), none, ann0⟩,
  ⟨(some 39), (Op.move (Operand.tmp 47)), none, ann0⟩] none)))) (.can [2, 5, 6, 37, 38, 39] z (z + 6))
def s7_1 (z : Nat) : SC := c7_1 z
theorem e7_1 {C : Pg} {z : Nat} {st : St} {ks : List Fr} {K : Ex → St → Prop} : wpk C (s7_1 z) st ks K ↔ wpk C (c7_1 z) st ks K := Iff.rfl
def c7_3 (z : Nat) : SC := .post (.seq (.post (.seq (.post (.reg [⟨(some 115), (Op.move (Operand.tmp 18)), none, ann0⟩,
  ⟨(some 116), (Op.move (Operand.tmp 12)), none, ann0⟩,
  ⟨(some 117), (Op.call { callee := (Callee.builtin Builtin.len), args := #[(Operand.tmp 116)], argTypes := #[49] }), none, ann0⟩,
  ⟨(some 118), (Op.binOp BinOp.lss 3 (Operand.tmp 115) (Operand.tmp 117) 3), none, ann0⟩,
  ⟨(some 119), (Op.move (Operand.tmp 118)), none, ann0⟩,
  ⟨(some 120), (Op.move (Operand.tmp 17)), (some (119, true)), ann0⟩,
  ⟨(some 121), (Op.binOp BinOp.lss 3 (Operand.tmp 120) (Operand.const (Value.int IntKind.i64 0)) 3), (some (119, true)), ann0⟩,
  ⟨(some 122), (Op.pick (Operand.tmp 119) (Operand.tmp 121) (Operand.const (Value.bool false))), none, ann0⟩] none) (.tidy [2, 5, 9, 12, 13, 14, 15, 17, 18, 122] z (z + 9)))
 (.cond (Operand.tmp 122) .skip
 (.exit 4))) (.tidy [2, 5, 9, 12, 13, 14, 15, 17, 18] z (z + 9)))
 (.seq (.post (.block 5 (.seq (.post (.reg [⟨(some 125), (Op.move (Operand.tmp 12)), none, ann0⟩,
  ⟨(some 126), (Op.move (Operand.tmp 18)), none, ann0⟩,
  ⟨(some 127), (Op.indexAddr 49 (Operand.tmp 125) (Operand.tmp 126)), none, ann0⟩,
  ⟨(some 128), (Op.fieldAddr 38 (Operand.tmp 127) 0), none, ann0⟩,
  ⟨(some 129), (Op.load 3 (Operand.tmp 128)), none, ann0⟩,
  ⟨(some 130), (Op.fieldAddr 25 (Operand.tmp 15) 0), none, ann0⟩,
  ⟨(some 131), (Op.load 3 (Operand.tmp 130)), none, ann0⟩,
  ⟨(some 132), (Op.binOp BinOp.eql 3 (Operand.tmp 129) (Operand.tmp 131) 3), none, ann0⟩] (some [0, 0, 3, 7, 15, 0, 32, 127])) (.tidy [2, 5, 9, 12, 13, 14, 15, 17, 18, 132] z (z + 9)))
 (.cond (Operand.tmp 132) (.reg [⟨(some 133), (Op.move (Operand.tmp 18)), none, ann0⟩,
  ⟨(some 17), (Op.assign (Operand.tmp 133)), none, ann0⟩] none)
 .skip))) (.tidy [2, 5, 9, 12, 13, 14, 15, 17, 18] z (z + 9)))
 (.reg [⟨(some 123), (Op.move (Operand.tmp 18)), none, ann0⟩,
  ⟨(some 124), (Op.binOp BinOp.add 3 (Operand.tmp 123) (Operand.const (Value.int IntKind.i64 1)) 3), none, ann0⟩,
  ⟨(some 18), (Op.assign (Operand.tmp 124)), none, ann0⟩] none))) (.tidy [2, 5, 9, 12, 13, 14, 15, 17, 18] z (z + 9))
def s7_3 (z : Nat) : SC := c7_3 z
theorem e7_3 {C : Pg} {z : Nat} {st : St} {ks : List Fr} {K : Ex → St → Prop} : wpk C (s7_3 z) st ks K ↔ wpk C (c7_3 z) st ks K := Iff.rfl
def c7_2 (z : Nat) : SC := .post (.seq (.post (.seq (.reg [⟨(some 69), (Op.move (Operand.tmp 13)), none, ann0⟩,
  ⟨(some 70), (Op.binOp BinOp.gtr 3 (Operand.tmp 69) (Operand.const (Value.int IntKind.i64 0)) 3), none, ann0⟩] none)
 (.cond (Operand.tmp 70) .skip
 (.exit 2))) (.tidy [2, 5, 9, 12, 13] z (z + 7)))
 (.seq (.post (.block 3 (.seq (.post (.reg [⟨(some 74), (Op.move (Operand.tmp 5)), none, ann0⟩,
  ⟨(some 75), (Op.move (Operand.tmp 9)), none, ann0⟩,
  ⟨(some 76), (Op.call { callee := (Callee.value (Operand.func 17)), args := #[(Operand.tmp 74), (Operand.tmp 75)], argTypes := #[27, 3] }), none, ann0⟩,
  ⟨(some 73), (Op.move (Operand.tmp 76)), none, ann0⟩,
  ⟨(some 77), (Op.extract (Operand.tmp 73) 0), none, ann0⟩,
  ⟨(some 78), (Op.extract (Operand.tmp 73) 1), none, ann0⟩,
  ⟨(some 79), (Op.extract (Operand.tmp 73) 2), none, ann0⟩,
  ⟨(some 14), (Op.alloc 40), none, ⟨1, false, false⟩⟩,
  ⟨(some 15), (Op.alloc 25), none, ⟨1, false, false⟩⟩,
  ⟨none, (Op.store 40 (Operand.tmp 14) (Operand.tmp 77)), none, ann0⟩,
  ⟨none, (Op.store 25 (Operand.tmp 15) (Operand.tmp 78)), none, ann0⟩,
  ⟨(some 16), (Op.assign (Operand.tmp 79)), none, ann0⟩] none) (.tidy [2, 5, 9, 12, 13, 14, 15, 16] z (z + 9)))
 (.seq (.post (.seq (.post (.reg [⟨(some 80), (Op.move (Operand.tmp 16)), none, ann0⟩,
  ⟨(some 81), (Op.binOp BinOp.neq 34 (Operand.tmp 80) (Operand.const (Value.int IntKind.i64 0)) 34), none, ann0⟩,
  ⟨(some 82), (Op.move (Operand.tmp 81)), none, ann0⟩,
  ⟨(some 83), (Op.fieldAddr 25 (Operand.tmp 15) 0), (some (82, false)), ann0⟩,
  ⟨(some 84), (Op.load 3 (Operand.tmp 83)), (some (82, false)), ann0⟩,
  ⟨(some 85), (Op.fieldAddr 40 (Operand.tmp 14) 1), (some (82, false)), ann0⟩,
  ⟨(some 86), (Op.fieldAddr 38 (Operand.tmp 85) 0), (some (82, false)), ann0⟩,
  ⟨(some 87), (Op.load 3 (Operand.tmp 86)), (some (82, false)), ann0⟩,
  ⟨(some 88), (Op.binOp BinOp.neq 3 (Operand.tmp 84) (Operand.tmp 87) 3), (some (82, false)), ann0⟩,
  ⟨(some 89), (Op.pick (Operand.tmp 82) (Operand.const (Value.bool true)) (Operand.tmp 88)), none, ann0⟩,
  ⟨(some 90), (Op.move (Operand.tmp 89)), none, ann0⟩,
  ⟨(some 91), (Op.fieldAddr 25 (Operand.tmp 15) 1), (some (90, false)), ann0⟩,
  ⟨(some 92), (Op.load 3 (Operand.tmp 91)), (some (90, false)), ann0⟩,
  ⟨(some 93), (Op.fieldAddr 40 (Operand.tmp 14) 1), (some (90, false)), ann0⟩,
  ⟨(some 94), (Op.fieldAddr 38 (Operand.tmp 93) 1), (some (90, false)), ann0⟩,
  ⟨(some 95), (Op.load 3 (Operand.tmp 94)), (some (90, false)), ann0⟩,
  ⟨(some 96), (Op.binOp BinOp.neq 3 (Operand.tmp 92) (Operand.tmp 95) 3), (some (90, false)), ann0⟩,
  ⟨(some 97), (Op.pick (Operand.tmp 90) (Operand.const (Value.bool true)) (Operand.tmp 96)), none, ann0⟩,
  ⟨(some 98), (Op.move (Operand.tmp 97)), none, ann0⟩,
  ⟨(some 99), (Op.fieldAddr 40 (Operand.tmp 14) 2), (some (98, false)), ann0⟩,
  ⟨(some 100), (Op.load 3 (Operand.tmp 99)), (some (98, false)), ann0⟩,
  ⟨(some 101), (Op.move (Operand.tmp 9)), (some (98, false)), ann0⟩,
  ⟨(some 102), (Op.load 32 (Operand.tmp 2)), (some (98, false)), ann0⟩,
  ⟨(some 103), (Op.call { callee := (Callee.value (Operand.func 23)), args := #[(Operand.tmp 102)], argTypes := #[32] }), (some (98, false)), ann0⟩,
  ⟨(some 104), (Op.field 46 (Operand.tmp 103) 2), (some (98, false)), ann0⟩,
  ⟨(some 105), (Op.binOp BinOp.add 3 (Operand.tmp 101) (Operand.tmp 104) 3), (some (98, false)), ann0⟩,
  ⟨(some 106), (Op.binOp BinOp.neq 3 (Operand.tmp 100) (Operand.tmp 105) 3), (some (98, false)), ann0⟩,
  ⟨(some 107), (Op.pick (Operand.tmp 98) (Operand.const (Value.bool true)) (Operand.tmp 106)), none, ann0⟩,
  ⟨(some 108), (Op.move (Operand.tmp 107)), none, ann0⟩,
  ⟨(some 109), (Op.move (Operand.tmp 5)), (some (108, false)), ann0⟩,
  ⟨(some 110), (Op.fieldAddr 40 (Operand.tmp 14) 0), (some (108, false)), ann0⟩,
  ⟨(some 111), (Op.load 3 (Operand.tmp 110)), (some (108, false)), ann0⟩,
  ⟨(some 112), (Op.call { callee := (Callee.value (Operand.func 27)), args := #[(Operand.tmp 109), (Operand.tmp 111)], argTypes := #[27, 3] }), (some (108, false)), ann0⟩,
  ⟨(some 113), (Op.binOp BinOp.neq 34 (Operand.tmp 112) (Operand.const (Value.int IntKind.i64 0)) 34), (some (108, false)), ann0⟩,
  ⟨(some 114), (Op.pick (Operand.tmp 108) (Operand.const (Value.bool true)) (Operand.tmp 113)), none, ann0⟩] (some [0, 1, 3, 7, 15, 7, 39, 103, 255, 511, 1023, 2047, 4095, 2047, 10239, 26623, 65535, 131071, 262143, 524287, 1048575, 524287, 524287, 4718591, 13107199, 31981567, 67108863, 134217727, 268435455, 536870911, 536870911, 1610612735, 4294967295, 8589934591, 17179869183])) (.tidy [2, 5, 9, 12, 13, 14, 15, 114] z (z + 9)))
 (.cond (Operand.tmp 114) (.seq (.reg [⟨(some 4), (Op.assign (Operand.const (Value.bool false))), none, ann0⟩] none)
 .ret)
 .skip)) (.tidy [2, 5, 9, 12, 13, 14, 15] z (z + 9)))
 (.seq (.reg [⟨(some 17), (Op.assign (Operand.const (Value.int IntKind.i64 (-1)))), none, ann0⟩] none)
 (.seq (.post (.seq (.reg [⟨(some 18), (Op.assign (Operand.const (Value.int IntKind.i64 0))), none, ann0⟩] none)
 (.post (.block 4 (.pre (.tidy [2, 5, 9, 12, 13, 14, 15, 17, 18] z (z + 9)) (.loop (s7_3 z)))) (.tidy [2, 5, 9, 12, 13, 14, 17] z (z + 9)))) (.tidy [2, 5, 9, 12, 13, 14, 17] z (z + 9)))
 (.seq (.post (.seq (.post (.reg [⟨(some 134), (Op.move (Operand.tmp 17)), none, ann0⟩,
  ⟨(some 135), (Op.binOp BinOp.lss 3 (Operand.tmp 134) (Operand.const (Value.int IntKind.i64 0)) 3), none, ann0⟩,
  ⟨(some 136), (Op.move (Operand.tmp 135)), none, ann0⟩,
  ⟨(some 137), (Op.move (Operand.tmp 12)), (some (136, false)), ann0⟩,
  ⟨(some 138), (Op.move (Operand.tmp 17)), (some (136, false)), ann0⟩,
  ⟨(some 139), (Op.indexAddr 49 (Operand.tmp 137) (Operand.tmp 138)), (some (136, false)), ann0⟩,
  ⟨(some 140), (Op.load 38 (Operand.tmp 139)), (some (136, false)), ann0⟩,
  ⟨(some 141), (Op.fieldAddr 40 (Operand.tmp 14) 1), (some (136, false)), ann0⟩,
  ⟨(some 142), (Op.load 38 (Operand.tmp 141)), (some (136, false)), ann0⟩,
  ⟨(some 143), (Op.binOp BinOp.neq 38 (Operand.tmp 140) (Operand.tmp 142) 38), (some (136, false)), ann0⟩,
  ⟨(some 144), (Op.pick (Operand.tmp 136) (Operand.const (Value.bool true)) (Operand.tmp 143)), none, ann0⟩] (some [0, 1, 3, 7, 7, 31, 63, 7, 135, 511, 1023])) (.tidy [2, 5, 9, 12, 13, 17, 144] z (z + 9)))
 (.cond (Operand.tmp 144) (.seq (.reg [⟨(some 4), (Op.assign (Operand.const (Value.bool false))), none, ann0⟩] none)
 .ret)
 .skip)) (.tidy [2, 5, 9, 12, 13, 17] z (z + 9)))
 (.post (.reg [⟨(some 145), (Op.buildSlice 49 0 #[]), none, ⟨1, false, false⟩⟩,
  ⟨(some 146), (Op.move (Operand.tmp 12)), none, ann0⟩,
  ⟨(some 147), (Op.move (Operand.tmp 17)), none, ann0⟩,
  ⟨(some 148), (Op.slice 49 (Operand.tmp 146) none (some (Operand.tmp 147)) none), none, ann0⟩,
  ⟨(some 149), (Op.call { callee := (Callee.builtin Builtin.append), args := #[(Operand.tmp 145), (Operand.tmp 148)], argTypes := #[49, 49] }), none, ann0⟩,
  ⟨(some 150), (Op.move (Operand.tmp 12)), none, ann0⟩,
  ⟨(some 151), (Op.move (Operand.tmp 17)), none, ann0⟩,
  ⟨(some 152), (Op.binOp BinOp.add 3 (Operand.tmp 151) (Operand.const (Value.int IntKind.i64 1)) 3), none, ann0⟩,
  ⟨(some 153), (Op.slice 49 (Operand.tmp 150) (some (Operand.tmp 152)) none none), none, ann0⟩,
  ⟨(some 154), (Op.call { callee := (Callee.builtin Builtin.append), args := #[(Operand.tmp 149), (Operand.tmp 153)], argTypes := #[49, 49] }), none, ann0⟩,
  ⟨(some 12), (Op.assign (Operand.tmp 154)), none, ann0⟩] (some [0, 0, 0, 6, 15, 0, 0, 64, 224, 511, 1023])) (.frz 12)))))))) (.tidy [2, 5, 9, 12, 13] z (z + 10)))
 (.reg [⟨(some 71), (Op.move (Operand.tmp 13)), none, ann0⟩,
  ⟨(some 72), (Op.binOp BinOp.sub 3 (Operand.tmp 71) (Operand.const (Value.int IntKind.i64 1)) 3), none, ann0⟩,
  ⟨(some 13), (Op.assign (Operand.tmp 72)), none, ann0⟩] none))) (.tidy [2, 5, 9, 12, 13] z (z + 7))
def s7_2 (z : Nat) : SC := c7_2 z
theorem e7_2 {C : Pg} {z : Nat} {st : St} {ks : List Fr} {K : Ex → St → Prop} : wpk C (s7_2 z) st ks K ↔ wpk C (c7_2 z) st ks K := Iff.rfl
def s7 (z : Nat) : SFn := ⟨2, 174, [(ResultVar.tmp 4)],
 (.seq (.reg [⟨(some 2), (Op.box 32 (Operand.tmp 0)), none, ⟨1, false, false⟩⟩,
  ⟨(some 4), (Op.assign (Operand.const (Value.bool false))), none, ann0⟩] none)
 (.seq (.post (.seq (.post (.reg [⟨(some 22), (Op.call { callee := (Callee.value (Operand.func 12)), args := #[], argTypes := #[] }), none, ann0⟩,
  ⟨(some 23), (Op.unOp UnOp.not 4 (Operand.tmp 22)), none, ann0⟩,
  ⟨(some 24), (Op.move (Operand.tmp 23)), none, ann0⟩,
  ⟨(some 25), (Op.move (Operand.tmp 1)), (some (24, false)), ann0⟩,
  ⟨(some 26), (Op.call { callee := (Callee.builtin Builtin.len), args := #[(Operand.tmp 25)], argTypes := #[54] }), (some (24, false)), ann0⟩,
  ⟨(some 27), (Op.binOp BinOp.gtr 3 (Operand.tmp 26) (Operand.const (Value.int IntKind.i64 25)) 3), (some (24, false)), ann0⟩,
  ⟨(some 28), (Op.pick (Operand.tmp 24) (Operand.const (Value.bool true)) (Operand.tmp 27)), none, ann0⟩] none) (.tidy [1, 2, 28] z (z + 1)))
 (.cond (Operand.tmp 28) (.seq (.reg [⟨(some 29), (Op.call { callee := (Callee.value (Operand.func 12)), args := #[], argTypes := #[] }), none, ann0⟩,
  ⟨(some 4), (Op.assign (Operand.tmp 29)), none, ann0⟩] none)
 .ret)
 .skip)) (.tidy [1, 2] z (z + 1)))
 (.seq (.reg [⟨(some 31), (Op.load 32 (Operand.tmp 2)), none, ann0⟩,
  ⟨(some 32), (Op.call { callee := (Callee.value (Operand.func 13)), args := #[(Operand.tmp 31)], argTypes := #[32] }), none, ⟨4, false, false⟩⟩,
  ⟨(some 30), (Op.move (Operand.tmp 32)), none, ann0⟩,
  ⟨(some 33), (Op.extract (Operand.tmp 30) 0), none, ann0⟩,
  ⟨(some 34), (Op.extract (Operand.tmp 30) 1), none, ann0⟩,
  ⟨(some 5), (Op.assign (Operand.tmp 33)), none, ann0⟩,
  ⟨(some 6), (Op.assign (Operand.tmp 34)), none, ann0⟩] none)
 (.seq (.seq (.post (.reg [⟨(some 35), (Op.move (Operand.tmp 5)), none, ann0⟩,
  ⟨(some 36), (Op.binOp BinOp.eql 27 (Operand.tmp 35) (Operand.const (Value.pointer none)) 27), none, ann0⟩] none) (.tidy [1, 2, 5, 6, 36] z (z + 5)))
 (.cond (Operand.tmp 36) (.seq (.reg [⟨(some 4), (Op.assign (Operand.const (Value.bool false))), none, ann0⟩] none)
 .ret)
 .skip))
 (.seq (.post (.seq (.reg [⟨(some 37), (Op.move (Operand.tmp 1)), none, ann0⟩,
  ⟨(some 38), (Op.call { callee := (Callee.builtin Builtin.len), args := #[(Operand.tmp 37)], argTypes := #[54] }), none, ann0⟩,
  ⟨(some 39), (Op.move (Operand.const (Value.int IntKind.i64 0))), none, ann0⟩] none)
 (.post (.pre (.mkb 6 3 101 8) (.block 0 (.pre (.can [2, 5, 6, 37, 38, 39] z (z + 6)) (.loop (s7_1 z))))) (.tidy [2, 5] z (z + 6)))) (.tidy [2, 5] z (z + 6)))
 (.seq (.reg [⟨(some 48), (Op.move (Operand.tmp 5)), none, ann0⟩,
  ⟨(some 49), (Op.call { callee := (Callee.value (Operand.func 20)), args := #[(Operand.tmp 48)], argTypes := #[27] }), none, ann0⟩,
  ⟨(some 50), (Op.binOp BinOp.add 3 (Operand.tmp 49) (Operand.const (Value.int IntKind.i64 100)) 3), none, ann0⟩,
  ⟨(some 9), (Op.assign (Operand.tmp 50)), none, ann0⟩] none)
 (.seq (.post (.seq (.post (.reg [⟨(some 52), (Op.move (Operand.tmp 5)), none, ann0⟩,
  ⟨(some 53), (Op.move (Operand.tmp 9)), none, ann0⟩,
  ⟨(some 54), (Op.call { callee := (Callee.value (Operand.func 26)), args := #[(Operand.tmp 52), (Operand.tmp 53)], argTypes := #[27, 3] }), none, ann0⟩,
  ⟨(some 51), (Op.move (Operand.tmp 54)), none, ann0⟩,
  ⟨(some 55), (Op.extract (Operand.tmp 51) 0), none, ann0⟩,
  ⟨(some 56), (Op.extract (Operand.tmp 51) 1), none, ann0⟩,
  ⟨(some 10), (Op.assign (Operand.tmp 55)), none, ann0⟩,
  ⟨(some 11), (Op.assign (Operand.tmp 56)), none, ann0⟩] none) (.tidy [2, 5, 9, 11] z (z + 6)))
 (.seq (.post (.reg [⟨(some 57), (Op.move (Operand.tmp 11)), none, ann0⟩,
  ⟨(some 58), (Op.binOp BinOp.neq 34 (Operand.tmp 57) (Operand.const (Value.int IntKind.i64 0)) 34), none, ann0⟩,
  ⟨(some 59), (Op.move (Operand.tmp 58)), none, ann0⟩,
  ⟨(some 60), (Op.move (Operand.tmp 5)), (some (59, false)), ann0⟩,
  ⟨(some 61), (Op.call { callee := (Callee.value (Operand.func 22)), args := #[(Operand.tmp 60)], argTypes := #[27] }), (some (59, false)), ⟨1, true, false⟩⟩,
  ⟨(some 62), (Op.call { callee := (Callee.builtin Builtin.len), args := #[(Operand.tmp 61)], argTypes := #[51] }), (some (59, false)), ann0⟩,
  ⟨(some 63), (Op.binOp BinOp.gtr 3 (Operand.tmp 62) (Operand.const (Value.int IntKind.i64 0)) 3), (some (59, false)), ann0⟩,
  ⟨(some 64), (Op.pick (Operand.tmp 59) (Operand.const (Value.bool true)) (Operand.tmp 63)), none, ann0⟩] none) (.tidy [2, 5, 9, 64] z (z + 7)))
 (.cond (Operand.tmp 64) (.seq (.reg [⟨(some 4), (Op.assign (Operand.const (Value.bool false))), none, ann0⟩] none)
 .ret)
 .skip))) (.tidy [2, 5, 9] z (z + 7)))
 (.seq (.reg [⟨(some 65), (Op.move (Operand.tmp 5)), none, ann0⟩,
  ⟨(some 66), (Op.call { callee := (Callee.value (Operand.func 21)), args := #[(Operand.tmp 65)], argTypes := #[27] }), none, ann0⟩,
  ⟨(some 12), (Op.assign (Operand.tmp 66)), none, ann0⟩] none)
 (.seq (.post (.seq (.reg [⟨(some 67), (Op.move (Operand.tmp 12)), none, ann0⟩,
  ⟨(some 68), (Op.call { callee := (Callee.builtin Builtin.len), args := #[(Operand.tmp 67)], argTypes := #[49] }), none, ann0⟩,
  ⟨(some 13), (Op.assign (Operand.tmp 68)), none, ann0⟩] none)
 (.post (.block 2 (.pre (.tidy [2, 5, 9, 12, 13] z (z + 7)) (.loop (s7_2 z)))) (.tidy [5, 9, 12] z (z + 7)))) (.tidy [5, 9, 12] z (z + 7)))
 (.seq (.post (.reg [⟨(some 156), (Op.move (Operand.tmp 5)), none, ann0⟩,
  ⟨(some 157), (Op.move (Operand.tmp 9)), none, ann0⟩,
  ⟨(some 158), (Op.call { callee := (Callee.value (Operand.func 17)), args := #[(Operand.tmp 156), (Operand.tmp 157)], argTypes := #[27, 3] }), none, ann0⟩,
  ⟨(some 155), (Op.move (Operand.tmp 158)), none, ann0⟩,
  ⟨(some 159), (Op.extract (Operand.tmp 155) 0), none, ann0⟩,
  ⟨(some 160), (Op.extract (Operand.tmp 155) 1), none, ann0⟩,
  ⟨(some 161), (Op.extract (Operand.tmp 155) 2), none, ann0⟩,
  ⟨(some 19), (Op.alloc 40), none, ⟨1, false, false⟩⟩,
  ⟨(some 20), (Op.alloc 25), none, ⟨1, false, false⟩⟩,
  ⟨none, (Op.store 40 (Operand.tmp 19) (Operand.tmp 159)), none, ann0⟩,
  ⟨none, (Op.store 25 (Operand.tmp 20) (Operand.tmp 160)), none, ann0⟩,
  ⟨(some 21), (Op.assign (Operand.tmp 161)), none, ann0⟩] none) (.tidy [5, 12, 21] z (z + 9)))
 (.seq (.reg [⟨(some 162), (Op.move (Operand.tmp 12)), none, ann0⟩,
  ⟨(some 163), (Op.call { callee := (Callee.builtin Builtin.len), args := #[(Operand.tmp 162)], argTypes := #[49] }), none, ann0⟩,
  ⟨(some 164), (Op.binOp BinOp.eql 3 (Operand.tmp 163) (Operand.const (Value.int IntKind.i64 0)) 3), none, ann0⟩,
  ⟨(some 165), (Op.move (Operand.tmp 164)), none, ann0⟩,
  ⟨(some 166), (Op.move (Operand.tmp 21)), (some (165, true)), ann0⟩,
  ⟨(some 167), (Op.binOp BinOp.eql 34 (Operand.tmp 166) (Operand.const (Value.int IntKind.i64 7)) 34), (some (165, true)), ann0⟩,
  ⟨(some 168), (Op.pick (Operand.tmp 165) (Operand.tmp 167) (Operand.const (Value.bool false))), none, ann0⟩,
  ⟨(some 169), (Op.move (Operand.tmp 168)), none, ann0⟩,
  ⟨(some 170), (Op.move (Operand.tmp 5)), (some (169, true)), ann0⟩,
  ⟨(some 171), (Op.call { callee := (Callee.value (Operand.func 16)), args := #[(Operand.tmp 170)], argTypes := #[27] }), (some (169, true)), ann0⟩,
  ⟨(some 172), (Op.binOp BinOp.eql 3 (Operand.tmp 171) (Operand.const (Value.int IntKind.i64 0)) 3), (some (169, true)), ann0⟩,
  ⟨(some 173), (Op.pick (Operand.tmp 169) (Operand.tmp 172) (Operand.const (Value.bool false))), none, ann0⟩,
  ⟨(some 4), (Op.assign (Operand.tmp 173)), none, ann0⟩] none)
 .ret)))))))))))⟩
theorem F7 (z : Nat) : FOk Try.prog 7 (s7 z) := by unfold FOk; kernel_rfl
def c8_1 (z : Nat) : SC := .post (.seq (.reg [⟨(some 34), (Op.binOp BinOp.lss 3 (Operand.tmp 33) (Operand.tmp 32) 3), none, ann0⟩] none)
 (.seq (.cond (Operand.tmp 34) .skip
 (.exit 0))
 (.seq (.post (.block 1 (.seq (.reg [⟨(some 35), (Op.indexAddr 54 (Operand.tmp 31) (Operand.tmp 33)), none, ann0⟩,
  ⟨(some 36), (Op.load 57 (Operand.tmp 35)), none, ann0⟩,
  ⟨(some 8), (Op.alloc 57), none, ⟨1, false, false⟩⟩,
  ⟨none, (Op.store 57 (Operand.tmp 8) (Operand.tmp 36)), none, ann0⟩] none)
 (.reg [⟨(some 37), (Op.move (Operand.tmp 6)), none, ann0⟩,
  ⟨(some 38), (Op.move (Operand.tmp 5)), none, ann0⟩,
  ⟨(some 39), (Op.load 57 (Operand.tmp 8)), none, ann0⟩,
  ⟨(some 40), (Op.call { callee := (Callee.value (Operand.func 24)), args := #[(Operand.tmp 37), (Operand.tmp 38), (Operand.tmp 39)], argTypes := #[28, 27, 57] }), none, ⟨1, false, false⟩⟩] none))) (.tidy [5, 6, 31, 32, 33] z (z + 8)))
 (.reg [⟨(some 41), (Op.binOp BinOp.add 3 (Operand.tmp 33) (Operand.const (Value.int IntKind.i64 1)) 3), none, ann0⟩,
  ⟨(some 33), (Op.move (Operand.tmp 41)), none, ann0⟩] none)))) (.can [5, 6, 31, 32, 33] z (z + 6))
def s8_1 (z : Nat) : SC := c8_1 z
theorem e8_1 {C : Pg} {z : Nat} {st : St} {ks : List Fr} {K : Ex → St → Prop} : wpk C (s8_1 z) st ks K ↔ wpk C (c8_1 z) st ks K := Iff.rfl
def c8_2 (z : Nat) : SC := .post (.seq (.reg [⟨(some 47), (Op.binOp BinOp.lss 3 (Operand.tmp 46) (Operand.tmp 45) 3), none, ann0⟩] none)
 (.seq (.cond (Operand.tmp 47) .skip
 (.exit 2))
 (.seq (.post (.block 3 (.seq (.reg [⟨(some 48), (Op.indexAddr 49 (Operand.tmp 44) (Operand.tmp 46)), none, ann0⟩,
  ⟨(some 49), (Op.load 38 (Operand.tmp 48)), none, ann0⟩,
  ⟨(some 11), (Op.alloc 38), none, ⟨1, false, false⟩⟩,
  ⟨none, (Op.store 38 (Operand.tmp 11) (Operand.tmp 49)), none, ann0⟩] none)
 (.reg [⟨(some 50), (Op.move (Operand.tmp 9)), none, ann0⟩,
  ⟨(some 51), (Op.fieldAddr 38 (Operand.tmp 11) 0), none, ann0⟩,
  ⟨(some 52), (Op.load 3 (Operand.tmp 51)), none, ann0⟩,
  ⟨none, (Op.mapUpdate 65 (Operand.tmp 50) (Operand.tmp 52) (Operand.const (Value.bool true))), none, ann0⟩] none))) (.tidy [5, 9, 44, 45, 46] z (z + 8)))
 (.reg [⟨(some 53), (Op.binOp BinOp.add 3 (Operand.tmp 46) (Operand.const (Value.int IntKind.i64 1)) 3), none, ann0⟩,
  ⟨(some 46), (Op.move (Operand.tmp 53)), none, ann0⟩] none)))) (.tidy [5, 9, 44, 45, 46] z (z + 7))
def s8_2 (z : Nat) : SC := c8_2 z
theorem e8_2 {C : Pg} {z : Nat} {st : St} {ks : List Fr} {K : Ex → St → Prop} : wpk C (s8_2 z) st ks K ↔ wpk C (c8_2 z) st ks K := Iff.rfl
def c8_3 (z : Nat) : SC := .post (.seq (.seq (.reg [⟨(some 56), (Op.move (Operand.tmp 12)), none, ann0⟩,
  ⟨(some 57), (Op.binOp BinOp.gtr 3 (Operand.tmp 56) (Operand.const (Value.int IntKind.i64 0)) 3), none, ann0⟩] none)
 (.cond (Operand.tmp 57) .skip
 (.exit 4)))
 (.seq (.post (.block 5 (.seq (.post (.reg [⟨(some 61), (Op.move (Operand.tmp 5)), none, ann0⟩,
  ⟨(some 62), (Op.move (Operand.tmp 5)), none, ann0⟩,
  ⟨(some 63), (Op.call { callee := (Callee.value (Operand.func 20)), args := #[(Operand.tmp 62)], argTypes := #[27] }), none, ann0⟩,
  ⟨(some 64), (Op.call { callee := (Callee.value (Operand.func 17)), args := #[(Operand.tmp 61), (Operand.tmp 63)], argTypes := #[27, 3] }), none, ann0⟩,
  ⟨(some 60), (Op.move (Operand.tmp 64)), none, ann0⟩,
  ⟨(some 65), (Op.extract (Operand.tmp 60) 0), none, ann0⟩,
  ⟨(some 66), (Op.extract (Operand.tmp 60) 1), none, ann0⟩,
  ⟨(some 67), (Op.extract (Operand.tmp 60) 2), none, ann0⟩,
  ⟨(some 13), (Op.alloc 40), none, ⟨1, false, false⟩⟩,
  ⟨(some 14), (Op.alloc 25), none, ⟨1, false, false⟩⟩,
  ⟨none, (Op.store 40 (Operand.tmp 13) (Operand.tmp 65)), none, ann0⟩,
  ⟨none, (Op.store 25 (Operand.tmp 14) (Operand.tmp 66)), none, ann0⟩,
  ⟨(some 15), (Op.assign (Operand.tmp 67)), none, ann0⟩] none) (.tidy [5, 9, 12, 13, 15] z (z + 9)))
 (.seq (.post (.seq (.post (.reg [⟨(some 68), (Op.move (Operand.tmp 15)), none, ann0⟩,
  ⟨(some 69), (Op.binOp BinOp.neq 34 (Operand.tmp 68) (Operand.const (Value.int IntKind.i64 0)) 34), none, ann0⟩,
  ⟨(some 70), (Op.move (Operand.tmp 69)), none, ann0⟩,
  ⟨(some 71), (Op.move (Operand.tmp 9)), (some (70, false)), ann0⟩,
  ⟨(some 72), (Op.fieldAddr 40 (Operand.tmp 13) 1), (some (70, false)), ann0⟩,
  ⟨(some 73), (Op.fieldAddr 38 (Operand.tmp 72) 0), (some (70, false)), ann0⟩,
  ⟨(some 74), (Op.load 3 (Operand.tmp 73)), (some (70, false)), ann0⟩,
  ⟨(some 75), (Op.lookup 65 (Operand.tmp 71) (Operand.tmp 74) false), (some (70, false)), ann0⟩,
  ⟨(some 76), (Op.unOp UnOp.not 4 (Operand.tmp 75)), (some (70, false)), ann0⟩,
  ⟨(some 77), (Op.pick (Operand.tmp 70) (Operand.const (Value.bool true)) (Operand.tmp 76)), none, ann0⟩] none) (.tidy [5, 9, 12, 13, 77] z (z + 9)))
 (.cond (Operand.tmp 77) (.seq (.reg [⟨(some 4), (Op.assign (Operand.const (Value.bool false))), none, ann0⟩] none)
 .ret)
 .skip)) (.tidy [5, 9, 12, 13] z (z + 9)))
 (.reg [⟨(some 78), (Op.move (Operand.tmp 9)), none, ann0⟩,
  ⟨(some 79), (Op.fieldAddr 40 (Operand.tmp 13) 1), none, ann0⟩,
  ⟨(some 80), (Op.fieldAddr 38 (Operand.tmp 79) 0), none, ann0⟩,
  ⟨(some 81), (Op.load 3 (Operand.tmp 80)), none, ann0⟩,
  ⟨none, (Op.mapUpdate 65 (Operand.tmp 78) (Operand.tmp 81) (Operand.const (Value.bool false))), none, ann0⟩] none)))) (.tidy [5, 9, 12] z (z + 9)))
 (.reg [⟨(some 58), (Op.move (Operand.tmp 12)), none, ann0⟩,
  ⟨(some 59), (Op.binOp BinOp.sub 3 (Operand.tmp 58) (Operand.const (Value.int IntKind.i64 1)) 3), none, ann0⟩,
  ⟨(some 12), (Op.assign (Operand.tmp 59)), none, ann0⟩] none))) (.tidy [5, 9, 12] z (z + 7))
def s8_3 (z : Nat) : SC := c8_3 z
theorem e8_3 {C : Pg} {z : Nat} {st : St} {ks : List Fr} {K : Ex → St → Prop} : wpk C (s8_3 z) st ks K ↔ wpk C (c8_3 z) st ks K := Iff.rfl
def s8 (z : Nat) : SFn := ⟨2, 82, [(ResultVar.tmp 4)],
 (.seq (.reg [⟨(some 2), (Op.box 32 (Operand.tmp 0)), none, ⟨1, false, false⟩⟩,
  ⟨(some 4), (Op.assign (Operand.const (Value.bool false))), none, ann0⟩] none)
 (.seq (.post (.seq (.post (.reg [⟨(some 16), (Op.call { callee := (Callee.value (Operand.func 12)), args := #[], argTypes := #[] }), none, ann0⟩,
  ⟨(some 17), (Op.unOp UnOp.not 4 (Operand.tmp 16)), none, ann0⟩,
  ⟨(some 18), (Op.move (Operand.tmp 17)), none, ann0⟩,
  ⟨(some 19), (Op.move (Operand.tmp 1)), (some (18, false)), ann0⟩,
  ⟨(some 20), (Op.call { callee := (Callee.builtin Builtin.len), args := #[(Operand.tmp 19)], argTypes := #[54] }), (some (18, false)), ann0⟩,
  ⟨(some 21), (Op.binOp BinOp.gtr 3 (Operand.tmp 20) (Operand.const (Value.int IntKind.i64 25)) 3), (some (18, false)), ann0⟩,
  ⟨(some 22), (Op.pick (Operand.tmp 18) (Operand.const (Value.bool true)) (Operand.tmp 21)), none, ann0⟩] none) (.tidy [1, 2, 22] z (z + 1)))
 (.cond (Operand.tmp 22) (.seq (.reg [⟨(some 23), (Op.call { callee := (Callee.value (Operand.func 12)), args := #[], argTypes := #[] }), none, ann0⟩,
  ⟨(some 4), (Op.assign (Operand.tmp 23)), none, ann0⟩] none)
 .ret)
 .skip)) (.tidy [1, 2] z (z + 1)))
 (.seq (.reg [⟨(some 25), (Op.load 32 (Operand.tmp 2)), none, ann0⟩,
  ⟨(some 26), (Op.call { callee := (Callee.value (Operand.func 13)), args := #[(Operand.tmp 25)], argTypes := #[32] }), none, ⟨4, false, false⟩⟩,
  ⟨(some 24), (Op.move (Operand.tmp 26)), none, ann0⟩,
  ⟨(some 27), (Op.extract (Operand.tmp 24) 0), none, ann0⟩,
  ⟨(some 28), (Op.extract (Operand.tmp 24) 1), none, ann0⟩,
  ⟨(some 5), (Op.assign (Operand.tmp 27)), none, ann0⟩,
  ⟨(some 6), (Op.assign (Operand.tmp 28)), none, ann0⟩] none)
 (.seq (.seq (.post (.reg [⟨(some 29), (Op.move (Operand.tmp 5)), none, ann0⟩,
  ⟨(some 30), (Op.binOp BinOp.eql 27 (Operand.tmp 29) (Operand.const (Value.pointer none)) 27), none, ann0⟩] none) (.tidy [1, 5, 6, 30] z (z + 5)))
 (.cond (Operand.tmp 30) (.seq (.reg [⟨(some 4), (Op.assign (Operand.const (Value.bool false))), none, ann0⟩] none)
 .ret)
 .skip))
 (.seq (.post (.seq (.reg [⟨(some 31), (Op.move (Operand.tmp 1)), none, ann0⟩,
  ⟨(some 32), (Op.call { callee := (Callee.builtin Builtin.len), args := #[(Operand.tmp 31)], argTypes := #[54] }), none, ann0⟩,
  ⟨(some 33), (Op.move (Operand.const (Value.int IntKind.i64 0))), none, ann0⟩] none)
 (.post (.pre (.mkb 6 3 101 8) (.block 0 (.pre (.can [5, 6, 31, 32, 33] z (z + 6)) (.loop (s8_1 z))))) (.tidy [5] z (z + 6)))) (.tidy [5] z (z + 6)))
 (.seq (.reg [⟨(some 42), (Op.makeMap 65 none), none, ⟨1, false, false⟩⟩,
  ⟨(some 9), (Op.assign (Operand.tmp 42)), none, ann0⟩] none)
 (.seq (.post (.seq (.reg [⟨(some 43), (Op.move (Operand.tmp 5)), none, ann0⟩,
  ⟨(some 44), (Op.call { callee := (Callee.value (Operand.func 21)), args := #[(Operand.tmp 43)], argTypes := #[27] }), none, ann0⟩,
  ⟨(some 45), (Op.call { callee := (Callee.builtin Builtin.len), args := #[(Operand.tmp 44)], argTypes := #[49] }), none, ann0⟩,
  ⟨(some 46), (Op.move (Operand.const (Value.int IntKind.i64 0))), none, ann0⟩] none)
 (.post (.block 2 (.pre (.tidy [5, 9, 44, 45, 46] z (z + 7)) (.loop (s8_2 z)))) (.tidy [5, 9] z (z + 7)))) (.tidy [5, 9] z (z + 7)))
 (.seq (.post (.seq (.reg [⟨(some 54), (Op.move (Operand.tmp 9)), none, ann0⟩,
  ⟨(some 55), (Op.call { callee := (Callee.builtin Builtin.len), args := #[(Operand.tmp 54)], argTypes := #[65] }), none, ann0⟩,
  ⟨(some 12), (Op.assign (Operand.tmp 55)), none, ann0⟩] none)
 (.post (.block 4 (.pre (.tidy [5, 9, 12] z (z + 7)) (.loop (s8_3 z)))) (.tidy [] z (z + 7)))) (.tidy [] z (z + 7)))
 (.seq (.reg [⟨(some 4), (Op.assign (Operand.const (Value.bool true))), none, ann0⟩] none)
 .ret)))))))))⟩
theorem F8 (z : Nat) : FOk Try.prog 8 (s8 z) := by unfold FOk; kernel_rfl
def c9_2 (z : Nat) : SC := .post (.seq (.reg [⟨(some 87), (Op.binOp BinOp.lss 3 (Operand.tmp 86) (Operand.tmp 85) 3), none, ann0⟩] none)
 (.seq (.cond (Operand.tmp 87) .skip
 (.exit 3))
 (.seq (.post (.block 4 (.seq (.reg [⟨(some 88), (Op.indexAddr 51 (Operand.tmp 84) (Operand.tmp 86)), none, ann0⟩,
  ⟨(some 89), (Op.load 40 (Operand.tmp 88)), none, ann0⟩,
  ⟨(some 12), (Op.alloc 40), none, ⟨1, false, false⟩⟩,
  ⟨none, (Op.store 40 (Operand.tmp 12) (Operand.tmp 89)), none, ann0⟩] none)
 (.seq (.post (.reg [⟨(some 90), (Op.fieldAddr 40 (Operand.tmp 12) 0), none, ann0⟩,
  ⟨(some 91), (Op.load 3 (Operand.tmp 90)), none, ann0⟩,
  ⟨(some 92), (Op.fieldAddr 57 (Operand.tmp 9) 1), none, ann0⟩,
  ⟨(some 93), (Op.load 5 (Operand.tmp 92)), none, ann0⟩,
  ⟨(some 94), (Op.binOp BinOp.rem 5 (Operand.tmp 93) (Operand.const (Value.int IntKind.u8 10)) 5), none, ann0⟩,
  ⟨(some 95), (Op.convert 5 3 (Operand.tmp 94)), none, ann0⟩,
  ⟨(some 96), (Op.binOp BinOp.add 3 (Operand.const (Value.int IntKind.i64 1)) (Operand.tmp 95) 3), none, ann0⟩,
  ⟨(some 97), (Op.binOp BinOp.eql 3 (Operand.tmp 91) (Operand.tmp 96) 3), none, ann0⟩,
  ⟨(some 98), (Op.move (Operand.tmp 97)), none, ann0⟩,
  ⟨(some 99), (Op.move (Operand.tmp 5)), (some (98, true)), ann0⟩,
  ⟨(some 100), (Op.fieldAddr 40 (Operand.tmp 12) 0), (some (98, true)), ann0⟩,
  ⟨(some 101), (Op.load 3 (Operand.tmp 100)), (some (98, true)), ann0⟩,
  ⟨(some 102), (Op.call { callee := (Callee.value (Operand.func 27)), args := #[(Operand.tmp 99), (Operand.tmp 101)], argTypes := #[27, 3] }), (some (98, true)), ann0⟩,
  ⟨(some 103), (Op.binOp BinOp.eql 34 (Operand.tmp 102) (Operand.const (Value.int IntKind.i64 0)) 34), (some (98, true)), ann0⟩,
  ⟨(some 104), (Op.pick (Operand.tmp 98) (Operand.tmp 103) (Operand.const (Value.bool false))), none, ann0⟩] none) (.tidy [5, 7, 9, 12, 38, 39, 40, 84, 85, 86, 104] z (z + 9)))
 (.cond (Operand.tmp 104) (.reg [⟨(some 105), (Op.move (Operand.tmp 7)), none, ann0⟩,
  ⟨(some 106), (Op.fieldAddr 40 (Operand.tmp 12) 1), none, ann0⟩,
  ⟨(some 107), (Op.load 38 (Operand.tmp 106)), none, ann0⟩,
  ⟨none, (Op.mapUpdate 66 (Operand.tmp 105) (Operand.tmp 107) (Operand.const (Value.bool false))), none, ann0⟩] none)
 .skip)))) (.tidy [5, 7, 9, 38, 39, 40, 84, 85, 86] z (z + 9)))
 (.reg [⟨(some 108), (Op.binOp BinOp.add 3 (Operand.tmp 86) (Operand.const (Value.int IntKind.i64 1)) 3), none, ann0⟩,
  ⟨(some 86), (Op.move (Operand.tmp 108)), none, ann0⟩] none)))) (.tidy [5, 7, 9, 38, 39, 40, 84, 85, 86] z (z + 8))
def s9_2 (z : Nat) : SC := c9_2 z
theorem e9_2 {C : Pg} {z : Nat} {st : St} {ks : List Fr} {K : Ex → St → Prop} : wpk C (s9_2 z) st ks K ↔ wpk C (c9_2 z) st ks K := Iff.rfl
def c9_1 (z : Nat) : SC := .post (.seq (.reg [⟨(some 41), (Op.binOp BinOp.lss 3 (Operand.tmp 40) (Operand.tmp 39) 3), none, ann0⟩] none)
 (.seq (.cond (Operand.tmp 41) .skip
 (.exit 0))
 (.seq (.post (.block 1 (.seq (.post (.reg [⟨(some 42), (Op.indexAddr 54 (Operand.tmp 38) (Operand.tmp 40)), none, ann0⟩,
  ⟨(some 43), (Op.load 57 (Operand.tmp 42)), none, ann0⟩,
  ⟨(some 9), (Op.alloc 57), none, ⟨1, false, false⟩⟩,
  ⟨none, (Op.store 57 (Operand.tmp 9) (Operand.tmp 43)), none, ann0⟩] none) (.tidy [5, 7, 9, 38, 39, 40] z (z + 7)))
 (.seq (.reg [⟨(some 44), (Op.fieldAddr 57 (Operand.tmp 9) 0), none, ann0⟩,
  ⟨(some 45), (Op.load 5 (Operand.tmp 44)), none, ann0⟩,
  ⟨(some 46), (Op.binOp BinOp.rem 5 (Operand.tmp 45) (Operand.const (Value.int IntKind.u8 5)) 5), none, ann0⟩] none)
 (.post (.block 2 (.seq (.reg [⟨(some 57), (Op.binOp BinOp.eql 5 (Operand.tmp 46) (Operand.const (Value.int IntKind.u8 0)) 5), none, ann0⟩,
  ⟨(some 56), (Op.assign (Operand.tmp 57)), none, ann0⟩] none)
 (.cond (Operand.tmp 56) (.seq (.reg [⟨(some 58), (Op.load 57 (Operand.tmp 9)), none, ann0⟩,
  ⟨(some 59), (Op.call { callee := (Callee.value (Operand.func 28)), args := #[(Operand.tmp 58)], argTypes := #[57] }), none, ann0⟩,
  ⟨(some 10), (Op.alloc 25), none, ⟨1, false, false⟩⟩,
  ⟨none, (Op.store 25 (Operand.tmp 10) (Operand.tmp 59)), none, ann0⟩] none)
 (.seq (.post (.reg [⟨(some 60), (Op.move (Operand.tmp 5)), none, ann0⟩,
  ⟨(some 61), (Op.load 25 (Operand.tmp 10)), none, ann0⟩,
  ⟨(some 62), (Op.call { callee := (Callee.value (Operand.func 15)), args := #[(Operand.tmp 60), (Operand.tmp 61)], argTypes := #[27, 25] }), none, ann0⟩,
  ⟨(some 63), (Op.binOp BinOp.eql 34 (Operand.tmp 62) (Operand.const (Value.int IntKind.i64 0)) 34), none, ann0⟩] none) (.tidy [5, 7, 10, 38, 39, 40, 63] z (z + 8)))
 (.cond (Operand.tmp 63) (.reg [⟨(some 64), (Op.move (Operand.tmp 7)), none, ann0⟩,
  ⟨(some 65), (Op.fieldAddr 25 (Operand.tmp 10) 0), none, ann0⟩,
  ⟨(some 66), (Op.load 3 (Operand.tmp 65)), none, ann0⟩,
  ⟨(some 67), (Op.fieldAddr 25 (Operand.tmp 10) 1), none, ann0⟩,
  ⟨(some 68), (Op.load 3 (Operand.tmp 67)), none, ann0⟩,
  ⟨(some 69), (Op.build 38 #[(0, (Operand.tmp 66)), (1, (Operand.tmp 68))]), none, ann0⟩,
  ⟨none, (Op.mapUpdate 66 (Operand.tmp 64) (Operand.tmp 69) (Operand.const (Value.bool true))), none, ann0⟩] none)
 .skip)))
 (.seq (.reg [⟨(some 71), (Op.binOp BinOp.eql 5 (Operand.tmp 46) (Operand.const (Value.int IntKind.u8 1)) 5), none, ann0⟩,
  ⟨(some 70), (Op.assign (Operand.tmp 71)), none, ann0⟩] none)
 (.cond (Operand.tmp 70) (.reg [⟨(some 72), (Op.move (Operand.tmp 5)), none, ann0⟩,
  ⟨(some 73), (Op.move (Operand.tmp 5)), none, ann0⟩,
  ⟨(some 74), (Op.call { callee := (Callee.value (Operand.func 20)), args := #[(Operand.tmp 73)], argTypes := #[27] }), none, ann0⟩,
  ⟨(some 75), (Op.fieldAddr 57 (Operand.tmp 9) 1), none, ann0⟩,
  ⟨(some 76), (Op.load 5 (Operand.tmp 75)), none, ann0⟩,
  ⟨(some 77), (Op.binOp BinOp.rem 5 (Operand.tmp 76) (Operand.const (Value.int IntKind.u8 4)) 5), none, ann0⟩,
  ⟨(some 78), (Op.convert 5 3 (Operand.tmp 77)), none, ann0⟩,
  ⟨(some 79), (Op.binOp BinOp.add 3 (Operand.tmp 74) (Operand.tmp 78) 3), none, ann0⟩,
  ⟨(some 80), (Op.call { callee := (Callee.value (Operand.func 17)), args := #[(Operand.tmp 72), (Operand.tmp 79)], argTypes := #[27, 3] }), none, ann0⟩] (some [0, 0, 2, 0, 8, 24, 56, 126, 255]))
 (.seq (.reg [⟨(some 82), (Op.binOp BinOp.eql 5 (Operand.tmp 46) (Operand.const (Value.int IntKind.u8 2)) 5), none, ann0⟩,
  ⟨(some 81), (Op.assign (Operand.tmp 82)), none, ann0⟩] none)
 (.cond (Operand.tmp 81) (.seq (.reg [⟨(some 83), (Op.move (Operand.tmp 5)), none, ann0⟩,
  ⟨(some 84), (Op.call { callee := (Callee.value (Operand.func 22)), args := #[(Operand.tmp 83)], argTypes := #[27] }), none, ⟨1, true, false⟩⟩,
  ⟨(some 85), (Op.call { callee := (Callee.builtin Builtin.len), args := #[(Operand.tmp 84)], argTypes := #[51] }), none, ann0⟩,
  ⟨(some 86), (Op.move (Operand.const (Value.int IntKind.i64 0))), none, ann0⟩] none)
 (.post (.block 3 (.pre (.tidy [5, 7, 9, 38, 39, 40, 84, 85, 86] z (z + 8)) (.loop (s9_2 z)))) (.tidy [5, 7, 38, 39, 40] z (z + 8))))
 (.seq (.reg [⟨(some 110), (Op.binOp BinOp.eql 5 (Operand.tmp 46) (Operand.const (Value.int IntKind.u8 3)) 5), none, ann0⟩,
  ⟨(some 109), (Op.assign (Operand.tmp 110)), none, ann0⟩] none)
 (.cond (Operand.tmp 109) (.reg [⟨(some 111), (Op.move (Operand.tmp 5)), none, ann0⟩,
  ⟨(some 112), (Op.fieldAddr 57 (Operand.tmp 9) 1), none, ann0⟩,
  ⟨(some 113), (Op.load 5 (Operand.tmp 112)), none, ann0⟩,
  ⟨(some 114), (Op.binOp BinOp.rem 5 (Operand.tmp 113) (Operand.const (Value.int IntKind.u8 10)) 5), none, ann0⟩,
  ⟨(some 115), (Op.convert 5 3 (Operand.tmp 114)), none, ann0⟩,
  ⟨(some 116), (Op.binOp BinOp.add 3 (Operand.const (Value.int IntKind.i64 1)) (Operand.tmp 115) 3), none, ann0⟩,
  ⟨(some 117), (Op.call { callee := (Callee.value (Operand.func 29)), args := #[(Operand.tmp 111), (Operand.tmp 116)], argTypes := #[27, 3] }), none, ann0⟩] none)
 (.reg [⟨(some 47), (Op.move (Operand.tmp 5)), none, ann0⟩,
  ⟨(some 48), (Op.move (Operand.tmp 5)), none, ann0⟩,
  ⟨(some 49), (Op.call { callee := (Callee.value (Operand.func 20)), args := #[(Operand.tmp 48)], argTypes := #[27] }), none, ann0⟩,
  ⟨(some 50), (Op.fieldAddr 57 (Operand.tmp 9) 1), none, ann0⟩,
  ⟨(some 51), (Op.load 5 (Operand.tmp 50)), none, ann0⟩,
  ⟨(some 52), (Op.binOp BinOp.rem 5 (Operand.tmp 51) (Operand.const (Value.int IntKind.u8 12)) 5), none, ann0⟩,
  ⟨(some 53), (Op.convert 5 3 (Operand.tmp 52)), none, ann0⟩,
  ⟨(some 54), (Op.binOp BinOp.add 3 (Operand.tmp 49) (Operand.tmp 53) 3), none, ann0⟩,
  ⟨(some 55), (Op.call { callee := (Callee.value (Operand.func 26)), args := #[(Operand.tmp 47), (Operand.tmp 54)], argTypes := #[27, 3] }), none, ann0⟩] (some [0, 0, 2, 0, 8, 24, 56, 126, 255]))))))))))) (.tidy [5, 7, 38, 39, 40] z (z + 8)))))) (.tidy [5, 7, 38, 39, 40] z (z + 8)))
 (.reg [⟨(some 118), (Op.binOp BinOp.add 3 (Operand.tmp 40) (Operand.const (Value.int IntKind.i64 1)) 3), none, ann0⟩,
  ⟨(some 40), (Op.move (Operand.tmp 118)), none, ann0⟩] none)))) (.tidy [5, 7, 38, 39, 40] z (z + 6))
def s9_1 (z : Nat) : SC := c9_1 z
theorem e9_1 {C : Pg} {z : Nat} {st : St} {ks : List Fr} {K : Ex → St → Prop} : wpk C (s9_1 z) st ks K ↔ wpk C (c9_1 z) st ks K := Iff.rfl
def c9_3 (z : Nat) : SC := .post (.seq (.reg [⟨(some 125), (Op.binOp BinOp.lss 3 (Operand.tmp 124) (Operand.tmp 123) 3), none, ann0⟩] none)
 (.seq (.cond (Operand.tmp 125) .skip
 (.exit 5))
 (.seq (.post (.block 6 (.seq (.reg [⟨(some 126), (Op.indexAddr 51 (Operand.tmp 122) (Operand.tmp 124)), none, ann0⟩,
  ⟨(some 127), (Op.load 40 (Operand.tmp 126)), none, ann0⟩,
  ⟨(some 15), (Op.alloc 40), none, ⟨1, false, false⟩⟩,
  ⟨none, (Op.store 40 (Operand.tmp 15) (Operand.tmp 127)), none, ann0⟩] none)
 (.reg [⟨(some 128), (Op.move (Operand.tmp 13)), none, ann0⟩,
  ⟨(some 129), (Op.fieldAddr 40 (Operand.tmp 15) 1), none, ann0⟩,
  ⟨(some 130), (Op.load 38 (Operand.tmp 129)), none, ann0⟩,
  ⟨(some 131), (Op.buildSlice 49 1 #[(0, (Operand.tmp 130))]), none, ⟨1, true, false⟩⟩,
  ⟨(some 132), (Op.call { callee := (Callee.builtin Builtin.append), args := #[(Operand.tmp 128), (Operand.tmp 131)], argTypes := #[49, 49] }), none, ann0⟩,
  ⟨(some 13), (Op.assign (Operand.tmp 132)), none, ann0⟩] none))) (.tidy [5, 7, 13, 122, 123, 124] z (z + 9)))
 (.reg [⟨(some 133), (Op.binOp BinOp.add 3 (Operand.tmp 124) (Operand.const (Value.int IntKind.i64 1)) 3), none, ann0⟩,
  ⟨(some 124), (Op.move (Operand.tmp 133)), none, ann0⟩] none)))) (.tidy [5, 7, 13, 122, 123, 124] z (z + 7))
def s9_3 (z : Nat) : SC := c9_3 z
theorem e9_3 {C : Pg} {z : Nat} {st : St} {ks : List Fr} {K : Ex → St → Prop} : wpk C (s9_3 z) st ks K ↔ wpk C (c9_3 z) st ks K := Iff.rfl
def c9_4 (z : Nat) : SC := .post (.seq (.reg [⟨(some 136), (Op.next (Operand.tmp 135) false), none, ann0⟩,
  ⟨(some 137), (Op.extract (Operand.tmp 136) 0), none, ann0⟩] none)
 (.seq (.cond (Operand.tmp 137) .skip
 (.exit 7))
 (.block 8 (.seq (.reg [⟨(some 138), (Op.entry (Operand.tmp 135)), none, ann0⟩,
  ⟨(some 139), (Op.extract (Operand.tmp 138) 1), none, ann0⟩,
  ⟨(some 18), (Op.assign (Operand.tmp 139)), none, ann0⟩] none)
 (.seq (.reg [⟨(some 140), (Op.move (Operand.tmp 18)), none, ann0⟩] none)
 (.cond (Operand.tmp 140) (.reg [⟨(some 141), (Op.move (Operand.tmp 16)), none, ann0⟩,
  ⟨(some 142), (Op.binOp BinOp.add 3 (Operand.tmp 141) (Operand.const (Value.int IntKind.i64 1)) 3), none, ann0⟩,
  ⟨(some 16), (Op.assign (Operand.tmp 142)), none, ann0⟩] none)
 .skip)))))) (.tidy [5, 7, 13, 16, 135] z (z + 8))
def s9_4 (z : Nat) : SC := c9_4 z
theorem e9_4 {C : Pg} {z : Nat} {st : St} {ks : List Fr} {K : Ex → St → Prop} : wpk C (s9_4 z) st ks K ↔ wpk C (c9_4 z) st ks K := Iff.rfl
def c9_5 (z : Nat) : SC := .post (.seq (.reg [⟨(some 147), (Op.binOp BinOp.lss 3 (Operand.tmp 146) (Operand.tmp 145) 3), none, ann0⟩] none)
 (.seq (.cond (Operand.tmp 147) .skip
 (.exit 9))
 (.seq (.post (.block 10 (.seq (.reg [⟨(some 148), (Op.indexAddr 49 (Operand.tmp 144) (Operand.tmp 146)), none, ann0⟩,
  ⟨(some 149), (Op.load 38 (Operand.tmp 148)), none, ann0⟩,
  ⟨(some 21), (Op.alloc 38), none, ⟨1, false, false⟩⟩,
  ⟨none, (Op.store 38 (Operand.tmp 21) (Operand.tmp 149)), none, ann0⟩] none)
 (.seq (.post (.seq (.post (.reg [⟨(some 150), (Op.move (Operand.tmp 19)), none, ann0⟩,
  ⟨(some 151), (Op.load 38 (Operand.tmp 21)), none, ann0⟩,
  ⟨(some 152), (Op.lookup 66 (Operand.tmp 150) (Operand.tmp 151) false), none, ann0⟩,
  ⟨(some 153), (Op.move (Operand.tmp 152)), none, ann0⟩,
  ⟨(some 154), (Op.move (Operand.tmp 7)), (some (153, false)), ann0⟩,
  ⟨(some 155), (Op.load 38 (Operand.tmp 21)), (some (153, false)), ann0⟩,
  ⟨(some 156), (Op.lookup 66 (Operand.tmp 154) (Operand.tmp 155) false), (some (153, false)), ann0⟩,
  ⟨(some 157), (Op.unOp UnOp.not 4 (Operand.tmp 156)), (some (153, false)), ann0⟩,
  ⟨(some 158), (Op.pick (Operand.tmp 153) (Operand.const (Value.bool true)) (Operand.tmp 157)), none, ann0⟩] none) (.tidy [5, 7, 13, 16, 19, 21, 144, 145, 146, 158] z (z + 10)))
 (.cond (Operand.tmp 158) (.seq (.reg [⟨(some 4), (Op.assign (Operand.const (Value.bool false))), none, ann0⟩] none)
 .ret)
 .skip)) (.tidy [5, 7, 13, 16, 19, 21, 144, 145, 146] z (z + 10)))
 (.reg [⟨(some 159), (Op.move (Operand.tmp 19)), none, ann0⟩,
  ⟨(some 160), (Op.load 38 (Operand.tmp 21)), none, ann0⟩,
  ⟨none, (Op.mapUpdate 66 (Operand.tmp 159) (Operand.tmp 160) (Operand.const (Value.bool true))), none, ann0⟩] none)))) (.tidy [5, 7, 13, 16, 19, 144, 145, 146] z (z + 10)))
 (.reg [⟨(some 161), (Op.binOp BinOp.add 3 (Operand.tmp 146) (Operand.const (Value.int IntKind.i64 1)) 3), none, ann0⟩,
  ⟨(some 146), (Op.move (Operand.tmp 161)), none, ann0⟩] none)))) (.tidy [5, 7, 13, 16, 19, 144, 145, 146] z (z + 9))
def s9_5 (z : Nat) : SC := c9_5 z
theorem e9_5 {C : Pg} {z : Nat} {st : St} {ks : List Fr} {K : Ex → St → Prop} : wpk C (s9_5 z) st ks K ↔ wpk C (c9_5 z) st ks K := Iff.rfl
def s9 (z : Nat) : SFn := ⟨2, 172, [(ResultVar.tmp 4)],
 (.seq (.reg [⟨(some 2), (Op.box 32 (Operand.tmp 0)), none, ⟨1, false, false⟩⟩,
  ⟨(some 4), (Op.assign (Operand.const (Value.bool false))), none, ann0⟩] none)
 (.seq (.post (.seq (.post (.reg [⟨(some 22), (Op.call { callee := (Callee.value (Operand.func 12)), args := #[], argTypes := #[] }), none, ann0⟩,
  ⟨(some 23), (Op.unOp UnOp.not 4 (Operand.tmp 22)), none, ann0⟩,
  ⟨(some 24), (Op.move (Operand.tmp 23)), none, ann0⟩,
  ⟨(some 25), (Op.move (Operand.tmp 1)), (some (24, false)), ann0⟩,
  ⟨(some 26), (Op.call { callee := (Callee.builtin Builtin.len), args := #[(Operand.tmp 25)], argTypes := #[54] }), (some (24, false)), ann0⟩,
  ⟨(some 27), (Op.binOp BinOp.gtr 3 (Operand.tmp 26) (Operand.const (Value.int IntKind.i64 25)) 3), (some (24, false)), ann0⟩,
  ⟨(some 28), (Op.pick (Operand.tmp 24) (Operand.const (Value.bool true)) (Operand.tmp 27)), none, ann0⟩] none) (.tidy [1, 2, 28] z (z + 1)))
 (.cond (Operand.tmp 28) (.seq (.reg [⟨(some 29), (Op.call { callee := (Callee.value (Operand.func 12)), args := #[], argTypes := #[] }), none, ann0⟩,
  ⟨(some 4), (Op.assign (Operand.tmp 29)), none, ann0⟩] none)
 .ret)
 .skip)) (.tidy [1, 2] z (z + 1)))
 (.seq (.post (.reg [⟨(some 31), (Op.load 32 (Operand.tmp 2)), none, ann0⟩,
  ⟨(some 32), (Op.call { callee := (Callee.value (Operand.func 13)), args := #[(Operand.tmp 31)], argTypes := #[32] }), none, ⟨4, false, false⟩⟩,
  ⟨(some 30), (Op.move (Operand.tmp 32)), none, ann0⟩,
  ⟨(some 33), (Op.extract (Operand.tmp 30) 0), none, ann0⟩,
  ⟨(some 34), (Op.extract (Operand.tmp 30) 1), none, ann0⟩,
  ⟨(some 5), (Op.assign (Operand.tmp 33)), none, ann0⟩,
  ⟨(some 6), (Op.assign (Operand.tmp 34)), none, ann0⟩] none) (.tidy [1, 5] z (z + 5)))
 (.seq (.seq (.reg [⟨(some 35), (Op.move (Operand.tmp 5)), none, ann0⟩,
  ⟨(some 36), (Op.binOp BinOp.eql 27 (Operand.tmp 35) (Operand.const (Value.pointer none)) 27), none, ann0⟩] none)
 (.cond (Operand.tmp 36) (.seq (.reg [⟨(some 4), (Op.assign (Operand.const (Value.bool false))), none, ann0⟩] none)
 .ret)
 .skip))
 (.seq (.reg [⟨(some 37), (Op.makeMap 66 none), none, ⟨1, true, false⟩⟩,
  ⟨(some 7), (Op.assign (Operand.tmp 37)), none, ann0⟩] none)
 (.seq (.post (.seq (.reg [⟨(some 38), (Op.move (Operand.tmp 1)), none, ann0⟩,
  ⟨(some 39), (Op.call { callee := (Callee.builtin Builtin.len), args := #[(Operand.tmp 38)], argTypes := #[54] }), none, ann0⟩,
  ⟨(some 40), (Op.move (Operand.const (Value.int IntKind.i64 0))), none, ann0⟩] none)
 (.post (.block 0 (.pre (.tidy [5, 7, 38, 39, 40] z (z + 6)) (.loop (s9_1 z)))) (.tidy [5, 7] z (z + 6)))) (.tidy [5, 7] z (z + 6)))
 (.seq (.reg [⟨(some 119), (Op.move (Operand.tmp 5)), none, ann0⟩,
  ⟨(some 120), (Op.call { callee := (Callee.value (Operand.func 21)), args := #[(Operand.tmp 119)], argTypes := #[27] }), none, ann0⟩,
  ⟨(some 13), (Op.assign (Operand.tmp 120)), none, ann0⟩] none)
 (.seq (.post (.seq (.reg [⟨(some 121), (Op.move (Operand.tmp 5)), none, ann0⟩,
  ⟨(some 122), (Op.call { callee := (Callee.value (Operand.func 22)), args := #[(Operand.tmp 121)], argTypes := #[27] }), none, ⟨1, true, false⟩⟩,
  ⟨(some 123), (Op.call { callee := (Callee.builtin Builtin.len), args := #[(Operand.tmp 122)], argTypes := #[51] }), none, ann0⟩,
  ⟨(some 124), (Op.move (Operand.const (Value.int IntKind.i64 0))), none, ann0⟩] none)
 (.post (.block 5 (.pre (.tidy [5, 7, 13, 122, 123, 124] z (z + 7)) (.loop (s9_3 z)))) (.tidy [5, 7, 13] z (z + 7)))) (.tidy [5, 7, 13] z (z + 7)))
 (.seq (.reg [⟨(some 16), (Op.assign (Operand.const (Value.int IntKind.i64 0))), none, ann0⟩] none)
 (.seq (.post (.seq (.reg [⟨(some 134), (Op.move (Operand.tmp 7)), none, ann0⟩,
  ⟨(some 135), (Op.range 66 (Operand.tmp 134)), none, ⟨1, false, false⟩⟩] none)
 (.post (.block 7 (.pre (.tidy [5, 7, 13, 16, 135] z (z + 8)) (.loop (s9_4 z)))) (.tidy [5, 7, 13, 16] z (z + 8)))) (.tidy [5, 7, 13, 16] z (z + 8)))
 (.seq (.reg [⟨(some 143), (Op.makeMap 66 none), none, ⟨1, true, false⟩⟩,
  ⟨(some 19), (Op.assign (Operand.tmp 143)), none, ann0⟩] none)
 (.seq (.post (.seq (.reg [⟨(some 144), (Op.move (Operand.tmp 13)), none, ann0⟩,
  ⟨(some 145), (Op.call { callee := (Callee.builtin Builtin.len), args := #[(Operand.tmp 144)], argTypes := #[49] }), none, ann0⟩,
  ⟨(some 146), (Op.move (Operand.const (Value.int IntKind.i64 0))), none, ann0⟩] none)
 (.post (.block 9 (.pre (.tidy [5, 7, 13, 16, 19, 144, 145, 146] z (z + 9)) (.loop (s9_5 z)))) (.tidy [5, 13, 16] z (z + 9)))) (.tidy [5, 13, 16] z (z + 9)))
 (.seq (.reg [⟨(some 162), (Op.move (Operand.tmp 13)), none, ann0⟩,
  ⟨(some 163), (Op.call { callee := (Callee.builtin Builtin.len), args := #[(Operand.tmp 162)], argTypes := #[49] }), none, ann0⟩,
  ⟨(some 164), (Op.move (Operand.tmp 16)), none, ann0⟩,
  ⟨(some 165), (Op.binOp BinOp.eql 3 (Operand.tmp 163) (Operand.tmp 164) 3), none, ann0⟩,
  ⟨(some 166), (Op.move (Operand.tmp 165)), none, ann0⟩,
  ⟨(some 167), (Op.move (Operand.tmp 5)), (some (166, true)), ann0⟩,
  ⟨(some 168), (Op.call { callee := (Callee.value (Operand.func 16)), args := #[(Operand.tmp 167)], argTypes := #[27] }), (some (166, true)), ann0⟩,
  ⟨(some 169), (Op.move (Operand.tmp 16)), (some (166, true)), ann0⟩,
  ⟨(some 170), (Op.binOp BinOp.eql 3 (Operand.tmp 168) (Operand.tmp 169) 3), (some (166, true)), ann0⟩,
  ⟨(some 171), (Op.pick (Operand.tmp 166) (Operand.tmp 170) (Operand.const (Value.bool false))), none, ann0⟩,
  ⟨(some 4), (Op.assign (Operand.tmp 171)), none, ann0⟩] none)
 .ret)))))))))))))⟩
theorem F9 (z : Nat) : FOk Try.prog 9 (s9 z) := by unfold FOk; kernel_rfl
def c12_1 (z : Nat) : SC := .post (.seq (.reg [⟨(some 28), (Op.binOp BinOp.lss 3 (Operand.tmp 27) (Operand.tmp 26) 3), none, ann0⟩] none)
 (.seq (.cond (Operand.tmp 28) .skip
 (.exit 0))
 (.seq (.post (.block 1 (.seq (.reg [⟨(some 29), (Op.indexAddr 49 (Operand.tmp 25) (Operand.tmp 27)), none, ann0⟩,
  ⟨(some 30), (Op.load 38 (Operand.tmp 29)), none, ann0⟩,
  ⟨(some 4), (Op.alloc 38), none, ⟨1, false, false⟩⟩,
  ⟨none, (Op.store 38 (Operand.tmp 4) (Operand.tmp 30)), none, ann0⟩] none)
 (.seq (.post (.reg [⟨(some 31), (Op.move (Operand.tmp 1)), none, ann0⟩,
  ⟨(some 32), (Op.fieldAddr 38 (Operand.tmp 4) 0), none, ann0⟩,
  ⟨(some 33), (Op.load 3 (Operand.tmp 32)), none, ann0⟩,
  ⟨(some 34), (Op.fieldAddr 38 (Operand.tmp 4) 1), none, ann0⟩,
  ⟨(some 35), (Op.load 3 (Operand.tmp 34)), none, ann0⟩,
  ⟨(some 36), (Op.build 25 #[(0, (Operand.tmp 33)), (1, (Operand.tmp 35))]), none, ann0⟩,
  ⟨(some 37), (Op.call { callee := (Callee.value (Operand.func 15)), args := #[(Operand.tmp 31), (Operand.tmp 36)], argTypes := #[27, 25] }), none, ann0⟩,
  ⟨(some 38), (Op.binOp BinOp.neq 34 (Operand.tmp 37) (Operand.const (Value.int IntKind.i64 0)) 34), none, ann0⟩] none) (.tidy [1, 25, 26, 27, 38] z (z + 5)))
 (.cond (Operand.tmp 38) (.seq (.reg [⟨(some 0), (Op.assign (Operand.const (Value.bool false))), none, ann0⟩] none)
 .ret)
 .skip)))) (.tidy [1, 25, 26, 27] z (z + 5)))
 (.reg [⟨(some 39), (Op.binOp BinOp.add 3 (Operand.tmp 27) (Operand.const (Value.int IntKind.i64 1)) 3), none, ann0⟩,
  ⟨(some 27), (Op.move (Operand.tmp 39)), none, ann0⟩] none)))) (.tidy [1, 25, 26, 27] z (z + 4))
def s12_1 (z : Nat) : SC := c12_1 z
theorem e12_1 {C : Pg} {z : Nat} {st : St} {ks : List Fr} {K : Ex → St → Prop} : wpk C (s12_1 z) st ks K ↔ wpk C (c12_1 z) st ks K := Iff.rfl
def s12 (z : Nat) : SFn := ⟨0, 101, [(ResultVar.tmp 0)],
 (.seq (.reg [⟨(some 0), (Op.assign (Operand.const (Value.bool false))), none, ann0⟩] none)
 (.seq (.post (.reg [⟨(some 12), (Op.build 46 #[(0, (Operand.const (Value.int IntKind.i64 8))), (1, (Operand.const (Value.int IntKind.i64 2))), (2, (Operand.const (Value.int IntKind.i64 10)))]), none, ann0⟩,
  ⟨(some 13), (Op.call { callee := (Callee.value (Operand.func 19)), args := #[(Operand.tmp 12)], argTypes := #[46] }), none, ⟨3, false, false⟩⟩,
  ⟨(some 11), (Op.move (Operand.tmp 13)), none, ann0⟩,
  ⟨(some 14), (Op.extract (Operand.tmp 11) 0), none, ann0⟩,
  ⟨(some 15), (Op.extract (Operand.tmp 11) 1), none, ann0⟩,
  ⟨(some 1), (Op.assign (Operand.tmp 14)), none, ann0⟩,
  ⟨(some 2), (Op.assign (Operand.tmp 15)), none, ann0⟩] none) (.tidy [1, 2] z (z + 3)))
 (.seq (.post (.seq (.reg [⟨(some 16), (Op.move (Operand.tmp 2)), none, ann0⟩,
  ⟨(some 17), (Op.binOp BinOp.neq 34 (Operand.tmp 16) (Operand.const (Value.int IntKind.i64 0)) 34), none, ann0⟩,
  ⟨(some 18), (Op.move (Operand.tmp 17)), none, ann0⟩,
  ⟨(some 19), (Op.move (Operand.tmp 1)), (some (18, false)), ann0⟩,
  ⟨(some 20), (Op.binOp BinOp.eql 27 (Operand.tmp 19) (Operand.const (Value.pointer none)) 27), (some (18, false)), ann0⟩,
  ⟨(some 21), (Op.pick (Operand.tmp 18) (Operand.const (Value.bool true)) (Operand.tmp 20)), none, ann0⟩] none)
 (.cond (Operand.tmp 21) (.seq (.reg [⟨(some 0), (Op.assign (Operand.const (Value.bool false))), none, ann0⟩] none)
 .ret)
 .skip)) (.tidy [1] z (z + 3)))
 (.seq (.post (.seq (.reg [⟨(some 22), (Op.build 38 #[(0, (Operand.const (Value.int IntKind.i64 5))), (1, (Operand.const (Value.int IntKind.i64 0)))]), none, ann0⟩,
  ⟨(some 23), (Op.build 38 #[(0, (Operand.const (Value.int IntKind.i64 5))), (1, (Operand.const (Value.int IntKind.i64 1)))]), none, ann0⟩,
  ⟨(some 24), (Op.build 38 #[(0, (Operand.const (Value.int IntKind.i64 9))), (1, (Operand.const (Value.int IntKind.i64 0)))]), none, ann0⟩,
  ⟨(some 25), (Op.buildSlice 49 3 #[(0, (Operand.tmp 22)), (1, (Operand.tmp 23)), (2, (Operand.tmp 24))]), none, ⟨1, true, false⟩⟩,
  ⟨(some 26), (Op.call { callee := (Callee.builtin Builtin.len), args := #[(Operand.tmp 25)], argTypes := #[49] }), none, ann0⟩,
  ⟨(some 27), (Op.move (Operand.const (Value.int IntKind.i64 0))), none, ann0⟩] none)
 (.post (.block 0 (.pre (.tidy [1, 25, 26, 27] z (z + 4)) (.loop (s12_1 z)))) (.tidy [1] z (z + 4)))) (.tidy [1] z (z + 4)))
 (.seq (.post (.reg [⟨(some 41), (Op.move (Operand.tmp 1)), none, ann0⟩,
  ⟨(some 42), (Op.call { callee := (Callee.value (Operand.func 17)), args := #[(Operand.tmp 41), (Operand.const (Value.int IntKind.i64 3))], argTypes := #[27, 3] }), none, ann0⟩,
  ⟨(some 40), (Op.move (Operand.tmp 42)), none, ann0⟩,
  ⟨(some 43), (Op.extract (Operand.tmp 40) 0), none, ann0⟩,
  ⟨(some 44), (Op.extract (Operand.tmp 40) 1), none, ann0⟩,
  ⟨(some 45), (Op.extract (Operand.tmp 40) 2), none, ann0⟩,
  ⟨(some 5), (Op.alloc 40), none, ⟨1, false, false⟩⟩,
  ⟨(some 6), (Op.alloc 25), none, ⟨1, false, false⟩⟩,
  ⟨none, (Op.store 40 (Operand.tmp 5) (Operand.tmp 43)), none, ann0⟩,
  ⟨none, (Op.store 25 (Operand.tmp 6) (Operand.tmp 44)), none, ann0⟩,
  ⟨(some 7), (Op.assign (Operand.tmp 45)), none, ann0⟩] none) (.tidy [1, 5, 6, 7] z (z + 6)))
 (.seq (.post (.reg [⟨(some 47), (Op.move (Operand.tmp 1)), none, ann0⟩,
  ⟨(some 48), (Op.call { callee := (Callee.value (Operand.func 17)), args := #[(Operand.tmp 47), (Operand.const (Value.int IntKind.i64 3))], argTypes := #[27, 3] }), none, ann0⟩,
  ⟨(some 46), (Op.move (Operand.tmp 48)), none, ann0⟩,
  ⟨(some 49), (Op.extract (Operand.tmp 46) 0), none, ann0⟩,
  ⟨(some 50), (Op.extract (Operand.tmp 46) 1), none, ann0⟩,
  ⟨(some 51), (Op.extract (Operand.tmp 46) 2), none, ann0⟩,
  ⟨(some 8), (Op.alloc 40), none, ⟨1, false, false⟩⟩,
  ⟨(some 9), (Op.alloc 25), none, ⟨1, false, false⟩⟩,
  ⟨none, (Op.store 40 (Operand.tmp 8) (Operand.tmp 49)), none, ann0⟩,
  ⟨none, (Op.store 25 (Operand.tmp 9) (Operand.tmp 50)), none, ann0⟩,
  ⟨(some 10), (Op.assign (Operand.tmp 51)), none, ann0⟩] none) (.tidy [1, 5, 6, 7, 8, 10] z (z + 8)))
 (.seq (.reg [⟨(some 52), (Op.move (Operand.tmp 1)), none, ann0⟩,
  ⟨(some 53), (Op.call { callee := (Callee.value (Operand.func 14)), args := #[(Operand.tmp 52), (Operand.const (Value.int IntKind.i64 5))], argTypes := #[27, 3] }), none, ann0⟩,
  ⟨(some 54), (Op.binOp BinOp.eql 3 (Operand.tmp 53) (Operand.const (Value.int IntKind.i64 0)) 3), none, ann0⟩,
  ⟨(some 55), (Op.move (Operand.tmp 54)), none, ann0⟩,
  ⟨(some 56), (Op.move (Operand.tmp 1)), (some (55, true)), ann0⟩,
  ⟨(some 57), (Op.call { callee := (Callee.value (Operand.func 14)), args := #[(Operand.tmp 56), (Operand.const (Value.int IntKind.i64 9))], argTypes := #[27, 3] }), (some (55, true)), ann0⟩,
  ⟨(some 58), (Op.binOp BinOp.eql 3 (Operand.tmp 57) (Operand.const (Value.int IntKind.i64 1)) 3), (some (55, true)), ann0⟩,
  ⟨(some 59), (Op.pick (Operand.tmp 55) (Operand.tmp 58) (Operand.const (Value.bool false))), none, ann0⟩,
  ⟨(some 60), (Op.move (Operand.tmp 59)), none, ann0⟩,
  ⟨(some 61), (Op.move (Operand.tmp 7)), (some (60, true)), ann0⟩,
  ⟨(some 62), (Op.binOp BinOp.eql 34 (Operand.tmp 61) (Operand.const (Value.int IntKind.i64 0)) 34), (some (60, true)), ann0⟩,
  ⟨(some 63), (Op.pick (Operand.tmp 60) (Operand.tmp 62) (Operand.const (Value.bool false))), none, ann0⟩,
  ⟨(some 64), (Op.move (Operand.tmp 63)), none, ann0⟩,
  ⟨(some 65), (Op.load 40 (Operand.tmp 5)), (some (64, true)), ann0⟩,
  ⟨(some 66), (Op.build 38 #[(0, (Operand.const (Value.int IntKind.i64 5)))]), (some (64, true)), ann0⟩,
  ⟨(some 67), (Op.build 40 #[(0, (Operand.const (Value.int IntKind.i64 1))), (1, (Operand.tmp 66)), (2, (Operand.const (Value.int IntKind.i64 13)))]), (some (64, true)), ann0⟩,
  ⟨(some 68), (Op.binOp BinOp.eql 40 (Operand.tmp 65) (Operand.tmp 67) 40), (some (64, true)), ann0⟩,
  ⟨(some 69), (Op.pick (Operand.tmp 64) (Operand.tmp 68) (Operand.const (Value.bool false))), none, ann0⟩,
  ⟨(some 70), (Op.move (Operand.tmp 69)), none, ann0⟩,
  ⟨(some 71), (Op.fieldAddr 25 (Operand.tmp 6) 0), (some (70, true)), ann0⟩,
  ⟨(some 72), (Op.load 3 (Operand.tmp 71)), (some (70, true)), ann0⟩,
  ⟨(some 73), (Op.binOp BinOp.eql 3 (Operand.tmp 72) (Operand.const (Value.int IntKind.i64 5)) 3), (some (70, true)), ann0⟩,
  ⟨(some 74), (Op.pick (Operand.tmp 70) (Operand.tmp 73) (Operand.const (Value.bool false))), none, ann0⟩,
  ⟨(some 75), (Op.move (Operand.tmp 74)), none, ann0⟩,
  ⟨(some 76), (Op.move (Operand.tmp 10)), (some (75, true)), ann0⟩,
  ⟨(some 77), (Op.binOp BinOp.eql 34 (Operand.tmp 76) (Operand.const (Value.int IntKind.i64 0)) 34), (some (75, true)), ann0⟩,
  ⟨(some 78), (Op.pick (Operand.tmp 75) (Operand.tmp 77) (Operand.const (Value.bool false))), none, ann0⟩,
  ⟨(some 79), (Op.move (Operand.tmp 78)), none, ann0⟩,
  ⟨(some 80), (Op.fieldAddr 40 (Operand.tmp 8) 1), (some (79, true)), ann0⟩,
  ⟨(some 81), (Op.load 38 (Operand.tmp 80)), (some (79, true)), ann0⟩,
  ⟨(some 82), (Op.build 38 #[(0, (Operand.const (Value.int IntKind.i64 9)))]), (some (79, true)), ann0⟩,
  ⟨(some 83), (Op.binOp BinOp.eql 38 (Operand.tmp 81) (Operand.tmp 82) 38), (some (79, true)), ann0⟩,
  ⟨(some 84), (Op.pick (Operand.tmp 79) (Operand.tmp 83) (Operand.const (Value.bool false))), none, ann0⟩,
  ⟨(some 85), (Op.move (Operand.tmp 84)), none, ann0⟩,
  ⟨(some 86), (Op.move (Operand.tmp 1)), (some (85, true)), ann0⟩,
  ⟨(some 87), (Op.call { callee := (Callee.value (Operand.func 29)), args := #[(Operand.tmp 86), (Operand.const (Value.int IntKind.i64 1))], argTypes := #[27, 3] }), (some (85, true)), ann0⟩,
  ⟨(some 88), (Op.binOp BinOp.eql 34 (Operand.tmp 87) (Operand.const (Value.int IntKind.i64 0)) 34), (some (85, true)), ann0⟩,
  ⟨(some 89), (Op.pick (Operand.tmp 85) (Operand.tmp 88) (Operand.const (Value.bool false))), none, ann0⟩,
  ⟨(some 90), (Op.move (Operand.tmp 89)), none, ann0⟩,
  ⟨(some 91), (Op.move (Operand.tmp 1)), (some (90, true)), ann0⟩,
  ⟨(some 92), (Op.call { callee := (Callee.value (Operand.func 21)), args := #[(Operand.tmp 91)], argTypes := #[27] }), (some (90, true)), ann0⟩,
  ⟨(some 93), (Op.call { callee := (Callee.builtin Builtin.len), args := #[(Operand.tmp 92)], argTypes := #[49] }), (some (90, true)), ann0⟩,
  ⟨(some 94), (Op.binOp BinOp.eql 3 (Operand.tmp 93) (Operand.const (Value.int IntKind.i64 2)) 3), (some (90, true)), ann0⟩,
  ⟨(some 95), (Op.pick (Operand.tmp 90) (Operand.tmp 94) (Operand.const (Value.bool false))), none, ann0⟩,
  ⟨(some 96), (Op.move (Operand.tmp 95)), none, ann0⟩,
  ⟨(some 97), (Op.move (Operand.tmp 1)), (some (96, true)), ann0⟩,
  ⟨(some 98), (Op.call { callee := (Callee.value (Operand.func 16)), args := #[(Operand.tmp 97)], argTypes := #[27] }), (some (96, true)), ann0⟩,
  ⟨(some 99), (Op.binOp BinOp.eql 3 (Operand.tmp 98) (Operand.const (Value.int IntKind.i64 3)) 3), (some (96, true)), ann0⟩,
  ⟨(some 100), (Op.pick (Operand.tmp 96) (Operand.tmp 99) (Operand.const (Value.bool false))), none, ann0⟩,
  ⟨(some 0), (Op.assign (Operand.tmp 100)), none, ann0⟩] none)
 .ret)))))))⟩
theorem F12 (z : Nat) : FOk Try.prog 12 (s12 z) := by unfold FOk; kernel_rfl
def s13 (z : Nat) : SFn := ⟨1, 19, [(ResultVar.tmp 2), (ResultVar.tmp 3)],
 (.seq (.reg [⟨(some 1), (Op.box 32 (Operand.tmp 0)), none, ⟨1, false, false⟩⟩,
  ⟨(some 2), (Op.assign (Operand.const (Value.pointer none))), none, ann0⟩,
  ⟨(some 3), (Op.assign (Operand.const (Value.pointer none))), none, ann0⟩] none)
 (.seq (.post (.reg [⟨(some 7), (Op.load 32 (Operand.tmp 1)), none, ann0⟩,
  ⟨(some 8), (Op.call { callee := (Callee.value (Operand.func 23)), args := #[(Operand.tmp 7)], argTypes := #[32] }), none, ann0⟩,
  ⟨(some 9), (Op.call { callee := (Callee.value (Operand.func 19)), args := #[(Operand.tmp 8)], argTypes := #[46] }), none, ⟨3, false, false⟩⟩,
  ⟨(some 6), (Op.move (Operand.tmp 9)), none, ann0⟩,
  ⟨(some 10), (Op.extract (Operand.tmp 6) 0), none, ann0⟩,
  ⟨(some 11), (Op.extract (Operand.tmp 6) 1), none, ann0⟩,
  ⟨(some 4), (Op.assign (Operand.tmp 10)), none, ann0⟩,
  ⟨(some 5), (Op.assign (Operand.tmp 11)), none, ann0⟩] none) (.tidy [1, 4, 5] z (z + 4)))
 (.seq (.seq (.reg [⟨(some 12), (Op.move (Operand.tmp 5)), none, ann0⟩,
  ⟨(some 13), (Op.binOp BinOp.neq 34 (Operand.tmp 12) (Operand.const (Value.int IntKind.i64 0)) 34), none, ann0⟩] none)
 (.cond (Operand.tmp 13) (.seq (.reg [⟨(some 2), (Op.assign (Operand.const (Value.pointer none))), none, ann0⟩,
  ⟨(some 3), (Op.assign (Operand.const (Value.pointer none))), none, ann0⟩] none)
 .ret)
 .skip))
 (.seq (.reg [⟨(some 14), (Op.move (Operand.tmp 4)), none, ann0⟩,
  ⟨(some 15), (Op.load 32 (Operand.tmp 1)), none, ann0⟩,
  ⟨(some 16), (Op.call { callee := (Callee.value (Operand.func 23)), args := #[(Operand.tmp 15)], argTypes := #[32] }), none, ann0⟩,
  ⟨(some 17), (Op.build 74 #[(0, (Operand.tmp 16)), (2, (Operand.const (Value.int IntKind.i64 1)))]), none, ann0⟩,
  ⟨(some 18), (Op.box 74 (Operand.tmp 17)), none, ⟨1, false, false⟩⟩,
  ⟨(some 2), (Op.assign (Operand.tmp 14)), none, ann0⟩,
  ⟨(some 3), (Op.assign (Operand.tmp 18)), none, ann0⟩] none)
 .ret))))⟩
theorem F13 (z : Nat) : FOk Try.prog 13 (s13 z) := by unfold FOk; kernel_rfl
def c14_1 (z : Nat) : SC := .post (.seq (.reg [⟨(some 19), (Op.next (Operand.tmp 18) false), none, ann0⟩,
  ⟨(some 20), (Op.extract (Operand.tmp 19) 0), none, ann0⟩] none)
 (.seq (.cond (Operand.tmp 20) .skip
 (.exit 0))
 (.block 1 (.seq (.post (.reg [⟨(some 21), (Op.entry (Operand.tmp 18)), none, ann0⟩,
  ⟨(some 22), (Op.extract (Operand.tmp 21) 0), none, ann0⟩,
  ⟨(some 6), (Op.alloc 38), none, ⟨1, false, false⟩⟩,
  ⟨none, (Op.store 38 (Operand.tmp 6) (Operand.tmp 22)), none, ann0⟩] none) (.tidy [0, 1, 5, 6, 18] z (z + 2)))
 (.seq (.reg [⟨(some 23), (Op.fieldAddr 38 (Operand.tmp 6) 0), none, ann0⟩,
  ⟨(some 24), (Op.load 3 (Operand.tmp 23)), none, ann0⟩,
  ⟨(some 25), (Op.move (Operand.tmp 1)), none, ann0⟩,
  ⟨(some 26), (Op.binOp BinOp.eql 3 (Operand.tmp 24) (Operand.tmp 25) 3), none, ann0⟩] none)
 (.cond (Operand.tmp 26) (.reg [⟨(some 27), (Op.move (Operand.tmp 5)), none, ann0⟩,
  ⟨(some 28), (Op.binOp BinOp.add 3 (Operand.tmp 27) (Operand.const (Value.int IntKind.i64 1)) 3), none, ann0⟩,
  ⟨(some 5), (Op.assign (Operand.tmp 28)), none, ann0⟩] none)
 .skip)))))) (.tidy [0, 1, 5, 18] z (z + 1))
def s14_1 (z : Nat) : SC := c14_1 z
theorem e14_1 {C : Pg} {z : Nat} {st : St} {ks : List Fr} {K : Ex → St → Prop} : wpk C (s14_1 z) st ks K ↔ wpk C (c14_1 z) st ks K := Iff.rfl
def s14 (z : Nat) : SFn := ⟨2, 49, [(ResultVar.tmp 4)],
 (.seq (.reg [⟨(some 4), (Op.assign (Operand.const (Value.int IntKind.i64 0))), none, ann0⟩] none)
 (.seq (.post (.seq (.post (.reg [⟨(some 7), (Op.move (Operand.tmp 0)), none, ann0⟩,
  ⟨(some 8), (Op.binOp BinOp.eql 27 (Operand.tmp 7) (Operand.const (Value.pointer none)) 27), none, ann0⟩,
  ⟨(some 9), (Op.move (Operand.tmp 8)), none, ann0⟩,
  ⟨(some 10), (Op.move (Operand.tmp 1)), (some (9, false)), ann0⟩,
  ⟨(some 11), (Op.call { callee := (Callee.value (Operand.func 33)), args := #[(Operand.tmp 10)], argTypes := #[3] }), (some (9, false)), ann0⟩,
  ⟨(some 12), (Op.unOp UnOp.not 4 (Operand.tmp 11)), (some (9, false)), ann0⟩,
  ⟨(some 13), (Op.pick (Operand.tmp 9) (Operand.const (Value.bool true)) (Operand.tmp 12)), none, ann0⟩] none) (.tidy [0, 1, 13] z (z + 0)))
 (.cond (Operand.tmp 13) (.seq (.reg [⟨(some 4), (Op.assign (Operand.const (Value.int IntKind.i64 0))), none, ann0⟩] none)
 .ret)
 .skip)) (.tidy [0, 1] z (z + 0)))
 (.seq (.reg [⟨(some 5), (Op.assign (Operand.const (Value.int IntKind.i64 0))), none, ann0⟩] none)
 (.seq (.post (.seq (.reg [⟨(some 14), (Op.move (Operand.tmp 0)), none, ann0⟩,
  ⟨(some 15), (Op.nilCheck (Operand.tmp 14)), none, ann0⟩,
  ⟨(some 16), (Op.fieldAddr 79 (Operand.tmp 15) 1), none, ann0⟩,
  ⟨(some 17), (Op.load 76 (Operand.tmp 16)), none, ann0⟩,
  ⟨(some 18), (Op.range 76 (Operand.tmp 17)), none, ⟨1, false, false⟩⟩] none)
 (.post (.block 0 (.pre (.tidy [0, 1, 5, 18] z (z + 1)) (.loop (s14_1 z)))) (.tidy [0, 5] z (z + 1)))) (.tidy [0, 5] z (z + 1)))
 (.seq (.reg [⟨(some 29), (Op.move (Operand.tmp 0)), none, ann0⟩,
  ⟨(some 30), (Op.nilCheck (Operand.tmp 29)), none, ann0⟩,
  ⟨(some 31), (Op.fieldAddr 79 (Operand.tmp 30) 0), none, ann0⟩,
  ⟨(some 32), (Op.fieldAddr 46 (Operand.tmp 31) 0), none, ann0⟩,
  ⟨(some 33), (Op.load 3 (Operand.tmp 32)), none, ann0⟩,
  ⟨(some 34), (Op.move (Operand.tmp 0)), none, ann0⟩,
  ⟨(some 35), (Op.nilCheck (Operand.tmp 34)), none, ann0⟩,
  ⟨(some 36), (Op.fieldAddr 79 (Operand.tmp 35) 1), none, ann0⟩,
  ⟨(some 37), (Op.load 76 (Operand.tmp 36)), none, ann0⟩,
  ⟨(some 38), (Op.call { callee := (Callee.builtin Builtin.len), args := #[(Operand.tmp 37)], argTypes := #[76] }), none, ann0⟩,
  ⟨(some 39), (Op.binOp BinOp.sub 3 (Operand.tmp 33) (Operand.tmp 38) 3), none, ann0⟩,
  ⟨(some 40), (Op.move (Operand.tmp 0)), none, ann0⟩,
  ⟨(some 41), (Op.nilCheck (Operand.tmp 40)), none, ann0⟩,
  ⟨(some 42), (Op.fieldAddr 79 (Operand.tmp 41) 0), none, ann0⟩,
  ⟨(some 43), (Op.fieldAddr 46 (Operand.tmp 42) 1), none, ann0⟩,
  ⟨(some 44), (Op.load 3 (Operand.tmp 43)), none, ann0⟩,
  ⟨(some 45), (Op.move (Operand.tmp 5)), none, ann0⟩,
  ⟨(some 46), (Op.binOp BinOp.sub 3 (Operand.tmp 44) (Operand.tmp 45) 3), none, ann0⟩,
  ⟨(some 47), (Op.call { callee := (Callee.builtin Builtin.min), args := #[(Operand.tmp 39), (Operand.tmp 46)], argTypes := #[3, 3] }), none, ann0⟩,
  ⟨(some 48), (Op.call { callee := (Callee.builtin Builtin.max), args := #[(Operand.const (Value.int IntKind.i64 0)), (Operand.tmp 47)], argTypes := #[3, 3] }), none, ann0⟩,
  ⟨(some 4), (Op.assign (Operand.tmp 48)), none, ann0⟩] (some [0, 1, 3, 7, 15, 0, 32, 96, 224, 480, 1023, 0, 2048, 6144, 14336, 30720, 0, 129024, 262143, 524287, 1048575]))
 .ret)))))⟩
theorem F14 (z : Nat) : FOk Try.prog 14 (s14 z) := by unfold FOk; kernel_rfl
def s15 (z : Nat) : SFn := ⟨2, 63, [(ResultVar.tmp 4)],
 (.seq (.reg [⟨(some 3), (Op.box 25 (Operand.tmp 1)), none, ⟨1, false, false⟩⟩,
  ⟨(some 4), (Op.assign (Operand.const (Value.int IntKind.i64 0))), none, ann0⟩] none)
 (.seq (.seq (.reg [⟨(some 8), (Op.move (Operand.tmp 0)), none, ann0⟩,
  ⟨(some 9), (Op.binOp BinOp.eql 27 (Operand.tmp 8) (Operand.const (Value.pointer none)) 27), none, ann0⟩] none)
 (.cond (Operand.tmp 9) (.seq (.reg [⟨(some 4), (Op.assign (Operand.const (Value.int IntKind.i64 1))), none, ann0⟩] none)
 .ret)
 .skip))
 (.seq (.post (.seq (.post (.reg [⟨(some 10), (Op.fieldAddr 25 (Operand.tmp 3) 0), none, ann0⟩,
  ⟨(some 11), (Op.load 3 (Operand.tmp 10)), none, ann0⟩,
  ⟨(some 12), (Op.call { callee := (Callee.value (Operand.func 33)), args := #[(Operand.tmp 11)], argTypes := #[3] }), none, ann0⟩,
  ⟨(some 13), (Op.unOp UnOp.not 4 (Operand.tmp 12)), none, ann0⟩,
  ⟨(some 14), (Op.move (Operand.tmp 13)), none, ann0⟩,
  ⟨(some 15), (Op.fieldAddr 25 (Operand.tmp 3) 1), (some (14, false)), ann0⟩,
  ⟨(some 16), (Op.load 3 (Operand.tmp 15)), (some (14, false)), ann0⟩,
  ⟨(some 17), (Op.binOp BinOp.lss 3 (Operand.tmp 16) (Operand.const (Value.int IntKind.i64 0)) 3), (some (14, false)), ann0⟩,
  ⟨(some 18), (Op.pick (Operand.tmp 14) (Operand.const (Value.bool true)) (Operand.tmp 17)), none, ann0⟩,
  ⟨(some 19), (Op.move (Operand.tmp 18)), none, ann0⟩,
  ⟨(some 20), (Op.fieldAddr 25 (Operand.tmp 3) 1), (some (19, false)), ann0⟩,
  ⟨(some 21), (Op.load 3 (Operand.tmp 20)), (some (19, false)), ann0⟩,
  ⟨(some 22), (Op.binOp BinOp.gtr 3 (Operand.tmp 21) (Operand.const (Value.int IntKind.i64 1048576)) 3), (some (19, false)), ann0⟩,
  ⟨(some 23), (Op.pick (Operand.tmp 19) (Operand.const (Value.bool true)) (Operand.tmp 22)), none, ann0⟩] none) (.tidy [0, 3, 23] z (z + 1)))
 (.cond (Operand.tmp 23) (.seq (.reg [⟨(some 4), (Op.assign (Operand.const (Value.int IntKind.i64 2))), none, ann0⟩] none)
 .ret)
 .skip)) (.tidy [0, 3] z (z + 1)))
 (.seq (.reg [⟨(some 24), (Op.fieldAddr 25 (Operand.tmp 3) 0), none, ann0⟩,
  ⟨(some 25), (Op.load 3 (Operand.tmp 24)), none, ann0⟩,
  ⟨(some 26), (Op.fieldAddr 25 (Operand.tmp 3) 1), none, ann0⟩,
  ⟨(some 27), (Op.load 3 (Operand.tmp 26)), none, ann0⟩,
  ⟨(some 28), (Op.build 38 #[(0, (Operand.tmp 25)), (1, (Operand.tmp 27))]), none, ann0⟩,
  ⟨(some 5), (Op.alloc 38), none, ⟨1, false, false⟩⟩,
  ⟨none, (Op.store 38 (Operand.tmp 5) (Operand.tmp 28)), none, ann0⟩] none)
 (.seq (.post (.seq (.post (.reg [⟨(some 30), (Op.move (Operand.tmp 0)), none, ann0⟩,
  ⟨(some 31), (Op.nilCheck (Operand.tmp 30)), none, ann0⟩,
  ⟨(some 32), (Op.fieldAddr 79 (Operand.tmp 31) 1), none, ann0⟩,
  ⟨(some 33), (Op.load 76 (Operand.tmp 32)), none, ann0⟩,
  ⟨(some 34), (Op.load 38 (Operand.tmp 5)), none, ann0⟩,
  ⟨(some 35), (Op.lookup 76 (Operand.tmp 33) (Operand.tmp 34) true), none, ann0⟩,
  ⟨(some 29), (Op.move (Operand.tmp 35)), none, ann0⟩,
  ⟨(some 36), (Op.extract (Operand.tmp 29) 0), none, ann0⟩,
  ⟨(some 37), (Op.extract (Operand.tmp 29) 1), none, ann0⟩,
  ⟨(some 6), (Op.alloc 81), none, ⟨1, false, false⟩⟩,
  ⟨none, (Op.store 81 (Operand.tmp 6) (Operand.tmp 36)), none, ann0⟩,
  ⟨(some 7), (Op.assign (Operand.tmp 37)), none, ann0⟩] (some [0, 1, 3, 7, 0, 31, 63, 127, 127, 0, 767, 2047])) (.tidy [0, 3, 5, 7] z (z + 3)))
 (.seq (.reg [⟨(some 38), (Op.move (Operand.tmp 7)), none, ann0⟩] none)
 (.cond (Operand.tmp 38) (.seq (.reg [⟨(some 4), (Op.assign (Operand.const (Value.int IntKind.i64 9))), none, ann0⟩] none)
 .ret)
 .skip))) (.tidy [0, 3, 5] z (z + 3)))
 (.seq (.post (.seq (.reg [⟨(some 39), (Op.move (Operand.tmp 0)), none, ann0⟩,
  ⟨(some 40), (Op.fieldAddr 25 (Operand.tmp 3) 0), none, ann0⟩,
  ⟨(some 41), (Op.load 3 (Operand.tmp 40)), none, ann0⟩,
  ⟨(some 42), (Op.call { callee := (Callee.value (Operand.func 14)), args := #[(Operand.tmp 39), (Operand.tmp 41)], argTypes := #[27, 3] }), none, ann0⟩,
  ⟨(some 43), (Op.binOp BinOp.eql 3 (Operand.tmp 42) (Operand.const (Value.int IntKind.i64 0)) 3), none, ann0⟩] none)
 (.cond (Operand.tmp 43) (.seq (.reg [⟨(some 4), (Op.assign (Operand.const (Value.int IntKind.i64 28))), none, ann0⟩] none)
 .ret)
 .skip)) (.tidy [0, 3, 5] z (z + 3)))
 (.seq (.post (.reg [⟨(some 44), (Op.move (Operand.tmp 0)), none, ann0⟩,
  ⟨(some 45), (Op.nilCheck (Operand.tmp 44)), none, ann0⟩,
  ⟨(some 46), (Op.fieldAddr 79 (Operand.tmp 45) 1), none, ann0⟩,
  ⟨(some 47), (Op.load 76 (Operand.tmp 46)), none, ann0⟩,
  ⟨(some 48), (Op.load 38 (Operand.tmp 5)), none, ann0⟩,
  ⟨(some 49), (Op.load 25 (Operand.tmp 3)), none, ann0⟩,
  ⟨(some 50), (Op.call { callee := (Callee.value (Operand.func 34)), args := #[(Operand.tmp 49)], argTypes := #[25] }), none, ann0⟩,
  ⟨(some 51), (Op.move (Operand.tmp 0)), none, ann0⟩,
  ⟨(some 52), (Op.nilCheck (Operand.tmp 51)), none, ann0⟩,
  ⟨(some 53), (Op.fieldAddr 79 (Operand.tmp 52) 3), none, ann0⟩,
  ⟨(some 54), (Op.load 3 (Operand.tmp 53)), none, ann0⟩,
  ⟨(some 55), (Op.build 81 #[(0, (Operand.tmp 50)), (1, (Operand.tmp 54))]), none, ann0⟩,
  ⟨none, (Op.mapUpdate 76 (Operand.tmp 47) (Operand.tmp 48) (Operand.tmp 55)), none, ann0⟩] (some [0, 1, 3, 7, 0, 0, 32, 0, 128, 384, 896, 2016, 4095])) (.tidy [0] z (z + 3)))
 (.seq (.post (.reg [⟨(some 56), (Op.move (Operand.tmp 0)), none, ann0⟩,
  ⟨(some 57), (Op.nilCheck (Operand.tmp 56)), none, ann0⟩,
  ⟨(some 58), (Op.fieldAddr 79 (Operand.tmp 57) 3), none, ann0⟩,
  ⟨(some 59), (Op.load 3 (Operand.tmp 58)), none, ann0⟩,
  ⟨(some 60), (Op.binOp BinOp.add 3 (Operand.tmp 59) (Operand.const (Value.int IntKind.i64 1)) 3), none, ann0⟩,
  ⟨(some 61), (Op.nilCheck (Operand.tmp 56)), none, ann0⟩,
  ⟨(some 62), (Op.fieldAddr 79 (Operand.tmp 61) 3), none, ann0⟩,
  ⟨none, (Op.store 3 (Operand.tmp 62) (Operand.tmp 60)), none, ann0⟩] none) (.tidy [] z (z + 3)))
 (.seq (.reg [⟨(some 4), (Op.assign (Operand.const (Value.int IntKind.i64 0))), none, ann0⟩] none)
 .ret)))))))))⟩
theorem F15 (z : Nat) : FOk Try.prog 15 (s15 z) := by unfold FOk; kernel_rfl
def s16 (z : Nat) : SFn := ⟨1, 10, [(ResultVar.tmp 2)],
 (.seq (.reg [⟨(some 2), (Op.assign (Operand.const (Value.int IntKind.i64 0))), none, ann0⟩] none)
 (.seq (.seq (.reg [⟨(some 3), (Op.move (Operand.tmp 0)), none, ann0⟩,
  ⟨(some 4), (Op.binOp BinOp.eql 27 (Operand.tmp 3) (Operand.const (Value.pointer none)) 27), none, ann0⟩] none)
 (.cond (Operand.tmp 4) (.seq (.reg [⟨(some 2), (Op.assign (Operand.const (Value.int IntKind.i64 0))), none, ann0⟩] none)
 .ret)
 .skip))
 (.seq (.reg [⟨(some 5), (Op.move (Operand.tmp 0)), none, ann0⟩,
  ⟨(some 6), (Op.nilCheck (Operand.tmp 5)), none, ann0⟩,
  ⟨(some 7), (Op.fieldAddr 79 (Operand.tmp 6) 1), none, ann0⟩,
  ⟨(some 8), (Op.load 76 (Operand.tmp 7)), none, ann0⟩,
  ⟨(some 9), (Op.call { callee := (Callee.builtin Builtin.len), args := #[(Operand.tmp 8)], argTypes := #[76] }), none, ann0⟩,
  ⟨(some 2), (Op.assign (Operand.tmp 9)), none, ann0⟩] none)
 .ret)))⟩
theorem F16 (z : Nat) : FOk Try.prog 16 (s16 z) := by unfold FOk; kernel_rfl
def s17 (z : Nat) : SFn := ⟨2, 91, [(ResultVar.cell 4 40), (ResultVar.cell 5 25), (ResultVar.tmp 6)],
 (.seq (.reg [⟨(some 4), (Op.alloc 40), none, ⟨1, false, false⟩⟩,
  ⟨(some 5), (Op.alloc 25), none, ⟨1, false, false⟩⟩,
  ⟨(some 6), (Op.assign (Operand.const (Value.int IntKind.i64 0))), none, ann0⟩] none)
 (.seq (.post (.seq (.reg [⟨(some 11), (Op.move (Operand.tmp 0)), none, ann0⟩,
  ⟨(some 12), (Op.binOp BinOp.eql 27 (Operand.tmp 11) (Operand.const (Value.pointer none)) 27), none, ann0⟩] none)
 (.cond (Operand.tmp 12) (.seq (.reg [⟨(some 13), (Op.build 40 #[]), none, ann0⟩,
  ⟨(some 14), (Op.build 25 #[]), none, ann0⟩,
  ⟨none, (Op.store 40 (Operand.tmp 4) (Operand.tmp 13)), none, ann0⟩,
  ⟨none, (Op.store 25 (Operand.tmp 5) (Operand.tmp 14)), none, ann0⟩,
  ⟨(some 6), (Op.assign (Operand.const (Value.int IntKind.i64 1))), none, ann0⟩] none)
 .ret)
 .skip)) (.tidy [0, 1, 4, 5] z (z + 2)))
 (.seq (.post (.seq (.post (.reg [⟨(some 15), (Op.move (Operand.tmp 1)), none, ann0⟩,
  ⟨(some 16), (Op.move (Operand.tmp 0)), none, ann0⟩,
  ⟨(some 17), (Op.nilCheck (Operand.tmp 16)), none, ann0⟩,
  ⟨(some 18), (Op.fieldAddr 79 (Operand.tmp 17) 6), none, ann0⟩,
  ⟨(some 19), (Op.load 3 (Operand.tmp 18)), none, ann0⟩,
  ⟨(some 20), (Op.binOp BinOp.lss 3 (Operand.tmp 15) (Operand.tmp 19) 3), none, ann0⟩,
  ⟨(some 21), (Op.move (Operand.tmp 20)), none, ann0⟩,
  ⟨(some 22), (Op.move (Operand.tmp 1)), (some (21, false)), ann0⟩,
  ⟨(some 23), (Op.binOp BinOp.gtr 3 (Operand.tmp 22) (Operand.const (Value.int IntKind.i64 1099511627776)) 3), (some (21, false)), ann0⟩,
  ⟨(some 24), (Op.pick (Operand.tmp 21) (Operand.const (Value.bool true)) (Operand.tmp 23)), none, ann0⟩] none) (.tidy [0, 1, 4, 5, 24] z (z + 2)))
 (.cond (Operand.tmp 24) (.seq (.reg [⟨(some 25), (Op.build 40 #[]), none, ann0⟩,
  ⟨(some 26), (Op.build 25 #[]), none, ann0⟩,
  ⟨none, (Op.store 40 (Operand.tmp 4) (Operand.tmp 25)), none, ann0⟩,
  ⟨none, (Op.store 25 (Operand.tmp 5) (Operand.tmp 26)), none, ann0⟩,
  ⟨(some 6), (Op.assign (Operand.const (Value.int IntKind.i64 32))), none, ann0⟩] none)
 .ret)
 .skip)) (.tidy [0, 1, 4, 5] z (z + 2)))
 (.seq (.reg [⟨(some 28), (Op.move (Operand.tmp 0)), none, ann0⟩,
  ⟨(some 29), (Op.call { callee := (Callee.value (Operand.func 35)), args := #[(Operand.tmp 28)], argTypes := #[27] }), none, ann0⟩,
  ⟨(some 27), (Op.move (Operand.tmp 29)), none, ann0⟩,
  ⟨(some 30), (Op.extract (Operand.tmp 27) 0), none, ann0⟩,
  ⟨(some 31), (Op.extract (Operand.tmp 27) 1), none, ann0⟩,
  ⟨(some 7), (Op.alloc 38), none, ⟨1, false, false⟩⟩,
  ⟨none, (Op.store 38 (Operand.tmp 7) (Operand.tmp 30)), none, ann0⟩,
  ⟨(some 8), (Op.assign (Operand.tmp 31)), none, ann0⟩] none)
 (.seq (.post (.seq (.post (.reg [⟨(some 32), (Op.move (Operand.tmp 8)), none, ann0⟩,
  ⟨(some 33), (Op.unOp UnOp.not 4 (Operand.tmp 32)), none, ann0⟩] none) (.tidy [0, 1, 4, 5, 7, 33] z (z + 3)))
 (.cond (Operand.tmp 33) (.seq (.reg [⟨(some 34), (Op.build 40 #[]), none, ann0⟩,
  ⟨(some 35), (Op.build 25 #[]), none, ann0⟩,
  ⟨none, (Op.store 40 (Operand.tmp 4) (Operand.tmp 34)), none, ann0⟩,
  ⟨none, (Op.store 25 (Operand.tmp 5) (Operand.tmp 35)), none, ann0⟩,
  ⟨(some 6), (Op.assign (Operand.const (Value.int IntKind.i64 7))), none, ann0⟩] none)
 .ret)
 .skip)) (.tidy [0, 1, 4, 5, 7] z (z + 3)))
 (.seq (.post (.reg [⟨(some 36), (Op.move (Operand.tmp 0)), none, ann0⟩,
  ⟨(some 37), (Op.move (Operand.tmp 0)), none, ann0⟩,
  ⟨(some 38), (Op.move (Operand.tmp 1)), none, ann0⟩,
  ⟨(some 39), (Op.fieldAddr 38 (Operand.tmp 7) 0), none, ann0⟩,
  ⟨(some 40), (Op.load 3 (Operand.tmp 39)), none, ann0⟩,
  ⟨(some 41), (Op.nilCheck (Operand.tmp 36)), none, ann0⟩,
  ⟨(some 42), (Op.fieldAddr 79 (Operand.tmp 41) 6), none, ann0⟩,
  ⟨none, (Op.store 3 (Operand.tmp 42) (Operand.tmp 38)), none, ann0⟩,
  ⟨(some 43), (Op.nilCheck (Operand.tmp 37)), none, ann0⟩,
  ⟨(some 44), (Op.fieldAddr 79 (Operand.tmp 43) 5), none, ann0⟩,
  ⟨none, (Op.store 3 (Operand.tmp 44) (Operand.tmp 40)), none, ann0⟩] (some [0, 0, 0, 0, 8, 5, 37, 101, 255, 511, 1023])) (.tidy [0, 1, 4, 5, 7] z (z + 3)))
 (.seq (.post (.reg [⟨(some 45), (Op.move (Operand.tmp 0)), none, ann0⟩,
  ⟨(some 46), (Op.nilCheck (Operand.tmp 45)), none, ann0⟩,
  ⟨(some 47), (Op.fieldAddr 79 (Operand.tmp 46) 4), none, ann0⟩,
  ⟨(some 48), (Op.load 3 (Operand.tmp 47)), none, ann0⟩,
  ⟨(some 49), (Op.binOp BinOp.add 3 (Operand.tmp 48) (Operand.const (Value.int IntKind.i64 1)) 3), none, ann0⟩,
  ⟨(some 50), (Op.nilCheck (Operand.tmp 45)), none, ann0⟩,
  ⟨(some 51), (Op.fieldAddr 79 (Operand.tmp 50) 4), none, ann0⟩,
  ⟨none, (Op.store 3 (Operand.tmp 51) (Operand.tmp 49)), none, ann0⟩] none) (.tidy [0, 1, 4, 5, 7] z (z + 3)))
 (.seq (.post (.reg [⟨(some 52), (Op.move (Operand.tmp 0)), none, ann0⟩,
  ⟨(some 53), (Op.nilCheck (Operand.tmp 52)), none, ann0⟩,
  ⟨(some 54), (Op.fieldAddr 79 (Operand.tmp 53) 4), none, ann0⟩,
  ⟨(some 55), (Op.load 3 (Operand.tmp 54)), none, ann0⟩,
  ⟨(some 56), (Op.load 38 (Operand.tmp 7)), none, ann0⟩,
  ⟨(some 57), (Op.move (Operand.tmp 1)), none, ann0⟩,
  ⟨(some 58), (Op.move (Operand.tmp 0)), none, ann0⟩,
  ⟨(some 59), (Op.nilCheck (Operand.tmp 58)), none, ann0⟩,
  ⟨(some 60), (Op.fieldAddr 79 (Operand.tmp 59) 0), none, ann0⟩,
  ⟨(some 61), (Op.fieldAddr 46 (Operand.tmp 60) 2), none, ann0⟩,
  ⟨(some 62), (Op.load 3 (Operand.tmp 61)), none, ann0⟩,
  ⟨(some 63), (Op.binOp BinOp.add 3 (Operand.tmp 57) (Operand.tmp 62) 3), none, ann0⟩,
  ⟨(some 64), (Op.build 40 #[(0, (Operand.tmp 55)), (1, (Operand.tmp 56)), (2, (Operand.tmp 63))]), none, ann0⟩,
  ⟨(some 9), (Op.alloc 40), none, ⟨1, false, false⟩⟩,
  ⟨none, (Op.store 40 (Operand.tmp 9) (Operand.tmp 64)), none, ann0⟩] (some [0, 1, 3, 7, 0, 0, 0, 64, 192, 448, 960, 2016, 4095, 0, 16383])) (.tidy [0, 4, 5, 7, 9] z (z + 4)))
 (.seq (.post (.reg [⟨(some 65), (Op.move (Operand.tmp 0)), none, ann0⟩,
  ⟨(some 66), (Op.nilCheck (Operand.tmp 65)), none, ann0⟩,
  ⟨(some 67), (Op.fieldAddr 79 (Operand.tmp 66) 2), none, ann0⟩,
  ⟨(some 68), (Op.load 77 (Operand.tmp 67)), none, ann0⟩,
  ⟨(some 69), (Op.fieldAddr 40 (Operand.tmp 9) 0), none, ann0⟩,
  ⟨(some 70), (Op.load 3 (Operand.tmp 69)), none, ann0⟩,
  ⟨(some 71), (Op.load 40 (Operand.tmp 9)), none, ann0⟩,
  ⟨none, (Op.mapUpdate 77 (Operand.tmp 68) (Operand.tmp 70) (Operand.tmp 71)), none, ann0⟩] (some [0, 1, 3, 7, 0, 16, 0, 127])) (.tidy [0, 4, 5, 7, 9] z (z + 4)))
 (.seq (.post (.reg [⟨(some 72), (Op.move (Operand.tmp 0)), none, ann0⟩,
  ⟨(some 73), (Op.nilCheck (Operand.tmp 72)), none, ann0⟩,
  ⟨(some 74), (Op.fieldAddr 79 (Operand.tmp 73) 1), none, ann0⟩,
  ⟨(some 75), (Op.load 76 (Operand.tmp 74)), none, ann0⟩,
  ⟨(some 76), (Op.load 38 (Operand.tmp 7)), none, ann0⟩,
  ⟨(some 77), (Op.lookup 76 (Operand.tmp 75) (Operand.tmp 76) false), none, ann0⟩,
  ⟨(some 10), (Op.alloc 81), none, ⟨1, false, false⟩⟩,
  ⟨none, (Op.store 81 (Operand.tmp 10) (Operand.tmp 77)), none, ann0⟩] (some [0, 1, 3, 7, 0, 31, 0, 127])) (.tidy [0, 4, 5, 7, 9, 10] z (z + 5)))
 (.seq (.reg [⟨(some 78), (Op.fieldAddr 40 (Operand.tmp 9) 0), none, ann0⟩,
  ⟨(some 79), (Op.load 3 (Operand.tmp 78)), none, ann0⟩,
  ⟨(some 80), (Op.fieldAddr 81 (Operand.tmp 10) 2), none, ann0⟩,
  ⟨none, (Op.store 3 (Operand.tmp 80) (Operand.tmp 79)), none, ann0⟩] none)
 (.seq (.post (.reg [⟨(some 81), (Op.move (Operand.tmp 0)), none, ann0⟩,
  ⟨(some 82), (Op.nilCheck (Operand.tmp 81)), none, ann0⟩,
  ⟨(some 83), (Op.fieldAddr 79 (Operand.tmp 82) 1), none, ann0⟩,
  ⟨(some 84), (Op.load 76 (Operand.tmp 83)), none, ann0⟩,
  ⟨(some 85), (Op.load 38 (Operand.tmp 7)), none, ann0⟩,
  ⟨(some 86), (Op.load 81 (Operand.tmp 10)), none, ann0⟩,
  ⟨none, (Op.mapUpdate 76 (Operand.tmp 84) (Operand.tmp 85) (Operand.tmp 86)), none, ann0⟩] (some [0, 1, 3, 7, 0, 0, 63])) (.tidy [4, 5, 9, 10] z (z + 5)))
 (.seq (.reg [⟨(some 87), (Op.load 40 (Operand.tmp 9)), none, ann0⟩,
  ⟨(some 88), (Op.fieldAddr 81 (Operand.tmp 10) 0), none, ann0⟩,
  ⟨(some 89), (Op.load 25 (Operand.tmp 88)), none, ann0⟩,
  ⟨(some 90), (Op.call { callee := (Callee.value (Operand.func 34)), args := #[(Operand.tmp 89)], argTypes := #[25] }), none, ann0⟩,
  ⟨none, (Op.store 40 (Operand.tmp 4) (Operand.tmp 87)), none, ann0⟩,
  ⟨none, (Op.store 25 (Operand.tmp 5) (Operand.tmp 90)), none, ann0⟩,
  ⟨(some 6), (Op.assign (Operand.const (Value.int IntKind.i64 0))), none, ann0⟩] (some [0, 0, 2, 6, 15, 31, 63]))
 .ret)))))))))))))⟩
theorem F17 (z : Nat) : FOk Try.prog 17 (s17 z) := by unfold FOk; kernel_rfl
def c18_1 (z : Nat) : SC := .post (.seq (.reg [⟨(some 41), (Op.binOp BinOp.lss 3 (Operand.tmp 40) (Operand.tmp 39) 3), none, ann0⟩] none)
 (.seq (.cond (Operand.tmp 41) .skip
 (.exit 0))
 (.seq (.post (.block 1 (.seq (.reg [⟨(some 42), (Op.move (Operand.tmp 40)), none, ann0⟩,
  ⟨(some 5), (Op.assign (Operand.tmp 42)), none, ann0⟩] none)
 (.seq (.post (.reg [⟨(some 43), (Op.fieldAddr 25 (Operand.tmp 2) 3), none, ann0⟩,
  ⟨(some 44), (Op.load 23 (Operand.tmp 43)), none, ann0⟩,
  ⟨(some 45), (Op.move (Operand.tmp 5)), none, ann0⟩,
  ⟨(some 46), (Op.indexAddr 23 (Operand.tmp 44) (Operand.tmp 45)), none, ann0⟩,
  ⟨(some 47), (Op.load 87 (Operand.tmp 46)), none, ann0⟩,
  ⟨(some 48), (Op.fieldAddr 25 (Operand.tmp 3) 3), none, ann0⟩,
  ⟨(some 49), (Op.load 23 (Operand.tmp 48)), none, ann0⟩,
  ⟨(some 50), (Op.move (Operand.tmp 5)), none, ann0⟩,
  ⟨(some 51), (Op.indexAddr 23 (Operand.tmp 49) (Operand.tmp 50)), none, ann0⟩,
  ⟨(some 52), (Op.load 87 (Operand.tmp 51)), none, ann0⟩,
  ⟨(some 53), (Op.binOp BinOp.neq 87 (Operand.tmp 47) (Operand.tmp 52) 87), none, ann0⟩] (some [0, 1, 0, 7, 15, 0, 32, 0, 224, 480, 1023])) (.tidy [2, 3, 39, 40, 53] z (z + 2)))
 (.cond (Operand.tmp 53) (.seq (.reg [⟨(some 4), (Op.assign (Operand.const (Value.bool false))), none, ann0⟩] none)
 .ret)
 .skip)))) (.tidy [2, 3, 39, 40] z (z + 2)))
 (.reg [⟨(some 54), (Op.binOp BinOp.add 3 (Operand.tmp 40) (Operand.const (Value.int IntKind.i64 1)) 3), none, ann0⟩,
  ⟨(some 40), (Op.move (Operand.tmp 54)), none, ann0⟩] none)))) (.tidy [2, 3, 39, 40] z (z + 2))
def s18_1 (z : Nat) : SC := c18_1 z
theorem e18_1 {C : Pg} {z : Nat} {st : St} {ks : List Fr} {K : Ex → St → Prop} : wpk C (s18_1 z) st ks K ↔ wpk C (c18_1 z) st ks K := Iff.rfl
def c18_2 (z : Nat) : SC := .post (.seq (.reg [⟨(some 59), (Op.binOp BinOp.lss 3 (Operand.tmp 58) (Operand.tmp 57) 3), none, ann0⟩] none)
 (.seq (.cond (Operand.tmp 59) .skip
 (.exit 2))
 (.seq (.post (.block 3 (.seq (.reg [⟨(some 60), (Op.move (Operand.tmp 58)), none, ann0⟩,
  ⟨(some 6), (Op.assign (Operand.tmp 60)), none, ann0⟩] none)
 (.seq (.post (.reg [⟨(some 61), (Op.fieldAddr 25 (Operand.tmp 2) 2), none, ann0⟩,
  ⟨(some 62), (Op.load 22 (Operand.tmp 61)), none, ann0⟩,
  ⟨(some 63), (Op.move (Operand.tmp 6)), none, ann0⟩,
  ⟨(some 64), (Op.indexAddr 22 (Operand.tmp 62) (Operand.tmp 63)), none, ann0⟩,
  ⟨(some 65), (Op.load 92 (Operand.tmp 64)), none, ann0⟩,
  ⟨(some 66), (Op.fieldAddr 25 (Operand.tmp 3) 2), none, ann0⟩,
  ⟨(some 67), (Op.load 22 (Operand.tmp 66)), none, ann0⟩,
  ⟨(some 68), (Op.move (Operand.tmp 6)), none, ann0⟩,
  ⟨(some 69), (Op.indexAddr 22 (Operand.tmp 67) (Operand.tmp 68)), none, ann0⟩,
  ⟨(some 70), (Op.load 92 (Operand.tmp 69)), none, ann0⟩,
  ⟨(some 71), (Op.call { callee := (Callee.value (Operand.func 36)), args := #[(Operand.tmp 65), (Operand.tmp 70)], argTypes := #[92, 92] }), none, ann0⟩,
  ⟨(some 72), (Op.unOp UnOp.not 4 (Operand.tmp 71)), none, ann0⟩] (some [0, 1, 0, 7, 15, 0, 32, 0, 224, 480, 1023, 2047])) (.tidy [2, 3, 57, 58, 72] z (z + 2)))
 (.cond (Operand.tmp 72) (.seq (.reg [⟨(some 4), (Op.assign (Operand.const (Value.bool false))), none, ann0⟩] none)
 .ret)
 .skip)))) (.tidy [2, 3, 57, 58] z (z + 2)))
 (.reg [⟨(some 73), (Op.binOp BinOp.add 3 (Operand.tmp 58) (Operand.const (Value.int IntKind.i64 1)) 3), none, ann0⟩,
  ⟨(some 58), (Op.move (Operand.tmp 73)), none, ann0⟩] none)))) (.tidy [2, 3, 57, 58] z (z + 2))
def s18_2 (z : Nat) : SC := c18_2 z
theorem e18_2 {C : Pg} {z : Nat} {st : St} {ks : List Fr} {K : Ex → St → Prop} : wpk C (s18_2 z) st ks K ↔ wpk C (c18_2 z) st ks K := Iff.rfl
def s18 (z : Nat) : SFn := ⟨2, 74, [(ResultVar.tmp 4)],
 (.seq (.reg [⟨(some 2), (Op.box 25 (Operand.tmp 0)), none, ⟨1, false, false⟩⟩,
  ⟨(some 3), (Op.box 25 (Operand.tmp 1)), none, ⟨1, false, false⟩⟩,
  ⟨(some 4), (Op.assign (Operand.const (Value.bool false))), none, ann0⟩] none)
 (.seq (.post (.seq (.post (.reg [⟨(some 7), (Op.fieldAddr 25 (Operand.tmp 2) 0), none, ann0⟩,
  ⟨(some 8), (Op.load 3 (Operand.tmp 7)), none, ann0⟩,
  ⟨(some 9), (Op.fieldAddr 25 (Operand.tmp 3) 0), none, ann0⟩,
  ⟨(some 10), (Op.load 3 (Operand.tmp 9)), none, ann0⟩,
  ⟨(some 11), (Op.binOp BinOp.neq 3 (Operand.tmp 8) (Operand.tmp 10) 3), none, ann0⟩,
  ⟨(some 12), (Op.move (Operand.tmp 11)), none, ann0⟩,
  ⟨(some 13), (Op.fieldAddr 25 (Operand.tmp 2) 1), (some (12, false)), ann0⟩,
  ⟨(some 14), (Op.load 3 (Operand.tmp 13)), (some (12, false)), ann0⟩,
  ⟨(some 15), (Op.fieldAddr 25 (Operand.tmp 3) 1), (some (12, false)), ann0⟩,
  ⟨(some 16), (Op.load 3 (Operand.tmp 15)), (some (12, false)), ann0⟩,
  ⟨(some 17), (Op.binOp BinOp.neq 3 (Operand.tmp 14) (Operand.tmp 16) 3), (some (12, false)), ann0⟩,
  ⟨(some 18), (Op.pick (Operand.tmp 12) (Operand.const (Value.bool true)) (Operand.tmp 17)), none, ann0⟩,
  ⟨(some 19), (Op.move (Operand.tmp 18)), none, ann0⟩,
  ⟨(some 20), (Op.fieldAddr 25 (Operand.tmp 2) 2), (some (19, false)), ann0⟩,
  ⟨(some 21), (Op.load 22 (Operand.tmp 20)), (some (19, false)), ann0⟩,
  ⟨(some 22), (Op.call { callee := (Callee.builtin Builtin.len), args := #[(Operand.tmp 21)], argTypes := #[22] }), (some (19, false)), ann0⟩,
  ⟨(some 23), (Op.fieldAddr 25 (Operand.tmp 3) 2), (some (19, false)), ann0⟩,
  ⟨(some 24), (Op.load 22 (Operand.tmp 23)), (some (19, false)), ann0⟩,
  ⟨(some 25), (Op.call { callee := (Callee.builtin Builtin.len), args := #[(Operand.tmp 24)], argTypes := #[22] }), (some (19, false)), ann0⟩,
  ⟨(some 26), (Op.binOp BinOp.neq 3 (Operand.tmp 22) (Operand.tmp 25) 3), (some (19, false)), ann0⟩,
  ⟨(some 27), (Op.pick (Operand.tmp 19) (Operand.const (Value.bool true)) (Operand.tmp 26)), none, ann0⟩,
  ⟨(some 28), (Op.move (Operand.tmp 27)), none, ann0⟩,
  ⟨(some 29), (Op.fieldAddr 25 (Operand.tmp 2) 3), (some (28, false)), ann0⟩,
  ⟨(some 30), (Op.load 23 (Operand.tmp 29)), (some (28, false)), ann0⟩,
  ⟨(some 31), (Op.call { callee := (Callee.builtin Builtin.len), args := #[(Operand.tmp 30)], argTypes := #[23] }), (some (28, false)), ann0⟩,
  ⟨(some 32), (Op.fieldAddr 25 (Operand.tmp 3) 3), (some (28, false)), ann0⟩,
  ⟨(some 33), (Op.load 23 (Operand.tmp 32)), (some (28, false)), ann0⟩,
  ⟨(some 34), (Op.call { callee := (Callee.builtin Builtin.len), args := #[(Operand.tmp 33)], argTypes := #[23] }), (some (28, false)), ann0⟩,
  ⟨(some 35), (Op.binOp BinOp.neq 3 (Operand.tmp 31) (Operand.tmp 34) 3), (some (28, false)), ann0⟩,
  ⟨(some 36), (Op.pick (Operand.tmp 28) (Operand.const (Value.bool true)) (Operand.tmp 35)), none, ann0⟩] none) (.tidy [2, 3, 36] z (z + 2)))
 (.cond (Operand.tmp 36) (.seq (.reg [⟨(some 4), (Op.assign (Operand.const (Value.bool false))), none, ann0⟩] none)
 .ret)
 .skip)) (.tidy [2, 3] z (z + 2)))
 (.seq (.post (.seq (.reg [⟨(some 37), (Op.fieldAddr 25 (Operand.tmp 2) 3), none, ann0⟩,
  ⟨(some 38), (Op.load 23 (Operand.tmp 37)), none, ann0⟩,
  ⟨(some 39), (Op.call { callee := (Callee.builtin Builtin.len), args := #[(Operand.tmp 38)], argTypes := #[23] }), none, ann0⟩,
  ⟨(some 40), (Op.move (Operand.const (Value.int IntKind.i64 0))), none, ann0⟩] none)
 (.post (.block 0 (.pre (.tidy [2, 3, 39, 40] z (z + 2)) (.loop (s18_1 z)))) (.tidy [2, 3] z (z + 2)))) (.tidy [2, 3] z (z + 2)))
 (.seq (.post (.seq (.reg [⟨(some 55), (Op.fieldAddr 25 (Operand.tmp 2) 2), none, ann0⟩,
  ⟨(some 56), (Op.load 22 (Operand.tmp 55)), none, ann0⟩,
  ⟨(some 57), (Op.call { callee := (Callee.builtin Builtin.len), args := #[(Operand.tmp 56)], argTypes := #[22] }), none, ann0⟩,
  ⟨(some 58), (Op.move (Operand.const (Value.int IntKind.i64 0))), none, ann0⟩] none)
 (.post (.block 2 (.pre (.tidy [2, 3, 57, 58] z (z + 2)) (.loop (s18_2 z)))) (.tidy [] z (z + 2)))) (.tidy [] z (z + 2)))
 (.seq (.reg [⟨(some 4), (Op.assign (Operand.const (Value.bool true))), none, ann0⟩] none)
 .ret)))))⟩
theorem F18 (z : Nat) : FOk Try.prog 18 (s18 z) := by unfold FOk; kernel_rfl
def s19 (z : Nat) : SFn := ⟨1, 39, [(ResultVar.tmp 2), (ResultVar.tmp 3)],
 (.seq (.reg [⟨(some 1), (Op.box 46 (Operand.tmp 0)), none, ⟨1, false, false⟩⟩,
  ⟨(some 2), (Op.assign (Operand.const (Value.pointer none))), none, ann0⟩,
  ⟨(some 3), (Op.assign (Operand.const (Value.int IntKind.i64 0))), none, ann0⟩] none)
 (.seq (.post (.seq (.post (.reg [⟨(some 4), (Op.fieldAddr 46 (Operand.tmp 1) 0), none, ann0⟩,
  ⟨(some 5), (Op.load 3 (Operand.tmp 4)), none, ann0⟩,
  ⟨(some 6), (Op.binOp BinOp.lss 3 (Operand.tmp 5) (Operand.const (Value.int IntKind.i64 1)) 3), none, ann0⟩,
  ⟨(some 7), (Op.move (Operand.tmp 6)), none, ann0⟩,
  ⟨(some 8), (Op.fieldAddr 46 (Operand.tmp 1) 0), (some (7, false)), ann0⟩,
  ⟨(some 9), (Op.load 3 (Operand.tmp 8)), (some (7, false)), ann0⟩,
  ⟨(some 10), (Op.binOp BinOp.gtr 3 (Operand.tmp 9) (Operand.const (Value.int IntKind.i64 4096)) 3), (some (7, false)), ann0⟩,
  ⟨(some 11), (Op.pick (Operand.tmp 7) (Operand.const (Value.bool true)) (Operand.tmp 10)), none, ann0⟩,
  ⟨(some 12), (Op.move (Operand.tmp 11)), none, ann0⟩,
  ⟨(some 13), (Op.fieldAddr 46 (Operand.tmp 1) 1), (some (12, false)), ann0⟩,
  ⟨(some 14), (Op.load 3 (Operand.tmp 13)), (some (12, false)), ann0⟩,
  ⟨(some 15), (Op.binOp BinOp.lss 3 (Operand.tmp 14) (Operand.const (Value.int IntKind.i64 1)) 3), (some (12, false)), ann0⟩,
  ⟨(some 16), (Op.pick (Operand.tmp 12) (Operand.const (Value.bool true)) (Operand.tmp 15)), none, ann0⟩,
  ⟨(some 17), (Op.move (Operand.tmp 16)), none, ann0⟩,
  ⟨(some 18), (Op.fieldAddr 46 (Operand.tmp 1) 1), (some (17, false)), ann0⟩,
  ⟨(some 19), (Op.load 3 (Operand.tmp 18)), (some (17, false)), ann0⟩,
  ⟨(some 20), (Op.fieldAddr 46 (Operand.tmp 1) 0), (some (17, false)), ann0⟩,
  ⟨(some 21), (Op.load 3 (Operand.tmp 20)), (some (17, false)), ann0⟩,
  ⟨(some 22), (Op.binOp BinOp.gtr 3 (Operand.tmp 19) (Operand.tmp 21) 3), (some (17, false)), ann0⟩,
  ⟨(some 23), (Op.pick (Operand.tmp 17) (Operand.const (Value.bool true)) (Operand.tmp 22)), none, ann0⟩,
  ⟨(some 24), (Op.move (Operand.tmp 23)), none, ann0⟩,
  ⟨(some 25), (Op.fieldAddr 46 (Operand.tmp 1) 2), (some (24, false)), ann0⟩,
  ⟨(some 26), (Op.load 3 (Operand.tmp 25)), (some (24, false)), ann0⟩,
  ⟨(some 27), (Op.binOp BinOp.lss 3 (Operand.tmp 26) (Operand.const (Value.int IntKind.i64 1)) 3), (some (24, false)), ann0⟩,
  ⟨(some 28), (Op.pick (Operand.tmp 24) (Operand.const (Value.bool true)) (Operand.tmp 27)), none, ann0⟩,
  ⟨(some 29), (Op.move (Operand.tmp 28)), none, ann0⟩,
  ⟨(some 30), (Op.fieldAddr 46 (Operand.tmp 1) 2), (some (29, false)), ann0⟩,
  ⟨(some 31), (Op.load 3 (Operand.tmp 30)), (some (29, false)), ann0⟩,
  ⟨(some 32), (Op.binOp BinOp.gtr 3 (Operand.tmp 31) (Operand.const (Value.int IntKind.i64 1048576)) 3), (some (29, false)), ann0⟩,
  ⟨(some 33), (Op.pick (Operand.tmp 29) (Operand.const (Value.bool true)) (Operand.tmp 32)), none, ann0⟩] none) (.tidy [1, 33] z (z + 1)))
 (.cond (Operand.tmp 33) (.seq (.reg [⟨(some 2), (Op.assign (Operand.const (Value.pointer none))), none, ann0⟩,
  ⟨(some 3), (Op.assign (Operand.const (Value.int IntKind.i64 2))), none, ann0⟩] none)
 .ret)
 .skip)) (.tidy [1] z (z + 1)))
 (.seq (.reg [⟨(some 34), (Op.load 46 (Operand.tmp 1)), none, ann0⟩,
  ⟨(some 35), (Op.makeMap 76 none), none, ⟨1, true, false⟩⟩,
  ⟨(some 36), (Op.makeMap 77 none), none, ⟨1, true, false⟩⟩,
  ⟨(some 37), (Op.build 79 #[(0, (Operand.tmp 34)), (1, (Operand.tmp 35)), (2, (Operand.tmp 36))]), none, ann0⟩,
  ⟨(some 38), (Op.box 79 (Operand.tmp 37)), none, ⟨1, false, false⟩⟩,
  ⟨(some 2), (Op.assign (Operand.tmp 38)), none, ann0⟩,
  ⟨(some 3), (Op.assign (Operand.const (Value.int IntKind.i64 0))), none, ann0⟩] none)
 .ret)))⟩
theorem F19 (z : Nat) : FOk Try.prog 19 (s19 z) := by unfold FOk; kernel_rfl
def s20 (z : Nat) : SFn := ⟨1, 9, [(ResultVar.tmp 2)],
 (.seq (.reg [⟨(some 2), (Op.assign (Operand.const (Value.int IntKind.i64 0))), none, ann0⟩] none)
 (.seq (.seq (.reg [⟨(some 3), (Op.move (Operand.tmp 0)), none, ann0⟩,
  ⟨(some 4), (Op.binOp BinOp.eql 27 (Operand.tmp 3) (Operand.const (Value.pointer none)) 27), none, ann0⟩] none)
 (.cond (Operand.tmp 4) (.seq (.reg [⟨(some 2), (Op.assign (Operand.const (Value.int IntKind.i64 0))), none, ann0⟩] none)
 .ret)
 .skip))
 (.seq (.reg [⟨(some 5), (Op.move (Operand.tmp 0)), none, ann0⟩,
  ⟨(some 6), (Op.nilCheck (Operand.tmp 5)), none, ann0⟩,
  ⟨(some 7), (Op.fieldAddr 79 (Operand.tmp 6) 6), none, ann0⟩,
  ⟨(some 8), (Op.load 3 (Operand.tmp 7)), none, ann0⟩,
  ⟨(some 2), (Op.assign (Operand.tmp 8)), none, ann0⟩] none)
 .ret)))⟩
theorem F20 (z : Nat) : FOk Try.prog 20 (s20 z) := by unfold FOk; kernel_rfl
def s21 (z : Nat) : SFn := ⟨1, 5, [(ResultVar.tmp 2)],
 (.post (.seq (.reg [⟨(some 2), (Op.assign (Operand.const (Value.slice none 0 0))), none, ann0⟩] none)
 (.seq (.reg [⟨(some 3), (Op.move (Operand.tmp 0)), none, ann0⟩,
  ⟨(some 4), (Op.call { callee := (Callee.value (Operand.func 37)), args := #[(Operand.tmp 3), (Operand.func 38)], argTypes := #[27, 94] }), none, ann0⟩,
  ⟨(some 2), (Op.assign (Operand.tmp 4)), none, ann0⟩] none)
 .ret)) (.frz 2))⟩
theorem F21 (z : Nat) : FOk Try.prog 21 (s21 z) := by unfold FOk; kernel_rfl
def c22_1 (z : Nat) : SC := .post (.seq (.reg [⟨(some 13), (Op.next (Operand.tmp 12) false), none, ann0⟩,
  ⟨(some 14), (Op.extract (Operand.tmp 13) 0), none, ann0⟩] none)
 (.seq (.cond (Operand.tmp 14) .skip
 (.exit 0))
 (.block 1 (.seq (.reg [⟨(some 15), (Op.entry (Operand.tmp 12)), none, ann0⟩,
  ⟨(some 16), (Op.extract (Operand.tmp 15) 1), none, ann0⟩,
  ⟨(some 5), (Op.alloc 40), none, ⟨1, false, false⟩⟩,
  ⟨none, (Op.store 40 (Operand.tmp 5) (Operand.tmp 16)), none, ann0⟩] none)
 (.reg [⟨(some 17), (Op.move (Operand.tmp 3)), none, ann0⟩,
  ⟨(some 18), (Op.load 40 (Operand.tmp 5)), none, ann0⟩,
  ⟨(some 19), (Op.buildSlice 51 1 #[(0, (Operand.tmp 18))]), none, ⟨1, true, false⟩⟩,
  ⟨(some 20), (Op.call { callee := (Callee.builtin Builtin.append), args := #[(Operand.tmp 17), (Operand.tmp 19)], argTypes := #[51, 51] }), none, ann0⟩,
  ⟨(some 3), (Op.assign (Operand.tmp 20)), none, ann0⟩] none))))) (.tidy [3, 12] z (z + 2))
def s22_1 (z : Nat) : SC := c22_1 z
theorem e22_1 {C : Pg} {z : Nat} {st : St} {ks : List Fr} {K : Ex → St → Prop} : wpk C (s22_1 z) st ks K ↔ wpk C (c22_1 z) st ks K := Iff.rfl
def s22 (z : Nat) : SFn := ⟨1, 24, [(ResultVar.tmp 2)],
 (.seq (.reg [⟨(some 2), (Op.assign (Operand.const (Value.slice none 0 0))), none, ann0⟩] none)
 (.seq (.seq (.reg [⟨(some 6), (Op.move (Operand.tmp 0)), none, ann0⟩,
  ⟨(some 7), (Op.binOp BinOp.eql 27 (Operand.tmp 6) (Operand.const (Value.pointer none)) 27), none, ann0⟩] none)
 (.cond (Operand.tmp 7) (.seq (.reg [⟨(some 2), (Op.assign (Operand.const (Value.slice none 0 0))), none, ann0⟩] none)
 .ret)
 .skip))
 (.seq (.post (.reg [⟨(some 3), (Op.assign (Operand.const (Value.slice none 0 0))), none, ann0⟩] none) (.mkv 3 40 4))
 (.seq (.post (.seq (.post (.reg [⟨(some 8), (Op.move (Operand.tmp 0)), none, ann0⟩,
  ⟨(some 9), (Op.nilCheck (Operand.tmp 8)), none, ann0⟩,
  ⟨(some 10), (Op.fieldAddr 79 (Operand.tmp 9) 2), none, ann0⟩,
  ⟨(some 11), (Op.load 77 (Operand.tmp 10)), none, ann0⟩,
  ⟨(some 12), (Op.range 77 (Operand.tmp 11)), none, ⟨1, false, false⟩⟩] none) (.tidy [3, 12] z (z + 2)))
 (.post (.block 0 (.pre (.tidy [3, 12] z (z + 2)) (.loop (s22_1 z)))) (.tidy [3] z (z + 2)))) (.tidy [3] z (z + 2)))
 (.seq (.reg [⟨(some 21), (Op.move (Operand.tmp 3)), none, ann0⟩,
  ⟨(some 22), (Op.call { callee := (Callee.value (Operand.func 39)), args := #[(Operand.tmp 21), (Operand.func 40)], argTypes := #[51, 97] }), none, ann0⟩] none)
 (.seq (.reg [⟨(some 23), (Op.move (Operand.tmp 3)), none, ann0⟩,
  ⟨(some 2), (Op.assign (Operand.tmp 23)), none, ann0⟩] none)
 .ret))))))⟩
theorem F22 (z : Nat) : FOk Try.prog 22 (s22 z) := by unfold FOk; kernel_rfl
def s23 (z : Nat) : SFn := ⟨1, 23, [(ResultVar.cell 2 46)],
 (.seq (.reg [⟨(some 1), (Op.box 32 (Operand.tmp 0)), none, ⟨1, false, false⟩⟩,
  ⟨(some 2), (Op.alloc 46), none, ⟨1, false, false⟩⟩] none)
 (.seq (.reg [⟨(some 4), (Op.fieldAddr 32 (Operand.tmp 1) 0), none, ann0⟩,
  ⟨(some 5), (Op.load 5 (Operand.tmp 4)), none, ann0⟩,
  ⟨(some 6), (Op.binOp BinOp.rem 5 (Operand.tmp 5) (Operand.const (Value.int IntKind.u8 6)) 5), none, ann0⟩,
  ⟨(some 7), (Op.convert 5 3 (Operand.tmp 6)), none, ann0⟩,
  ⟨(some 8), (Op.binOp BinOp.add 3 (Operand.const (Value.int IntKind.i64 1)) (Operand.tmp 7) 3), none, ann0⟩,
  ⟨(some 3), (Op.assign (Operand.tmp 8)), none, ann0⟩] none)
 (.seq (.reg [⟨(some 9), (Op.move (Operand.tmp 3)), none, ann0⟩,
  ⟨(some 10), (Op.fieldAddr 32 (Operand.tmp 1) 1), none, ann0⟩,
  ⟨(some 11), (Op.load 5 (Operand.tmp 10)), none, ann0⟩,
  ⟨(some 12), (Op.binOp BinOp.rem 5 (Operand.tmp 11) (Operand.const (Value.int IntKind.u8 4)) 5), none, ann0⟩,
  ⟨(some 13), (Op.convert 5 3 (Operand.tmp 12)), none, ann0⟩,
  ⟨(some 14), (Op.move (Operand.tmp 3)), none, ann0⟩,
  ⟨(some 15), (Op.binOp BinOp.rem 3 (Operand.tmp 13) (Operand.tmp 14) 3), none, ann0⟩,
  ⟨(some 16), (Op.binOp BinOp.add 3 (Operand.const (Value.int IntKind.i64 1)) (Operand.tmp 15) 3), none, ann0⟩,
  ⟨(some 17), (Op.fieldAddr 32 (Operand.tmp 1) 2), none, ann0⟩,
  ⟨(some 18), (Op.load 5 (Operand.tmp 17)), none, ann0⟩,
  ⟨(some 19), (Op.binOp BinOp.rem 5 (Operand.tmp 18) (Operand.const (Value.int IntKind.u8 8)) 5), none, ann0⟩,
  ⟨(some 20), (Op.convert 5 3 (Operand.tmp 19)), none, ann0⟩,
  ⟨(some 21), (Op.binOp BinOp.add 3 (Operand.const (Value.int IntKind.i64 1)) (Operand.tmp 20) 3), none, ann0⟩,
  ⟨(some 22), (Op.build 46 #[(0, (Operand.tmp 9)), (1, (Operand.tmp 16)), (2, (Operand.tmp 21))]), none, ann0⟩,
  ⟨none, (Op.store 46 (Operand.tmp 2) (Operand.tmp 22)), none, ann0⟩] (some [0, 0, 2, 6, 14, 0, 62, 126, 0, 256, 768, 1792, 3840, 8191, 16383]))
 .ret)))⟩
theorem F23 (z : Nat) : FOk Try.prog 23 (s23 z) := by unfold FOk; kernel_rfl
def s24 (z : Nat) : SFn := ⟨3, 189, [(ResultVar.tmp 6)],
 (.seq (.reg [⟨(some 5), (Op.box 57 (Operand.tmp 2)), none, ⟨1, false, false⟩⟩,
  ⟨(some 6), (Op.assign (Operand.const (Value.bool false))), none, ann0⟩] none)
 (.seq (.post (.reg [⟨(some 17), (Op.move (Operand.tmp 0)), none, ann0⟩,
  ⟨(some 18), (Op.nilCheck (Operand.tmp 17)), none, ann0⟩,
  ⟨(some 19), (Op.fieldAddr 74 (Operand.tmp 18) 4), none, ann0⟩,
  ⟨(some 20), (Op.load 3 (Operand.tmp 19)), none, ann0⟩,
  ⟨(some 21), (Op.fieldAddr 57 (Operand.tmp 5) 1), none, ann0⟩,
  ⟨(some 22), (Op.load 5 (Operand.tmp 21)), none, ann0⟩,
  ⟨(some 23), (Op.binOp BinOp.rem 5 (Operand.tmp 22) (Operand.const (Value.int IntKind.u8 4)) 5), none, ann0⟩,
  ⟨(some 24), (Op.convert 5 3 (Operand.tmp 23)), none, ann0⟩,
  ⟨(some 25), (Op.binOp BinOp.add 3 (Operand.tmp 20) (Operand.tmp 24) 3), none, ann0⟩,
  ⟨(some 7), (Op.assign (Operand.tmp 25)), none, ann0⟩] (some [0, 1, 3, 7, 0, 16, 48, 112, 255, 511])) (.tidy [0, 1, 5, 7] z (z + 1)))
 (.seq (.post (.seq (.reg [⟨(some 26), (Op.fieldAddr 57 (Operand.tmp 5) 0), none, ann0⟩,
  ⟨(some 27), (Op.load 5 (Operand.tmp 26)), none, ann0⟩,
  ⟨(some 28), (Op.binOp BinOp.rem 5 (Operand.tmp 27) (Operand.const (Value.int IntKind.u8 5)) 5), none, ann0⟩,
  ⟨(some 29), (Op.binOp BinOp.eql 5 (Operand.tmp 28) (Operand.const (Value.int IntKind.u8 4)) 5), none, ann0⟩] none)
 (.cond (Operand.tmp 29) (.reg [⟨(some 30), (Op.move (Operand.tmp 0)), none, ann0⟩,
  ⟨(some 31), (Op.nilCheck (Operand.tmp 30)), none, ann0⟩,
  ⟨(some 32), (Op.fieldAddr 74 (Operand.tmp 31) 4), none, ann0⟩,
  ⟨(some 33), (Op.load 3 (Operand.tmp 32)), none, ann0⟩,
  ⟨(some 34), (Op.fieldAddr 57 (Operand.tmp 5) 1), none, ann0⟩,
  ⟨(some 35), (Op.load 5 (Operand.tmp 34)), none, ann0⟩,
  ⟨(some 36), (Op.binOp BinOp.rem 5 (Operand.tmp 35) (Operand.const (Value.int IntKind.u8 12)) 5), none, ann0⟩,
  ⟨(some 37), (Op.convert 5 3 (Operand.tmp 36)), none, ann0⟩,
  ⟨(some 38), (Op.binOp BinOp.add 3 (Operand.tmp 33) (Operand.tmp 37) 3), none, ann0⟩,
  ⟨(some 7), (Op.assign (Operand.tmp 38)), none, ann0⟩] (some [0, 1, 3, 7, 0, 16, 48, 112, 255, 511]))
 .skip)) (.tidy [0, 1, 5, 7] z (z + 1)))
 (.seq (.post (.seq (.reg [⟨(some 39), (Op.fieldAddr 57 (Operand.tmp 5) 2), none, ann0⟩,
  ⟨(some 40), (Op.load 5 (Operand.tmp 39)), none, ann0⟩,
  ⟨(some 41), (Op.binOp BinOp.eql 5 (Operand.tmp 40) (Operand.const (Value.int IntKind.u8 255)) 5), none, ann0⟩] none)
 (.cond (Operand.tmp 41) (.reg [⟨(some 42), (Op.move (Operand.tmp 0)), none, ann0⟩,
  ⟨(some 43), (Op.nilCheck (Operand.tmp 42)), none, ann0⟩,
  ⟨(some 44), (Op.fieldAddr 74 (Operand.tmp 43) 4), none, ann0⟩,
  ⟨(some 45), (Op.load 3 (Operand.tmp 44)), none, ann0⟩,
  ⟨(some 46), (Op.binOp BinOp.sub 3 (Operand.tmp 45) (Operand.const (Value.int IntKind.i64 1)) 3), none, ann0⟩,
  ⟨(some 7), (Op.assign (Operand.tmp 46)), none, ann0⟩] none)
 .skip)) (.tidy [0, 1, 5, 7] z (z + 1)))
 (.seq (.post (.seq (.reg [⟨(some 47), (Op.fieldAddr 57 (Operand.tmp 5) 0), none, ann0⟩,
  ⟨(some 48), (Op.load 5 (Operand.tmp 47)), none, ann0⟩,
  ⟨(some 49), (Op.binOp BinOp.rem 5 (Operand.tmp 48) (Operand.const (Value.int IntKind.u8 5)) 5), none, ann0⟩] none)
 (.block 0 (.seq (.reg [⟨(some 51), (Op.binOp BinOp.eql 5 (Operand.tmp 49) (Operand.const (Value.int IntKind.u8 0)) 5), none, ann0⟩,
  ⟨(some 50), (Op.assign (Operand.tmp 51)), none, ann0⟩] none)
 (.cond (Operand.tmp 50) (.seq (.reg [⟨(some 52), (Op.load 57 (Operand.tmp 5)), none, ann0⟩,
  ⟨(some 53), (Op.call { callee := (Callee.value (Operand.func 28)), args := #[(Operand.tmp 52)], argTypes := #[57] }), none, ann0⟩,
  ⟨(some 8), (Op.alloc 25), none, ⟨1, false, false⟩⟩,
  ⟨none, (Op.store 25 (Operand.tmp 8) (Operand.tmp 53)), none, ann0⟩] none)
 (.seq (.reg [⟨(some 54), (Op.move (Operand.tmp 1)), none, ann0⟩,
  ⟨(some 55), (Op.fieldAddr 25 (Operand.tmp 8) 0), none, ann0⟩,
  ⟨(some 56), (Op.load 3 (Operand.tmp 55)), none, ann0⟩,
  ⟨(some 57), (Op.call { callee := (Callee.value (Operand.func 14)), args := #[(Operand.tmp 54), (Operand.tmp 56)], argTypes := #[27, 3] }), none, ann0⟩,
  ⟨(some 58), (Op.move (Operand.tmp 0)), none, ann0⟩,
  ⟨(some 59), (Op.fieldAddr 25 (Operand.tmp 8) 0), none, ann0⟩,
  ⟨(some 60), (Op.load 3 (Operand.tmp 59)), none, ann0⟩,
  ⟨(some 61), (Op.call { callee := (Callee.value (Operand.func 42)), args := #[(Operand.tmp 58), (Operand.tmp 60)], argTypes := #[28, 3] }), none, ann0⟩,
  ⟨(some 62), (Op.binOp BinOp.eql 3 (Operand.tmp 57) (Operand.tmp 61) 3), none, ann0⟩,
  ⟨(some 63), (Op.move (Operand.tmp 62)), none, ann0⟩,
  ⟨(some 64), (Op.move (Operand.tmp 1)), (some (63, true)), ann0⟩,
  ⟨(some 65), (Op.load 25 (Operand.tmp 8)), (some (63, true)), ann0⟩,
  ⟨(some 66), (Op.call { callee := (Callee.value (Operand.func 15)), args := #[(Operand.tmp 64), (Operand.tmp 65)], argTypes := #[27, 25] }), (some (63, true)), ann0⟩,
  ⟨(some 67), (Op.move (Operand.tmp 0)), (some (63, true)), ann0⟩,
  ⟨(some 68), (Op.load 25 (Operand.tmp 8)), (some (63, true)), ann0⟩,
  ⟨(some 69), (Op.call { callee := (Callee.value (Operand.func 43)), args := #[(Operand.tmp 67), (Operand.tmp 68)], argTypes := #[28, 25] }), (some (63, true)), ann0⟩,
  ⟨(some 70), (Op.binOp BinOp.eql 34 (Operand.tmp 66) (Operand.tmp 69) 34), (some (63, true)), ann0⟩,
  ⟨(some 71), (Op.pick (Operand.tmp 63) (Operand.tmp 70) (Operand.const (Value.bool false))), none, ann0⟩,
  ⟨(some 6), (Op.assign (Operand.tmp 71)), none, ann0⟩] (some [0, 0, 2, 7, 0, 0, 32, 127, 255, 511, 1023, 1023, 4095, 1023, 1023, 32767, 65535, 131071, 262143]))
 .ret))
 (.seq (.post (.reg [⟨(some 73), (Op.binOp BinOp.eql 5 (Operand.tmp 49) (Operand.const (Value.int IntKind.u8 1)) 5), none, ann0⟩,
  ⟨(some 72), (Op.assign (Operand.tmp 73)), none, ann0⟩] none) (.tidy [0, 1, 5, 7, 49, 72] z (z + 1)))
 (.cond (Operand.tmp 72) (.seq (.post (.reg [⟨(some 75), (Op.move (Operand.tmp 1)), none, ann0⟩,
  ⟨(some 76), (Op.move (Operand.tmp 7)), none, ann0⟩,
  ⟨(some 77), (Op.call { callee := (Callee.value (Operand.func 17)), args := #[(Operand.tmp 75), (Operand.tmp 76)], argTypes := #[27, 3] }), none, ann0⟩,
  ⟨(some 74), (Op.move (Operand.tmp 77)), none, ann0⟩,
  ⟨(some 78), (Op.extract (Operand.tmp 74) 0), none, ann0⟩,
  ⟨(some 79), (Op.extract (Operand.tmp 74) 1), none, ann0⟩,
  ⟨(some 80), (Op.extract (Operand.tmp 74) 2), none, ann0⟩,
  ⟨(some 9), (Op.alloc 40), none, ⟨1, false, false⟩⟩,
  ⟨(some 10), (Op.alloc 25), none, ⟨1, false, false⟩⟩,
  ⟨none, (Op.store 40 (Operand.tmp 9) (Operand.tmp 78)), none, ann0⟩,
  ⟨none, (Op.store 25 (Operand.tmp 10) (Operand.tmp 79)), none, ann0⟩,
  ⟨(some 11), (Op.assign (Operand.tmp 80)), none, ann0⟩] none) (.tidy [0, 7, 9, 10, 11] z (z + 3)))
 (.seq (.post (.reg [⟨(some 82), (Op.move (Operand.tmp 0)), none, ann0⟩,
  ⟨(some 83), (Op.move (Operand.tmp 7)), none, ann0⟩,
  ⟨(some 84), (Op.call { callee := (Callee.value (Operand.func 44)), args := #[(Operand.tmp 82), (Operand.tmp 83)], argTypes := #[28, 3] }), none, ann0⟩,
  ⟨(some 81), (Op.move (Operand.tmp 84)), none, ann0⟩,
  ⟨(some 85), (Op.extract (Operand.tmp 81) 0), none, ann0⟩,
  ⟨(some 86), (Op.extract (Operand.tmp 81) 1), none, ann0⟩,
  ⟨(some 12), (Op.assign (Operand.tmp 85)), none, ann0⟩,
  ⟨(some 13), (Op.assign (Operand.tmp 86)), none, ann0⟩] none) (.tidy [0, 9, 10, 11, 12, 13] z (z + 3)))
 (.seq (.post (.seq (.reg [⟨(some 87), (Op.move (Operand.tmp 13)), none, ann0⟩,
  ⟨(some 88), (Op.binOp BinOp.neq 34 (Operand.tmp 87) (Operand.const (Value.int IntKind.i64 0)) 34), none, ann0⟩] none)
 (.cond (Operand.tmp 88) (.seq (.reg [⟨(some 89), (Op.move (Operand.tmp 11)), none, ann0⟩,
  ⟨(some 90), (Op.move (Operand.tmp 13)), none, ann0⟩,
  ⟨(some 91), (Op.binOp BinOp.eql 34 (Operand.tmp 89) (Operand.tmp 90) 34), none, ann0⟩,
  ⟨(some 92), (Op.move (Operand.tmp 91)), none, ann0⟩,
  ⟨(some 93), (Op.load 40 (Operand.tmp 9)), (some (92, true)), ann0⟩,
  ⟨(some 94), (Op.build 40 #[]), (some (92, true)), ann0⟩,
  ⟨(some 95), (Op.binOp BinOp.eql 40 (Operand.tmp 93) (Operand.tmp 94) 40), (some (92, true)), ann0⟩,
  ⟨(some 96), (Op.pick (Operand.tmp 92) (Operand.tmp 95) (Operand.const (Value.bool false))), none, ann0⟩,
  ⟨(some 97), (Op.move (Operand.tmp 96)), none, ann0⟩,
  ⟨(some 98), (Op.load 25 (Operand.tmp 10)), (some (97, true)), ann0⟩,
  ⟨(some 99), (Op.build 25 #[]), (some (97, true)), ann0⟩,
  ⟨(some 100), (Op.call { callee := (Callee.value (Operand.func 18)), args := #[(Operand.tmp 98), (Operand.tmp 99)], argTypes := #[25, 25] }), (some (97, true)), ann0⟩,
  ⟨(some 101), (Op.pick (Operand.tmp 97) (Operand.tmp 100) (Operand.const (Value.bool false))), none, ann0⟩,
  ⟨(some 6), (Op.assign (Operand.tmp 101)), none, ann0⟩] none)
 .ret)
 .skip)) (.tidy [0, 9, 10, 11, 12] z (z + 3)))
 (.seq (.reg [⟨(some 102), (Op.move (Operand.tmp 11)), none, ann0⟩,
  ⟨(some 103), (Op.binOp BinOp.eql 34 (Operand.tmp 102) (Operand.const (Value.int IntKind.i64 0)) 34), none, ann0⟩,
  ⟨(some 104), (Op.move (Operand.tmp 103)), none, ann0⟩,
  ⟨(some 105), (Op.load 40 (Operand.tmp 9)), (some (104, true)), ann0⟩,
  ⟨(some 106), (Op.move (Operand.tmp 0)), (some (104, true)), ann0⟩,
  ⟨(some 107), (Op.nilCheck (Operand.tmp 106)), (some (104, true)), ann0⟩,
  ⟨(some 108), (Op.fieldAddr 74 (Operand.tmp 107) 1), (some (104, true)), ann0⟩,
  ⟨(some 109), (Op.load 72 (Operand.tmp 108)), (some (104, true)), ann0⟩,
  ⟨(some 110), (Op.move (Operand.tmp 12)), (some (104, true)), ann0⟩,
  ⟨(some 111), (Op.indexAddr 72 (Operand.tmp 109) (Operand.tmp 110)), (some (104, true)), ann0⟩,
  ⟨(some 112), (Op.fieldAddr 101 (Operand.tmp 111) 1), (some (104, true)), ann0⟩,
  ⟨(some 113), (Op.load 40 (Operand.tmp 112)), (some (104, true)), ann0⟩,
  ⟨(some 114), (Op.binOp BinOp.eql 40 (Operand.tmp 105) (Operand.tmp 113) 40), (some (104, true)), ann0⟩,
  ⟨(some 115), (Op.pick (Operand.tmp 104) (Operand.tmp 114) (Operand.const (Value.bool false))), none, ann0⟩,
  ⟨(some 116), (Op.move (Operand.tmp 115)), none, ann0⟩,
  ⟨(some 117), (Op.load 25 (Operand.tmp 10)), (some (116, true)), ann0⟩,
  ⟨(some 118), (Op.move (Operand.tmp 0)), (some (116, true)), ann0⟩,
  ⟨(some 119), (Op.nilCheck (Operand.tmp 118)), (some (116, true)), ann0⟩,
  ⟨(some 120), (Op.fieldAddr 74 (Operand.tmp 119) 1), (some (116, true)), ann0⟩,
  ⟨(some 121), (Op.load 72 (Operand.tmp 120)), (some (116, true)), ann0⟩,
  ⟨(some 122), (Op.move (Operand.tmp 12)), (some (116, true)), ann0⟩,
  ⟨(some 123), (Op.indexAddr 72 (Operand.tmp 121) (Operand.tmp 122)), (some (116, true)), ann0⟩,
  ⟨(some 124), (Op.fieldAddr 101 (Operand.tmp 123) 0), (some (116, true)), ann0⟩,
  ⟨(some 125), (Op.load 25 (Operand.tmp 124)), (some (116, true)), ann0⟩,
  ⟨(some 126), (Op.call { callee := (Callee.value (Operand.func 18)), args := #[(Operand.tmp 117), (Operand.tmp 125)], argTypes := #[25, 25] }), (some (116, true)), ann0⟩,
  ⟨(some 127), (Op.pick (Operand.tmp 116) (Operand.tmp 126) (Operand.const (Value.bool false))), none, ann0⟩,
  ⟨(some 6), (Op.assign (Operand.tmp 127)), none, ann0⟩] (some [0, 1, 3, 7, 7, 23, 55, 119, 7, 503, 1015, 2039, 4095, 8191, 16383, 32767, 32767, 98303, 229375, 491519, 32767, 2064383, 4161535, 8355839, 16777215, 33554431, 67108863]))
 .ret))))
 (.seq (.post (.reg [⟨(some 129), (Op.binOp BinOp.eql 5 (Operand.tmp 49) (Operand.const (Value.int IntKind.u8 4)) 5), none, ann0⟩,
  ⟨(some 128), (Op.assign (Operand.tmp 129)), none, ann0⟩] none) (.tidy [0, 1, 5, 7, 128] z (z + 1)))
 (.cond (Operand.tmp 128) (.seq (.reg [⟨(some 130), (Op.move (Operand.tmp 0)), none, ann0⟩,
  ⟨(some 131), (Op.move (Operand.tmp 1)), none, ann0⟩,
  ⟨(some 132), (Op.move (Operand.tmp 7)), none, ann0⟩,
  ⟨(some 133), (Op.call { callee := (Callee.value (Operand.func 45)), args := #[(Operand.tmp 130), (Operand.tmp 131), (Operand.tmp 132)], argTypes := #[28, 27, 3] }), none, ann0⟩,
  ⟨(some 6), (Op.assign (Operand.tmp 133)), none, ann0⟩] none)
 .ret)
 .skip)))))))) (.tidy [0, 1, 5] z (z + 3)))
 (.seq (.reg [⟨(some 134), (Op.fieldAddr 57 (Operand.tmp 5) 1), none, ann0⟩,
  ⟨(some 135), (Op.load 5 (Operand.tmp 134)), none, ann0⟩,
  ⟨(some 136), (Op.binOp BinOp.rem 5 (Operand.tmp 135) (Operand.const (Value.int IntKind.u8 10)) 5), none, ann0⟩,
  ⟨(some 137), (Op.convert 5 3 (Operand.tmp 136)), none, ann0⟩,
  ⟨(some 138), (Op.binOp BinOp.add 3 (Operand.const (Value.int IntKind.i64 1)) (Operand.tmp 137) 3), none, ann0⟩,
  ⟨(some 14), (Op.assign (Operand.tmp 138)), none, ann0⟩] none)
 (.seq (.post (.reg [⟨(some 139), (Op.move (Operand.tmp 0)), none, ann0⟩,
  ⟨(some 140), (Op.move (Operand.tmp 14)), none, ann0⟩,
  ⟨(some 141), (Op.call { callee := (Callee.value (Operand.func 46)), args := #[(Operand.tmp 139), (Operand.tmp 140)], argTypes := #[28, 3] }), none, ann0⟩,
  ⟨(some 15), (Op.assign (Operand.tmp 141)), none, ann0⟩] none) (.tidy [0, 1, 5, 14, 15] z (z + 3)))
 (.seq (.reg [⟨(some 16), (Op.assign (Operand.const (Value.int IntKind.i64 0))), none, ann0⟩] none)
 (.seq (.seq (.reg [⟨(some 142), (Op.move (Operand.tmp 15)), none, ann0⟩,
  ⟨(some 143), (Op.binOp BinOp.lss 3 (Operand.tmp 142) (Operand.const (Value.int IntKind.i64 0)) 3), none, ann0⟩] none)
 (.cond (Operand.tmp 143) (.reg [⟨(some 16), (Op.assign (Operand.const (Value.int IntKind.i64 10))), none, ann0⟩] none)
 .skip))
 (.seq (.post (.seq (.post (.reg [⟨(some 144), (Op.fieldAddr 57 (Operand.tmp 5) 0), none, ann0⟩,
  ⟨(some 145), (Op.load 5 (Operand.tmp 144)), none, ann0⟩,
  ⟨(some 146), (Op.binOp BinOp.rem 5 (Operand.tmp 145) (Operand.const (Value.int IntKind.u8 5)) 5), none, ann0⟩,
  ⟨(some 147), (Op.binOp BinOp.eql 5 (Operand.tmp 146) (Operand.const (Value.int IntKind.u8 2)) 5), none, ann0⟩] none) (.tidy [0, 1, 14, 15, 16, 147] z (z + 3)))
 (.cond (Operand.tmp 147) (.seq (.post (.seq (.reg [⟨(some 148), (Op.move (Operand.tmp 15)), none, ann0⟩,
  ⟨(some 149), (Op.binOp BinOp.geq 3 (Operand.tmp 148) (Operand.const (Value.int IntKind.i64 0)) 3), none, ann0⟩] none)
 (.cond (Operand.tmp 149) (.reg [⟨(some 150), (Op.move (Operand.tmp 0)), none, ann0⟩,
  ⟨(some 151), (Op.buildSlice 72 0 #[]), none, ⟨1, false, false⟩⟩,
  ⟨(some 152), (Op.move (Operand.tmp 0)), none, ann0⟩,
  ⟨(some 153), (Op.nilCheck (Operand.tmp 152)), none, ann0⟩,
  ⟨(some 154), (Op.fieldAddr 74 (Operand.tmp 153) 1), none, ann0⟩,
  ⟨(some 155), (Op.load 72 (Operand.tmp 154)), none, ann0⟩,
  ⟨(some 156), (Op.move (Operand.tmp 15)), none, ann0⟩,
  ⟨(some 157), (Op.slice 72 (Operand.tmp 155) none (some (Operand.tmp 156)) none), none, ann0⟩,
  ⟨(some 158), (Op.call { callee := (Callee.builtin Builtin.append), args := #[(Operand.tmp 151), (Operand.tmp 157)], argTypes := #[72, 72] }), none, ann0⟩,
  ⟨(some 159), (Op.move (Operand.tmp 0)), none, ann0⟩,
  ⟨(some 160), (Op.nilCheck (Operand.tmp 159)), none, ann0⟩,
  ⟨(some 161), (Op.fieldAddr 74 (Operand.tmp 160) 1), none, ann0⟩,
  ⟨(some 162), (Op.load 72 (Operand.tmp 161)), none, ann0⟩,
  ⟨(some 163), (Op.move (Operand.tmp 15)), none, ann0⟩,
  ⟨(some 164), (Op.binOp BinOp.add 3 (Operand.tmp 163) (Operand.const (Value.int IntKind.i64 1)) 3), none, ann0⟩,
  ⟨(some 165), (Op.slice 72 (Operand.tmp 162) (some (Operand.tmp 164)) none none), none, ann0⟩,
  ⟨(some 166), (Op.call { callee := (Callee.builtin Builtin.append), args := #[(Operand.tmp 158), (Operand.tmp 165)], argTypes := #[72, 72] }), none, ann0⟩,
  ⟨(some 167), (Op.nilCheck (Operand.tmp 150)), none, ann0⟩,
  ⟨(some 168), (Op.fieldAddr 74 (Operand.tmp 167) 1), none, ann0⟩,
  ⟨none, (Op.store 72 (Operand.tmp 168) (Operand.tmp 166)), none, ann0⟩] (some [0, 0, 0, 4, 12, 28, 0, 124, 254, 0, 512, 1536, 3584, 0, 8192, 32256, 65534, 131071, 262143, 524287]))
 .skip)) (.tidy [1, 14, 16] z (z + 4)))
 (.seq (.reg [⟨(some 169), (Op.move (Operand.tmp 1)), none, ann0⟩,
  ⟨(some 170), (Op.move (Operand.tmp 14)), none, ann0⟩,
  ⟨(some 171), (Op.call { callee := (Callee.value (Operand.func 27)), args := #[(Operand.tmp 169), (Operand.tmp 170)], argTypes := #[27, 3] }), none, ann0⟩,
  ⟨(some 172), (Op.move (Operand.tmp 16)), none, ann0⟩,
  ⟨(some 173), (Op.binOp BinOp.eql 34 (Operand.tmp 171) (Operand.tmp 172) 34), none, ann0⟩,
  ⟨(some 6), (Op.assign (Operand.tmp 173)), none, ann0⟩] none)
 .ret))
 .skip)) (.tidy [0, 1, 14, 15, 16] z (z + 4)))
 (.seq (.post (.seq (.reg [⟨(some 174), (Op.move (Operand.tmp 15)), none, ann0⟩,
  ⟨(some 175), (Op.binOp BinOp.geq 3 (Operand.tmp 174) (Operand.const (Value.int IntKind.i64 0)) 3), none, ann0⟩] none)
 (.cond (Operand.tmp 175) (.reg [⟨(some 176), (Op.move (Operand.tmp 0)), none, ann0⟩,
  ⟨(some 177), (Op.nilCheck (Operand.tmp 176)), none, ann0⟩,
  ⟨(some 178), (Op.fieldAddr 74 (Operand.tmp 177) 1), none, ann0⟩,
  ⟨(some 179), (Op.load 72 (Operand.tmp 178)), none, ann0⟩,
  ⟨(some 180), (Op.move (Operand.tmp 15)), none, ann0⟩,
  ⟨(some 181), (Op.build 40 #[]), none, ann0⟩,
  ⟨(some 182), (Op.indexAddr 72 (Operand.tmp 179) (Operand.tmp 180)), none, ann0⟩,
  ⟨(some 183), (Op.fieldAddr 101 (Operand.tmp 182) 1), none, ann0⟩,
  ⟨none, (Op.store 40 (Operand.tmp 183) (Operand.tmp 181)), none, ann0⟩] none)
 .skip)) (.tidy [1, 14, 16] z (z + 4)))
 (.seq (.reg [⟨(some 184), (Op.move (Operand.tmp 1)), none, ann0⟩,
  ⟨(some 185), (Op.move (Operand.tmp 14)), none, ann0⟩,
  ⟨(some 186), (Op.call { callee := (Callee.value (Operand.func 29)), args := #[(Operand.tmp 184), (Operand.tmp 185)], argTypes := #[27, 3] }), none, ann0⟩,
  ⟨(some 187), (Op.move (Operand.tmp 16)), none, ann0⟩,
  ⟨(some 188), (Op.binOp BinOp.eql 34 (Operand.tmp 186) (Operand.tmp 187) 34), none, ann0⟩,
  ⟨(some 6), (Op.assign (Operand.tmp 188)), none, ann0⟩] none)
 .ret))))))))))))⟩
theorem F24 (z : Nat) : FOk Try.prog 24 (s24 z) := by unfold FOk; kernel_rfl
def c25_1 (z : Nat) : SC := .post (.seq (.reg [⟨(some 21), (Op.binOp BinOp.lss 3 (Operand.tmp 20) (Operand.tmp 19) 3), none, ann0⟩] none)
 (.seq (.cond (Operand.tmp 21) .skip
 (.exit 0))
 (.seq (.post (.block 1 (.seq (.post (.reg [⟨(some 22), (Op.indexAddr 72 (Operand.tmp 18) (Operand.tmp 20)), none, ann0⟩,
  ⟨(some 23), (Op.load 101 (Operand.tmp 22)), none, ann0⟩,
  ⟨(some 8), (Op.alloc 101), none, ⟨1, false, false⟩⟩,
  ⟨none, (Op.store 101 (Operand.tmp 8) (Operand.tmp 23)), none, ann0⟩] none) (.tidy [0, 1, 5, 6, 8, 18, 19, 20] z (z + 3)))
 (.seq (.reg [⟨(some 24), (Op.fieldAddr 101 (Operand.tmp 8) 1), none, ann0⟩,
  ⟨(some 25), (Op.fieldAddr 40 (Operand.tmp 24) 0), none, ann0⟩,
  ⟨(some 26), (Op.load 3 (Operand.tmp 25)), none, ann0⟩,
  ⟨(some 27), (Op.binOp BinOp.eql 3 (Operand.tmp 26) (Operand.const (Value.int IntKind.i64 0)) 3), none, ann0⟩] none)
 (.cond (Operand.tmp 27) (.reg [⟨(some 28), (Op.move (Operand.tmp 5)), none, ann0⟩,
  ⟨(some 29), (Op.fieldAddr 101 (Operand.tmp 8) 0), none, ann0⟩,
  ⟨(some 30), (Op.fieldAddr 25 (Operand.tmp 29) 0), none, ann0⟩,
  ⟨(some 31), (Op.load 3 (Operand.tmp 30)), none, ann0⟩,
  ⟨(some 32), (Op.fieldAddr 101 (Operand.tmp 8) 0), none, ann0⟩,
  ⟨(some 33), (Op.fieldAddr 25 (Operand.tmp 32) 1), none, ann0⟩,
  ⟨(some 34), (Op.load 3 (Operand.tmp 33)), none, ann0⟩,
  ⟨(some 35), (Op.build 38 #[(0, (Operand.tmp 31)), (1, (Operand.tmp 34))]), none, ann0⟩,
  ⟨(some 36), (Op.buildSlice 49 1 #[(0, (Operand.tmp 35))]), none, ⟨1, true, false⟩⟩,
  ⟨(some 37), (Op.call { callee := (Callee.builtin Builtin.append), args := #[(Operand.tmp 28), (Operand.tmp 36)], argTypes := #[49, 49] }), none, ann0⟩,
  ⟨(some 5), (Op.assign (Operand.tmp 37)), none, ann0⟩] none)
 .skip)))) (.tidy [0, 1, 5, 6, 18, 19, 20] z (z + 4)))
 (.reg [⟨(some 38), (Op.binOp BinOp.add 3 (Operand.tmp 20) (Operand.const (Value.int IntKind.i64 1)) 3), none, ann0⟩,
  ⟨(some 20), (Op.move (Operand.tmp 38)), none, ann0⟩] none)))) (.tidy [0, 1, 5, 6, 18, 19, 20] z (z + 2))
def s25_1 (z : Nat) : SC := c25_1 z
theorem e25_1 {C : Pg} {z : Nat} {st : St} {ks : List Fr} {K : Ex → St → Prop} : wpk C (s25_1 z) st ks K ↔ wpk C (c25_1 z) st ks K := Iff.rfl
def c25_2 (z : Nat) : SC := .post (.seq (.post (.seq (.reg [⟨(some 39), (Op.move (Operand.tmp 9)), none, ann0⟩,
  ⟨(some 40), (Op.move (Operand.tmp 0)), none, ann0⟩,
  ⟨(some 41), (Op.nilCheck (Operand.tmp 40)), none, ann0⟩,
  ⟨(some 42), (Op.fieldAddr 74 (Operand.tmp 41) 2), none, ann0⟩,
  ⟨(some 43), (Op.load 3 (Operand.tmp 42)), none, ann0⟩,
  ⟨(some 44), (Op.binOp BinOp.lss 3 (Operand.tmp 39) (Operand.tmp 43) 3), none, ann0⟩] none)
 (.cond (Operand.tmp 44) .skip
 (.exit 2))) (.tidy [0, 1, 5, 6, 9] z (z + 2)))
 (.seq (.post (.block 3 (.seq (.reg [⟨(some 47), (Op.move (Operand.tmp 0)), none, ann0⟩,
  ⟨(some 48), (Op.move (Operand.tmp 9)), none, ann0⟩,
  ⟨(some 49), (Op.call { callee := (Callee.value (Operand.func 46)), args := #[(Operand.tmp 47), (Operand.tmp 48)], argTypes := #[28, 3] }), none, ann0⟩,
  ⟨(some 10), (Op.assign (Operand.tmp 49)), none, ann0⟩] none)
 (.seq (.reg [⟨(some 50), (Op.move (Operand.tmp 10)), none, ann0⟩,
  ⟨(some 51), (Op.binOp BinOp.geq 3 (Operand.tmp 50) (Operand.const (Value.int IntKind.i64 0)) 3), none, ann0⟩] none)
 (.cond (Operand.tmp 51) (.reg [⟨(some 52), (Op.move (Operand.tmp 6)), none, ann0⟩,
  ⟨(some 53), (Op.move (Operand.tmp 0)), none, ann0⟩,
  ⟨(some 54), (Op.nilCheck (Operand.tmp 53)), none, ann0⟩,
  ⟨(some 55), (Op.fieldAddr 74 (Operand.tmp 54) 1), none, ann0⟩,
  ⟨(some 56), (Op.load 72 (Operand.tmp 55)), none, ann0⟩,
  ⟨(some 57), (Op.move (Operand.tmp 10)), none, ann0⟩,
  ⟨(some 58), (Op.indexAddr 72 (Operand.tmp 56) (Operand.tmp 57)), none, ann0⟩,
  ⟨(some 59), (Op.fieldAddr 101 (Operand.tmp 58) 1), none, ann0⟩,
  ⟨(some 60), (Op.load 40 (Operand.tmp 59)), none, ann0⟩,
  ⟨(some 61), (Op.buildSlice 51 1 #[(0, (Operand.tmp 60))]), none, ⟨1, true, false⟩⟩,
  ⟨(some 62), (Op.call { callee := (Callee.builtin Builtin.append), args := #[(Operand.tmp 52), (Operand.tmp 61)], argTypes := #[51, 51] }), none, ann0⟩,
  ⟨(some 6), (Op.assign (Operand.tmp 62)), none, ann0⟩] none)
 .skip)))) (.tidy [0, 1, 5, 6, 9] z (z + 3)))
 (.reg [⟨(some 45), (Op.move (Operand.tmp 9)), none, ann0⟩,
  ⟨(some 46), (Op.binOp BinOp.add 3 (Operand.tmp 45) (Operand.const (Value.int IntKind.i64 1)) 3), none, ann0⟩,
  ⟨(some 9), (Op.assign (Operand.tmp 46)), none, ann0⟩] none))) (.tidy [0, 1, 5, 6, 9] z (z + 2))
def s25_2 (z : Nat) : SC := c25_2 z
theorem e25_2 {C : Pg} {z : Nat} {st : St} {ks : List Fr} {K : Ex → St → Prop} : wpk C (s25_2 z) st ks K ↔ wpk C (c25_2 z) st ks K := Iff.rfl
def c25_3 (z : Nat) : SC := .post (.seq (.reg [⟨(some 101), (Op.binOp BinOp.lss 3 (Operand.tmp 100) (Operand.tmp 99) 3), none, ann0⟩] none)
 (.seq (.cond (Operand.tmp 101) .skip
 (.exit 4))
 (.seq (.post (.block 5 (.seq (.reg [⟨(some 102), (Op.move (Operand.tmp 100)), none, ann0⟩,
  ⟨(some 13), (Op.assign (Operand.tmp 102)), none, ann0⟩] none)
 (.seq (.post (.reg [⟨(some 103), (Op.move (Operand.tmp 11)), none, ann0⟩,
  ⟨(some 104), (Op.move (Operand.tmp 13)), none, ann0⟩,
  ⟨(some 105), (Op.indexAddr 49 (Operand.tmp 103) (Operand.tmp 104)), none, ann0⟩,
  ⟨(some 106), (Op.load 38 (Operand.tmp 105)), none, ann0⟩,
  ⟨(some 107), (Op.move (Operand.tmp 5)), none, ann0⟩,
  ⟨(some 108), (Op.move (Operand.tmp 13)), none, ann0⟩,
  ⟨(some 109), (Op.indexAddr 49 (Operand.tmp 107) (Operand.tmp 108)), none, ann0⟩,
  ⟨(some 110), (Op.load 38 (Operand.tmp 109)), none, ann0⟩,
  ⟨(some 111), (Op.binOp BinOp.neq 38 (Operand.tmp 106) (Operand.tmp 110) 38), none, ann0⟩] (some [0, 0, 3, 7, 0, 0, 48, 112, 255])) (.tidy [5, 6, 11, 12, 99, 100, 111] z (z + 3)))
 (.cond (Operand.tmp 111) (.seq (.reg [⟨(some 4), (Op.assign (Operand.const (Value.bool false))), none, ann0⟩] none)
 .ret)
 .skip)))) (.tidy [5, 6, 11, 12, 99, 100] z (z + 3)))
 (.reg [⟨(some 112), (Op.binOp BinOp.add 3 (Operand.tmp 100) (Operand.const (Value.int IntKind.i64 1)) 3), none, ann0⟩,
  ⟨(some 100), (Op.move (Operand.tmp 112)), none, ann0⟩] none)))) (.tidy [5, 6, 11, 12, 99, 100] z (z + 3))
def s25_3 (z : Nat) : SC := c25_3 z
theorem e25_3 {C : Pg} {z : Nat} {st : St} {ks : List Fr} {K : Ex → St → Prop} : wpk C (s25_3 z) st ks K ↔ wpk C (c25_3 z) st ks K := Iff.rfl
def c25_4 (z : Nat) : SC := .post (.seq (.reg [⟨(some 116), (Op.binOp BinOp.lss 3 (Operand.tmp 115) (Operand.tmp 114) 3), none, ann0⟩] none)
 (.seq (.cond (Operand.tmp 116) .skip
 (.exit 6))
 (.seq (.post (.block 7 (.seq (.reg [⟨(some 117), (Op.move (Operand.tmp 115)), none, ann0⟩,
  ⟨(some 14), (Op.assign (Operand.tmp 117)), none, ann0⟩] none)
 (.seq (.post (.reg [⟨(some 118), (Op.move (Operand.tmp 12)), none, ann0⟩,
  ⟨(some 119), (Op.move (Operand.tmp 14)), none, ann0⟩,
  ⟨(some 120), (Op.indexAddr 51 (Operand.tmp 118) (Operand.tmp 119)), none, ann0⟩,
  ⟨(some 121), (Op.load 40 (Operand.tmp 120)), none, ann0⟩,
  ⟨(some 122), (Op.move (Operand.tmp 6)), none, ann0⟩,
  ⟨(some 123), (Op.move (Operand.tmp 14)), none, ann0⟩,
  ⟨(some 124), (Op.indexAddr 51 (Operand.tmp 122) (Operand.tmp 123)), none, ann0⟩,
  ⟨(some 125), (Op.load 40 (Operand.tmp 124)), none, ann0⟩,
  ⟨(some 126), (Op.binOp BinOp.neq 40 (Operand.tmp 121) (Operand.tmp 125) 40), none, ann0⟩] (some [0, 0, 3, 7, 0, 0, 48, 112, 255])) (.tidy [6, 12, 114, 115, 126] z (z + 3)))
 (.cond (Operand.tmp 126) (.seq (.reg [⟨(some 4), (Op.assign (Operand.const (Value.bool false))), none, ann0⟩] none)
 .ret)
 .skip)))) (.tidy [6, 12, 114, 115] z (z + 3)))
 (.reg [⟨(some 127), (Op.binOp BinOp.add 3 (Operand.tmp 115) (Operand.const (Value.int IntKind.i64 1)) 3), none, ann0⟩,
  ⟨(some 115), (Op.move (Operand.tmp 127)), none, ann0⟩] none)))) (.tidy [6, 12, 114, 115] z (z + 3))
def s25_4 (z : Nat) : SC := c25_4 z
theorem e25_4 {C : Pg} {z : Nat} {st : St} {ks : List Fr} {K : Ex → St → Prop} : wpk C (s25_4 z) st ks K ↔ wpk C (c25_4 z) st ks K := Iff.rfl
def s25 (z : Nat) : SFn := ⟨2, 128, [(ResultVar.tmp 4)],
 (.seq (.reg [⟨(some 4), (Op.assign (Operand.const (Value.bool false))), none, ann0⟩] none)
 (.seq (.post (.reg [⟨(some 5), (Op.assign (Operand.const (Value.slice none 0 0))), none, ann0⟩] none) (.mkv 5 38 2))
 (.seq (.post (.reg [⟨(some 6), (Op.assign (Operand.const (Value.slice none 0 0))), none, ann0⟩] none) (.mkv 6 40 4))
 (.seq (.post (.seq (.reg [⟨(some 15), (Op.move (Operand.tmp 0)), none, ann0⟩,
  ⟨(some 16), (Op.nilCheck (Operand.tmp 15)), none, ann0⟩,
  ⟨(some 17), (Op.fieldAddr 74 (Operand.tmp 16) 1), none, ann0⟩,
  ⟨(some 18), (Op.load 72 (Operand.tmp 17)), none, ann0⟩,
  ⟨(some 19), (Op.call { callee := (Callee.builtin Builtin.len), args := #[(Operand.tmp 18)], argTypes := #[72] }), none, ann0⟩,
  ⟨(some 20), (Op.move (Operand.const (Value.int IntKind.i64 0))), none, ann0⟩] none)
 (.post (.block 0 (.pre (.tidy [0, 1, 5, 6, 18, 19, 20] z (z + 2)) (.loop (s25_1 z)))) (.tidy [0, 1, 5, 6] z (z + 2)))) (.tidy [0, 1, 5, 6] z (z + 2)))
 (.seq (.post (.seq (.reg [⟨(some 9), (Op.assign (Operand.const (Value.int IntKind.i64 1))), none, ann0⟩] none)
 (.post (.block 2 (.pre (.tidy [0, 1, 5, 6, 9] z (z + 2)) (.loop (s25_2 z)))) (.tidy [0, 1, 5, 6] z (z + 2)))) (.tidy [0, 1, 5, 6] z (z + 2)))
 (.seq (.reg [⟨(some 63), (Op.move (Operand.tmp 1)), none, ann0⟩,
  ⟨(some 64), (Op.call { callee := (Callee.value (Operand.func 21)), args := #[(Operand.tmp 63)], argTypes := #[27] }), none, ann0⟩,
  ⟨(some 65), (Op.move (Operand.tmp 1)), none, ann0⟩,
  ⟨(some 66), (Op.call { callee := (Callee.value (Operand.func 22)), args := #[(Operand.tmp 65)], argTypes := #[27] }), none, ⟨1, true, false⟩⟩,
  ⟨(some 11), (Op.assign (Operand.tmp 64)), none, ann0⟩,
  ⟨(some 12), (Op.assign (Operand.tmp 66)), none, ann0⟩] none)
 (.seq (.post (.seq (.post (.reg [⟨(some 67), (Op.move (Operand.tmp 11)), none, ann0⟩,
  ⟨(some 68), (Op.call { callee := (Callee.builtin Builtin.len), args := #[(Operand.tmp 67)], argTypes := #[49] }), none, ann0⟩,
  ⟨(some 69), (Op.move (Operand.tmp 5)), none, ann0⟩,
  ⟨(some 70), (Op.call { callee := (Callee.builtin Builtin.len), args := #[(Operand.tmp 69)], argTypes := #[49] }), none, ann0⟩,
  ⟨(some 71), (Op.binOp BinOp.neq 3 (Operand.tmp 68) (Operand.tmp 70) 3), none, ann0⟩,
  ⟨(some 72), (Op.move (Operand.tmp 71)), none, ann0⟩,
  ⟨(some 73), (Op.move (Operand.tmp 12)), (some (72, false)), ann0⟩,
  ⟨(some 74), (Op.call { callee := (Callee.builtin Builtin.len), args := #[(Operand.tmp 73)], argTypes := #[51] }), (some (72, false)), ann0⟩,
  ⟨(some 75), (Op.move (Operand.tmp 6)), (some (72, false)), ann0⟩,
  ⟨(some 76), (Op.call { callee := (Callee.builtin Builtin.len), args := #[(Operand.tmp 75)], argTypes := #[51] }), (some (72, false)), ann0⟩,
  ⟨(some 77), (Op.binOp BinOp.neq 3 (Operand.tmp 74) (Operand.tmp 76) 3), (some (72, false)), ann0⟩,
  ⟨(some 78), (Op.pick (Operand.tmp 72) (Operand.const (Value.bool true)) (Operand.tmp 77)), none, ann0⟩,
  ⟨(some 79), (Op.move (Operand.tmp 78)), none, ann0⟩,
  ⟨(some 80), (Op.move (Operand.tmp 1)), (some (79, false)), ann0⟩,
  ⟨(some 81), (Op.call { callee := (Callee.value (Operand.func 16)), args := #[(Operand.tmp 80)], argTypes := #[27] }), (some (79, false)), ann0⟩,
  ⟨(some 82), (Op.move (Operand.tmp 0)), (some (79, false)), ann0⟩,
  ⟨(some 83), (Op.nilCheck (Operand.tmp 82)), (some (79, false)), ann0⟩,
  ⟨(some 84), (Op.fieldAddr 74 (Operand.tmp 83) 1), (some (79, false)), ann0⟩,
  ⟨(some 85), (Op.load 72 (Operand.tmp 84)), (some (79, false)), ann0⟩,
  ⟨(some 86), (Op.call { callee := (Callee.builtin Builtin.len), args := #[(Operand.tmp 85)], argTypes := #[72] }), (some (79, false)), ann0⟩,
  ⟨(some 87), (Op.binOp BinOp.neq 3 (Operand.tmp 81) (Operand.tmp 86) 3), (some (79, false)), ann0⟩,
  ⟨(some 88), (Op.pick (Operand.tmp 79) (Operand.const (Value.bool true)) (Operand.tmp 87)), none, ann0⟩,
  ⟨(some 89), (Op.move (Operand.tmp 88)), none, ann0⟩,
  ⟨(some 90), (Op.move (Operand.tmp 1)), (some (89, false)), ann0⟩,
  ⟨(some 91), (Op.call { callee := (Callee.value (Operand.func 20)), args := #[(Operand.tmp 90)], argTypes := #[27] }), (some (89, false)), ann0⟩,
  ⟨(some 92), (Op.move (Operand.tmp 0)), (some (89, false)), ann0⟩,
  ⟨(some 93), (Op.nilCheck (Operand.tmp 92)), (some (89, false)), ann0⟩,
  ⟨(some 94), (Op.fieldAddr 74 (Operand.tmp 93) 4), (some (89, false)), ann0⟩,
  ⟨(some 95), (Op.load 3 (Operand.tmp 94)), (some (89, false)), ann0⟩,
  ⟨(some 96), (Op.binOp BinOp.neq 3 (Operand.tmp 91) (Operand.tmp 95) 3), (some (89, false)), ann0⟩,
  ⟨(some 97), (Op.pick (Operand.tmp 89) (Operand.const (Value.bool true)) (Operand.tmp 96)), none, ann0⟩] (some [0, 1, 0, 4, 15, 31, 63, 127, 63, 319, 1023, 2047, 4095, 8191, 16383, 8191, 40959, 106495, 237567, 499711, 1048575, 2097151, 4194303, 8388607, 16777215, 8388607, 41943039, 109051903, 243269631, 536870911, 1073741823])) (.tidy [5, 6, 11, 12, 97] z (z + 3)))
 (.cond (Operand.tmp 97) (.seq (.reg [⟨(some 4), (Op.assign (Operand.const (Value.bool false))), none, ann0⟩] none)
 .ret)
 .skip)) (.tidy [5, 6, 11, 12] z (z + 3)))
 (.seq (.post (.seq (.reg [⟨(some 98), (Op.move (Operand.tmp 11)), none, ann0⟩,
  ⟨(some 99), (Op.call { callee := (Callee.builtin Builtin.len), args := #[(Operand.tmp 98)], argTypes := #[49] }), none, ann0⟩,
  ⟨(some 100), (Op.move (Operand.const (Value.int IntKind.i64 0))), none, ann0⟩] none)
 (.post (.block 4 (.pre (.tidy [5, 6, 11, 12, 99, 100] z (z + 3)) (.loop (s25_3 z)))) (.tidy [6, 12] z (z + 3)))) (.tidy [6, 12] z (z + 3)))
 (.seq (.post (.seq (.reg [⟨(some 113), (Op.move (Operand.tmp 12)), none, ann0⟩,
  ⟨(some 114), (Op.call { callee := (Callee.builtin Builtin.len), args := #[(Operand.tmp 113)], argTypes := #[51] }), none, ann0⟩,
  ⟨(some 115), (Op.move (Operand.const (Value.int IntKind.i64 0))), none, ann0⟩] none)
 (.post (.block 6 (.pre (.tidy [6, 12, 114, 115] z (z + 3)) (.loop (s25_4 z)))) (.tidy [] z (z + 3)))) (.tidy [] z (z + 3)))
 (.seq (.reg [⟨(some 4), (Op.assign (Operand.const (Value.bool true))), none, ann0⟩] none)
 .ret))))))))))⟩
theorem F25 (z : Nat) : FOk Try.prog 25 (s25 z) := by unfold FOk; kernel_rfl
def c26_1 (z : Nat) : SC := .post (.seq (.reg [⟨(some 32), (Op.binOp BinOp.lss 3 (Operand.tmp 31) (Operand.tmp 30) 3), none, ann0⟩] none)
 (.seq (.cond (Operand.tmp 32) .skip
 (.exit 0))
 (.seq (.post (.block 1 (.seq (.reg [⟨(some 33), (Op.indexAddr 51 (Operand.tmp 29) (Operand.tmp 31)), none, ann0⟩,
  ⟨(some 34), (Op.load 40 (Operand.tmp 33)), none, ann0⟩,
  ⟨(some 8), (Op.alloc 40), none, ⟨1, false, false⟩⟩,
  ⟨none, (Op.store 40 (Operand.tmp 8) (Operand.tmp 34)), none, ann0⟩] none)
 (.reg [⟨(some 35), (Op.move (Operand.tmp 0)), none, ann0⟩,
  ⟨(some 36), (Op.fieldAddr 40 (Operand.tmp 8) 0), none, ann0⟩,
  ⟨(some 37), (Op.load 3 (Operand.tmp 36)), none, ann0⟩,
  ⟨(some 38), (Op.call { callee := (Callee.value (Operand.func 29)), args := #[(Operand.tmp 35), (Operand.tmp 37)], argTypes := #[27, 3] }), none, ann0⟩] none))) (.tidy [0, 6, 29, 30, 31] z (z + 3)))
 (.reg [⟨(some 39), (Op.binOp BinOp.add 3 (Operand.tmp 31) (Operand.const (Value.int IntKind.i64 1)) 3), none, ann0⟩,
  ⟨(some 31), (Op.move (Operand.tmp 39)), none, ann0⟩] none)))) (.tidy [0, 6, 29, 30, 31] z (z + 2))
def s26_1 (z : Nat) : SC := c26_1 z
theorem e26_1 {C : Pg} {z : Nat} {st : St} {ks : List Fr} {K : Ex → St → Prop} : wpk C (s26_1 z) st ks K ↔ wpk C (c26_1 z) st ks K := Iff.rfl
def s26 (z : Nat) : SFn := ⟨2, 41, [(ResultVar.tmp 4), (ResultVar.tmp 5)],
 (.post (.seq (.reg [⟨(some 3), (Op.box 3 (Operand.tmp 1)), none, ⟨1, false, false⟩⟩,
  ⟨(some 4), (Op.assign (Operand.const (Value.slice none 0 0))), none, ann0⟩,
  ⟨(some 5), (Op.assign (Operand.const (Value.int IntKind.i64 0))), none, ann0⟩] none)
 (.seq (.post (.seq (.reg [⟨(some 9), (Op.move (Operand.tmp 0)), none, ann0⟩,
  ⟨(some 10), (Op.binOp BinOp.eql 27 (Operand.tmp 9) (Operand.const (Value.pointer none)) 27), none, ann0⟩] none)
 (.cond (Operand.tmp 10) (.seq (.reg [⟨(some 4), (Op.assign (Operand.const (Value.slice none 0 0))), none, ann0⟩,
  ⟨(some 5), (Op.assign (Operand.const (Value.int IntKind.i64 1))), none, ann0⟩] none)
 .ret)
 .skip)) (.tidy [0, 3] z (z + 1)))
 (.seq (.post (.seq (.post (.reg [⟨(some 11), (Op.load 3 (Operand.tmp 3)), none, ann0⟩,
  ⟨(some 12), (Op.move (Operand.tmp 0)), none, ann0⟩,
  ⟨(some 13), (Op.nilCheck (Operand.tmp 12)), none, ann0⟩,
  ⟨(some 14), (Op.fieldAddr 79 (Operand.tmp 13) 6), none, ann0⟩,
  ⟨(some 15), (Op.load 3 (Operand.tmp 14)), none, ann0⟩,
  ⟨(some 16), (Op.binOp BinOp.lss 3 (Operand.tmp 11) (Operand.tmp 15) 3), none, ann0⟩,
  ⟨(some 17), (Op.move (Operand.tmp 16)), none, ann0⟩,
  ⟨(some 18), (Op.load 3 (Operand.tmp 3)), (some (17, false)), ann0⟩,
  ⟨(some 19), (Op.binOp BinOp.gtr 3 (Operand.tmp 18) (Operand.const (Value.int IntKind.i64 1099511627776)) 3), (some (17, false)), ann0⟩,
  ⟨(some 20), (Op.pick (Operand.tmp 17) (Operand.const (Value.bool true)) (Operand.tmp 19)), none, ann0⟩] (some [0, 0, 2, 6, 14, 31, 63, 127, 255, 511])) (.tidy [0, 3, 20] z (z + 1)))
 (.cond (Operand.tmp 20) (.seq (.reg [⟨(some 4), (Op.assign (Operand.const (Value.slice none 0 0))), none, ann0⟩,
  ⟨(some 5), (Op.assign (Operand.const (Value.int IntKind.i64 32))), none, ann0⟩] none)
 .ret)
 .skip)) (.tidy [0, 3] z (z + 1)))
 (.seq (.reg [⟨(some 21), (Op.move (Operand.tmp 0)), none, ann0⟩,
  ⟨(some 22), (Op.load 3 (Operand.tmp 3)), none, ann0⟩,
  ⟨(some 23), (Op.nilCheck (Operand.tmp 21)), none, ann0⟩,
  ⟨(some 24), (Op.fieldAddr 79 (Operand.tmp 23) 6), none, ann0⟩,
  ⟨none, (Op.store 3 (Operand.tmp 24) (Operand.tmp 22)), none, ann0⟩] none)
 (.seq (.post (.reg [⟨(some 25), (Op.move (Operand.tmp 0)), none, ann0⟩,
  ⟨(some 26), (Op.call { callee := (Callee.value (Operand.func 22)), args := #[(Operand.tmp 25)], argTypes := #[27] }), none, ⟨1, false, false⟩⟩,
  ⟨(some 27), (Op.makeFunc (Fn.func 48) #[] #[(Operand.tmp 3)]), none, ann0⟩,
  ⟨(some 28), (Op.call { callee := (Callee.value (Operand.func 47)), args := #[(Operand.tmp 26), (Operand.tmp 27)], argTypes := #[51, 104] }), none, ann0⟩,
  ⟨(some 6), (Op.assign (Operand.tmp 28)), none, ann0⟩] none) (.tidy [0, 6] z (z + 2)))
 (.seq (.post (.seq (.reg [⟨(some 29), (Op.move (Operand.tmp 6)), none, ann0⟩,
  ⟨(some 30), (Op.call { callee := (Callee.builtin Builtin.len), args := #[(Operand.tmp 29)], argTypes := #[51] }), none, ann0⟩,
  ⟨(some 31), (Op.move (Operand.const (Value.int IntKind.i64 0))), none, ann0⟩] none)
 (.post (.block 0 (.pre (.tidy [0, 6, 29, 30, 31] z (z + 2)) (.loop (s26_1 z)))) (.tidy [6] z (z + 2)))) (.tidy [6] z (z + 2)))
 (.seq (.reg [⟨(some 40), (Op.move (Operand.tmp 6)), none, ann0⟩,
  ⟨(some 4), (Op.assign (Operand.tmp 40)), none, ann0⟩,
  ⟨(some 5), (Op.assign (Operand.const (Value.int IntKind.i64 0))), none, ann0⟩] none)
 .ret))))))) (.frz 4))⟩
theorem F26 (z : Nat) : FOk Try.prog 26 (s26 z) := by unfold FOk; kernel_rfl
def s27 (z : Nat) : SFn := ⟨2, 31, [(ResultVar.tmp 4)],
 (.seq (.reg [⟨(some 4), (Op.assign (Operand.const (Value.int IntKind.i64 0))), none, ann0⟩] none)
 (.seq (.seq (.reg [⟨(some 7), (Op.move (Operand.tmp 0)), none, ann0⟩,
  ⟨(some 8), (Op.binOp BinOp.eql 27 (Operand.tmp 7) (Operand.const (Value.pointer none)) 27), none, ann0⟩] none)
 (.cond (Operand.tmp 8) (.seq (.reg [⟨(some 4), (Op.assign (Operand.const (Value.int IntKind.i64 1))), none, ann0⟩] none)
 .ret)
 .skip))
 (.seq (.post (.reg [⟨(some 10), (Op.move (Operand.tmp 0)), none, ann0⟩,
  ⟨(some 11), (Op.nilCheck (Operand.tmp 10)), none, ann0⟩,
  ⟨(some 12), (Op.fieldAddr 79 (Operand.tmp 11) 2), none, ann0⟩,
  ⟨(some 13), (Op.load 77 (Operand.tmp 12)), none, ann0⟩,
  ⟨(some 14), (Op.move (Operand.tmp 1)), none, ann0⟩,
  ⟨(some 15), (Op.lookup 77 (Operand.tmp 13) (Operand.tmp 14) true), none, ann0⟩,
  ⟨(some 9), (Op.move (Operand.tmp 15)), none, ann0⟩,
  ⟨(some 16), (Op.extract (Operand.tmp 9) 0), none, ann0⟩,
  ⟨(some 17), (Op.extract (Operand.tmp 9) 1), none, ann0⟩,
  ⟨(some 5), (Op.alloc 40), none, ⟨1, false, false⟩⟩,
  ⟨none, (Op.store 40 (Operand.tmp 5) (Operand.tmp 16)), none, ann0⟩,
  ⟨(some 6), (Op.assign (Operand.tmp 17)), none, ann0⟩] none) (.tidy [0, 1, 5, 6] z (z + 1)))
 (.seq (.seq (.reg [⟨(some 18), (Op.move (Operand.tmp 6)), none, ann0⟩,
  ⟨(some 19), (Op.unOp UnOp.not 4 (Operand.tmp 18)), none, ann0⟩] none)
 (.cond (Operand.tmp 19) (.seq (.reg [⟨(some 4), (Op.assign (Operand.const (Value.int IntKind.i64 10))), none, ann0⟩] none)
 .ret)
 .skip))
 (.seq (.post (.reg [⟨(some 20), (Op.move (Operand.tmp 0)), none, ann0⟩,
  ⟨(some 21), (Op.nilCheck (Operand.tmp 20)), none, ann0⟩,
  ⟨(some 22), (Op.fieldAddr 79 (Operand.tmp 21) 2), none, ann0⟩,
  ⟨(some 23), (Op.load 77 (Operand.tmp 22)), none, ann0⟩,
  ⟨(some 24), (Op.move (Operand.tmp 1)), none, ann0⟩,
  ⟨none, (Op.call { callee := (Callee.builtin Builtin.delete), args := #[(Operand.tmp 23), (Operand.tmp 24)], argTypes := #[77, 3] }), none, ann0⟩] none) (.tidy [0, 5] z (z + 1)))
 (.seq (.post (.reg [⟨(some 25), (Op.move (Operand.tmp 0)), none, ann0⟩,
  ⟨(some 26), (Op.nilCheck (Operand.tmp 25)), none, ann0⟩,
  ⟨(some 27), (Op.fieldAddr 79 (Operand.tmp 26) 1), none, ann0⟩,
  ⟨(some 28), (Op.load 76 (Operand.tmp 27)), none, ann0⟩,
  ⟨(some 29), (Op.fieldAddr 40 (Operand.tmp 5) 1), none, ann0⟩,
  ⟨(some 30), (Op.load 38 (Operand.tmp 29)), none, ann0⟩,
  ⟨none, (Op.call { callee := (Callee.builtin Builtin.delete), args := #[(Operand.tmp 28), (Operand.tmp 30)], argTypes := #[76, 38] }), none, ann0⟩] (some [0, 1, 3, 7, 0, 16, 63])) (.tidy [] z (z + 1)))
 (.seq (.reg [⟨(some 4), (Op.assign (Operand.const (Value.int IntKind.i64 0))), none, ann0⟩] none)
 .ret)))))))⟩
theorem F27 (z : Nat) : FOk Try.prog 27 (s27 z) := by unfold FOk; kernel_rfl
def s28 (z : Nat) : SFn := ⟨1, 36, [(ResultVar.cell 2 25)],
 (.seq (.reg [⟨(some 1), (Op.box 57 (Operand.tmp 0)), none, ⟨1, false, false⟩⟩,
  ⟨(some 2), (Op.alloc 25), none, ⟨1, false, false⟩⟩] none)
 (.seq (.post (.reg [⟨(some 4), (Op.fieldAddr 57 (Operand.tmp 1) 1), none, ann0⟩,
  ⟨(some 5), (Op.load 5 (Operand.tmp 4)), none, ann0⟩,
  ⟨(some 6), (Op.convert 5 3 (Operand.tmp 5)), none, ann0⟩,
  ⟨(some 7), (Op.binOp BinOp.add 3 (Operand.const (Value.int IntKind.i64 1)) (Operand.tmp 6) 3), none, ann0⟩,
  ⟨(some 8), (Op.fieldAddr 57 (Operand.tmp 1) 2), none, ann0⟩,
  ⟨(some 9), (Op.load 5 (Operand.tmp 8)), none, ann0⟩,
  ⟨(some 10), (Op.convert 5 3 (Operand.tmp 9)), none, ann0⟩,
  ⟨(some 11), (Op.binOp BinOp.add 3 (Operand.const (Value.int IntKind.i64 1)) (Operand.tmp 10) 3), none, ann0⟩,
  ⟨(some 12), (Op.fieldAddr 57 (Operand.tmp 1) 1), none, ann0⟩,
  ⟨(some 13), (Op.load 5 (Operand.tmp 12)), none, ann0⟩,
  ⟨(some 14), (Op.convert 5 3 (Operand.tmp 13)), none, ann0⟩,
  ⟨(some 15), (Op.build 107 #[(0, (Operand.const (Value.int IntKind.i64 2))), (2, (Operand.tmp 14))]), none, ann0⟩,
  ⟨(some 16), (Op.build 109 #[(0, (Operand.const (Value.string ⟨#[107]⟩))), (1, (Operand.tmp 15))]), none, ann0⟩,
  ⟨(some 17), (Op.buildSlice 89 1 #[(0, (Operand.tmp 16))]), none, ⟨1, true, false⟩⟩,
  ⟨(some 18), (Op.build 92 #[(0, (Operand.tmp 7)), (1, (Operand.tmp 11)), (6, (Operand.const (Value.string ⟨#[115]⟩))), (12, (Operand.tmp 17))]), none, ann0⟩,
  ⟨(some 3), (Op.alloc 92), none, ⟨1, false, false⟩⟩,
  ⟨none, (Op.store 92 (Operand.tmp 3) (Operand.tmp 18)), none, ann0⟩] none) (.tidy [1, 2, 3] z (z + 4)))
 (.seq (.reg [⟨(some 19), (Op.fieldAddr 57 (Operand.tmp 1) 1), none, ann0⟩,
  ⟨(some 20), (Op.load 5 (Operand.tmp 19)), none, ann0⟩,
  ⟨(some 21), (Op.binOp BinOp.rem 5 (Operand.tmp 20) (Operand.const (Value.int IntKind.u8 4)) 5), none, ann0⟩,
  ⟨(some 22), (Op.convert 5 3 (Operand.tmp 21)), none, ann0⟩,
  ⟨(some 23), (Op.binOp BinOp.add 3 (Operand.const (Value.int IntKind.i64 1)) (Operand.tmp 22) 3), none, ann0⟩,
  ⟨(some 24), (Op.fieldAddr 57 (Operand.tmp 1) 2), none, ann0⟩,
  ⟨(some 25), (Op.load 5 (Operand.tmp 24)), none, ann0⟩,
  ⟨(some 26), (Op.binOp BinOp.rem 5 (Operand.tmp 25) (Operand.const (Value.int IntKind.u8 8)) 5), none, ann0⟩,
  ⟨(some 27), (Op.convert 5 3 (Operand.tmp 26)), none, ann0⟩,
  ⟨(some 28), (Op.load 92 (Operand.tmp 3)), none, ann0⟩,
  ⟨(some 29), (Op.buildSlice 22 1 #[(0, (Operand.tmp 28))]), none, ⟨1, true, false⟩⟩,
  ⟨(some 30), (Op.fieldAddr 57 (Operand.tmp 1) 1), none, ann0⟩,
  ⟨(some 31), (Op.load 5 (Operand.tmp 30)), none, ann0⟩,
  ⟨(some 32), (Op.convert 5 3 (Operand.tmp 31)), none, ann0⟩,
  ⟨(some 33), (Op.build 87 #[(0, (Operand.const (Value.int IntKind.i64 1))), (1, (Operand.const (Value.int IntKind.i64 2))), (2, (Operand.tmp 32))]), none, ann0⟩,
  ⟨(some 34), (Op.buildSlice 23 1 #[(0, (Operand.tmp 33))]), none, ⟨1, true, false⟩⟩,
  ⟨(some 35), (Op.build 25 #[(0, (Operand.tmp 23)), (1, (Operand.tmp 27)), (2, (Operand.tmp 29)), (3, (Operand.tmp 34))]), none, ann0⟩,
  ⟨none, (Op.store 25 (Operand.tmp 2) (Operand.tmp 35)), none, ann0⟩] none)
 .ret)))⟩
theorem F28 (z : Nat) : FOk Try.prog 28 (s28 z) := by unfold FOk; kernel_rfl
def s29 (z : Nat) : SFn := ⟨2, 41, [(ResultVar.tmp 4)],
 (.seq (.reg [⟨(some 4), (Op.assign (Operand.const (Value.int IntKind.i64 0))), none, ann0⟩] none)
 (.seq (.seq (.reg [⟨(some 8), (Op.move (Operand.tmp 0)), none, ann0⟩,
  ⟨(some 9), (Op.binOp BinOp.eql 27 (Operand.tmp 8) (Operand.const (Value.pointer none)) 27), none, ann0⟩] none)
 (.cond (Operand.tmp 9) (.seq (.reg [⟨(some 4), (Op.assign (Operand.const (Value.int IntKind.i64 1))), none, ann0⟩] none)
 .ret)
 .skip))
 (.seq (.post (.reg [⟨(some 11), (Op.move (Operand.tmp 0)), none, ann0⟩,
  ⟨(some 12), (Op.nilCheck (Operand.tmp 11)), none, ann0⟩,
  ⟨(some 13), (Op.fieldAddr 79 (Operand.tmp 12) 2), none, ann0⟩,
  ⟨(some 14), (Op.load 77 (Operand.tmp 13)), none, ann0⟩,
  ⟨(some 15), (Op.move (Operand.tmp 1)), none, ann0⟩,
  ⟨(some 16), (Op.lookup 77 (Operand.tmp 14) (Operand.tmp 15) true), none, ann0⟩,
  ⟨(some 10), (Op.move (Operand.tmp 16)), none, ann0⟩,
  ⟨(some 17), (Op.extract (Operand.tmp 10) 0), none, ann0⟩,
  ⟨(some 18), (Op.extract (Operand.tmp 10) 1), none, ann0⟩,
  ⟨(some 5), (Op.alloc 40), none, ⟨1, false, false⟩⟩,
  ⟨none, (Op.store 40 (Operand.tmp 5) (Operand.tmp 17)), none, ann0⟩,
  ⟨(some 6), (Op.assign (Operand.tmp 18)), none, ann0⟩] none) (.tidy [0, 1, 5, 6] z (z + 1)))
 (.seq (.seq (.reg [⟨(some 19), (Op.move (Operand.tmp 6)), none, ann0⟩,
  ⟨(some 20), (Op.unOp UnOp.not 4 (Operand.tmp 19)), none, ann0⟩] none)
 (.cond (Operand.tmp 20) (.seq (.reg [⟨(some 4), (Op.assign (Operand.const (Value.int IntKind.i64 10))), none, ann0⟩] none)
 .ret)
 .skip))
 (.seq (.post (.reg [⟨(some 21), (Op.move (Operand.tmp 0)), none, ann0⟩,
  ⟨(some 22), (Op.nilCheck (Operand.tmp 21)), none, ann0⟩,
  ⟨(some 23), (Op.fieldAddr 79 (Operand.tmp 22) 2), none, ann0⟩,
  ⟨(some 24), (Op.load 77 (Operand.tmp 23)), none, ann0⟩,
  ⟨(some 25), (Op.move (Operand.tmp 1)), none, ann0⟩,
  ⟨none, (Op.call { callee := (Callee.builtin Builtin.delete), args := #[(Operand.tmp 24), (Operand.tmp 25)], argTypes := #[77, 3] }), none, ann0⟩] none) (.tidy [0, 5] z (z + 1)))
 (.seq (.post (.reg [⟨(some 26), (Op.move (Operand.tmp 0)), none, ann0⟩,
  ⟨(some 27), (Op.nilCheck (Operand.tmp 26)), none, ann0⟩,
  ⟨(some 28), (Op.fieldAddr 79 (Operand.tmp 27) 1), none, ann0⟩,
  ⟨(some 29), (Op.load 76 (Operand.tmp 28)), none, ann0⟩,
  ⟨(some 30), (Op.fieldAddr 40 (Operand.tmp 5) 1), none, ann0⟩,
  ⟨(some 31), (Op.load 38 (Operand.tmp 30)), none, ann0⟩,
  ⟨(some 32), (Op.lookup 76 (Operand.tmp 29) (Operand.tmp 31) false), none, ann0⟩,
  ⟨(some 7), (Op.alloc 81), none, ⟨1, false, false⟩⟩,
  ⟨none, (Op.store 81 (Operand.tmp 7) (Operand.tmp 32)), none, ann0⟩] (some [0, 1, 3, 7, 0, 16, 63, 0, 255])) (.tidy [0, 5, 7] z (z + 2)))
 (.seq (.reg [⟨(some 33), (Op.fieldAddr 81 (Operand.tmp 7) 2), none, ann0⟩,
  ⟨none, (Op.store 3 (Operand.tmp 33) (Operand.const (Value.int IntKind.i64 0))), none, ann0⟩] none)
 (.seq (.post (.reg [⟨(some 34), (Op.move (Operand.tmp 0)), none, ann0⟩,
  ⟨(some 35), (Op.nilCheck (Operand.tmp 34)), none, ann0⟩,
  ⟨(some 36), (Op.fieldAddr 79 (Operand.tmp 35) 1), none, ann0⟩,
  ⟨(some 37), (Op.load 76 (Operand.tmp 36)), none, ann0⟩,
  ⟨(some 38), (Op.fieldAddr 40 (Operand.tmp 5) 1), none, ann0⟩,
  ⟨(some 39), (Op.load 38 (Operand.tmp 38)), none, ann0⟩,
  ⟨(some 40), (Op.load 81 (Operand.tmp 7)), none, ann0⟩,
  ⟨none, (Op.mapUpdate 76 (Operand.tmp 37) (Operand.tmp 39) (Operand.tmp 40)), none, ann0⟩] (some [0, 1, 3, 7, 0, 16, 0, 127])) (.tidy [] z (z + 2)))
 (.seq (.reg [⟨(some 4), (Op.assign (Operand.const (Value.int IntKind.i64 0))), none, ann0⟩] none)
 .ret)))))))))⟩
theorem F29 (z : Nat) : FOk Try.prog 29 (s29 z) := by unfold FOk; kernel_rfl
def s33 (z : Nat) : SFn := ⟨1, 9, [(ResultVar.tmp 2)],
 (.seq (.reg [⟨(some 2), (Op.assign (Operand.const (Value.bool false))), none, ann0⟩] none)
 (.seq (.reg [⟨(some 3), (Op.move (Operand.tmp 0)), none, ann0⟩,
  ⟨(some 4), (Op.binOp BinOp.geq 3 (Operand.tmp 3) (Operand.const (Value.int IntKind.i64 1)) 3), none, ann0⟩,
  ⟨(some 5), (Op.move (Operand.tmp 4)), none, ann0⟩,
  ⟨(some 6), (Op.move (Operand.tmp 0)), (some (5, true)), ann0⟩,
  ⟨(some 7), (Op.binOp BinOp.leq 3 (Operand.tmp 6) (Operand.const (Value.int IntKind.i64 1048576)) 3), (some (5, true)), ann0⟩,
  ⟨(some 8), (Op.pick (Operand.tmp 5) (Operand.tmp 7) (Operand.const (Value.bool false))), none, ann0⟩,
  ⟨(some 2), (Op.assign (Operand.tmp 8)), none, ann0⟩] none)
 .ret))⟩
theorem F33 (z : Nat) : FOk Try.prog 33 (s33 z) := by unfold FOk; kernel_rfl
def c34_1 (z : Nat) : SC := .post (.seq (.reg [⟨(some 16), (Op.binOp BinOp.lss 3 (Operand.tmp 15) (Operand.tmp 14) 3), none, ann0⟩] none)
 (.seq (.cond (Operand.tmp 16) .skip
 (.exit 0))
 (.seq (.post (.block 1 (.seq (.reg [⟨(some 17), (Op.move (Operand.tmp 15)), none, ann0⟩,
  ⟨(some 3), (Op.assign (Operand.tmp 17)), none, ann0⟩] none)
 (.seq (.post (.reg [⟨(some 18), (Op.fieldAddr 25 (Operand.tmp 1) 2), none, ann0⟩,
  ⟨(some 19), (Op.load 22 (Operand.tmp 18)), none, ann0⟩,
  ⟨(some 20), (Op.move (Operand.tmp 3)), none, ann0⟩,
  ⟨(some 21), (Op.fieldAddr 25 (Operand.tmp 1) 2), none, ann0⟩,
  ⟨(some 22), (Op.load 22 (Operand.tmp 21)), none, ann0⟩,
  ⟨(some 23), (Op.move (Operand.tmp 3)), none, ann0⟩,
  ⟨(some 24), (Op.indexAddr 22 (Operand.tmp 22) (Operand.tmp 23)), none, ann0⟩,
  ⟨(some 25), (Op.fieldAddr 92 (Operand.tmp 24) 12), none, ann0⟩,
  ⟨(some 26), (Op.load 89 (Operand.tmp 25)), none, ann0⟩,
  ⟨(some 27), (Op.call { callee := (Callee.value (Operand.func 56)), args := #[(Operand.tmp 26)], argTypes := #[89] }), none, ann0⟩,
  ⟨(some 28), (Op.indexAddr 22 (Operand.tmp 19) (Operand.tmp 20)), none, ann0⟩,
  ⟨(some 29), (Op.fieldAddr 92 (Operand.tmp 28) 12), none, ann0⟩,
  ⟨none, (Op.store 89 (Operand.tmp 29) (Operand.tmp 27)), none, ann0⟩] (some [0, 1, 0, 0, 8, 0, 56, 120, 248, 504, 1023, 2047, 4095])) (.tidy [1, 2, 3, 14, 15] z (z + 3)))
 (.reg [⟨(some 30), (Op.fieldAddr 25 (Operand.tmp 1) 2), none, ann0⟩,
  ⟨(some 31), (Op.load 22 (Operand.tmp 30)), none, ann0⟩,
  ⟨(some 32), (Op.move (Operand.tmp 3)), none, ann0⟩,
  ⟨(some 33), (Op.fieldAddr 25 (Operand.tmp 1) 2), none, ann0⟩,
  ⟨(some 34), (Op.load 22 (Operand.tmp 33)), none, ann0⟩,
  ⟨(some 35), (Op.move (Operand.tmp 3)), none, ann0⟩,
  ⟨(some 36), (Op.indexAddr 22 (Operand.tmp 34) (Operand.tmp 35)), none, ann0⟩,
  ⟨(some 37), (Op.fieldAddr 92 (Operand.tmp 36) 13), none, ann0⟩,
  ⟨(some 38), (Op.load 90 (Operand.tmp 37)), none, ann0⟩,
  ⟨(some 39), (Op.call { callee := (Callee.value (Operand.func 57)), args := #[(Operand.tmp 38)], argTypes := #[90] }), none, ann0⟩,
  ⟨(some 40), (Op.indexAddr 22 (Operand.tmp 31) (Operand.tmp 32)), none, ann0⟩,
  ⟨(some 41), (Op.fieldAddr 92 (Operand.tmp 40) 13), none, ann0⟩,
  ⟨none, (Op.store 90 (Operand.tmp 41) (Operand.tmp 39)), none, ann0⟩] (some [0, 1, 0, 0, 8, 0, 56, 120, 248, 504, 1023, 2047, 4095]))))) (.tidy [1, 2, 14, 15] z (z + 3)))
 (.reg [⟨(some 42), (Op.binOp BinOp.add 3 (Operand.tmp 15) (Operand.const (Value.int IntKind.i64 1)) 3), none, ann0⟩,
  ⟨(some 15), (Op.move (Operand.tmp 42)), none, ann0⟩] none)))) (.tidy [1, 2, 14, 15] z (z + 3))
def s34_1 (z : Nat) : SC := c34_1 z
theorem e34_1 {C : Pg} {z : Nat} {st : St} {ks : List Fr} {K : Ex → St → Prop} : wpk C (s34_1 z) st ks K ↔ wpk C (c34_1 z) st ks K := Iff.rfl
def s34 (z : Nat) : SFn := ⟨1, 44, [(ResultVar.cell 2 25)],
 (.seq (.reg [⟨(some 1), (Op.box 25 (Operand.tmp 0)), none, ⟨1, false, false⟩⟩,
  ⟨(some 2), (Op.alloc 25), none, ⟨1, false, false⟩⟩] none)
 (.seq (.reg [⟨(some 4), (Op.fieldAddr 25 (Operand.tmp 1) 3), none, ann0⟩,
  ⟨(some 5), (Op.load 23 (Operand.tmp 4)), none, ann0⟩,
  ⟨(some 6), (Op.call { callee := (Callee.value (Operand.func 54)), args := #[(Operand.tmp 5)], argTypes := #[23] }), none, ann0⟩,
  ⟨(some 7), (Op.fieldAddr 25 (Operand.tmp 1) 3), none, ann0⟩,
  ⟨none, (Op.store 23 (Operand.tmp 7) (Operand.tmp 6)), none, ann0⟩] none)
 (.seq (.post (.reg [⟨(some 8), (Op.fieldAddr 25 (Operand.tmp 1) 2), none, ann0⟩,
  ⟨(some 9), (Op.load 22 (Operand.tmp 8)), none, ann0⟩,
  ⟨(some 10), (Op.call { callee := (Callee.value (Operand.func 55)), args := #[(Operand.tmp 9)], argTypes := #[22] }), none, ⟨1, false, false⟩⟩,
  ⟨(some 11), (Op.fieldAddr 25 (Operand.tmp 1) 2), none, ann0⟩,
  ⟨none, (Op.store 22 (Operand.tmp 11) (Operand.tmp 10)), none, ann0⟩] none) (.tidy [1, 2] z (z + 3)))
 (.seq (.post (.seq (.reg [⟨(some 12), (Op.fieldAddr 25 (Operand.tmp 1) 2), none, ann0⟩,
  ⟨(some 13), (Op.load 22 (Operand.tmp 12)), none, ann0⟩,
  ⟨(some 14), (Op.call { callee := (Callee.builtin Builtin.len), args := #[(Operand.tmp 13)], argTypes := #[22] }), none, ann0⟩,
  ⟨(some 15), (Op.move (Operand.const (Value.int IntKind.i64 0))), none, ann0⟩] none)
 (.post (.post (.block 0 (.pre (.tidy [1, 2, 14, 15] z (z + 3)) (.loop (s34_1 z)))) (.tidy [1, 2] z (z + 3))) (.frb 1 2))) (.tidy [1, 2] z (z + 3)))
 (.seq (.reg [⟨(some 43), (Op.load 25 (Operand.tmp 1)), none, ann0⟩,
  ⟨none, (Op.store 25 (Operand.tmp 2) (Operand.tmp 43)), none, ann0⟩] none)
 .ret)))))⟩
theorem F34 (z : Nat) : FOk Try.prog 34 (s34 z) := by unfold FOk; kernel_rfl
def c35_1 (z : Nat) : SC := .post (.seq (.reg [⟨(some 23), (Op.binOp BinOp.lss 3 (Operand.tmp 22) (Operand.tmp 21) 3), none, ann0⟩] none)
 (.seq (.cond (Operand.tmp 23) .skip
 (.exit 0))
 (.seq (.post (.block 1 (.seq (.post (.reg [⟨(some 24), (Op.indexAddr 49 (Operand.tmp 20) (Operand.tmp 22)), none, ann0⟩,
  ⟨(some 25), (Op.load 38 (Operand.tmp 24)), none, ann0⟩,
  ⟨(some 8), (Op.alloc 38), none, ⟨1, false, false⟩⟩,
  ⟨none, (Op.store 38 (Operand.tmp 8) (Operand.tmp 25)), none, ann0⟩] none) (.tidy [2, 5, 6, 8, 20, 21, 22] z (z + 4)))
 (.seq (.post (.reg [⟨(some 26), (Op.move (Operand.tmp 5)), none, ann0⟩,
  ⟨(some 27), (Op.load 38 (Operand.tmp 8)), none, ann0⟩,
  ⟨(some 28), (Op.call { callee := (Callee.value (Operand.tmp 26)), args := #[(Operand.tmp 27)], argTypes := #[38] }), none, ann0⟩,
  ⟨(some 29), (Op.move (Operand.tmp 5)), none, ann0⟩,
  ⟨(some 30), (Op.load 38 (Operand.tmp 6)), none, ann0⟩,
  ⟨(some 31), (Op.call { callee := (Callee.value (Operand.tmp 29)), args := #[(Operand.tmp 30)], argTypes := #[38] }), none, ann0⟩,
  ⟨(some 32), (Op.binOp BinOp.lss 3 (Operand.tmp 28) (Operand.tmp 31) 3), none, ann0⟩] (some [0, 0, 3, 0, 0, 31, 63])) (.tidy [2, 5, 6, 8, 20, 21, 22, 32] z (z + 4)))
 (.cond (Operand.tmp 32) (.reg [⟨(some 33), (Op.load 38 (Operand.tmp 8)), none, ann0⟩,
  ⟨none, (Op.store 38 (Operand.tmp 6) (Operand.tmp 33)), none, ann0⟩] none)
 .skip)))) (.tidy [2, 5, 6, 20, 21, 22] z (z + 4)))
 (.reg [⟨(some 34), (Op.binOp BinOp.add 3 (Operand.tmp 22) (Operand.const (Value.int IntKind.i64 1)) 3), none, ann0⟩,
  ⟨(some 22), (Op.move (Operand.tmp 34)), none, ann0⟩] none)))) (.tidy [2, 5, 6, 20, 21, 22] z (z + 3))
def s35_1 (z : Nat) : SC := c35_1 z
theorem e35_1 {C : Pg} {z : Nat} {st : St} {ks : List Fr} {K : Ex → St → Prop} : wpk C (s35_1 z) st ks K ↔ wpk C (c35_1 z) st ks K := Iff.rfl
def s35 (z : Nat) : SFn := ⟨1, 36, [(ResultVar.cell 2 38), (ResultVar.tmp 3)],
 (.seq (.reg [⟨(some 1), (Op.box 27 (Operand.tmp 0)), none, ⟨1, false, false⟩⟩,
  ⟨(some 2), (Op.alloc 38), none, ⟨1, false, false⟩⟩,
  ⟨(some 3), (Op.assign (Operand.const (Value.bool false))), none, ann0⟩] none)
 (.seq (.reg [⟨(some 9), (Op.load 27 (Operand.tmp 1)), none, ann0⟩,
  ⟨(some 10), (Op.call { callee := (Callee.value (Operand.func 21)), args := #[(Operand.tmp 9)], argTypes := #[27] }), none, ann0⟩,
  ⟨(some 4), (Op.assign (Operand.tmp 10)), none, ann0⟩] none)
 (.seq (.post (.seq (.reg [⟨(some 11), (Op.move (Operand.tmp 4)), none, ann0⟩,
  ⟨(some 12), (Op.call { callee := (Callee.builtin Builtin.len), args := #[(Operand.tmp 11)], argTypes := #[49] }), none, ann0⟩,
  ⟨(some 13), (Op.binOp BinOp.eql 3 (Operand.tmp 12) (Operand.const (Value.int IntKind.i64 0)) 3), none, ann0⟩] none)
 (.cond (Operand.tmp 13) (.seq (.reg [⟨(some 14), (Op.build 38 #[]), none, ann0⟩,
  ⟨none, (Op.store 38 (Operand.tmp 2) (Operand.tmp 14)), none, ann0⟩,
  ⟨(some 3), (Op.assign (Operand.const (Value.bool false))), none, ann0⟩] none)
 .ret)
 .skip)) (.tidy [1, 2, 4] z (z + 2)))
 (.seq (.reg [⟨(some 15), (Op.makeFunc (Fn.func 58) #[] #[(Operand.tmp 1)]), none, ann0⟩,
  ⟨(some 5), (Op.assign (Operand.tmp 15)), none, ann0⟩] none)
 (.seq (.reg [⟨(some 16), (Op.move (Operand.tmp 4)), none, ann0⟩,
  ⟨(some 17), (Op.indexAddr 49 (Operand.tmp 16) (Operand.const (Value.int IntKind.i64 0))), none, ann0⟩,
  ⟨(some 18), (Op.load 38 (Operand.tmp 17)), none, ann0⟩,
  ⟨(some 6), (Op.alloc 38), none, ⟨1, false, false⟩⟩,
  ⟨none, (Op.store 38 (Operand.tmp 6) (Operand.tmp 18)), none, ann0⟩] none)
 (.seq (.post (.seq (.reg [⟨(some 19), (Op.move (Operand.tmp 4)), none, ann0⟩,
  ⟨(some 20), (Op.slice 49 (Operand.tmp 19) (some (Operand.const (Value.int IntKind.i64 1))) none none), none, ann0⟩,
  ⟨(some 21), (Op.call { callee := (Callee.builtin Builtin.len), args := #[(Operand.tmp 20)], argTypes := #[49] }), none, ann0⟩,
  ⟨(some 22), (Op.move (Operand.const (Value.int IntKind.i64 0))), none, ann0⟩] none)
 (.post (.block 0 (.pre (.tidy [2, 5, 6, 20, 21, 22] z (z + 3)) (.loop (s35_1 z)))) (.tidy [2, 6] z (z + 3)))) (.tidy [2, 6] z (z + 3)))
 (.seq (.reg [⟨(some 35), (Op.load 38 (Operand.tmp 6)), none, ann0⟩,
  ⟨none, (Op.store 38 (Operand.tmp 2) (Operand.tmp 35)), none, ann0⟩,
  ⟨(some 3), (Op.assign (Operand.const (Value.bool true))), none, ann0⟩] none)
 .ret)))))))⟩
theorem F35 (z : Nat) : FOk Try.prog 35 (s35 z) := by unfold FOk; kernel_rfl
def c36_1 (z : Nat) : SC := .post (.seq (.reg [⟨(some 27), (Op.binOp BinOp.lss 3 (Operand.tmp 26) (Operand.tmp 25) 3), none, ann0⟩] none)
 (.seq (.cond (Operand.tmp 27) .skip
 (.exit 0))
 (.seq (.post (.block 1 (.seq (.reg [⟨(some 28), (Op.move (Operand.tmp 26)), none, ann0⟩,
  ⟨(some 5), (Op.assign (Operand.tmp 28)), none, ann0⟩] none)
 (.seq (.post (.reg [⟨(some 29), (Op.fieldAddr 92 (Operand.tmp 2) 12), none, ann0⟩,
  ⟨(some 30), (Op.load 89 (Operand.tmp 29)), none, ann0⟩,
  ⟨(some 31), (Op.move (Operand.tmp 5)), none, ann0⟩,
  ⟨(some 32), (Op.indexAddr 89 (Operand.tmp 30) (Operand.tmp 31)), none, ann0⟩,
  ⟨(some 33), (Op.load 109 (Operand.tmp 32)), none, ann0⟩,
  ⟨(some 34), (Op.fieldAddr 92 (Operand.tmp 3) 12), none, ann0⟩,
  ⟨(some 35), (Op.load 89 (Operand.tmp 34)), none, ann0⟩,
  ⟨(some 36), (Op.move (Operand.tmp 5)), none, ann0⟩,
  ⟨(some 37), (Op.indexAddr 89 (Operand.tmp 35) (Operand.tmp 36)), none, ann0⟩,
  ⟨(some 38), (Op.load 109 (Operand.tmp 37)), none, ann0⟩,
  ⟨(some 39), (Op.binOp BinOp.neq 109 (Operand.tmp 33) (Operand.tmp 38) 109), none, ann0⟩] (some [0, 1, 0, 7, 15, 0, 32, 0, 224, 480, 1023])) (.tidy [2, 3, 25, 26, 39] z (z + 2)))
 (.cond (Operand.tmp 39) (.seq (.reg [⟨(some 4), (Op.assign (Operand.const (Value.bool false))), none, ann0⟩] none)
 .ret)
 .skip)))) (.tidy [2, 3, 25, 26] z (z + 2)))
 (.reg [⟨(some 40), (Op.binOp BinOp.add 3 (Operand.tmp 26) (Operand.const (Value.int IntKind.i64 1)) 3), none, ann0⟩,
  ⟨(some 26), (Op.move (Operand.tmp 40)), none, ann0⟩] none)))) (.tidy [2, 3, 25, 26] z (z + 2))
def s36_1 (z : Nat) : SC := c36_1 z
theorem e36_1 {C : Pg} {z : Nat} {st : St} {ks : List Fr} {K : Ex → St → Prop} : wpk C (s36_1 z) st ks K ↔ wpk C (c36_1 z) st ks K := Iff.rfl
def c36_2 (z : Nat) : SC := .post (.seq (.reg [⟨(some 45), (Op.binOp BinOp.lss 3 (Operand.tmp 44) (Operand.tmp 43) 3), none, ann0⟩] none)
 (.seq (.cond (Operand.tmp 45) .skip
 (.exit 2))
 (.seq (.post (.block 3 (.seq (.reg [⟨(some 46), (Op.move (Operand.tmp 44)), none, ann0⟩,
  ⟨(some 6), (Op.assign (Operand.tmp 46)), none, ann0⟩] none)
 (.seq (.post (.reg [⟨(some 47), (Op.fieldAddr 92 (Operand.tmp 2) 13), none, ann0⟩,
  ⟨(some 48), (Op.load 90 (Operand.tmp 47)), none, ann0⟩,
  ⟨(some 49), (Op.move (Operand.tmp 6)), none, ann0⟩,
  ⟨(some 50), (Op.indexAddr 90 (Operand.tmp 48) (Operand.tmp 49)), none, ann0⟩,
  ⟨(some 51), (Op.load 119 (Operand.tmp 50)), none, ann0⟩,
  ⟨(some 52), (Op.fieldAddr 92 (Operand.tmp 3) 13), none, ann0⟩,
  ⟨(some 53), (Op.load 90 (Operand.tmp 52)), none, ann0⟩,
  ⟨(some 54), (Op.move (Operand.tmp 6)), none, ann0⟩,
  ⟨(some 55), (Op.indexAddr 90 (Operand.tmp 53) (Operand.tmp 54)), none, ann0⟩,
  ⟨(some 56), (Op.load 119 (Operand.tmp 55)), none, ann0⟩,
  ⟨(some 57), (Op.binOp BinOp.neq 119 (Operand.tmp 51) (Operand.tmp 56) 119), none, ann0⟩] (some [0, 1, 0, 7, 15, 0, 32, 0, 224, 480, 1023])) (.tidy [2, 3, 43, 44, 57] z (z + 2)))
 (.cond (Operand.tmp 57) (.seq (.reg [⟨(some 4), (Op.assign (Operand.const (Value.bool false))), none, ann0⟩] none)
 .ret)
 .skip)))) (.tidy [2, 3, 43, 44] z (z + 2)))
 (.reg [⟨(some 58), (Op.binOp BinOp.add 3 (Operand.tmp 44) (Operand.const (Value.int IntKind.i64 1)) 3), none, ann0⟩,
  ⟨(some 44), (Op.move (Operand.tmp 58)), none, ann0⟩] none)))) (.tidy [2, 3, 43, 44] z (z + 2))
def s36_2 (z : Nat) : SC := c36_2 z
theorem e36_2 {C : Pg} {z : Nat} {st : St} {ks : List Fr} {K : Ex → St → Prop} : wpk C (s36_2 z) st ks K ↔ wpk C (c36_2 z) st ks K := Iff.rfl
def s36 (z : Nat) : SFn := ⟨2, 141, [(ResultVar.tmp 4)],
 (.seq (.reg [⟨(some 2), (Op.box 92 (Operand.tmp 0)), none, ⟨1, false, false⟩⟩,
  ⟨(some 3), (Op.box 92 (Operand.tmp 1)), none, ⟨1, false, false⟩⟩,
  ⟨(some 4), (Op.assign (Operand.const (Value.bool false))), none, ann0⟩] none)
 (.seq (.post (.seq (.post (.reg [⟨(some 7), (Op.fieldAddr 92 (Operand.tmp 2) 12), none, ann0⟩,
  ⟨(some 8), (Op.load 89 (Operand.tmp 7)), none, ann0⟩,
  ⟨(some 9), (Op.call { callee := (Callee.builtin Builtin.len), args := #[(Operand.tmp 8)], argTypes := #[89] }), none, ann0⟩,
  ⟨(some 10), (Op.fieldAddr 92 (Operand.tmp 3) 12), none, ann0⟩,
  ⟨(some 11), (Op.load 89 (Operand.tmp 10)), none, ann0⟩,
  ⟨(some 12), (Op.call { callee := (Callee.builtin Builtin.len), args := #[(Operand.tmp 11)], argTypes := #[89] }), none, ann0⟩,
  ⟨(some 13), (Op.binOp BinOp.neq 3 (Operand.tmp 9) (Operand.tmp 12) 3), none, ann0⟩,
  ⟨(some 14), (Op.move (Operand.tmp 13)), none, ann0⟩,
  ⟨(some 15), (Op.fieldAddr 92 (Operand.tmp 2) 13), (some (14, false)), ann0⟩,
  ⟨(some 16), (Op.load 90 (Operand.tmp 15)), (some (14, false)), ann0⟩,
  ⟨(some 17), (Op.call { callee := (Callee.builtin Builtin.len), args := #[(Operand.tmp 16)], argTypes := #[90] }), (some (14, false)), ann0⟩,
  ⟨(some 18), (Op.fieldAddr 92 (Operand.tmp 3) 13), (some (14, false)), ann0⟩,
  ⟨(some 19), (Op.load 90 (Operand.tmp 18)), (some (14, false)), ann0⟩,
  ⟨(some 20), (Op.call { callee := (Callee.builtin Builtin.len), args := #[(Operand.tmp 19)], argTypes := #[90] }), (some (14, false)), ann0⟩,
  ⟨(some 21), (Op.binOp BinOp.neq 3 (Operand.tmp 17) (Operand.tmp 20) 3), (some (14, false)), ann0⟩,
  ⟨(some 22), (Op.pick (Operand.tmp 14) (Operand.const (Value.bool true)) (Operand.tmp 21)), none, ann0⟩] none) (.tidy [2, 3, 22] z (z + 2)))
 (.cond (Operand.tmp 22) (.seq (.reg [⟨(some 4), (Op.assign (Operand.const (Value.bool false))), none, ann0⟩] none)
 .ret)
 .skip)) (.tidy [2, 3] z (z + 2)))
 (.seq (.post (.seq (.reg [⟨(some 23), (Op.fieldAddr 92 (Operand.tmp 2) 12), none, ann0⟩,
  ⟨(some 24), (Op.load 89 (Operand.tmp 23)), none, ann0⟩,
  ⟨(some 25), (Op.call { callee := (Callee.builtin Builtin.len), args := #[(Operand.tmp 24)], argTypes := #[89] }), none, ann0⟩,
  ⟨(some 26), (Op.move (Operand.const (Value.int IntKind.i64 0))), none, ann0⟩] none)
 (.post (.block 0 (.pre (.tidy [2, 3, 25, 26] z (z + 2)) (.loop (s36_1 z)))) (.tidy [2, 3] z (z + 2)))) (.tidy [2, 3] z (z + 2)))
 (.seq (.post (.seq (.reg [⟨(some 41), (Op.fieldAddr 92 (Operand.tmp 2) 13), none, ann0⟩,
  ⟨(some 42), (Op.load 90 (Operand.tmp 41)), none, ann0⟩,
  ⟨(some 43), (Op.call { callee := (Callee.builtin Builtin.len), args := #[(Operand.tmp 42)], argTypes := #[90] }), none, ann0⟩,
  ⟨(some 44), (Op.move (Operand.const (Value.int IntKind.i64 0))), none, ann0⟩] none)
 (.post (.block 2 (.pre (.tidy [2, 3, 43, 44] z (z + 2)) (.loop (s36_2 z)))) (.tidy [2, 3] z (z + 2)))) (.tidy [2, 3] z (z + 2)))
 (.seq (.reg [⟨(some 59), (Op.fieldAddr 92 (Operand.tmp 2) 0), none, ann0⟩,
  ⟨(some 60), (Op.load 3 (Operand.tmp 59)), none, ann0⟩,
  ⟨(some 61), (Op.fieldAddr 92 (Operand.tmp 3) 0), none, ann0⟩,
  ⟨(some 62), (Op.load 3 (Operand.tmp 61)), none, ann0⟩,
  ⟨(some 63), (Op.binOp BinOp.eql 3 (Operand.tmp 60) (Operand.tmp 62) 3), none, ann0⟩,
  ⟨(some 64), (Op.move (Operand.tmp 63)), none, ann0⟩,
  ⟨(some 65), (Op.fieldAddr 92 (Operand.tmp 2) 1), (some (64, true)), ann0⟩,
  ⟨(some 66), (Op.load 3 (Operand.tmp 65)), (some (64, true)), ann0⟩,
  ⟨(some 67), (Op.fieldAddr 92 (Operand.tmp 3) 1), (some (64, true)), ann0⟩,
  ⟨(some 68), (Op.load 3 (Operand.tmp 67)), (some (64, true)), ann0⟩,
  ⟨(some 69), (Op.binOp BinOp.eql 3 (Operand.tmp 66) (Operand.tmp 68) 3), (some (64, true)), ann0⟩,
  ⟨(some 70), (Op.pick (Operand.tmp 64) (Operand.tmp 69) (Operand.const (Value.bool false))), none, ann0⟩,
  ⟨(some 71), (Op.move (Operand.tmp 70)), none, ann0⟩,
  ⟨(some 72), (Op.fieldAddr 92 (Operand.tmp 2) 2), (some (71, true)), ann0⟩,
  ⟨(some 73), (Op.load 3 (Operand.tmp 72)), (some (71, true)), ann0⟩,
  ⟨(some 74), (Op.fieldAddr 92 (Operand.tmp 3) 2), (some (71, true)), ann0⟩,
  ⟨(some 75), (Op.load 3 (Operand.tmp 74)), (some (71, true)), ann0⟩,
  ⟨(some 76), (Op.binOp BinOp.eql 3 (Operand.tmp 73) (Operand.tmp 75) 3), (some (71, true)), ann0⟩,
  ⟨(some 77), (Op.pick (Operand.tmp 71) (Operand.tmp 76) (Operand.const (Value.bool false))), none, ann0⟩,
  ⟨(some 78), (Op.move (Operand.tmp 77)), none, ann0⟩,
  ⟨(some 79), (Op.fieldAddr 92 (Operand.tmp 2) 3), (some (78, true)), ann0⟩,
  ⟨(some 80), (Op.load 3 (Operand.tmp 79)), (some (78, true)), ann0⟩,
  ⟨(some 81), (Op.fieldAddr 92 (Operand.tmp 3) 3), (some (78, true)), ann0⟩,
  ⟨(some 82), (Op.load 3 (Operand.tmp 81)), (some (78, true)), ann0⟩,
  ⟨(some 83), (Op.binOp BinOp.eql 3 (Operand.tmp 80) (Operand.tmp 82) 3), (some (78, true)), ann0⟩,
  ⟨(some 84), (Op.pick (Operand.tmp 78) (Operand.tmp 83) (Operand.const (Value.bool false))), none, ann0⟩,
  ⟨(some 85), (Op.move (Operand.tmp 84)), none, ann0⟩,
  ⟨(some 86), (Op.fieldAddr 92 (Operand.tmp 2) 4), (some (85, true)), ann0⟩,
  ⟨(some 87), (Op.load 3 (Operand.tmp 86)), (some (85, true)), ann0⟩,
  ⟨(some 88), (Op.fieldAddr 92 (Operand.tmp 3) 4), (some (85, true)), ann0⟩,
  ⟨(some 89), (Op.load 3 (Operand.tmp 88)), (some (85, true)), ann0⟩,
  ⟨(some 90), (Op.binOp BinOp.eql 3 (Operand.tmp 87) (Operand.tmp 89) 3), (some (85, true)), ann0⟩,
  ⟨(some 91), (Op.pick (Operand.tmp 85) (Operand.tmp 90) (Operand.const (Value.bool false))), none, ann0⟩,
  ⟨(some 92), (Op.move (Operand.tmp 91)), none, ann0⟩,
  ⟨(some 93), (Op.fieldAddr 92 (Operand.tmp 2) 5), (some (92, true)), ann0⟩,
  ⟨(some 94), (Op.load 3 (Operand.tmp 93)), (some (92, true)), ann0⟩,
  ⟨(some 95), (Op.fieldAddr 92 (Operand.tmp 3) 5), (some (92, true)), ann0⟩,
  ⟨(some 96), (Op.load 3 (Operand.tmp 95)), (some (92, true)), ann0⟩,
  ⟨(some 97), (Op.binOp BinOp.eql 3 (Operand.tmp 94) (Operand.tmp 96) 3), (some (92, true)), ann0⟩,
  ⟨(some 98), (Op.pick (Operand.tmp 92) (Operand.tmp 97) (Operand.const (Value.bool false))), none, ann0⟩,
  ⟨(some 99), (Op.move (Operand.tmp 98)), none, ann0⟩,
  ⟨(some 100), (Op.fieldAddr 92 (Operand.tmp 2) 6), (some (99, true)), ann0⟩,
  ⟨(some 101), (Op.load 9 (Operand.tmp 100)), (some (99, true)), ann0⟩,
  ⟨(some 102), (Op.fieldAddr 92 (Operand.tmp 3) 6), (some (99, true)), ann0⟩,
  ⟨(some 103), (Op.load 9 (Operand.tmp 102)), (some (99, true)), ann0⟩,
  ⟨(some 104), (Op.binOp BinOp.eql 9 (Operand.tmp 101) (Operand.tmp 103) 9), (some (99, true)), ann0⟩,
  ⟨(some 105), (Op.pick (Operand.tmp 99) (Operand.tmp 104) (Operand.const (Value.bool false))), none, ann0⟩,
  ⟨(some 106), (Op.move (Operand.tmp 105)), none, ann0⟩,
  ⟨(some 107), (Op.fieldAddr 92 (Operand.tmp 2) 7), (some (106, true)), ann0⟩,
  ⟨(some 108), (Op.load 9 (Operand.tmp 107)), (some (106, true)), ann0⟩,
  ⟨(some 109), (Op.fieldAddr 92 (Operand.tmp 3) 7), (some (106, true)), ann0⟩,
  ⟨(some 110), (Op.load 9 (Operand.tmp 109)), (some (106, true)), ann0⟩,
  ⟨(some 111), (Op.binOp BinOp.eql 9 (Operand.tmp 108) (Operand.tmp 110) 9), (some (106, true)), ann0⟩,
  ⟨(some 112), (Op.pick (Operand.tmp 106) (Operand.tmp 111) (Operand.const (Value.bool false))), none, ann0⟩,
  ⟨(some 113), (Op.move (Operand.tmp 112)), none, ann0⟩,
  ⟨(some 114), (Op.fieldAddr 92 (Operand.tmp 2) 8), (some (113, true)), ann0⟩,
  ⟨(some 115), (Op.load 9 (Operand.tmp 114)), (some (113, true)), ann0⟩,
  ⟨(some 116), (Op.fieldAddr 92 (Operand.tmp 3) 8), (some (113, true)), ann0⟩,
  ⟨(some 117), (Op.load 9 (Operand.tmp 116)), (some (113, true)), ann0⟩,
  ⟨(some 118), (Op.binOp BinOp.eql 9 (Operand.tmp 115) (Operand.tmp 117) 9), (some (113, true)), ann0⟩,
  ⟨(some 119), (Op.pick (Operand.tmp 113) (Operand.tmp 118) (Operand.const (Value.bool false))), none, ann0⟩,
  ⟨(some 120), (Op.move (Operand.tmp 119)), none, ann0⟩,
  ⟨(some 121), (Op.fieldAddr 92 (Operand.tmp 2) 9), (some (120, true)), ann0⟩,
  ⟨(some 122), (Op.load 3 (Operand.tmp 121)), (some (120, true)), ann0⟩,
  ⟨(some 123), (Op.fieldAddr 92 (Operand.tmp 3) 9), (some (120, true)), ann0⟩,
  ⟨(some 124), (Op.load 3 (Operand.tmp 123)), (some (120, true)), ann0⟩,
  ⟨(some 125), (Op.binOp BinOp.eql 3 (Operand.tmp 122) (Operand.tmp 124) 3), (some (120, true)), ann0⟩,
  ⟨(some 126), (Op.pick (Operand.tmp 120) (Operand.tmp 125) (Operand.const (Value.bool false))), none, ann0⟩,
  ⟨(some 127), (Op.move (Operand.tmp 126)), none, ann0⟩,
  ⟨(some 128), (Op.fieldAddr 92 (Operand.tmp 2) 10), (some (127, true)), ann0⟩,
  ⟨(some 129), (Op.load 3 (Operand.tmp 128)), (some (127, true)), ann0⟩,
  ⟨(some 130), (Op.fieldAddr 92 (Operand.tmp 3) 10), (some (127, true)), ann0⟩,
  ⟨(some 131), (Op.load 3 (Operand.tmp 130)), (some (127, true)), ann0⟩,
  ⟨(some 132), (Op.binOp BinOp.eql 3 (Operand.tmp 129) (Operand.tmp 131) 3), (some (127, true)), ann0⟩,
  ⟨(some 133), (Op.pick (Operand.tmp 127) (Operand.tmp 132) (Operand.const (Value.bool false))), none, ann0⟩,
  ⟨(some 134), (Op.move (Operand.tmp 133)), none, ann0⟩,
  ⟨(some 135), (Op.fieldAddr 92 (Operand.tmp 2) 11), (some (134, true)), ann0⟩,
  ⟨(some 136), (Op.load 4 (Operand.tmp 135)), (some (134, true)), ann0⟩,
  ⟨(some 137), (Op.fieldAddr 92 (Operand.tmp 3) 11), (some (134, true)), ann0⟩,
  ⟨(some 138), (Op.load 4 (Operand.tmp 137)), (some (134, true)), ann0⟩,
  ⟨(some 139), (Op.binOp BinOp.eql 4 (Operand.tmp 136) (Operand.tmp 138) 4), (some (134, true)), ann0⟩,
  ⟨(some 140), (Op.pick (Operand.tmp 134) (Operand.tmp 139) (Operand.const (Value.bool false))), none, ann0⟩,
  ⟨(some 4), (Op.assign (Operand.tmp 140)), none, ann0⟩] none)
 .ret)))))⟩
theorem F36 (z : Nat) : FOk Try.prog 36 (s36 z) := by unfold FOk; kernel_rfl
def c37_1 (z : Nat) : SC := .post (.seq (.reg [⟨(some 15), (Op.next (Operand.tmp 14) false), none, ann0⟩,
  ⟨(some 16), (Op.extract (Operand.tmp 15) 0), none, ann0⟩] none)
 (.seq (.cond (Operand.tmp 16) .skip
 (.exit 0))
 (.block 1 (.seq (.reg [⟨(some 17), (Op.entry (Operand.tmp 14)), none, ann0⟩,
  ⟨(some 18), (Op.extract (Operand.tmp 17) 0), none, ann0⟩,
  ⟨(some 19), (Op.extract (Operand.tmp 17) 1), none, ann0⟩,
  ⟨(some 6), (Op.alloc 38), none, ⟨1, false, false⟩⟩,
  ⟨(some 7), (Op.alloc 81), none, ⟨1, false, false⟩⟩,
  ⟨none, (Op.store 38 (Operand.tmp 6) (Operand.tmp 18)), none, ann0⟩,
  ⟨none, (Op.store 81 (Operand.tmp 7) (Operand.tmp 19)), none, ann0⟩] none)
 (.seq (.post (.reg [⟨(some 20), (Op.move (Operand.tmp 1)), none, ann0⟩,
  ⟨(some 21), (Op.load 81 (Operand.tmp 7)), none, ann0⟩,
  ⟨(some 22), (Op.call { callee := (Callee.value (Operand.tmp 20)), args := #[(Operand.tmp 21)], argTypes := #[81] }), none, ann0⟩] none) (.tidy [1, 2, 5, 6, 14, 22] z (z + 5)))
 (.cond (Operand.tmp 22) (.reg [⟨(some 23), (Op.move (Operand.tmp 5)), none, ann0⟩,
  ⟨(some 24), (Op.load 38 (Operand.tmp 6)), none, ann0⟩,
  ⟨(some 25), (Op.buildSlice 49 1 #[(0, (Operand.tmp 24))]), none, ⟨1, true, false⟩⟩,
  ⟨(some 26), (Op.call { callee := (Callee.builtin Builtin.append), args := #[(Operand.tmp 23), (Operand.tmp 25)], argTypes := #[49, 49] }), none, ann0⟩,
  ⟨(some 5), (Op.assign (Operand.tmp 26)), none, ann0⟩] none)
 .skip)))))) (.tidy [1, 2, 5, 14] z (z + 3))
def s37_1 (z : Nat) : SC := c37_1 z
theorem e37_1 {C : Pg} {z : Nat} {st : St} {ks : List Fr} {K : Ex → St → Prop} : wpk C (s37_1 z) st ks K ↔ wpk C (c37_1 z) st ks K := Iff.rfl
def s37 (z : Nat) : SFn := ⟨2, 31, [(ResultVar.tmp 4)],
 (.post (.seq (.reg [⟨(some 2), (Op.box 27 (Operand.tmp 0)), none, ⟨1, false, false⟩⟩,
  ⟨(some 4), (Op.assign (Operand.const (Value.slice none 0 0))), none, ann0⟩] none)
 (.seq (.seq (.reg [⟨(some 8), (Op.load 27 (Operand.tmp 2)), none, ann0⟩,
  ⟨(some 9), (Op.binOp BinOp.eql 27 (Operand.tmp 8) (Operand.const (Value.pointer none)) 27), none, ann0⟩] none)
 (.cond (Operand.tmp 9) (.seq (.reg [⟨(some 4), (Op.assign (Operand.const (Value.slice none 0 0))), none, ann0⟩] none)
 .ret)
 .skip))
 (.seq (.post (.reg [⟨(some 5), (Op.assign (Operand.const (Value.slice none 0 0))), none, ann0⟩] none) (.mkv 5 38 2))
 (.seq (.post (.seq (.post (.reg [⟨(some 10), (Op.load 27 (Operand.tmp 2)), none, ann0⟩,
  ⟨(some 11), (Op.nilCheck (Operand.tmp 10)), none, ann0⟩,
  ⟨(some 12), (Op.fieldAddr 79 (Operand.tmp 11) 1), none, ann0⟩,
  ⟨(some 13), (Op.load 76 (Operand.tmp 12)), none, ann0⟩,
  ⟨(some 14), (Op.range 76 (Operand.tmp 13)), none, ⟨1, false, false⟩⟩] none) (.tidy [1, 2, 5, 14] z (z + 3)))
 (.post (.block 0 (.pre (.tidy [1, 2, 5, 14] z (z + 3)) (.loop (s37_1 z)))) (.tidy [2, 5] z (z + 3)))) (.tidy [2, 5] z (z + 3)))
 (.seq (.reg [⟨(some 27), (Op.move (Operand.tmp 5)), none, ann0⟩,
  ⟨(some 28), (Op.makeFunc (Fn.func 60) #[] #[(Operand.tmp 2)]), none, ann0⟩,
  ⟨(some 29), (Op.call { callee := (Callee.value (Operand.func 59)), args := #[(Operand.tmp 27), (Operand.tmp 28)], argTypes := #[49, 122] }), none, ann0⟩] none)
 (.seq (.reg [⟨(some 30), (Op.move (Operand.tmp 5)), none, ann0⟩,
  ⟨(some 4), (Op.assign (Operand.tmp 30)), none, ann0⟩] none)
 .ret)))))) (.frz 4))⟩
theorem F37 (z : Nat) : FOk Try.prog 37 (s37 z) := by unfold FOk; kernel_rfl
def s38 (z : Nat) : SFn := ⟨1, 6, [(ResultVar.tmp 2)],
 (.seq (.reg [⟨(some 1), (Op.box 81 (Operand.tmp 0)), none, ⟨1, false, false⟩⟩,
  ⟨(some 2), (Op.assign (Operand.const (Value.bool false))), none, ann0⟩] none)
 (.seq (.reg [⟨(some 3), (Op.fieldAddr 81 (Operand.tmp 1) 2), none, ann0⟩,
  ⟨(some 4), (Op.load 3 (Operand.tmp 3)), none, ann0⟩,
  ⟨(some 5), (Op.binOp BinOp.eql 3 (Operand.tmp 4) (Operand.const (Value.int IntKind.i64 0)) 3), none, ann0⟩,
  ⟨(some 2), (Op.assign (Operand.tmp 5)), none, ann0⟩] none)
 .ret))⟩
theorem F38 (z : Nat) : FOk Try.prog 38 (s38 z) := by unfold FOk; kernel_rfl
def s39 (z : Nat) : SFn := ⟨2, 14, [],
 (.seq (.reg [⟨(some 5), (Op.move (Operand.tmp 0)), none, ann0⟩,
  ⟨(some 6), (Op.call { callee := (Callee.builtin Builtin.len), args := #[(Operand.tmp 5)], argTypes := #[51] }), none, ann0⟩,
  ⟨(some 4), (Op.assign (Operand.tmp 6)), none, ann0⟩] none)
 (.reg [⟨(some 7), (Op.move (Operand.tmp 0)), none, ann0⟩,
  ⟨(some 8), (Op.move (Operand.tmp 4)), none, ann0⟩,
  ⟨(some 9), (Op.move (Operand.tmp 4)), none, ann0⟩,
  ⟨(some 10), (Op.convert 3 125 (Operand.tmp 9)), none, ann0⟩,
  ⟨(some 11), (Op.call { callee := (Callee.value (Operand.func 62)), args := #[(Operand.tmp 10)], argTypes := #[125] }), none, ann0⟩,
  ⟨(some 12), (Op.move (Operand.tmp 1)), none, ann0⟩,
  ⟨(some 13), (Op.call { callee := (Callee.value (Operand.func 61)), args := #[(Operand.tmp 7), (Operand.const (Value.int IntKind.i64 0)), (Operand.tmp 8), (Operand.tmp 11), (Operand.tmp 12)], argTypes := #[51, 3, 3, 3, 97] }), none, ann0⟩] none))⟩
theorem F39 (z : Nat) : FOk Try.prog 39 (s39 z) := by unfold FOk; kernel_rfl
def s40 (z : Nat) : SFn := ⟨2, 10, [(ResultVar.tmp 4)],
 (.seq (.reg [⟨(some 2), (Op.box 40 (Operand.tmp 0)), none, ⟨1, false, false⟩⟩,
  ⟨(some 3), (Op.box 40 (Operand.tmp 1)), none, ⟨1, false, false⟩⟩,
  ⟨(some 4), (Op.assign (Operand.const (Value.int IntKind.i64 0))), none, ann0⟩] none)
 (.seq (.reg [⟨(some 5), (Op.fieldAddr 40 (Operand.tmp 2) 0), none, ann0⟩,
  ⟨(some 6), (Op.load 3 (Operand.tmp 5)), none, ann0⟩,
  ⟨(some 7), (Op.fieldAddr 40 (Operand.tmp 3) 0), none, ann0⟩,
  ⟨(some 8), (Op.load 3 (Operand.tmp 7)), none, ann0⟩,
  ⟨(some 9), (Op.call { callee := (Callee.value (Operand.func 41)), args := #[(Operand.tmp 6), (Operand.tmp 8)], argTypes := #[3, 3] }), none, ann0⟩,
  ⟨(some 4), (Op.assign (Operand.tmp 9)), none, ann0⟩] none)
 .ret))⟩
theorem F40 (z : Nat) : FOk Try.prog 40 (s40 z) := by unfold FOk; kernel_rfl
end Go.Proofs.YtdgpipoffcajgaaV
