/- Functions' code, with notes for the interpreter, and the facts that it is the program's: made by a program. -/
import Derived.Test.YteidaaobppjlbaaVC
import Derived.Test.YteidaaobppjlbaaProg
import Derived.KernelRfl
set_option linter.unusedVariables false
namespace Go.Proofs.YteidaaobppjlbaaV
open Go.RowKit

def s65 (z : Nat) : SFn := ⟨1, 6, [(ResultVar.tmp 2)],
 (.seq (.reg [⟨(some 2), (Op.assign (Operand.const (Value.bool false))), none, ann0⟩] none)
 (.seq (.reg [⟨(some 3), (Op.move (Operand.tmp 0)), none, ann0⟩,
  ⟨(some 4), (Op.move (Operand.tmp 0)), none, ann0⟩,
  ⟨(some 5), (Op.binOp BinOp.neq 3 (Operand.tmp 3) (Operand.tmp 4) 3), none, ann0⟩,
  ⟨(some 2), (Op.assign (Operand.tmp 5)), none, ann0⟩] none)
 .ret))⟩
theorem F65 (z : Nat) : FOk Try.prog 65 (s65 z) := by unfold FOk; kernel_rfl
def s66 (z : Nat) : SFn := ⟨1, 6, [(ResultVar.tmp 2)],
 (.seq (.reg [⟨(some 2), (Op.assign (Operand.const (Value.bool false))), none, ann0⟩] none)
 (.seq (.reg [⟨(some 3), (Op.move (Operand.tmp 0)), none, ann0⟩,
  ⟨(some 4), (Op.move (Operand.tmp 0)), none, ann0⟩,
  ⟨(some 5), (Op.binOp BinOp.neq 9 (Operand.tmp 3) (Operand.tmp 4) 9), none, ann0⟩,
  ⟨(some 2), (Op.assign (Operand.tmp 5)), none, ann0⟩] none)
 .ret))⟩
theorem F66 (z : Nat) : FOk Try.prog 66 (s66 z) := by unfold FOk; kernel_rfl
def s41 (z : Nat) : SFn := ⟨2, 20, [(ResultVar.tmp 4)],
 (.seq (.reg [⟨(some 4), (Op.assign (Operand.const (Value.int IntKind.i64 0))), none, ann0⟩] none)
 (.seq (.reg [⟨(some 7), (Op.move (Operand.tmp 0)), none, ann0⟩,
  ⟨(some 8), (Op.call { callee := (Callee.value (Operand.func 65)), args := #[(Operand.tmp 7)], argTypes := #[3] }), none, ann0⟩,
  ⟨(some 5), (Op.assign (Operand.tmp 8)), none, ann0⟩] none)
 (.seq (.reg [⟨(some 9), (Op.move (Operand.tmp 1)), none, ann0⟩,
  ⟨(some 10), (Op.call { callee := (Callee.value (Operand.func 65)), args := #[(Operand.tmp 9)], argTypes := #[3] }), none, ann0⟩,
  ⟨(some 6), (Op.assign (Operand.tmp 10)), none, ann0⟩] none)
 (.seq (.seq (.reg [⟨(some 11), (Op.move (Operand.tmp 5)), none, ann0⟩] none)
 (.cond (Operand.tmp 11) (.seq (.post (.seq (.reg [⟨(some 12), (Op.move (Operand.tmp 6)), none, ann0⟩] none)
 (.cond (Operand.tmp 12) (.seq (.reg [⟨(some 4), (Op.assign (Operand.const (Value.int IntKind.i64 0))), none, ann0⟩] none)
 .ret)
 .skip)) (.tidy [] z (z + 0)))
 (.seq (.reg [⟨(some 4), (Op.assign (Operand.const (Value.int IntKind.i64 (-1)))), none, ann0⟩] none)
 .ret))
 .skip))
 (.seq (.seq (.reg [⟨(some 13), (Op.move (Operand.tmp 6)), none, ann0⟩] none)
 (.cond (Operand.tmp 13) (.seq (.reg [⟨(some 4), (Op.assign (Operand.const (Value.int IntKind.i64 1))), none, ann0⟩] none)
 .ret)
 .skip))
 (.seq (.seq (.post (.reg [⟨(some 14), (Op.move (Operand.tmp 0)), none, ann0⟩,
  ⟨(some 15), (Op.move (Operand.tmp 1)), none, ann0⟩,
  ⟨(some 16), (Op.binOp BinOp.lss 3 (Operand.tmp 14) (Operand.tmp 15) 3), none, ann0⟩] none) (.tidy [0, 1, 16] z (z + 0)))
 (.cond (Operand.tmp 16) (.seq (.reg [⟨(some 4), (Op.assign (Operand.const (Value.int IntKind.i64 (-1)))), none, ann0⟩] none)
 .ret)
 .skip))
 (.seq (.seq (.post (.reg [⟨(some 17), (Op.move (Operand.tmp 0)), none, ann0⟩,
  ⟨(some 18), (Op.move (Operand.tmp 1)), none, ann0⟩,
  ⟨(some 19), (Op.binOp BinOp.gtr 3 (Operand.tmp 17) (Operand.tmp 18) 3), none, ann0⟩] none) (.tidy [19] z (z + 0)))
 (.cond (Operand.tmp 19) (.seq (.reg [⟨(some 4), (Op.assign (Operand.const (Value.int IntKind.i64 1))), none, ann0⟩] none)
 .ret)
 .skip))
 (.seq (.reg [⟨(some 4), (Op.assign (Operand.const (Value.int IntKind.i64 0))), none, ann0⟩] none)
 .ret))))))))⟩
theorem F41 (z : Nat) : FOk Try.prog 41 (s41 z) := by unfold FOk; kernel_rfl
def s42 (z : Nat) : SFn := ⟨2, 20, [(ResultVar.tmp 4)],
 (.seq (.reg [⟨(some 4), (Op.assign (Operand.const (Value.int IntKind.i64 0))), none, ann0⟩] none)
 (.seq (.reg [⟨(some 7), (Op.move (Operand.tmp 0)), none, ann0⟩,
  ⟨(some 8), (Op.call { callee := (Callee.value (Operand.func 66)), args := #[(Operand.tmp 7)], argTypes := #[9] }), none, ann0⟩,
  ⟨(some 5), (Op.assign (Operand.tmp 8)), none, ann0⟩] none)
 (.seq (.reg [⟨(some 9), (Op.move (Operand.tmp 1)), none, ann0⟩,
  ⟨(some 10), (Op.call { callee := (Callee.value (Operand.func 66)), args := #[(Operand.tmp 9)], argTypes := #[9] }), none, ann0⟩,
  ⟨(some 6), (Op.assign (Operand.tmp 10)), none, ann0⟩] none)
 (.seq (.seq (.reg [⟨(some 11), (Op.move (Operand.tmp 5)), none, ann0⟩] none)
 (.cond (Operand.tmp 11) (.seq (.post (.seq (.reg [⟨(some 12), (Op.move (Operand.tmp 6)), none, ann0⟩] none)
 (.cond (Operand.tmp 12) (.seq (.reg [⟨(some 4), (Op.assign (Operand.const (Value.int IntKind.i64 0))), none, ann0⟩] none)
 .ret)
 .skip)) (.tidy [] z (z + 0)))
 (.seq (.reg [⟨(some 4), (Op.assign (Operand.const (Value.int IntKind.i64 (-1)))), none, ann0⟩] none)
 .ret))
 .skip))
 (.seq (.seq (.reg [⟨(some 13), (Op.move (Operand.tmp 6)), none, ann0⟩] none)
 (.cond (Operand.tmp 13) (.seq (.reg [⟨(some 4), (Op.assign (Operand.const (Value.int IntKind.i64 1))), none, ann0⟩] none)
 .ret)
 .skip))
 (.seq (.seq (.post (.reg [⟨(some 14), (Op.move (Operand.tmp 0)), none, ann0⟩,
  ⟨(some 15), (Op.move (Operand.tmp 1)), none, ann0⟩,
  ⟨(some 16), (Op.binOp BinOp.lss 9 (Operand.tmp 14) (Operand.tmp 15) 9), none, ann0⟩] none) (.tidy [0, 1, 16] z (z + 0)))
 (.cond (Operand.tmp 16) (.seq (.reg [⟨(some 4), (Op.assign (Operand.const (Value.int IntKind.i64 (-1)))), none, ann0⟩] none)
 .ret)
 .skip))
 (.seq (.seq (.post (.reg [⟨(some 17), (Op.move (Operand.tmp 0)), none, ann0⟩,
  ⟨(some 18), (Op.move (Operand.tmp 1)), none, ann0⟩,
  ⟨(some 19), (Op.binOp BinOp.gtr 9 (Operand.tmp 17) (Operand.tmp 18) 9), none, ann0⟩] none) (.tidy [19] z (z + 0)))
 (.cond (Operand.tmp 19) (.seq (.reg [⟨(some 4), (Op.assign (Operand.const (Value.int IntKind.i64 1))), none, ann0⟩] none)
 .ret)
 .skip))
 (.seq (.reg [⟨(some 4), (Op.assign (Operand.const (Value.int IntKind.i64 0))), none, ann0⟩] none)
 .ret))))))))⟩
theorem F42 (z : Nat) : FOk Try.prog 42 (s42 z) := by unfold FOk; kernel_rfl
def c40_1 (z : Nat) : SC := .post (.seq (.reg [⟨(some 9), (Op.binOp BinOp.lss 3 (Operand.tmp 8) (Operand.tmp 7) 3), none, ann0⟩] none)
 (.seq (.cond (Operand.tmp 9) .skip
 (.exit 0))
 (.seq (.post (.block 1 (.seq (.reg [⟨(some 10), (Op.indexAddr 54 (Operand.tmp 6) (Operand.tmp 8)), none, ann0⟩,
  ⟨(some 11), (Op.load 3 (Operand.tmp 10)), none, ann0⟩,
  ⟨(some 5), (Op.assign (Operand.tmp 11)), none, ann0⟩] none)
 (.seq (.reg [⟨(some 12), (Op.move (Operand.tmp 5)), none, ann0⟩,
  ⟨(some 13), (Op.move (Operand.tmp 3)), none, ann0⟩,
  ⟨(some 14), (Op.binOp BinOp.neq 3 (Operand.tmp 12) (Operand.tmp 13) 3), none, ann0⟩] none)
 (.cond (Operand.tmp 14) (.seq (.reg [⟨(some 15), (Op.move (Operand.tmp 5)), none, ann0⟩,
  ⟨(some 2), (Op.assign (Operand.tmp 15)), none, ann0⟩] none)
 .ret)
 .skip)))) (.tidy [3, 6, 7, 8] z (z + 0)))
 (.reg [⟨(some 16), (Op.binOp BinOp.add 3 (Operand.tmp 8) (Operand.const (Value.int IntKind.i64 1)) 3), none, ann0⟩,
  ⟨(some 8), (Op.move (Operand.tmp 16)), none, ann0⟩] none)))) (.tidy [3, 6, 7, 8] z (z + 0))
def s40_1 (z : Nat) : SC := c40_1 z
theorem e40_1 {C : Pg} {z : Nat} {st : St} {ks : List Fr} {K : Ex → St → Prop} : wpk C (s40_1 z) st ks K ↔ wpk C (c40_1 z) st ks K := Iff.rfl
def s40 (z : Nat) : SFn := ⟨1, 18, [(ResultVar.tmp 2)],
 (.seq (.reg [⟨(some 2), (Op.assign (Operand.const (Value.int IntKind.i64 0))), none, ann0⟩] none)
 (.seq (.reg [⟨(some 3), (Op.assign (Operand.const (Value.int IntKind.i64 0))), none, ann0⟩] none)
 (.seq (.post (.seq (.reg [⟨(some 6), (Op.move (Operand.tmp 0)), none, ann0⟩,
  ⟨(some 7), (Op.call { callee := (Callee.builtin Builtin.len), args := #[(Operand.tmp 6)], argTypes := #[54] }), none, ann0⟩,
  ⟨(some 8), (Op.move (Operand.const (Value.int IntKind.i64 0))), none, ann0⟩] none)
 (.post (.block 0 (.pre (.tidy [3, 6, 7, 8] z (z + 0)) (.loop (s40_1 z)))) (.tidy [3] z (z + 0)))) (.tidy [3] z (z + 0)))
 (.seq (.reg [⟨(some 17), (Op.move (Operand.tmp 3)), none, ann0⟩,
  ⟨(some 2), (Op.assign (Operand.tmp 17)), none, ann0⟩] none)
 .ret))))⟩
theorem F40 (z : Nat) : FOk Try.prog 40 (s40 z) := by unfold FOk; kernel_rfl
def s15 (z : Nat) : SFn := ⟨2, 37, [(ResultVar.tmp 4)],
 (.seq (.reg [⟨(some 2), (Op.box 26 (Operand.tmp 0)), none, ⟨1, false, false⟩⟩,
  ⟨(some 3), (Op.box 26 (Operand.tmp 1)), none, ⟨1, false, false⟩⟩,
  ⟨(some 4), (Op.assign (Operand.const (Value.int IntKind.i64 0))), none, ann0⟩] none)
 (.seq (.reg [⟨(some 5), (Op.fieldAddr 26 (Operand.tmp 2) 2), none, ann0⟩,
  ⟨(some 6), (Op.load 3 (Operand.tmp 5)), none, ann0⟩,
  ⟨(some 7), (Op.fieldAddr 26 (Operand.tmp 3) 2), none, ann0⟩,
  ⟨(some 8), (Op.load 3 (Operand.tmp 7)), none, ann0⟩,
  ⟨(some 9), (Op.call { callee := (Callee.value (Operand.func 41)), args := #[(Operand.tmp 6), (Operand.tmp 8)], argTypes := #[3, 3] }), none, ann0⟩,
  ⟨(some 10), (Op.fieldAddr 26 (Operand.tmp 2) 0), none, ann0⟩,
  ⟨(some 11), (Op.load 3 (Operand.tmp 10)), none, ann0⟩,
  ⟨(some 12), (Op.fieldAddr 26 (Operand.tmp 3) 0), none, ann0⟩,
  ⟨(some 13), (Op.load 3 (Operand.tmp 12)), none, ann0⟩,
  ⟨(some 14), (Op.call { callee := (Callee.value (Operand.func 41)), args := #[(Operand.tmp 11), (Operand.tmp 13)], argTypes := #[3, 3] }), none, ann0⟩,
  ⟨(some 15), (Op.fieldAddr 26 (Operand.tmp 2) 1), none, ann0⟩,
  ⟨(some 16), (Op.load 3 (Operand.tmp 15)), none, ann0⟩,
  ⟨(some 17), (Op.fieldAddr 26 (Operand.tmp 3) 1), none, ann0⟩,
  ⟨(some 18), (Op.load 3 (Operand.tmp 17)), none, ann0⟩,
  ⟨(some 19), (Op.call { callee := (Callee.value (Operand.func 41)), args := #[(Operand.tmp 16), (Operand.tmp 18)], argTypes := #[3, 3] }), none, ann0⟩,
  ⟨(some 20), (Op.fieldAddr 26 (Operand.tmp 2) 3), none, ann0⟩,
  ⟨(some 21), (Op.load 9 (Operand.tmp 20)), none, ann0⟩,
  ⟨(some 22), (Op.fieldAddr 26 (Operand.tmp 3) 3), none, ann0⟩,
  ⟨(some 23), (Op.load 9 (Operand.tmp 22)), none, ann0⟩,
  ⟨(some 24), (Op.call { callee := (Callee.value (Operand.func 42)), args := #[(Operand.tmp 21), (Operand.tmp 23)], argTypes := #[9, 9] }), none, ann0⟩,
  ⟨(some 25), (Op.fieldAddr 26 (Operand.tmp 2) 4), none, ann0⟩,
  ⟨(some 26), (Op.load 9 (Operand.tmp 25)), none, ann0⟩,
  ⟨(some 27), (Op.fieldAddr 26 (Operand.tmp 3) 4), none, ann0⟩,
  ⟨(some 28), (Op.load 9 (Operand.tmp 27)), none, ann0⟩,
  ⟨(some 29), (Op.call { callee := (Callee.value (Operand.func 42)), args := #[(Operand.tmp 26), (Operand.tmp 28)], argTypes := #[9, 9] }), none, ann0⟩,
  ⟨(some 30), (Op.fieldAddr 26 (Operand.tmp 2) 5), none, ann0⟩,
  ⟨(some 31), (Op.load 9 (Operand.tmp 30)), none, ann0⟩,
  ⟨(some 32), (Op.fieldAddr 26 (Operand.tmp 3) 5), none, ann0⟩,
  ⟨(some 33), (Op.load 9 (Operand.tmp 32)), none, ann0⟩,
  ⟨(some 34), (Op.call { callee := (Callee.value (Operand.func 42)), args := #[(Operand.tmp 31), (Operand.tmp 33)], argTypes := #[9, 9] }), none, ann0⟩,
  ⟨(some 35), (Op.buildSlice 54 6 #[(0, (Operand.tmp 9)), (1, (Operand.tmp 14)), (2, (Operand.tmp 19)), (3, (Operand.tmp 24)), (4, (Operand.tmp 29)), (5, (Operand.tmp 34))]), none, ⟨1, true, false⟩⟩,
  ⟨(some 36), (Op.call { callee := (Callee.value (Operand.func 40)), args := #[(Operand.tmp 35)], argTypes := #[54] }), none, ann0⟩,
  ⟨(some 4), (Op.assign (Operand.tmp 36)), none, ann0⟩] (some [0, 1, 0, 4, 15, 0, 32, 0, 128, 511, 0, 1024, 0, 4096, 16383, 0, 32768, 0, 131072, 524287, 0, 1048576, 0, 4194304, 16777215, 0, 33554432, 0, 134217728, 536870911, 1073741823, 2147483647, 4294967295]))
 .ret))⟩
theorem F15 (z : Nat) : FOk Try.prog 15 (s15 z) := by unfold FOk; kernel_rfl
def c67_1 (z : Nat) : SC := .post (.seq (.reg [⟨(some 11), (Op.binOp BinOp.lss 3 (Operand.tmp 10) (Operand.tmp 9) 3), none, ann0⟩] none)
 (.seq (.cond (Operand.tmp 11) .skip
 (.exit 0))
 (.seq (.post (.block 1 (.seq (.reg [⟨(some 12), (Op.move (Operand.tmp 10)), none, ann0⟩,
  ⟨(some 7), (Op.assign (Operand.tmp 12)), none, ann0⟩] none)
 (.seq (.post (.reg [⟨(some 13), (Op.move (Operand.tmp 0)), none, ann0⟩,
  ⟨(some 14), (Op.move (Operand.tmp 7)), none, ann0⟩,
  ⟨(some 15), (Op.index 9 (Operand.tmp 13) (Operand.tmp 14)), none, ann0⟩,
  ⟨(some 16), (Op.move (Operand.tmp 1)), none, ann0⟩,
  ⟨(some 17), (Op.binOp BinOp.lss 5 (Operand.tmp 15) (Operand.tmp 16) 5), none, ann0⟩,
  ⟨(some 18), (Op.move (Operand.tmp 17)), none, ann0⟩,
  ⟨(some 19), (Op.move (Operand.tmp 0)), (some (18, false)), ann0⟩,
  ⟨(some 20), (Op.move (Operand.tmp 7)), (some (18, false)), ann0⟩,
  ⟨(some 21), (Op.index 9 (Operand.tmp 19) (Operand.tmp 20)), (some (18, false)), ann0⟩,
  ⟨(some 22), (Op.move (Operand.tmp 2)), (some (18, false)), ann0⟩,
  ⟨(some 23), (Op.binOp BinOp.gtr 5 (Operand.tmp 21) (Operand.tmp 22) 5), (some (18, false)), ann0⟩,
  ⟨(some 24), (Op.pick (Operand.tmp 18) (Operand.const (Value.bool true)) (Operand.tmp 23)), none, ann0⟩] none) (.tidy [0, 1, 2, 9, 10, 24] z (z + 0)))
 (.cond (Operand.tmp 24) (.seq (.reg [⟨(some 6), (Op.assign (Operand.const (Value.bool false))), none, ann0⟩] none)
 .ret)
 .skip)))) (.tidy [0, 1, 2, 9, 10] z (z + 0)))
 (.reg [⟨(some 25), (Op.binOp BinOp.add 3 (Operand.tmp 10) (Operand.const (Value.int IntKind.i64 1)) 3), none, ann0⟩,
  ⟨(some 10), (Op.move (Operand.tmp 25)), none, ann0⟩] none)))) (.tidy [0, 1, 2, 9, 10] z (z + 0))
def s67_1 (z : Nat) : SC := c67_1 z
theorem e67_1 {C : Pg} {z : Nat} {st : St} {ks : List Fr} {K : Ex → St → Prop} : wpk C (s67_1 z) st ks K ↔ wpk C (c67_1 z) st ks K := Iff.rfl
def s67 (z : Nat) : SFn := ⟨3, 26, [(ResultVar.tmp 6)],
 (.seq (.reg [⟨(some 6), (Op.assign (Operand.const (Value.bool false))), none, ann0⟩] none)
 (.seq (.post (.seq (.reg [⟨(some 8), (Op.move (Operand.tmp 0)), none, ann0⟩,
  ⟨(some 9), (Op.call { callee := (Callee.builtin Builtin.len), args := #[(Operand.tmp 8)], argTypes := #[9] }), none, ann0⟩,
  ⟨(some 10), (Op.move (Operand.const (Value.int IntKind.i64 0))), none, ann0⟩] none)
 (.post (.block 0 (.pre (.tidy [0, 1, 2, 9, 10] z (z + 0)) (.loop (s67_1 z)))) (.tidy [] z (z + 0)))) (.tidy [] z (z + 0)))
 (.seq (.reg [⟨(some 6), (Op.assign (Operand.const (Value.bool true))), none, ann0⟩] none)
 .ret)))⟩
theorem F67 (z : Nat) : FOk Try.prog 67 (s67 z) := by unfold FOk; kernel_rfl
def s46 (z : Nat) : SFn := ⟨1, 14, [(ResultVar.tmp 2)],
 (.seq (.reg [⟨(some 2), (Op.assign (Operand.const (Value.bool false))), none, ann0⟩] none)
 (.seq (.reg [⟨(some 3), (Op.move (Operand.tmp 0)), none, ann0⟩,
  ⟨(some 4), (Op.binOp BinOp.neq 9 (Operand.tmp 3) (Operand.const (Value.string ⟨#[]⟩)) 9), none, ann0⟩,
  ⟨(some 5), (Op.move (Operand.tmp 4)), none, ann0⟩,
  ⟨(some 6), (Op.move (Operand.tmp 0)), (some (5, true)), ann0⟩,
  ⟨(some 7), (Op.call { callee := (Callee.builtin Builtin.len), args := #[(Operand.tmp 6)], argTypes := #[9] }), (some (5, true)), ann0⟩,
  ⟨(some 8), (Op.binOp BinOp.leq 3 (Operand.tmp 7) (Operand.const (Value.int IntKind.i64 64)) 3), (some (5, true)), ann0⟩,
  ⟨(some 9), (Op.pick (Operand.tmp 5) (Operand.tmp 8) (Operand.const (Value.bool false))), none, ann0⟩,
  ⟨(some 10), (Op.move (Operand.tmp 9)), none, ann0⟩,
  ⟨(some 11), (Op.move (Operand.tmp 0)), (some (10, true)), ann0⟩,
  ⟨(some 12), (Op.call { callee := (Callee.value (Operand.func 67)), args := #[(Operand.tmp 11), (Operand.const (Value.int IntKind.u8 33)), (Operand.const (Value.int IntKind.u8 126))], argTypes := #[9, 5, 5] }), (some (10, true)), ann0⟩,
  ⟨(some 13), (Op.pick (Operand.tmp 10) (Operand.tmp 12) (Operand.const (Value.bool false))), none, ann0⟩,
  ⟨(some 2), (Op.assign (Operand.tmp 13)), none, ann0⟩] none)
 .ret))⟩
theorem F46 (z : Nat) : FOk Try.prog 46 (s46 z) := by unfold FOk; kernel_rfl
def s45 (z : Nat) : SFn := ⟨1, 53, [(ResultVar.tmp 2)],
 (.seq (.reg [⟨(some 1), (Op.box 26 (Operand.tmp 0)), none, ⟨1, false, false⟩⟩,
  ⟨(some 2), (Op.assign (Operand.const (Value.int IntKind.i64 0))), none, ann0⟩] none)
 (.seq (.reg [⟨(some 5), (Op.fieldAddr 26 (Operand.tmp 1) 4), none, ann0⟩,
  ⟨(some 6), (Op.load 9 (Operand.tmp 5)), none, ann0⟩,
  ⟨(some 7), (Op.fieldAddr 26 (Operand.tmp 1) 5), none, ann0⟩,
  ⟨(some 8), (Op.load 9 (Operand.tmp 7)), none, ann0⟩,
  ⟨(some 3), (Op.assign (Operand.tmp 6)), none, ann0⟩,
  ⟨(some 4), (Op.assign (Operand.tmp 8)), none, ann0⟩] (some [0, 1, 0, 4, 3, 31]))
 (.seq (.seq (.post (.reg [⟨(some 9), (Op.fieldAddr 26 (Operand.tmp 1) 1), none, ann0⟩,
  ⟨(some 10), (Op.load 3 (Operand.tmp 9)), none, ann0⟩,
  ⟨(some 11), (Op.binOp BinOp.eql 3 (Operand.tmp 10) (Operand.const (Value.int IntKind.i64 1)) 3), none, ann0⟩] none) (.tidy [1, 3, 4, 11] z (z + 1)))
 (.cond (Operand.tmp 11) (.reg [⟨(some 12), (Op.move (Operand.tmp 4)), none, ann0⟩,
  ⟨(some 13), (Op.move (Operand.tmp 3)), none, ann0⟩,
  ⟨(some 3), (Op.assign (Operand.tmp 12)), none, ann0⟩,
  ⟨(some 4), (Op.assign (Operand.tmp 13)), none, ann0⟩] none)
 .skip))
 (.seq (.post (.block 0 (.seq (.post (.reg [⟨(some 15), (Op.fieldAddr 26 (Operand.tmp 1) 0), none, ann0⟩,
  ⟨(some 16), (Op.load 3 (Operand.tmp 15)), none, ann0⟩,
  ⟨(some 17), (Op.binOp BinOp.lss 3 (Operand.tmp 16) (Operand.const (Value.int IntKind.i64 1)) 3), none, ann0⟩,
  ⟨(some 18), (Op.move (Operand.tmp 17)), none, ann0⟩,
  ⟨(some 19), (Op.fieldAddr 26 (Operand.tmp 1) 0), (some (18, false)), ann0⟩,
  ⟨(some 20), (Op.load 3 (Operand.tmp 19)), (some (18, false)), ann0⟩,
  ⟨(some 21), (Op.binOp BinOp.gtr 3 (Operand.tmp 20) (Operand.const (Value.int IntKind.i64 1099511627776)) 3), (some (18, false)), ann0⟩,
  ⟨(some 22), (Op.pick (Operand.tmp 18) (Operand.const (Value.bool true)) (Operand.tmp 21)), none, ann0⟩,
  ⟨(some 14), (Op.assign (Operand.tmp 22)), none, ann0⟩] none) (.tidy [1, 3, 4, 14] z (z + 1)))
 (.cond (Operand.tmp 14) (.seq (.reg [⟨(some 2), (Op.assign (Operand.const (Value.int IntKind.i64 2))), none, ann0⟩] none)
 .ret)
 (.seq (.post (.reg [⟨(some 24), (Op.fieldAddr 26 (Operand.tmp 1) 1), none, ann0⟩,
  ⟨(some 25), (Op.load 3 (Operand.tmp 24)), none, ann0⟩,
  ⟨(some 26), (Op.binOp BinOp.lss 3 (Operand.tmp 25) (Operand.const (Value.int IntKind.i64 1)) 3), none, ann0⟩,
  ⟨(some 27), (Op.move (Operand.tmp 26)), none, ann0⟩,
  ⟨(some 28), (Op.fieldAddr 26 (Operand.tmp 1) 1), (some (27, false)), ann0⟩,
  ⟨(some 29), (Op.load 3 (Operand.tmp 28)), (some (27, false)), ann0⟩,
  ⟨(some 30), (Op.binOp BinOp.gtr 3 (Operand.tmp 29) (Operand.const (Value.int IntKind.i64 3)) 3), (some (27, false)), ann0⟩,
  ⟨(some 31), (Op.pick (Operand.tmp 27) (Operand.const (Value.bool true)) (Operand.tmp 30)), none, ann0⟩,
  ⟨(some 23), (Op.assign (Operand.tmp 31)), none, ann0⟩] none) (.tidy [1, 3, 4, 23] z (z + 1)))
 (.cond (Operand.tmp 23) (.seq (.reg [⟨(some 2), (Op.assign (Operand.const (Value.int IntKind.i64 12))), none, ann0⟩] none)
 .ret)
 (.seq (.post (.reg [⟨(some 33), (Op.fieldAddr 26 (Operand.tmp 1) 2), none, ann0⟩,
  ⟨(some 34), (Op.load 3 (Operand.tmp 33)), none, ann0⟩,
  ⟨(some 35), (Op.binOp BinOp.lss 3 (Operand.tmp 34) (Operand.const (Value.int IntKind.i64 0)) 3), none, ann0⟩,
  ⟨(some 36), (Op.move (Operand.tmp 35)), none, ann0⟩,
  ⟨(some 37), (Op.fieldAddr 26 (Operand.tmp 1) 2), (some (36, false)), ann0⟩,
  ⟨(some 38), (Op.load 3 (Operand.tmp 37)), (some (36, false)), ann0⟩,
  ⟨(some 39), (Op.binOp BinOp.gtr 3 (Operand.tmp 38) (Operand.const (Value.int IntKind.i64 1048576)) 3), (some (36, false)), ann0⟩,
  ⟨(some 40), (Op.pick (Operand.tmp 36) (Operand.const (Value.bool true)) (Operand.tmp 39)), none, ann0⟩,
  ⟨(some 32), (Op.assign (Operand.tmp 40)), none, ann0⟩] none) (.tidy [1, 3, 4, 32] z (z + 1)))
 (.cond (Operand.tmp 32) (.seq (.reg [⟨(some 2), (Op.assign (Operand.const (Value.int IntKind.i64 32))), none, ann0⟩] none)
 .ret)
 (.seq (.reg [⟨(some 42), (Op.fieldAddr 26 (Operand.tmp 1) 3), none, ann0⟩,
  ⟨(some 43), (Op.load 9 (Operand.tmp 42)), none, ann0⟩,
  ⟨(some 44), (Op.call { callee := (Callee.value (Operand.func 46)), args := #[(Operand.tmp 43)], argTypes := #[9] }), none, ann0⟩,
  ⟨(some 45), (Op.unOp UnOp.not 4 (Operand.tmp 44)), none, ann0⟩,
  ⟨(some 41), (Op.assign (Operand.tmp 45)), none, ann0⟩] none)
 (.cond (Operand.tmp 41) (.seq (.reg [⟨(some 2), (Op.assign (Operand.const (Value.int IntKind.i64 11))), none, ann0⟩] none)
 .ret)
 (.seq (.post (.reg [⟨(some 47), (Op.move (Operand.tmp 4)), none, ann0⟩,
  ⟨(some 48), (Op.binOp BinOp.neq 9 (Operand.tmp 47) (Operand.const (Value.string ⟨#[]⟩)) 9), none, ann0⟩,
  ⟨(some 46), (Op.assign (Operand.tmp 48)), none, ann0⟩] none) (.tidy [3, 46] z (z + 1)))
 (.cond (Operand.tmp 46) (.seq (.reg [⟨(some 2), (Op.assign (Operand.const (Value.int IntKind.i64 3))), none, ann0⟩] none)
 .ret)
 (.seq (.reg [⟨(some 50), (Op.move (Operand.tmp 3)), none, ann0⟩,
  ⟨(some 51), (Op.call { callee := (Callee.value (Operand.func 46)), args := #[(Operand.tmp 50)], argTypes := #[9] }), none, ann0⟩,
  ⟨(some 52), (Op.unOp UnOp.not 4 (Operand.tmp 51)), none, ann0⟩,
  ⟨(some 49), (Op.assign (Operand.tmp 52)), none, ann0⟩] none)
 (.cond (Operand.tmp 49) (.seq (.reg [⟨(some 2), (Op.assign (Operand.const (Value.int IntKind.i64 11))), none, ann0⟩] none)
 .ret)
 .skip))))))))))))) (.tidy [] z (z + 1)))
 (.seq (.reg [⟨(some 2), (Op.assign (Operand.const (Value.int IntKind.i64 0))), none, ann0⟩] none)
 .ret)))))⟩
theorem F45 (z : Nat) : FOk Try.prog 45 (s45 z) := by unfold FOk; kernel_rfl
def s58 (z : Nat) : SFn := ⟨1, 10, [(ResultVar.cell 2 116)],
 (.seq (.reg [⟨(some 1), (Op.box 26 (Operand.tmp 0)), none, ⟨1, false, false⟩⟩,
  ⟨(some 2), (Op.alloc 116), none, ⟨1, false, false⟩⟩] none)
 (.seq (.reg [⟨(some 3), (Op.fieldAddr 26 (Operand.tmp 1) 1), none, ann0⟩,
  ⟨(some 4), (Op.load 3 (Operand.tmp 3)), none, ann0⟩,
  ⟨(some 5), (Op.fieldAddr 26 (Operand.tmp 1) 3), none, ann0⟩,
  ⟨(some 6), (Op.load 9 (Operand.tmp 5)), none, ann0⟩,
  ⟨(some 7), (Op.fieldAddr 26 (Operand.tmp 1) 4), none, ann0⟩,
  ⟨(some 8), (Op.load 9 (Operand.tmp 7)), none, ann0⟩,
  ⟨(some 9), (Op.build 116 #[(0, (Operand.tmp 4)), (1, (Operand.tmp 6)), (2, (Operand.tmp 8))]), none, ann0⟩,
  ⟨none, (Op.store 116 (Operand.tmp 2) (Operand.tmp 9)), none, ann0⟩] none)
 .ret))⟩
theorem F58 (z : Nat) : FOk Try.prog 58 (s58 z) := by unfold FOk; kernel_rfl
def c48_1 (z : Nat) : SC := .post (.seq (.reg [⟨(some 20), (Op.binOp BinOp.lss 3 (Operand.tmp 19) (Operand.tmp 18) 3), none, ann0⟩] none)
 (.seq (.cond (Operand.tmp 20) .skip
 (.exit 0))
 (.seq (.post (.block 1 (.seq (.reg [⟨(some 21), (Op.indexAddr 22 (Operand.tmp 17) (Operand.tmp 19)), none, ann0⟩,
  ⟨(some 22), (Op.load 26 (Operand.tmp 21)), none, ann0⟩,
  ⟨(some 7), (Op.alloc 26), none, ⟨1, false, false⟩⟩,
  ⟨none, (Op.store 26 (Operand.tmp 7) (Operand.tmp 22)), none, ann0⟩] none)
 (.seq (.post (.reg [⟨(some 23), (Op.load 26 (Operand.tmp 7)), none, ann0⟩,
  ⟨(some 24), (Op.call { callee := (Callee.value (Operand.func 58)), args := #[(Operand.tmp 23)], argTypes := #[26] }), none, ann0⟩,
  ⟨(some 25), (Op.move (Operand.tmp 0)), none, ann0⟩,
  ⟨(some 26), (Op.move (Operand.tmp 1)), none, ann0⟩,
  ⟨(some 27), (Op.indexAddr 22 (Operand.tmp 25) (Operand.tmp 26)), none, ann0⟩,
  ⟨(some 28), (Op.load 26 (Operand.tmp 27)), none, ann0⟩,
  ⟨(some 29), (Op.call { callee := (Callee.value (Operand.func 58)), args := #[(Operand.tmp 28)], argTypes := #[26] }), none, ann0⟩,
  ⟨(some 30), (Op.binOp BinOp.eql 116 (Operand.tmp 24) (Operand.tmp 29) 116), none, ann0⟩] (some [0, 1, 0, 0, 12, 28, 63, 127])) (.tidy [0, 1, 4, 5, 7, 17, 18, 19, 30] z (z + 3)))
 (.cond (Operand.tmp 30) (.seq (.reg [⟨(some 31), (Op.fieldAddr 26 (Operand.tmp 7) 2), none, ann0⟩,
  ⟨(some 32), (Op.load 3 (Operand.tmp 31)), none, ann0⟩,
  ⟨(some 33), (Op.fieldAddr 37 (Operand.tmp 5) 1), none, ann0⟩,
  ⟨none, (Op.store 3 (Operand.tmp 33) (Operand.tmp 32)), none, ann0⟩] none)
 (.exit 0))
 .skip)))) (.tidy [0, 1, 4, 5, 17, 18, 19] z (z + 3)))
 (.reg [⟨(some 34), (Op.binOp BinOp.add 3 (Operand.tmp 19) (Operand.const (Value.int IntKind.i64 1)) 3), none, ann0⟩,
  ⟨(some 19), (Op.move (Operand.tmp 34)), none, ann0⟩] none)))) (.tidy [0, 1, 4, 5, 17, 18, 19] z (z + 2))
def s48_1 (z : Nat) : SC := c48_1 z
theorem e48_1 {C : Pg} {z : Nat} {st : St} {ks : List Fr} {K : Ex → St → Prop} : wpk C (s48_1 z) st ks K ↔ wpk C (c48_1 z) st ks K := Iff.rfl
def s48 (z : Nat) : SFn := ⟨2, 42, [(ResultVar.cell 4 37)],
 (.seq (.reg [⟨(some 4), (Op.alloc 37), none, ⟨1, false, false⟩⟩] none)
 (.seq (.post (.reg [⟨(some 8), (Op.move (Operand.tmp 0)), none, ann0⟩,
  ⟨(some 9), (Op.move (Operand.tmp 1)), none, ann0⟩,
  ⟨(some 10), (Op.indexAddr 22 (Operand.tmp 8) (Operand.tmp 9)), none, ann0⟩,
  ⟨(some 11), (Op.fieldAddr 26 (Operand.tmp 10) 2), none, ann0⟩,
  ⟨(some 12), (Op.load 3 (Operand.tmp 11)), none, ann0⟩,
  ⟨(some 13), (Op.build 37 #[(0, (Operand.tmp 12)), (1, (Operand.const (Value.int IntKind.i64 1048577)))]), none, ann0⟩,
  ⟨(some 5), (Op.alloc 37), none, ⟨1, false, false⟩⟩,
  ⟨none, (Op.store 37 (Operand.tmp 5) (Operand.tmp 13)), none, ann0⟩] none) (.tidy [0, 1, 4, 5] z (z + 2)))
 (.seq (.post (.seq (.reg [⟨(some 14), (Op.move (Operand.tmp 0)), none, ann0⟩,
  ⟨(some 15), (Op.move (Operand.tmp 1)), none, ann0⟩,
  ⟨(some 16), (Op.binOp BinOp.add 3 (Operand.tmp 15) (Operand.const (Value.int IntKind.i64 1)) 3), none, ann0⟩,
  ⟨(some 17), (Op.slice 22 (Operand.tmp 14) (some (Operand.tmp 16)) none none), none, ann0⟩,
  ⟨(some 18), (Op.call { callee := (Callee.builtin Builtin.len), args := #[(Operand.tmp 17)], argTypes := #[22] }), none, ann0⟩,
  ⟨(some 19), (Op.move (Operand.const (Value.int IntKind.i64 0))), none, ann0⟩] none)
 (.post (.block 0 (.pre (.tidy [0, 1, 4, 5, 17, 18, 19] z (z + 2)) (.loop (s48_1 z)))) (.tidy [4, 5] z (z + 2)))) (.tidy [4, 5] z (z + 2)))
 (.seq (.post (.seq (.reg [⟨(some 35), (Op.fieldAddr 37 (Operand.tmp 5) 0), none, ann0⟩,
  ⟨(some 36), (Op.load 3 (Operand.tmp 35)), none, ann0⟩,
  ⟨(some 37), (Op.fieldAddr 37 (Operand.tmp 5) 1), none, ann0⟩,
  ⟨(some 38), (Op.load 3 (Operand.tmp 37)), none, ann0⟩,
  ⟨(some 39), (Op.binOp BinOp.geq 3 (Operand.tmp 36) (Operand.tmp 38) 3), none, ann0⟩] none)
 (.cond (Operand.tmp 39) (.seq (.reg [⟨(some 40), (Op.build 37 #[]), none, ann0⟩,
  ⟨none, (Op.store 37 (Operand.tmp 4) (Operand.tmp 40)), none, ann0⟩] none)
 .ret)
 .skip)) (.tidy [4, 5] z (z + 2)))
 (.seq (.reg [⟨(some 41), (Op.load 37 (Operand.tmp 5)), none, ann0⟩,
  ⟨none, (Op.store 37 (Operand.tmp 4) (Operand.tmp 41)), none, ann0⟩] none)
 .ret)))))⟩
theorem F48 (z : Nat) : FOk Try.prog 48 (s48 z) := by unfold FOk; kernel_rfl
def s53 (z : Nat) : SFn := ⟨2, 15, [(ResultVar.tmp 4)],
 (.seq (.reg [⟨(some 2), (Op.box 37 (Operand.tmp 0)), none, ⟨1, false, false⟩⟩,
  ⟨(some 4), (Op.assign (Operand.const (Value.bool false))), none, ann0⟩] none)
 (.seq (.reg [⟨(some 5), (Op.fieldAddr 37 (Operand.tmp 2) 0), none, ann0⟩,
  ⟨(some 6), (Op.load 3 (Operand.tmp 5)), none, ann0⟩,
  ⟨(some 7), (Op.move (Operand.tmp 1)), none, ann0⟩,
  ⟨(some 8), (Op.binOp BinOp.leq 3 (Operand.tmp 6) (Operand.tmp 7) 3), none, ann0⟩,
  ⟨(some 9), (Op.move (Operand.tmp 8)), none, ann0⟩,
  ⟨(some 10), (Op.move (Operand.tmp 1)), (some (9, true)), ann0⟩,
  ⟨(some 11), (Op.fieldAddr 37 (Operand.tmp 2) 1), (some (9, true)), ann0⟩,
  ⟨(some 12), (Op.load 3 (Operand.tmp 11)), (some (9, true)), ann0⟩,
  ⟨(some 13), (Op.binOp BinOp.lss 3 (Operand.tmp 10) (Operand.tmp 12) 3), (some (9, true)), ann0⟩,
  ⟨(some 14), (Op.pick (Operand.tmp 9) (Operand.tmp 13) (Operand.const (Value.bool false))), none, ann0⟩,
  ⟨(some 4), (Op.assign (Operand.tmp 14)), none, ann0⟩] none)
 .ret))⟩
theorem F53 (z : Nat) : FOk Try.prog 53 (s53 z) := by unfold FOk; kernel_rfl
def c17_1 (z : Nat) : SC := .post (.seq (.reg [⟨(some 14), (Op.binOp BinOp.lss 3 (Operand.tmp 13) (Operand.tmp 12) 3), none, ann0⟩] none)
 (.seq (.cond (Operand.tmp 14) .skip
 (.exit 0))
 (.seq (.post (.block 1 (.seq (.reg [⟨(some 15), (Op.move (Operand.tmp 13)), none, ann0⟩,
  ⟨(some 16), (Op.indexAddr 22 (Operand.tmp 11) (Operand.tmp 13)), none, ann0⟩,
  ⟨(some 17), (Op.load 26 (Operand.tmp 16)), none, ann0⟩,
  ⟨(some 5), (Op.alloc 26), none, ⟨1, false, false⟩⟩,
  ⟨(some 4), (Op.assign (Operand.tmp 15)), none, ann0⟩,
  ⟨none, (Op.store 26 (Operand.tmp 5) (Operand.tmp 17)), none, ann0⟩] none)
 (.seq (.post (.seq (.post (.reg [⟨(some 18), (Op.load 26 (Operand.tmp 5)), none, ann0⟩,
  ⟨(some 19), (Op.call { callee := (Callee.value (Operand.func 45)), args := #[(Operand.tmp 18)], argTypes := #[26] }), none, ann0⟩,
  ⟨(some 6), (Op.assign (Operand.tmp 19)), none, ann0⟩] none) (.tidy [0, 3, 4, 5, 6, 11, 12, 13] z (z + 2)))
 (.seq (.reg [⟨(some 20), (Op.move (Operand.tmp 6)), none, ann0⟩,
  ⟨(some 21), (Op.binOp BinOp.neq 27 (Operand.tmp 20) (Operand.const (Value.int IntKind.i64 0)) 27), none, ann0⟩] none)
 (.cond (Operand.tmp 21) (.seq (.reg [⟨(some 22), (Op.move (Operand.tmp 6)), none, ann0⟩,
  ⟨(some 2), (Op.assign (Operand.tmp 22)), none, ann0⟩] none)
 .ret)
 .skip))) (.tidy [0, 3, 4, 5, 11, 12, 13] z (z + 2)))
 (.seq (.post (.block 2 (.seq (.post (.reg [⟨(some 24), (Op.move (Operand.tmp 4)), none, ann0⟩,
  ⟨(some 25), (Op.binOp BinOp.gtr 3 (Operand.tmp 24) (Operand.const (Value.int IntKind.i64 0)) 3), none, ann0⟩,
  ⟨(some 26), (Op.move (Operand.tmp 25)), none, ann0⟩,
  ⟨(some 27), (Op.load 26 (Operand.tmp 5)), (some (26, true)), ann0⟩,
  ⟨(some 28), (Op.move (Operand.tmp 0)), (some (26, true)), ann0⟩,
  ⟨(some 29), (Op.move (Operand.tmp 4)), (some (26, true)), ann0⟩,
  ⟨(some 30), (Op.binOp BinOp.sub 3 (Operand.tmp 29) (Operand.const (Value.int IntKind.i64 1)) 3), (some (26, true)), ann0⟩,
  ⟨(some 31), (Op.indexAddr 22 (Operand.tmp 28) (Operand.tmp 30)), (some (26, true)), ann0⟩,
  ⟨(some 32), (Op.load 26 (Operand.tmp 31)), (some (26, true)), ann0⟩,
  ⟨(some 33), (Op.call { callee := (Callee.value (Operand.func 15)), args := #[(Operand.tmp 27), (Operand.tmp 32)], argTypes := #[26, 26] }), (some (26, true)), ann0⟩,
  ⟨(some 34), (Op.binOp BinOp.lss 3 (Operand.tmp 33) (Operand.const (Value.int IntKind.i64 0)) 3), (some (26, true)), ann0⟩,
  ⟨(some 35), (Op.pick (Operand.tmp 26) (Operand.tmp 34) (Operand.const (Value.bool false))), none, ann0⟩,
  ⟨(some 23), (Op.assign (Operand.tmp 35)), none, ann0⟩] (some [0, 1, 3, 7, 7, 7, 39, 119, 247, 511, 1023, 2047, 4095])) (.tidy [0, 3, 5, 11, 12, 13, 23] z (z + 2)))
 (.cond (Operand.tmp 23) (.seq (.reg [⟨(some 2), (Op.assign (Operand.const (Value.int IntKind.i64 8))), none, ann0⟩] none)
 .ret)
 (.seq (.reg [⟨(some 37), (Op.move (Operand.tmp 3)), none, ann0⟩,
  ⟨(some 38), (Op.fieldAddr 26 (Operand.tmp 5) 0), none, ann0⟩,
  ⟨(some 39), (Op.load 3 (Operand.tmp 38)), none, ann0⟩,
  ⟨(some 40), (Op.lookup 73 (Operand.tmp 37) (Operand.tmp 39) false), none, ann0⟩,
  ⟨(some 36), (Op.assign (Operand.tmp 40)), none, ann0⟩] none)
 (.cond (Operand.tmp 36) (.seq (.reg [⟨(some 2), (Op.assign (Operand.const (Value.int IntKind.i64 9))), none, ann0⟩] none)
 .ret)
 .skip))))) (.tidy [0, 3, 5, 11, 12, 13] z (z + 2)))
 (.reg [⟨(some 41), (Op.move (Operand.tmp 3)), none, ann0⟩,
  ⟨(some 42), (Op.fieldAddr 26 (Operand.tmp 5) 0), none, ann0⟩,
  ⟨(some 43), (Op.load 3 (Operand.tmp 42)), none, ann0⟩,
  ⟨none, (Op.mapUpdate 73 (Operand.tmp 41) (Operand.tmp 43) (Operand.const (Value.bool true))), none, ann0⟩] none))))) (.tidy [0, 3, 11, 12, 13] z (z + 2)))
 (.reg [⟨(some 44), (Op.binOp BinOp.add 3 (Operand.tmp 13) (Operand.const (Value.int IntKind.i64 1)) 3), none, ann0⟩,
  ⟨(some 13), (Op.move (Operand.tmp 44)), none, ann0⟩] none)))) (.tidy [0, 3, 11, 12, 13] z (z + 1))
def s17_1 (z : Nat) : SC := c17_1 z
theorem e17_1 {C : Pg} {z : Nat} {st : St} {ks : List Fr} {K : Ex → St → Prop} : wpk C (s17_1 z) st ks K ↔ wpk C (c17_1 z) st ks K := Iff.rfl
def s17 (z : Nat) : SFn := ⟨1, 45, [(ResultVar.tmp 2)],
 (.seq (.reg [⟨(some 2), (Op.assign (Operand.const (Value.int IntKind.i64 0))), none, ann0⟩] none)
 (.seq (.post (.seq (.reg [⟨(some 7), (Op.move (Operand.tmp 0)), none, ann0⟩,
  ⟨(some 8), (Op.call { callee := (Callee.builtin Builtin.len), args := #[(Operand.tmp 7)], argTypes := #[22] }), none, ann0⟩,
  ⟨(some 9), (Op.binOp BinOp.gtr 3 (Operand.tmp 8) (Operand.const (Value.int IntKind.i64 256)) 3), none, ann0⟩] none)
 (.cond (Operand.tmp 9) (.seq (.reg [⟨(some 2), (Op.assign (Operand.const (Value.int IntKind.i64 6))), none, ann0⟩] none)
 .ret)
 .skip)) (.tidy [0] z (z + 0)))
 (.seq (.reg [⟨(some 10), (Op.makeMap 73 none), none, ⟨1, false, false⟩⟩,
  ⟨(some 3), (Op.assign (Operand.tmp 10)), none, ann0⟩] none)
 (.seq (.post (.seq (.reg [⟨(some 11), (Op.move (Operand.tmp 0)), none, ann0⟩,
  ⟨(some 12), (Op.call { callee := (Callee.builtin Builtin.len), args := #[(Operand.tmp 11)], argTypes := #[22] }), none, ann0⟩,
  ⟨(some 13), (Op.move (Operand.const (Value.int IntKind.i64 0))), none, ann0⟩] none)
 (.post (.block 0 (.pre (.tidy [0, 3, 11, 12, 13] z (z + 1)) (.loop (s17_1 z)))) (.tidy [] z (z + 1)))) (.tidy [] z (z + 1)))
 (.seq (.reg [⟨(some 2), (Op.assign (Operand.const (Value.int IntKind.i64 0))), none, ann0⟩] none)
 .ret)))))⟩
theorem F17 (z : Nat) : FOk Try.prog 17 (s17 z) := by unfold FOk; kernel_rfl
def c20_1 (z : Nat) : SC := .post (.seq (.reg [⟨(some 10), (Op.binOp BinOp.lss 3 (Operand.tmp 9) (Operand.tmp 8) 3), none, ann0⟩] none)
 (.seq (.cond (Operand.tmp 10) .skip
 (.exit 0))
 (.seq (.post (.block 1 (.seq (.reg [⟨(some 11), (Op.move (Operand.tmp 9)), none, ann0⟩,
  ⟨(some 12), (Op.indexAddr 22 (Operand.tmp 7) (Operand.tmp 9)), none, ann0⟩,
  ⟨(some 13), (Op.load 26 (Operand.tmp 12)), none, ann0⟩,
  ⟨(some 5), (Op.alloc 26), none, ⟨1, false, false⟩⟩,
  ⟨(some 4), (Op.assign (Operand.tmp 11)), none, ann0⟩,
  ⟨none, (Op.store 26 (Operand.tmp 5) (Operand.tmp 13)), none, ann0⟩] none)
 (.seq (.post (.reg [⟨(some 14), (Op.move (Operand.tmp 0)), none, ann0⟩,
  ⟨(some 15), (Op.move (Operand.tmp 4)), none, ann0⟩,
  ⟨(some 16), (Op.call { callee := (Callee.value (Operand.func 48)), args := #[(Operand.tmp 14), (Operand.tmp 15)], argTypes := #[22, 3] }), none, ann0⟩,
  ⟨(some 6), (Op.alloc 37), none, ⟨1, false, false⟩⟩,
  ⟨none, (Op.store 37 (Operand.tmp 6) (Operand.tmp 16)), none, ann0⟩] none) (.tidy [0, 3, 5, 6, 7, 8, 9] z (z + 3)))
 (.seq (.post (.reg [⟨(some 17), (Op.fieldAddr 26 (Operand.tmp 5) 1), none, ann0⟩,
  ⟨(some 18), (Op.load 3 (Operand.tmp 17)), none, ann0⟩,
  ⟨(some 19), (Op.binOp BinOp.eql 3 (Operand.tmp 18) (Operand.const (Value.int IntKind.i64 1)) 3), none, ann0⟩,
  ⟨(some 20), (Op.move (Operand.tmp 19)), none, ann0⟩,
  ⟨(some 21), (Op.load 37 (Operand.tmp 6)), (some (20, true)), ann0⟩,
  ⟨(some 22), (Op.build 37 #[]), (some (20, true)), ann0⟩,
  ⟨(some 23), (Op.binOp BinOp.neq 37 (Operand.tmp 21) (Operand.tmp 22) 37), (some (20, true)), ann0⟩,
  ⟨(some 24), (Op.pick (Operand.tmp 20) (Operand.tmp 23) (Operand.const (Value.bool false))), none, ann0⟩] none) (.tidy [0, 3, 5, 6, 7, 8, 9, 24] z (z + 3)))
 (.cond (Operand.tmp 24) (.reg [⟨(some 25), (Op.move (Operand.tmp 3)), none, ann0⟩,
  ⟨(some 26), (Op.fieldAddr 26 (Operand.tmp 5) 0), none, ann0⟩,
  ⟨(some 27), (Op.load 3 (Operand.tmp 26)), none, ann0⟩,
  ⟨(some 28), (Op.fieldAddr 26 (Operand.tmp 5) 3), none, ann0⟩,
  ⟨(some 29), (Op.load 9 (Operand.tmp 28)), none, ann0⟩,
  ⟨(some 30), (Op.fieldAddr 26 (Operand.tmp 5) 5), none, ann0⟩,
  ⟨(some 31), (Op.load 9 (Operand.tmp 30)), none, ann0⟩,
  ⟨(some 32), (Op.load 37 (Operand.tmp 6)), none, ann0⟩,
  ⟨(some 33), (Op.build 39 #[(0, (Operand.tmp 27)), (1, (Operand.tmp 29)), (2, (Operand.tmp 31)), (3, (Operand.tmp 32))]), none, ann0⟩,
  ⟨(some 34), (Op.buildSlice 32 1 #[(0, (Operand.tmp 33))]), none, ⟨1, true, false⟩⟩,
  ⟨(some 35), (Op.call { callee := (Callee.builtin Builtin.append), args := #[(Operand.tmp 25), (Operand.tmp 34)], argTypes := #[32, 32] }), none, ann0⟩,
  ⟨(some 3), (Op.assign (Operand.tmp 35)), none, ann0⟩] none)
 .skip))))) (.tidy [0, 3, 7, 8, 9] z (z + 4)))
 (.reg [⟨(some 36), (Op.binOp BinOp.add 3 (Operand.tmp 9) (Operand.const (Value.int IntKind.i64 1)) 3), none, ann0⟩,
  ⟨(some 9), (Op.move (Operand.tmp 36)), none, ann0⟩] none)))) (.tidy [0, 3, 7, 8, 9] z (z + 1))
def s20_1 (z : Nat) : SC := c20_1 z
theorem e20_1 {C : Pg} {z : Nat} {st : St} {ks : List Fr} {K : Ex → St → Prop} : wpk C (s20_1 z) st ks K ↔ wpk C (c20_1 z) st ks K := Iff.rfl
def s20 (z : Nat) : SFn := ⟨1, 38, [(ResultVar.tmp 2)],
 (.post (.seq (.reg [⟨(some 2), (Op.assign (Operand.const (Value.slice none 0 0))), none, ann0⟩] none)
 (.seq (.post (.reg [⟨(some 3), (Op.assign (Operand.const (Value.slice none 0 0))), none, ann0⟩] none) (.mkv 3 39 5))
 (.seq (.post (.seq (.reg [⟨(some 7), (Op.move (Operand.tmp 0)), none, ann0⟩,
  ⟨(some 8), (Op.call { callee := (Callee.builtin Builtin.len), args := #[(Operand.tmp 7)], argTypes := #[22] }), none, ann0⟩,
  ⟨(some 9), (Op.move (Operand.const (Value.int IntKind.i64 0))), none, ann0⟩] none)
 (.post (.block 0 (.pre (.tidy [0, 3, 7, 8, 9] z (z + 1)) (.loop (s20_1 z)))) (.tidy [3] z (z + 1)))) (.tidy [3] z (z + 1)))
 (.seq (.reg [⟨(some 37), (Op.move (Operand.tmp 3)), none, ann0⟩,
  ⟨(some 2), (Op.assign (Operand.tmp 37)), none, ann0⟩] none)
 .ret)))) (.frz 2))⟩
theorem F20 (z : Nat) : FOk Try.prog 20 (s20 z) := by unfold FOk; kernel_rfl
def c29_1 (z : Nat) : SC := .post (.seq (.reg [⟨(some 13), (Op.binOp BinOp.lss 3 (Operand.tmp 12) (Operand.tmp 11) 3), none, ann0⟩] none)
 (.seq (.cond (Operand.tmp 13) .skip
 (.exit 0))
 (.seq (.post (.block 1 (.seq (.reg [⟨(some 14), (Op.move (Operand.tmp 12)), none, ann0⟩,
  ⟨(some 15), (Op.indexAddr 22 (Operand.tmp 10) (Operand.tmp 12)), none, ann0⟩,
  ⟨(some 16), (Op.load 26 (Operand.tmp 15)), none, ann0⟩,
  ⟨(some 9), (Op.alloc 26), none, ⟨1, false, false⟩⟩,
  ⟨(some 8), (Op.assign (Operand.tmp 14)), none, ann0⟩,
  ⟨none, (Op.store 26 (Operand.tmp 9) (Operand.tmp 16)), none, ann0⟩] none)
 (.seq (.post (.reg [⟨(some 17), (Op.fieldAddr 26 (Operand.tmp 9) 1), none, ann0⟩,
  ⟨(some 18), (Op.load 3 (Operand.tmp 17)), none, ann0⟩,
  ⟨(some 19), (Op.binOp BinOp.eql 3 (Operand.tmp 18) (Operand.const (Value.int IntKind.i64 1)) 3), none, ann0⟩,
  ⟨(some 20), (Op.move (Operand.tmp 19)), none, ann0⟩,
  ⟨(some 21), (Op.fieldAddr 26 (Operand.tmp 9) 3), (some (20, true)), ann0⟩,
  ⟨(some 22), (Op.load 9 (Operand.tmp 21)), (some (20, true)), ann0⟩,
  ⟨(some 23), (Op.move (Operand.tmp 1)), (some (20, true)), ann0⟩,
  ⟨(some 24), (Op.binOp BinOp.eql 9 (Operand.tmp 22) (Operand.tmp 23) 9), (some (20, true)), ann0⟩,
  ⟨(some 25), (Op.pick (Operand.tmp 20) (Operand.tmp 24) (Operand.const (Value.bool false))), none, ann0⟩,
  ⟨(some 26), (Op.move (Operand.tmp 25)), none, ann0⟩,
  ⟨(some 27), (Op.move (Operand.tmp 0)), (some (26, true)), ann0⟩,
  ⟨(some 28), (Op.move (Operand.tmp 8)), (some (26, true)), ann0⟩,
  ⟨(some 29), (Op.call { callee := (Callee.value (Operand.func 48)), args := #[(Operand.tmp 27), (Operand.tmp 28)], argTypes := #[22, 3] }), (some (26, true)), ann0⟩,
  ⟨(some 30), (Op.move (Operand.tmp 2)), (some (26, true)), ann0⟩,
  ⟨(some 31), (Op.call { callee := (Callee.value (Operand.func 53)), args := #[(Operand.tmp 29), (Operand.tmp 30)], argTypes := #[37, 3] }), (some (26, true)), ann0⟩,
  ⟨(some 32), (Op.pick (Operand.tmp 26) (Operand.tmp 31) (Operand.const (Value.bool false))), none, ann0⟩] none) (.tidy [0, 1, 2, 6, 9, 10, 11, 12, 32] z (z + 2)))
 (.cond (Operand.tmp 32) (.seq (.reg [⟨(some 33), (Op.load 26 (Operand.tmp 9)), none, ann0⟩,
  ⟨none, (Op.store 26 (Operand.tmp 6) (Operand.tmp 33)), none, ann0⟩,
  ⟨(some 7), (Op.assign (Operand.const (Value.bool true))), none, ann0⟩] none)
 .ret)
 .skip)))) (.tidy [0, 1, 2, 6, 10, 11, 12] z (z + 2)))
 (.reg [⟨(some 34), (Op.binOp BinOp.add 3 (Operand.tmp 12) (Operand.const (Value.int IntKind.i64 1)) 3), none, ann0⟩,
  ⟨(some 12), (Op.move (Operand.tmp 34)), none, ann0⟩] none)))) (.tidy [0, 1, 2, 6, 10, 11, 12] z (z + 1))
def s29_1 (z : Nat) : SC := c29_1 z
theorem e29_1 {C : Pg} {z : Nat} {st : St} {ks : List Fr} {K : Ex → St → Prop} : wpk C (s29_1 z) st ks K ↔ wpk C (c29_1 z) st ks K := Iff.rfl
def s29 (z : Nat) : SFn := ⟨3, 36, [(ResultVar.cell 6 26), (ResultVar.tmp 7)],
 (.seq (.reg [⟨(some 6), (Op.alloc 26), none, ⟨1, false, false⟩⟩,
  ⟨(some 7), (Op.assign (Operand.const (Value.bool false))), none, ann0⟩] none)
 (.seq (.post (.seq (.reg [⟨(some 10), (Op.move (Operand.tmp 0)), none, ann0⟩,
  ⟨(some 11), (Op.call { callee := (Callee.builtin Builtin.len), args := #[(Operand.tmp 10)], argTypes := #[22] }), none, ann0⟩,
  ⟨(some 12), (Op.move (Operand.const (Value.int IntKind.i64 0))), none, ann0⟩] none)
 (.post (.block 0 (.pre (.tidy [0, 1, 2, 6, 10, 11, 12] z (z + 1)) (.loop (s29_1 z)))) (.tidy [6] z (z + 1)))) (.tidy [6] z (z + 1)))
 (.seq (.reg [⟨(some 35), (Op.build 26 #[]), none, ann0⟩,
  ⟨none, (Op.store 26 (Operand.tmp 6) (Operand.tmp 35)), none, ann0⟩,
  ⟨(some 7), (Op.assign (Operand.const (Value.bool false))), none, ann0⟩] none)
 .ret)))⟩
theorem F29 (z : Nat) : FOk Try.prog 29 (s29 z) := by unfold FOk; kernel_rfl
def s14 (z : Nat) : SFn := ⟨0, 47, [(ResultVar.tmp 0)],
 (.seq (.reg [⟨(some 0), (Op.assign (Operand.const (Value.bool false))), none, ann0⟩] none)
 (.seq (.reg [⟨(some 5), (Op.build 26 #[(0, (Operand.const (Value.int IntKind.i64 1))), (1, (Operand.const (Value.int IntKind.i64 1))), (2, (Operand.const (Value.int IntKind.i64 3))), (3, (Operand.const (Value.string ⟨#[97, 112, 105]⟩))), (5, (Operand.const (Value.string ⟨#[118, 49]⟩)))]), none, ann0⟩,
  ⟨(some 6), (Op.build 26 #[(0, (Operand.const (Value.int IntKind.i64 2))), (1, (Operand.const (Value.int IntKind.i64 1))), (2, (Operand.const (Value.int IntKind.i64 7))), (3, (Operand.const (Value.string ⟨#[97, 112, 105]⟩))), (5, (Operand.const (Value.string ⟨#[118, 50]⟩)))]), none, ann0⟩,
  ⟨(some 7), (Op.build 26 #[(0, (Operand.const (Value.int IntKind.i64 3))), (1, (Operand.const (Value.int IntKind.i64 1))), (2, (Operand.const (Value.int IntKind.i64 7))), (3, (Operand.const (Value.string ⟨#[97, 112, 105]⟩))), (5, (Operand.const (Value.string ⟨#[118, 51]⟩)))]), none, ann0⟩,
  ⟨(some 8), (Op.buildSlice 22 3 #[(0, (Operand.tmp 5)), (1, (Operand.tmp 6)), (2, (Operand.tmp 7))]), none, ⟨1, true, false⟩⟩,
  ⟨(some 1), (Op.assign (Operand.tmp 8)), none, ann0⟩] none)
 (.seq (.post (.reg [⟨(some 9), (Op.move (Operand.tmp 1)), none, ann0⟩,
  ⟨(some 10), (Op.call { callee := (Callee.value (Operand.func 20)), args := #[(Operand.tmp 9)], argTypes := #[22] }), none, ann0⟩,
  ⟨(some 2), (Op.assign (Operand.tmp 10)), none, ann0⟩] none) (.tidy [1, 2] z (z + 1)))
 (.seq (.reg [⟨(some 12), (Op.move (Operand.tmp 1)), none, ann0⟩,
  ⟨(some 13), (Op.call { callee := (Callee.value (Operand.func 29)), args := #[(Operand.tmp 12), (Operand.const (Value.string ⟨#[97, 112, 105]⟩)), (Operand.const (Value.int IntKind.i64 6))], argTypes := #[22, 9, 3] }), none, ann0⟩,
  ⟨(some 11), (Op.move (Operand.tmp 13)), none, ann0⟩,
  ⟨(some 14), (Op.extract (Operand.tmp 11) 0), none, ann0⟩,
  ⟨(some 15), (Op.extract (Operand.tmp 11) 1), none, ann0⟩,
  ⟨(some 3), (Op.alloc 26), none, ⟨1, false, false⟩⟩,
  ⟨none, (Op.store 26 (Operand.tmp 3) (Operand.tmp 14)), none, ann0⟩,
  ⟨(some 4), (Op.assign (Operand.tmp 15)), none, ann0⟩] none)
 (.seq (.reg [⟨(some 16), (Op.move (Operand.tmp 1)), none, ann0⟩,
  ⟨(some 17), (Op.call { callee := (Callee.value (Operand.func 17)), args := #[(Operand.tmp 16)], argTypes := #[22] }), none, ann0⟩,
  ⟨(some 18), (Op.binOp BinOp.eql 27 (Operand.tmp 17) (Operand.const (Value.int IntKind.i64 0)) 27), none, ann0⟩,
  ⟨(some 19), (Op.move (Operand.tmp 18)), none, ann0⟩,
  ⟨(some 20), (Op.move (Operand.tmp 2)), (some (19, true)), ann0⟩,
  ⟨(some 21), (Op.call { callee := (Callee.builtin Builtin.len), args := #[(Operand.tmp 20)], argTypes := #[32] }), (some (19, true)), ann0⟩,
  ⟨(some 22), (Op.binOp BinOp.eql 3 (Operand.tmp 21) (Operand.const (Value.int IntKind.i64 2)) 3), (some (19, true)), ann0⟩,
  ⟨(some 23), (Op.pick (Operand.tmp 19) (Operand.tmp 22) (Operand.const (Value.bool false))), none, ann0⟩,
  ⟨(some 24), (Op.move (Operand.tmp 23)), none, ann0⟩,
  ⟨(some 25), (Op.move (Operand.tmp 2)), (some (24, true)), ann0⟩,
  ⟨(some 26), (Op.indexAddr 32 (Operand.tmp 25) (Operand.const (Value.int IntKind.i64 0))), (some (24, true)), ann0⟩,
  ⟨(some 27), (Op.fieldAddr 39 (Operand.tmp 26) 3), (some (24, true)), ann0⟩,
  ⟨(some 28), (Op.load 37 (Operand.tmp 27)), (some (24, true)), ann0⟩,
  ⟨(some 29), (Op.build 37 #[(0, (Operand.const (Value.int IntKind.i64 3))), (1, (Operand.const (Value.int IntKind.i64 7)))]), (some (24, true)), ann0⟩,
  ⟨(some 30), (Op.binOp BinOp.eql 37 (Operand.tmp 28) (Operand.tmp 29) 37), (some (24, true)), ann0⟩,
  ⟨(some 31), (Op.pick (Operand.tmp 24) (Operand.tmp 30) (Operand.const (Value.bool false))), none, ann0⟩,
  ⟨(some 32), (Op.move (Operand.tmp 31)), none, ann0⟩,
  ⟨(some 33), (Op.move (Operand.tmp 2)), (some (32, true)), ann0⟩,
  ⟨(some 34), (Op.indexAddr 32 (Operand.tmp 33) (Operand.const (Value.int IntKind.i64 1))), (some (32, true)), ann0⟩,
  ⟨(some 35), (Op.fieldAddr 39 (Operand.tmp 34) 0), (some (32, true)), ann0⟩,
  ⟨(some 36), (Op.load 3 (Operand.tmp 35)), (some (32, true)), ann0⟩,
  ⟨(some 37), (Op.binOp BinOp.eql 3 (Operand.tmp 36) (Operand.const (Value.int IntKind.i64 3)) 3), (some (32, true)), ann0⟩,
  ⟨(some 38), (Op.pick (Operand.tmp 32) (Operand.tmp 37) (Operand.const (Value.bool false))), none, ann0⟩,
  ⟨(some 39), (Op.move (Operand.tmp 38)), none, ann0⟩,
  ⟨(some 40), (Op.move (Operand.tmp 4)), (some (39, true)), ann0⟩,
  ⟨(some 41), (Op.pick (Operand.tmp 39) (Operand.tmp 40) (Operand.const (Value.bool false))), none, ann0⟩,
  ⟨(some 42), (Op.move (Operand.tmp 41)), none, ann0⟩,
  ⟨(some 43), (Op.fieldAddr 26 (Operand.tmp 3) 5), (some (42, true)), ann0⟩,
  ⟨(some 44), (Op.load 9 (Operand.tmp 43)), (some (42, true)), ann0⟩,
  ⟨(some 45), (Op.binOp BinOp.eql 9 (Operand.tmp 44) (Operand.const (Value.string ⟨#[118, 49]⟩)) 9), (some (42, true)), ann0⟩,
  ⟨(some 46), (Op.pick (Operand.tmp 42) (Operand.tmp 45) (Operand.const (Value.bool false))), none, ann0⟩,
  ⟨(some 0), (Op.assign (Operand.tmp 46)), none, ann0⟩] none)
 .ret)))))⟩
theorem F14 (z : Nat) : FOk Try.prog 14 (s14 z) := by unfold FOk; kernel_rfl
def s43 (z : Nat) : SFn := ⟨2, 11, [(ResultVar.tmp 4)],
 (.seq (.reg [⟨(some 4), (Op.assign (Operand.const (Value.int IntKind.i64 0))), none, ann0⟩] none)
 (.seq (.post (.seq (.reg [⟨(some 5), (Op.move (Operand.tmp 0)), none, ann0⟩,
  ⟨(some 6), (Op.move (Operand.tmp 1)), none, ann0⟩,
  ⟨(some 7), (Op.binOp BinOp.lss 3 (Operand.tmp 5) (Operand.tmp 6) 3), none, ann0⟩] none)
 (.cond (Operand.tmp 7) (.seq (.reg [⟨(some 4), (Op.assign (Operand.const (Value.int IntKind.i64 (-1)))), none, ann0⟩] none)
 .ret)
 .skip)) (.tidy [0, 1] z (z + 0)))
 (.seq (.post (.seq (.reg [⟨(some 8), (Op.move (Operand.tmp 0)), none, ann0⟩,
  ⟨(some 9), (Op.move (Operand.tmp 1)), none, ann0⟩,
  ⟨(some 10), (Op.binOp BinOp.gtr 3 (Operand.tmp 8) (Operand.tmp 9) 3), none, ann0⟩] none)
 (.cond (Operand.tmp 10) (.seq (.reg [⟨(some 4), (Op.assign (Operand.const (Value.int IntKind.i64 1))), none, ann0⟩] none)
 .ret)
 .skip)) (.tidy [] z (z + 0)))
 (.seq (.reg [⟨(some 4), (Op.assign (Operand.const (Value.int IntKind.i64 0))), none, ann0⟩] none)
 .ret))))⟩
theorem F43 (z : Nat) : FOk Try.prog 43 (s43 z) := by unfold FOk; kernel_rfl
def s44 (z : Nat) : SFn := ⟨2, 11, [(ResultVar.tmp 4)],
 (.seq (.reg [⟨(some 4), (Op.assign (Operand.const (Value.int IntKind.i64 0))), none, ann0⟩] none)
 (.seq (.post (.seq (.reg [⟨(some 5), (Op.move (Operand.tmp 0)), none, ann0⟩,
  ⟨(some 6), (Op.move (Operand.tmp 1)), none, ann0⟩,
  ⟨(some 7), (Op.binOp BinOp.lss 9 (Operand.tmp 5) (Operand.tmp 6) 9), none, ann0⟩] none)
 (.cond (Operand.tmp 7) (.seq (.reg [⟨(some 4), (Op.assign (Operand.const (Value.int IntKind.i64 (-1)))), none, ann0⟩] none)
 .ret)
 .skip)) (.tidy [0, 1] z (z + 0)))
 (.seq (.post (.seq (.reg [⟨(some 8), (Op.move (Operand.tmp 0)), none, ann0⟩,
  ⟨(some 9), (Op.move (Operand.tmp 1)), none, ann0⟩,
  ⟨(some 10), (Op.binOp BinOp.gtr 9 (Operand.tmp 8) (Operand.tmp 9) 9), none, ann0⟩] none)
 (.cond (Operand.tmp 10) (.seq (.reg [⟨(some 4), (Op.assign (Operand.const (Value.int IntKind.i64 1))), none, ann0⟩] none)
 .ret)
 .skip)) (.tidy [] z (z + 0)))
 (.seq (.reg [⟨(some 4), (Op.assign (Operand.const (Value.int IntKind.i64 0))), none, ann0⟩] none)
 .ret))))⟩
theorem F44 (z : Nat) : FOk Try.prog 44 (s44 z) := by unfold FOk; kernel_rfl
def c16_1 (z : Nat) : SC := .post (.seq (.post (.seq (.reg [⟨(some 38), (Op.move (Operand.tmp 6)), none, ann0⟩,
  ⟨(some 39), (Op.move (Operand.tmp 5)), none, ann0⟩,
  ⟨(some 40), (Op.call { callee := (Callee.builtin Builtin.len), args := #[(Operand.tmp 39)], argTypes := #[54] }), none, ann0⟩,
  ⟨(some 41), (Op.binOp BinOp.lss 3 (Operand.tmp 38) (Operand.tmp 40) 3), none, ann0⟩] none)
 (.cond (Operand.tmp 41) .skip
 (.exit 0))) (.tidy [5, 6] z (z + 3)))
 (.seq (.post (.block 1 (.seq (.reg [⟨(some 44), (Op.move (Operand.tmp 5)), none, ann0⟩,
  ⟨(some 45), (Op.move (Operand.tmp 6)), none, ann0⟩,
  ⟨(some 46), (Op.indexAddr 54 (Operand.tmp 44) (Operand.tmp 45)), none, ann0⟩,
  ⟨(some 47), (Op.load 3 (Operand.tmp 46)), none, ann0⟩,
  ⟨(some 48), (Op.binOp BinOp.neq 3 (Operand.tmp 47) (Operand.const (Value.int IntKind.i64 0)) 3), none, ann0⟩] none)
 (.cond (Operand.tmp 48) (.seq (.reg [⟨(some 49), (Op.move (Operand.tmp 5)), none, ann0⟩,
  ⟨(some 50), (Op.move (Operand.tmp 6)), none, ann0⟩,
  ⟨(some 51), (Op.indexAddr 54 (Operand.tmp 49) (Operand.tmp 50)), none, ann0⟩,
  ⟨(some 52), (Op.load 3 (Operand.tmp 51)), none, ann0⟩,
  ⟨(some 4), (Op.assign (Operand.tmp 52)), none, ann0⟩] none)
 .ret)
 .skip))) (.tidy [5, 6] z (z + 3)))
 (.reg [⟨(some 42), (Op.move (Operand.tmp 6)), none, ann0⟩,
  ⟨(some 43), (Op.binOp BinOp.add 3 (Operand.tmp 42) (Operand.const (Value.int IntKind.i64 1)) 3), none, ann0⟩,
  ⟨(some 6), (Op.assign (Operand.tmp 43)), none, ann0⟩] none))) (.tidy [5, 6] z (z + 3))
def s16_1 (z : Nat) : SC := c16_1 z
theorem e16_1 {C : Pg} {z : Nat} {st : St} {ks : List Fr} {K : Ex → St → Prop} : wpk C (s16_1 z) st ks K ↔ wpk C (c16_1 z) st ks K := Iff.rfl
def s16 (z : Nat) : SFn := ⟨2, 53, [(ResultVar.tmp 4)],
 (.seq (.reg [⟨(some 2), (Op.box 26 (Operand.tmp 0)), none, ⟨1, false, false⟩⟩,
  ⟨(some 3), (Op.box 26 (Operand.tmp 1)), none, ⟨1, false, false⟩⟩,
  ⟨(some 4), (Op.assign (Operand.const (Value.int IntKind.i64 0))), none, ann0⟩] none)
 (.seq (.post (.reg [⟨(some 7), (Op.fieldAddr 26 (Operand.tmp 2) 2), none, ann0⟩,
  ⟨(some 8), (Op.load 3 (Operand.tmp 7)), none, ann0⟩,
  ⟨(some 9), (Op.fieldAddr 26 (Operand.tmp 3) 2), none, ann0⟩,
  ⟨(some 10), (Op.load 3 (Operand.tmp 9)), none, ann0⟩,
  ⟨(some 11), (Op.call { callee := (Callee.value (Operand.func 43)), args := #[(Operand.tmp 8), (Operand.tmp 10)], argTypes := #[3, 3] }), none, ann0⟩,
  ⟨(some 12), (Op.fieldAddr 26 (Operand.tmp 2) 0), none, ann0⟩,
  ⟨(some 13), (Op.load 3 (Operand.tmp 12)), none, ann0⟩,
  ⟨(some 14), (Op.fieldAddr 26 (Operand.tmp 3) 0), none, ann0⟩,
  ⟨(some 15), (Op.load 3 (Operand.tmp 14)), none, ann0⟩,
  ⟨(some 16), (Op.call { callee := (Callee.value (Operand.func 43)), args := #[(Operand.tmp 13), (Operand.tmp 15)], argTypes := #[3, 3] }), none, ann0⟩,
  ⟨(some 17), (Op.fieldAddr 26 (Operand.tmp 2) 1), none, ann0⟩,
  ⟨(some 18), (Op.load 3 (Operand.tmp 17)), none, ann0⟩,
  ⟨(some 19), (Op.fieldAddr 26 (Operand.tmp 3) 1), none, ann0⟩,
  ⟨(some 20), (Op.load 3 (Operand.tmp 19)), none, ann0⟩,
  ⟨(some 21), (Op.call { callee := (Callee.value (Operand.func 43)), args := #[(Operand.tmp 18), (Operand.tmp 20)], argTypes := #[3, 3] }), none, ann0⟩,
  ⟨(some 22), (Op.fieldAddr 26 (Operand.tmp 2) 3), none, ann0⟩,
  ⟨(some 23), (Op.load 9 (Operand.tmp 22)), none, ann0⟩,
  ⟨(some 24), (Op.fieldAddr 26 (Operand.tmp 3) 3), none, ann0⟩,
  ⟨(some 25), (Op.load 9 (Operand.tmp 24)), none, ann0⟩,
  ⟨(some 26), (Op.call { callee := (Callee.value (Operand.func 44)), args := #[(Operand.tmp 23), (Operand.tmp 25)], argTypes := #[9, 9] }), none, ann0⟩,
  ⟨(some 27), (Op.fieldAddr 26 (Operand.tmp 2) 4), none, ann0⟩,
  ⟨(some 28), (Op.load 9 (Operand.tmp 27)), none, ann0⟩,
  ⟨(some 29), (Op.fieldAddr 26 (Operand.tmp 3) 4), none, ann0⟩,
  ⟨(some 30), (Op.load 9 (Operand.tmp 29)), none, ann0⟩,
  ⟨(some 31), (Op.call { callee := (Callee.value (Operand.func 44)), args := #[(Operand.tmp 28), (Operand.tmp 30)], argTypes := #[9, 9] }), none, ann0⟩,
  ⟨(some 32), (Op.fieldAddr 26 (Operand.tmp 2) 5), none, ann0⟩,
  ⟨(some 33), (Op.load 9 (Operand.tmp 32)), none, ann0⟩,
  ⟨(some 34), (Op.fieldAddr 26 (Operand.tmp 3) 5), none, ann0⟩,
  ⟨(some 35), (Op.load 9 (Operand.tmp 34)), none, ann0⟩,
  ⟨(some 36), (Op.call { callee := (Callee.value (Operand.func 44)), args := #[(Operand.tmp 33), (Operand.tmp 35)], argTypes := #[9, 9] }), none, ann0⟩,
  ⟨(some 37), (Op.buildSlice 54 6 #[(0, (Operand.tmp 11)), (1, (Operand.tmp 16)), (2, (Operand.tmp 21)), (3, (Operand.tmp 26)), (4, (Operand.tmp 31)), (5, (Operand.tmp 36))]), none, ⟨1, true, false⟩⟩,
  ⟨(some 5), (Op.assign (Operand.tmp 37)), none, ann0⟩] (some [0, 1, 0, 4, 15, 0, 32, 0, 128, 511, 0, 1024, 0, 4096, 16383, 0, 32768, 0, 131072, 524287, 0, 1048576, 0, 4194304, 16777215, 0, 33554432, 0, 134217728, 536870911, 1073741823, 2147483647])) (.tidy [5] z (z + 3)))
 (.seq (.post (.seq (.reg [⟨(some 6), (Op.assign (Operand.const (Value.int IntKind.i64 0))), none, ann0⟩] none)
 (.post (.block 0 (.pre (.tidy [5, 6] z (z + 3)) (.loop (s16_1 z)))) (.tidy [] z (z + 3)))) (.tidy [] z (z + 3)))
 (.seq (.reg [⟨(some 4), (Op.assign (Operand.const (Value.int IntKind.i64 0))), none, ann0⟩] none)
 .ret))))⟩
theorem F16 (z : Nat) : FOk Try.prog 16 (s16 z) := by unfold FOk; kernel_rfl
def c18_2 (z : Nat) : SC := .post (.seq (.seq (.reg [⟨(some 84), (Op.move (Operand.tmp 7)), none, ann0⟩,
  ⟨(some 85), (Op.move (Operand.tmp 3)), none, ann0⟩,
  ⟨(some 86), (Op.binOp BinOp.lss 3 (Operand.tmp 84) (Operand.tmp 85) 3), none, ann0⟩] none)
 (.cond (Operand.tmp 86) .skip
 (.exit 3)))
 (.seq (.post (.block 4 (.seq (.post (.reg [⟨(some 89), (Op.move (Operand.tmp 0)), none, ann0⟩,
  ⟨(some 90), (Op.move (Operand.tmp 7)), none, ann0⟩,
  ⟨(some 91), (Op.indexAddr 22 (Operand.tmp 89) (Operand.tmp 90)), none, ann0⟩,
  ⟨(some 92), (Op.fieldAddr 26 (Operand.tmp 91) 0), none, ann0⟩,
  ⟨(some 93), (Op.load 3 (Operand.tmp 92)), none, ann0⟩,
  ⟨(some 94), (Op.fieldAddr 26 (Operand.tmp 4) 0), none, ann0⟩,
  ⟨(some 95), (Op.load 3 (Operand.tmp 94)), none, ann0⟩,
  ⟨(some 96), (Op.binOp BinOp.eql 3 (Operand.tmp 93) (Operand.tmp 95) 3), none, ann0⟩] (some [0, 0, 3, 7, 15, 0, 32, 127])) (.tidy [0, 3, 4, 7, 96] z (z + 1)))
 (.cond (Operand.tmp 96) (.seq (.reg [⟨(some 2), (Op.assign (Operand.const (Value.int IntKind.i64 9))), none, ann0⟩] none)
 .ret)
 .skip))) (.tidy [0, 3, 4, 7] z (z + 1)))
 (.reg [⟨(some 87), (Op.move (Operand.tmp 7)), none, ann0⟩,
  ⟨(some 88), (Op.binOp BinOp.add 3 (Operand.tmp 87) (Operand.const (Value.int IntKind.i64 1)) 3), none, ann0⟩,
  ⟨(some 7), (Op.assign (Operand.tmp 88)), none, ann0⟩] none))) (.tidy [0, 3, 4, 7] z (z + 1))
def s18_2 (z : Nat) : SC := c18_2 z
theorem e18_2 {C : Pg} {z : Nat} {st : St} {ks : List Fr} {K : Ex → St → Prop} : wpk C (s18_2 z) st ks K ↔ wpk C (c18_2 z) st ks K := Iff.rfl
def c18_1 (z : Nat) : SC := .post (.seq (.post (.seq (.reg [⟨(some 11), (Op.move (Operand.tmp 3)), none, ann0⟩,
  ⟨(some 12), (Op.move (Operand.tmp 0)), none, ann0⟩,
  ⟨(some 13), (Op.call { callee := (Callee.builtin Builtin.len), args := #[(Operand.tmp 12)], argTypes := #[22] }), none, ann0⟩,
  ⟨(some 14), (Op.binOp BinOp.lss 3 (Operand.tmp 11) (Operand.tmp 13) 3), none, ann0⟩] none)
 (.cond (Operand.tmp 14) .skip
 (.exit 0))) (.tidy [0, 3] z (z + 0)))
 (.seq (.post (.block 1 (.seq (.reg [⟨(some 17), (Op.move (Operand.tmp 0)), none, ann0⟩,
  ⟨(some 18), (Op.move (Operand.tmp 3)), none, ann0⟩,
  ⟨(some 19), (Op.indexAddr 22 (Operand.tmp 17) (Operand.tmp 18)), none, ann0⟩,
  ⟨(some 20), (Op.load 26 (Operand.tmp 19)), none, ann0⟩,
  ⟨(some 4), (Op.alloc 26), none, ⟨1, false, false⟩⟩,
  ⟨none, (Op.store 26 (Operand.tmp 4) (Operand.tmp 20)), none, ann0⟩] none)
 (.seq (.post (.reg [⟨(some 21), (Op.fieldAddr 26 (Operand.tmp 4) 4), none, ann0⟩,
  ⟨(some 22), (Op.load 9 (Operand.tmp 21)), none, ann0⟩,
  ⟨(some 23), (Op.fieldAddr 26 (Operand.tmp 4) 5), none, ann0⟩,
  ⟨(some 24), (Op.load 9 (Operand.tmp 23)), none, ann0⟩,
  ⟨(some 5), (Op.assign (Operand.tmp 22)), none, ann0⟩,
  ⟨(some 6), (Op.assign (Operand.tmp 24)), none, ann0⟩] (some [0, 1, 0, 4, 3, 31])) (.tidy [0, 3, 4, 5, 6] z (z + 1)))
 (.seq (.post (.seq (.reg [⟨(some 25), (Op.fieldAddr 26 (Operand.tmp 4) 1), none, ann0⟩,
  ⟨(some 26), (Op.load 3 (Operand.tmp 25)), none, ann0⟩,
  ⟨(some 27), (Op.binOp BinOp.eql 3 (Operand.tmp 26) (Operand.const (Value.int IntKind.i64 1)) 3), none, ann0⟩] none)
 (.cond (Operand.tmp 27) (.reg [⟨(some 28), (Op.fieldAddr 26 (Operand.tmp 4) 5), none, ann0⟩,
  ⟨(some 29), (Op.load 9 (Operand.tmp 28)), none, ann0⟩,
  ⟨(some 30), (Op.fieldAddr 26 (Operand.tmp 4) 4), none, ann0⟩,
  ⟨(some 31), (Op.load 9 (Operand.tmp 30)), none, ann0⟩,
  ⟨(some 5), (Op.assign (Operand.tmp 29)), none, ann0⟩,
  ⟨(some 6), (Op.assign (Operand.tmp 31)), none, ann0⟩] (some [0, 1, 0, 4, 3, 31]))
 .skip)) (.tidy [0, 3, 4, 5, 6] z (z + 1)))
 (.seq (.post (.block 2 (.seq (.post (.reg [⟨(some 33), (Op.fieldAddr 26 (Operand.tmp 4) 0), none, ann0⟩,
  ⟨(some 34), (Op.load 3 (Operand.tmp 33)), none, ann0⟩,
  ⟨(some 35), (Op.binOp BinOp.lss 3 (Operand.tmp 34) (Operand.const (Value.int IntKind.i64 1)) 3), none, ann0⟩,
  ⟨(some 36), (Op.move (Operand.tmp 35)), none, ann0⟩,
  ⟨(some 37), (Op.fieldAddr 26 (Operand.tmp 4) 0), (some (36, false)), ann0⟩,
  ⟨(some 38), (Op.load 3 (Operand.tmp 37)), (some (36, false)), ann0⟩,
  ⟨(some 39), (Op.binOp BinOp.gtr 3 (Operand.tmp 38) (Operand.const (Value.int IntKind.i64 1099511627776)) 3), (some (36, false)), ann0⟩,
  ⟨(some 40), (Op.pick (Operand.tmp 36) (Operand.const (Value.bool true)) (Operand.tmp 39)), none, ann0⟩,
  ⟨(some 32), (Op.assign (Operand.tmp 40)), none, ann0⟩] none) (.tidy [0, 3, 4, 5, 6, 32] z (z + 1)))
 (.cond (Operand.tmp 32) (.seq (.reg [⟨(some 2), (Op.assign (Operand.const (Value.int IntKind.i64 2))), none, ann0⟩] none)
 .ret)
 (.seq (.post (.reg [⟨(some 42), (Op.fieldAddr 26 (Operand.tmp 4) 1), none, ann0⟩,
  ⟨(some 43), (Op.load 3 (Operand.tmp 42)), none, ann0⟩,
  ⟨(some 44), (Op.binOp BinOp.lss 3 (Operand.tmp 43) (Operand.const (Value.int IntKind.i64 1)) 3), none, ann0⟩,
  ⟨(some 45), (Op.move (Operand.tmp 44)), none, ann0⟩,
  ⟨(some 46), (Op.fieldAddr 26 (Operand.tmp 4) 1), (some (45, false)), ann0⟩,
  ⟨(some 47), (Op.load 3 (Operand.tmp 46)), (some (45, false)), ann0⟩,
  ⟨(some 48), (Op.binOp BinOp.gtr 3 (Operand.tmp 47) (Operand.const (Value.int IntKind.i64 3)) 3), (some (45, false)), ann0⟩,
  ⟨(some 49), (Op.pick (Operand.tmp 45) (Operand.const (Value.bool true)) (Operand.tmp 48)), none, ann0⟩,
  ⟨(some 41), (Op.assign (Operand.tmp 49)), none, ann0⟩] none) (.tidy [0, 3, 4, 5, 6, 41] z (z + 1)))
 (.cond (Operand.tmp 41) (.seq (.reg [⟨(some 2), (Op.assign (Operand.const (Value.int IntKind.i64 12))), none, ann0⟩] none)
 .ret)
 (.seq (.post (.reg [⟨(some 51), (Op.fieldAddr 26 (Operand.tmp 4) 2), none, ann0⟩,
  ⟨(some 52), (Op.load 3 (Operand.tmp 51)), none, ann0⟩,
  ⟨(some 53), (Op.binOp BinOp.lss 3 (Operand.tmp 52) (Operand.const (Value.int IntKind.i64 0)) 3), none, ann0⟩,
  ⟨(some 54), (Op.move (Operand.tmp 53)), none, ann0⟩,
  ⟨(some 55), (Op.fieldAddr 26 (Operand.tmp 4) 2), (some (54, false)), ann0⟩,
  ⟨(some 56), (Op.load 3 (Operand.tmp 55)), (some (54, false)), ann0⟩,
  ⟨(some 57), (Op.binOp BinOp.gtr 3 (Operand.tmp 56) (Operand.const (Value.int IntKind.i64 1048576)) 3), (some (54, false)), ann0⟩,
  ⟨(some 58), (Op.pick (Operand.tmp 54) (Operand.const (Value.bool true)) (Operand.tmp 57)), none, ann0⟩,
  ⟨(some 50), (Op.assign (Operand.tmp 58)), none, ann0⟩] none) (.tidy [0, 3, 4, 5, 6, 50] z (z + 1)))
 (.cond (Operand.tmp 50) (.seq (.reg [⟨(some 2), (Op.assign (Operand.const (Value.int IntKind.i64 32))), none, ann0⟩] none)
 .ret)
 (.seq (.reg [⟨(some 60), (Op.fieldAddr 26 (Operand.tmp 4) 3), none, ann0⟩,
  ⟨(some 61), (Op.load 9 (Operand.tmp 60)), none, ann0⟩,
  ⟨(some 62), (Op.call { callee := (Callee.value (Operand.func 46)), args := #[(Operand.tmp 61)], argTypes := #[9] }), none, ann0⟩,
  ⟨(some 63), (Op.unOp UnOp.not 4 (Operand.tmp 62)), none, ann0⟩,
  ⟨(some 59), (Op.assign (Operand.tmp 63)), none, ann0⟩] none)
 (.cond (Operand.tmp 59) (.seq (.reg [⟨(some 2), (Op.assign (Operand.const (Value.int IntKind.i64 11))), none, ann0⟩] none)
 .ret)
 (.seq (.post (.reg [⟨(some 65), (Op.move (Operand.tmp 6)), none, ann0⟩,
  ⟨(some 66), (Op.binOp BinOp.neq 9 (Operand.tmp 65) (Operand.const (Value.string ⟨#[]⟩)) 9), none, ann0⟩,
  ⟨(some 64), (Op.assign (Operand.tmp 66)), none, ann0⟩] none) (.tidy [0, 3, 4, 5, 64] z (z + 1)))
 (.cond (Operand.tmp 64) (.seq (.reg [⟨(some 2), (Op.assign (Operand.const (Value.int IntKind.i64 3))), none, ann0⟩] none)
 .ret)
 (.seq (.reg [⟨(some 68), (Op.move (Operand.tmp 5)), none, ann0⟩,
  ⟨(some 69), (Op.call { callee := (Callee.value (Operand.func 46)), args := #[(Operand.tmp 68)], argTypes := #[9] }), none, ann0⟩,
  ⟨(some 70), (Op.unOp UnOp.not 4 (Operand.tmp 69)), none, ann0⟩,
  ⟨(some 67), (Op.assign (Operand.tmp 70)), none, ann0⟩] none)
 (.cond (Operand.tmp 67) (.seq (.reg [⟨(some 2), (Op.assign (Operand.const (Value.int IntKind.i64 11))), none, ann0⟩] none)
 .ret)
 (.seq (.post (.reg [⟨(some 72), (Op.move (Operand.tmp 3)), none, ann0⟩,
  ⟨(some 73), (Op.binOp BinOp.gtr 3 (Operand.tmp 72) (Operand.const (Value.int IntKind.i64 0)) 3), none, ann0⟩,
  ⟨(some 74), (Op.move (Operand.tmp 73)), none, ann0⟩,
  ⟨(some 75), (Op.move (Operand.tmp 0)), (some (74, true)), ann0⟩,
  ⟨(some 76), (Op.move (Operand.tmp 3)), (some (74, true)), ann0⟩,
  ⟨(some 77), (Op.binOp BinOp.sub 3 (Operand.tmp 76) (Operand.const (Value.int IntKind.i64 1)) 3), (some (74, true)), ann0⟩,
  ⟨(some 78), (Op.indexAddr 22 (Operand.tmp 75) (Operand.tmp 77)), (some (74, true)), ann0⟩,
  ⟨(some 79), (Op.load 26 (Operand.tmp 78)), (some (74, true)), ann0⟩,
  ⟨(some 80), (Op.load 26 (Operand.tmp 4)), (some (74, true)), ann0⟩,
  ⟨(some 81), (Op.call { callee := (Callee.value (Operand.func 16)), args := #[(Operand.tmp 79), (Operand.tmp 80)], argTypes := #[26, 26] }), (some (74, true)), ann0⟩,
  ⟨(some 82), (Op.binOp BinOp.gtr 3 (Operand.tmp 81) (Operand.const (Value.int IntKind.i64 0)) 3), (some (74, true)), ann0⟩,
  ⟨(some 83), (Op.pick (Operand.tmp 74) (Operand.tmp 82) (Operand.const (Value.bool false))), none, ann0⟩,
  ⟨(some 71), (Op.assign (Operand.tmp 83)), none, ann0⟩] (some [0, 1, 3, 7, 7, 23, 63, 127, 7, 511, 1023, 2047, 4095])) (.tidy [0, 3, 4, 71] z (z + 1)))
 (.cond (Operand.tmp 71) (.seq (.reg [⟨(some 2), (Op.assign (Operand.const (Value.int IntKind.i64 8))), none, ann0⟩] none)
 .ret)
 .skip))))))))))))))) (.tidy [0, 3, 4] z (z + 1)))
 (.seq (.reg [⟨(some 7), (Op.assign (Operand.const (Value.int IntKind.i64 0))), none, ann0⟩] none)
 (.post (.block 3 (.pre (.tidy [0, 3, 4, 7] z (z + 1)) (.loop (s18_2 z)))) (.tidy [0, 3] z (z + 1))))))))) (.tidy [0, 3] z (z + 1)))
 (.reg [⟨(some 15), (Op.move (Operand.tmp 3)), none, ann0⟩,
  ⟨(some 16), (Op.binOp BinOp.add 3 (Operand.tmp 15) (Operand.const (Value.int IntKind.i64 1)) 3), none, ann0⟩,
  ⟨(some 3), (Op.assign (Operand.tmp 16)), none, ann0⟩] none))) (.tidy [0, 3] z (z + 0))
def s18_1 (z : Nat) : SC := c18_1 z
theorem e18_1 {C : Pg} {z : Nat} {st : St} {ks : List Fr} {K : Ex → St → Prop} : wpk C (s18_1 z) st ks K ↔ wpk C (c18_1 z) st ks K := Iff.rfl
def s18 (z : Nat) : SFn := ⟨1, 97, [(ResultVar.tmp 2)],
 (.seq (.reg [⟨(some 2), (Op.assign (Operand.const (Value.int IntKind.i64 0))), none, ann0⟩] none)
 (.seq (.post (.seq (.reg [⟨(some 8), (Op.move (Operand.tmp 0)), none, ann0⟩,
  ⟨(some 9), (Op.call { callee := (Callee.builtin Builtin.len), args := #[(Operand.tmp 8)], argTypes := #[22] }), none, ann0⟩,
  ⟨(some 10), (Op.binOp BinOp.gtr 3 (Operand.tmp 9) (Operand.const (Value.int IntKind.i64 256)) 3), none, ann0⟩] none)
 (.cond (Operand.tmp 10) (.seq (.reg [⟨(some 2), (Op.assign (Operand.const (Value.int IntKind.i64 6))), none, ann0⟩] none)
 .ret)
 .skip)) (.tidy [0] z (z + 0)))
 (.seq (.post (.seq (.reg [⟨(some 3), (Op.assign (Operand.const (Value.int IntKind.i64 0))), none, ann0⟩] none)
 (.post (.block 0 (.pre (.tidy [0, 3] z (z + 0)) (.loop (s18_1 z)))) (.tidy [] z (z + 0)))) (.tidy [] z (z + 0)))
 (.seq (.reg [⟨(some 2), (Op.assign (Operand.const (Value.int IntKind.i64 0))), none, ann0⟩] none)
 .ret))))⟩
theorem F18 (z : Nat) : FOk Try.prog 18 (s18 z) := by unfold FOk; kernel_rfl
def c3_1 (z : Nat) : SC := .post (.seq (.post (.seq (.reg [⟨(some 18), (Op.move (Operand.tmp 5)), none, ann0⟩,
  ⟨(some 19), (Op.move (Operand.tmp 0)), none, ann0⟩,
  ⟨(some 20), (Op.call { callee := (Callee.builtin Builtin.len), args := #[(Operand.tmp 19)], argTypes := #[22] }), none, ann0⟩,
  ⟨(some 21), (Op.binOp BinOp.lss 3 (Operand.tmp 18) (Operand.tmp 20) 3), none, ann0⟩] none)
 (.cond (Operand.tmp 21) .skip
 (.exit 0))) (.tidy [0, 1, 5] z (z + 0)))
 (.seq (.post (.block 1 (.seq (.post (.reg [⟨(some 24), (Op.move (Operand.tmp 0)), none, ann0⟩,
  ⟨(some 25), (Op.move (Operand.tmp 5)), none, ann0⟩,
  ⟨(some 26), (Op.binOp BinOp.sub 3 (Operand.tmp 25) (Operand.const (Value.int IntKind.i64 1)) 3), none, ann0⟩,
  ⟨(some 27), (Op.indexAddr 22 (Operand.tmp 24) (Operand.tmp 26)), none, ann0⟩,
  ⟨(some 28), (Op.load 26 (Operand.tmp 27)), none, ann0⟩,
  ⟨(some 29), (Op.move (Operand.tmp 0)), none, ann0⟩,
  ⟨(some 30), (Op.move (Operand.tmp 5)), none, ann0⟩,
  ⟨(some 31), (Op.indexAddr 22 (Operand.tmp 29) (Operand.tmp 30)), none, ann0⟩,
  ⟨(some 32), (Op.load 26 (Operand.tmp 31)), none, ann0⟩,
  ⟨(some 33), (Op.call { callee := (Callee.value (Operand.func 15)), args := #[(Operand.tmp 28), (Operand.tmp 32)], argTypes := #[26, 26] }), none, ann0⟩,
  ⟨(some 34), (Op.move (Operand.tmp 0)), none, ann0⟩,
  ⟨(some 35), (Op.move (Operand.tmp 5)), none, ann0⟩,
  ⟨(some 36), (Op.binOp BinOp.sub 3 (Operand.tmp 35) (Operand.const (Value.int IntKind.i64 1)) 3), none, ann0⟩,
  ⟨(some 37), (Op.indexAddr 22 (Operand.tmp 34) (Operand.tmp 36)), none, ann0⟩,
  ⟨(some 38), (Op.load 26 (Operand.tmp 37)), none, ann0⟩,
  ⟨(some 39), (Op.move (Operand.tmp 0)), none, ann0⟩,
  ⟨(some 40), (Op.move (Operand.tmp 5)), none, ann0⟩,
  ⟨(some 41), (Op.indexAddr 22 (Operand.tmp 39) (Operand.tmp 40)), none, ann0⟩,
  ⟨(some 42), (Op.load 26 (Operand.tmp 41)), none, ann0⟩,
  ⟨(some 43), (Op.call { callee := (Callee.value (Operand.func 16)), args := #[(Operand.tmp 38), (Operand.tmp 42)], argTypes := #[26, 26] }), none, ann0⟩,
  ⟨(some 44), (Op.binOp BinOp.neq 3 (Operand.tmp 33) (Operand.tmp 43) 3), none, ann0⟩,
  ⟨(some 45), (Op.move (Operand.tmp 44)), none, ann0⟩,
  ⟨(some 46), (Op.move (Operand.tmp 0)), (some (45, false)), ann0⟩,
  ⟨(some 47), (Op.move (Operand.tmp 5)), (some (45, false)), ann0⟩,
  ⟨(some 48), (Op.indexAddr 22 (Operand.tmp 46) (Operand.tmp 47)), (some (45, false)), ann0⟩,
  ⟨(some 49), (Op.load 26 (Operand.tmp 48)), (some (45, false)), ann0⟩,
  ⟨(some 50), (Op.move (Operand.tmp 0)), (some (45, false)), ann0⟩,
  ⟨(some 51), (Op.move (Operand.tmp 5)), (some (45, false)), ann0⟩,
  ⟨(some 52), (Op.binOp BinOp.sub 3 (Operand.tmp 51) (Operand.const (Value.int IntKind.i64 1)) 3), (some (45, false)), ann0⟩,
  ⟨(some 53), (Op.indexAddr 22 (Operand.tmp 50) (Operand.tmp 52)), (some (45, false)), ann0⟩,
  ⟨(some 54), (Op.load 26 (Operand.tmp 53)), (some (45, false)), ann0⟩,
  ⟨(some 55), (Op.call { callee := (Callee.value (Operand.func 15)), args := #[(Operand.tmp 49), (Operand.tmp 54)], argTypes := #[26, 26] }), (some (45, false)), ann0⟩,
  ⟨(some 56), (Op.move (Operand.tmp 0)), (some (45, false)), ann0⟩,
  ⟨(some 57), (Op.move (Operand.tmp 5)), (some (45, false)), ann0⟩,
  ⟨(some 58), (Op.indexAddr 22 (Operand.tmp 56) (Operand.tmp 57)), (some (45, false)), ann0⟩,
  ⟨(some 59), (Op.load 26 (Operand.tmp 58)), (some (45, false)), ann0⟩,
  ⟨(some 60), (Op.move (Operand.tmp 0)), (some (45, false)), ann0⟩,
  ⟨(some 61), (Op.move (Operand.tmp 5)), (some (45, false)), ann0⟩,
  ⟨(some 62), (Op.binOp BinOp.sub 3 (Operand.tmp 61) (Operand.const (Value.int IntKind.i64 1)) 3), (some (45, false)), ann0⟩,
  ⟨(some 63), (Op.indexAddr 22 (Operand.tmp 60) (Operand.tmp 62)), (some (45, false)), ann0⟩,
  ⟨(some 64), (Op.load 26 (Operand.tmp 63)), (some (45, false)), ann0⟩,
  ⟨(some 65), (Op.call { callee := (Callee.value (Operand.func 16)), args := #[(Operand.tmp 59), (Operand.tmp 64)], argTypes := #[26, 26] }), (some (45, false)), ann0⟩,
  ⟨(some 66), (Op.binOp BinOp.neq 3 (Operand.tmp 55) (Operand.tmp 65) 3), (some (45, false)), ann0⟩,
  ⟨(some 67), (Op.pick (Operand.tmp 45) (Operand.const (Value.bool true)) (Operand.tmp 66)), none, ann0⟩] (some [0, 0, 2, 7, 15, 0, 0, 96, 224, 511, 0, 0, 2048, 7168, 15360, 0, 0, 98304, 229376, 524287, 1048575, 2097151, 4194303, 4194303, 16777215, 33554431, 4194303, 4194303, 138412031, 473956351, 1010827263, 2147483647, 4194303, 4194303, 12889096191, 30068965375, 4194303, 4194303, 137443147775, 481040531455, 1030796345343, 2199023255551, 4398046511103, 8796093022207])) (.tidy [0, 1, 5, 67] z (z + 0)))
 (.cond (Operand.tmp 67) (.seq (.reg [⟨(some 4), (Op.assign (Operand.const (Value.bool false))), none, ann0⟩] none)
 .ret)
 .skip))) (.tidy [0, 1, 5] z (z + 0)))
 (.reg [⟨(some 22), (Op.move (Operand.tmp 5)), none, ann0⟩,
  ⟨(some 23), (Op.binOp BinOp.add 3 (Operand.tmp 22) (Operand.const (Value.int IntKind.i64 1)) 3), none, ann0⟩,
  ⟨(some 5), (Op.assign (Operand.tmp 23)), none, ann0⟩] none))) (.tidy [0, 1, 5] z (z + 0))
def s3_1 (z : Nat) : SC := c3_1 z
theorem e3_1 {C : Pg} {z : Nat} {st : St} {ks : List Fr} {K : Ex → St → Prop} : wpk C (s3_1 z) st ks K ↔ wpk C (c3_1 z) st ks K := Iff.rfl
def c3_2 (z : Nat) : SC := .post (.seq (.seq (.reg [⟨(some 74), (Op.move (Operand.tmp 8)), none, ann0⟩,
  ⟨(some 75), (Op.move (Operand.tmp 6)), none, ann0⟩,
  ⟨(some 76), (Op.binOp BinOp.lss 3 (Operand.tmp 74) (Operand.tmp 75) 3), none, ann0⟩] none)
 (.cond (Operand.tmp 76) .skip
 (.exit 2)))
 (.seq (.post (.block 3 (.reg [⟨(some 79), (Op.move (Operand.tmp 7)), none, ann0⟩,
  ⟨(some 80), (Op.move (Operand.tmp 8)), none, ann0⟩,
  ⟨(some 81), (Op.move (Operand.tmp 8)), none, ann0⟩,
  ⟨(some 82), (Op.binOp BinOp.add 3 (Operand.tmp 81) (Operand.const (Value.int IntKind.i64 1)) 3), none, ann0⟩,
  ⟨(some 83), (Op.move (Operand.tmp 8)), none, ann0⟩,
  ⟨(some 84), (Op.build 26 #[(0, (Operand.tmp 82)), (1, (Operand.const (Value.int IntKind.i64 2))), (2, (Operand.tmp 83)), (3, (Operand.const (Value.string ⟨#[115]⟩))), (4, (Operand.const (Value.string ⟨#[116]⟩)))]), none, ann0⟩,
  ⟨(some 85), (Op.indexAddr 22 (Operand.tmp 79) (Operand.tmp 80)), none, ann0⟩,
  ⟨none, (Op.store 26 (Operand.tmp 85) (Operand.tmp 84)), none, ann0⟩] none)) (.tidy [0, 6, 7, 8] z (z + 1)))
 (.reg [⟨(some 77), (Op.move (Operand.tmp 8)), none, ann0⟩,
  ⟨(some 78), (Op.binOp BinOp.add 3 (Operand.tmp 77) (Operand.const (Value.int IntKind.i64 1)) 3), none, ann0⟩,
  ⟨(some 8), (Op.assign (Operand.tmp 78)), none, ann0⟩] none))) (.tidy [0, 6, 7, 8] z (z + 1))
def s3_2 (z : Nat) : SC := c3_2 z
theorem e3_2 {C : Pg} {z : Nat} {st : St} {ks : List Fr} {K : Ex → St → Prop} : wpk C (s3_2 z) st ks K ↔ wpk C (c3_2 z) st ks K := Iff.rfl
def s3 (z : Nat) : SFn := ⟨2, 99, [(ResultVar.tmp 4)],
 (.seq (.reg [⟨(some 4), (Op.assign (Operand.const (Value.bool false))), none, ann0⟩] none)
 (.seq (.post (.seq (.post (.reg [⟨(some 10), (Op.call { callee := (Callee.value (Operand.func 14)), args := #[], argTypes := #[] }), none, ann0⟩,
  ⟨(some 11), (Op.unOp UnOp.not 4 (Operand.tmp 10)), none, ann0⟩,
  ⟨(some 12), (Op.move (Operand.tmp 11)), none, ann0⟩,
  ⟨(some 13), (Op.move (Operand.tmp 0)), (some (12, false)), ann0⟩,
  ⟨(some 14), (Op.call { callee := (Callee.builtin Builtin.len), args := #[(Operand.tmp 13)], argTypes := #[22] }), (some (12, false)), ann0⟩,
  ⟨(some 15), (Op.binOp BinOp.gtr 3 (Operand.tmp 14) (Operand.const (Value.int IntKind.i64 20)) 3), (some (12, false)), ann0⟩,
  ⟨(some 16), (Op.pick (Operand.tmp 12) (Operand.const (Value.bool true)) (Operand.tmp 15)), none, ann0⟩] none) (.tidy [0, 1, 16] z (z + 0)))
 (.cond (Operand.tmp 16) (.seq (.reg [⟨(some 17), (Op.call { callee := (Callee.value (Operand.func 14)), args := #[], argTypes := #[] }), none, ann0⟩,
  ⟨(some 4), (Op.assign (Operand.tmp 17)), none, ann0⟩] none)
 .ret)
 .skip)) (.tidy [0, 1] z (z + 0)))
 (.seq (.post (.seq (.reg [⟨(some 5), (Op.assign (Operand.const (Value.int IntKind.i64 1))), none, ann0⟩] none)
 (.post (.block 0 (.pre (.tidy [0, 1, 5] z (z + 0)) (.loop (s3_1 z)))) (.tidy [0, 1] z (z + 0)))) (.tidy [0, 1] z (z + 0)))
 (.seq (.reg [⟨(some 68), (Op.move (Operand.tmp 1)), none, ann0⟩,
  ⟨(some 69), (Op.binOp BinOp.rem 5 (Operand.tmp 68) (Operand.const (Value.int IntKind.u8 3)) 5), none, ann0⟩,
  ⟨(some 70), (Op.convert 5 3 (Operand.tmp 69)), none, ann0⟩,
  ⟨(some 71), (Op.binOp BinOp.add 3 (Operand.const (Value.int IntKind.i64 255)) (Operand.tmp 70) 3), none, ann0⟩,
  ⟨(some 6), (Op.assign (Operand.tmp 71)), none, ann0⟩] none)
 (.seq (.post (.reg [⟨(some 72), (Op.move (Operand.tmp 6)), none, ann0⟩,
  ⟨(some 73), (Op.makeSlice 22 (Operand.tmp 72) (Operand.tmp 72)), none, ⟨1, false, false⟩⟩,
  ⟨(some 7), (Op.assign (Operand.tmp 73)), none, ann0⟩] none) (.tidy [0, 6, 7] z (z + 1)))
 (.seq (.post (.seq (.reg [⟨(some 8), (Op.assign (Operand.const (Value.int IntKind.i64 0))), none, ann0⟩] none)
 (.post (.post (.block 2 (.pre (.tidy [0, 6, 7, 8] z (z + 1)) (.loop (s3_2 z)))) (.tidy [0, 6, 7] z (z + 1))) (.frz 7))) (.tidy [0, 6, 7] z (z + 1)))
 (.seq (.reg [⟨(some 9), (Op.assign (Operand.const (Value.int IntKind.i64 0))), none, ann0⟩] none)
 (.seq (.seq (.reg [⟨(some 86), (Op.move (Operand.tmp 6)), none, ann0⟩,
  ⟨(some 87), (Op.binOp BinOp.gtr 3 (Operand.tmp 86) (Operand.const (Value.int IntKind.i64 256)) 3), none, ann0⟩] none)
 (.cond (Operand.tmp 87) (.reg [⟨(some 9), (Op.assign (Operand.const (Value.int IntKind.i64 6))), none, ann0⟩] none)
 .skip))
 (.seq (.reg [⟨(some 88), (Op.move (Operand.tmp 0)), none, ann0⟩,
  ⟨(some 89), (Op.call { callee := (Callee.value (Operand.func 17)), args := #[(Operand.tmp 88)], argTypes := #[22] }), none, ann0⟩,
  ⟨(some 90), (Op.move (Operand.tmp 0)), none, ann0⟩,
  ⟨(some 91), (Op.call { callee := (Callee.value (Operand.func 18)), args := #[(Operand.tmp 90)], argTypes := #[22] }), none, ann0⟩,
  ⟨(some 92), (Op.binOp BinOp.eql 27 (Operand.tmp 89) (Operand.tmp 91) 27), none, ann0⟩,
  ⟨(some 93), (Op.move (Operand.tmp 92)), none, ann0⟩,
  ⟨(some 94), (Op.move (Operand.tmp 7)), (some (93, true)), ann0⟩,
  ⟨(some 95), (Op.call { callee := (Callee.value (Operand.func 17)), args := #[(Operand.tmp 94)], argTypes := #[22] }), (some (93, true)), ann0⟩,
  ⟨(some 96), (Op.move (Operand.tmp 9)), (some (93, true)), ann0⟩,
  ⟨(some 97), (Op.binOp BinOp.eql 27 (Operand.tmp 95) (Operand.tmp 96) 27), (some (93, true)), ann0⟩,
  ⟨(some 98), (Op.pick (Operand.tmp 93) (Operand.tmp 97) (Operand.const (Value.bool false))), none, ann0⟩,
  ⟨(some 4), (Op.assign (Operand.tmp 98)), none, ann0⟩] none)
 .ret)))))))))⟩
theorem F3 (z : Nat) : FOk Try.prog 3 (s3 z) := by unfold FOk; kernel_rfl
def c39_2 (z : Nat) : SC := .post (.seq (.post (.seq (.post (.reg [⟨(some 12), (Op.move (Operand.tmp 5)), none, ann0⟩,
  ⟨(some 13), (Op.move (Operand.tmp 3)), none, ann0⟩,
  ⟨(some 14), (Op.call { callee := (Callee.builtin Builtin.len), args := #[(Operand.tmp 13)], argTypes := #[22] }), none, ann0⟩,
  ⟨(some 15), (Op.binOp BinOp.lss 3 (Operand.tmp 12) (Operand.tmp 14) 3), none, ann0⟩,
  ⟨(some 16), (Op.move (Operand.tmp 15)), none, ann0⟩,
  ⟨(some 17), (Op.move (Operand.tmp 3)), (some (16, true)), ann0⟩,
  ⟨(some 18), (Op.move (Operand.tmp 5)), (some (16, true)), ann0⟩,
  ⟨(some 19), (Op.indexAddr 22 (Operand.tmp 17) (Operand.tmp 18)), (some (16, true)), ann0⟩,
  ⟨(some 20), (Op.load 26 (Operand.tmp 19)), (some (16, true)), ann0⟩,
  ⟨(some 21), (Op.move (Operand.tmp 0)), (some (16, true)), ann0⟩,
  ⟨(some 22), (Op.move (Operand.tmp 4)), (some (16, true)), ann0⟩,
  ⟨(some 23), (Op.indexAddr 22 (Operand.tmp 21) (Operand.tmp 22)), (some (16, true)), ann0⟩,
  ⟨(some 24), (Op.load 26 (Operand.tmp 23)), (some (16, true)), ann0⟩,
  ⟨(some 25), (Op.call { callee := (Callee.value (Operand.func 16)), args := #[(Operand.tmp 20), (Operand.tmp 24)], argTypes := #[26, 26] }), (some (16, true)), ann0⟩,
  ⟨(some 26), (Op.binOp BinOp.lss 3 (Operand.tmp 25) (Operand.const (Value.int IntKind.i64 0)) 3), (some (16, true)), ann0⟩,
  ⟨(some 27), (Op.pick (Operand.tmp 16) (Operand.tmp 26) (Operand.const (Value.bool false))), none, ann0⟩] (some [0, 0, 2, 7, 15, 31, 31, 127, 255, 31, 31, 1567, 3615, 8191, 16383, 32767])) (.tidy [0, 3, 4, 5, 27] z (z + 0)))
 (.cond (Operand.tmp 27) .skip
 (.exit 2))) (.tidy [0, 3, 4, 5] z (z + 0)))
 (.block 3 (.reg [⟨(some 28), (Op.move (Operand.tmp 5)), none, ann0⟩,
  ⟨(some 29), (Op.binOp BinOp.add 3 (Operand.tmp 28) (Operand.const (Value.int IntKind.i64 1)) 3), none, ann0⟩,
  ⟨(some 5), (Op.assign (Operand.tmp 29)), none, ann0⟩] none))) (.tidy [0, 3, 4, 5] z (z + 0))
def s39_2 (z : Nat) : SC := c39_2 z
theorem e39_2 {C : Pg} {z : Nat} {st : St} {ks : List Fr} {K : Ex → St → Prop} : wpk C (s39_2 z) st ks K ↔ wpk C (c39_2 z) st ks K := Iff.rfl
def c39_1 (z : Nat) : SC := .post (.seq (.post (.seq (.reg [⟨(some 6), (Op.move (Operand.tmp 4)), none, ann0⟩,
  ⟨(some 7), (Op.move (Operand.tmp 0)), none, ann0⟩,
  ⟨(some 8), (Op.call { callee := (Callee.builtin Builtin.len), args := #[(Operand.tmp 7)], argTypes := #[22] }), none, ann0⟩,
  ⟨(some 9), (Op.binOp BinOp.lss 3 (Operand.tmp 6) (Operand.tmp 8) 3), none, ann0⟩] none)
 (.cond (Operand.tmp 9) .skip
 (.exit 0))) (.tidy [0, 3, 4] z (z + 0)))
 (.seq (.post (.block 1 (.seq (.reg [⟨(some 5), (Op.assign (Operand.const (Value.int IntKind.i64 0))), none, ann0⟩] none)
 (.seq (.post (.block 2 (.pre (.tidy [0, 3, 4, 5] z (z + 0)) (.loop (s39_2 z)))) (.tidy [0, 3, 4, 5] z (z + 0)))
 (.seq (.post (.reg [⟨(some 30), (Op.move (Operand.tmp 5)), none, ann0⟩,
  ⟨(some 31), (Op.move (Operand.tmp 3)), none, ann0⟩,
  ⟨(some 32), (Op.call { callee := (Callee.builtin Builtin.len), args := #[(Operand.tmp 31)], argTypes := #[22] }), none, ann0⟩,
  ⟨(some 33), (Op.binOp BinOp.eql 3 (Operand.tmp 30) (Operand.tmp 32) 3), none, ann0⟩,
  ⟨(some 34), (Op.move (Operand.tmp 33)), none, ann0⟩,
  ⟨(some 35), (Op.move (Operand.tmp 3)), (some (34, false)), ann0⟩,
  ⟨(some 36), (Op.move (Operand.tmp 5)), (some (34, false)), ann0⟩,
  ⟨(some 37), (Op.indexAddr 22 (Operand.tmp 35) (Operand.tmp 36)), (some (34, false)), ann0⟩,
  ⟨(some 38), (Op.load 26 (Operand.tmp 37)), (some (34, false)), ann0⟩,
  ⟨(some 39), (Op.move (Operand.tmp 0)), (some (34, false)), ann0⟩,
  ⟨(some 40), (Op.move (Operand.tmp 4)), (some (34, false)), ann0⟩,
  ⟨(some 41), (Op.indexAddr 22 (Operand.tmp 39) (Operand.tmp 40)), (some (34, false)), ann0⟩,
  ⟨(some 42), (Op.load 26 (Operand.tmp 41)), (some (34, false)), ann0⟩,
  ⟨(some 43), (Op.binOp BinOp.neq 26 (Operand.tmp 38) (Operand.tmp 42) 26), (some (34, false)), ann0⟩,
  ⟨(some 44), (Op.pick (Operand.tmp 34) (Operand.const (Value.bool true)) (Operand.tmp 43)), none, ann0⟩] (some [0, 0, 2, 7, 15, 31, 31, 127, 255, 31, 31, 1567, 3615, 8191, 16383])) (.tidy [0, 3, 4, 5, 44] z (z + 0)))
 (.cond (Operand.tmp 44) (.post (.reg [⟨(some 45), (Op.buildSlice 22 0 #[]), none, ⟨1, false, false⟩⟩,
  ⟨(some 46), (Op.move (Operand.tmp 3)), none, ann0⟩,
  ⟨(some 47), (Op.move (Operand.tmp 5)), none, ann0⟩,
  ⟨(some 48), (Op.slice 22 (Operand.tmp 46) none (some (Operand.tmp 47)) none), none, ann0⟩,
  ⟨(some 49), (Op.call { callee := (Callee.builtin Builtin.append), args := #[(Operand.tmp 45), (Operand.tmp 48)], argTypes := #[22, 22] }), none, ann0⟩,
  ⟨(some 50), (Op.move (Operand.tmp 0)), none, ann0⟩,
  ⟨(some 51), (Op.move (Operand.tmp 4)), none, ann0⟩,
  ⟨(some 52), (Op.indexAddr 22 (Operand.tmp 50) (Operand.tmp 51)), none, ann0⟩,
  ⟨(some 53), (Op.load 26 (Operand.tmp 52)), none, ann0⟩,
  ⟨(some 54), (Op.buildSlice 22 1 #[(0, (Operand.tmp 53))]), none, ⟨1, true, false⟩⟩,
  ⟨(some 55), (Op.call { callee := (Callee.builtin Builtin.append), args := #[(Operand.tmp 49), (Operand.tmp 54)], argTypes := #[22, 22] }), none, ann0⟩,
  ⟨(some 56), (Op.move (Operand.tmp 3)), none, ann0⟩,
  ⟨(some 57), (Op.move (Operand.tmp 5)), none, ann0⟩,
  ⟨(some 58), (Op.slice 22 (Operand.tmp 56) (some (Operand.tmp 57)) none none), none, ann0⟩,
  ⟨(some 59), (Op.call { callee := (Callee.builtin Builtin.append), args := #[(Operand.tmp 55), (Operand.tmp 58)], argTypes := #[22, 22] }), none, ann0⟩,
  ⟨(some 3), (Op.assign (Operand.tmp 59)), none, ann0⟩] (some [0, 0, 0, 6, 15, 0, 0, 96, 224, 480, 1023, 0, 0, 6144, 16383, 32767])) (.frz 3))
 .skip))))) (.tidy [0, 3, 4] z (z + 2)))
 (.reg [⟨(some 10), (Op.move (Operand.tmp 4)), none, ann0⟩,
  ⟨(some 11), (Op.binOp BinOp.add 3 (Operand.tmp 10) (Operand.const (Value.int IntKind.i64 1)) 3), none, ann0⟩,
  ⟨(some 4), (Op.assign (Operand.tmp 11)), none, ann0⟩] none))) (.tidy [0, 3, 4] z (z + 0))
def s39_1 (z : Nat) : SC := c39_1 z
theorem e39_1 {C : Pg} {z : Nat} {st : St} {ks : List Fr} {K : Ex → St → Prop} : wpk C (s39_1 z) st ks K ↔ wpk C (c39_1 z) st ks K := Iff.rfl
def s39 (z : Nat) : SFn := ⟨1, 61, [(ResultVar.tmp 2)],
 (.post (.seq (.reg [⟨(some 2), (Op.assign (Operand.const (Value.slice none 0 0))), none, ann0⟩] none)
 (.seq (.reg [⟨(some 3), (Op.assign (Operand.const (Value.slice none 0 0))), none, ann0⟩] none)
 (.seq (.post (.seq (.reg [⟨(some 4), (Op.assign (Operand.const (Value.int IntKind.i64 0))), none, ann0⟩] none)
 (.post (.block 0 (.pre (.tidy [0, 3, 4] z (z + 0)) (.loop (s39_1 z)))) (.tidy [3] z (z + 0)))) (.tidy [3] z (z + 0)))
 (.seq (.reg [⟨(some 60), (Op.move (Operand.tmp 3)), none, ann0⟩,
  ⟨(some 2), (Op.assign (Operand.tmp 60)), none, ann0⟩] none)
 .ret)))) (.frz 2))⟩
theorem F39 (z : Nat) : FOk Try.prog 39 (s39 z) := by unfold FOk; kernel_rfl
def s47 (z : Nat) : SFn := ⟨2, 43, [(ResultVar.cell 4 26)],
 (.seq (.reg [⟨(some 2), (Op.box 99 (Operand.tmp 0)), none, ⟨1, false, false⟩⟩,
  ⟨(some 4), (Op.alloc 26), none, ⟨1, false, false⟩⟩] none)
 (.seq (.reg [⟨(some 7), (Op.buildSlice 66 4 #[(0, (Operand.const (Value.string ⟨#[97, 112, 105]⟩))), (1, (Operand.const (Value.string ⟨#[100, 98]⟩))), (2, (Operand.const (Value.string ⟨#[119, 101, 98]⟩))), (3, (Operand.const (Value.string ⟨#[99, 97, 99, 104, 101]⟩)))]), none, ⟨1, true, false⟩⟩,
  ⟨(some 5), (Op.assign (Operand.tmp 7)), none, ann0⟩] none)
 (.seq (.post (.reg [⟨(some 8), (Op.move (Operand.tmp 1)), none, ann0⟩,
  ⟨(some 9), (Op.fieldAddr 99 (Operand.tmp 2) 0), none, ann0⟩,
  ⟨(some 10), (Op.load 5 (Operand.tmp 9)), none, ann0⟩,
  ⟨(some 11), (Op.binOp BinOp.rem 5 (Operand.tmp 10) (Operand.const (Value.int IntKind.u8 3)) 5), none, ann0⟩,
  ⟨(some 12), (Op.convert 5 3 (Operand.tmp 11)), none, ann0⟩,
  ⟨(some 13), (Op.binOp BinOp.add 3 (Operand.const (Value.int IntKind.i64 1)) (Operand.tmp 12) 3), none, ann0⟩,
  ⟨(some 14), (Op.fieldAddr 99 (Operand.tmp 2) 1), none, ann0⟩,
  ⟨(some 15), (Op.load 5 (Operand.tmp 14)), none, ann0⟩,
  ⟨(some 16), (Op.binOp BinOp.rem 5 (Operand.tmp 15) (Operand.const (Value.int IntKind.u8 64)) 5), none, ann0⟩,
  ⟨(some 17), (Op.convert 5 3 (Operand.tmp 16)), none, ann0⟩,
  ⟨(some 18), (Op.move (Operand.tmp 5)), none, ann0⟩,
  ⟨(some 19), (Op.fieldAddr 99 (Operand.tmp 2) 2), none, ann0⟩,
  ⟨(some 20), (Op.load 5 (Operand.tmp 19)), none, ann0⟩,
  ⟨(some 21), (Op.binOp BinOp.rem 5 (Operand.tmp 20) (Operand.const (Value.int IntKind.u8 4)) 5), none, ann0⟩,
  ⟨(some 22), (Op.indexAddr 66 (Operand.tmp 18) (Operand.tmp 21)), none, ann0⟩,
  ⟨(some 23), (Op.load 9 (Operand.tmp 22)), none, ann0⟩,
  ⟨(some 24), (Op.build 26 #[(0, (Operand.tmp 8)), (1, (Operand.tmp 13)), (2, (Operand.tmp 17)), (3, (Operand.tmp 23))]), none, ann0⟩,
  ⟨(some 6), (Op.alloc 26), none, ⟨1, false, false⟩⟩,
  ⟨none, (Op.store 26 (Operand.tmp 6) (Operand.tmp 24)), none, ann0⟩] (some [0, 0, 2, 6, 14, 30, 0, 64, 192, 448, 0, 0, 2048, 6144, 15360, 31744, 65535, 0, 262143])) (.tidy [2, 4, 5, 6] z (z + 4)))
 (.seq (.post (.seq (.reg [⟨(some 25), (Op.fieldAddr 26 (Operand.tmp 6) 1), none, ann0⟩,
  ⟨(some 26), (Op.load 3 (Operand.tmp 25)), none, ann0⟩,
  ⟨(some 27), (Op.binOp BinOp.eql 3 (Operand.tmp 26) (Operand.const (Value.int IntKind.i64 1)) 3), none, ann0⟩] none)
 (.cond (Operand.tmp 27) (.reg [⟨(some 28), (Op.buildSlice 66 3 #[(0, (Operand.const (Value.string ⟨#[118, 49]⟩))), (1, (Operand.const (Value.string ⟨#[118, 50]⟩))), (2, (Operand.const (Value.string ⟨#[118, 51]⟩)))]), none, ⟨1, true, false⟩⟩,
  ⟨(some 29), (Op.fieldAddr 99 (Operand.tmp 2) 4), none, ann0⟩,
  ⟨(some 30), (Op.load 5 (Operand.tmp 29)), none, ann0⟩,
  ⟨(some 31), (Op.binOp BinOp.rem 5 (Operand.tmp 30) (Operand.const (Value.int IntKind.u8 3)) 5), none, ann0⟩,
  ⟨(some 32), (Op.indexAddr 66 (Operand.tmp 28) (Operand.tmp 31)), none, ann0⟩,
  ⟨(some 33), (Op.load 9 (Operand.tmp 32)), none, ann0⟩,
  ⟨(some 34), (Op.fieldAddr 26 (Operand.tmp 6) 5), none, ann0⟩,
  ⟨none, (Op.store 9 (Operand.tmp 34) (Operand.tmp 33)), none, ann0⟩] none)
 (.reg [⟨(some 35), (Op.move (Operand.tmp 5)), none, ann0⟩,
  ⟨(some 36), (Op.fieldAddr 99 (Operand.tmp 2) 3), none, ann0⟩,
  ⟨(some 37), (Op.load 5 (Operand.tmp 36)), none, ann0⟩,
  ⟨(some 38), (Op.binOp BinOp.rem 5 (Operand.tmp 37) (Operand.const (Value.int IntKind.u8 4)) 5), none, ann0⟩,
  ⟨(some 39), (Op.indexAddr 66 (Operand.tmp 35) (Operand.tmp 38)), none, ann0⟩,
  ⟨(some 40), (Op.load 9 (Operand.tmp 39)), none, ann0⟩,
  ⟨(some 41), (Op.fieldAddr 26 (Operand.tmp 6) 4), none, ann0⟩,
  ⟨none, (Op.store 9 (Operand.tmp 41) (Operand.tmp 40)), none, ann0⟩] none))) (.tidy [4, 6] z (z + 5)))
 (.seq (.reg [⟨(some 42), (Op.load 26 (Operand.tmp 6)), none, ann0⟩,
  ⟨none, (Op.store 26 (Operand.tmp 4) (Operand.tmp 42)), none, ann0⟩] none)
 .ret)))))⟩
theorem F47 (z : Nat) : FOk Try.prog 47 (s47 z) := by unfold FOk; kernel_rfl
def c19_1 (z : Nat) : SC := .post (.seq (.post (.seq (.post (.reg [⟨(some 5), (Op.move (Operand.tmp 4)), none, ann0⟩,
  ⟨(some 6), (Op.move (Operand.tmp 0)), none, ann0⟩,
  ⟨(some 7), (Op.call { callee := (Callee.builtin Builtin.len), args := #[(Operand.tmp 6)], argTypes := #[30] }), none, ann0⟩,
  ⟨(some 8), (Op.binOp BinOp.lss 3 (Operand.tmp 5) (Operand.tmp 7) 3), none, ann0⟩,
  ⟨(some 9), (Op.move (Operand.tmp 8)), none, ann0⟩,
  ⟨(some 10), (Op.move (Operand.tmp 4)), (some (9, true)), ann0⟩,
  ⟨(some 11), (Op.binOp BinOp.lss 3 (Operand.tmp 10) (Operand.const (Value.int IntKind.i64 12)) 3), (some (9, true)), ann0⟩,
  ⟨(some 12), (Op.pick (Operand.tmp 9) (Operand.tmp 11) (Operand.const (Value.bool false))), none, ann0⟩] none) (.tidy [0, 3, 4, 12] z (z + 1)))
 (.cond (Operand.tmp 12) .skip
 (.exit 0))) (.tidy [0, 3, 4] z (z + 1)))
 (.seq (.post (.block 1 (.reg [⟨(some 15), (Op.move (Operand.tmp 3)), none, ann0⟩,
  ⟨(some 16), (Op.move (Operand.tmp 0)), none, ann0⟩,
  ⟨(some 17), (Op.move (Operand.tmp 4)), none, ann0⟩,
  ⟨(some 18), (Op.indexAddr 30 (Operand.tmp 16) (Operand.tmp 17)), none, ann0⟩,
  ⟨(some 19), (Op.load 99 (Operand.tmp 18)), none, ann0⟩,
  ⟨(some 20), (Op.move (Operand.tmp 4)), none, ann0⟩,
  ⟨(some 21), (Op.binOp BinOp.add 3 (Operand.tmp 20) (Operand.const (Value.int IntKind.i64 1)) 3), none, ann0⟩,
  ⟨(some 22), (Op.call { callee := (Callee.value (Operand.func 47)), args := #[(Operand.tmp 19), (Operand.tmp 21)], argTypes := #[99, 3] }), none, ann0⟩,
  ⟨(some 23), (Op.buildSlice 22 1 #[(0, (Operand.tmp 22))]), none, ⟨1, true, false⟩⟩,
  ⟨(some 24), (Op.call { callee := (Callee.builtin Builtin.append), args := #[(Operand.tmp 15), (Operand.tmp 23)], argTypes := #[22, 22] }), none, ann0⟩,
  ⟨(some 3), (Op.assign (Operand.tmp 24)), none, ann0⟩] none)) (.tidy [0, 3, 4] z (z + 2)))
 (.reg [⟨(some 13), (Op.move (Operand.tmp 4)), none, ann0⟩,
  ⟨(some 14), (Op.binOp BinOp.add 3 (Operand.tmp 13) (Operand.const (Value.int IntKind.i64 1)) 3), none, ann0⟩,
  ⟨(some 4), (Op.assign (Operand.tmp 14)), none, ann0⟩] none))) (.tidy [0, 3, 4] z (z + 1))
def s19_1 (z : Nat) : SC := c19_1 z
theorem e19_1 {C : Pg} {z : Nat} {st : St} {ks : List Fr} {K : Ex → St → Prop} : wpk C (s19_1 z) st ks K ↔ wpk C (c19_1 z) st ks K := Iff.rfl
def s19 (z : Nat) : SFn := ⟨1, 27, [(ResultVar.tmp 2)],
 (.post (.seq (.reg [⟨(some 2), (Op.assign (Operand.const (Value.slice none 0 0))), none, ann0⟩] none)
 (.seq (.post (.reg [⟨(some 3), (Op.assign (Operand.const (Value.slice none 0 0))), none, ann0⟩] none) (.mkv 3 26 6))
 (.seq (.post (.seq (.reg [⟨(some 4), (Op.assign (Operand.const (Value.int IntKind.i64 0))), none, ann0⟩] none)
 (.post (.post (.block 0 (.pre (.tidy [0, 3, 4] z (z + 1)) (.loop (s19_1 z)))) (.tidy [3] z (z + 1))) (.frz 3))) (.tidy [3] z (z + 1)))
 (.seq (.reg [⟨(some 25), (Op.move (Operand.tmp 3)), none, ann0⟩,
  ⟨(some 26), (Op.call { callee := (Callee.value (Operand.func 39)), args := #[(Operand.tmp 25)], argTypes := #[22] }), none, ann0⟩,
  ⟨(some 2), (Op.assign (Operand.tmp 26)), none, ann0⟩] none)
 .ret)))) (.frz 2))⟩
theorem F19 (z : Nat) : FOk Try.prog 19 (s19 z) := by unfold FOk; kernel_rfl
def c4_1 (z : Nat) : SC := .post (.seq (.post (.seq (.reg [⟨(some 15), (Op.move (Operand.tmp 6)), none, ann0⟩,
  ⟨(some 16), (Op.move (Operand.tmp 4)), none, ann0⟩,
  ⟨(some 17), (Op.call { callee := (Callee.builtin Builtin.len), args := #[(Operand.tmp 16)], argTypes := #[32] }), none, ann0⟩,
  ⟨(some 18), (Op.binOp BinOp.lss 3 (Operand.tmp 15) (Operand.tmp 17) 3), none, ann0⟩] none)
 (.cond (Operand.tmp 18) .skip
 (.exit 0))) (.tidy [3, 4, 5, 6] z (z + 1)))
 (.seq (.post (.block 1 (.seq (.post (.seq (.post (.reg [⟨(some 22), (Op.move (Operand.tmp 5)), none, ann0⟩,
  ⟨(some 23), (Op.move (Operand.tmp 4)), none, ann0⟩,
  ⟨(some 24), (Op.move (Operand.tmp 6)), none, ann0⟩,
  ⟨(some 25), (Op.indexAddr 32 (Operand.tmp 23) (Operand.tmp 24)), none, ann0⟩,
  ⟨(some 26), (Op.fieldAddr 39 (Operand.tmp 25) 1), none, ann0⟩,
  ⟨(some 27), (Op.load 9 (Operand.tmp 26)), none, ann0⟩,
  ⟨(some 28), (Op.lookup 34 (Operand.tmp 22) (Operand.tmp 27) true), none, ann0⟩,
  ⟨(some 21), (Op.move (Operand.tmp 28)), none, ann0⟩,
  ⟨(some 29), (Op.extract (Operand.tmp 21) 0), none, ann0⟩,
  ⟨(some 30), (Op.extract (Operand.tmp 21) 1), none, ann0⟩,
  ⟨(some 7), (Op.assign (Operand.tmp 29)), none, ann0⟩,
  ⟨(some 8), (Op.assign (Operand.tmp 30)), none, ann0⟩] none) (.tidy [3, 4, 5, 6, 7, 8] z (z + 1)))
 (.seq (.post (.reg [⟨(some 31), (Op.move (Operand.tmp 8)), none, ann0⟩,
  ⟨(some 32), (Op.move (Operand.tmp 31)), none, ann0⟩,
  ⟨(some 33), (Op.move (Operand.tmp 7)), (some (32, true)), ann0⟩,
  ⟨(some 34), (Op.move (Operand.tmp 4)), (some (32, true)), ann0⟩,
  ⟨(some 35), (Op.move (Operand.tmp 6)), (some (32, true)), ann0⟩,
  ⟨(some 36), (Op.indexAddr 32 (Operand.tmp 34) (Operand.tmp 35)), (some (32, true)), ann0⟩,
  ⟨(some 37), (Op.fieldAddr 39 (Operand.tmp 36) 3), (some (32, true)), ann0⟩,
  ⟨(some 38), (Op.fieldAddr 37 (Operand.tmp 37) 0), (some (32, true)), ann0⟩,
  ⟨(some 39), (Op.load 3 (Operand.tmp 38)), (some (32, true)), ann0⟩,
  ⟨(some 40), (Op.binOp BinOp.neq 3 (Operand.tmp 33) (Operand.tmp 39) 3), (some (32, true)), ann0⟩,
  ⟨(some 41), (Op.pick (Operand.tmp 32) (Operand.tmp 40) (Operand.const (Value.bool false))), none, ann0⟩,
  ⟨(some 42), (Op.move (Operand.tmp 41)), none, ann0⟩,
  ⟨(some 43), (Op.move (Operand.tmp 4)), (some (42, false)), ann0⟩,
  ⟨(some 44), (Op.move (Operand.tmp 6)), (some (42, false)), ann0⟩,
  ⟨(some 45), (Op.indexAddr 32 (Operand.tmp 43) (Operand.tmp 44)), (some (42, false)), ann0⟩,
  ⟨(some 46), (Op.fieldAddr 39 (Operand.tmp 45) 3), (some (42, false)), ann0⟩,
  ⟨(some 47), (Op.fieldAddr 37 (Operand.tmp 46) 0), (some (42, false)), ann0⟩,
  ⟨(some 48), (Op.load 3 (Operand.tmp 47)), (some (42, false)), ann0⟩,
  ⟨(some 49), (Op.move (Operand.tmp 4)), (some (42, false)), ann0⟩,
  ⟨(some 50), (Op.move (Operand.tmp 6)), (some (42, false)), ann0⟩,
  ⟨(some 51), (Op.indexAddr 32 (Operand.tmp 49) (Operand.tmp 50)), (some (42, false)), ann0⟩,
  ⟨(some 52), (Op.fieldAddr 39 (Operand.tmp 51) 3), (some (42, false)), ann0⟩,
  ⟨(some 53), (Op.fieldAddr 37 (Operand.tmp 52) 1), (some (42, false)), ann0⟩,
  ⟨(some 54), (Op.load 3 (Operand.tmp 53)), (some (42, false)), ann0⟩,
  ⟨(some 55), (Op.binOp BinOp.geq 3 (Operand.tmp 48) (Operand.tmp 54) 3), (some (42, false)), ann0⟩,
  ⟨(some 56), (Op.pick (Operand.tmp 42) (Operand.const (Value.bool true)) (Operand.tmp 55)), none, ann0⟩] (some [0, 1, 3, 3, 3, 27, 59, 123, 251, 511, 1023, 2047, 4095, 4095, 16383, 32767, 65535, 131071, 4095, 4095, 790527, 1839103, 3936255, 8130559, 16777215, 33554431])) (.tidy [3, 4, 5, 6, 56] z (z + 1)))
 (.cond (Operand.tmp 56) (.seq (.reg [⟨(some 2), (Op.assign (Operand.const (Value.bool false))), none, ann0⟩] none)
 .ret)
 .skip))) (.tidy [3, 4, 5, 6] z (z + 1)))
 (.reg [⟨(some 57), (Op.move (Operand.tmp 5)), none, ann0⟩,
  ⟨(some 58), (Op.move (Operand.tmp 4)), none, ann0⟩,
  ⟨(some 59), (Op.move (Operand.tmp 6)), none, ann0⟩,
  ⟨(some 60), (Op.indexAddr 32 (Operand.tmp 58) (Operand.tmp 59)), none, ann0⟩,
  ⟨(some 61), (Op.fieldAddr 39 (Operand.tmp 60) 1), none, ann0⟩,
  ⟨(some 62), (Op.load 9 (Operand.tmp 61)), none, ann0⟩,
  ⟨(some 63), (Op.move (Operand.tmp 4)), none, ann0⟩,
  ⟨(some 64), (Op.move (Operand.tmp 6)), none, ann0⟩,
  ⟨(some 65), (Op.indexAddr 32 (Operand.tmp 63) (Operand.tmp 64)), none, ann0⟩,
  ⟨(some 66), (Op.fieldAddr 39 (Operand.tmp 65) 3), none, ann0⟩,
  ⟨(some 67), (Op.fieldAddr 37 (Operand.tmp 66) 1), none, ann0⟩,
  ⟨(some 68), (Op.load 3 (Operand.tmp 67)), none, ann0⟩,
  ⟨none, (Op.mapUpdate 34 (Operand.tmp 57) (Operand.tmp 62) (Operand.tmp 68)), none, ann0⟩] (some [0, 0, 0, 6, 14, 30, 0, 0, 192, 448, 960, 1984, 4095])))) (.tidy [3, 4, 5, 6] z (z + 1)))
 (.reg [⟨(some 19), (Op.move (Operand.tmp 6)), none, ann0⟩,
  ⟨(some 20), (Op.binOp BinOp.add 3 (Operand.tmp 19) (Operand.const (Value.int IntKind.i64 1)) 3), none, ann0⟩,
  ⟨(some 6), (Op.assign (Operand.tmp 20)), none, ann0⟩] none))) (.tidy [3, 4, 5, 6] z (z + 1))
def s4_1 (z : Nat) : SC := c4_1 z
theorem e4_1 {C : Pg} {z : Nat} {st : St} {ks : List Fr} {K : Ex → St → Prop} : wpk C (s4_1 z) st ks K ↔ wpk C (c4_1 z) st ks K := Iff.rfl
def c4_2 (z : Nat) : SC := .post (.seq (.post (.seq (.reg [⟨(some 69), (Op.move (Operand.tmp 9)), none, ann0⟩,
  ⟨(some 70), (Op.move (Operand.tmp 3)), none, ann0⟩,
  ⟨(some 71), (Op.call { callee := (Callee.builtin Builtin.len), args := #[(Operand.tmp 70)], argTypes := #[22] }), none, ann0⟩,
  ⟨(some 72), (Op.binOp BinOp.lss 3 (Operand.tmp 69) (Operand.tmp 71) 3), none, ann0⟩] none)
 (.cond (Operand.tmp 72) .skip
 (.exit 2))) (.tidy [3, 5, 9] z (z + 1)))
 (.seq (.post (.block 3 (.seq (.post (.reg [⟨(some 75), (Op.move (Operand.tmp 3)), none, ann0⟩,
  ⟨(some 76), (Op.move (Operand.tmp 9)), none, ann0⟩,
  ⟨(some 77), (Op.indexAddr 22 (Operand.tmp 75) (Operand.tmp 76)), none, ann0⟩,
  ⟨(some 78), (Op.fieldAddr 26 (Operand.tmp 77) 1), none, ann0⟩,
  ⟨(some 79), (Op.load 3 (Operand.tmp 78)), none, ann0⟩,
  ⟨(some 80), (Op.binOp BinOp.eql 3 (Operand.tmp 79) (Operand.const (Value.int IntKind.i64 1)) 3), none, ann0⟩,
  ⟨(some 81), (Op.move (Operand.tmp 80)), none, ann0⟩,
  ⟨(some 82), (Op.move (Operand.tmp 5)), (some (81, true)), ann0⟩,
  ⟨(some 83), (Op.move (Operand.tmp 3)), (some (81, true)), ann0⟩,
  ⟨(some 84), (Op.move (Operand.tmp 9)), (some (81, true)), ann0⟩,
  ⟨(some 85), (Op.indexAddr 22 (Operand.tmp 83) (Operand.tmp 84)), (some (81, true)), ann0⟩,
  ⟨(some 86), (Op.fieldAddr 26 (Operand.tmp 85) 3), (some (81, true)), ann0⟩,
  ⟨(some 87), (Op.load 9 (Operand.tmp 86)), (some (81, true)), ann0⟩,
  ⟨(some 88), (Op.lookup 34 (Operand.tmp 82) (Operand.tmp 87) false), (some (81, true)), ann0⟩,
  ⟨(some 89), (Op.binOp BinOp.neq 3 (Operand.tmp 88) (Operand.const (Value.int IntKind.i64 1048577)) 3), (some (81, true)), ann0⟩,
  ⟨(some 90), (Op.pick (Operand.tmp 81) (Operand.tmp 89) (Operand.const (Value.bool false))), none, ann0⟩] none) (.tidy [3, 5, 9, 90] z (z + 1)))
 (.cond (Operand.tmp 90) (.seq (.reg [⟨(some 2), (Op.assign (Operand.const (Value.bool false))), none, ann0⟩] none)
 .ret)
 .skip))) (.tidy [3, 5, 9] z (z + 1)))
 (.reg [⟨(some 73), (Op.move (Operand.tmp 9)), none, ann0⟩,
  ⟨(some 74), (Op.binOp BinOp.add 3 (Operand.tmp 73) (Operand.const (Value.int IntKind.i64 1)) 3), none, ann0⟩,
  ⟨(some 9), (Op.assign (Operand.tmp 74)), none, ann0⟩] none))) (.tidy [3, 5, 9] z (z + 1))
def s4_2 (z : Nat) : SC := c4_2 z
theorem e4_2 {C : Pg} {z : Nat} {st : St} {ks : List Fr} {K : Ex → St → Prop} : wpk C (s4_2 z) st ks K ↔ wpk C (c4_2 z) st ks K := Iff.rfl
def s4 (z : Nat) : SFn := ⟨1, 92, [(ResultVar.tmp 2)],
 (.seq (.reg [⟨(some 2), (Op.assign (Operand.const (Value.bool false))), none, ann0⟩] none)
 (.seq (.reg [⟨(some 10), (Op.move (Operand.tmp 0)), none, ann0⟩,
  ⟨(some 11), (Op.call { callee := (Callee.value (Operand.func 19)), args := #[(Operand.tmp 10)], argTypes := #[30] }), none, ann0⟩,
  ⟨(some 3), (Op.assign (Operand.tmp 11)), none, ann0⟩] none)
 (.seq (.reg [⟨(some 12), (Op.move (Operand.tmp 3)), none, ann0⟩,
  ⟨(some 13), (Op.call { callee := (Callee.value (Operand.func 20)), args := #[(Operand.tmp 12)], argTypes := #[22] }), none, ann0⟩,
  ⟨(some 4), (Op.assign (Operand.tmp 13)), none, ann0⟩] none)
 (.seq (.post (.reg [⟨(some 14), (Op.makeMap 34 none), none, ⟨1, false, false⟩⟩,
  ⟨(some 5), (Op.assign (Operand.tmp 14)), none, ann0⟩] none) (.tidy [3, 4, 5] z (z + 1)))
 (.seq (.post (.seq (.reg [⟨(some 6), (Op.assign (Operand.const (Value.int IntKind.i64 0))), none, ann0⟩] none)
 (.post (.block 0 (.pre (.tidy [3, 4, 5, 6] z (z + 1)) (.loop (s4_1 z)))) (.tidy [3, 5] z (z + 1)))) (.tidy [3, 5] z (z + 1)))
 (.seq (.post (.seq (.reg [⟨(some 9), (Op.assign (Operand.const (Value.int IntKind.i64 0))), none, ann0⟩] none)
 (.post (.block 2 (.pre (.tidy [3, 5, 9] z (z + 1)) (.loop (s4_2 z)))) (.tidy [] z (z + 1)))) (.tidy [] z (z + 1)))
 (.seq (.reg [⟨(some 91), (Op.call { callee := (Callee.value (Operand.func 14)), args := #[], argTypes := #[] }), none, ann0⟩,
  ⟨(some 2), (Op.assign (Operand.tmp 91)), none, ann0⟩] none)
 .ret)))))))⟩
theorem F4 (z : Nat) : FOk Try.prog 4 (s4 z) := by unfold FOk; kernel_rfl
def c68_1 (z : Nat) : SC := .post (.seq (.reg [⟨(some 9), (Op.binOp BinOp.lss 3 (Operand.tmp 8) (Operand.tmp 7) 3), none, ann0⟩] none)
 (.seq (.cond (Operand.tmp 9) .skip
 (.exit 0))
 (.seq (.post (.block 1 (.seq (.reg [⟨(some 10), (Op.move (Operand.tmp 8)), none, ann0⟩,
  ⟨(some 5), (Op.assign (Operand.tmp 10)), none, ann0⟩] none)
 (.seq (.post (.reg [⟨(some 11), (Op.move (Operand.tmp 1)), none, ann0⟩,
  ⟨(some 12), (Op.move (Operand.tmp 0)), none, ann0⟩,
  ⟨(some 13), (Op.move (Operand.tmp 5)), none, ann0⟩,
  ⟨(some 14), (Op.indexAddr 22 (Operand.tmp 12) (Operand.tmp 13)), none, ann0⟩,
  ⟨(some 15), (Op.load 26 (Operand.tmp 14)), none, ann0⟩,
  ⟨(some 16), (Op.call { callee := (Callee.value (Operand.tmp 11)), args := #[(Operand.tmp 15)], argTypes := #[26] }), none, ann0⟩] none) (.tidy [0, 1, 5, 7, 8, 16] z (z + 0)))
 (.cond (Operand.tmp 16) (.seq (.reg [⟨(some 17), (Op.move (Operand.tmp 5)), none, ann0⟩,
  ⟨(some 4), (Op.assign (Operand.tmp 17)), none, ann0⟩] none)
 .ret)
 .skip)))) (.tidy [0, 1, 7, 8] z (z + 0)))
 (.reg [⟨(some 18), (Op.binOp BinOp.add 3 (Operand.tmp 8) (Operand.const (Value.int IntKind.i64 1)) 3), none, ann0⟩,
  ⟨(some 8), (Op.move (Operand.tmp 18)), none, ann0⟩] none)))) (.tidy [0, 1, 7, 8] z (z + 0))
def s68_1 (z : Nat) : SC := c68_1 z
theorem e68_1 {C : Pg} {z : Nat} {st : St} {ks : List Fr} {K : Ex → St → Prop} : wpk C (s68_1 z) st ks K ↔ wpk C (c68_1 z) st ks K := Iff.rfl
def s68 (z : Nat) : SFn := ⟨2, 19, [(ResultVar.tmp 4)],
 (.seq (.reg [⟨(some 4), (Op.assign (Operand.const (Value.int IntKind.i64 0))), none, ann0⟩] none)
 (.seq (.post (.seq (.reg [⟨(some 6), (Op.move (Operand.tmp 0)), none, ann0⟩,
  ⟨(some 7), (Op.call { callee := (Callee.builtin Builtin.len), args := #[(Operand.tmp 6)], argTypes := #[22] }), none, ann0⟩,
  ⟨(some 8), (Op.move (Operand.const (Value.int IntKind.i64 0))), none, ann0⟩] none)
 (.post (.block 0 (.pre (.tidy [0, 1, 7, 8] z (z + 0)) (.loop (s68_1 z)))) (.tidy [] z (z + 0)))) (.tidy [] z (z + 0)))
 (.seq (.reg [⟨(some 4), (Op.assign (Operand.const (Value.int IntKind.i64 (-1)))), none, ann0⟩] none)
 .ret)))⟩
theorem F68 (z : Nat) : FOk Try.prog 68 (s68 z) := by unfold FOk; kernel_rfl
def s69 (z : Nat) : SFn := ⟨2, 8, [(ResultVar.tmp 3)],
 (.seq (.reg [⟨(some 2), (Op.box 26 (Operand.tmp 0)), none, ⟨1, false, false⟩⟩,
  ⟨(some 3), (Op.assign (Operand.const (Value.bool false))), none, ann0⟩] none)
 (.seq (.reg [⟨(some 4), (Op.fieldAddr 26 (Operand.tmp 2) 0), none, ann0⟩,
  ⟨(some 5), (Op.load 3 (Operand.tmp 4)), none, ann0⟩,
  ⟨(some 6), (Op.load 3 (Operand.tmp 1)), none, ann0⟩,
  ⟨(some 7), (Op.binOp BinOp.eql 3 (Operand.tmp 5) (Operand.tmp 6) 3), none, ann0⟩,
  ⟨(some 3), (Op.assign (Operand.tmp 7)), none, ann0⟩] none)
 .ret))⟩
theorem F69 (z : Nat) : FOk Try.prog 69 (s69 z) := by unfold FOk; kernel_rfl
def s49 (z : Nat) : SFn := ⟨2, 8, [(ResultVar.tmp 4)],
 (.seq (.reg [⟨(some 3), (Op.box 3 (Operand.tmp 1)), none, ⟨1, false, false⟩⟩,
  ⟨(some 4), (Op.assign (Operand.const (Value.int IntKind.i64 0))), none, ann0⟩] none)
 (.seq (.reg [⟨(some 5), (Op.move (Operand.tmp 0)), none, ann0⟩,
  ⟨(some 6), (Op.makeFunc (Fn.func 69) #[] #[(Operand.tmp 3)]), none, ann0⟩,
  ⟨(some 7), (Op.call { callee := (Callee.value (Operand.func 68)), args := #[(Operand.tmp 5), (Operand.tmp 6)], argTypes := #[22, 113] }), none, ann0⟩,
  ⟨(some 4), (Op.assign (Operand.tmp 7)), none, ann0⟩] none)
 .ret))⟩
theorem F49 (z : Nat) : FOk Try.prog 49 (s49 z) := by unfold FOk; kernel_rfl
def s21 (z : Nat) : SFn := ⟨2, 16, [(ResultVar.cell 4 37), (ResultVar.tmp 5)],
 (.seq (.reg [⟨(some 4), (Op.alloc 37), none, ⟨1, false, false⟩⟩,
  ⟨(some 5), (Op.assign (Operand.const (Value.int IntKind.i64 0))), none, ann0⟩] none)
 (.seq (.reg [⟨(some 7), (Op.move (Operand.tmp 0)), none, ann0⟩,
  ⟨(some 8), (Op.move (Operand.tmp 1)), none, ann0⟩,
  ⟨(some 9), (Op.call { callee := (Callee.value (Operand.func 49)), args := #[(Operand.tmp 7), (Operand.tmp 8)], argTypes := #[22, 3] }), none, ann0⟩,
  ⟨(some 6), (Op.assign (Operand.tmp 9)), none, ann0⟩] none)
 (.seq (.post (.seq (.reg [⟨(some 10), (Op.move (Operand.tmp 6)), none, ann0⟩,
  ⟨(some 11), (Op.binOp BinOp.lss 3 (Operand.tmp 10) (Operand.const (Value.int IntKind.i64 0)) 3), none, ann0⟩] none)
 (.cond (Operand.tmp 11) (.seq (.reg [⟨(some 12), (Op.build 37 #[]), none, ann0⟩,
  ⟨none, (Op.store 37 (Operand.tmp 4) (Operand.tmp 12)), none, ann0⟩,
  ⟨(some 5), (Op.assign (Operand.const (Value.int IntKind.i64 10))), none, ann0⟩] none)
 .ret)
 .skip)) (.tidy [0, 4, 6] z (z + 1)))
 (.seq (.reg [⟨(some 13), (Op.move (Operand.tmp 0)), none, ann0⟩,
  ⟨(some 14), (Op.move (Operand.tmp 6)), none, ann0⟩,
  ⟨(some 15), (Op.call { callee := (Callee.value (Operand.func 48)), args := #[(Operand.tmp 13), (Operand.tmp 14)], argTypes := #[22, 3] }), none, ann0⟩,
  ⟨none, (Op.store 37 (Operand.tmp 4) (Operand.tmp 15)), none, ann0⟩,
  ⟨(some 5), (Op.assign (Operand.const (Value.int IntKind.i64 0))), none, ann0⟩] none)
 .ret))))⟩
theorem F21 (z : Nat) : FOk Try.prog 21 (s21 z) := by unfold FOk; kernel_rfl
def c22_1 (z : Nat) : SC := .post (.seq (.post (.seq (.reg [⟨(some 16), (Op.move (Operand.tmp 6)), none, ann0⟩,
  ⟨(some 17), (Op.move (Operand.tmp 1)), none, ann0⟩,
  ⟨(some 18), (Op.binOp BinOp.gtr 3 (Operand.tmp 16) (Operand.tmp 17) 3), none, ann0⟩] none)
 (.cond (Operand.tmp 18) .skip
 (.exit 0))) (.tidy [0, 1, 4, 5, 6] z (z + 2)))
 (.seq (.post (.block 1 (.seq (.post (.reg [⟨(some 21), (Op.move (Operand.tmp 0)), none, ann0⟩,
  ⟨(some 22), (Op.move (Operand.tmp 6)), none, ann0⟩,
  ⟨(some 23), (Op.indexAddr 22 (Operand.tmp 21) (Operand.tmp 22)), none, ann0⟩,
  ⟨(some 24), (Op.fieldAddr 26 (Operand.tmp 23) 1), none, ann0⟩,
  ⟨(some 25), (Op.load 3 (Operand.tmp 24)), none, ann0⟩,
  ⟨(some 26), (Op.move (Operand.tmp 0)), none, ann0⟩,
  ⟨(some 27), (Op.move (Operand.tmp 1)), none, ann0⟩,
  ⟨(some 28), (Op.indexAddr 22 (Operand.tmp 26) (Operand.tmp 27)), none, ann0⟩,
  ⟨(some 29), (Op.fieldAddr 26 (Operand.tmp 28) 1), none, ann0⟩,
  ⟨(some 30), (Op.load 3 (Operand.tmp 29)), none, ann0⟩,
  ⟨(some 31), (Op.binOp BinOp.eql 3 (Operand.tmp 25) (Operand.tmp 30) 3), none, ann0⟩,
  ⟨(some 32), (Op.move (Operand.tmp 31)), none, ann0⟩,
  ⟨(some 33), (Op.move (Operand.tmp 0)), (some (32, true)), ann0⟩,
  ⟨(some 34), (Op.move (Operand.tmp 6)), (some (32, true)), ann0⟩,
  ⟨(some 35), (Op.indexAddr 22 (Operand.tmp 33) (Operand.tmp 34)), (some (32, true)), ann0⟩,
  ⟨(some 36), (Op.fieldAddr 26 (Operand.tmp 35) 3), (some (32, true)), ann0⟩,
  ⟨(some 37), (Op.load 9 (Operand.tmp 36)), (some (32, true)), ann0⟩,
  ⟨(some 38), (Op.move (Operand.tmp 0)), (some (32, true)), ann0⟩,
  ⟨(some 39), (Op.move (Operand.tmp 1)), (some (32, true)), ann0⟩,
  ⟨(some 40), (Op.indexAddr 22 (Operand.tmp 38) (Operand.tmp 39)), (some (32, true)), ann0⟩,
  ⟨(some 41), (Op.fieldAddr 26 (Operand.tmp 40) 3), (some (32, true)), ann0⟩,
  ⟨(some 42), (Op.load 9 (Operand.tmp 41)), (some (32, true)), ann0⟩,
  ⟨(some 43), (Op.binOp BinOp.eql 9 (Operand.tmp 37) (Operand.tmp 42) 9), (some (32, true)), ann0⟩,
  ⟨(some 44), (Op.pick (Operand.tmp 32) (Operand.tmp 43) (Operand.const (Value.bool false))), none, ann0⟩,
  ⟨(some 45), (Op.move (Operand.tmp 44)), none, ann0⟩,
  ⟨(some 46), (Op.move (Operand.tmp 0)), (some (45, true)), ann0⟩,
  ⟨(some 47), (Op.move (Operand.tmp 6)), (some (45, true)), ann0⟩,
  ⟨(some 48), (Op.indexAddr 22 (Operand.tmp 46) (Operand.tmp 47)), (some (45, true)), ann0⟩,
  ⟨(some 49), (Op.fieldAddr 26 (Operand.tmp 48) 4), (some (45, true)), ann0⟩,
  ⟨(some 50), (Op.load 9 (Operand.tmp 49)), (some (45, true)), ann0⟩,
  ⟨(some 51), (Op.move (Operand.tmp 0)), (some (45, true)), ann0⟩,
  ⟨(some 52), (Op.move (Operand.tmp 1)), (some (45, true)), ann0⟩,
  ⟨(some 53), (Op.indexAddr 22 (Operand.tmp 51) (Operand.tmp 52)), (some (45, true)), ann0⟩,
  ⟨(some 54), (Op.fieldAddr 26 (Operand.tmp 53) 4), (some (45, true)), ann0⟩,
  ⟨(some 55), (Op.load 9 (Operand.tmp 54)), (some (45, true)), ann0⟩,
  ⟨(some 56), (Op.binOp BinOp.eql 9 (Operand.tmp 50) (Operand.tmp 55) 9), (some (45, true)), ann0⟩,
  ⟨(some 57), (Op.pick (Operand.tmp 45) (Operand.tmp 56) (Operand.const (Value.bool false))), none, ann0⟩] (some [0, 0, 3, 7, 15, 0, 0, 96, 224, 480, 1023, 2047, 4095, 4095, 16383, 32767, 65535, 4095, 4095, 397311, 921599, 1970175, 4194303, 8388607, 16777215, 33554431, 33554431, 134217727, 268435455, 536870911, 33554431, 33554431, 3254779903, 7549747199, 16139681791, 34359738367, 68719476735])) (.tidy [0, 1, 4, 5, 6, 57] z (z + 2)))
 (.cond (Operand.tmp 57) (.reg [⟨(some 58), (Op.move (Operand.tmp 0)), none, ann0⟩,
  ⟨(some 59), (Op.move (Operand.tmp 6)), none, ann0⟩,
  ⟨(some 60), (Op.indexAddr 22 (Operand.tmp 58) (Operand.tmp 59)), none, ann0⟩,
  ⟨(some 61), (Op.fieldAddr 26 (Operand.tmp 60) 2), none, ann0⟩,
  ⟨(some 62), (Op.load 3 (Operand.tmp 61)), none, ann0⟩,
  ⟨(some 63), (Op.fieldAddr 37 (Operand.tmp 5) 1), none, ann0⟩,
  ⟨none, (Op.store 3 (Operand.tmp 63) (Operand.tmp 62)), none, ann0⟩] none)
 .skip))) (.tidy [0, 1, 4, 5, 6] z (z + 2)))
 (.reg [⟨(some 19), (Op.move (Operand.tmp 6)), none, ann0⟩,
  ⟨(some 20), (Op.binOp BinOp.sub 3 (Operand.tmp 19) (Operand.const (Value.int IntKind.i64 1)) 3), none, ann0⟩,
  ⟨(some 6), (Op.assign (Operand.tmp 20)), none, ann0⟩] none))) (.tidy [0, 1, 4, 5, 6] z (z + 2))
def s22_1 (z : Nat) : SC := c22_1 z
theorem e22_1 {C : Pg} {z : Nat} {st : St} {ks : List Fr} {K : Ex → St → Prop} : wpk C (s22_1 z) st ks K ↔ wpk C (c22_1 z) st ks K := Iff.rfl
def s22 (z : Nat) : SFn := ⟨2, 71, [(ResultVar.cell 4 37)],
 (.seq (.reg [⟨(some 4), (Op.alloc 37), none, ⟨1, false, false⟩⟩] none)
 (.seq (.post (.reg [⟨(some 7), (Op.move (Operand.tmp 0)), none, ann0⟩,
  ⟨(some 8), (Op.move (Operand.tmp 1)), none, ann0⟩,
  ⟨(some 9), (Op.indexAddr 22 (Operand.tmp 7) (Operand.tmp 8)), none, ann0⟩,
  ⟨(some 10), (Op.fieldAddr 26 (Operand.tmp 9) 2), none, ann0⟩,
  ⟨(some 11), (Op.load 3 (Operand.tmp 10)), none, ann0⟩,
  ⟨(some 12), (Op.build 37 #[(0, (Operand.tmp 11)), (1, (Operand.const (Value.int IntKind.i64 1048577)))]), none, ann0⟩,
  ⟨(some 5), (Op.alloc 37), none, ⟨1, false, false⟩⟩,
  ⟨none, (Op.store 37 (Operand.tmp 5) (Operand.tmp 12)), none, ann0⟩] none) (.tidy [0, 1, 4, 5] z (z + 2)))
 (.seq (.post (.seq (.reg [⟨(some 13), (Op.move (Operand.tmp 0)), none, ann0⟩,
  ⟨(some 14), (Op.call { callee := (Callee.builtin Builtin.len), args := #[(Operand.tmp 13)], argTypes := #[22] }), none, ann0⟩,
  ⟨(some 15), (Op.binOp BinOp.sub 3 (Operand.tmp 14) (Operand.const (Value.int IntKind.i64 1)) 3), none, ann0⟩,
  ⟨(some 6), (Op.assign (Operand.tmp 15)), none, ann0⟩] none)
 (.post (.block 0 (.pre (.tidy [0, 1, 4, 5, 6] z (z + 2)) (.loop (s22_1 z)))) (.tidy [4, 5] z (z + 2)))) (.tidy [4, 5] z (z + 2)))
 (.seq (.post (.seq (.reg [⟨(some 64), (Op.fieldAddr 37 (Operand.tmp 5) 0), none, ann0⟩,
  ⟨(some 65), (Op.load 3 (Operand.tmp 64)), none, ann0⟩,
  ⟨(some 66), (Op.fieldAddr 37 (Operand.tmp 5) 1), none, ann0⟩,
  ⟨(some 67), (Op.load 3 (Operand.tmp 66)), none, ann0⟩,
  ⟨(some 68), (Op.binOp BinOp.geq 3 (Operand.tmp 65) (Operand.tmp 67) 3), none, ann0⟩] none)
 (.cond (Operand.tmp 68) (.seq (.reg [⟨(some 69), (Op.build 37 #[]), none, ann0⟩,
  ⟨none, (Op.store 37 (Operand.tmp 4) (Operand.tmp 69)), none, ann0⟩] none)
 .ret)
 .skip)) (.tidy [4, 5] z (z + 2)))
 (.seq (.reg [⟨(some 70), (Op.load 37 (Operand.tmp 5)), none, ann0⟩,
  ⟨none, (Op.store 37 (Operand.tmp 4) (Operand.tmp 70)), none, ann0⟩] none)
 .ret)))))⟩
theorem F22 (z : Nat) : FOk Try.prog 22 (s22 z) := by unfold FOk; kernel_rfl
def c5_1 (z : Nat) : SC := .post (.seq (.seq (.post (.reg [⟨(some 21), (Op.move (Operand.tmp 9)), none, ann0⟩,
  ⟨(some 22), (Op.move (Operand.tmp 5)), none, ann0⟩,
  ⟨(some 23), (Op.call { callee := (Callee.builtin Builtin.len), args := #[(Operand.tmp 22)], argTypes := #[22] }), none, ann0⟩,
  ⟨(some 24), (Op.binOp BinOp.lss 3 (Operand.tmp 21) (Operand.tmp 23) 3), none, ann0⟩] none) (.tidy [1, 5, 6, 7, 8, 9, 24] z (z + 0)))
 (.cond (Operand.tmp 24) .skip
 (.exit 0)))
 (.seq (.post (.block 1 (.seq (.post (.reg [⟨(some 28), (Op.move (Operand.tmp 5)), none, ann0⟩,
  ⟨(some 29), (Op.move (Operand.tmp 5)), none, ann0⟩,
  ⟨(some 30), (Op.move (Operand.tmp 9)), none, ann0⟩,
  ⟨(some 31), (Op.indexAddr 22 (Operand.tmp 29) (Operand.tmp 30)), none, ann0⟩,
  ⟨(some 32), (Op.fieldAddr 26 (Operand.tmp 31) 0), none, ann0⟩,
  ⟨(some 33), (Op.load 3 (Operand.tmp 32)), none, ann0⟩,
  ⟨(some 34), (Op.call { callee := (Callee.value (Operand.func 21)), args := #[(Operand.tmp 28), (Operand.tmp 33)], argTypes := #[22, 3] }), none, ann0⟩,
  ⟨(some 27), (Op.move (Operand.tmp 34)), none, ann0⟩,
  ⟨(some 35), (Op.extract (Operand.tmp 27) 0), none, ann0⟩,
  ⟨(some 36), (Op.extract (Operand.tmp 27) 1), none, ann0⟩,
  ⟨(some 10), (Op.alloc 37), none, ⟨1, false, false⟩⟩,
  ⟨none, (Op.store 37 (Operand.tmp 10) (Operand.tmp 35)), none, ann0⟩,
  ⟨(some 11), (Op.assign (Operand.tmp 36)), none, ann0⟩] none) (.tidy [1, 5, 6, 7, 8, 9, 10, 11] z (z + 1)))
 (.seq (.reg [⟨(some 37), (Op.move (Operand.tmp 5)), none, ann0⟩,
  ⟨(some 38), (Op.move (Operand.tmp 9)), none, ann0⟩,
  ⟨(some 39), (Op.call { callee := (Callee.value (Operand.func 22)), args := #[(Operand.tmp 37), (Operand.tmp 38)], argTypes := #[22, 3] }), none, ann0⟩,
  ⟨(some 12), (Op.alloc 37), none, ⟨1, false, false⟩⟩,
  ⟨none, (Op.store 37 (Operand.tmp 12) (Operand.tmp 39)), none, ann0⟩] none)
 (.seq (.post (.seq (.post (.reg [⟨(some 40), (Op.move (Operand.tmp 11)), none, ann0⟩,
  ⟨(some 41), (Op.binOp BinOp.neq 27 (Operand.tmp 40) (Operand.const (Value.int IntKind.i64 0)) 27), none, ann0⟩,
  ⟨(some 42), (Op.move (Operand.tmp 41)), none, ann0⟩,
  ⟨(some 43), (Op.load 37 (Operand.tmp 10)), (some (42, false)), ann0⟩,
  ⟨(some 44), (Op.load 37 (Operand.tmp 12)), (some (42, false)), ann0⟩,
  ⟨(some 45), (Op.binOp BinOp.neq 37 (Operand.tmp 43) (Operand.tmp 44) 37), (some (42, false)), ann0⟩,
  ⟨(some 46), (Op.pick (Operand.tmp 42) (Operand.const (Value.bool true)) (Operand.tmp 45)), none, ann0⟩] none) (.tidy [1, 5, 6, 7, 8, 9, 12, 46] z (z + 2)))
 (.cond (Operand.tmp 46) (.seq (.reg [⟨(some 4), (Op.assign (Operand.const (Value.bool false))), none, ann0⟩] none)
 .ret)
 .skip)) (.tidy [1, 5, 6, 7, 8, 9, 12] z (z + 2)))
 (.seq (.post (.reg [⟨(some 47), (Op.move (Operand.tmp 8)), none, ann0⟩,
  ⟨(some 48), (Op.move (Operand.tmp 47)), none, ann0⟩,
  ⟨(some 49), (Op.move (Operand.tmp 5)), (some (48, false)), ann0⟩,
  ⟨(some 50), (Op.move (Operand.tmp 9)), (some (48, false)), ann0⟩,
  ⟨(some 51), (Op.indexAddr 22 (Operand.tmp 49) (Operand.tmp 50)), (some (48, false)), ann0⟩,
  ⟨(some 52), (Op.fieldAddr 26 (Operand.tmp 51) 0), (some (48, false)), ann0⟩,
  ⟨(some 53), (Op.load 3 (Operand.tmp 52)), (some (48, false)), ann0⟩,
  ⟨(some 54), (Op.move (Operand.tmp 1)), (some (48, false)), ann0⟩,
  ⟨(some 55), (Op.binOp BinOp.eql 3 (Operand.tmp 53) (Operand.tmp 54) 3), (some (48, false)), ann0⟩,
  ⟨(some 56), (Op.pick (Operand.tmp 48) (Operand.const (Value.bool true)) (Operand.tmp 55)), none, ann0⟩,
  ⟨(some 8), (Op.assign (Operand.tmp 56)), none, ann0⟩] none) (.tidy [1, 5, 6, 7, 8, 9, 12] z (z + 2)))
 (.seq (.post (.seq (.post (.reg [⟨(some 57), (Op.move (Operand.tmp 5)), none, ann0⟩,
  ⟨(some 58), (Op.move (Operand.tmp 9)), none, ann0⟩,
  ⟨(some 59), (Op.indexAddr 22 (Operand.tmp 57) (Operand.tmp 58)), none, ann0⟩,
  ⟨(some 60), (Op.fieldAddr 26 (Operand.tmp 59) 1), none, ann0⟩,
  ⟨(some 61), (Op.load 3 (Operand.tmp 60)), none, ann0⟩,
  ⟨(some 62), (Op.binOp BinOp.neq 3 (Operand.tmp 61) (Operand.const (Value.int IntKind.i64 1)) 3), none, ann0⟩,
  ⟨(some 63), (Op.move (Operand.tmp 62)), none, ann0⟩,
  ⟨(some 64), (Op.load 37 (Operand.tmp 12)), (some (63, false)), ann0⟩,
  ⟨(some 65), (Op.build 37 #[]), (some (63, false)), ann0⟩,
  ⟨(some 66), (Op.binOp BinOp.eql 37 (Operand.tmp 64) (Operand.tmp 65) 37), (some (63, false)), ann0⟩,
  ⟨(some 67), (Op.pick (Operand.tmp 63) (Operand.const (Value.bool true)) (Operand.tmp 66)), none, ann0⟩] none) (.tidy [1, 5, 6, 7, 8, 9, 12, 67] z (z + 2)))
 (.cond (Operand.tmp 67) (.exit 1)
 .skip)) (.tidy [1, 5, 6, 7, 8, 9, 12] z (z + 2)))
 (.seq (.post (.seq (.post (.reg [⟨(some 68), (Op.move (Operand.tmp 7)), none, ann0⟩,
  ⟨(some 69), (Op.move (Operand.tmp 6)), none, ann0⟩,
  ⟨(some 70), (Op.call { callee := (Callee.builtin Builtin.len), args := #[(Operand.tmp 69)], argTypes := #[32] }), none, ann0⟩,
  ⟨(some 71), (Op.binOp BinOp.geq 3 (Operand.tmp 68) (Operand.tmp 70) 3), none, ann0⟩,
  ⟨(some 72), (Op.move (Operand.tmp 71)), none, ann0⟩,
  ⟨(some 73), (Op.move (Operand.tmp 6)), (some (72, false)), ann0⟩,
  ⟨(some 74), (Op.move (Operand.tmp 7)), (some (72, false)), ann0⟩,
  ⟨(some 75), (Op.indexAddr 32 (Operand.tmp 73) (Operand.tmp 74)), (some (72, false)), ann0⟩,
  ⟨(some 76), (Op.load 39 (Operand.tmp 75)), (some (72, false)), ann0⟩,
  ⟨(some 77), (Op.move (Operand.tmp 5)), (some (72, false)), ann0⟩,
  ⟨(some 78), (Op.move (Operand.tmp 9)), (some (72, false)), ann0⟩,
  ⟨(some 79), (Op.indexAddr 22 (Operand.tmp 77) (Operand.tmp 78)), (some (72, false)), ann0⟩,
  ⟨(some 80), (Op.fieldAddr 26 (Operand.tmp 79) 0), (some (72, false)), ann0⟩,
  ⟨(some 81), (Op.load 3 (Operand.tmp 80)), (some (72, false)), ann0⟩,
  ⟨(some 82), (Op.move (Operand.tmp 5)), (some (72, false)), ann0⟩,
  ⟨(some 83), (Op.move (Operand.tmp 9)), (some (72, false)), ann0⟩,
  ⟨(some 84), (Op.indexAddr 22 (Operand.tmp 82) (Operand.tmp 83)), (some (72, false)), ann0⟩,
  ⟨(some 85), (Op.fieldAddr 26 (Operand.tmp 84) 3), (some (72, false)), ann0⟩,
  ⟨(some 86), (Op.load 9 (Operand.tmp 85)), (some (72, false)), ann0⟩,
  ⟨(some 87), (Op.move (Operand.tmp 5)), (some (72, false)), ann0⟩,
  ⟨(some 88), (Op.move (Operand.tmp 9)), (some (72, false)), ann0⟩,
  ⟨(some 89), (Op.indexAddr 22 (Operand.tmp 87) (Operand.tmp 88)), (some (72, false)), ann0⟩,
  ⟨(some 90), (Op.fieldAddr 26 (Operand.tmp 89) 5), (some (72, false)), ann0⟩,
  ⟨(some 91), (Op.load 9 (Operand.tmp 90)), (some (72, false)), ann0⟩,
  ⟨(some 92), (Op.load 37 (Operand.tmp 12)), (some (72, false)), ann0⟩,
  ⟨(some 93), (Op.build 39 #[(0, (Operand.tmp 81)), (1, (Operand.tmp 86)), (2, (Operand.tmp 91)), (3, (Operand.tmp 92))]), (some (72, false)), ann0⟩,
  ⟨(some 94), (Op.binOp BinOp.neq 39 (Operand.tmp 76) (Operand.tmp 93) 39), (some (72, false)), ann0⟩,
  ⟨(some 95), (Op.pick (Operand.tmp 72) (Operand.const (Value.bool true)) (Operand.tmp 94)), none, ann0⟩] (some [0, 0, 2, 7, 15, 31, 31, 127, 255, 31, 31, 1567, 3615, 7711, 31, 31, 49183, 114719, 245791, 31, 31, 1572895, 3670047, 7864351, 31, 33553951, 67108863, 134217727])) (.tidy [1, 5, 6, 7, 8, 9, 95] z (z + 2)))
 (.cond (Operand.tmp 95) (.seq (.reg [⟨(some 4), (Op.assign (Operand.const (Value.bool false))), none, ann0⟩] none)
 .ret)
 .skip)) (.tidy [1, 5, 6, 7, 8, 9] z (z + 2)))
 (.reg [⟨(some 96), (Op.move (Operand.tmp 7)), none, ann0⟩,
  ⟨(some 97), (Op.binOp BinOp.add 3 (Operand.tmp 96) (Operand.const (Value.int IntKind.i64 1)) 3), none, ann0⟩,
  ⟨(some 7), (Op.assign (Operand.tmp 97)), none, ann0⟩] none)))))))) (.tidy [1, 5, 6, 7, 8, 9] z (z + 2)))
 (.reg [⟨(some 25), (Op.move (Operand.tmp 9)), none, ann0⟩,
  ⟨(some 26), (Op.binOp BinOp.add 3 (Operand.tmp 25) (Operand.const (Value.int IntKind.i64 1)) 3), none, ann0⟩,
  ⟨(some 9), (Op.assign (Operand.tmp 26)), none, ann0⟩] none))) (.tidy [1, 5, 6, 7, 8, 9] z (z + 0))
def s5_1 (z : Nat) : SC := c5_1 z
theorem e5_1 {C : Pg} {z : Nat} {st : St} {ks : List Fr} {K : Ex → St → Prop} : wpk C (s5_1 z) st ks K ↔ wpk C (c5_1 z) st ks K := Iff.rfl
def s5 (z : Nat) : SFn := ⟨2, 120, [(ResultVar.tmp 4)],
 (.seq (.reg [⟨(some 4), (Op.assign (Operand.const (Value.bool false))), none, ann0⟩] none)
 (.seq (.reg [⟨(some 15), (Op.move (Operand.tmp 0)), none, ann0⟩,
  ⟨(some 16), (Op.call { callee := (Callee.value (Operand.func 19)), args := #[(Operand.tmp 15)], argTypes := #[30] }), none, ann0⟩,
  ⟨(some 5), (Op.assign (Operand.tmp 16)), none, ann0⟩] none)
 (.seq (.reg [⟨(some 17), (Op.move (Operand.tmp 5)), none, ann0⟩,
  ⟨(some 18), (Op.call { callee := (Callee.value (Operand.func 20)), args := #[(Operand.tmp 17)], argTypes := #[22] }), none, ann0⟩,
  ⟨(some 6), (Op.assign (Operand.tmp 18)), none, ann0⟩] none)
 (.seq (.reg [⟨(some 7), (Op.assign (Operand.const (Value.int IntKind.i64 0))), none, ann0⟩,
  ⟨(some 8), (Op.assign (Operand.const (Value.bool false))), none, ann0⟩] none)
 (.seq (.seq (.post (.reg [⟨(some 19), (Op.call { callee := (Callee.value (Operand.func 14)), args := #[], argTypes := #[] }), none, ann0⟩,
  ⟨(some 20), (Op.unOp UnOp.not 4 (Operand.tmp 19)), none, ann0⟩] none) (.tidy [1, 5, 6, 7, 8, 20] z (z + 0)))
 (.cond (Operand.tmp 20) (.seq (.reg [⟨(some 4), (Op.assign (Operand.const (Value.bool false))), none, ann0⟩] none)
 .ret)
 .skip))
 (.seq (.post (.seq (.reg [⟨(some 9), (Op.assign (Operand.const (Value.int IntKind.i64 0))), none, ann0⟩] none)
 (.post (.block 0 (.pre (.tidy [1, 5, 6, 7, 8, 9] z (z + 0)) (.loop (s5_1 z)))) (.tidy [1, 5, 6, 7, 8] z (z + 0)))) (.tidy [1, 5, 6, 7, 8] z (z + 0)))
 (.seq (.post (.reg [⟨(some 99), (Op.move (Operand.tmp 5)), none, ann0⟩,
  ⟨(some 100), (Op.move (Operand.tmp 1)), none, ann0⟩,
  ⟨(some 101), (Op.call { callee := (Callee.value (Operand.func 21)), args := #[(Operand.tmp 99), (Operand.tmp 100)], argTypes := #[22, 3] }), none, ann0⟩,
  ⟨(some 98), (Op.move (Operand.tmp 101)), none, ann0⟩,
  ⟨(some 102), (Op.extract (Operand.tmp 98) 0), none, ann0⟩,
  ⟨(some 103), (Op.extract (Operand.tmp 98) 1), none, ann0⟩,
  ⟨(some 13), (Op.alloc 37), none, ⟨1, false, false⟩⟩,
  ⟨none, (Op.store 37 (Operand.tmp 13) (Operand.tmp 102)), none, ann0⟩,
  ⟨(some 14), (Op.assign (Operand.tmp 103)), none, ann0⟩] none) (.tidy [6, 7, 8, 13, 14] z (z + 1)))
 (.seq (.reg [⟨(some 104), (Op.move (Operand.tmp 7)), none, ann0⟩,
  ⟨(some 105), (Op.move (Operand.tmp 6)), none, ann0⟩,
  ⟨(some 106), (Op.call { callee := (Callee.builtin Builtin.len), args := #[(Operand.tmp 105)], argTypes := #[32] }), none, ann0⟩,
  ⟨(some 107), (Op.binOp BinOp.eql 3 (Operand.tmp 104) (Operand.tmp 106) 3), none, ann0⟩,
  ⟨(some 108), (Op.move (Operand.tmp 107)), none, ann0⟩,
  ⟨(some 109), (Op.move (Operand.tmp 8)), (some (108, true)), ann0⟩,
  ⟨(some 110), (Op.move (Operand.tmp 109)), (some (108, true)), ann0⟩,
  ⟨(some 111), (Op.move (Operand.tmp 14)), (some (110, false)), ann0⟩,
  ⟨(some 112), (Op.binOp BinOp.eql 27 (Operand.tmp 111) (Operand.const (Value.int IntKind.i64 10)) 27), (some (110, false)), ann0⟩,
  ⟨(some 113), (Op.move (Operand.tmp 112)), (some (110, false)), ann0⟩,
  ⟨(some 114), (Op.load 37 (Operand.tmp 13)), (some (113, true)), ann0⟩,
  ⟨(some 115), (Op.build 37 #[]), (some (113, true)), ann0⟩,
  ⟨(some 116), (Op.binOp BinOp.eql 37 (Operand.tmp 114) (Operand.tmp 115) 37), (some (113, true)), ann0⟩,
  ⟨(some 117), (Op.pick (Operand.tmp 113) (Operand.tmp 116) (Operand.const (Value.bool false))), (some (110, false)), ann0⟩,
  ⟨(some 118), (Op.pick (Operand.tmp 110) (Operand.const (Value.bool true)) (Operand.tmp 117)), (some (108, true)), ann0⟩,
  ⟨(some 119), (Op.pick (Operand.tmp 108) (Operand.tmp 118) (Operand.const (Value.bool false))), none, ann0⟩,
  ⟨(some 4), (Op.assign (Operand.tmp 119)), none, ann0⟩] none)
 .ret))))))))⟩
theorem F5 (z : Nat) : FOk Try.prog 5 (s5 z) := by unfold FOk; kernel_rfl
def s31 (z : Nat) : SFn := ⟨2, 15, [(ResultVar.tmp 4)],
 (.seq (.reg [⟨(some 2), (Op.box 37 (Operand.tmp 0)), none, ⟨1, false, false⟩⟩,
  ⟨(some 4), (Op.assign (Operand.const (Value.bool false))), none, ann0⟩] none)
 (.seq (.reg [⟨(some 5), (Op.fieldAddr 37 (Operand.tmp 2) 0), none, ann0⟩,
  ⟨(some 6), (Op.load 3 (Operand.tmp 5)), none, ann0⟩,
  ⟨(some 7), (Op.move (Operand.tmp 1)), none, ann0⟩,
  ⟨(some 8), (Op.binOp BinOp.leq 3 (Operand.tmp 6) (Operand.tmp 7) 3), none, ann0⟩,
  ⟨(some 9), (Op.move (Operand.tmp 8)), none, ann0⟩,
  ⟨(some 10), (Op.move (Operand.tmp 1)), (some (9, true)), ann0⟩,
  ⟨(some 11), (Op.fieldAddr 37 (Operand.tmp 2) 1), (some (9, true)), ann0⟩,
  ⟨(some 12), (Op.load 3 (Operand.tmp 11)), (some (9, true)), ann0⟩,
  ⟨(some 13), (Op.binOp BinOp.lss 3 (Operand.tmp 10) (Operand.tmp 12) 3), (some (9, true)), ann0⟩,
  ⟨(some 14), (Op.pick (Operand.tmp 9) (Operand.tmp 13) (Operand.const (Value.bool false))), none, ann0⟩,
  ⟨(some 4), (Op.assign (Operand.tmp 14)), none, ann0⟩] none)
 .ret))⟩
theorem F31 (z : Nat) : FOk Try.prog 31 (s31 z) := by unfold FOk; kernel_rfl
def c27_1 (z : Nat) : SC := .post (.seq (.post (.seq (.reg [⟨(some 8), (Op.move (Operand.tmp 7)), none, ann0⟩,
  ⟨(some 9), (Op.move (Operand.tmp 0)), none, ann0⟩,
  ⟨(some 10), (Op.call { callee := (Callee.builtin Builtin.len), args := #[(Operand.tmp 9)], argTypes := #[22] }), none, ann0⟩,
  ⟨(some 11), (Op.binOp BinOp.lss 3 (Operand.tmp 8) (Operand.tmp 10) 3), none, ann0⟩] none)
 (.cond (Operand.tmp 11) .skip
 (.exit 0))) (.tidy [0, 1, 2, 7] z (z + 0)))
 (.seq (.post (.block 1 (.seq (.post (.reg [⟨(some 14), (Op.move (Operand.tmp 0)), none, ann0⟩,
  ⟨(some 15), (Op.move (Operand.tmp 7)), none, ann0⟩,
  ⟨(some 16), (Op.indexAddr 22 (Operand.tmp 14) (Operand.tmp 15)), none, ann0⟩,
  ⟨(some 17), (Op.fieldAddr 26 (Operand.tmp 16) 1), none, ann0⟩,
  ⟨(some 18), (Op.load 3 (Operand.tmp 17)), none, ann0⟩,
  ⟨(some 19), (Op.binOp BinOp.eql 3 (Operand.tmp 18) (Operand.const (Value.int IntKind.i64 1)) 3), none, ann0⟩,
  ⟨(some 20), (Op.move (Operand.tmp 19)), none, ann0⟩,
  ⟨(some 21), (Op.move (Operand.tmp 0)), (some (20, true)), ann0⟩,
  ⟨(some 22), (Op.move (Operand.tmp 7)), (some (20, true)), ann0⟩,
  ⟨(some 23), (Op.indexAddr 22 (Operand.tmp 21) (Operand.tmp 22)), (some (20, true)), ann0⟩,
  ⟨(some 24), (Op.fieldAddr 26 (Operand.tmp 23) 3), (some (20, true)), ann0⟩,
  ⟨(some 25), (Op.load 9 (Operand.tmp 24)), (some (20, true)), ann0⟩,
  ⟨(some 26), (Op.move (Operand.tmp 1)), (some (20, true)), ann0⟩,
  ⟨(some 27), (Op.binOp BinOp.eql 9 (Operand.tmp 25) (Operand.tmp 26) 9), (some (20, true)), ann0⟩,
  ⟨(some 28), (Op.pick (Operand.tmp 20) (Operand.tmp 27) (Operand.const (Value.bool false))), none, ann0⟩,
  ⟨(some 29), (Op.move (Operand.tmp 28)), none, ann0⟩,
  ⟨(some 30), (Op.move (Operand.tmp 0)), (some (29, true)), ann0⟩,
  ⟨(some 31), (Op.move (Operand.tmp 7)), (some (29, true)), ann0⟩,
  ⟨(some 32), (Op.call { callee := (Callee.value (Operand.func 22)), args := #[(Operand.tmp 30), (Operand.tmp 31)], argTypes := #[22, 3] }), (some (29, true)), ann0⟩,
  ⟨(some 33), (Op.move (Operand.tmp 2)), (some (29, true)), ann0⟩,
  ⟨(some 34), (Op.call { callee := (Callee.value (Operand.func 31)), args := #[(Operand.tmp 32), (Operand.tmp 33)], argTypes := #[37, 3] }), (some (29, true)), ann0⟩,
  ⟨(some 35), (Op.pick (Operand.tmp 29) (Operand.tmp 34) (Operand.const (Value.bool false))), none, ann0⟩] none) (.tidy [0, 1, 2, 7, 35] z (z + 0)))
 (.cond (Operand.tmp 35) (.seq (.reg [⟨(some 36), (Op.move (Operand.tmp 7)), none, ann0⟩,
  ⟨(some 6), (Op.assign (Operand.tmp 36)), none, ann0⟩] none)
 .ret)
 .skip))) (.tidy [0, 1, 2, 7] z (z + 0)))
 (.reg [⟨(some 12), (Op.move (Operand.tmp 7)), none, ann0⟩,
  ⟨(some 13), (Op.binOp BinOp.add 3 (Operand.tmp 12) (Operand.const (Value.int IntKind.i64 1)) 3), none, ann0⟩,
  ⟨(some 7), (Op.assign (Operand.tmp 13)), none, ann0⟩] none))) (.tidy [0, 1, 2, 7] z (z + 0))
def s27_1 (z : Nat) : SC := c27_1 z
theorem e27_1 {C : Pg} {z : Nat} {st : St} {ks : List Fr} {K : Ex → St → Prop} : wpk C (s27_1 z) st ks K ↔ wpk C (c27_1 z) st ks K := Iff.rfl
def s27 (z : Nat) : SFn := ⟨3, 37, [(ResultVar.tmp 6)],
 (.seq (.reg [⟨(some 6), (Op.assign (Operand.const (Value.int IntKind.i64 0))), none, ann0⟩] none)
 (.seq (.post (.seq (.reg [⟨(some 7), (Op.assign (Operand.const (Value.int IntKind.i64 0))), none, ann0⟩] none)
 (.post (.block 0 (.pre (.tidy [0, 1, 2, 7] z (z + 0)) (.loop (s27_1 z)))) (.tidy [] z (z + 0)))) (.tidy [] z (z + 0)))
 (.seq (.reg [⟨(some 6), (Op.assign (Operand.const (Value.int IntKind.i64 (-1)))), none, ann0⟩] none)
 .ret)))⟩
theorem F27 (z : Nat) : FOk Try.prog 27 (s27 z) := by unfold FOk; kernel_rfl
def c7_3 (z : Nat) : SC := .post (.seq (.post (.seq (.reg [⟨(some 94), (Op.move (Operand.tmp 16)), none, ann0⟩,
  ⟨(some 95), (Op.move (Operand.tmp 13)), none, ann0⟩,
  ⟨(some 96), (Op.call { callee := (Callee.builtin Builtin.len), args := #[(Operand.tmp 95)], argTypes := #[66] }), none, ann0⟩,
  ⟨(some 97), (Op.binOp BinOp.lss 3 (Operand.tmp 94) (Operand.tmp 96) 3), none, ann0⟩] none)
 (.cond (Operand.tmp 97) .skip
 (.exit 4))) (.tidy [2, 7, 8, 9, 13, 14, 15, 16] z (z + 3)))
 (.seq (.post (.block 5 (.reg [⟨(some 100), (Op.move (Operand.tmp 15)), none, ann0⟩,
  ⟨(some 101), (Op.move (Operand.tmp 100)), none, ann0⟩,
  ⟨(some 102), (Op.move (Operand.tmp 13)), (some (101, false)), ann0⟩,
  ⟨(some 103), (Op.move (Operand.tmp 16)), (some (101, false)), ann0⟩,
  ⟨(some 104), (Op.indexAddr 66 (Operand.tmp 102) (Operand.tmp 103)), (some (101, false)), ann0⟩,
  ⟨(some 105), (Op.load 9 (Operand.tmp 104)), (some (101, false)), ann0⟩,
  ⟨(some 106), (Op.move (Operand.tmp 7)), (some (101, false)), ann0⟩,
  ⟨(some 107), (Op.move (Operand.tmp 14)), (some (101, false)), ann0⟩,
  ⟨(some 108), (Op.indexAddr 22 (Operand.tmp 106) (Operand.tmp 107)), (some (101, false)), ann0⟩,
  ⟨(some 109), (Op.fieldAddr 26 (Operand.tmp 108) 5), (some (101, false)), ann0⟩,
  ⟨(some 110), (Op.load 9 (Operand.tmp 109)), (some (101, false)), ann0⟩,
  ⟨(some 111), (Op.binOp BinOp.eql 9 (Operand.tmp 105) (Operand.tmp 110) 9), (some (101, false)), ann0⟩,
  ⟨(some 112), (Op.pick (Operand.tmp 101) (Operand.const (Value.bool true)) (Operand.tmp 111)), none, ann0⟩,
  ⟨(some 15), (Op.assign (Operand.tmp 112)), none, ann0⟩] (some [0, 1, 3, 3, 15, 31, 3, 3, 195, 451, 963, 2047, 4095, 8191]))) (.tidy [2, 7, 8, 9, 13, 14, 15, 16] z (z + 3)))
 (.reg [⟨(some 98), (Op.move (Operand.tmp 16)), none, ann0⟩,
  ⟨(some 99), (Op.binOp BinOp.add 3 (Operand.tmp 98) (Operand.const (Value.int IntKind.i64 1)) 3), none, ann0⟩,
  ⟨(some 16), (Op.assign (Operand.tmp 99)), none, ann0⟩] none))) (.tidy [2, 7, 8, 9, 13, 14, 15, 16] z (z + 3))
def s7_3 (z : Nat) : SC := c7_3 z
theorem e7_3 {C : Pg} {z : Nat} {st : St} {ks : List Fr} {K : Ex → St → Prop} : wpk C (s7_3 z) st ks K ↔ wpk C (c7_3 z) st ks K := Iff.rfl
def c7_2 (z : Nat) : SC := .post (.seq (.post (.seq (.reg [⟨(some 70), (Op.move (Operand.tmp 14)), none, ann0⟩,
  ⟨(some 71), (Op.move (Operand.tmp 7)), none, ann0⟩,
  ⟨(some 72), (Op.call { callee := (Callee.builtin Builtin.len), args := #[(Operand.tmp 71)], argTypes := #[22] }), none, ann0⟩,
  ⟨(some 73), (Op.binOp BinOp.lss 3 (Operand.tmp 70) (Operand.tmp 72) 3), none, ann0⟩] none)
 (.cond (Operand.tmp 73) .skip
 (.exit 2))) (.tidy [2, 7, 8, 9, 13, 14] z (z + 3)))
 (.seq (.post (.block 3 (.seq (.post (.reg [⟨(some 76), (Op.move (Operand.tmp 7)), none, ann0⟩,
  ⟨(some 77), (Op.move (Operand.tmp 14)), none, ann0⟩,
  ⟨(some 78), (Op.indexAddr 22 (Operand.tmp 76) (Operand.tmp 77)), none, ann0⟩,
  ⟨(some 79), (Op.fieldAddr 26 (Operand.tmp 78) 3), none, ann0⟩,
  ⟨(some 80), (Op.load 9 (Operand.tmp 79)), none, ann0⟩,
  ⟨(some 81), (Op.move (Operand.tmp 8)), none, ann0⟩,
  ⟨(some 82), (Op.move (Operand.tmp 9)), none, ann0⟩,
  ⟨(some 83), (Op.indexAddr 66 (Operand.tmp 81) (Operand.tmp 82)), none, ann0⟩,
  ⟨(some 84), (Op.load 9 (Operand.tmp 83)), none, ann0⟩,
  ⟨(some 85), (Op.binOp BinOp.neq 9 (Operand.tmp 80) (Operand.tmp 84) 9), none, ann0⟩,
  ⟨(some 86), (Op.move (Operand.tmp 85)), none, ann0⟩,
  ⟨(some 87), (Op.move (Operand.tmp 7)), (some (86, false)), ann0⟩,
  ⟨(some 88), (Op.move (Operand.tmp 14)), (some (86, false)), ann0⟩,
  ⟨(some 89), (Op.indexAddr 22 (Operand.tmp 87) (Operand.tmp 88)), (some (86, false)), ann0⟩,
  ⟨(some 90), (Op.fieldAddr 26 (Operand.tmp 89) 1), (some (86, false)), ann0⟩,
  ⟨(some 91), (Op.load 3 (Operand.tmp 90)), (some (86, false)), ann0⟩,
  ⟨(some 92), (Op.binOp BinOp.neq 3 (Operand.tmp 91) (Operand.const (Value.int IntKind.i64 1)) 3), (some (86, false)), ann0⟩,
  ⟨(some 93), (Op.pick (Operand.tmp 86) (Operand.const (Value.bool true)) (Operand.tmp 92)), none, ann0⟩,
  ⟨(some 15), (Op.assign (Operand.tmp 93)), none, ann0⟩] (some [0, 0, 3, 7, 15, 0, 0, 96, 224, 511, 1023, 2047, 2047, 8191, 16383, 32767, 65535, 131071, 262143])) (.tidy [2, 7, 8, 9, 13, 14, 15] z (z + 3)))
 (.seq (.post (.seq (.reg [⟨(some 16), (Op.assign (Operand.const (Value.int IntKind.i64 0))), none, ann0⟩] none)
 (.post (.block 4 (.pre (.tidy [2, 7, 8, 9, 13, 14, 15, 16] z (z + 3)) (.loop (s7_3 z)))) (.tidy [2, 7, 8, 9, 13, 14, 15] z (z + 3)))) (.tidy [2, 7, 8, 9, 13, 14, 15] z (z + 3)))
 (.seq (.reg [⟨(some 113), (Op.move (Operand.tmp 15)), none, ann0⟩,
  ⟨(some 114), (Op.unOp UnOp.not 4 (Operand.tmp 113)), none, ann0⟩] none)
 (.cond (Operand.tmp 114) (.reg [⟨(some 115), (Op.move (Operand.tmp 13)), none, ann0⟩,
  ⟨(some 116), (Op.move (Operand.tmp 7)), none, ann0⟩,
  ⟨(some 117), (Op.move (Operand.tmp 14)), none, ann0⟩,
  ⟨(some 118), (Op.indexAddr 22 (Operand.tmp 116) (Operand.tmp 117)), none, ann0⟩,
  ⟨(some 119), (Op.fieldAddr 26 (Operand.tmp 118) 5), none, ann0⟩,
  ⟨(some 120), (Op.load 9 (Operand.tmp 119)), none, ann0⟩,
  ⟨(some 121), (Op.buildSlice 66 1 #[(0, (Operand.tmp 120))]), none, ⟨1, true, false⟩⟩,
  ⟨(some 122), (Op.call { callee := (Callee.builtin Builtin.append), args := #[(Operand.tmp 115), (Operand.tmp 121)], argTypes := #[66, 66] }), none, ann0⟩,
  ⟨(some 13), (Op.assign (Operand.tmp 122)), none, ann0⟩] none)
 .skip))))) (.tidy [2, 7, 8, 9, 13, 14] z (z + 4)))
 (.reg [⟨(some 74), (Op.move (Operand.tmp 14)), none, ann0⟩,
  ⟨(some 75), (Op.binOp BinOp.add 3 (Operand.tmp 74) (Operand.const (Value.int IntKind.i64 1)) 3), none, ann0⟩,
  ⟨(some 14), (Op.assign (Operand.tmp 75)), none, ann0⟩] none))) (.tidy [2, 7, 8, 9, 13, 14] z (z + 3))
def s7_2 (z : Nat) : SC := c7_2 z
theorem e7_2 {C : Pg} {z : Nat} {st : St} {ks : List Fr} {K : Ex → St → Prop} : wpk C (s7_2 z) st ks K ↔ wpk C (c7_2 z) st ks K := Iff.rfl
def c7_4 (z : Nat) : SC := .post (.seq (.post (.seq (.reg [⟨(some 134), (Op.move (Operand.tmp 18)), none, ann0⟩,
  ⟨(some 135), (Op.move (Operand.tmp 13)), none, ann0⟩,
  ⟨(some 136), (Op.call { callee := (Callee.builtin Builtin.len), args := #[(Operand.tmp 135)], argTypes := #[66] }), none, ann0⟩,
  ⟨(some 137), (Op.binOp BinOp.lss 3 (Operand.tmp 134) (Operand.tmp 136) 3), none, ann0⟩] none)
 (.cond (Operand.tmp 137) .skip
 (.exit 6))) (.tidy [2, 7, 8, 9, 13, 17, 18] z (z + 3)))
 (.seq (.post (.block 7 (.seq (.post (.reg [⟨(some 140), (Op.move (Operand.tmp 17)), none, ann0⟩,
  ⟨(some 141), (Op.move (Operand.tmp 18)), none, ann0⟩,
  ⟨(some 142), (Op.indexAddr 66 (Operand.tmp 140) (Operand.tmp 141)), none, ann0⟩,
  ⟨(some 143), (Op.load 9 (Operand.tmp 142)), none, ann0⟩,
  ⟨(some 144), (Op.move (Operand.tmp 13)), none, ann0⟩,
  ⟨(some 145), (Op.move (Operand.tmp 18)), none, ann0⟩,
  ⟨(some 146), (Op.indexAddr 66 (Operand.tmp 144) (Operand.tmp 145)), none, ann0⟩,
  ⟨(some 147), (Op.load 9 (Operand.tmp 146)), none, ann0⟩,
  ⟨(some 148), (Op.binOp BinOp.neq 9 (Operand.tmp 143) (Operand.tmp 147) 9), none, ann0⟩] (some [0, 0, 3, 7, 0, 0, 48, 112, 255])) (.tidy [2, 7, 8, 9, 13, 17, 18, 148] z (z + 3)))
 (.cond (Operand.tmp 148) (.seq (.reg [⟨(some 6), (Op.assign (Operand.const (Value.bool false))), none, ann0⟩] none)
 .ret)
 .skip))) (.tidy [2, 7, 8, 9, 13, 17, 18] z (z + 3)))
 (.reg [⟨(some 138), (Op.move (Operand.tmp 18)), none, ann0⟩,
  ⟨(some 139), (Op.binOp BinOp.add 3 (Operand.tmp 138) (Operand.const (Value.int IntKind.i64 1)) 3), none, ann0⟩,
  ⟨(some 18), (Op.assign (Operand.tmp 139)), none, ann0⟩] none))) (.tidy [2, 7, 8, 9, 13, 17, 18] z (z + 3))
def s7_4 (z : Nat) : SC := c7_4 z
theorem e7_4 {C : Pg} {z : Nat} {st : St} {ks : List Fr} {K : Ex → St → Prop} : wpk C (s7_4 z) st ks K ↔ wpk C (c7_4 z) st ks K := Iff.rfl
def c7_1 (z : Nat) : SC := .post (.seq (.seq (.post (.reg [⟨(some 23), (Op.move (Operand.tmp 9)), none, ann0⟩,
  ⟨(some 24), (Op.move (Operand.tmp 8)), none, ann0⟩,
  ⟨(some 25), (Op.call { callee := (Callee.builtin Builtin.len), args := #[(Operand.tmp 24)], argTypes := #[66] }), none, ann0⟩,
  ⟨(some 26), (Op.binOp BinOp.lss 3 (Operand.tmp 23) (Operand.tmp 25) 3), none, ann0⟩] none) (.tidy [2, 7, 8, 9, 26] z (z + 1)))
 (.cond (Operand.tmp 26) .skip
 (.exit 0)))
 (.seq (.post (.block 1 (.seq (.post (.reg [⟨(some 30), (Op.move (Operand.tmp 7)), none, ann0⟩,
  ⟨(some 31), (Op.move (Operand.tmp 8)), none, ann0⟩,
  ⟨(some 32), (Op.move (Operand.tmp 9)), none, ann0⟩,
  ⟨(some 33), (Op.indexAddr 66 (Operand.tmp 31) (Operand.tmp 32)), none, ann0⟩,
  ⟨(some 34), (Op.load 9 (Operand.tmp 33)), none, ann0⟩,
  ⟨(some 35), (Op.move (Operand.tmp 2)), none, ann0⟩,
  ⟨(some 36), (Op.call { callee := (Callee.value (Operand.func 29)), args := #[(Operand.tmp 30), (Operand.tmp 34), (Operand.tmp 35)], argTypes := #[22, 9, 3] }), none, ann0⟩,
  ⟨(some 29), (Op.move (Operand.tmp 36)), none, ann0⟩,
  ⟨(some 37), (Op.extract (Operand.tmp 29) 0), none, ann0⟩,
  ⟨(some 38), (Op.extract (Operand.tmp 29) 1), none, ann0⟩,
  ⟨(some 10), (Op.alloc 26), none, ⟨1, false, false⟩⟩,
  ⟨none, (Op.store 26 (Operand.tmp 10) (Operand.tmp 37)), none, ann0⟩,
  ⟨(some 11), (Op.assign (Operand.tmp 38)), none, ann0⟩] none) (.tidy [2, 7, 8, 9, 10, 11] z (z + 2)))
 (.seq (.post (.reg [⟨(some 39), (Op.move (Operand.tmp 7)), none, ann0⟩,
  ⟨(some 40), (Op.move (Operand.tmp 8)), none, ann0⟩,
  ⟨(some 41), (Op.move (Operand.tmp 9)), none, ann0⟩,
  ⟨(some 42), (Op.indexAddr 66 (Operand.tmp 40) (Operand.tmp 41)), none, ann0⟩,
  ⟨(some 43), (Op.load 9 (Operand.tmp 42)), none, ann0⟩,
  ⟨(some 44), (Op.move (Operand.tmp 2)), none, ann0⟩,
  ⟨(some 45), (Op.call { callee := (Callee.value (Operand.func 27)), args := #[(Operand.tmp 39), (Operand.tmp 43), (Operand.tmp 44)], argTypes := #[22, 9, 3] }), none, ann0⟩,
  ⟨(some 12), (Op.assign (Operand.tmp 45)), none, ann0⟩] none) (.tidy [2, 7, 8, 9, 10, 11, 12] z (z + 2)))
 (.seq (.post (.seq (.post (.reg [⟨(some 46), (Op.move (Operand.tmp 11)), none, ann0⟩,
  ⟨(some 47), (Op.move (Operand.tmp 12)), none, ann0⟩,
  ⟨(some 48), (Op.binOp BinOp.geq 3 (Operand.tmp 47) (Operand.const (Value.int IntKind.i64 0)) 3), none, ann0⟩,
  ⟨(some 49), (Op.binOp BinOp.neq 4 (Operand.tmp 46) (Operand.tmp 48) 4), none, ann0⟩,
  ⟨(some 50), (Op.move (Operand.tmp 49)), none, ann0⟩,
  ⟨(some 51), (Op.move (Operand.tmp 11)), (some (50, false)), ann0⟩,
  ⟨(some 52), (Op.move (Operand.tmp 51)), (some (50, false)), ann0⟩,
  ⟨(some 53), (Op.load 26 (Operand.tmp 10)), (some (52, true)), ann0⟩,
  ⟨(some 54), (Op.move (Operand.tmp 7)), (some (52, true)), ann0⟩,
  ⟨(some 55), (Op.move (Operand.tmp 12)), (some (52, true)), ann0⟩,
  ⟨(some 56), (Op.indexAddr 22 (Operand.tmp 54) (Operand.tmp 55)), (some (52, true)), ann0⟩,
  ⟨(some 57), (Op.load 26 (Operand.tmp 56)), (some (52, true)), ann0⟩,
  ⟨(some 58), (Op.binOp BinOp.neq 26 (Operand.tmp 53) (Operand.tmp 57) 26), (some (52, true)), ann0⟩,
  ⟨(some 59), (Op.pick (Operand.tmp 52) (Operand.tmp 58) (Operand.const (Value.bool false))), (some (50, false)), ann0⟩,
  ⟨(some 60), (Op.pick (Operand.tmp 50) (Operand.const (Value.bool true)) (Operand.tmp 59)), none, ann0⟩,
  ⟨(some 61), (Op.move (Operand.tmp 60)), none, ann0⟩,
  ⟨(some 62), (Op.move (Operand.tmp 11)), (some (61, false)), ann0⟩,
  ⟨(some 63), (Op.unOp UnOp.not 4 (Operand.tmp 62)), (some (61, false)), ann0⟩,
  ⟨(some 64), (Op.move (Operand.tmp 63)), (some (61, false)), ann0⟩,
  ⟨(some 65), (Op.load 26 (Operand.tmp 10)), (some (64, true)), ann0⟩,
  ⟨(some 66), (Op.build 26 #[]), (some (64, true)), ann0⟩,
  ⟨(some 67), (Op.binOp BinOp.neq 26 (Operand.tmp 65) (Operand.tmp 66) 26), (some (64, true)), ann0⟩,
  ⟨(some 68), (Op.pick (Operand.tmp 64) (Operand.tmp 67) (Operand.const (Value.bool false))), (some (61, false)), ann0⟩,
  ⟨(some 69), (Op.pick (Operand.tmp 61) (Operand.const (Value.bool true)) (Operand.tmp 68)), none, ann0⟩] (some [0, 0, 2, 7, 15, 31, 63, 127, 127, 127, 895, 1919, 4095, 8191, 16383, 32767, 65535, 131071, 262143, 524287, 524287, 2097151, 4194303, 8388607])) (.tidy [2, 7, 8, 9, 69] z (z + 2)))
 (.cond (Operand.tmp 69) (.seq (.reg [⟨(some 6), (Op.assign (Operand.const (Value.bool false))), none, ann0⟩] none)
 .ret)
 .skip)) (.tidy [2, 7, 8, 9] z (z + 2)))
 (.seq (.post (.reg [⟨(some 13), (Op.assign (Operand.const (Value.slice none 0 0))), none, ann0⟩] none) (.mkv 13 9 1))
 (.seq (.post (.seq (.reg [⟨(some 14), (Op.assign (Operand.const (Value.int IntKind.i64 0))), none, ann0⟩] none)
 (.post (.block 2 (.pre (.tidy [2, 7, 8, 9, 13, 14] z (z + 3)) (.loop (s7_2 z)))) (.tidy [2, 7, 8, 9, 13] z (z + 3)))) (.tidy [2, 7, 8, 9, 13] z (z + 3)))
 (.seq (.post (.reg [⟨(some 123), (Op.move (Operand.tmp 7)), none, ann0⟩,
  ⟨(some 124), (Op.move (Operand.tmp 8)), none, ann0⟩,
  ⟨(some 125), (Op.move (Operand.tmp 9)), none, ann0⟩,
  ⟨(some 126), (Op.indexAddr 66 (Operand.tmp 124) (Operand.tmp 125)), none, ann0⟩,
  ⟨(some 127), (Op.load 9 (Operand.tmp 126)), none, ann0⟩,
  ⟨(some 128), (Op.call { callee := (Callee.value (Operand.func 30)), args := #[(Operand.tmp 123), (Operand.tmp 127)], argTypes := #[22, 9] }), none, ann0⟩,
  ⟨(some 17), (Op.assign (Operand.tmp 128)), none, ann0⟩] none) (.tidy [2, 7, 8, 9, 13, 17] z (z + 3)))
 (.seq (.post (.seq (.reg [⟨(some 129), (Op.move (Operand.tmp 17)), none, ann0⟩,
  ⟨(some 130), (Op.call { callee := (Callee.builtin Builtin.len), args := #[(Operand.tmp 129)], argTypes := #[66] }), none, ann0⟩,
  ⟨(some 131), (Op.move (Operand.tmp 13)), none, ann0⟩,
  ⟨(some 132), (Op.call { callee := (Callee.builtin Builtin.len), args := #[(Operand.tmp 131)], argTypes := #[66] }), none, ann0⟩,
  ⟨(some 133), (Op.binOp BinOp.neq 3 (Operand.tmp 130) (Operand.tmp 132) 3), none, ann0⟩] none)
 (.cond (Operand.tmp 133) (.seq (.reg [⟨(some 6), (Op.assign (Operand.const (Value.bool false))), none, ann0⟩] none)
 .ret)
 .skip)) (.tidy [2, 7, 8, 9, 13, 17] z (z + 3)))
 (.seq (.reg [⟨(some 18), (Op.assign (Operand.const (Value.int IntKind.i64 0))), none, ann0⟩] none)
 (.post (.block 6 (.pre (.tidy [2, 7, 8, 9, 13, 17, 18] z (z + 3)) (.loop (s7_4 z)))) (.tidy [2, 7, 8, 9] z (z + 3)))))))))))) (.tidy [2, 7, 8, 9] z (z + 3)))
 (.reg [⟨(some 27), (Op.move (Operand.tmp 9)), none, ann0⟩,
  ⟨(some 28), (Op.binOp BinOp.add 3 (Operand.tmp 27) (Operand.const (Value.int IntKind.i64 1)) 3), none, ann0⟩,
  ⟨(some 9), (Op.assign (Operand.tmp 28)), none, ann0⟩] none))) (.tidy [2, 7, 8, 9] z (z + 1))
def s7_1 (z : Nat) : SC := c7_1 z
theorem e7_1 {C : Pg} {z : Nat} {st : St} {ks : List Fr} {K : Ex → St → Prop} : wpk C (s7_1 z) st ks K ↔ wpk C (c7_1 z) st ks K := Iff.rfl
def s7 (z : Nat) : SFn := ⟨3, 150, [(ResultVar.tmp 6)],
 (.seq (.reg [⟨(some 6), (Op.assign (Operand.const (Value.bool false))), none, ann0⟩] none)
 (.seq (.reg [⟨(some 19), (Op.move (Operand.tmp 0)), none, ann0⟩,
  ⟨(some 20), (Op.call { callee := (Callee.value (Operand.func 19)), args := #[(Operand.tmp 19)], argTypes := #[30] }), none, ann0⟩,
  ⟨(some 7), (Op.assign (Operand.tmp 20)), none, ann0⟩] none)
 (.seq (.reg [⟨(some 21), (Op.move (Operand.tmp 1)), none, ann0⟩,
  ⟨(some 22), (Op.buildSlice 66 5 #[(0, (Operand.tmp 21)), (1, (Operand.const (Value.string ⟨#[97, 112, 105]⟩))), (2, (Operand.const (Value.string ⟨#[100, 98]⟩))), (3, (Operand.const (Value.string ⟨#[119, 101, 98]⟩))), (4, (Operand.const (Value.string ⟨#[99, 97, 99, 104, 101]⟩)))]), none, ⟨1, true, false⟩⟩,
  ⟨(some 8), (Op.assign (Operand.tmp 22)), none, ann0⟩] none)
 (.seq (.post (.seq (.reg [⟨(some 9), (Op.assign (Operand.const (Value.int IntKind.i64 0))), none, ann0⟩] none)
 (.post (.block 0 (.pre (.tidy [2, 7, 8, 9] z (z + 1)) (.loop (s7_1 z)))) (.tidy [] z (z + 1)))) (.tidy [] z (z + 1)))
 (.seq (.reg [⟨(some 149), (Op.call { callee := (Callee.value (Operand.func 14)), args := #[], argTypes := #[] }), none, ann0⟩,
  ⟨(some 6), (Op.assign (Operand.tmp 149)), none, ann0⟩] none)
 .ret)))))⟩
theorem F7 (z : Nat) : FOk Try.prog 7 (s7 z) := by unfold FOk; kernel_rfl
def c72_1 (z : Nat) : SC := .post (.seq (.reg [⟨(some 9), (Op.binOp BinOp.lss 3 (Operand.tmp 8) (Operand.tmp 7) 3), none, ann0⟩] none)
 (.seq (.cond (Operand.tmp 9) .skip
 (.exit 0))
 (.seq (.post (.block 1 (.seq (.reg [⟨(some 10), (Op.move (Operand.tmp 8)), none, ann0⟩,
  ⟨(some 5), (Op.assign (Operand.tmp 10)), none, ann0⟩] none)
 (.seq (.post (.reg [⟨(some 11), (Op.move (Operand.tmp 1)), none, ann0⟩,
  ⟨(some 12), (Op.move (Operand.tmp 0)), none, ann0⟩,
  ⟨(some 13), (Op.move (Operand.tmp 5)), none, ann0⟩,
  ⟨(some 14), (Op.indexAddr 66 (Operand.tmp 12) (Operand.tmp 13)), none, ann0⟩,
  ⟨(some 15), (Op.load 9 (Operand.tmp 14)), none, ann0⟩,
  ⟨(some 16), (Op.binOp BinOp.eql 9 (Operand.tmp 11) (Operand.tmp 15) 9), none, ann0⟩] none) (.tidy [0, 1, 5, 7, 8, 16] z (z + 0)))
 (.cond (Operand.tmp 16) (.seq (.reg [⟨(some 17), (Op.move (Operand.tmp 5)), none, ann0⟩,
  ⟨(some 4), (Op.assign (Operand.tmp 17)), none, ann0⟩] none)
 .ret)
 .skip)))) (.tidy [0, 1, 7, 8] z (z + 0)))
 (.reg [⟨(some 18), (Op.binOp BinOp.add 3 (Operand.tmp 8) (Operand.const (Value.int IntKind.i64 1)) 3), none, ann0⟩,
  ⟨(some 8), (Op.move (Operand.tmp 18)), none, ann0⟩] none)))) (.tidy [0, 1, 7, 8] z (z + 0))
def s72_1 (z : Nat) : SC := c72_1 z
theorem e72_1 {C : Pg} {z : Nat} {st : St} {ks : List Fr} {K : Ex → St → Prop} : wpk C (s72_1 z) st ks K ↔ wpk C (c72_1 z) st ks K := Iff.rfl
def s72 (z : Nat) : SFn := ⟨2, 19, [(ResultVar.tmp 4)],
 (.seq (.reg [⟨(some 4), (Op.assign (Operand.const (Value.int IntKind.i64 0))), none, ann0⟩] none)
 (.seq (.post (.seq (.reg [⟨(some 6), (Op.move (Operand.tmp 0)), none, ann0⟩,
  ⟨(some 7), (Op.call { callee := (Callee.builtin Builtin.len), args := #[(Operand.tmp 6)], argTypes := #[66] }), none, ann0⟩,
  ⟨(some 8), (Op.move (Operand.const (Value.int IntKind.i64 0))), none, ann0⟩] none)
 (.post (.block 0 (.pre (.tidy [0, 1, 7, 8] z (z + 0)) (.loop (s72_1 z)))) (.tidy [] z (z + 0)))) (.tidy [] z (z + 0)))
 (.seq (.reg [⟨(some 4), (Op.assign (Operand.const (Value.int IntKind.i64 (-1)))), none, ann0⟩] none)
 .ret)))⟩
theorem F72 (z : Nat) : FOk Try.prog 72 (s72 z) := by unfold FOk; kernel_rfl
def s54 (z : Nat) : SFn := ⟨2, 9, [(ResultVar.tmp 4)],
 (.seq (.reg [⟨(some 4), (Op.assign (Operand.const (Value.bool false))), none, ann0⟩] none)
 (.seq (.reg [⟨(some 5), (Op.move (Operand.tmp 0)), none, ann0⟩,
  ⟨(some 6), (Op.move (Operand.tmp 1)), none, ann0⟩,
  ⟨(some 7), (Op.call { callee := (Callee.value (Operand.func 72)), args := #[(Operand.tmp 5), (Operand.tmp 6)], argTypes := #[66, 9] }), none, ann0⟩,
  ⟨(some 8), (Op.binOp BinOp.geq 3 (Operand.tmp 7) (Operand.const (Value.int IntKind.i64 0)) 3), none, ann0⟩,
  ⟨(some 4), (Op.assign (Operand.tmp 8)), none, ann0⟩] none)
 .ret))⟩
theorem F54 (z : Nat) : FOk Try.prog 54 (s54 z) := by unfold FOk; kernel_rfl
def c30_1 (z : Nat) : SC := .post (.seq (.reg [⟨(some 11), (Op.binOp BinOp.lss 3 (Operand.tmp 10) (Operand.tmp 9) 3), none, ann0⟩] none)
 (.seq (.cond (Operand.tmp 11) .skip
 (.exit 0))
 (.seq (.post (.block 1 (.seq (.reg [⟨(some 12), (Op.indexAddr 22 (Operand.tmp 8) (Operand.tmp 10)), none, ann0⟩,
  ⟨(some 13), (Op.load 26 (Operand.tmp 12)), none, ann0⟩,
  ⟨(some 7), (Op.alloc 26), none, ⟨1, false, false⟩⟩,
  ⟨none, (Op.store 26 (Operand.tmp 7) (Operand.tmp 13)), none, ann0⟩] none)
 (.seq (.post (.reg [⟨(some 14), (Op.fieldAddr 26 (Operand.tmp 7) 1), none, ann0⟩,
  ⟨(some 15), (Op.load 3 (Operand.tmp 14)), none, ann0⟩,
  ⟨(some 16), (Op.binOp BinOp.eql 3 (Operand.tmp 15) (Operand.const (Value.int IntKind.i64 1)) 3), none, ann0⟩,
  ⟨(some 17), (Op.move (Operand.tmp 16)), none, ann0⟩,
  ⟨(some 18), (Op.fieldAddr 26 (Operand.tmp 7) 3), (some (17, true)), ann0⟩,
  ⟨(some 19), (Op.load 9 (Operand.tmp 18)), (some (17, true)), ann0⟩,
  ⟨(some 20), (Op.move (Operand.tmp 1)), (some (17, true)), ann0⟩,
  ⟨(some 21), (Op.binOp BinOp.eql 9 (Operand.tmp 19) (Operand.tmp 20) 9), (some (17, true)), ann0⟩,
  ⟨(some 22), (Op.pick (Operand.tmp 17) (Operand.tmp 21) (Operand.const (Value.bool false))), none, ann0⟩,
  ⟨(some 23), (Op.move (Operand.tmp 22)), none, ann0⟩,
  ⟨(some 24), (Op.move (Operand.tmp 5)), (some (23, true)), ann0⟩,
  ⟨(some 25), (Op.fieldAddr 26 (Operand.tmp 7) 5), (some (23, true)), ann0⟩,
  ⟨(some 26), (Op.load 9 (Operand.tmp 25)), (some (23, true)), ann0⟩,
  ⟨(some 27), (Op.call { callee := (Callee.value (Operand.func 54)), args := #[(Operand.tmp 24), (Operand.tmp 26)], argTypes := #[66, 9] }), (some (23, true)), ann0⟩,
  ⟨(some 28), (Op.unOp UnOp.not 4 (Operand.tmp 27)), (some (23, true)), ann0⟩,
  ⟨(some 29), (Op.pick (Operand.tmp 23) (Operand.tmp 28) (Operand.const (Value.bool false))), none, ann0⟩] none) (.tidy [1, 5, 7, 8, 9, 10, 29] z (z + 2)))
 (.cond (Operand.tmp 29) (.reg [⟨(some 30), (Op.move (Operand.tmp 5)), none, ann0⟩,
  ⟨(some 31), (Op.fieldAddr 26 (Operand.tmp 7) 5), none, ann0⟩,
  ⟨(some 32), (Op.load 9 (Operand.tmp 31)), none, ann0⟩,
  ⟨(some 33), (Op.buildSlice 66 1 #[(0, (Operand.tmp 32))]), none, ⟨1, true, false⟩⟩,
  ⟨(some 34), (Op.call { callee := (Callee.builtin Builtin.append), args := #[(Operand.tmp 30), (Operand.tmp 33)], argTypes := #[66, 66] }), none, ann0⟩,
  ⟨(some 5), (Op.assign (Operand.tmp 34)), none, ann0⟩] none)
 .skip)))) (.tidy [1, 5, 8, 9, 10] z (z + 3)))
 (.reg [⟨(some 35), (Op.binOp BinOp.add 3 (Operand.tmp 10) (Operand.const (Value.int IntKind.i64 1)) 3), none, ann0⟩,
  ⟨(some 10), (Op.move (Operand.tmp 35)), none, ann0⟩] none)))) (.tidy [1, 5, 8, 9, 10] z (z + 1))
def s30_1 (z : Nat) : SC := c30_1 z
theorem e30_1 {C : Pg} {z : Nat} {st : St} {ks : List Fr} {K : Ex → St → Prop} : wpk C (s30_1 z) st ks K ↔ wpk C (c30_1 z) st ks K := Iff.rfl
def s30 (z : Nat) : SFn := ⟨2, 37, [(ResultVar.tmp 4)],
 (.post (.seq (.reg [⟨(some 4), (Op.assign (Operand.const (Value.slice none 0 0))), none, ann0⟩] none)
 (.seq (.post (.reg [⟨(some 5), (Op.assign (Operand.const (Value.slice none 0 0))), none, ann0⟩] none) (.mkv 5 9 1))
 (.seq (.post (.seq (.reg [⟨(some 8), (Op.move (Operand.tmp 0)), none, ann0⟩,
  ⟨(some 9), (Op.call { callee := (Callee.builtin Builtin.len), args := #[(Operand.tmp 8)], argTypes := #[22] }), none, ann0⟩,
  ⟨(some 10), (Op.move (Operand.const (Value.int IntKind.i64 0))), none, ann0⟩] none)
 (.post (.block 0 (.pre (.tidy [1, 5, 8, 9, 10] z (z + 1)) (.loop (s30_1 z)))) (.tidy [5] z (z + 1)))) (.tidy [5] z (z + 1)))
 (.seq (.reg [⟨(some 36), (Op.move (Operand.tmp 5)), none, ann0⟩,
  ⟨(some 4), (Op.assign (Operand.tmp 36)), none, ann0⟩] none)
 .ret)))) (.frz 4))⟩
theorem F30 (z : Nat) : FOk Try.prog 30 (s30 z) := by unfold FOk; kernel_rfl
def c23_1 (z : Nat) : SC := .post (.seq (.post (.seq (.reg [⟨(some 4), (Op.move (Operand.tmp 3)), none, ann0⟩,
  ⟨(some 5), (Op.fieldAddr 50 (Operand.tmp 1) 0), none, ann0⟩,
  ⟨(some 6), (Op.load 45 (Operand.tmp 5)), none, ann0⟩,
  ⟨(some 7), (Op.call { callee := (Callee.builtin Builtin.len), args := #[(Operand.tmp 6)], argTypes := #[45] }), none, ann0⟩,
  ⟨(some 8), (Op.binOp BinOp.lss 3 (Operand.tmp 4) (Operand.tmp 7) 3), none, ann0⟩] none)
 (.cond (Operand.tmp 8) .skip
 (.exit 0))) (.tidy [1, 3] z (z + 1)))
 (.seq (.post (.block 1 (.seq (.post (.reg [⟨(some 11), (Op.fieldAddr 50 (Operand.tmp 1) 0), none, ann0⟩,
  ⟨(some 12), (Op.load 45 (Operand.tmp 11)), none, ann0⟩,
  ⟨(some 13), (Op.move (Operand.tmp 3)), none, ann0⟩,
  ⟨(some 14), (Op.indexAddr 45 (Operand.tmp 12) (Operand.tmp 13)), none, ann0⟩,
  ⟨(some 15), (Op.fieldAddr 103 (Operand.tmp 14) 2), none, ann0⟩,
  ⟨(some 16), (Op.load 101 (Operand.tmp 15)), none, ann0⟩,
  ⟨(some 17), (Op.call { callee := (Callee.builtin Builtin.len), args := #[(Operand.tmp 16)], argTypes := #[101] }), none, ann0⟩,
  ⟨(some 18), (Op.binOp BinOp.gtr 3 (Operand.tmp 17) (Operand.const (Value.int IntKind.i64 8)) 3), none, ann0⟩] none) (.tidy [1, 3, 18] z (z + 1)))
 (.cond (Operand.tmp 18) (.seq (.reg [⟨(some 2), (Op.assign (Operand.const (Value.bool false))), none, ann0⟩] none)
 .ret)
 .skip))) (.tidy [1, 3] z (z + 1)))
 (.reg [⟨(some 9), (Op.move (Operand.tmp 3)), none, ann0⟩,
  ⟨(some 10), (Op.binOp BinOp.add 3 (Operand.tmp 9) (Operand.const (Value.int IntKind.i64 1)) 3), none, ann0⟩,
  ⟨(some 3), (Op.assign (Operand.tmp 10)), none, ann0⟩] none))) (.tidy [1, 3] z (z + 1))
def s23_1 (z : Nat) : SC := c23_1 z
theorem e23_1 {C : Pg} {z : Nat} {st : St} {ks : List Fr} {K : Ex → St → Prop} : wpk C (s23_1 z) st ks K ↔ wpk C (c23_1 z) st ks K := Iff.rfl
def s23 (z : Nat) : SFn := ⟨1, 29, [(ResultVar.tmp 2)],
 (.seq (.reg [⟨(some 1), (Op.box 50 (Operand.tmp 0)), none, ⟨1, false, false⟩⟩,
  ⟨(some 2), (Op.assign (Operand.const (Value.bool false))), none, ann0⟩] none)
 (.seq (.post (.seq (.reg [⟨(some 3), (Op.assign (Operand.const (Value.int IntKind.i64 0))), none, ann0⟩] none)
 (.post (.block 0 (.pre (.tidy [1, 3] z (z + 1)) (.loop (s23_1 z)))) (.tidy [1] z (z + 1)))) (.tidy [1] z (z + 1)))
 (.seq (.reg [⟨(some 19), (Op.fieldAddr 50 (Operand.tmp 1) 0), none, ann0⟩,
  ⟨(some 20), (Op.load 45 (Operand.tmp 19)), none, ann0⟩,
  ⟨(some 21), (Op.call { callee := (Callee.builtin Builtin.len), args := #[(Operand.tmp 20)], argTypes := #[45] }), none, ann0⟩,
  ⟨(some 22), (Op.binOp BinOp.leq 3 (Operand.tmp 21) (Operand.const (Value.int IntKind.i64 3)) 3), none, ann0⟩,
  ⟨(some 23), (Op.move (Operand.tmp 22)), none, ann0⟩,
  ⟨(some 24), (Op.fieldAddr 50 (Operand.tmp 1) 2), (some (23, true)), ann0⟩,
  ⟨(some 25), (Op.load 48 (Operand.tmp 24)), (some (23, true)), ann0⟩,
  ⟨(some 26), (Op.call { callee := (Callee.builtin Builtin.len), args := #[(Operand.tmp 25)], argTypes := #[48] }), (some (23, true)), ann0⟩,
  ⟨(some 27), (Op.binOp BinOp.leq 3 (Operand.tmp 26) (Operand.const (Value.int IntKind.i64 6)) 3), (some (23, true)), ann0⟩,
  ⟨(some 28), (Op.pick (Operand.tmp 23) (Operand.tmp 27) (Operand.const (Value.bool false))), none, ann0⟩,
  ⟨(some 2), (Op.assign (Operand.tmp 28)), none, ann0⟩] none)
 .ret)))⟩
theorem F23 (z : Nat) : FOk Try.prog 23 (s23 z) := by unfold FOk; kernel_rfl
def s70 (z : Nat) : SFn := ⟨2, 17, [(ResultVar.tmp 4)],
 (.seq (.reg [⟨(some 2), (Op.box 50 (Operand.tmp 0)), none, ⟨1, false, false⟩⟩,
  ⟨(some 4), (Op.assign (Operand.const (Value.int IntKind.i64 0))), none, ann0⟩] none)
 (.seq (.reg [⟨(some 5), (Op.fieldAddr 50 (Operand.tmp 2) 0), none, ann0⟩,
  ⟨(some 6), (Op.load 45 (Operand.tmp 5)), none, ann0⟩,
  ⟨(some 7), (Op.move (Operand.tmp 1)), none, ann0⟩,
  ⟨(some 8), (Op.indexAddr 45 (Operand.tmp 6) (Operand.tmp 7)), none, ann0⟩,
  ⟨(some 9), (Op.fieldAddr 103 (Operand.tmp 8) 0), none, ann0⟩,
  ⟨(some 10), (Op.load 5 (Operand.tmp 9)), none, ann0⟩,
  ⟨(some 11), (Op.binOp BinOp.rem 5 (Operand.tmp 10) (Operand.const (Value.int IntKind.u8 64)) 5), none, ann0⟩,
  ⟨(some 12), (Op.convert 5 3 (Operand.tmp 11)), none, ann0⟩,
  ⟨(some 13), (Op.binOp BinOp.shl 3 (Operand.tmp 12) (Operand.const (Value.int IntKind.u64 20)) 110), none, ann0⟩,
  ⟨(some 14), (Op.binOp BinOp.add 3 (Operand.tmp 13) (Operand.const (Value.int IntKind.i64 1)) 3), none, ann0⟩,
  ⟨(some 15), (Op.move (Operand.tmp 1)), none, ann0⟩,
  ⟨(some 16), (Op.binOp BinOp.add 3 (Operand.tmp 14) (Operand.tmp 15) 3), none, ann0⟩,
  ⟨(some 4), (Op.assign (Operand.tmp 16)), none, ann0⟩] none)
 .ret))⟩
theorem F70 (z : Nat) : FOk Try.prog 70 (s70 z) := by unfold FOk; kernel_rfl
def s97 (z : Nat) : SFn := ⟨1, 8, [(ResultVar.tmp 2)],
 (.seq (.reg [⟨(some 1), (Op.box 154 (Operand.tmp 0)), none, ⟨1, false, false⟩⟩,
  ⟨(some 2), (Op.assign (Operand.const (Value.int IntKind.i64 0))), none, ann0⟩] none)
 (.seq (.reg [⟨(some 3), (Op.fieldAddr 154 (Operand.tmp 1) 2), none, ann0⟩,
  ⟨(some 4), (Op.load 5 (Operand.tmp 3)), none, ann0⟩,
  ⟨(some 5), (Op.binOp BinOp.rem 5 (Operand.tmp 4) (Operand.const (Value.int IntKind.u8 5)) 5), none, ann0⟩,
  ⟨(some 6), (Op.convert 5 3 (Operand.tmp 5)), none, ann0⟩,
  ⟨(some 7), (Op.binOp BinOp.add 3 (Operand.const (Value.int IntKind.i64 1)) (Operand.tmp 6) 3), none, ann0⟩,
  ⟨(some 2), (Op.assign (Operand.tmp 7)), none, ann0⟩] none)
 .ret))⟩
theorem F97 (z : Nat) : FOk Try.prog 97 (s97 z) := by unfold FOk; kernel_rfl
def c82_1 (z : Nat) : SC := .post (.seq (.post (.seq (.reg [⟨(some 10), (Op.move (Operand.tmp 4)), none, ann0⟩,
  ⟨(some 11), (Op.fieldAddr 103 (Operand.tmp 1) 2), none, ann0⟩,
  ⟨(some 12), (Op.load 101 (Operand.tmp 11)), none, ann0⟩,
  ⟨(some 13), (Op.call { callee := (Callee.builtin Builtin.len), args := #[(Operand.tmp 12)], argTypes := #[101] }), none, ann0⟩,
  ⟨(some 14), (Op.binOp BinOp.lss 3 (Operand.tmp 10) (Operand.tmp 13) 3), none, ann0⟩] none)
 (.cond (Operand.tmp 14) .skip
 (.exit 0))) (.tidy [1, 2, 3, 4] z (z + 3)))
 (.seq (.post (.block 1 (.seq (.reg [⟨(some 17), (Op.fieldAddr 103 (Operand.tmp 1) 2), none, ann0⟩,
  ⟨(some 18), (Op.load 101 (Operand.tmp 17)), none, ann0⟩,
  ⟨(some 19), (Op.move (Operand.tmp 4)), none, ann0⟩,
  ⟨(some 20), (Op.indexAddr 101 (Operand.tmp 18) (Operand.tmp 19)), none, ann0⟩,
  ⟨(some 21), (Op.load 154 (Operand.tmp 20)), none, ann0⟩,
  ⟨(some 5), (Op.alloc 154), none, ⟨1, false, false⟩⟩,
  ⟨none, (Op.store 154 (Operand.tmp 5) (Operand.tmp 21)), none, ann0⟩] none)
 (.seq (.post (.reg [⟨(some 22), (Op.fieldAddr 103 (Operand.tmp 1) 1), none, ann0⟩,
  ⟨(some 23), (Op.load 5 (Operand.tmp 22)), none, ann0⟩,
  ⟨(some 24), (Op.binOp BinOp.rem 5 (Operand.tmp 23) (Operand.const (Value.int IntKind.u8 32)) 5), none, ann0⟩,
  ⟨(some 25), (Op.convert 5 3 (Operand.tmp 24)), none, ann0⟩,
  ⟨(some 26), (Op.binOp BinOp.add 3 (Operand.const (Value.int IntKind.i64 1000)) (Operand.tmp 25) 3), none, ann0⟩,
  ⟨(some 6), (Op.assign (Operand.tmp 26)), none, ann0⟩] none) (.tidy [1, 2, 3, 4, 5, 6] z (z + 4)))
 (.seq (.post (.seq (.post (.reg [⟨(some 27), (Op.fieldAddr 154 (Operand.tmp 5) 0), none, ann0⟩,
  ⟨(some 28), (Op.load 5 (Operand.tmp 27)), none, ann0⟩,
  ⟨(some 29), (Op.convert 5 3 (Operand.tmp 28)), none, ann0⟩,
  ⟨(some 30), (Op.move (Operand.tmp 4)), none, ann0⟩,
  ⟨(some 31), (Op.binOp BinOp.add 3 (Operand.tmp 30) (Operand.const (Value.int IntKind.i64 1)) 3), none, ann0⟩,
  ⟨(some 32), (Op.binOp BinOp.rem 3 (Operand.tmp 29) (Operand.tmp 31) 3), none, ann0⟩,
  ⟨(some 7), (Op.assign (Operand.tmp 32)), none, ann0⟩] none) (.tidy [1, 2, 3, 4, 5, 6, 7] z (z + 4)))
 (.seq (.reg [⟨(some 33), (Op.move (Operand.tmp 7)), none, ann0⟩,
  ⟨(some 34), (Op.move (Operand.tmp 4)), none, ann0⟩,
  ⟨(some 35), (Op.binOp BinOp.lss 3 (Operand.tmp 33) (Operand.tmp 34) 3), none, ann0⟩] none)
 (.cond (Operand.tmp 35) (.reg [⟨(some 36), (Op.move (Operand.tmp 2)), none, ann0⟩,
  ⟨(some 37), (Op.move (Operand.tmp 7)), none, ann0⟩,
  ⟨(some 38), (Op.indexAddr 54 (Operand.tmp 36) (Operand.tmp 37)), none, ann0⟩,
  ⟨(some 39), (Op.load 3 (Operand.tmp 38)), none, ann0⟩,
  ⟨(some 6), (Op.assign (Operand.tmp 39)), none, ann0⟩] none)
 .skip))) (.tidy [1, 2, 3, 4, 5, 6] z (z + 4)))
 (.seq (.post (.seq (.reg [⟨(some 40), (Op.move (Operand.tmp 4)), none, ann0⟩,
  ⟨(some 41), (Op.binOp BinOp.gtr 3 (Operand.tmp 40) (Operand.const (Value.int IntKind.i64 0)) 3), none, ann0⟩] none)
 (.cond (Operand.tmp 41) (.reg [⟨(some 42), (Op.move (Operand.tmp 6)), none, ann0⟩,
  ⟨(some 43), (Op.fieldAddr 154 (Operand.tmp 5) 6), none, ann0⟩,
  ⟨(some 44), (Op.load 5 (Operand.tmp 43)), none, ann0⟩,
  ⟨(some 45), (Op.binOp BinOp.rem 5 (Operand.tmp 44) (Operand.const (Value.int IntKind.u8 32)) 5), none, ann0⟩,
  ⟨(some 46), (Op.convert 5 3 (Operand.tmp 45)), none, ann0⟩,
  ⟨(some 47), (Op.binOp BinOp.add 3 (Operand.tmp 42) (Operand.tmp 46) 3), none, ann0⟩,
  ⟨(some 6), (Op.assign (Operand.tmp 47)), none, ann0⟩] none)
 .skip)) (.tidy [1, 2, 3, 4, 5, 6] z (z + 4)))
 (.reg [⟨(some 48), (Op.move (Operand.tmp 2)), none, ann0⟩,
  ⟨(some 49), (Op.move (Operand.tmp 6)), none, ann0⟩,
  ⟨(some 50), (Op.buildSlice 54 1 #[(0, (Operand.tmp 49))]), none, ⟨1, true, false⟩⟩,
  ⟨(some 51), (Op.call { callee := (Callee.builtin Builtin.append), args := #[(Operand.tmp 48), (Operand.tmp 50)], argTypes := #[54, 54] }), none, ann0⟩,
  ⟨(some 52), (Op.move (Operand.tmp 3)), none, ann0⟩,
  ⟨(some 53), (Op.move (Operand.tmp 6)), none, ann0⟩,
  ⟨(some 54), (Op.fieldAddr 154 (Operand.tmp 5) 7), none, ann0⟩,
  ⟨(some 55), (Op.load 5 (Operand.tmp 54)), none, ann0⟩,
  ⟨(some 56), (Op.binOp BinOp.rem 5 (Operand.tmp 55) (Operand.const (Value.int IntKind.u8 32)) 5), none, ann0⟩,
  ⟨(some 57), (Op.convert 5 3 (Operand.tmp 56)), none, ann0⟩,
  ⟨(some 58), (Op.binOp BinOp.add 3 (Operand.tmp 53) (Operand.tmp 57) 3), none, ann0⟩,
  ⟨(some 59), (Op.buildSlice 54 1 #[(0, (Operand.tmp 58))]), none, ⟨1, true, false⟩⟩,
  ⟨(some 60), (Op.call { callee := (Callee.builtin Builtin.append), args := #[(Operand.tmp 52), (Operand.tmp 59)], argTypes := #[54, 54] }), none, ann0⟩,
  ⟨(some 2), (Op.assign (Operand.tmp 51)), none, ann0⟩,
  ⟨(some 3), (Op.assign (Operand.tmp 60)), none, ann0⟩] (some [0, 0, 2, 7, 0, 0, 0, 64, 192, 448, 992, 2016, 4095, 8191, 16383]))))))) (.tidy [1, 2, 3, 4] z (z + 6)))
 (.reg [⟨(some 15), (Op.move (Operand.tmp 4)), none, ann0⟩,
  ⟨(some 16), (Op.binOp BinOp.add 3 (Operand.tmp 15) (Operand.const (Value.int IntKind.i64 1)) 3), none, ann0⟩,
  ⟨(some 4), (Op.assign (Operand.tmp 16)), none, ann0⟩] none))) (.tidy [1, 2, 3, 4] z (z + 3))
def s82_1 (z : Nat) : SC := c82_1 z
theorem e82_1 {C : Pg} {z : Nat} {st : St} {ks : List Fr} {K : Ex → St → Prop} : wpk C (s82_1 z) st ks K ↔ wpk C (c82_1 z) st ks K := Iff.rfl
def c82_2 (z : Nat) : SC := .post (.seq (.post (.seq (.reg [⟨(some 65), (Op.move (Operand.tmp 8)), none, ann0⟩,
  ⟨(some 66), (Op.binOp BinOp.gtr 3 (Operand.tmp 65) (Operand.const (Value.int IntKind.i64 0)) 3), none, ann0⟩] none)
 (.cond (Operand.tmp 66) .skip
 (.exit 2))) (.tidy [1, 2, 3, 8] z (z + 3)))
 (.seq (.post (.block 3 (.seq (.post (.reg [⟨(some 69), (Op.fieldAddr 103 (Operand.tmp 1) 2), none, ann0⟩,
  ⟨(some 70), (Op.load 101 (Operand.tmp 69)), none, ann0⟩,
  ⟨(some 71), (Op.move (Operand.tmp 8)), none, ann0⟩,
  ⟨(some 72), (Op.indexAddr 101 (Operand.tmp 70) (Operand.tmp 71)), none, ann0⟩,
  ⟨(some 73), (Op.fieldAddr 154 (Operand.tmp 72) 0), none, ann0⟩,
  ⟨(some 74), (Op.load 5 (Operand.tmp 73)), none, ann0⟩,
  ⟨(some 75), (Op.convert 5 3 (Operand.tmp 74)), none, ann0⟩,
  ⟨(some 76), (Op.move (Operand.tmp 8)), none, ann0⟩,
  ⟨(some 77), (Op.binOp BinOp.add 3 (Operand.tmp 76) (Operand.const (Value.int IntKind.i64 1)) 3), none, ann0⟩,
  ⟨(some 78), (Op.binOp BinOp.rem 3 (Operand.tmp 75) (Operand.tmp 77) 3), none, ann0⟩,
  ⟨(some 9), (Op.assign (Operand.tmp 78)), none, ann0⟩] none) (.tidy [1, 2, 3, 8, 9] z (z + 3)))
 (.seq (.post (.reg [⟨(some 79), (Op.move (Operand.tmp 9)), none, ann0⟩,
  ⟨(some 80), (Op.move (Operand.tmp 8)), none, ann0⟩,
  ⟨(some 81), (Op.binOp BinOp.lss 3 (Operand.tmp 79) (Operand.tmp 80) 3), none, ann0⟩,
  ⟨(some 82), (Op.move (Operand.tmp 81)), none, ann0⟩,
  ⟨(some 83), (Op.fieldAddr 103 (Operand.tmp 1) 2), (some (82, true)), ann0⟩,
  ⟨(some 84), (Op.load 101 (Operand.tmp 83)), (some (82, true)), ann0⟩,
  ⟨(some 85), (Op.move (Operand.tmp 8)), (some (82, true)), ann0⟩,
  ⟨(some 86), (Op.indexAddr 101 (Operand.tmp 84) (Operand.tmp 85)), (some (82, true)), ann0⟩,
  ⟨(some 87), (Op.load 154 (Operand.tmp 86)), (some (82, true)), ann0⟩,
  ⟨(some 88), (Op.call { callee := (Callee.value (Operand.func 97)), args := #[(Operand.tmp 87)], argTypes := #[154] }), (some (82, true)), ann0⟩,
  ⟨(some 89), (Op.binOp BinOp.eql 3 (Operand.tmp 88) (Operand.const (Value.int IntKind.i64 3)) 3), (some (82, true)), ann0⟩,
  ⟨(some 90), (Op.pick (Operand.tmp 82) (Operand.tmp 89) (Operand.const (Value.bool false))), none, ann0⟩,
  ⟨(some 91), (Op.move (Operand.tmp 90)), none, ann0⟩,
  ⟨(some 92), (Op.fieldAddr 103 (Operand.tmp 1) 2), (some (91, true)), ann0⟩,
  ⟨(some 93), (Op.load 101 (Operand.tmp 92)), (some (91, true)), ann0⟩,
  ⟨(some 94), (Op.move (Operand.tmp 9)), (some (91, true)), ann0⟩,
  ⟨(some 95), (Op.indexAddr 101 (Operand.tmp 93) (Operand.tmp 94)), (some (91, true)), ann0⟩,
  ⟨(some 96), (Op.load 154 (Operand.tmp 95)), (some (91, true)), ann0⟩,
  ⟨(some 97), (Op.call { callee := (Callee.value (Operand.func 97)), args := #[(Operand.tmp 96)], argTypes := #[154] }), (some (91, true)), ann0⟩,
  ⟨(some 98), (Op.binOp BinOp.eql 3 (Operand.tmp 97) (Operand.const (Value.int IntKind.i64 2)) 3), (some (91, true)), ann0⟩,
  ⟨(some 99), (Op.pick (Operand.tmp 91) (Operand.tmp 98) (Operand.const (Value.bool false))), none, ann0⟩,
  ⟨(some 100), (Op.move (Operand.tmp 99)), none, ann0⟩,
  ⟨(some 101), (Op.fieldAddr 103 (Operand.tmp 1) 2), (some (100, true)), ann0⟩,
  ⟨(some 102), (Op.load 101 (Operand.tmp 101)), (some (100, true)), ann0⟩,
  ⟨(some 103), (Op.move (Operand.tmp 9)), (some (100, true)), ann0⟩,
  ⟨(some 104), (Op.indexAddr 101 (Operand.tmp 102) (Operand.tmp 103)), (some (100, true)), ann0⟩,
  ⟨(some 105), (Op.fieldAddr 154 (Operand.tmp 104) 10), (some (100, true)), ann0⟩,
  ⟨(some 106), (Op.load 4 (Operand.tmp 105)), (some (100, true)), ann0⟩,
  ⟨(some 107), (Op.unOp UnOp.not 4 (Operand.tmp 106)), (some (100, true)), ann0⟩,
  ⟨(some 108), (Op.pick (Operand.tmp 100) (Operand.tmp 107) (Operand.const (Value.bool false))), none, ann0⟩] none) (.tidy [1, 2, 3, 8, 9, 108] z (z + 3)))
 (.cond (Operand.tmp 108) (.reg [⟨(some 109), (Op.move (Operand.tmp 3)), none, ann0⟩,
  ⟨(some 110), (Op.move (Operand.tmp 9)), none, ann0⟩,
  ⟨(some 111), (Op.move (Operand.tmp 3)), none, ann0⟩,
  ⟨(some 112), (Op.move (Operand.tmp 9)), none, ann0⟩,
  ⟨(some 113), (Op.indexAddr 54 (Operand.tmp 111) (Operand.tmp 112)), none, ann0⟩,
  ⟨(some 114), (Op.load 3 (Operand.tmp 113)), none, ann0⟩,
  ⟨(some 115), (Op.move (Operand.tmp 3)), none, ann0⟩,
  ⟨(some 116), (Op.move (Operand.tmp 8)), none, ann0⟩,
  ⟨(some 117), (Op.indexAddr 54 (Operand.tmp 115) (Operand.tmp 116)), none, ann0⟩,
  ⟨(some 118), (Op.load 3 (Operand.tmp 117)), none, ann0⟩,
  ⟨(some 119), (Op.call { callee := (Callee.builtin Builtin.max), args := #[(Operand.tmp 114), (Operand.tmp 118)], argTypes := #[3, 3] }), none, ann0⟩,
  ⟨(some 120), (Op.indexAddr 54 (Operand.tmp 109) (Operand.tmp 110)), none, ann0⟩,
  ⟨none, (Op.store 3 (Operand.tmp 120) (Operand.tmp 119)), none, ann0⟩] (some [0, 0, 0, 0, 12, 28, 0, 0, 192, 448, 1020, 2047, 4095]))
 .skip)))) (.tidy [1, 2, 3, 8] z (z + 3)))
 (.reg [⟨(some 67), (Op.move (Operand.tmp 8)), none, ann0⟩,
  ⟨(some 68), (Op.binOp BinOp.sub 3 (Operand.tmp 67) (Operand.const (Value.int IntKind.i64 1)) 3), none, ann0⟩,
  ⟨(some 8), (Op.assign (Operand.tmp 68)), none, ann0⟩] none))) (.tidy [1, 2, 3, 8] z (z + 3))
def s82_2 (z : Nat) : SC := c82_2 z
theorem e82_2 {C : Pg} {z : Nat} {st : St} {ks : List Fr} {K : Ex → St → Prop} : wpk C (s82_2 z) st ks K ↔ wpk C (c82_2 z) st ks K := Iff.rfl
def s82 (z : Nat) : SFn := ⟨1, 123, [(ResultVar.tmp 2), (ResultVar.tmp 3)],
 (.post (.post (.seq (.post (.post (.reg [⟨(some 1), (Op.box 103 (Operand.tmp 0)), none, ⟨1, false, false⟩⟩,
  ⟨(some 2), (Op.assign (Operand.const (Value.slice none 0 0))), none, ann0⟩,
  ⟨(some 3), (Op.assign (Operand.const (Value.slice none 0 0))), none, ann0⟩] none) (.mkv 2 3 1)) (.mkv 3 3 1))
 (.seq (.post (.seq (.reg [⟨(some 4), (Op.assign (Operand.const (Value.int IntKind.i64 0))), none, ann0⟩] none)
 (.post (.block 0 (.pre (.tidy [1, 2, 3, 4] z (z + 3)) (.loop (s82_1 z)))) (.tidy [1, 2, 3] z (z + 3)))) (.tidy [1, 2, 3] z (z + 3)))
 (.seq (.post (.seq (.reg [⟨(some 61), (Op.fieldAddr 103 (Operand.tmp 1) 2), none, ann0⟩,
  ⟨(some 62), (Op.load 101 (Operand.tmp 61)), none, ann0⟩,
  ⟨(some 63), (Op.call { callee := (Callee.builtin Builtin.len), args := #[(Operand.tmp 62)], argTypes := #[101] }), none, ann0⟩,
  ⟨(some 64), (Op.binOp BinOp.sub 3 (Operand.tmp 63) (Operand.const (Value.int IntKind.i64 1)) 3), none, ann0⟩,
  ⟨(some 8), (Op.assign (Operand.tmp 64)), none, ann0⟩] none)
 (.post (.block 2 (.pre (.tidy [1, 2, 3, 8] z (z + 3)) (.loop (s82_2 z)))) (.tidy [2, 3] z (z + 3)))) (.tidy [2, 3] z (z + 3)))
 (.seq (.reg [⟨(some 121), (Op.move (Operand.tmp 2)), none, ann0⟩,
  ⟨(some 122), (Op.move (Operand.tmp 3)), none, ann0⟩,
  ⟨(some 2), (Op.assign (Operand.tmp 121)), none, ann0⟩,
  ⟨(some 3), (Op.assign (Operand.tmp 122)), none, ann0⟩] none)
 .ret)))) (.frz 2)) (.frz 3))⟩
theorem F82 (z : Nat) : FOk Try.prog 82 (s82 z) := by unfold FOk; kernel_rfl
def s98 (z : Nat) : SFn := ⟨1, 32, [(ResultVar.tmp 2)],
 (.post (.seq (.reg [⟨(some 1), (Op.box 154 (Operand.tmp 0)), none, ⟨1, false, false⟩⟩,
  ⟨(some 2), (Op.assign (Operand.const (Value.slice none 0 0))), none, ann0⟩] none)
 (.seq (.post (.reg [⟨(some 4), (Op.fieldAddr 154 (Operand.tmp 1) 9), none, ann0⟩,
  ⟨(some 5), (Op.load 5 (Operand.tmp 4)), none, ann0⟩,
  ⟨(some 6), (Op.binOp BinOp.quo 5 (Operand.tmp 5) (Operand.const (Value.int IntKind.u8 4)) 5), none, ann0⟩,
  ⟨(some 7), (Op.binOp BinOp.rem 5 (Operand.tmp 6) (Operand.const (Value.int IntKind.u8 2)) 5), none, ann0⟩,
  ⟨(some 8), (Op.convert 5 3 (Operand.tmp 7)), none, ann0⟩,
  ⟨(some 9), (Op.build 169 #[(0, (Operand.const (Value.int IntKind.i64 3))), (2, (Operand.tmp 8))]), none, ann0⟩,
  ⟨(some 10), (Op.build 171 #[(0, (Operand.const (Value.string ⟨#[111, 107]⟩))), (1, (Operand.tmp 9))]), none, ann0⟩,
  ⟨(some 11), (Op.fieldAddr 154 (Operand.tmp 1) 9), none, ann0⟩,
  ⟨(some 12), (Op.load 5 (Operand.tmp 11)), none, ann0⟩,
  ⟨(some 13), (Op.convert 5 3 (Operand.tmp 12)), none, ann0⟩,
  ⟨(some 14), (Op.binOp BinOp.sub 3 (Operand.tmp 13) (Operand.const (Value.int IntKind.i64 100)) 3), none, ann0⟩,
  ⟨(some 15), (Op.build 169 #[(0, (Operand.const (Value.int IntKind.i64 2))), (2, (Operand.tmp 14))]), none, ann0⟩,
  ⟨(some 16), (Op.build 171 #[(0, (Operand.const (Value.string ⟨#[115, 105, 122, 101]⟩))), (1, (Operand.tmp 15))]), none, ann0⟩,
  ⟨(some 17), (Op.buildSlice 66 3 #[(0, (Operand.const (Value.string ⟨#[97]⟩))), (1, (Operand.const (Value.string ⟨#[98]⟩))), (2, (Operand.const (Value.string ⟨#[119, 101, 115, 116, 32, 49]⟩)))]), none, ⟨1, true, false⟩⟩,
  ⟨(some 18), (Op.fieldAddr 154 (Operand.tmp 1) 9), none, ann0⟩,
  ⟨(some 19), (Op.load 5 (Operand.tmp 18)), none, ann0⟩,
  ⟨(some 20), (Op.binOp BinOp.quo 5 (Operand.tmp 19) (Operand.const (Value.int IntKind.u8 8)) 5), none, ann0⟩,
  ⟨(some 21), (Op.binOp BinOp.rem 5 (Operand.tmp 20) (Operand.const (Value.int IntKind.u8 3)) 5), none, ann0⟩,
  ⟨(some 22), (Op.indexAddr 66 (Operand.tmp 17) (Operand.tmp 21)), none, ann0⟩,
  ⟨(some 23), (Op.load 9 (Operand.tmp 22)), none, ann0⟩,
  ⟨(some 24), (Op.build 169 #[(0, (Operand.const (Value.int IntKind.i64 1))), (1, (Operand.tmp 23))]), none, ann0⟩,
  ⟨(some 25), (Op.build 171 #[(0, (Operand.const (Value.string ⟨#[122, 111, 110, 101]⟩))), (1, (Operand.tmp 24))]), none, ann0⟩,
  ⟨(some 26), (Op.buildSlice 59 3 #[(0, (Operand.tmp 10)), (1, (Operand.tmp 16)), (2, (Operand.tmp 25))]), none, ⟨1, true, false⟩⟩,
  ⟨(some 3), (Op.assign (Operand.tmp 26)), none, ann0⟩] (some [0, 1, 3, 7, 15, 31, 63, 0, 128, 384, 896, 1920, 3968, 0, 0, 16384, 49152, 114688, 253952, 516096, 1040384, 2088960, 4194303, 8388607])) (.tidy [1, 3] z (z + 3)))
 (.seq (.reg [⟨(some 27), (Op.move (Operand.tmp 3)), none, ann0⟩,
  ⟨(some 28), (Op.fieldAddr 154 (Operand.tmp 1) 9), none, ann0⟩,
  ⟨(some 29), (Op.load 5 (Operand.tmp 28)), none, ann0⟩,
  ⟨(some 30), (Op.binOp BinOp.rem 5 (Operand.tmp 29) (Operand.const (Value.int IntKind.u8 4)) 5), none, ann0⟩,
  ⟨(some 31), (Op.slice 59 (Operand.tmp 27) none (some (Operand.tmp 30)) none), none, ann0⟩,
  ⟨(some 2), (Op.assign (Operand.tmp 31)), none, ann0⟩] none)
 .ret))) (.frz 2))⟩
theorem F98 (z : Nat) : FOk Try.prog 98 (s98 z) := by unfold FOk; kernel_rfl
def s83 (z : Nat) : SFn := ⟨5, 112, [(ResultVar.cell 10 61)],
 (.seq (.reg [⟨(some 5), (Op.box 50 (Operand.tmp 0)), none, ⟨1, false, false⟩⟩,
  ⟨(some 10), (Op.alloc 61), none, ⟨1, false, false⟩⟩] none)
 (.seq (.post (.reg [⟨(some 15), (Op.fieldAddr 50 (Operand.tmp 5) 0), none, ann0⟩,
  ⟨(some 16), (Op.load 45 (Operand.tmp 15)), none, ann0⟩,
  ⟨(some 17), (Op.move (Operand.tmp 1)), none, ann0⟩,
  ⟨(some 18), (Op.indexAddr 45 (Operand.tmp 16) (Operand.tmp 17)), none, ann0⟩,
  ⟨(some 19), (Op.fieldAddr 103 (Operand.tmp 18) 2), none, ann0⟩,
  ⟨(some 20), (Op.load 101 (Operand.tmp 19)), none, ann0⟩,
  ⟨(some 21), (Op.move (Operand.tmp 2)), none, ann0⟩,
  ⟨(some 22), (Op.indexAddr 101 (Operand.tmp 20) (Operand.tmp 21)), none, ann0⟩,
  ⟨(some 23), (Op.load 154 (Operand.tmp 22)), none, ann0⟩,
  ⟨(some 11), (Op.alloc 154), none, ⟨1, false, false⟩⟩,
  ⟨none, (Op.store 154 (Operand.tmp 11) (Operand.tmp 23)), none, ann0⟩] none) (.tidy [1, 2, 3, 4, 5, 10, 11] z (z + 3)))
 (.seq (.post (.reg [⟨(some 24), (Op.load 50 (Operand.tmp 5)), none, ann0⟩,
  ⟨(some 25), (Op.move (Operand.tmp 1)), none, ann0⟩,
  ⟨(some 26), (Op.call { callee := (Callee.value (Operand.func 70)), args := #[(Operand.tmp 24), (Operand.tmp 25)], argTypes := #[50, 3] }), none, ann0⟩,
  ⟨(some 27), (Op.move (Operand.tmp 2)), none, ann0⟩,
  ⟨(some 28), (Op.binOp BinOp.add 3 (Operand.tmp 27) (Operand.const (Value.int IntKind.i64 1)) 3), none, ann0⟩,
  ⟨(some 29), (Op.fieldAddr 154 (Operand.tmp 11) 1), none, ann0⟩,
  ⟨(some 30), (Op.load 5 (Operand.tmp 29)), none, ann0⟩,
  ⟨(some 31), (Op.binOp BinOp.rem 5 (Operand.tmp 30) (Operand.const (Value.int IntKind.u8 4)) 5), none, ann0⟩,
  ⟨(some 32), (Op.convert 5 3 (Operand.tmp 31)), none, ann0⟩,
  ⟨(some 33), (Op.binOp BinOp.add 3 (Operand.const (Value.int IntKind.i64 1)) (Operand.tmp 32) 3), none, ann0⟩,
  ⟨(some 34), (Op.load 154 (Operand.tmp 11)), none, ann0⟩,
  ⟨(some 35), (Op.call { callee := (Callee.value (Operand.func 97)), args := #[(Operand.tmp 34)], argTypes := #[154] }), none, ann0⟩,
  ⟨(some 36), (Op.fieldAddr 154 (Operand.tmp 11) 10), none, ann0⟩,
  ⟨(some 37), (Op.load 4 (Operand.tmp 36)), none, ann0⟩,
  ⟨(some 38), (Op.move (Operand.tmp 3)), none, ann0⟩,
  ⟨(some 39), (Op.move (Operand.tmp 2)), none, ann0⟩,
  ⟨(some 40), (Op.indexAddr 54 (Operand.tmp 38) (Operand.tmp 39)), none, ann0⟩,
  ⟨(some 41), (Op.load 3 (Operand.tmp 40)), none, ann0⟩,
  ⟨(some 42), (Op.move (Operand.tmp 4)), none, ann0⟩,
  ⟨(some 43), (Op.move (Operand.tmp 2)), none, ann0⟩,
  ⟨(some 44), (Op.indexAddr 54 (Operand.tmp 42) (Operand.tmp 43)), none, ann0⟩,
  ⟨(some 45), (Op.load 3 (Operand.tmp 44)), none, ann0⟩,
  ⟨(some 46), (Op.build 61 #[(0, (Operand.tmp 26)), (1, (Operand.tmp 28)), (4, (Operand.tmp 33)), (5, (Operand.tmp 35)), (11, (Operand.tmp 37)), (9, (Operand.tmp 41)), (10, (Operand.tmp 45))]), none, ann0⟩,
  ⟨(some 12), (Op.alloc 61), none, ⟨1, false, false⟩⟩,
  ⟨none, (Op.store 61 (Operand.tmp 12) (Operand.tmp 46)), none, ann0⟩] (some [0, 0, 3, 0, 8, 0, 32, 96, 224, 480, 0, 1031, 0, 4096, 0, 0, 49152, 114688, 0, 0, 786432, 1835008, 4194303, 0, 16777215])) (.tidy [2, 3, 10, 11, 12] z (z + 4)))
 (.seq (.post (.reg [⟨(some 47), (Op.buildSlice 66 4 #[(0, (Operand.const (Value.string ⟨#[97, 112, 105]⟩))), (1, (Operand.const (Value.string ⟨#[100, 98]⟩))), (2, (Operand.const (Value.string ⟨#[119, 101, 98]⟩))), (3, (Operand.const (Value.string ⟨#[99, 97, 99, 104, 101]⟩)))]), none, ⟨1, true, false⟩⟩,
  ⟨(some 48), (Op.fieldAddr 154 (Operand.tmp 11) 3), none, ann0⟩,
  ⟨(some 49), (Op.load 5 (Operand.tmp 48)), none, ann0⟩,
  ⟨(some 50), (Op.binOp BinOp.rem 5 (Operand.tmp 49) (Operand.const (Value.int IntKind.u8 4)) 5), none, ann0⟩,
  ⟨(some 51), (Op.indexAddr 66 (Operand.tmp 47) (Operand.tmp 50)), none, ann0⟩,
  ⟨(some 52), (Op.load 9 (Operand.tmp 51)), none, ann0⟩,
  ⟨(some 53), (Op.fieldAddr 61 (Operand.tmp 12) 6), none, ann0⟩,
  ⟨none, (Op.store 9 (Operand.tmp 53) (Operand.tmp 52)), none, ann0⟩] none) (.tidy [2, 3, 10, 11, 12] z (z + 5)))
 (.seq (.post (.reg [⟨(some 54), (Op.buildSlice 66 3 #[(0, (Operand.const (Value.string ⟨#[118, 49]⟩))), (1, (Operand.const (Value.string ⟨#[118, 50]⟩))), (2, (Operand.const (Value.string ⟨#[]⟩)))]), none, ⟨1, true, false⟩⟩,
  ⟨(some 55), (Op.fieldAddr 154 (Operand.tmp 11) 4), none, ann0⟩,
  ⟨(some 56), (Op.load 5 (Operand.tmp 55)), none, ann0⟩,
  ⟨(some 57), (Op.binOp BinOp.rem 5 (Operand.tmp 56) (Operand.const (Value.int IntKind.u8 3)) 5), none, ann0⟩,
  ⟨(some 58), (Op.indexAddr 66 (Operand.tmp 54) (Operand.tmp 57)), none, ann0⟩,
  ⟨(some 59), (Op.load 9 (Operand.tmp 58)), none, ann0⟩,
  ⟨(some 60), (Op.fieldAddr 61 (Operand.tmp 12) 7), none, ann0⟩,
  ⟨none, (Op.store 9 (Operand.tmp 60) (Operand.tmp 59)), none, ann0⟩] none) (.tidy [2, 3, 10, 11, 12] z (z + 6)))
 (.seq (.post (.reg [⟨(some 61), (Op.buildSlice 66 3 #[(0, (Operand.const (Value.string ⟨#[103, 101, 116]⟩))), (1, (Operand.const (Value.string ⟨#[112, 117, 116]⟩))), (2, (Operand.const (Value.string ⟨#[108, 105, 115, 116]⟩)))]), none, ⟨1, true, false⟩⟩,
  ⟨(some 62), (Op.fieldAddr 154 (Operand.tmp 11) 5), none, ann0⟩,
  ⟨(some 63), (Op.load 5 (Operand.tmp 62)), none, ann0⟩,
  ⟨(some 64), (Op.binOp BinOp.rem 5 (Operand.tmp 63) (Operand.const (Value.int IntKind.u8 3)) 5), none, ann0⟩,
  ⟨(some 65), (Op.indexAddr 66 (Operand.tmp 61) (Operand.tmp 64)), none, ann0⟩,
  ⟨(some 66), (Op.load 9 (Operand.tmp 65)), none, ann0⟩,
  ⟨(some 67), (Op.fieldAddr 61 (Operand.tmp 12) 8), none, ann0⟩,
  ⟨none, (Op.store 9 (Operand.tmp 67) (Operand.tmp 66)), none, ann0⟩] none) (.tidy [2, 3, 10, 11, 12] z (z + 7)))
 (.seq (.post (.seq (.post (.reg [⟨(some 68), (Op.fieldAddr 154 (Operand.tmp 11) 0), none, ann0⟩,
  ⟨(some 69), (Op.load 5 (Operand.tmp 68)), none, ann0⟩,
  ⟨(some 70), (Op.convert 5 3 (Operand.tmp 69)), none, ann0⟩,
  ⟨(some 71), (Op.move (Operand.tmp 2)), none, ann0⟩,
  ⟨(some 72), (Op.binOp BinOp.add 3 (Operand.tmp 71) (Operand.const (Value.int IntKind.i64 1)) 3), none, ann0⟩,
  ⟨(some 73), (Op.binOp BinOp.rem 3 (Operand.tmp 70) (Operand.tmp 72) 3), none, ann0⟩,
  ⟨(some 13), (Op.assign (Operand.tmp 73)), none, ann0⟩] none) (.tidy [2, 3, 10, 11, 12, 13] z (z + 7)))
 (.seq (.reg [⟨(some 74), (Op.move (Operand.tmp 13)), none, ann0⟩,
  ⟨(some 75), (Op.move (Operand.tmp 2)), none, ann0⟩,
  ⟨(some 76), (Op.binOp BinOp.lss 3 (Operand.tmp 74) (Operand.tmp 75) 3), none, ann0⟩] none)
 (.cond (Operand.tmp 76) (.reg [⟨(some 77), (Op.move (Operand.tmp 13)), none, ann0⟩,
  ⟨(some 78), (Op.binOp BinOp.add 3 (Operand.tmp 77) (Operand.const (Value.int IntKind.i64 1)) 3), none, ann0⟩,
  ⟨(some 79), (Op.fieldAddr 61 (Operand.tmp 12) 2), none, ann0⟩,
  ⟨none, (Op.store 3 (Operand.tmp 79) (Operand.tmp 78)), none, ann0⟩] none)
 (.seq (.reg [⟨(some 80), (Op.move (Operand.tmp 2)), none, ann0⟩,
  ⟨(some 81), (Op.binOp BinOp.gtr 3 (Operand.tmp 80) (Operand.const (Value.int IntKind.i64 0)) 3), none, ann0⟩] none)
 (.cond (Operand.tmp 81) (.reg [⟨(some 82), (Op.fieldAddr 61 (Operand.tmp 12) 2), none, ann0⟩,
  ⟨none, (Op.store 3 (Operand.tmp 82) (Operand.const (Value.int IntKind.i64 100))), none, ann0⟩] none)
 .skip))))) (.tidy [2, 3, 10, 11, 12] z (z + 7)))
 (.seq (.post (.seq (.reg [⟨(some 83), (Op.fieldAddr 154 (Operand.tmp 11) 8), none, ann0⟩,
  ⟨(some 84), (Op.load 5 (Operand.tmp 83)), none, ann0⟩,
  ⟨(some 85), (Op.binOp BinOp.rem 5 (Operand.tmp 84) (Operand.const (Value.int IntKind.u8 16)) 5), none, ann0⟩,
  ⟨(some 86), (Op.convert 5 3 (Operand.tmp 85)), none, ann0⟩,
  ⟨(some 14), (Op.assign (Operand.tmp 86)), none, ann0⟩] none)
 (.seq (.post (.reg [⟨(some 87), (Op.move (Operand.tmp 14)), none, ann0⟩,
  ⟨(some 88), (Op.move (Operand.tmp 2)), none, ann0⟩,
  ⟨(some 89), (Op.binOp BinOp.lss 3 (Operand.tmp 87) (Operand.tmp 88) 3), none, ann0⟩,
  ⟨(some 90), (Op.move (Operand.tmp 89)), none, ann0⟩,
  ⟨(some 91), (Op.move (Operand.tmp 3)), (some (90, true)), ann0⟩,
  ⟨(some 92), (Op.move (Operand.tmp 14)), (some (90, true)), ann0⟩,
  ⟨(some 93), (Op.indexAddr 54 (Operand.tmp 91) (Operand.tmp 92)), (some (90, true)), ann0⟩,
  ⟨(some 94), (Op.load 3 (Operand.tmp 93)), (some (90, true)), ann0⟩,
  ⟨(some 95), (Op.move (Operand.tmp 3)), (some (90, true)), ann0⟩,
  ⟨(some 96), (Op.move (Operand.tmp 2)), (some (90, true)), ann0⟩,
  ⟨(some 97), (Op.indexAddr 54 (Operand.tmp 95) (Operand.tmp 96)), (some (90, true)), ann0⟩,
  ⟨(some 98), (Op.load 3 (Operand.tmp 97)), (some (90, true)), ann0⟩,
  ⟨(some 99), (Op.binOp BinOp.leq 3 (Operand.tmp 94) (Operand.tmp 98) 3), (some (90, true)), ann0⟩,
  ⟨(some 100), (Op.pick (Operand.tmp 90) (Operand.tmp 99) (Operand.const (Value.bool false))), none, ann0⟩] (some [0, 0, 3, 7, 15, 15, 63, 127, 15, 15, 783, 1807, 4095, 8191])) (.tidy [10, 11, 12, 14, 100] z (z + 7)))
 (.cond (Operand.tmp 100) (.reg [⟨(some 101), (Op.fieldAddr 61 (Operand.tmp 12) 0), none, ann0⟩,
  ⟨(some 102), (Op.load 3 (Operand.tmp 101)), none, ann0⟩,
  ⟨(some 103), (Op.move (Operand.tmp 14)), none, ann0⟩,
  ⟨(some 104), (Op.binOp BinOp.add 3 (Operand.tmp 103) (Operand.const (Value.int IntKind.i64 1)) 3), none, ann0⟩,
  ⟨(some 105), (Op.build 64 #[(0, (Operand.tmp 102)), (1, (Operand.tmp 104))]), none, ann0⟩,
  ⟨(some 106), (Op.buildSlice 56 1 #[(0, (Operand.tmp 105))]), none, ⟨1, true, false⟩⟩,
  ⟨(some 107), (Op.fieldAddr 61 (Operand.tmp 12) 13), none, ann0⟩,
  ⟨none, (Op.store 56 (Operand.tmp 107) (Operand.tmp 106)), none, ann0⟩] none)
 .skip))) (.tidy [10, 11, 12] z (z + 8)))
 (.seq (.reg [⟨(some 108), (Op.load 154 (Operand.tmp 11)), none, ann0⟩,
  ⟨(some 109), (Op.call { callee := (Callee.value (Operand.func 98)), args := #[(Operand.tmp 108)], argTypes := #[154] }), none, ann0⟩,
  ⟨(some 110), (Op.fieldAddr 61 (Operand.tmp 12) 12), none, ann0⟩,
  ⟨none, (Op.store 59 (Operand.tmp 110) (Operand.tmp 109)), none, ann0⟩] none)
 (.seq (.reg [⟨(some 111), (Op.load 61 (Operand.tmp 12)), none, ann0⟩,
  ⟨none, (Op.store 61 (Operand.tmp 10) (Operand.tmp 111)), none, ann0⟩] none)
 .ret))))))))))⟩
theorem F83 (z : Nat) : FOk Try.prog 83 (s83 z) := by unfold FOk; kernel_rfl
def s84 (z : Nat) : SFn := ⟨2, 14, [(ResultVar.tmp 4)],
 (.seq (.reg [⟨(some 2), (Op.box 50 (Operand.tmp 0)), none, ⟨1, false, false⟩⟩,
  ⟨(some 4), (Op.assign (Operand.const (Value.int IntKind.i64 0))), none, ann0⟩] none)
 (.seq (.reg [⟨(some 5), (Op.move (Operand.tmp 1)), none, ann0⟩,
  ⟨(some 6), (Op.convert 3 110 (Operand.tmp 5)), none, ann0⟩,
  ⟨(some 7), (Op.binOp BinOp.add 110 (Operand.tmp 6) (Operand.const (Value.int IntKind.u64 3)) 110), none, ann0⟩,
  ⟨(some 8), (Op.binOp BinOp.rem 110 (Operand.tmp 7) (Operand.const (Value.int IntKind.u64 4)) 110), none, ann0⟩,
  ⟨(some 9), (Op.fieldAddr 50 (Operand.tmp 2) 1), none, ann0⟩,
  ⟨(some 10), (Op.indexAddr 47 (Operand.tmp 9) (Operand.tmp 8)), none, ann0⟩,
  ⟨(some 11), (Op.load 46 (Operand.tmp 10)), none, ann0⟩,
  ⟨(some 12), (Op.convert 46 3 (Operand.tmp 11)), none, ann0⟩,
  ⟨(some 13), (Op.binOp BinOp.rem 3 (Operand.tmp 12) (Operand.const (Value.int IntKind.i64 21)) 3), none, ann0⟩,
  ⟨(some 4), (Op.assign (Operand.tmp 13)), none, ann0⟩] none)
 .ret))⟩
theorem F84 (z : Nat) : FOk Try.prog 84 (s84 z) := by unfold FOk; kernel_rfl
def c71_1 (z : Nat) : SC := .post (.seq (.post (.seq (.post (.reg [⟨(some 22), (Op.move (Operand.tmp 10)), none, ann0⟩,
  ⟨(some 23), (Op.fieldAddr 50 (Operand.tmp 3) 0), none, ann0⟩,
  ⟨(some 24), (Op.load 45 (Operand.tmp 23)), none, ann0⟩,
  ⟨(some 25), (Op.move (Operand.tmp 1)), none, ann0⟩,
  ⟨(some 26), (Op.indexAddr 45 (Operand.tmp 24) (Operand.tmp 25)), none, ann0⟩,
  ⟨(some 27), (Op.fieldAddr 103 (Operand.tmp 26) 2), none, ann0⟩,
  ⟨(some 28), (Op.load 101 (Operand.tmp 27)), none, ann0⟩,
  ⟨(some 29), (Op.call { callee := (Callee.builtin Builtin.len), args := #[(Operand.tmp 28)], argTypes := #[101] }), none, ann0⟩,
  ⟨(some 30), (Op.binOp BinOp.lss 3 (Operand.tmp 22) (Operand.tmp 29) 3), none, ann0⟩] none) (.tidy [1, 2, 3, 7, 8, 9, 10, 30] z (z + 2)))
 (.cond (Operand.tmp 30) .skip
 (.exit 0))) (.tidy [1, 2, 3, 7, 8, 9, 10] z (z + 2)))
 (.seq (.post (.block 1 (.seq (.post (.reg [⟨(some 33), (Op.load 50 (Operand.tmp 3)), none, ann0⟩,
  ⟨(some 34), (Op.move (Operand.tmp 1)), none, ann0⟩,
  ⟨(some 35), (Op.move (Operand.tmp 10)), none, ann0⟩,
  ⟨(some 36), (Op.move (Operand.tmp 8)), none, ann0⟩,
  ⟨(some 37), (Op.move (Operand.tmp 9)), none, ann0⟩,
  ⟨(some 38), (Op.call { callee := (Callee.value (Operand.func 83)), args := #[(Operand.tmp 33), (Operand.tmp 34), (Operand.tmp 35), (Operand.tmp 36), (Operand.tmp 37)], argTypes := #[50, 3, 3, 54, 54] }), none, ann0⟩,
  ⟨(some 11), (Op.alloc 61), none, ⟨1, false, false⟩⟩,
  ⟨none, (Op.store 61 (Operand.tmp 11) (Operand.tmp 38)), none, ann0⟩] none) (.tidy [1, 2, 3, 7, 8, 9, 10, 11] z (z + 3)))
 (.seq (.post (.seq (.reg [⟨(some 39), (Op.move (Operand.tmp 2)), none, ann0⟩,
  ⟨(some 40), (Op.unOp UnOp.not 4 (Operand.tmp 39)), none, ann0⟩] none)
 (.cond (Operand.tmp 40) (.seq (.reg [⟨(some 41), (Op.load 50 (Operand.tmp 3)), none, ann0⟩,
  ⟨(some 42), (Op.fieldAddr 61 (Operand.tmp 11) 4), none, ann0⟩,
  ⟨(some 43), (Op.load 3 (Operand.tmp 42)), none, ann0⟩,
  ⟨(some 44), (Op.call { callee := (Callee.value (Operand.func 84)), args := #[(Operand.tmp 41), (Operand.tmp 43)], argTypes := #[50, 3] }), none, ann0⟩,
  ⟨(some 12), (Op.assign (Operand.tmp 44)), none, ann0⟩] none)
 (.seq (.post (.seq (.post (.reg [⟨(some 45), (Op.fieldAddr 50 (Operand.tmp 3) 3), none, ann0⟩,
  ⟨(some 46), (Op.load 5 (Operand.tmp 45)), none, ann0⟩,
  ⟨(some 47), (Op.binOp BinOp.gtr 5 (Operand.tmp 46) (Operand.const (Value.int IntKind.u8 0)) 5), none, ann0⟩,
  ⟨(some 48), (Op.move (Operand.tmp 47)), none, ann0⟩,
  ⟨(some 49), (Op.fieldAddr 50 (Operand.tmp 3) 3), (some (48, true)), ann0⟩,
  ⟨(some 50), (Op.load 5 (Operand.tmp 49)), (some (48, true)), ann0⟩,
  ⟨(some 51), (Op.convert 5 3 (Operand.tmp 50)), (some (48, true)), ann0⟩,
  ⟨(some 52), (Op.binOp BinOp.rem 3 (Operand.tmp 51) (Operand.const (Value.int IntKind.i64 8)) 3), (some (48, true)), ann0⟩,
  ⟨(some 53), (Op.move (Operand.tmp 10)), (some (48, true)), ann0⟩,
  ⟨(some 54), (Op.binOp BinOp.eql 3 (Operand.tmp 52) (Operand.tmp 53) 3), (some (48, true)), ann0⟩,
  ⟨(some 55), (Op.pick (Operand.tmp 48) (Operand.tmp 54) (Operand.const (Value.bool false))), none, ann0⟩,
  ⟨(some 56), (Op.move (Operand.tmp 55)), none, ann0⟩,
  ⟨(some 57), (Op.fieldAddr 50 (Operand.tmp 3) 3), (some (56, true)), ann0⟩,
  ⟨(some 58), (Op.load 5 (Operand.tmp 57)), (some (56, true)), ann0⟩,
  ⟨(some 59), (Op.convert 5 3 (Operand.tmp 58)), (some (56, true)), ann0⟩,
  ⟨(some 60), (Op.binOp BinOp.quo 3 (Operand.tmp 59) (Operand.const (Value.int IntKind.i64 8)) 3), (some (56, true)), ann0⟩,
  ⟨(some 61), (Op.binOp BinOp.rem 3 (Operand.tmp 60) (Operand.const (Value.int IntKind.i64 3)) 3), (some (56, true)), ann0⟩,
  ⟨(some 62), (Op.move (Operand.tmp 1)), (some (56, true)), ann0⟩,
  ⟨(some 63), (Op.binOp BinOp.eql 3 (Operand.tmp 61) (Operand.tmp 62) 3), (some (56, true)), ann0⟩,
  ⟨(some 64), (Op.pick (Operand.tmp 56) (Operand.tmp 63) (Operand.const (Value.bool false))), none, ann0⟩] none) (.tidy [1, 2, 3, 7, 8, 9, 10, 11, 12, 64] z (z + 3)))
 (.cond (Operand.tmp 64) (.reg [⟨(some 65), (Op.move (Operand.tmp 12)), none, ann0⟩,
  ⟨(some 66), (Op.binOp BinOp.add 3 (Operand.tmp 65) (Operand.const (Value.int IntKind.i64 500)) 3), none, ann0⟩,
  ⟨(some 12), (Op.assign (Operand.tmp 66)), none, ann0⟩] none)
 .skip)) (.tidy [1, 2, 3, 7, 8, 9, 10, 11, 12] z (z + 3)))
 (.reg [⟨(some 67), (Op.fieldAddr 61 (Operand.tmp 11) 9), none, ann0⟩,
  ⟨(some 68), (Op.load 3 (Operand.tmp 67)), none, ann0⟩,
  ⟨(some 69), (Op.move (Operand.tmp 12)), none, ann0⟩,
  ⟨(some 70), (Op.binOp BinOp.add 3 (Operand.tmp 68) (Operand.tmp 69) 3), none, ann0⟩,
  ⟨(some 71), (Op.fieldAddr 61 (Operand.tmp 11) 10), none, ann0⟩,
  ⟨(some 72), (Op.load 3 (Operand.tmp 71)), none, ann0⟩,
  ⟨(some 73), (Op.move (Operand.tmp 12)), none, ann0⟩,
  ⟨(some 74), (Op.binOp BinOp.add 3 (Operand.tmp 72) (Operand.tmp 73) 3), none, ann0⟩,
  ⟨(some 75), (Op.fieldAddr 61 (Operand.tmp 11) 9), none, ann0⟩,
  ⟨none, (Op.store 3 (Operand.tmp 75) (Operand.tmp 70)), none, ann0⟩,
  ⟨(some 76), (Op.fieldAddr 61 (Operand.tmp 11) 10), none, ann0⟩,
  ⟨none, (Op.store 3 (Operand.tmp 76) (Operand.tmp 74)), none, ann0⟩] none)))
 .skip)) (.tidy [1, 2, 3, 7, 8, 9, 10, 11] z (z + 3)))
 (.reg [⟨(some 77), (Op.move (Operand.tmp 7)), none, ann0⟩,
  ⟨(some 78), (Op.load 61 (Operand.tmp 11)), none, ann0⟩,
  ⟨(some 79), (Op.buildSlice 52 1 #[(0, (Operand.tmp 78))]), none, ⟨1, true, false⟩⟩,
  ⟨(some 80), (Op.call { callee := (Callee.builtin Builtin.append), args := #[(Operand.tmp 77), (Operand.tmp 79)], argTypes := #[52, 52] }), none, ann0⟩,
  ⟨(some 7), (Op.assign (Operand.tmp 80)), none, ann0⟩] none)))) (.tidy [1, 2, 3, 7, 8, 9, 10] z (z + 4)))
 (.reg [⟨(some 31), (Op.move (Operand.tmp 10)), none, ann0⟩,
  ⟨(some 32), (Op.binOp BinOp.add 3 (Operand.tmp 31) (Operand.const (Value.int IntKind.i64 1)) 3), none, ann0⟩,
  ⟨(some 10), (Op.assign (Operand.tmp 32)), none, ann0⟩] none))) (.tidy [1, 2, 3, 7, 8, 9, 10] z (z + 2))
def s71_1 (z : Nat) : SC := c71_1 z
theorem e71_1 {C : Pg} {z : Nat} {st : St} {ks : List Fr} {K : Ex → St → Prop} : wpk C (s71_1 z) st ks K ↔ wpk C (c71_1 z) st ks K := Iff.rfl
def s71 (z : Nat) : SFn := ⟨3, 82, [(ResultVar.tmp 6)],
 (.post (.seq (.reg [⟨(some 3), (Op.box 50 (Operand.tmp 0)), none, ⟨1, false, false⟩⟩,
  ⟨(some 6), (Op.assign (Operand.const (Value.slice none 0 0))), none, ann0⟩] none)
 (.seq (.post (.reg [⟨(some 7), (Op.assign (Operand.const (Value.slice none 0 0))), none, ann0⟩] none) (.mkv 7 61 14))
 (.seq (.post (.reg [⟨(some 14), (Op.fieldAddr 50 (Operand.tmp 3) 0), none, ann0⟩,
  ⟨(some 15), (Op.load 45 (Operand.tmp 14)), none, ann0⟩,
  ⟨(some 16), (Op.move (Operand.tmp 1)), none, ann0⟩,
  ⟨(some 17), (Op.indexAddr 45 (Operand.tmp 15) (Operand.tmp 16)), none, ann0⟩,
  ⟨(some 18), (Op.load 103 (Operand.tmp 17)), none, ann0⟩,
  ⟨(some 19), (Op.call { callee := (Callee.value (Operand.func 82)), args := #[(Operand.tmp 18)], argTypes := #[103] }), none, ann0⟩,
  ⟨(some 13), (Op.move (Operand.tmp 19)), none, ann0⟩,
  ⟨(some 20), (Op.extract (Operand.tmp 13) 0), none, ann0⟩,
  ⟨(some 21), (Op.extract (Operand.tmp 13) 1), none, ann0⟩,
  ⟨(some 8), (Op.assign (Operand.tmp 20)), none, ann0⟩,
  ⟨(some 9), (Op.assign (Operand.tmp 21)), none, ann0⟩] none) (.tidy [1, 2, 3, 7, 8, 9] z (z + 2)))
 (.seq (.post (.seq (.reg [⟨(some 10), (Op.assign (Operand.const (Value.int IntKind.i64 0))), none, ann0⟩] none)
 (.post (.block 0 (.pre (.tidy [1, 2, 3, 7, 8, 9, 10] z (z + 2)) (.loop (s71_1 z)))) (.tidy [7] z (z + 2)))) (.tidy [7] z (z + 2)))
 (.seq (.reg [⟨(some 81), (Op.move (Operand.tmp 7)), none, ann0⟩,
  ⟨(some 6), (Op.assign (Operand.tmp 81)), none, ann0⟩] none)
 .ret))))) (.frz 6))⟩
theorem F71 (z : Nat) : FOk Try.prog 71 (s71 z) := by unfold FOk; kernel_rfl
end Go.Proofs.YteidaaobppjlbaaV
