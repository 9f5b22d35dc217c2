/- The table of types and the functions' code, with notes for the interpreter, and the facts that they are the program's: made by a program. -/
import Derived.Test.YtnpppjipbkceeaaVC
import Derived.Test.YtnpppjipbkceeaaProg
import Derived.KernelRfl
set_option linter.unusedVariables false
namespace Go.Proofs.YtnpppjipbkceeaaV
open Go.RowKit

def TT : Tbl := [(2, ⟨.int .i64, 1, 8, [(.d (.int .i64 0))]⟩),
  (3, ⟨.int .i64, 1, 8, [(.d (.int .i64 0))]⟩),
  (4, ⟨.bool, 1, 1, [(.d (.bool false))]⟩),
  (5, ⟨.int .u8, 1, 1, [(.d (.int .u8 0))]⟩),
  (6, ⟨.int .u8, 1, 1, [(.d (.int .u8 0))]⟩),
  (8, ⟨.struct [(0, 2, 1), (1, 3, 1), (2, 4, 1), (3, 6, 1)], 4, 24, [(.d (.int .i64 0)), (.d (.int .i64 0)), (.d (.bool false)), (.d (.int .u8 0))]⟩),
  (9, ⟨.str, 1, 16, [(.d (.str ⟨#[]⟩))]⟩),
  (23, ⟨.slice 33, 1, 24, [(.d .nils)]⟩),
  (33, ⟨.struct [(0, 3, 1), (1, 3, 1)], 2, 16, [(.d (.int .i64 0)), (.d (.int .i64 0))]⟩),
  (38, ⟨.int .i64, 1, 8, [(.d (.int .i64 0))]⟩),
  (45, ⟨.int .u64, 1, 8, [(.d (.int .u64 0))]⟩),
  (62, ⟨.other, 1, 8, [.nilf]⟩),
  (76, ⟨.arr 2 4, 2, 2, [(.d (.bool false)), (.d (.bool false))]⟩),
  (85, ⟨.int .i64, 1, 8, [(.d (.int .i64 0))]⟩),
  (92, ⟨.int .u32, 1, 4, [(.d (.int .u32 0))]⟩),
  (94, ⟨.int .u64, 1, 8, [(.d (.int .u64 0))]⟩),
  (95, ⟨.int .u64, 1, 8, [(.d (.int .u64 0))]⟩)]
theorem TT_ok : TOk Try.prog TT := by unfold TOk; kernel_rfl
theorem T2 : TT.get 2 = some ⟨.int .i64, 1, 8, [(.d (.int .i64 0))]⟩ := by kernel_rfl
theorem T3 : TT.get 3 = some ⟨.int .i64, 1, 8, [(.d (.int .i64 0))]⟩ := by kernel_rfl
theorem T4 : TT.get 4 = some ⟨.bool, 1, 1, [(.d (.bool false))]⟩ := by kernel_rfl
theorem T5 : TT.get 5 = some ⟨.int .u8, 1, 1, [(.d (.int .u8 0))]⟩ := by kernel_rfl
theorem T6 : TT.get 6 = some ⟨.int .u8, 1, 1, [(.d (.int .u8 0))]⟩ := by kernel_rfl
theorem T8 : TT.get 8 = some ⟨.struct [(0, 2, 1), (1, 3, 1), (2, 4, 1), (3, 6, 1)], 4, 24, [(.d (.int .i64 0)), (.d (.int .i64 0)), (.d (.bool false)), (.d (.int .u8 0))]⟩ := by kernel_rfl
theorem T9 : TT.get 9 = some ⟨.str, 1, 16, [(.d (.str ⟨#[]⟩))]⟩ := by kernel_rfl
theorem T23 : TT.get 23 = some ⟨.slice 33, 1, 24, [(.d .nils)]⟩ := by kernel_rfl
theorem T33 : TT.get 33 = some ⟨.struct [(0, 3, 1), (1, 3, 1)], 2, 16, [(.d (.int .i64 0)), (.d (.int .i64 0))]⟩ := by kernel_rfl
theorem T38 : TT.get 38 = some ⟨.int .i64, 1, 8, [(.d (.int .i64 0))]⟩ := by kernel_rfl
theorem T45 : TT.get 45 = some ⟨.int .u64, 1, 8, [(.d (.int .u64 0))]⟩ := by kernel_rfl
theorem T62 : TT.get 62 = some ⟨.other, 1, 8, [.nilf]⟩ := by kernel_rfl
theorem T76 : TT.get 76 = some ⟨.arr 2 4, 2, 2, [(.d (.bool false)), (.d (.bool false))]⟩ := by kernel_rfl
theorem T85 : TT.get 85 = some ⟨.int .i64, 1, 8, [(.d (.int .i64 0))]⟩ := by kernel_rfl
theorem T92 : TT.get 92 = some ⟨.int .u32, 1, 4, [(.d (.int .u32 0))]⟩ := by kernel_rfl
theorem T94 : TT.get 94 = some ⟨.int .u64, 1, 8, [(.d (.int .u64 0))]⟩ := by kernel_rfl
theorem T95 : TT.get 95 = some ⟨.int .u64, 1, 8, [(.d (.int .u64 0))]⟩ := by kernel_rfl
def s7 (z : Nat) : SFn := ⟨1, 92, [(ResultVar.tmp 2)],
 (.seq (.reg [⟨(some 2), (Op.assign (Operand.const (Value.bool false))), none, ann0⟩] none)
 (.seq (.post (.seq (.post (.reg [⟨(some 9), (Op.call { callee := (Callee.value (Operand.func 14)), args := #[], argTypes := #[] }), none, ann0⟩,
  ⟨(some 10), (Op.unOp UnOp.not 4 (Operand.tmp 9)), none, ann0⟩,
  ⟨(some 11), (Op.move (Operand.tmp 10)), none, ann0⟩,
  ⟨(some 12), (Op.move (Operand.tmp 0)), (some (11, false)), ann0⟩,
  ⟨(some 13), (Op.call { callee := (Callee.builtin Builtin.len), args := #[(Operand.tmp 12)], argTypes := #[23] }), (some (11, false)), ann0⟩,
  ⟨(some 14), (Op.binOp BinOp.gtr 3 (Operand.tmp 13) (Operand.const (Value.int IntKind.i64 20)) 3), (some (11, false)), ann0⟩,
  ⟨(some 15), (Op.pick (Operand.tmp 11) (Operand.const (Value.bool true)) (Operand.tmp 14)), none, ann0⟩] none) (.tidy [0, 15] z (z + 0)))
 (.cond (Operand.tmp 15) (.seq (.reg [⟨(some 16), (Op.call { callee := (Callee.value (Operand.func 14)), args := #[], argTypes := #[] }), none, ann0⟩,
  ⟨(some 2), (Op.assign (Operand.tmp 16)), none, ann0⟩] none)
 .ret)
 .skip)) (.tidy [0] z (z + 0)))
 (.seq (.reg [⟨(some 18), (Op.move (Operand.tmp 0)), none, ann0⟩,
  ⟨(some 19), (Op.call { callee := (Callee.value (Operand.func 26)), args := #[(Operand.tmp 18)], argTypes := #[23] }), none, ann0⟩,
  ⟨(some 17), (Op.move (Operand.tmp 19)), none, ann0⟩,
  ⟨(some 20), (Op.extract (Operand.tmp 17) 0), none, ann0⟩,
  ⟨(some 21), (Op.extract (Operand.tmp 17) 1), none, ann0⟩,
  ⟨(some 3), (Op.assign (Operand.tmp 20)), none, ann0⟩,
  ⟨(some 4), (Op.assign (Operand.tmp 21)), none, ann0⟩] none)
 (.seq (.post (.reg [⟨(some 23), (Op.move (Operand.tmp 0)), none, ann0⟩,
  ⟨(some 24), (Op.call { callee := (Callee.value (Operand.func 27)), args := #[(Operand.tmp 23)], argTypes := #[23] }), none, ann0⟩,
  ⟨(some 22), (Op.move (Operand.tmp 24)), none, ann0⟩,
  ⟨(some 25), (Op.extract (Operand.tmp 22) 0), none, ann0⟩,
  ⟨(some 26), (Op.extract (Operand.tmp 22) 1), none, ann0⟩,
  ⟨(some 5), (Op.assign (Operand.tmp 25)), none, ann0⟩,
  ⟨(some 6), (Op.assign (Operand.tmp 26)), none, ann0⟩] none) (.tidy [0, 3, 4, 5, 6] z (z + 0)))
 (.seq (.post (.seq (.post (.reg [⟨(some 27), (Op.move (Operand.tmp 4)), none, ann0⟩,
  ⟨(some 28), (Op.move (Operand.tmp 6)), none, ann0⟩,
  ⟨(some 29), (Op.binOp BinOp.neq 38 (Operand.tmp 27) (Operand.tmp 28) 38), none, ann0⟩,
  ⟨(some 30), (Op.move (Operand.tmp 29)), none, ann0⟩,
  ⟨(some 31), (Op.move (Operand.tmp 3)), (some (30, false)), ann0⟩,
  ⟨(some 32), (Op.move (Operand.tmp 5)), (some (30, false)), ann0⟩,
  ⟨(some 33), (Op.call { callee := (Callee.value (Operand.func 15)), args := #[(Operand.tmp 31), (Operand.tmp 32)], argTypes := #[23, 23] }), (some (30, false)), ann0⟩,
  ⟨(some 34), (Op.unOp UnOp.not 4 (Operand.tmp 33)), (some (30, false)), ann0⟩,
  ⟨(some 35), (Op.pick (Operand.tmp 30) (Operand.const (Value.bool true)) (Operand.tmp 34)), none, ann0⟩,
  ⟨(some 36), (Op.move (Operand.tmp 35)), none, ann0⟩,
  ⟨(some 37), (Op.move (Operand.tmp 4)), (some (36, false)), ann0⟩,
  ⟨(some 38), (Op.binOp BinOp.neq 38 (Operand.tmp 37) (Operand.const (Value.int IntKind.i64 0)) 38), (some (36, false)), ann0⟩,
  ⟨(some 39), (Op.pick (Operand.tmp 36) (Operand.const (Value.bool true)) (Operand.tmp 38)), none, ann0⟩] none) (.tidy [0, 3, 4, 5, 6, 39] z (z + 0)))
 (.cond (Operand.tmp 39) (.seq (.reg [⟨(some 40), (Op.move (Operand.tmp 4)), none, ann0⟩,
  ⟨(some 41), (Op.move (Operand.tmp 6)), none, ann0⟩,
  ⟨(some 42), (Op.binOp BinOp.eql 38 (Operand.tmp 40) (Operand.tmp 41) 38), none, ann0⟩,
  ⟨(some 43), (Op.move (Operand.tmp 42)), none, ann0⟩,
  ⟨(some 44), (Op.move (Operand.tmp 3)), (some (43, true)), ann0⟩,
  ⟨(some 45), (Op.call { callee := (Callee.builtin Builtin.len), args := #[(Operand.tmp 44)], argTypes := #[23] }), (some (43, true)), ann0⟩,
  ⟨(some 46), (Op.move (Operand.tmp 5)), (some (43, true)), ann0⟩,
  ⟨(some 47), (Op.call { callee := (Callee.builtin Builtin.len), args := #[(Operand.tmp 46)], argTypes := #[23] }), (some (43, true)), ann0⟩,
  ⟨(some 48), (Op.binOp BinOp.eql 3 (Operand.tmp 45) (Operand.tmp 47) 3), (some (43, true)), ann0⟩,
  ⟨(some 49), (Op.pick (Operand.tmp 43) (Operand.tmp 48) (Operand.const (Value.bool false))), none, ann0⟩,
  ⟨(some 50), (Op.move (Operand.tmp 49)), none, ann0⟩,
  ⟨(some 51), (Op.move (Operand.tmp 4)), (some (50, true)), ann0⟩,
  ⟨(some 52), (Op.binOp BinOp.eql 38 (Operand.tmp 51) (Operand.const (Value.int IntKind.i64 0)) 38), (some (50, true)), ann0⟩,
  ⟨(some 53), (Op.move (Operand.tmp 6)), (some (50, true)), ann0⟩,
  ⟨(some 54), (Op.binOp BinOp.eql 38 (Operand.tmp 53) (Operand.const (Value.int IntKind.i64 0)) 38), (some (50, true)), ann0⟩,
  ⟨(some 55), (Op.binOp BinOp.eql 4 (Operand.tmp 52) (Operand.tmp 54) 4), (some (50, true)), ann0⟩,
  ⟨(some 56), (Op.pick (Operand.tmp 50) (Operand.tmp 55) (Operand.const (Value.bool false))), none, ann0⟩,
  ⟨(some 57), (Op.move (Operand.tmp 56)), none, ann0⟩,
  ⟨(some 58), (Op.move (Operand.tmp 4)), (some (57, true)), ann0⟩,
  ⟨(some 59), (Op.binOp BinOp.neq 38 (Operand.tmp 58) (Operand.const (Value.int IntKind.i64 0)) 38), (some (57, true)), ann0⟩,
  ⟨(some 60), (Op.move (Operand.tmp 59)), (some (57, true)), ann0⟩,
  ⟨(some 61), (Op.move (Operand.tmp 3)), (some (60, false)), ann0⟩,
  ⟨(some 62), (Op.move (Operand.tmp 5)), (some (60, false)), ann0⟩,
  ⟨(some 63), (Op.call { callee := (Callee.value (Operand.func 15)), args := #[(Operand.tmp 61), (Operand.tmp 62)], argTypes := #[23, 23] }), (some (60, false)), ann0⟩,
  ⟨(some 64), (Op.pick (Operand.tmp 60) (Operand.const (Value.bool true)) (Operand.tmp 63)), (some (57, true)), ann0⟩,
  ⟨(some 65), (Op.pick (Operand.tmp 57) (Operand.tmp 64) (Operand.const (Value.bool false))), none, ann0⟩,
  ⟨(some 2), (Op.assign (Operand.tmp 65)), none, ann0⟩] none)
 .ret)
 .skip)) (.tidy [0, 3] z (z + 0)))
 (.seq (.reg [⟨(some 67), (Op.move (Operand.tmp 3)), none, ann0⟩,
  ⟨(some 68), (Op.call { callee := (Callee.value (Operand.func 26)), args := #[(Operand.tmp 67)], argTypes := #[23] }), none, ann0⟩,
  ⟨(some 66), (Op.move (Operand.tmp 68)), none, ann0⟩,
  ⟨(some 69), (Op.extract (Operand.tmp 66) 0), none, ann0⟩,
  ⟨(some 70), (Op.extract (Operand.tmp 66) 1), none, ann0⟩,
  ⟨(some 7), (Op.assign (Operand.tmp 69)), none, ann0⟩,
  ⟨(some 8), (Op.assign (Operand.tmp 70)), none, ann0⟩] none)
 (.seq (.reg [⟨(some 71), (Op.move (Operand.tmp 8)), none, ann0⟩,
  ⟨(some 72), (Op.binOp BinOp.eql 38 (Operand.tmp 71) (Operand.const (Value.int IntKind.i64 0)) 38), none, ann0⟩,
  ⟨(some 73), (Op.move (Operand.tmp 72)), none, ann0⟩,
  ⟨(some 74), (Op.move (Operand.tmp 7)), (some (73, true)), ann0⟩,
  ⟨(some 75), (Op.move (Operand.tmp 3)), (some (73, true)), ann0⟩,
  ⟨(some 76), (Op.call { callee := (Callee.value (Operand.func 15)), args := #[(Operand.tmp 74), (Operand.tmp 75)], argTypes := #[23, 23] }), (some (73, true)), ann0⟩,
  ⟨(some 77), (Op.pick (Operand.tmp 73) (Operand.tmp 76) (Operand.const (Value.bool false))), none, ann0⟩,
  ⟨(some 78), (Op.move (Operand.tmp 77)), none, ann0⟩,
  ⟨(some 79), (Op.move (Operand.tmp 3)), (some (78, true)), ann0⟩,
  ⟨(some 80), (Op.call { callee := (Callee.value (Operand.func 24)), args := #[(Operand.tmp 79)], argTypes := #[23] }), (some (78, true)), ann0⟩,
  ⟨(some 81), (Op.binOp BinOp.eql 38 (Operand.tmp 80) (Operand.const (Value.int IntKind.i64 0)) 38), (some (78, true)), ann0⟩,
  ⟨(some 82), (Op.pick (Operand.tmp 78) (Operand.tmp 81) (Operand.const (Value.bool false))), none, ann0⟩,
  ⟨(some 83), (Op.move (Operand.tmp 82)), none, ann0⟩,
  ⟨(some 84), (Op.move (Operand.tmp 0)), (some (83, true)), ann0⟩,
  ⟨(some 85), (Op.call { callee := (Callee.value (Operand.func 24)), args := #[(Operand.tmp 84)], argTypes := #[23] }), (some (83, true)), ann0⟩,
  ⟨(some 86), (Op.binOp BinOp.eql 38 (Operand.tmp 85) (Operand.const (Value.int IntKind.i64 0)) 38), (some (83, true)), ann0⟩,
  ⟨(some 87), (Op.move (Operand.tmp 0)), (some (83, true)), ann0⟩,
  ⟨(some 88), (Op.move (Operand.tmp 3)), (some (83, true)), ann0⟩,
  ⟨(some 89), (Op.call { callee := (Callee.value (Operand.func 15)), args := #[(Operand.tmp 87), (Operand.tmp 88)], argTypes := #[23, 23] }), (some (83, true)), ann0⟩,
  ⟨(some 90), (Op.binOp BinOp.eql 4 (Operand.tmp 86) (Operand.tmp 89) 4), (some (83, true)), ann0⟩,
  ⟨(some 91), (Op.pick (Operand.tmp 83) (Operand.tmp 90) (Operand.const (Value.bool false))), none, ann0⟩,
  ⟨(some 2), (Op.assign (Operand.tmp 91)), none, ann0⟩] none)
 .ret)))))))⟩
theorem F7 (z : Nat) : FOk Try.prog 7 (s7 z) := by unfold FOk; kernel_rfl
def s14 (z : Nat) : SFn := ⟨0, 62, [(ResultVar.tmp 0)],
 (.seq (.reg [⟨(some 0), (Op.assign (Operand.const (Value.bool false))), none, ann0⟩] none)
 (.seq (.post (.reg [⟨(some 7), (Op.build 33 #[(0, (Operand.const (Value.int IntKind.i64 3))), (1, (Operand.const (Value.int IntKind.i64 5)))]), none, ann0⟩,
  ⟨(some 8), (Op.build 33 #[(0, (Operand.const (Value.int IntKind.i64 1))), (1, (Operand.const (Value.int IntKind.i64 3)))]), none, ann0⟩,
  ⟨(some 9), (Op.build 33 #[(0, (Operand.const (Value.int IntKind.i64 8))), (1, (Operand.const (Value.int IntKind.i64 8)))]), none, ann0⟩,
  ⟨(some 10), (Op.build 33 #[(0, (Operand.const (Value.int IntKind.i64 4))), (1, (Operand.const (Value.int IntKind.i64 6)))]), none, ann0⟩,
  ⟨(some 11), (Op.buildSlice 23 4 #[(0, (Operand.tmp 7)), (1, (Operand.tmp 8)), (2, (Operand.tmp 9)), (3, (Operand.tmp 10))]), none, ⟨1, true, false⟩⟩,
  ⟨(some 12), (Op.call { callee := (Callee.value (Operand.func 26)), args := #[(Operand.tmp 11)], argTypes := #[23] }), none, ann0⟩,
  ⟨(some 6), (Op.move (Operand.tmp 12)), none, ann0⟩,
  ⟨(some 13), (Op.extract (Operand.tmp 6) 0), none, ann0⟩,
  ⟨(some 14), (Op.extract (Operand.tmp 6) 1), none, ann0⟩,
  ⟨(some 1), (Op.assign (Operand.tmp 13)), none, ann0⟩,
  ⟨(some 2), (Op.assign (Operand.tmp 14)), none, ann0⟩] none) (.tidy [1, 2] z (z + 1)))
 (.seq (.reg [⟨(some 16), (Op.move (Operand.tmp 1)), none, ann0⟩,
  ⟨(some 17), (Op.call { callee := (Callee.value (Operand.func 37)), args := #[(Operand.tmp 16), (Operand.const (Value.int IntKind.i64 2))], argTypes := #[23, 3] }), none, ann0⟩,
  ⟨(some 15), (Op.move (Operand.tmp 17)), none, ann0⟩,
  ⟨(some 18), (Op.extract (Operand.tmp 15) 0), none, ann0⟩,
  ⟨(some 19), (Op.extract (Operand.tmp 15) 1), none, ann0⟩,
  ⟨(some 3), (Op.assign (Operand.tmp 18)), none, ann0⟩,
  ⟨(some 4), (Op.assign (Operand.tmp 19)), none, ann0⟩] none)
 (.seq (.post (.reg [⟨(some 20), (Op.move (Operand.tmp 1)), none, ann0⟩,
  ⟨(some 21), (Op.build 33 #[(0, (Operand.const (Value.int IntKind.i64 2))), (1, (Operand.const (Value.int IntKind.i64 3)))]), none, ann0⟩,
  ⟨(some 22), (Op.buildSlice 23 1 #[(0, (Operand.tmp 21))]), none, ⟨1, true, false⟩⟩,
  ⟨(some 23), (Op.call { callee := (Callee.value (Operand.func 19)), args := #[(Operand.tmp 20), (Operand.tmp 22)], argTypes := #[23, 23] }), none, ann0⟩,
  ⟨(some 5), (Op.assign (Operand.tmp 23)), none, ann0⟩] none) (.tidy [1, 2, 3, 4, 5] z (z + 2)))
 (.seq (.reg [⟨(some 24), (Op.move (Operand.tmp 2)), none, ann0⟩,
  ⟨(some 25), (Op.binOp BinOp.eql 38 (Operand.tmp 24) (Operand.const (Value.int IntKind.i64 0)) 38), none, ann0⟩,
  ⟨(some 26), (Op.move (Operand.tmp 25)), none, ann0⟩,
  ⟨(some 27), (Op.move (Operand.tmp 1)), (some (26, true)), ann0⟩,
  ⟨(some 28), (Op.call { callee := (Callee.builtin Builtin.len), args := #[(Operand.tmp 27)], argTypes := #[23] }), (some (26, true)), ann0⟩,
  ⟨(some 29), (Op.binOp BinOp.eql 3 (Operand.tmp 28) (Operand.const (Value.int IntKind.i64 1)) 3), (some (26, true)), ann0⟩,
  ⟨(some 30), (Op.pick (Operand.tmp 26) (Operand.tmp 29) (Operand.const (Value.bool false))), none, ann0⟩,
  ⟨(some 31), (Op.move (Operand.tmp 30)), none, ann0⟩,
  ⟨(some 32), (Op.move (Operand.tmp 1)), (some (31, true)), ann0⟩,
  ⟨(some 33), (Op.indexAddr 23 (Operand.tmp 32) (Operand.const (Value.int IntKind.i64 0))), (some (31, true)), ann0⟩,
  ⟨(some 34), (Op.load 33 (Operand.tmp 33)), (some (31, true)), ann0⟩,
  ⟨(some 35), (Op.build 33 #[(0, (Operand.const (Value.int IntKind.i64 1))), (1, (Operand.const (Value.int IntKind.i64 6)))]), (some (31, true)), ann0⟩,
  ⟨(some 36), (Op.binOp BinOp.eql 33 (Operand.tmp 34) (Operand.tmp 35) 33), (some (31, true)), ann0⟩,
  ⟨(some 37), (Op.pick (Operand.tmp 31) (Operand.tmp 36) (Operand.const (Value.bool false))), none, ann0⟩,
  ⟨(some 38), (Op.move (Operand.tmp 37)), none, ann0⟩,
  ⟨(some 39), (Op.move (Operand.tmp 1)), (some (38, true)), ann0⟩,
  ⟨(some 40), (Op.call { callee := (Callee.value (Operand.func 20)), args := #[(Operand.tmp 39)], argTypes := #[23] }), (some (38, true)), ann0⟩,
  ⟨(some 41), (Op.binOp BinOp.eql 3 (Operand.tmp 40) (Operand.const (Value.int IntKind.i64 5)) 3), (some (38, true)), ann0⟩,
  ⟨(some 42), (Op.pick (Operand.tmp 38) (Operand.tmp 41) (Operand.const (Value.bool false))), none, ann0⟩,
  ⟨(some 43), (Op.move (Operand.tmp 42)), none, ann0⟩,
  ⟨(some 44), (Op.move (Operand.tmp 3)), (some (43, true)), ann0⟩,
  ⟨(some 45), (Op.binOp BinOp.eql 3 (Operand.tmp 44) (Operand.const (Value.int IntKind.i64 3)) 3), (some (43, true)), ann0⟩,
  ⟨(some 46), (Op.pick (Operand.tmp 43) (Operand.tmp 45) (Operand.const (Value.bool false))), none, ann0⟩,
  ⟨(some 47), (Op.move (Operand.tmp 46)), none, ann0⟩,
  ⟨(some 48), (Op.move (Operand.tmp 4)), (some (47, true)), ann0⟩,
  ⟨(some 49), (Op.pick (Operand.tmp 47) (Operand.tmp 48) (Operand.const (Value.bool false))), none, ann0⟩,
  ⟨(some 50), (Op.move (Operand.tmp 49)), none, ann0⟩,
  ⟨(some 51), (Op.move (Operand.tmp 5)), (some (50, true)), ann0⟩,
  ⟨(some 52), (Op.call { callee := (Callee.builtin Builtin.len), args := #[(Operand.tmp 51)], argTypes := #[23] }), (some (50, true)), ann0⟩,
  ⟨(some 53), (Op.binOp BinOp.eql 3 (Operand.tmp 52) (Operand.const (Value.int IntKind.i64 2)) 3), (some (50, true)), ann0⟩,
  ⟨(some 54), (Op.pick (Operand.tmp 50) (Operand.tmp 53) (Operand.const (Value.bool false))), none, ann0⟩,
  ⟨(some 55), (Op.move (Operand.tmp 54)), none, ann0⟩,
  ⟨(some 56), (Op.move (Operand.tmp 5)), (some (55, true)), ann0⟩,
  ⟨(some 57), (Op.indexAddr 23 (Operand.tmp 56) (Operand.const (Value.int IntKind.i64 1))), (some (55, true)), ann0⟩,
  ⟨(some 58), (Op.load 33 (Operand.tmp 57)), (some (55, true)), ann0⟩,
  ⟨(some 59), (Op.build 33 #[(0, (Operand.const (Value.int IntKind.i64 3))), (1, (Operand.const (Value.int IntKind.i64 6)))]), (some (55, true)), ann0⟩,
  ⟨(some 60), (Op.binOp BinOp.eql 33 (Operand.tmp 58) (Operand.tmp 59) 33), (some (55, true)), ann0⟩,
  ⟨(some 61), (Op.pick (Operand.tmp 55) (Operand.tmp 60) (Operand.const (Value.bool false))), none, ann0⟩,
  ⟨(some 0), (Op.assign (Operand.tmp 61)), none, ann0⟩] none)
 .ret)))))⟩
theorem F14 (z : Nat) : FOk Try.prog 14 (s14 z) := by unfold FOk; kernel_rfl
def c15_1 (z : Nat) : SC := .post (.seq (.post (.seq (.reg [⟨(some 11), (Op.move (Operand.tmp 5)), none, ann0⟩,
  ⟨(some 12), (Op.move (Operand.tmp 0)), none, ann0⟩,
  ⟨(some 13), (Op.call { callee := (Callee.builtin Builtin.len), args := #[(Operand.tmp 12)], argTypes := #[23] }), none, ann0⟩,
  ⟨(some 14), (Op.binOp BinOp.lss 3 (Operand.tmp 11) (Operand.tmp 13) 3), none, ann0⟩] none)
 (.cond (Operand.tmp 14) .skip
 (.exit 0))) (.tidy [0, 1, 5] z (z + 0)))
 (.seq (.post (.block 1 (.seq (.post (.reg [⟨(some 17), (Op.move (Operand.tmp 0)), none, ann0⟩,
  ⟨(some 18), (Op.move (Operand.tmp 5)), none, ann0⟩,
  ⟨(some 19), (Op.indexAddr 23 (Operand.tmp 17) (Operand.tmp 18)), none, ann0⟩,
  ⟨(some 20), (Op.load 33 (Operand.tmp 19)), none, ann0⟩,
  ⟨(some 21), (Op.move (Operand.tmp 1)), none, ann0⟩,
  ⟨(some 22), (Op.move (Operand.tmp 5)), none, ann0⟩,
  ⟨(some 23), (Op.indexAddr 23 (Operand.tmp 21) (Operand.tmp 22)), none, ann0⟩,
  ⟨(some 24), (Op.load 33 (Operand.tmp 23)), none, ann0⟩,
  ⟨(some 25), (Op.binOp BinOp.neq 33 (Operand.tmp 20) (Operand.tmp 24) 33), none, ann0⟩] (some [0, 0, 3, 7, 0, 0, 48, 112, 255])) (.tidy [0, 1, 5, 25] z (z + 0)))
 (.cond (Operand.tmp 25) (.seq (.reg [⟨(some 4), (Op.assign (Operand.const (Value.bool false))), none, ann0⟩] none)
 .ret)
 .skip))) (.tidy [0, 1, 5] z (z + 0)))
 (.reg [⟨(some 15), (Op.move (Operand.tmp 5)), none, ann0⟩,
  ⟨(some 16), (Op.binOp BinOp.add 3 (Operand.tmp 15) (Operand.const (Value.int IntKind.i64 1)) 3), none, ann0⟩,
  ⟨(some 5), (Op.assign (Operand.tmp 16)), none, ann0⟩] none))) (.tidy [0, 1, 5] z (z + 0))
def s15_1 (z : Nat) : SC := c15_1 z
theorem e15_1 {C : Pg} {z : Nat} {st : St} {ks : List Fr} {K : Ex → St → Prop} : wpk C (s15_1 z) st ks K ↔ wpk C (c15_1 z) st ks K := Iff.rfl
def s15 (z : Nat) : SFn := ⟨2, 26, [(ResultVar.tmp 4)],
 (.seq (.reg [⟨(some 4), (Op.assign (Operand.const (Value.bool false))), none, ann0⟩] none)
 (.seq (.post (.seq (.reg [⟨(some 6), (Op.move (Operand.tmp 0)), none, ann0⟩,
  ⟨(some 7), (Op.call { callee := (Callee.builtin Builtin.len), args := #[(Operand.tmp 6)], argTypes := #[23] }), none, ann0⟩,
  ⟨(some 8), (Op.move (Operand.tmp 1)), none, ann0⟩,
  ⟨(some 9), (Op.call { callee := (Callee.builtin Builtin.len), args := #[(Operand.tmp 8)], argTypes := #[23] }), none, ann0⟩,
  ⟨(some 10), (Op.binOp BinOp.neq 3 (Operand.tmp 7) (Operand.tmp 9) 3), none, ann0⟩] none)
 (.cond (Operand.tmp 10) (.seq (.reg [⟨(some 4), (Op.assign (Operand.const (Value.bool false))), none, ann0⟩] none)
 .ret)
 .skip)) (.tidy [0, 1] z (z + 0)))
 (.seq (.post (.seq (.reg [⟨(some 5), (Op.assign (Operand.const (Value.int IntKind.i64 0))), none, ann0⟩] none)
 (.post (.block 0 (.pre (.tidy [0, 1, 5] z (z + 0)) (.loop (s15_1 z)))) (.tidy [] z (z + 0)))) (.tidy [] z (z + 0)))
 (.seq (.reg [⟨(some 4), (Op.assign (Operand.const (Value.bool true))), none, ann0⟩] none)
 .ret))))⟩
theorem F15 (z : Nat) : FOk Try.prog 15 (s15 z) := by unfold FOk; kernel_rfl
def s19 (z : Nat) : SFn := ⟨2, 8, [(ResultVar.tmp 4)],
 (.post (.seq (.reg [⟨(some 4), (Op.assign (Operand.const (Value.slice none 0 0))), none, ann0⟩] none)
 (.seq (.reg [⟨(some 5), (Op.move (Operand.tmp 0)), none, ann0⟩,
  ⟨(some 6), (Op.move (Operand.tmp 1)), none, ann0⟩,
  ⟨(some 7), (Op.call { callee := (Callee.value (Operand.func 48)), args := #[(Operand.tmp 5), (Operand.tmp 6), (Operand.func 52)], argTypes := #[23, 23, 62] }), none, ann0⟩,
  ⟨(some 4), (Op.assign (Operand.tmp 7)), none, ann0⟩] none)
 .ret)) (.frz 4))⟩
theorem F19 (z : Nat) : FOk Try.prog 19 (s19 z) := by unfold FOk; kernel_rfl
def c20_1 (z : Nat) : SC := .post (.seq (.reg [⟨(some 9), (Op.binOp BinOp.lss 3 (Operand.tmp 8) (Operand.tmp 7) 3), none, ann0⟩] none)
 (.seq (.cond (Operand.tmp 9) .skip
 (.exit 0))
 (.seq (.post (.block 1 (.seq (.reg [⟨(some 10), (Op.indexAddr 23 (Operand.tmp 6) (Operand.tmp 8)), none, ann0⟩,
  ⟨(some 11), (Op.load 33 (Operand.tmp 10)), none, ann0⟩,
  ⟨(some 5), (Op.alloc 33), none, ⟨1, false, false⟩⟩,
  ⟨none, (Op.store 33 (Operand.tmp 5) (Operand.tmp 11)), none, ann0⟩] none)
 (.reg [⟨(some 12), (Op.move (Operand.tmp 3)), none, ann0⟩,
  ⟨(some 13), (Op.fieldAddr 33 (Operand.tmp 5) 1), none, ann0⟩,
  ⟨(some 14), (Op.load 3 (Operand.tmp 13)), none, ann0⟩,
  ⟨(some 15), (Op.fieldAddr 33 (Operand.tmp 5) 0), none, ann0⟩,
  ⟨(some 16), (Op.load 3 (Operand.tmp 15)), none, ann0⟩,
  ⟨(some 17), (Op.binOp BinOp.sub 3 (Operand.tmp 14) (Operand.tmp 16) 3), none, ann0⟩,
  ⟨(some 18), (Op.binOp BinOp.add 3 (Operand.tmp 12) (Operand.tmp 17) 3), none, ann0⟩,
  ⟨(some 3), (Op.assign (Operand.tmp 18)), none, ann0⟩] none))) (.tidy [3, 6, 7, 8] z (z + 1)))
 (.reg [⟨(some 19), (Op.binOp BinOp.add 3 (Operand.tmp 8) (Operand.const (Value.int IntKind.i64 1)) 3), none, ann0⟩,
  ⟨(some 8), (Op.move (Operand.tmp 19)), none, ann0⟩] none)))) (.tidy [3, 6, 7, 8] z (z + 0))
def s20_1 (z : Nat) : SC := c20_1 z
theorem e20_1 {C : Pg} {z : Nat} {st : St} {ks : List Fr} {K : Ex → St → Prop} : wpk C (s20_1 z) st ks K ↔ wpk C (c20_1 z) st ks K := Iff.rfl
def s20 (z : Nat) : SFn := ⟨1, 21, [(ResultVar.tmp 2)],
 (.seq (.reg [⟨(some 2), (Op.assign (Operand.const (Value.int IntKind.i64 0))), none, ann0⟩] none)
 (.seq (.reg [⟨(some 3), (Op.assign (Operand.const (Value.int IntKind.i64 0))), none, ann0⟩] none)
 (.seq (.post (.seq (.reg [⟨(some 6), (Op.move (Operand.tmp 0)), none, ann0⟩,
  ⟨(some 7), (Op.call { callee := (Callee.builtin Builtin.len), args := #[(Operand.tmp 6)], argTypes := #[23] }), none, ann0⟩,
  ⟨(some 8), (Op.move (Operand.const (Value.int IntKind.i64 0))), none, ann0⟩] none)
 (.post (.block 0 (.pre (.tidy [3, 6, 7, 8] z (z + 0)) (.loop (s20_1 z)))) (.tidy [3] z (z + 0)))) (.tidy [3] z (z + 0)))
 (.seq (.reg [⟨(some 20), (Op.move (Operand.tmp 3)), none, ann0⟩,
  ⟨(some 2), (Op.assign (Operand.tmp 20)), none, ann0⟩] none)
 .ret))))⟩
theorem F20 (z : Nat) : FOk Try.prog 20 (s20 z) := by unfold FOk; kernel_rfl
def c24_1 (z : Nat) : SC := .post (.seq (.reg [⟨(some 11), (Op.binOp BinOp.lss 3 (Operand.tmp 10) (Operand.tmp 9) 3), none, ann0⟩] none)
 (.seq (.cond (Operand.tmp 11) .skip
 (.exit 0))
 (.seq (.post (.block 1 (.seq (.reg [⟨(some 12), (Op.move (Operand.tmp 10)), none, ann0⟩,
  ⟨(some 13), (Op.indexAddr 23 (Operand.tmp 8) (Operand.tmp 10)), none, ann0⟩,
  ⟨(some 14), (Op.load 33 (Operand.tmp 13)), none, ann0⟩,
  ⟨(some 4), (Op.alloc 33), none, ⟨1, false, false⟩⟩,
  ⟨(some 3), (Op.assign (Operand.tmp 12)), none, ann0⟩,
  ⟨none, (Op.store 33 (Operand.tmp 4) (Operand.tmp 14)), none, ann0⟩] none)
 (.block 2 (.seq (.post (.reg [⟨(some 16), (Op.load 33 (Operand.tmp 4)), none, ann0⟩,
  ⟨(some 17), (Op.call { callee := (Callee.value (Operand.func 54)), args := #[(Operand.tmp 16)], argTypes := #[33] }), none, ann0⟩,
  ⟨(some 18), (Op.unOp UnOp.not 4 (Operand.tmp 17)), none, ann0⟩,
  ⟨(some 15), (Op.assign (Operand.tmp 18)), none, ann0⟩] none) (.tidy [0, 3, 4, 8, 9, 10, 15] z (z + 1)))
 (.cond (Operand.tmp 15) (.seq (.reg [⟨(some 2), (Op.assign (Operand.const (Value.int IntKind.i64 2))), none, ann0⟩] none)
 .ret)
 (.seq (.reg [⟨(some 20), (Op.fieldAddr 33 (Operand.tmp 4) 0), none, ann0⟩,
  ⟨(some 21), (Op.load 3 (Operand.tmp 20)), none, ann0⟩,
  ⟨(some 22), (Op.fieldAddr 33 (Operand.tmp 4) 1), none, ann0⟩,
  ⟨(some 23), (Op.load 3 (Operand.tmp 22)), none, ann0⟩,
  ⟨(some 24), (Op.binOp BinOp.geq 3 (Operand.tmp 21) (Operand.tmp 23) 3), none, ann0⟩,
  ⟨(some 19), (Op.assign (Operand.tmp 24)), none, ann0⟩] none)
 (.cond (Operand.tmp 19) (.seq (.reg [⟨(some 2), (Op.assign (Operand.const (Value.int IntKind.i64 7))), none, ann0⟩] none)
 .ret)
 (.seq (.post (.reg [⟨(some 26), (Op.move (Operand.tmp 3)), none, ann0⟩,
  ⟨(some 27), (Op.binOp BinOp.gtr 3 (Operand.tmp 26) (Operand.const (Value.int IntKind.i64 0)) 3), none, ann0⟩,
  ⟨(some 28), (Op.move (Operand.tmp 27)), none, ann0⟩,
  ⟨(some 29), (Op.fieldAddr 33 (Operand.tmp 4) 0), (some (28, true)), ann0⟩,
  ⟨(some 30), (Op.load 3 (Operand.tmp 29)), (some (28, true)), ann0⟩,
  ⟨(some 31), (Op.move (Operand.tmp 0)), (some (28, true)), ann0⟩,
  ⟨(some 32), (Op.move (Operand.tmp 3)), (some (28, true)), ann0⟩,
  ⟨(some 33), (Op.binOp BinOp.sub 3 (Operand.tmp 32) (Operand.const (Value.int IntKind.i64 1)) 3), (some (28, true)), ann0⟩,
  ⟨(some 34), (Op.indexAddr 23 (Operand.tmp 31) (Operand.tmp 33)), (some (28, true)), ann0⟩,
  ⟨(some 35), (Op.fieldAddr 33 (Operand.tmp 34) 1), (some (28, true)), ann0⟩,
  ⟨(some 36), (Op.load 3 (Operand.tmp 35)), (some (28, true)), ann0⟩,
  ⟨(some 37), (Op.binOp BinOp.leq 3 (Operand.tmp 30) (Operand.tmp 36) 3), (some (28, true)), ann0⟩,
  ⟨(some 38), (Op.pick (Operand.tmp 28) (Operand.tmp 37) (Operand.const (Value.bool false))), none, ann0⟩,
  ⟨(some 25), (Op.assign (Operand.tmp 38)), none, ann0⟩] (some [0, 1, 3, 7, 15, 7, 7, 71, 231, 487, 999, 2047, 4095, 8191])) (.tidy [0, 8, 9, 10, 25] z (z + 1)))
 (.cond (Operand.tmp 25) (.seq (.reg [⟨(some 2), (Op.assign (Operand.const (Value.int IntKind.i64 8))), none, ann0⟩] none)
 .ret)
 .skip))))))))) (.tidy [0, 8, 9, 10] z (z + 1)))
 (.reg [⟨(some 39), (Op.binOp BinOp.add 3 (Operand.tmp 10) (Operand.const (Value.int IntKind.i64 1)) 3), none, ann0⟩,
  ⟨(some 10), (Op.move (Operand.tmp 39)), none, ann0⟩] none)))) (.tidy [0, 8, 9, 10] z (z + 0))
def s24_1 (z : Nat) : SC := c24_1 z
theorem e24_1 {C : Pg} {z : Nat} {st : St} {ks : List Fr} {K : Ex → St → Prop} : wpk C (s24_1 z) st ks K ↔ wpk C (c24_1 z) st ks K := Iff.rfl
def s24 (z : Nat) : SFn := ⟨1, 40, [(ResultVar.tmp 2)],
 (.seq (.reg [⟨(some 2), (Op.assign (Operand.const (Value.int IntKind.i64 0))), none, ann0⟩] none)
 (.seq (.post (.seq (.reg [⟨(some 5), (Op.move (Operand.tmp 0)), none, ann0⟩,
  ⟨(some 6), (Op.call { callee := (Callee.builtin Builtin.len), args := #[(Operand.tmp 5)], argTypes := #[23] }), none, ann0⟩,
  ⟨(some 7), (Op.binOp BinOp.gtr 3 (Operand.tmp 6) (Operand.const (Value.int IntKind.i64 4096)) 3), none, ann0⟩] none)
 (.cond (Operand.tmp 7) (.seq (.reg [⟨(some 2), (Op.assign (Operand.const (Value.int IntKind.i64 6))), none, ann0⟩] none)
 .ret)
 .skip)) (.tidy [0] z (z + 0)))
 (.seq (.post (.seq (.reg [⟨(some 8), (Op.move (Operand.tmp 0)), none, ann0⟩,
  ⟨(some 9), (Op.call { callee := (Callee.builtin Builtin.len), args := #[(Operand.tmp 8)], argTypes := #[23] }), none, ann0⟩,
  ⟨(some 10), (Op.move (Operand.const (Value.int IntKind.i64 0))), none, ann0⟩] none)
 (.post (.block 0 (.pre (.tidy [0, 8, 9, 10] z (z + 0)) (.loop (s24_1 z)))) (.tidy [] z (z + 0)))) (.tidy [] z (z + 0)))
 (.seq (.reg [⟨(some 2), (Op.assign (Operand.const (Value.int IntKind.i64 0))), none, ann0⟩] none)
 .ret))))⟩
theorem F24 (z : Nat) : FOk Try.prog 24 (s24 z) := by unfold FOk; kernel_rfl
def c25_1 (z : Nat) : SC := .post (.seq (.post (.seq (.reg [⟨(some 7), (Op.move (Operand.tmp 3)), none, ann0⟩,
  ⟨(some 8), (Op.move (Operand.tmp 0)), none, ann0⟩,
  ⟨(some 9), (Op.call { callee := (Callee.builtin Builtin.len), args := #[(Operand.tmp 8)], argTypes := #[23] }), none, ann0⟩,
  ⟨(some 10), (Op.binOp BinOp.lss 3 (Operand.tmp 7) (Operand.tmp 9) 3), none, ann0⟩] none)
 (.cond (Operand.tmp 10) .skip
 (.exit 0))) (.tidy [0, 3] z (z + 0)))
 (.seq (.post (.block 1 (.seq (.post (.seq (.post (.reg [⟨(some 13), (Op.move (Operand.tmp 0)), none, ann0⟩,
  ⟨(some 14), (Op.move (Operand.tmp 3)), none, ann0⟩,
  ⟨(some 15), (Op.indexAddr 23 (Operand.tmp 13) (Operand.tmp 14)), none, ann0⟩,
  ⟨(some 16), (Op.fieldAddr 33 (Operand.tmp 15) 0), none, ann0⟩,
  ⟨(some 17), (Op.load 3 (Operand.tmp 16)), none, ann0⟩,
  ⟨(some 18), (Op.call { callee := (Callee.value (Operand.func 55)), args := #[(Operand.tmp 17)], argTypes := #[3] }), none, ann0⟩,
  ⟨(some 19), (Op.unOp UnOp.not 4 (Operand.tmp 18)), none, ann0⟩,
  ⟨(some 20), (Op.move (Operand.tmp 19)), none, ann0⟩,
  ⟨(some 21), (Op.move (Operand.tmp 0)), (some (20, false)), ann0⟩,
  ⟨(some 22), (Op.move (Operand.tmp 3)), (some (20, false)), ann0⟩,
  ⟨(some 23), (Op.indexAddr 23 (Operand.tmp 21) (Operand.tmp 22)), (some (20, false)), ann0⟩,
  ⟨(some 24), (Op.fieldAddr 33 (Operand.tmp 23) 1), (some (20, false)), ann0⟩,
  ⟨(some 25), (Op.load 3 (Operand.tmp 24)), (some (20, false)), ann0⟩,
  ⟨(some 26), (Op.call { callee := (Callee.value (Operand.func 55)), args := #[(Operand.tmp 25)], argTypes := #[3] }), (some (20, false)), ann0⟩,
  ⟨(some 27), (Op.unOp UnOp.not 4 (Operand.tmp 26)), (some (20, false)), ann0⟩,
  ⟨(some 28), (Op.pick (Operand.tmp 20) (Operand.const (Value.bool true)) (Operand.tmp 27)), none, ann0⟩] none) (.tidy [0, 3, 28] z (z + 0)))
 (.cond (Operand.tmp 28) (.seq (.reg [⟨(some 2), (Op.assign (Operand.const (Value.int IntKind.i64 2))), none, ann0⟩] none)
 .ret)
 .skip)) (.tidy [0, 3] z (z + 0)))
 (.seq (.post (.seq (.post (.reg [⟨(some 29), (Op.move (Operand.tmp 0)), none, ann0⟩,
  ⟨(some 30), (Op.move (Operand.tmp 3)), none, ann0⟩,
  ⟨(some 31), (Op.indexAddr 23 (Operand.tmp 29) (Operand.tmp 30)), none, ann0⟩,
  ⟨(some 32), (Op.fieldAddr 33 (Operand.tmp 31) 0), none, ann0⟩,
  ⟨(some 33), (Op.load 3 (Operand.tmp 32)), none, ann0⟩,
  ⟨(some 34), (Op.move (Operand.tmp 0)), none, ann0⟩,
  ⟨(some 35), (Op.move (Operand.tmp 3)), none, ann0⟩,
  ⟨(some 36), (Op.indexAddr 23 (Operand.tmp 34) (Operand.tmp 35)), none, ann0⟩,
  ⟨(some 37), (Op.fieldAddr 33 (Operand.tmp 36) 1), none, ann0⟩,
  ⟨(some 38), (Op.load 3 (Operand.tmp 37)), none, ann0⟩,
  ⟨(some 39), (Op.binOp BinOp.geq 3 (Operand.tmp 33) (Operand.tmp 38) 3), none, ann0⟩] (some [0, 0, 3, 7, 15, 0, 0, 96, 224, 480, 1023])) (.tidy [0, 3, 39] z (z + 0)))
 (.cond (Operand.tmp 39) (.seq (.reg [⟨(some 2), (Op.assign (Operand.const (Value.int IntKind.i64 7))), none, ann0⟩] none)
 .ret)
 .skip)) (.tidy [0, 3] z (z + 0)))
 (.seq (.post (.reg [⟨(some 40), (Op.move (Operand.tmp 3)), none, ann0⟩,
  ⟨(some 41), (Op.binOp BinOp.gtr 3 (Operand.tmp 40) (Operand.const (Value.int IntKind.i64 0)) 3), none, ann0⟩,
  ⟨(some 42), (Op.move (Operand.tmp 41)), none, ann0⟩,
  ⟨(some 43), (Op.move (Operand.tmp 0)), (some (42, true)), ann0⟩,
  ⟨(some 44), (Op.move (Operand.tmp 3)), (some (42, true)), ann0⟩,
  ⟨(some 45), (Op.indexAddr 23 (Operand.tmp 43) (Operand.tmp 44)), (some (42, true)), ann0⟩,
  ⟨(some 46), (Op.fieldAddr 33 (Operand.tmp 45) 0), (some (42, true)), ann0⟩,
  ⟨(some 47), (Op.load 3 (Operand.tmp 46)), (some (42, true)), ann0⟩,
  ⟨(some 48), (Op.move (Operand.tmp 0)), (some (42, true)), ann0⟩,
  ⟨(some 49), (Op.move (Operand.tmp 3)), (some (42, true)), ann0⟩,
  ⟨(some 50), (Op.binOp BinOp.sub 3 (Operand.tmp 49) (Operand.const (Value.int IntKind.i64 1)) 3), (some (42, true)), ann0⟩,
  ⟨(some 51), (Op.indexAddr 23 (Operand.tmp 48) (Operand.tmp 50)), (some (42, true)), ann0⟩,
  ⟨(some 52), (Op.fieldAddr 33 (Operand.tmp 51) 1), (some (42, true)), ann0⟩,
  ⟨(some 53), (Op.load 3 (Operand.tmp 52)), (some (42, true)), ann0⟩,
  ⟨(some 54), (Op.binOp BinOp.leq 3 (Operand.tmp 47) (Operand.tmp 53) 3), (some (42, true)), ann0⟩,
  ⟨(some 55), (Op.pick (Operand.tmp 42) (Operand.tmp 54) (Operand.const (Value.bool false))), none, ann0⟩] (some [0, 1, 3, 7, 7, 31, 63, 127, 7, 7, 519, 1799, 3847, 7943, 16383, 32767])) (.tidy [0, 3, 55] z (z + 0)))
 (.cond (Operand.tmp 55) (.seq (.reg [⟨(some 2), (Op.assign (Operand.const (Value.int IntKind.i64 8))), none, ann0⟩] none)
 .ret)
 .skip))))) (.tidy [0, 3] z (z + 0)))
 (.reg [⟨(some 11), (Op.move (Operand.tmp 3)), none, ann0⟩,
  ⟨(some 12), (Op.binOp BinOp.add 3 (Operand.tmp 11) (Operand.const (Value.int IntKind.i64 1)) 3), none, ann0⟩,
  ⟨(some 3), (Op.assign (Operand.tmp 12)), none, ann0⟩] none))) (.tidy [0, 3] z (z + 0))
def s25_1 (z : Nat) : SC := c25_1 z
theorem e25_1 {C : Pg} {z : Nat} {st : St} {ks : List Fr} {K : Ex → St → Prop} : wpk C (s25_1 z) st ks K ↔ wpk C (c25_1 z) st ks K := Iff.rfl
def s25 (z : Nat) : SFn := ⟨1, 56, [(ResultVar.tmp 2)],
 (.seq (.reg [⟨(some 2), (Op.assign (Operand.const (Value.int IntKind.i64 0))), none, ann0⟩] none)
 (.seq (.post (.seq (.reg [⟨(some 4), (Op.move (Operand.tmp 0)), none, ann0⟩,
  ⟨(some 5), (Op.call { callee := (Callee.builtin Builtin.len), args := #[(Operand.tmp 4)], argTypes := #[23] }), none, ann0⟩,
  ⟨(some 6), (Op.binOp BinOp.gtr 3 (Operand.tmp 5) (Operand.const (Value.int IntKind.i64 4096)) 3), none, ann0⟩] none)
 (.cond (Operand.tmp 6) (.seq (.reg [⟨(some 2), (Op.assign (Operand.const (Value.int IntKind.i64 6))), none, ann0⟩] none)
 .ret)
 .skip)) (.tidy [0] z (z + 0)))
 (.seq (.post (.seq (.reg [⟨(some 3), (Op.assign (Operand.const (Value.int IntKind.i64 0))), none, ann0⟩] none)
 (.post (.block 0 (.pre (.tidy [0, 3] z (z + 0)) (.loop (s25_1 z)))) (.tidy [] z (z + 0)))) (.tidy [] z (z + 0)))
 (.seq (.reg [⟨(some 2), (Op.assign (Operand.const (Value.int IntKind.i64 0))), none, ann0⟩] none)
 .ret))))⟩
theorem F25 (z : Nat) : FOk Try.prog 25 (s25 z) := by unfold FOk; kernel_rfl
def s26 (z : Nat) : SFn := ⟨1, 15, [(ResultVar.tmp 2), (ResultVar.tmp 3)],
 (.post (.seq (.reg [⟨(some 2), (Op.assign (Operand.const (Value.slice none 0 0))), none, ann0⟩,
  ⟨(some 3), (Op.assign (Operand.const (Value.int IntKind.i64 0))), none, ann0⟩] none)
 (.seq (.post (.seq (.reg [⟨(some 5), (Op.move (Operand.tmp 0)), none, ann0⟩,
  ⟨(some 6), (Op.call { callee := (Callee.builtin Builtin.len), args := #[(Operand.tmp 5)], argTypes := #[23] }), none, ann0⟩,
  ⟨(some 7), (Op.binOp BinOp.gtr 3 (Operand.tmp 6) (Operand.const (Value.int IntKind.i64 4096)) 3), none, ann0⟩] none)
 (.cond (Operand.tmp 7) (.seq (.reg [⟨(some 2), (Op.assign (Operand.const (Value.slice none 0 0))), none, ann0⟩,
  ⟨(some 3), (Op.assign (Operand.const (Value.int IntKind.i64 6))), none, ann0⟩] none)
 .ret)
 .skip)) (.tidy [0] z (z + 0)))
 (.seq (.seq (.reg [⟨(some 8), (Op.move (Operand.tmp 0)), none, ann0⟩,
  ⟨(some 9), (Op.call { callee := (Callee.value (Operand.func 56)), args := #[(Operand.tmp 8), (Operand.func 57)], argTypes := #[23, 65] }), none, ann0⟩] none)
 (.cond (Operand.tmp 9) (.seq (.reg [⟨(some 2), (Op.assign (Operand.const (Value.slice none 0 0))), none, ann0⟩,
  ⟨(some 3), (Op.assign (Operand.const (Value.int IntKind.i64 2))), none, ann0⟩] none)
 .ret)
 .skip))
 (.seq (.post (.reg [⟨(some 10), (Op.move (Operand.tmp 0)), none, ann0⟩,
  ⟨(some 11), (Op.call { callee := (Callee.value (Operand.func 59)), args := #[(Operand.tmp 10)], argTypes := #[23] }), none, ⟨1, false, false⟩⟩,
  ⟨(some 12), (Op.call { callee := (Callee.value (Operand.func 58)), args := #[(Operand.tmp 11), (Operand.func 60)], argTypes := #[69, 72] }), none, ann0⟩,
  ⟨(some 4), (Op.assign (Operand.tmp 12)), none, ann0⟩] none) (.tidy [4] z (z + 1)))
 (.seq (.reg [⟨(some 13), (Op.move (Operand.tmp 4)), none, ann0⟩,
  ⟨(some 14), (Op.call { callee := (Callee.value (Operand.func 53)), args := #[(Operand.tmp 13)], argTypes := #[23] }), none, ann0⟩,
  ⟨(some 2), (Op.assign (Operand.tmp 14)), none, ann0⟩,
  ⟨(some 3), (Op.assign (Operand.const (Value.int IntKind.i64 0))), none, ann0⟩] none)
 .ret))))) (.frz 2))⟩
theorem F26 (z : Nat) : FOk Try.prog 26 (s26 z) := by unfold FOk; kernel_rfl
def c27_1 (z : Nat) : SC := .post (.seq (.post (.seq (.reg [⟨(some 8), (Op.move (Operand.tmp 4)), none, ann0⟩,
  ⟨(some 9), (Op.move (Operand.tmp 0)), none, ann0⟩,
  ⟨(some 10), (Op.call { callee := (Callee.builtin Builtin.len), args := #[(Operand.tmp 9)], argTypes := #[23] }), none, ann0⟩,
  ⟨(some 11), (Op.binOp BinOp.lss 3 (Operand.tmp 8) (Operand.tmp 10) 3), none, ann0⟩] none)
 (.cond (Operand.tmp 11) .skip
 (.exit 0))) (.tidy [0, 4] z (z + 0)))
 (.seq (.post (.block 1 (.seq (.post (.reg [⟨(some 14), (Op.move (Operand.tmp 0)), none, ann0⟩,
  ⟨(some 15), (Op.move (Operand.tmp 4)), none, ann0⟩,
  ⟨(some 16), (Op.indexAddr 23 (Operand.tmp 14) (Operand.tmp 15)), none, ann0⟩,
  ⟨(some 17), (Op.fieldAddr 33 (Operand.tmp 16) 0), none, ann0⟩,
  ⟨(some 18), (Op.load 3 (Operand.tmp 17)), none, ann0⟩,
  ⟨(some 19), (Op.call { callee := (Callee.value (Operand.func 55)), args := #[(Operand.tmp 18)], argTypes := #[3] }), none, ann0⟩,
  ⟨(some 20), (Op.unOp UnOp.not 4 (Operand.tmp 19)), none, ann0⟩,
  ⟨(some 21), (Op.move (Operand.tmp 20)), none, ann0⟩,
  ⟨(some 22), (Op.move (Operand.tmp 0)), (some (21, false)), ann0⟩,
  ⟨(some 23), (Op.move (Operand.tmp 4)), (some (21, false)), ann0⟩,
  ⟨(some 24), (Op.indexAddr 23 (Operand.tmp 22) (Operand.tmp 23)), (some (21, false)), ann0⟩,
  ⟨(some 25), (Op.fieldAddr 33 (Operand.tmp 24) 1), (some (21, false)), ann0⟩,
  ⟨(some 26), (Op.load 3 (Operand.tmp 25)), (some (21, false)), ann0⟩,
  ⟨(some 27), (Op.call { callee := (Callee.value (Operand.func 55)), args := #[(Operand.tmp 26)], argTypes := #[3] }), (some (21, false)), ann0⟩,
  ⟨(some 28), (Op.unOp UnOp.not 4 (Operand.tmp 27)), (some (21, false)), ann0⟩,
  ⟨(some 29), (Op.pick (Operand.tmp 21) (Operand.const (Value.bool true)) (Operand.tmp 28)), none, ann0⟩] none) (.tidy [0, 4, 29] z (z + 0)))
 (.cond (Operand.tmp 29) (.seq (.reg [⟨(some 2), (Op.assign (Operand.const (Value.slice none 0 0))), none, ann0⟩,
  ⟨(some 3), (Op.assign (Operand.const (Value.int IntKind.i64 2))), none, ann0⟩] none)
 .ret)
 .skip))) (.tidy [0, 4] z (z + 0)))
 (.reg [⟨(some 12), (Op.move (Operand.tmp 4)), none, ann0⟩,
  ⟨(some 13), (Op.binOp BinOp.add 3 (Operand.tmp 12) (Operand.const (Value.int IntKind.i64 1)) 3), none, ann0⟩,
  ⟨(some 4), (Op.assign (Operand.tmp 13)), none, ann0⟩] none))) (.tidy [0, 4] z (z + 0))
def s27_1 (z : Nat) : SC := c27_1 z
theorem e27_1 {C : Pg} {z : Nat} {st : St} {ks : List Fr} {K : Ex → St → Prop} : wpk C (s27_1 z) st ks K ↔ wpk C (c27_1 z) st ks K := Iff.rfl
def s27 (z : Nat) : SFn := ⟨1, 32, [(ResultVar.tmp 2), (ResultVar.tmp 3)],
 (.post (.seq (.reg [⟨(some 2), (Op.assign (Operand.const (Value.slice none 0 0))), none, ann0⟩,
  ⟨(some 3), (Op.assign (Operand.const (Value.int IntKind.i64 0))), none, ann0⟩] none)
 (.seq (.post (.seq (.reg [⟨(some 5), (Op.move (Operand.tmp 0)), none, ann0⟩,
  ⟨(some 6), (Op.call { callee := (Callee.builtin Builtin.len), args := #[(Operand.tmp 5)], argTypes := #[23] }), none, ann0⟩,
  ⟨(some 7), (Op.binOp BinOp.gtr 3 (Operand.tmp 6) (Operand.const (Value.int IntKind.i64 4096)) 3), none, ann0⟩] none)
 (.cond (Operand.tmp 7) (.seq (.reg [⟨(some 2), (Op.assign (Operand.const (Value.slice none 0 0))), none, ann0⟩,
  ⟨(some 3), (Op.assign (Operand.const (Value.int IntKind.i64 6))), none, ann0⟩] none)
 .ret)
 .skip)) (.tidy [0] z (z + 0)))
 (.seq (.post (.seq (.reg [⟨(some 4), (Op.assign (Operand.const (Value.int IntKind.i64 0))), none, ann0⟩] none)
 (.post (.block 0 (.pre (.tidy [0, 4] z (z + 0)) (.loop (s27_1 z)))) (.tidy [0] z (z + 0)))) (.tidy [0] z (z + 0)))
 (.seq (.reg [⟨(some 30), (Op.move (Operand.tmp 0)), none, ann0⟩,
  ⟨(some 31), (Op.call { callee := (Callee.value (Operand.func 47)), args := #[(Operand.tmp 30)], argTypes := #[23] }), none, ann0⟩,
  ⟨(some 2), (Op.assign (Operand.tmp 31)), none, ann0⟩,
  ⟨(some 3), (Op.assign (Operand.const (Value.int IntKind.i64 0))), none, ann0⟩] none)
 .ret)))) (.frz 2))⟩
theorem F27 (z : Nat) : FOk Try.prog 27 (s27 z) := by unfold FOk; kernel_rfl
def c37_1 (z : Nat) : SC := .post (.seq (.reg [⟨(some 14), (Op.binOp BinOp.lss 3 (Operand.tmp 13) (Operand.tmp 12) 3), none, ann0⟩] none)
 (.seq (.cond (Operand.tmp 14) .skip
 (.exit 0))
 (.seq (.post (.block 1 (.seq (.reg [⟨(some 15), (Op.indexAddr 23 (Operand.tmp 11) (Operand.tmp 13)), none, ann0⟩,
  ⟨(some 16), (Op.load 33 (Operand.tmp 15)), none, ann0⟩,
  ⟨(some 7), (Op.alloc 33), none, ⟨1, false, false⟩⟩,
  ⟨none, (Op.store 33 (Operand.tmp 7) (Operand.tmp 16)), none, ann0⟩] none)
 (.seq (.post (.reg [⟨(some 17), (Op.fieldAddr 33 (Operand.tmp 7) 1), none, ann0⟩,
  ⟨(some 18), (Op.load 3 (Operand.tmp 17)), none, ann0⟩,
  ⟨(some 19), (Op.fieldAddr 33 (Operand.tmp 7) 0), none, ann0⟩,
  ⟨(some 20), (Op.load 3 (Operand.tmp 19)), none, ann0⟩,
  ⟨(some 21), (Op.binOp BinOp.sub 3 (Operand.tmp 18) (Operand.tmp 20) 3), none, ann0⟩,
  ⟨(some 8), (Op.assign (Operand.tmp 21)), none, ann0⟩] none) (.tidy [1, 7, 8, 11, 12, 13] z (z + 1)))
 (.seq (.post (.seq (.reg [⟨(some 22), (Op.move (Operand.tmp 1)), none, ann0⟩,
  ⟨(some 23), (Op.move (Operand.tmp 8)), none, ann0⟩,
  ⟨(some 24), (Op.binOp BinOp.lss 3 (Operand.tmp 22) (Operand.tmp 23) 3), none, ann0⟩] none)
 (.cond (Operand.tmp 24) (.seq (.reg [⟨(some 25), (Op.fieldAddr 33 (Operand.tmp 7) 0), none, ann0⟩,
  ⟨(some 26), (Op.load 3 (Operand.tmp 25)), none, ann0⟩,
  ⟨(some 27), (Op.move (Operand.tmp 1)), none, ann0⟩,
  ⟨(some 28), (Op.binOp BinOp.add 3 (Operand.tmp 26) (Operand.tmp 27) 3), none, ann0⟩,
  ⟨(some 4), (Op.assign (Operand.tmp 28)), none, ann0⟩,
  ⟨(some 5), (Op.assign (Operand.const (Value.bool true))), none, ann0⟩] none)
 .ret)
 .skip)) (.tidy [1, 8, 11, 12, 13] z (z + 1)))
 (.reg [⟨(some 29), (Op.move (Operand.tmp 1)), none, ann0⟩,
  ⟨(some 30), (Op.move (Operand.tmp 8)), none, ann0⟩,
  ⟨(some 31), (Op.binOp BinOp.sub 3 (Operand.tmp 29) (Operand.tmp 30) 3), none, ann0⟩,
  ⟨(some 1), (Op.assign (Operand.tmp 31)), none, ann0⟩] none))))) (.tidy [1, 11, 12, 13] z (z + 1)))
 (.reg [⟨(some 32), (Op.binOp BinOp.add 3 (Operand.tmp 13) (Operand.const (Value.int IntKind.i64 1)) 3), none, ann0⟩,
  ⟨(some 13), (Op.move (Operand.tmp 32)), none, ann0⟩] none)))) (.tidy [1, 11, 12, 13] z (z + 0))
def s37_1 (z : Nat) : SC := c37_1 z
theorem e37_1 {C : Pg} {z : Nat} {st : St} {ks : List Fr} {K : Ex → St → Prop} : wpk C (s37_1 z) st ks K ↔ wpk C (c37_1 z) st ks K := Iff.rfl
def s37 (z : Nat) : SFn := ⟨2, 33, [(ResultVar.tmp 4), (ResultVar.tmp 5)],
 (.seq (.reg [⟨(some 4), (Op.assign (Operand.const (Value.int IntKind.i64 0))), none, ann0⟩,
  ⟨(some 5), (Op.assign (Operand.const (Value.bool false))), none, ann0⟩] none)
 (.seq (.post (.seq (.reg [⟨(some 9), (Op.move (Operand.tmp 1)), none, ann0⟩,
  ⟨(some 10), (Op.binOp BinOp.lss 3 (Operand.tmp 9) (Operand.const (Value.int IntKind.i64 0)) 3), none, ann0⟩] none)
 (.cond (Operand.tmp 10) (.seq (.reg [⟨(some 4), (Op.assign (Operand.const (Value.int IntKind.i64 0))), none, ann0⟩,
  ⟨(some 5), (Op.assign (Operand.const (Value.bool false))), none, ann0⟩] none)
 .ret)
 .skip)) (.tidy [0, 1] z (z + 0)))
 (.seq (.post (.seq (.reg [⟨(some 11), (Op.move (Operand.tmp 0)), none, ann0⟩,
  ⟨(some 12), (Op.call { callee := (Callee.builtin Builtin.len), args := #[(Operand.tmp 11)], argTypes := #[23] }), none, ann0⟩,
  ⟨(some 13), (Op.move (Operand.const (Value.int IntKind.i64 0))), none, ann0⟩] none)
 (.post (.block 0 (.pre (.tidy [1, 11, 12, 13] z (z + 0)) (.loop (s37_1 z)))) (.tidy [] z (z + 0)))) (.tidy [] z (z + 0)))
 (.seq (.reg [⟨(some 4), (Op.assign (Operand.const (Value.int IntKind.i64 0))), none, ann0⟩,
  ⟨(some 5), (Op.assign (Operand.const (Value.bool false))), none, ann0⟩] none)
 .ret))))⟩
theorem F37 (z : Nat) : FOk Try.prog 37 (s37 z) := by unfold FOk; kernel_rfl
def c38_1 (z : Nat) : SC := .post (.seq (.post (.seq (.reg [⟨(some 6), (Op.move (Operand.tmp 5)), none, ann0⟩,
  ⟨(some 7), (Op.move (Operand.tmp 0)), none, ann0⟩,
  ⟨(some 8), (Op.call { callee := (Callee.builtin Builtin.len), args := #[(Operand.tmp 7)], argTypes := #[23] }), none, ann0⟩,
  ⟨(some 9), (Op.binOp BinOp.lss 3 (Operand.tmp 6) (Operand.tmp 8) 3), none, ann0⟩] none)
 (.cond (Operand.tmp 9) .skip
 (.exit 0))) (.tidy [0, 1, 5] z (z + 0)))
 (.seq (.post (.block 1 (.seq (.post (.reg [⟨(some 12), (Op.move (Operand.tmp 0)), none, ann0⟩,
  ⟨(some 13), (Op.move (Operand.tmp 5)), none, ann0⟩,
  ⟨(some 14), (Op.indexAddr 23 (Operand.tmp 12) (Operand.tmp 13)), none, ann0⟩,
  ⟨(some 15), (Op.fieldAddr 33 (Operand.tmp 14) 0), none, ann0⟩,
  ⟨(some 16), (Op.load 3 (Operand.tmp 15)), none, ann0⟩,
  ⟨(some 17), (Op.move (Operand.tmp 1)), none, ann0⟩,
  ⟨(some 18), (Op.binOp BinOp.leq 3 (Operand.tmp 16) (Operand.tmp 17) 3), none, ann0⟩,
  ⟨(some 19), (Op.move (Operand.tmp 18)), none, ann0⟩,
  ⟨(some 20), (Op.move (Operand.tmp 1)), (some (19, true)), ann0⟩,
  ⟨(some 21), (Op.move (Operand.tmp 0)), (some (19, true)), ann0⟩,
  ⟨(some 22), (Op.move (Operand.tmp 5)), (some (19, true)), ann0⟩,
  ⟨(some 23), (Op.indexAddr 23 (Operand.tmp 21) (Operand.tmp 22)), (some (19, true)), ann0⟩,
  ⟨(some 24), (Op.fieldAddr 33 (Operand.tmp 23) 1), (some (19, true)), ann0⟩,
  ⟨(some 25), (Op.load 3 (Operand.tmp 24)), (some (19, true)), ann0⟩,
  ⟨(some 26), (Op.binOp BinOp.lss 3 (Operand.tmp 20) (Operand.tmp 25) 3), (some (19, true)), ann0⟩,
  ⟨(some 27), (Op.pick (Operand.tmp 19) (Operand.tmp 26) (Operand.const (Value.bool false))), none, ann0⟩] none) (.tidy [0, 1, 5, 27] z (z + 0)))
 (.cond (Operand.tmp 27) (.seq (.reg [⟨(some 4), (Op.assign (Operand.const (Value.bool true))), none, ann0⟩] none)
 .ret)
 .skip))) (.tidy [0, 1, 5] z (z + 0)))
 (.reg [⟨(some 10), (Op.move (Operand.tmp 5)), none, ann0⟩,
  ⟨(some 11), (Op.binOp BinOp.add 3 (Operand.tmp 10) (Operand.const (Value.int IntKind.i64 1)) 3), none, ann0⟩,
  ⟨(some 5), (Op.assign (Operand.tmp 11)), none, ann0⟩] none))) (.tidy [0, 1, 5] z (z + 0))
def s38_1 (z : Nat) : SC := c38_1 z
theorem e38_1 {C : Pg} {z : Nat} {st : St} {ks : List Fr} {K : Ex → St → Prop} : wpk C (s38_1 z) st ks K ↔ wpk C (c38_1 z) st ks K := Iff.rfl
def s38 (z : Nat) : SFn := ⟨2, 28, [(ResultVar.tmp 4)],
 (.seq (.reg [⟨(some 4), (Op.assign (Operand.const (Value.bool false))), none, ann0⟩] none)
 (.seq (.post (.seq (.reg [⟨(some 5), (Op.assign (Operand.const (Value.int IntKind.i64 0))), none, ann0⟩] none)
 (.post (.block 0 (.pre (.tidy [0, 1, 5] z (z + 0)) (.loop (s38_1 z)))) (.tidy [] z (z + 0)))) (.tidy [] z (z + 0)))
 (.seq (.reg [⟨(some 4), (Op.assign (Operand.const (Value.bool false))), none, ann0⟩] none)
 .ret)))⟩
theorem F38 (z : Nat) : FOk Try.prog 38 (s38 z) := by unfold FOk; kernel_rfl
def c47_2 (z : Nat) : SC := .post (.seq (.post (.seq (.post (.reg [⟨(some 28), (Op.move (Operand.tmp 5)), none, ann0⟩,
  ⟨(some 29), (Op.binOp BinOp.gtr 3 (Operand.tmp 28) (Operand.const (Value.int IntKind.i64 0)) 3), none, ann0⟩,
  ⟨(some 30), (Op.move (Operand.tmp 29)), none, ann0⟩,
  ⟨(some 31), (Op.move (Operand.tmp 3)), (some (30, true)), ann0⟩,
  ⟨(some 32), (Op.move (Operand.tmp 5)), (some (30, true)), ann0⟩,
  ⟨(some 33), (Op.binOp BinOp.sub 3 (Operand.tmp 32) (Operand.const (Value.int IntKind.i64 1)) 3), (some (30, true)), ann0⟩,
  ⟨(some 34), (Op.indexAddr 23 (Operand.tmp 31) (Operand.tmp 33)), (some (30, true)), ann0⟩,
  ⟨(some 35), (Op.fieldAddr 33 (Operand.tmp 34) 0), (some (30, true)), ann0⟩,
  ⟨(some 36), (Op.load 3 (Operand.tmp 35)), (some (30, true)), ann0⟩,
  ⟨(some 37), (Op.move (Operand.tmp 0)), (some (30, true)), ann0⟩,
  ⟨(some 38), (Op.move (Operand.tmp 4)), (some (30, true)), ann0⟩,
  ⟨(some 39), (Op.indexAddr 23 (Operand.tmp 37) (Operand.tmp 38)), (some (30, true)), ann0⟩,
  ⟨(some 40), (Op.fieldAddr 33 (Operand.tmp 39) 0), (some (30, true)), ann0⟩,
  ⟨(some 41), (Op.load 3 (Operand.tmp 40)), (some (30, true)), ann0⟩,
  ⟨(some 42), (Op.binOp BinOp.gtr 3 (Operand.tmp 36) (Operand.tmp 41) 3), (some (30, true)), ann0⟩,
  ⟨(some 43), (Op.pick (Operand.tmp 30) (Operand.tmp 42) (Operand.const (Value.bool false))), none, ann0⟩] (some [0, 1, 3, 7, 7, 23, 63, 127, 255, 7, 7, 1543, 3591, 7687, 16383, 32767])) (.tidy [0, 3, 4, 5, 43] z (z + 0)))
 (.cond (Operand.tmp 43) .skip
 (.exit 2))) (.tidy [0, 3, 4, 5] z (z + 0)))
 (.block 3 (.reg [⟨(some 44), (Op.move (Operand.tmp 5)), none, ann0⟩,
  ⟨(some 45), (Op.binOp BinOp.sub 3 (Operand.tmp 44) (Operand.const (Value.int IntKind.i64 1)) 3), none, ann0⟩,
  ⟨(some 5), (Op.assign (Operand.tmp 45)), none, ann0⟩] none))) (.tidy [0, 3, 4, 5] z (z + 0))
def s47_2 (z : Nat) : SC := c47_2 z
theorem e47_2 {C : Pg} {z : Nat} {st : St} {ks : List Fr} {K : Ex → St → Prop} : wpk C (s47_2 z) st ks K ↔ wpk C (c47_2 z) st ks K := Iff.rfl
def c47_1 (z : Nat) : SC := .post (.seq (.post (.seq (.reg [⟨(some 9), (Op.move (Operand.tmp 4)), none, ann0⟩,
  ⟨(some 10), (Op.move (Operand.tmp 0)), none, ann0⟩,
  ⟨(some 11), (Op.call { callee := (Callee.builtin Builtin.len), args := #[(Operand.tmp 10)], argTypes := #[23] }), none, ann0⟩,
  ⟨(some 12), (Op.binOp BinOp.lss 3 (Operand.tmp 9) (Operand.tmp 11) 3), none, ann0⟩] none)
 (.cond (Operand.tmp 12) .skip
 (.exit 0))) (.tidy [0, 3, 4] z (z + 0)))
 (.seq (.post (.block 1 (.seq (.post (.seq (.post (.reg [⟨(some 15), (Op.move (Operand.tmp 0)), none, ann0⟩,
  ⟨(some 16), (Op.move (Operand.tmp 4)), none, ann0⟩,
  ⟨(some 17), (Op.indexAddr 23 (Operand.tmp 15) (Operand.tmp 16)), none, ann0⟩,
  ⟨(some 18), (Op.fieldAddr 33 (Operand.tmp 17) 0), none, ann0⟩,
  ⟨(some 19), (Op.load 3 (Operand.tmp 18)), none, ann0⟩,
  ⟨(some 20), (Op.move (Operand.tmp 0)), none, ann0⟩,
  ⟨(some 21), (Op.move (Operand.tmp 4)), none, ann0⟩,
  ⟨(some 22), (Op.indexAddr 23 (Operand.tmp 20) (Operand.tmp 21)), none, ann0⟩,
  ⟨(some 23), (Op.fieldAddr 33 (Operand.tmp 22) 1), none, ann0⟩,
  ⟨(some 24), (Op.load 3 (Operand.tmp 23)), none, ann0⟩,
  ⟨(some 25), (Op.binOp BinOp.geq 3 (Operand.tmp 19) (Operand.tmp 24) 3), none, ann0⟩] (some [0, 0, 3, 7, 15, 0, 0, 96, 224, 480, 1023])) (.tidy [0, 3, 4, 25] z (z + 0)))
 (.cond (Operand.tmp 25) (.exit 1)
 .skip)) (.tidy [0, 3, 4] z (z + 0)))
 (.seq (.reg [⟨(some 26), (Op.move (Operand.tmp 3)), none, ann0⟩,
  ⟨(some 27), (Op.call { callee := (Callee.builtin Builtin.len), args := #[(Operand.tmp 26)], argTypes := #[23] }), none, ann0⟩,
  ⟨(some 5), (Op.assign (Operand.tmp 27)), none, ann0⟩] none)
 (.seq (.post (.block 2 (.pre (.tidy [0, 3, 4, 5] z (z + 0)) (.loop (s47_2 z)))) (.tidy [0, 3, 4, 5] z (z + 0)))
 (.post (.reg [⟨(some 46), (Op.buildSlice 23 0 #[]), none, ⟨1, false, false⟩⟩,
  ⟨(some 47), (Op.move (Operand.tmp 3)), none, ann0⟩,
  ⟨(some 48), (Op.move (Operand.tmp 5)), none, ann0⟩,
  ⟨(some 49), (Op.slice 23 (Operand.tmp 47) none (some (Operand.tmp 48)) none), none, ann0⟩,
  ⟨(some 50), (Op.call { callee := (Callee.builtin Builtin.append), args := #[(Operand.tmp 46), (Operand.tmp 49)], argTypes := #[23, 23] }), none, ann0⟩,
  ⟨(some 51), (Op.move (Operand.tmp 0)), none, ann0⟩,
  ⟨(some 52), (Op.move (Operand.tmp 4)), none, ann0⟩,
  ⟨(some 53), (Op.indexAddr 23 (Operand.tmp 51) (Operand.tmp 52)), none, ann0⟩,
  ⟨(some 54), (Op.load 33 (Operand.tmp 53)), none, ann0⟩,
  ⟨(some 55), (Op.buildSlice 23 1 #[(0, (Operand.tmp 54))]), none, ⟨1, true, false⟩⟩,
  ⟨(some 56), (Op.call { callee := (Callee.builtin Builtin.append), args := #[(Operand.tmp 50), (Operand.tmp 55)], argTypes := #[23, 23] }), none, ann0⟩,
  ⟨(some 57), (Op.move (Operand.tmp 3)), none, ann0⟩,
  ⟨(some 58), (Op.move (Operand.tmp 5)), none, ann0⟩,
  ⟨(some 59), (Op.slice 23 (Operand.tmp 57) (some (Operand.tmp 58)) none none), none, ann0⟩,
  ⟨(some 60), (Op.call { callee := (Callee.builtin Builtin.append), args := #[(Operand.tmp 56), (Operand.tmp 59)], argTypes := #[23, 23] }), none, ann0⟩,
  ⟨(some 3), (Op.assign (Operand.tmp 60)), none, ann0⟩] (some [0, 0, 0, 6, 15, 0, 0, 96, 224, 480, 1023, 0, 0, 6144, 16383, 32767])) (.frz 3)))))) (.tidy [0, 3, 4] z (z + 2)))
 (.reg [⟨(some 13), (Op.move (Operand.tmp 4)), none, ann0⟩,
  ⟨(some 14), (Op.binOp BinOp.add 3 (Operand.tmp 13) (Operand.const (Value.int IntKind.i64 1)) 3), none, ann0⟩,
  ⟨(some 4), (Op.assign (Operand.tmp 14)), none, ann0⟩] none))) (.tidy [0, 3, 4] z (z + 0))
def s47_1 (z : Nat) : SC := c47_1 z
theorem e47_1 {C : Pg} {z : Nat} {st : St} {ks : List Fr} {K : Ex → St → Prop} : wpk C (s47_1 z) st ks K ↔ wpk C (c47_1 z) st ks K := Iff.rfl
def c47_3 (z : Nat) : SC := .post (.seq (.post (.seq (.reg [⟨(some 61), (Op.move (Operand.tmp 7)), none, ann0⟩,
  ⟨(some 62), (Op.move (Operand.tmp 3)), none, ann0⟩,
  ⟨(some 63), (Op.call { callee := (Callee.builtin Builtin.len), args := #[(Operand.tmp 62)], argTypes := #[23] }), none, ann0⟩,
  ⟨(some 64), (Op.binOp BinOp.lss 3 (Operand.tmp 61) (Operand.tmp 63) 3), none, ann0⟩] none)
 (.cond (Operand.tmp 64) .skip
 (.exit 4))) (.tidy [3, 6, 7] z (z + 1)))
 (.seq (.post (.block 5 (.seq (.reg [⟨(some 67), (Op.move (Operand.tmp 6)), none, ann0⟩,
  ⟨(some 68), (Op.call { callee := (Callee.builtin Builtin.len), args := #[(Operand.tmp 67)], argTypes := #[23] }), none, ann0⟩,
  ⟨(some 69), (Op.binOp BinOp.sub 3 (Operand.tmp 68) (Operand.const (Value.int IntKind.i64 1)) 3), none, ann0⟩,
  ⟨(some 8), (Op.assign (Operand.tmp 69)), none, ann0⟩] none)
 (.seq (.post (.reg [⟨(some 70), (Op.move (Operand.tmp 8)), none, ann0⟩,
  ⟨(some 71), (Op.binOp BinOp.geq 3 (Operand.tmp 70) (Operand.const (Value.int IntKind.i64 0)) 3), none, ann0⟩,
  ⟨(some 72), (Op.move (Operand.tmp 71)), none, ann0⟩,
  ⟨(some 73), (Op.move (Operand.tmp 3)), (some (72, true)), ann0⟩,
  ⟨(some 74), (Op.move (Operand.tmp 7)), (some (72, true)), ann0⟩,
  ⟨(some 75), (Op.indexAddr 23 (Operand.tmp 73) (Operand.tmp 74)), (some (72, true)), ann0⟩,
  ⟨(some 76), (Op.fieldAddr 33 (Operand.tmp 75) 0), (some (72, true)), ann0⟩,
  ⟨(some 77), (Op.load 3 (Operand.tmp 76)), (some (72, true)), ann0⟩,
  ⟨(some 78), (Op.move (Operand.tmp 6)), (some (72, true)), ann0⟩,
  ⟨(some 79), (Op.move (Operand.tmp 8)), (some (72, true)), ann0⟩,
  ⟨(some 80), (Op.indexAddr 23 (Operand.tmp 78) (Operand.tmp 79)), (some (72, true)), ann0⟩,
  ⟨(some 81), (Op.fieldAddr 33 (Operand.tmp 80) 1), (some (72, true)), ann0⟩,
  ⟨(some 82), (Op.load 3 (Operand.tmp 81)), (some (72, true)), ann0⟩,
  ⟨(some 83), (Op.binOp BinOp.leq 3 (Operand.tmp 77) (Operand.tmp 82) 3), (some (72, true)), ann0⟩,
  ⟨(some 84), (Op.pick (Operand.tmp 72) (Operand.tmp 83) (Operand.const (Value.bool false))), none, ann0⟩] (some [0, 1, 3, 7, 7, 31, 63, 127, 7, 7, 775, 1799, 3847, 8191, 16383])) (.tidy [3, 6, 7, 8, 84] z (z + 1)))
 (.cond (Operand.tmp 84) (.reg [⟨(some 85), (Op.move (Operand.tmp 6)), none, ann0⟩,
  ⟨(some 86), (Op.move (Operand.tmp 8)), none, ann0⟩,
  ⟨(some 87), (Op.move (Operand.tmp 6)), none, ann0⟩,
  ⟨(some 88), (Op.move (Operand.tmp 8)), none, ann0⟩,
  ⟨(some 89), (Op.indexAddr 23 (Operand.tmp 87) (Operand.tmp 88)), none, ann0⟩,
  ⟨(some 90), (Op.fieldAddr 33 (Operand.tmp 89) 1), none, ann0⟩,
  ⟨(some 91), (Op.load 3 (Operand.tmp 90)), none, ann0⟩,
  ⟨(some 92), (Op.move (Operand.tmp 3)), none, ann0⟩,
  ⟨(some 93), (Op.move (Operand.tmp 7)), none, ann0⟩,
  ⟨(some 94), (Op.indexAddr 23 (Operand.tmp 92) (Operand.tmp 93)), none, ann0⟩,
  ⟨(some 95), (Op.fieldAddr 33 (Operand.tmp 94) 1), none, ann0⟩,
  ⟨(some 96), (Op.load 3 (Operand.tmp 95)), none, ann0⟩,
  ⟨(some 97), (Op.call { callee := (Callee.builtin Builtin.max), args := #[(Operand.tmp 91), (Operand.tmp 96)], argTypes := #[3, 3] }), none, ann0⟩,
  ⟨(some 98), (Op.indexAddr 23 (Operand.tmp 85) (Operand.tmp 86)), none, ann0⟩,
  ⟨(some 99), (Op.fieldAddr 33 (Operand.tmp 98) 1), none, ann0⟩,
  ⟨none, (Op.store 3 (Operand.tmp 99) (Operand.tmp 97)), none, ann0⟩] (some [0, 0, 0, 0, 12, 28, 60, 0, 0, 384, 896, 1920, 4092, 8191, 16383, 32767]))
 (.reg [⟨(some 100), (Op.move (Operand.tmp 6)), none, ann0⟩,
  ⟨(some 101), (Op.move (Operand.tmp 3)), none, ann0⟩,
  ⟨(some 102), (Op.move (Operand.tmp 7)), none, ann0⟩,
  ⟨(some 103), (Op.indexAddr 23 (Operand.tmp 101) (Operand.tmp 102)), none, ann0⟩,
  ⟨(some 104), (Op.load 33 (Operand.tmp 103)), none, ann0⟩,
  ⟨(some 105), (Op.buildSlice 23 1 #[(0, (Operand.tmp 104))]), none, ⟨1, true, false⟩⟩,
  ⟨(some 106), (Op.call { callee := (Callee.builtin Builtin.append), args := #[(Operand.tmp 100), (Operand.tmp 105)], argTypes := #[23, 23] }), none, ann0⟩,
  ⟨(some 6), (Op.assign (Operand.tmp 106)), none, ann0⟩] none))))) (.tidy [3, 6, 7] z (z + 2)))
 (.reg [⟨(some 65), (Op.move (Operand.tmp 7)), none, ann0⟩,
  ⟨(some 66), (Op.binOp BinOp.add 3 (Operand.tmp 65) (Operand.const (Value.int IntKind.i64 1)) 3), none, ann0⟩,
  ⟨(some 7), (Op.assign (Operand.tmp 66)), none, ann0⟩] none))) (.tidy [3, 6, 7] z (z + 1))
def s47_3 (z : Nat) : SC := c47_3 z
theorem e47_3 {C : Pg} {z : Nat} {st : St} {ks : List Fr} {K : Ex → St → Prop} : wpk C (s47_3 z) st ks K ↔ wpk C (c47_3 z) st ks K := Iff.rfl
def s47 (z : Nat) : SFn := ⟨1, 108, [(ResultVar.tmp 2)],
 (.post (.seq (.reg [⟨(some 2), (Op.assign (Operand.const (Value.slice none 0 0))), none, ann0⟩] none)
 (.seq (.reg [⟨(some 3), (Op.assign (Operand.const (Value.slice none 0 0))), none, ann0⟩] none)
 (.seq (.post (.seq (.reg [⟨(some 4), (Op.assign (Operand.const (Value.int IntKind.i64 0))), none, ann0⟩] none)
 (.post (.block 0 (.pre (.tidy [0, 3, 4] z (z + 0)) (.loop (s47_1 z)))) (.tidy [3] z (z + 0)))) (.tidy [3] z (z + 0)))
 (.seq (.post (.reg [⟨(some 6), (Op.assign (Operand.const (Value.slice none 0 0))), none, ann0⟩] none) (.mkv 6 33 2))
 (.seq (.post (.seq (.reg [⟨(some 7), (Op.assign (Operand.const (Value.int IntKind.i64 0))), none, ann0⟩] none)
 (.post (.block 4 (.pre (.tidy [3, 6, 7] z (z + 1)) (.loop (s47_3 z)))) (.tidy [6] z (z + 1)))) (.tidy [6] z (z + 1)))
 (.seq (.reg [⟨(some 107), (Op.move (Operand.tmp 6)), none, ann0⟩,
  ⟨(some 2), (Op.assign (Operand.tmp 107)), none, ann0⟩] none)
 .ret)))))) (.frz 2))⟩
theorem F47 (z : Nat) : FOk Try.prog 47 (s47 z) := by unfold FOk; kernel_rfl
def l48_0 : SLoop := ⟨45, [16, 17],
 (.seq (.reg [⟨(some 10), (Op.assign (Operand.tmp 16)), none, ann0⟩] none)
 (.reg [⟨(some 11), (Op.alloc 76), none, ⟨1, false, false⟩⟩,
  ⟨none, (Op.store 76 (Operand.tmp 11) (Operand.tmp 17)), none, ann0⟩] none)),
 (.block 1 (.seq (.reg [⟨(some 18), (Op.load 62 (Operand.tmp 5)), none, ann0⟩,
  ⟨(some 19), (Op.indexAddr 76 (Operand.tmp 11) (Operand.const (Value.int IntKind.i64 0))), none, ann0⟩,
  ⟨(some 20), (Op.load 4 (Operand.tmp 19)), none, ann0⟩,
  ⟨(some 21), (Op.indexAddr 76 (Operand.tmp 11) (Operand.const (Value.int IntKind.i64 1))), none, ann0⟩,
  ⟨(some 22), (Op.load 4 (Operand.tmp 21)), none, ann0⟩,
  ⟨(some 23), (Op.call { callee := (Callee.value (Operand.tmp 18)), args := #[(Operand.tmp 20), (Operand.tmp 22)], argTypes := #[4, 4] }), none, ann0⟩,
  ⟨(some 12), (Op.assign (Operand.tmp 23)), none, ann0⟩] none)
 (.seq (.block 2 (.seq (.reg [⟨(some 25), (Op.move (Operand.tmp 12)), none, ann0⟩,
  ⟨(some 26), (Op.move (Operand.tmp 25)), none, ann0⟩,
  ⟨(some 27), (Op.load 4 (Operand.tmp 9)), (some (26, true)), ann0⟩,
  ⟨(some 28), (Op.unOp UnOp.not 4 (Operand.tmp 27)), (some (26, true)), ann0⟩,
  ⟨(some 29), (Op.pick (Operand.tmp 26) (Operand.tmp 28) (Operand.const (Value.bool false))), none, ann0⟩,
  ⟨(some 24), (Op.assign (Operand.tmp 29)), none, ann0⟩] none)
 (.cond (Operand.tmp 24) (.reg [⟨(some 30), (Op.move (Operand.tmp 10)), none, ann0⟩,
  ⟨none, (Op.store 3 (Operand.tmp 8) (Operand.tmp 30)), none, ann0⟩] none)
 (.seq (.reg [⟨(some 32), (Op.move (Operand.tmp 12)), none, ann0⟩,
  ⟨(some 33), (Op.unOp UnOp.not 4 (Operand.tmp 32)), none, ann0⟩,
  ⟨(some 34), (Op.move (Operand.tmp 33)), none, ann0⟩,
  ⟨(some 35), (Op.load 4 (Operand.tmp 9)), (some (34, true)), ann0⟩,
  ⟨(some 36), (Op.pick (Operand.tmp 34) (Operand.tmp 35) (Operand.const (Value.bool false))), none, ann0⟩,
  ⟨(some 31), (Op.assign (Operand.tmp 36)), none, ann0⟩] none)
 (.cond (Operand.tmp 31) (.reg [⟨(some 37), (Op.load 23 (Operand.tmp 7)), none, ann0⟩,
  ⟨(some 38), (Op.load 3 (Operand.tmp 8)), none, ann0⟩,
  ⟨(some 39), (Op.move (Operand.tmp 10)), none, ann0⟩,
  ⟨(some 40), (Op.build 33 #[(0, (Operand.tmp 38)), (1, (Operand.tmp 39))]), none, ann0⟩,
  ⟨(some 41), (Op.buildSlice 23 1 #[(0, (Operand.tmp 40))]), none, ⟨1, true, false⟩⟩,
  ⟨(some 42), (Op.call { callee := (Callee.builtin Builtin.append), args := #[(Operand.tmp 37), (Operand.tmp 41)], argTypes := #[23, 23] }), none, ann0⟩,
  ⟨none, (Op.store 23 (Operand.tmp 7) (Operand.tmp 42)), none, ann0⟩] none)
 .skip)))))
 (.reg [⟨(some 43), (Op.move (Operand.tmp 12)), none, ann0⟩,
  ⟨none, (Op.store 4 (Operand.tmp 9) (Operand.tmp 43)), none, ann0⟩] none))))⟩
theorem N48_0 : LOk Try.prog 3072 l48_0 := by unfold LOk; kernel_rfl
def s48 (z : Nat) : SFn := ⟨3, 45, [(ResultVar.tmp 6)],
 (.post (.seq (.reg [⟨(some 5), (Op.box 62 (Operand.tmp 2)), none, ⟨1, false, false⟩⟩,
  ⟨(some 6), (Op.assign (Operand.const (Value.slice none 0 0))), none, ann0⟩] none)
 (.seq (.reg [⟨(some 7), (Op.alloc 23), none, ⟨1, false, false⟩⟩] none)
 (.seq (.reg [⟨(some 8), (Op.alloc 3), none, ⟨1, false, false⟩⟩,
  ⟨(some 9), (Op.alloc 4), none, ⟨1, false, false⟩⟩,
  ⟨none, (Op.store 3 (Operand.tmp 8) (Operand.const (Value.int IntKind.i64 0))), none, ann0⟩,
  ⟨none, (Op.store 4 (Operand.tmp 9) (Operand.const (Value.bool false))), none, ann0⟩] none)
 (.seq (.post (.seq (.reg [⟨(some 13), (Op.move (Operand.tmp 0)), none, ann0⟩,
  ⟨(some 14), (Op.move (Operand.tmp 1)), none, ann0⟩,
  ⟨(some 15), (Op.call { callee := (Callee.value (Operand.func 69)), args := #[(Operand.tmp 13), (Operand.tmp 14)], argTypes := #[23, 23] }), none, ⟨2, false, false⟩⟩] none)
 (.post (.pre (.mkb 7 0 33 2) (.block 0 (.rng (Operand.tmp 15) 3072 [5, 7, 8, 9] ⟨0, false, false⟩))) (.tidy [7] z (z + 8)))) (.tidy [7] z (z + 8)))
 (.seq (.reg [⟨(some 44), (Op.load 23 (Operand.tmp 7)), none, ann0⟩,
  ⟨(some 6), (Op.assign (Operand.tmp 44)), none, ann0⟩] none)
 .ret))))) (.frz 6))⟩
theorem F48 (z : Nat) : FOk Try.prog 48 (s48 z) := by unfold FOk; kernel_rfl
def s52 (z : Nat) : SFn := ⟨2, 10, [(ResultVar.tmp 4)],
 (.seq (.reg [⟨(some 4), (Op.assign (Operand.const (Value.bool false))), none, ann0⟩] none)
 (.seq (.reg [⟨(some 5), (Op.move (Operand.tmp 0)), none, ann0⟩,
  ⟨(some 6), (Op.move (Operand.tmp 5)), none, ann0⟩,
  ⟨(some 7), (Op.move (Operand.tmp 1)), (some (6, true)), ann0⟩,
  ⟨(some 8), (Op.unOp UnOp.not 4 (Operand.tmp 7)), (some (6, true)), ann0⟩,
  ⟨(some 9), (Op.pick (Operand.tmp 6) (Operand.tmp 8) (Operand.const (Value.bool false))), none, ann0⟩,
  ⟨(some 4), (Op.assign (Operand.tmp 9)), none, ann0⟩] none)
 .ret))⟩
theorem F52 (z : Nat) : FOk Try.prog 52 (s52 z) := by unfold FOk; kernel_rfl
def c53_1 (z : Nat) : SC := .post (.seq (.reg [⟨(some 10), (Op.binOp BinOp.lss 3 (Operand.tmp 9) (Operand.tmp 8) 3), none, ann0⟩] none)
 (.seq (.cond (Operand.tmp 10) .skip
 (.exit 0))
 (.seq (.post (.block 1 (.seq (.reg [⟨(some 11), (Op.indexAddr 23 (Operand.tmp 7) (Operand.tmp 9)), none, ann0⟩,
  ⟨(some 12), (Op.load 33 (Operand.tmp 11)), none, ann0⟩,
  ⟨(some 5), (Op.alloc 33), none, ⟨1, false, false⟩⟩,
  ⟨none, (Op.store 33 (Operand.tmp 5) (Operand.tmp 12)), none, ann0⟩] none)
 (.seq (.reg [⟨(some 13), (Op.move (Operand.tmp 3)), none, ann0⟩,
  ⟨(some 14), (Op.call { callee := (Callee.builtin Builtin.len), args := #[(Operand.tmp 13)], argTypes := #[23] }), none, ann0⟩,
  ⟨(some 6), (Op.assign (Operand.tmp 14)), none, ann0⟩] none)
 (.block 2 (.seq (.post (.reg [⟨(some 20), (Op.fieldAddr 33 (Operand.tmp 5) 0), none, ann0⟩,
  ⟨(some 21), (Op.load 3 (Operand.tmp 20)), none, ann0⟩,
  ⟨(some 22), (Op.fieldAddr 33 (Operand.tmp 5) 1), none, ann0⟩,
  ⟨(some 23), (Op.load 3 (Operand.tmp 22)), none, ann0⟩,
  ⟨(some 24), (Op.binOp BinOp.geq 3 (Operand.tmp 21) (Operand.tmp 23) 3), none, ann0⟩,
  ⟨(some 19), (Op.assign (Operand.tmp 24)), none, ann0⟩] none) (.tidy [3, 5, 6, 7, 8, 9, 19] z (z + 2)))
 (.cond (Operand.tmp 19) .skip
 (.seq (.post (.reg [⟨(some 26), (Op.move (Operand.tmp 6)), none, ann0⟩,
  ⟨(some 27), (Op.binOp BinOp.gtr 3 (Operand.tmp 26) (Operand.const (Value.int IntKind.i64 0)) 3), none, ann0⟩,
  ⟨(some 28), (Op.move (Operand.tmp 27)), none, ann0⟩,
  ⟨(some 29), (Op.fieldAddr 33 (Operand.tmp 5) 0), (some (28, true)), ann0⟩,
  ⟨(some 30), (Op.load 3 (Operand.tmp 29)), (some (28, true)), ann0⟩,
  ⟨(some 31), (Op.move (Operand.tmp 3)), (some (28, true)), ann0⟩,
  ⟨(some 32), (Op.move (Operand.tmp 6)), (some (28, true)), ann0⟩,
  ⟨(some 33), (Op.binOp BinOp.sub 3 (Operand.tmp 32) (Operand.const (Value.int IntKind.i64 1)) 3), (some (28, true)), ann0⟩,
  ⟨(some 34), (Op.indexAddr 23 (Operand.tmp 31) (Operand.tmp 33)), (some (28, true)), ann0⟩,
  ⟨(some 35), (Op.fieldAddr 33 (Operand.tmp 34) 1), (some (28, true)), ann0⟩,
  ⟨(some 36), (Op.load 3 (Operand.tmp 35)), (some (28, true)), ann0⟩,
  ⟨(some 37), (Op.binOp BinOp.leq 3 (Operand.tmp 30) (Operand.tmp 36) 3), (some (28, true)), ann0⟩,
  ⟨(some 38), (Op.pick (Operand.tmp 28) (Operand.tmp 37) (Operand.const (Value.bool false))), none, ann0⟩,
  ⟨(some 25), (Op.assign (Operand.tmp 38)), none, ann0⟩] (some [0, 1, 3, 7, 15, 7, 7, 71, 231, 487, 999, 2047, 4095, 8191])) (.tidy [3, 5, 6, 7, 8, 9, 25] z (z + 2)))
 (.cond (Operand.tmp 25) (.reg [⟨(some 39), (Op.move (Operand.tmp 3)), none, ann0⟩,
  ⟨(some 40), (Op.move (Operand.tmp 6)), none, ann0⟩,
  ⟨(some 41), (Op.binOp BinOp.sub 3 (Operand.tmp 40) (Operand.const (Value.int IntKind.i64 1)) 3), none, ann0⟩,
  ⟨(some 42), (Op.move (Operand.tmp 3)), none, ann0⟩,
  ⟨(some 43), (Op.move (Operand.tmp 6)), none, ann0⟩,
  ⟨(some 44), (Op.binOp BinOp.sub 3 (Operand.tmp 43) (Operand.const (Value.int IntKind.i64 1)) 3), none, ann0⟩,
  ⟨(some 45), (Op.indexAddr 23 (Operand.tmp 42) (Operand.tmp 44)), none, ann0⟩,
  ⟨(some 46), (Op.fieldAddr 33 (Operand.tmp 45) 1), none, ann0⟩,
  ⟨(some 47), (Op.load 3 (Operand.tmp 46)), none, ann0⟩,
  ⟨(some 48), (Op.fieldAddr 33 (Operand.tmp 5) 1), none, ann0⟩,
  ⟨(some 49), (Op.load 3 (Operand.tmp 48)), none, ann0⟩,
  ⟨(some 50), (Op.call { callee := (Callee.builtin Builtin.max), args := #[(Operand.tmp 47), (Operand.tmp 49)], argTypes := #[3, 3] }), none, ann0⟩,
  ⟨(some 51), (Op.indexAddr 23 (Operand.tmp 39) (Operand.tmp 41)), none, ann0⟩,
  ⟨(some 52), (Op.fieldAddr 33 (Operand.tmp 51) 1), none, ann0⟩,
  ⟨none, (Op.store 3 (Operand.tmp 52) (Operand.tmp 50)), none, ann0⟩] (some [0, 0, 2, 0, 0, 16, 56, 120, 248, 0, 512, 2040, 4095, 8191, 16383]))
 (.reg [⟨(some 15), (Op.move (Operand.tmp 3)), none, ann0⟩,
  ⟨(some 16), (Op.load 33 (Operand.tmp 5)), none, ann0⟩,
  ⟨(some 17), (Op.buildSlice 23 1 #[(0, (Operand.tmp 16))]), none, ⟨1, true, false⟩⟩,
  ⟨(some 18), (Op.call { callee := (Callee.builtin Builtin.append), args := #[(Operand.tmp 15), (Operand.tmp 17)], argTypes := #[23, 23] }), none, ann0⟩,
  ⟨(some 3), (Op.assign (Operand.tmp 18)), none, ann0⟩] none))))))))) (.tidy [3, 7, 8, 9] z (z + 3)))
 (.reg [⟨(some 53), (Op.binOp BinOp.add 3 (Operand.tmp 9) (Operand.const (Value.int IntKind.i64 1)) 3), none, ann0⟩,
  ⟨(some 9), (Op.move (Operand.tmp 53)), none, ann0⟩] none)))) (.tidy [3, 7, 8, 9] z (z + 1))
def s53_1 (z : Nat) : SC := c53_1 z
theorem e53_1 {C : Pg} {z : Nat} {st : St} {ks : List Fr} {K : Ex → St → Prop} : wpk C (s53_1 z) st ks K ↔ wpk C (c53_1 z) st ks K := Iff.rfl
def s53 (z : Nat) : SFn := ⟨1, 55, [(ResultVar.tmp 2)],
 (.post (.seq (.reg [⟨(some 2), (Op.assign (Operand.const (Value.slice none 0 0))), none, ann0⟩] none)
 (.seq (.post (.reg [⟨(some 3), (Op.assign (Operand.const (Value.slice none 0 0))), none, ann0⟩] none) (.mkv 3 33 2))
 (.seq (.post (.seq (.reg [⟨(some 7), (Op.move (Operand.tmp 0)), none, ann0⟩,
  ⟨(some 8), (Op.call { callee := (Callee.builtin Builtin.len), args := #[(Operand.tmp 7)], argTypes := #[23] }), none, ann0⟩,
  ⟨(some 9), (Op.move (Operand.const (Value.int IntKind.i64 0))), none, ann0⟩] none)
 (.post (.block 0 (.pre (.tidy [3, 7, 8, 9] z (z + 1)) (.loop (s53_1 z)))) (.tidy [3] z (z + 1)))) (.tidy [3] z (z + 1)))
 (.seq (.reg [⟨(some 54), (Op.move (Operand.tmp 3)), none, ann0⟩,
  ⟨(some 2), (Op.assign (Operand.tmp 54)), none, ann0⟩] none)
 .ret)))) (.frz 2))⟩
theorem F53 (z : Nat) : FOk Try.prog 53 (s53 z) := by unfold FOk; kernel_rfl
def s54 (z : Nat) : SFn := ⟨1, 17, [(ResultVar.tmp 2)],
 (.seq (.reg [⟨(some 1), (Op.box 33 (Operand.tmp 0)), none, ⟨1, false, false⟩⟩,
  ⟨(some 2), (Op.assign (Operand.const (Value.bool false))), none, ann0⟩] none)
 (.seq (.reg [⟨(some 3), (Op.fieldAddr 33 (Operand.tmp 1) 0), none, ann0⟩,
  ⟨(some 4), (Op.load 3 (Operand.tmp 3)), none, ann0⟩,
  ⟨(some 5), (Op.fieldAddr 33 (Operand.tmp 1) 1), none, ann0⟩,
  ⟨(some 6), (Op.load 3 (Operand.tmp 5)), none, ann0⟩,
  ⟨(some 7), (Op.call { callee := (Callee.builtin Builtin.min), args := #[(Operand.tmp 4), (Operand.tmp 6)], argTypes := #[3, 3] }), none, ann0⟩,
  ⟨(some 8), (Op.binOp BinOp.geq 3 (Operand.tmp 7) (Operand.const (Value.int IntKind.i64 (-1125899906842624))) 3), none, ann0⟩,
  ⟨(some 9), (Op.move (Operand.tmp 8)), none, ann0⟩,
  ⟨(some 10), (Op.fieldAddr 33 (Operand.tmp 1) 0), (some (9, true)), ann0⟩,
  ⟨(some 11), (Op.load 3 (Operand.tmp 10)), (some (9, true)), ann0⟩,
  ⟨(some 12), (Op.fieldAddr 33 (Operand.tmp 1) 1), (some (9, true)), ann0⟩,
  ⟨(some 13), (Op.load 3 (Operand.tmp 12)), (some (9, true)), ann0⟩,
  ⟨(some 14), (Op.call { callee := (Callee.builtin Builtin.max), args := #[(Operand.tmp 11), (Operand.tmp 13)], argTypes := #[3, 3] }), (some (9, true)), ann0⟩,
  ⟨(some 15), (Op.binOp BinOp.leq 3 (Operand.tmp 14) (Operand.const (Value.int IntKind.i64 1125899906842624)) 3), (some (9, true)), ann0⟩,
  ⟨(some 16), (Op.pick (Operand.tmp 9) (Operand.tmp 15) (Operand.const (Value.bool false))), none, ann0⟩,
  ⟨(some 2), (Op.assign (Operand.tmp 16)), none, ann0⟩] none)
 .ret))⟩
theorem F54 (z : Nat) : FOk Try.prog 54 (s54 z) := by unfold FOk; kernel_rfl
def s55 (z : Nat) : SFn := ⟨1, 9, [(ResultVar.tmp 2)],
 (.seq (.reg [⟨(some 2), (Op.assign (Operand.const (Value.bool false))), none, ann0⟩] none)
 (.seq (.reg [⟨(some 3), (Op.move (Operand.tmp 0)), none, ann0⟩,
  ⟨(some 4), (Op.binOp BinOp.geq 3 (Operand.tmp 3) (Operand.const (Value.int IntKind.i64 (-1125899906842624))) 3), none, ann0⟩,
  ⟨(some 5), (Op.move (Operand.tmp 4)), none, ann0⟩,
  ⟨(some 6), (Op.move (Operand.tmp 0)), (some (5, true)), ann0⟩,
  ⟨(some 7), (Op.binOp BinOp.leq 3 (Operand.tmp 6) (Operand.const (Value.int IntKind.i64 1125899906842624)) 3), (some (5, true)), ann0⟩,
  ⟨(some 8), (Op.pick (Operand.tmp 5) (Operand.tmp 7) (Operand.const (Value.bool false))), none, ann0⟩,
  ⟨(some 2), (Op.assign (Operand.tmp 8)), none, ann0⟩] none)
 .ret))⟩
theorem F55 (z : Nat) : FOk Try.prog 55 (s55 z) := by unfold FOk; kernel_rfl
def s56 (z : Nat) : SFn := ⟨2, 9, [(ResultVar.tmp 4)],
 (.seq (.reg [⟨(some 4), (Op.assign (Operand.const (Value.bool false))), none, ann0⟩] none)
 (.seq (.reg [⟨(some 5), (Op.move (Operand.tmp 0)), none, ann0⟩,
  ⟨(some 6), (Op.move (Operand.tmp 1)), none, ann0⟩,
  ⟨(some 7), (Op.call { callee := (Callee.value (Operand.func 70)), args := #[(Operand.tmp 5), (Operand.tmp 6)], argTypes := #[23, 65] }), none, ann0⟩,
  ⟨(some 8), (Op.binOp BinOp.geq 3 (Operand.tmp 7) (Operand.const (Value.int IntKind.i64 0)) 3), none, ann0⟩,
  ⟨(some 4), (Op.assign (Operand.tmp 8)), none, ann0⟩] none)
 .ret))⟩
theorem F56 (z : Nat) : FOk Try.prog 56 (s56 z) := by unfold FOk; kernel_rfl
def s57 (z : Nat) : SFn := ⟨1, 6, [(ResultVar.tmp 2)],
 (.seq (.reg [⟨(some 1), (Op.box 33 (Operand.tmp 0)), none, ⟨1, false, false⟩⟩,
  ⟨(some 2), (Op.assign (Operand.const (Value.bool false))), none, ann0⟩] none)
 (.seq (.reg [⟨(some 3), (Op.load 33 (Operand.tmp 1)), none, ann0⟩,
  ⟨(some 4), (Op.call { callee := (Callee.value (Operand.func 54)), args := #[(Operand.tmp 3)], argTypes := #[33] }), none, ann0⟩,
  ⟨(some 5), (Op.unOp UnOp.not 4 (Operand.tmp 4)), none, ann0⟩,
  ⟨(some 2), (Op.assign (Operand.tmp 5)), none, ann0⟩] none)
 .ret))⟩
theorem F57 (z : Nat) : FOk Try.prog 57 (s57 z) := by unfold FOk; kernel_rfl
def s58 (z : Nat) : SFn := ⟨2, 12, [(ResultVar.tmp 4)],
 (.post (.seq (.reg [⟨(some 4), (Op.assign (Operand.const (Value.slice none 0 0))), none, ann0⟩] none)
 (.seq (.reg [⟨(some 6), (Op.move (Operand.tmp 0)), none, ann0⟩,
  ⟨(some 7), (Op.call { callee := (Callee.value (Operand.func 71)), args := #[(Operand.tmp 6)], argTypes := #[69] }), none, ⟨1, false, false⟩⟩,
  ⟨(some 5), (Op.assign (Operand.tmp 7)), none, ann0⟩] none)
 (.seq (.post (.reg [⟨(some 8), (Op.move (Operand.tmp 5)), none, ann0⟩,
  ⟨(some 9), (Op.move (Operand.tmp 1)), none, ann0⟩,
  ⟨(some 10), (Op.call { callee := (Callee.value (Operand.func 72)), args := #[(Operand.tmp 8), (Operand.tmp 9)], argTypes := #[23, 72] }), none, ann0⟩] none) (.tidy [5] z (z + 1)))
 (.seq (.reg [⟨(some 11), (Op.move (Operand.tmp 5)), none, ann0⟩,
  ⟨(some 4), (Op.assign (Operand.tmp 11)), none, ann0⟩] none)
 .ret)))) (.frz 4))⟩
theorem F58 (z : Nat) : FOk Try.prog 58 (s58 z) := by unfold FOk; kernel_rfl
def s59 (z : Nat) : SFn := ⟨1, 4, [(ResultVar.tmp 2)],
 (.seq (.reg [⟨(some 1), (Op.box 23 (Operand.tmp 0)), none, ⟨1, false, false⟩⟩,
  ⟨(some 2), (Op.assign (Operand.const Value.nilFunc)), none, ann0⟩] none)
 (.seq (.reg [⟨(some 3), (Op.makeFunc (Fn.func 73) #[] #[(Operand.tmp 1)]), none, ann0⟩,
  ⟨(some 2), (Op.assign (Operand.tmp 3)), none, ann0⟩] none)
 .ret))⟩
theorem F59 (z : Nat) : FOk Try.prog 59 (s59 z) := by unfold FOk; kernel_rfl
def s60 (z : Nat) : SFn := ⟨2, 10, [(ResultVar.tmp 4)],
 (.seq (.reg [⟨(some 2), (Op.box 33 (Operand.tmp 0)), none, ⟨1, false, false⟩⟩,
  ⟨(some 3), (Op.box 33 (Operand.tmp 1)), none, ⟨1, false, false⟩⟩,
  ⟨(some 4), (Op.assign (Operand.const (Value.int IntKind.i64 0))), none, ann0⟩] none)
 (.seq (.reg [⟨(some 5), (Op.fieldAddr 33 (Operand.tmp 2) 0), none, ann0⟩,
  ⟨(some 6), (Op.load 3 (Operand.tmp 5)), none, ann0⟩,
  ⟨(some 7), (Op.fieldAddr 33 (Operand.tmp 3) 0), none, ann0⟩,
  ⟨(some 8), (Op.load 3 (Operand.tmp 7)), none, ann0⟩,
  ⟨(some 9), (Op.call { callee := (Callee.value (Operand.func 61)), args := #[(Operand.tmp 6), (Operand.tmp 8)], argTypes := #[3, 3] }), none, ann0⟩,
  ⟨(some 4), (Op.assign (Operand.tmp 9)), none, ann0⟩] none)
 .ret))⟩
theorem F60 (z : Nat) : FOk Try.prog 60 (s60 z) := by unfold FOk; kernel_rfl
def s61 (z : Nat) : SFn := ⟨2, 20, [(ResultVar.tmp 4)],
 (.seq (.reg [⟨(some 4), (Op.assign (Operand.const (Value.int IntKind.i64 0))), none, ann0⟩] none)
 (.seq (.reg [⟨(some 7), (Op.move (Operand.tmp 0)), none, ann0⟩,
  ⟨(some 8), (Op.call { callee := (Callee.value (Operand.func 74)), args := #[(Operand.tmp 7)], argTypes := #[3] }), none, ann0⟩,
  ⟨(some 5), (Op.assign (Operand.tmp 8)), none, ann0⟩] none)
 (.seq (.reg [⟨(some 9), (Op.move (Operand.tmp 1)), none, ann0⟩,
  ⟨(some 10), (Op.call { callee := (Callee.value (Operand.func 74)), args := #[(Operand.tmp 9)], argTypes := #[3] }), none, ann0⟩,
  ⟨(some 6), (Op.assign (Operand.tmp 10)), none, ann0⟩] none)
 (.seq (.seq (.reg [⟨(some 11), (Op.move (Operand.tmp 5)), none, ann0⟩] none)
 (.cond (Operand.tmp 11) (.seq (.post (.seq (.reg [⟨(some 12), (Op.move (Operand.tmp 6)), none, ann0⟩] none)
 (.cond (Operand.tmp 12) (.seq (.reg [⟨(some 4), (Op.assign (Operand.const (Value.int IntKind.i64 0))), none, ann0⟩] none)
 .ret)
 .skip)) (.tidy [] z (z + 0)))
 (.seq (.reg [⟨(some 4), (Op.assign (Operand.const (Value.int IntKind.i64 (-1)))), none, ann0⟩] none)
 .ret))
 .skip))
 (.seq (.seq (.reg [⟨(some 13), (Op.move (Operand.tmp 6)), none, ann0⟩] none)
 (.cond (Operand.tmp 13) (.seq (.reg [⟨(some 4), (Op.assign (Operand.const (Value.int IntKind.i64 1))), none, ann0⟩] none)
 .ret)
 .skip))
 (.seq (.seq (.post (.reg [⟨(some 14), (Op.move (Operand.tmp 0)), none, ann0⟩,
  ⟨(some 15), (Op.move (Operand.tmp 1)), none, ann0⟩,
  ⟨(some 16), (Op.binOp BinOp.lss 3 (Operand.tmp 14) (Operand.tmp 15) 3), none, ann0⟩] none) (.tidy [0, 1, 16] z (z + 0)))
 (.cond (Operand.tmp 16) (.seq (.reg [⟨(some 4), (Op.assign (Operand.const (Value.int IntKind.i64 (-1)))), none, ann0⟩] none)
 .ret)
 .skip))
 (.seq (.seq (.post (.reg [⟨(some 17), (Op.move (Operand.tmp 0)), none, ann0⟩,
  ⟨(some 18), (Op.move (Operand.tmp 1)), none, ann0⟩,
  ⟨(some 19), (Op.binOp BinOp.gtr 3 (Operand.tmp 17) (Operand.tmp 18) 3), none, ann0⟩] none) (.tidy [19] z (z + 0)))
 (.cond (Operand.tmp 19) (.seq (.reg [⟨(some 4), (Op.assign (Operand.const (Value.int IntKind.i64 1))), none, ann0⟩] none)
 .ret)
 .skip))
 (.seq (.reg [⟨(some 4), (Op.assign (Operand.const (Value.int IntKind.i64 0))), none, ann0⟩] none)
 .ret))))))))⟩
theorem F61 (z : Nat) : FOk Try.prog 61 (s61 z) := by unfold FOk; kernel_rfl
def s69 (z : Nat) : SFn := ⟨2, 6, [(ResultVar.tmp 4)],
 (.seq (.reg [⟨(some 2), (Op.box 23 (Operand.tmp 0)), none, ⟨1, false, false⟩⟩,
  ⟨(some 3), (Op.box 23 (Operand.tmp 1)), none, ⟨1, false, false⟩⟩,
  ⟨(some 4), (Op.assign (Operand.const Value.nilFunc)), none, ann0⟩] none)
 (.seq (.reg [⟨(some 5), (Op.makeFunc (Fn.func 77) #[] #[(Operand.tmp 2), (Operand.tmp 3)]), none, ann0⟩,
  ⟨(some 4), (Op.assign (Operand.tmp 5)), none, ann0⟩] none)
 .ret))⟩
theorem F69 (z : Nat) : FOk Try.prog 69 (s69 z) := by unfold FOk; kernel_rfl
def c70_1 (z : Nat) : SC := .post (.seq (.reg [⟨(some 9), (Op.binOp BinOp.lss 3 (Operand.tmp 8) (Operand.tmp 7) 3), none, ann0⟩] none)
 (.seq (.cond (Operand.tmp 9) .skip
 (.exit 0))
 (.seq (.post (.block 1 (.seq (.reg [⟨(some 10), (Op.move (Operand.tmp 8)), none, ann0⟩,
  ⟨(some 5), (Op.assign (Operand.tmp 10)), none, ann0⟩] none)
 (.seq (.post (.reg [⟨(some 11), (Op.move (Operand.tmp 1)), none, ann0⟩,
  ⟨(some 12), (Op.move (Operand.tmp 0)), none, ann0⟩,
  ⟨(some 13), (Op.move (Operand.tmp 5)), none, ann0⟩,
  ⟨(some 14), (Op.indexAddr 23 (Operand.tmp 12) (Operand.tmp 13)), none, ann0⟩,
  ⟨(some 15), (Op.load 33 (Operand.tmp 14)), none, ann0⟩,
  ⟨(some 16), (Op.call { callee := (Callee.value (Operand.tmp 11)), args := #[(Operand.tmp 15)], argTypes := #[33] }), none, ann0⟩] none) (.tidy [0, 1, 5, 7, 8, 16] z (z + 0)))
 (.cond (Operand.tmp 16) (.seq (.reg [⟨(some 17), (Op.move (Operand.tmp 5)), none, ann0⟩,
  ⟨(some 4), (Op.assign (Operand.tmp 17)), none, ann0⟩] none)
 .ret)
 .skip)))) (.tidy [0, 1, 7, 8] z (z + 0)))
 (.reg [⟨(some 18), (Op.binOp BinOp.add 3 (Operand.tmp 8) (Operand.const (Value.int IntKind.i64 1)) 3), none, ann0⟩,
  ⟨(some 8), (Op.move (Operand.tmp 18)), none, ann0⟩] none)))) (.tidy [0, 1, 7, 8] z (z + 0))
def s70_1 (z : Nat) : SC := c70_1 z
theorem e70_1 {C : Pg} {z : Nat} {st : St} {ks : List Fr} {K : Ex → St → Prop} : wpk C (s70_1 z) st ks K ↔ wpk C (c70_1 z) st ks K := Iff.rfl
def s70 (z : Nat) : SFn := ⟨2, 19, [(ResultVar.tmp 4)],
 (.seq (.reg [⟨(some 4), (Op.assign (Operand.const (Value.int IntKind.i64 0))), none, ann0⟩] none)
 (.seq (.post (.seq (.reg [⟨(some 6), (Op.move (Operand.tmp 0)), none, ann0⟩,
  ⟨(some 7), (Op.call { callee := (Callee.builtin Builtin.len), args := #[(Operand.tmp 6)], argTypes := #[23] }), none, ann0⟩,
  ⟨(some 8), (Op.move (Operand.const (Value.int IntKind.i64 0))), none, ann0⟩] none)
 (.post (.block 0 (.pre (.tidy [0, 1, 7, 8] z (z + 0)) (.loop (s70_1 z)))) (.tidy [] z (z + 0)))) (.tidy [] z (z + 0)))
 (.seq (.reg [⟨(some 4), (Op.assign (Operand.const (Value.int IntKind.i64 (-1)))), none, ann0⟩] none)
 .ret)))⟩
theorem F70 (z : Nat) : FOk Try.prog 70 (s70 z) := by unfold FOk; kernel_rfl
def s71 (z : Nat) : SFn := ⟨1, 5, [(ResultVar.tmp 2)],
 (.seq (.reg [⟨(some 2), (Op.assign (Operand.const (Value.slice none 0 0))), none, ann0⟩] none)
 (.seq (.reg [⟨(some 3), (Op.move (Operand.tmp 0)), none, ann0⟩,
  ⟨(some 4), (Op.call { callee := (Callee.value (Operand.func 79)), args := #[(Operand.const (Value.slice none 0 0)), (Operand.tmp 3)], argTypes := #[23, 69] }), none, ⟨1, false, false⟩⟩,
  ⟨(some 2), (Op.assign (Operand.tmp 4)), none, ann0⟩] none)
 .ret))⟩
theorem F71 (z : Nat) : FOk Try.prog 71 (s71 z) := by unfold FOk; kernel_rfl
def s72 (z : Nat) : SFn := ⟨2, 14, [],
 (.seq (.reg [⟨(some 5), (Op.move (Operand.tmp 0)), none, ann0⟩,
  ⟨(some 6), (Op.call { callee := (Callee.builtin Builtin.len), args := #[(Operand.tmp 5)], argTypes := #[23] }), none, ann0⟩,
  ⟨(some 4), (Op.assign (Operand.tmp 6)), none, ann0⟩] none)
 (.reg [⟨(some 7), (Op.move (Operand.tmp 0)), none, ann0⟩,
  ⟨(some 8), (Op.move (Operand.tmp 4)), none, ann0⟩,
  ⟨(some 9), (Op.move (Operand.tmp 4)), none, ann0⟩,
  ⟨(some 10), (Op.convert 3 45 (Operand.tmp 9)), none, ann0⟩,
  ⟨(some 11), (Op.call { callee := (Callee.value (Operand.func 81)), args := #[(Operand.tmp 10)], argTypes := #[45] }), none, ann0⟩,
  ⟨(some 12), (Op.move (Operand.tmp 1)), none, ann0⟩,
  ⟨(some 13), (Op.call { callee := (Callee.value (Operand.func 80)), args := #[(Operand.tmp 7), (Operand.const (Value.int IntKind.i64 0)), (Operand.tmp 8), (Operand.tmp 11), (Operand.tmp 12)], argTypes := #[23, 3, 3, 3, 72] }), none, ann0⟩] none))⟩
theorem F72 (z : Nat) : FOk Try.prog 72 (s72 z) := by unfold FOk; kernel_rfl
def c73_1 (z : Nat) : SC := .post (.seq (.reg [⟨(some 8), (Op.binOp BinOp.lss 3 (Operand.tmp 7) (Operand.tmp 6) 3), none, ann0⟩] none)
 (.seq (.cond (Operand.tmp 8) .skip
 (.exit 0))
 (.seq (.post (.block 1 (.seq (.reg [⟨(some 9), (Op.indexAddr 23 (Operand.tmp 5) (Operand.tmp 7)), none, ann0⟩,
  ⟨(some 10), (Op.load 33 (Operand.tmp 9)), none, ann0⟩,
  ⟨(some 4), (Op.alloc 33), none, ⟨1, false, false⟩⟩,
  ⟨none, (Op.store 33 (Operand.tmp 4) (Operand.tmp 10)), none, ann0⟩] none)
 (.seq (.reg [⟨(some 11), (Op.move (Operand.tmp 0)), none, ann0⟩,
  ⟨(some 12), (Op.load 33 (Operand.tmp 4)), none, ann0⟩,
  ⟨(some 13), (Op.call { callee := (Callee.value (Operand.tmp 11)), args := #[(Operand.tmp 12)], argTypes := #[33] }), none, ann0⟩,
  ⟨(some 14), (Op.unOp UnOp.not 4 (Operand.tmp 13)), none, ann0⟩] none)
 (.cond (Operand.tmp 14) .ret
 .skip)))) (.tidy [0, 5, 6, 7] z (z + 1)))
 (.reg [⟨(some 15), (Op.binOp BinOp.add 3 (Operand.tmp 7) (Operand.const (Value.int IntKind.i64 1)) 3), none, ann0⟩,
  ⟨(some 7), (Op.move (Operand.tmp 15)), none, ann0⟩] none)))) (.tidy [0, 5, 6, 7] z (z + 0))
def s73_1 (z : Nat) : SC := c73_1 z
theorem e73_1 {C : Pg} {z : Nat} {st : St} {ks : List Fr} {K : Ex → St → Prop} : wpk C (s73_1 z) st ks K ↔ wpk C (c73_1 z) st ks K := Iff.rfl
def s73 (z : Nat) : SFn := ⟨2, 16, [],
 (.seq (.reg [⟨(some 5), (Op.load 23 (Operand.tmp 1)), none, ann0⟩,
  ⟨(some 6), (Op.call { callee := (Callee.builtin Builtin.len), args := #[(Operand.tmp 5)], argTypes := #[23] }), none, ann0⟩,
  ⟨(some 7), (Op.move (Operand.const (Value.int IntKind.i64 0))), none, ann0⟩] none)
 (.post (.block 0 (.pre (.tidy [0, 5, 6, 7] z (z + 0)) (.loop (s73_1 z)))) (.tidy [] z (z + 0))))⟩
theorem F73 (z : Nat) : FOk Try.prog 73 (s73 z) := by unfold FOk; kernel_rfl
def s74 (z : Nat) : SFn := ⟨1, 6, [(ResultVar.tmp 2)],
 (.seq (.reg [⟨(some 2), (Op.assign (Operand.const (Value.bool false))), none, ann0⟩] none)
 (.seq (.reg [⟨(some 3), (Op.move (Operand.tmp 0)), none, ann0⟩,
  ⟨(some 4), (Op.move (Operand.tmp 0)), none, ann0⟩,
  ⟨(some 5), (Op.binOp BinOp.neq 3 (Operand.tmp 3) (Operand.tmp 4) 3), none, ann0⟩,
  ⟨(some 2), (Op.assign (Operand.tmp 5)), none, ann0⟩] none)
 .ret))⟩
theorem F74 (z : Nat) : FOk Try.prog 74 (s74 z) := by unfold FOk; kernel_rfl
def t77_63 (z : Nat) : SC := (.seq (.post (.reg [⟨(some 63), (Op.move (Operand.tmp 0)), none, ann0⟩,
  ⟨(some 64), (Op.move (Operand.tmp 10)), none, ann0⟩,
  ⟨(some 65), (Op.move (Operand.tmp 4)), none, ann0⟩,
  ⟨(some 66), (Op.binOp BinOp.rem 3 (Operand.tmp 65) (Operand.const (Value.int IntKind.i64 2)) 3), none, ann0⟩,
  ⟨(some 67), (Op.binOp BinOp.eql 3 (Operand.tmp 66) (Operand.const (Value.int IntKind.i64 1)) 3), none, ann0⟩,
  ⟨(some 68), (Op.move (Operand.tmp 5)), none, ann0⟩,
  ⟨(some 69), (Op.binOp BinOp.rem 3 (Operand.tmp 68) (Operand.const (Value.int IntKind.i64 2)) 3), none, ann0⟩,
  ⟨(some 70), (Op.binOp BinOp.eql 3 (Operand.tmp 69) (Operand.const (Value.int IntKind.i64 1)) 3), none, ann0⟩,
  ⟨(some 71), (Op.build 76 #[(0, (Operand.tmp 67)), (1, (Operand.tmp 70))]), none, ann0⟩,
  ⟨(some 72), (Op.call { callee := (Callee.value (Operand.tmp 63)), args := #[(Operand.tmp 64), (Operand.tmp 71)], argTypes := #[3, 76] }), none, ann0⟩,
  ⟨(some 73), (Op.unOp UnOp.not 4 (Operand.tmp 72)), none, ann0⟩] none) (.tidy [0, 1, 2, 4, 5, 73] z (z + 0)))
 (.cond (Operand.tmp 73) .ret
 .skip))
def c77_1 (z : Nat) : SC := .post (.seq (.post (.seq (.post (.reg [⟨(some 11), (Op.move (Operand.tmp 4)), none, ann0⟩,
  ⟨(some 12), (Op.load 23 (Operand.tmp 1)), none, ann0⟩,
  ⟨(some 13), (Op.call { callee := (Callee.builtin Builtin.len), args := #[(Operand.tmp 12)], argTypes := #[23] }), none, ann0⟩,
  ⟨(some 14), (Op.binOp BinOp.mul 3 (Operand.const (Value.int IntKind.i64 2)) (Operand.tmp 13) 3), none, ann0⟩,
  ⟨(some 15), (Op.binOp BinOp.lss 3 (Operand.tmp 11) (Operand.tmp 14) 3), none, ann0⟩,
  ⟨(some 16), (Op.move (Operand.tmp 15)), none, ann0⟩,
  ⟨(some 17), (Op.move (Operand.tmp 5)), (some (16, false)), ann0⟩,
  ⟨(some 18), (Op.load 23 (Operand.tmp 2)), (some (16, false)), ann0⟩,
  ⟨(some 19), (Op.call { callee := (Callee.builtin Builtin.len), args := #[(Operand.tmp 18)], argTypes := #[23] }), (some (16, false)), ann0⟩,
  ⟨(some 20), (Op.binOp BinOp.mul 3 (Operand.const (Value.int IntKind.i64 2)) (Operand.tmp 19) 3), (some (16, false)), ann0⟩,
  ⟨(some 21), (Op.binOp BinOp.lss 3 (Operand.tmp 17) (Operand.tmp 20) 3), (some (16, false)), ann0⟩,
  ⟨(some 22), (Op.pick (Operand.tmp 16) (Operand.const (Value.bool true)) (Operand.tmp 21)), none, ann0⟩] none) (.tidy [0, 1, 2, 4, 5, 22] z (z + 0)))
 (.cond (Operand.tmp 22) .skip
 (.exit 0))) (.tidy [0, 1, 2, 4, 5] z (z + 0)))
 (.block 1 (.seq (.post (.reg [⟨(some 24), (Op.load 23 (Operand.tmp 1)), none, ann0⟩,
  ⟨(some 25), (Op.move (Operand.tmp 4)), none, ann0⟩,
  ⟨(some 26), (Op.call { callee := (Callee.value (Operand.func 78)), args := #[(Operand.tmp 24), (Operand.tmp 25)], argTypes := #[23, 3] }), none, ann0⟩,
  ⟨(some 23), (Op.move (Operand.tmp 26)), none, ann0⟩,
  ⟨(some 27), (Op.extract (Operand.tmp 23) 0), none, ann0⟩,
  ⟨(some 28), (Op.extract (Operand.tmp 23) 1), none, ann0⟩,
  ⟨(some 6), (Op.assign (Operand.tmp 27)), none, ann0⟩,
  ⟨(some 7), (Op.assign (Operand.tmp 28)), none, ann0⟩] none) (.tidy [0, 1, 2, 4, 5, 6, 7] z (z + 0)))
 (.seq (.post (.reg [⟨(some 30), (Op.load 23 (Operand.tmp 2)), none, ann0⟩,
  ⟨(some 31), (Op.move (Operand.tmp 5)), none, ann0⟩,
  ⟨(some 32), (Op.call { callee := (Callee.value (Operand.func 78)), args := #[(Operand.tmp 30), (Operand.tmp 31)], argTypes := #[23, 3] }), none, ann0⟩,
  ⟨(some 29), (Op.move (Operand.tmp 32)), none, ann0⟩,
  ⟨(some 33), (Op.extract (Operand.tmp 29) 0), none, ann0⟩,
  ⟨(some 34), (Op.extract (Operand.tmp 29) 1), none, ann0⟩,
  ⟨(some 8), (Op.assign (Operand.tmp 33)), none, ann0⟩,
  ⟨(some 9), (Op.assign (Operand.tmp 34)), none, ann0⟩] none) (.tidy [0, 1, 2, 4, 5, 6, 7, 8, 9] z (z + 0)))
 (.seq (.reg [⟨(some 35), (Op.move (Operand.tmp 6)), none, ann0⟩,
  ⟨(some 10), (Op.assign (Operand.tmp 35)), none, ann0⟩] none)
 (.seq (.post (.seq (.post (.reg [⟨(some 36), (Op.move (Operand.tmp 7)), none, ann0⟩,
  ⟨(some 37), (Op.unOp UnOp.not 4 (Operand.tmp 36)), none, ann0⟩,
  ⟨(some 38), (Op.move (Operand.tmp 37)), none, ann0⟩,
  ⟨(some 39), (Op.move (Operand.tmp 9)), (some (38, false)), ann0⟩,
  ⟨(some 40), (Op.move (Operand.tmp 39)), (some (38, false)), ann0⟩,
  ⟨(some 41), (Op.move (Operand.tmp 8)), (some (40, true)), ann0⟩,
  ⟨(some 42), (Op.move (Operand.tmp 6)), (some (40, true)), ann0⟩,
  ⟨(some 43), (Op.binOp BinOp.lss 3 (Operand.tmp 41) (Operand.tmp 42) 3), (some (40, true)), ann0⟩,
  ⟨(some 44), (Op.pick (Operand.tmp 40) (Operand.tmp 43) (Operand.const (Value.bool false))), (some (38, false)), ann0⟩,
  ⟨(some 45), (Op.pick (Operand.tmp 38) (Operand.const (Value.bool true)) (Operand.tmp 44)), none, ann0⟩] none) (.tidy [0, 1, 2, 4, 5, 6, 7, 8, 9, 10, 45] z (z + 0)))
 (.cond (Operand.tmp 45) (.reg [⟨(some 46), (Op.move (Operand.tmp 8)), none, ann0⟩,
  ⟨(some 10), (Op.assign (Operand.tmp 46)), none, ann0⟩] none)
 .skip)) (.tidy [0, 1, 2, 4, 5, 6, 7, 8, 9, 10] z (z + 0)))
 (.seq (.post (.seq (.reg [⟨(some 47), (Op.move (Operand.tmp 7)), none, ann0⟩,
  ⟨(some 48), (Op.move (Operand.tmp 47)), none, ann0⟩,
  ⟨(some 49), (Op.move (Operand.tmp 6)), (some (48, true)), ann0⟩,
  ⟨(some 50), (Op.move (Operand.tmp 10)), (some (48, true)), ann0⟩,
  ⟨(some 51), (Op.binOp BinOp.eql 3 (Operand.tmp 49) (Operand.tmp 50) 3), (some (48, true)), ann0⟩,
  ⟨(some 52), (Op.pick (Operand.tmp 48) (Operand.tmp 51) (Operand.const (Value.bool false))), none, ann0⟩] none)
 (.cond (Operand.tmp 52) (.reg [⟨(some 53), (Op.move (Operand.tmp 4)), none, ann0⟩,
  ⟨(some 54), (Op.binOp BinOp.add 3 (Operand.tmp 53) (Operand.const (Value.int IntKind.i64 1)) 3), none, ann0⟩,
  ⟨(some 4), (Op.assign (Operand.tmp 54)), none, ann0⟩] none)
 .skip)) (.tidy [0, 1, 2, 4, 5, 8, 9, 10] z (z + 0)))
 (.seq (.post (.seq (.reg [⟨(some 55), (Op.move (Operand.tmp 9)), none, ann0⟩,
  ⟨(some 56), (Op.move (Operand.tmp 55)), none, ann0⟩,
  ⟨(some 57), (Op.move (Operand.tmp 8)), (some (56, true)), ann0⟩,
  ⟨(some 58), (Op.move (Operand.tmp 10)), (some (56, true)), ann0⟩,
  ⟨(some 59), (Op.binOp BinOp.eql 3 (Operand.tmp 57) (Operand.tmp 58) 3), (some (56, true)), ann0⟩,
  ⟨(some 60), (Op.pick (Operand.tmp 56) (Operand.tmp 59) (Operand.const (Value.bool false))), none, ann0⟩] none)
 (.cond (Operand.tmp 60) (.reg [⟨(some 61), (Op.move (Operand.tmp 5)), none, ann0⟩,
  ⟨(some 62), (Op.binOp BinOp.add 3 (Operand.tmp 61) (Operand.const (Value.int IntKind.i64 1)) 3), none, ann0⟩,
  ⟨(some 5), (Op.assign (Operand.tmp 62)), none, ann0⟩] none)
 .skip)) (.tidy [0, 1, 2, 4, 5, 10] z (z + 0)))
 (t77_63 z))))))))) (.tidy [0, 1, 2, 4, 5] z (z + 0))
def s77_1 (z : Nat) : SC := c77_1 z
theorem e77_1 {C : Pg} {z : Nat} {st : St} {ks : List Fr} {K : Ex → St → Prop} : wpk C (s77_1 z) st ks K ↔ wpk C (c77_1 z) st ks K := Iff.rfl
def s77 (z : Nat) : SFn := ⟨3, 74, [],
 (.seq (.reg [⟨(some 4), (Op.assign (Operand.const (Value.int IntKind.i64 0))), none, ann0⟩,
  ⟨(some 5), (Op.assign (Operand.const (Value.int IntKind.i64 0))), none, ann0⟩] none)
 (.post (.block 0 (.pre (.tidy [0, 1, 2, 4, 5] z (z + 0)) (.loop (s77_1 z)))) (.tidy [] z (z + 0))))⟩
theorem F77 (z : Nat) : FOk Try.prog 77 (s77 z) := by unfold FOk; kernel_rfl
def s78 (z : Nat) : SFn := ⟨2, 28, [(ResultVar.tmp 4), (ResultVar.tmp 5)],
 (.seq (.reg [⟨(some 4), (Op.assign (Operand.const (Value.int IntKind.i64 0))), none, ann0⟩,
  ⟨(some 5), (Op.assign (Operand.const (Value.bool false))), none, ann0⟩] none)
 (.seq (.post (.block 0 (.seq (.post (.reg [⟨(some 7), (Op.move (Operand.tmp 1)), none, ann0⟩,
  ⟨(some 8), (Op.move (Operand.tmp 0)), none, ann0⟩,
  ⟨(some 9), (Op.call { callee := (Callee.builtin Builtin.len), args := #[(Operand.tmp 8)], argTypes := #[23] }), none, ann0⟩,
  ⟨(some 10), (Op.binOp BinOp.mul 3 (Operand.const (Value.int IntKind.i64 2)) (Operand.tmp 9) 3), none, ann0⟩,
  ⟨(some 11), (Op.binOp BinOp.eql 3 (Operand.tmp 7) (Operand.tmp 10) 3), none, ann0⟩,
  ⟨(some 6), (Op.assign (Operand.tmp 11)), none, ann0⟩] none) (.tidy [0, 1, 6] z (z + 0)))
 (.cond (Operand.tmp 6) (.seq (.reg [⟨(some 4), (Op.assign (Operand.const (Value.int IntKind.i64 0))), none, ann0⟩,
  ⟨(some 5), (Op.assign (Operand.const (Value.bool false))), none, ann0⟩] none)
 .ret)
 (.seq (.reg [⟨(some 13), (Op.move (Operand.tmp 1)), none, ann0⟩,
  ⟨(some 14), (Op.binOp BinOp.rem 3 (Operand.tmp 13) (Operand.const (Value.int IntKind.i64 2)) 3), none, ann0⟩,
  ⟨(some 15), (Op.binOp BinOp.eql 3 (Operand.tmp 14) (Operand.const (Value.int IntKind.i64 0)) 3), none, ann0⟩,
  ⟨(some 12), (Op.assign (Operand.tmp 15)), none, ann0⟩] none)
 (.cond (Operand.tmp 12) (.seq (.reg [⟨(some 16), (Op.move (Operand.tmp 0)), none, ann0⟩,
  ⟨(some 17), (Op.move (Operand.tmp 1)), none, ann0⟩,
  ⟨(some 18), (Op.binOp BinOp.quo 3 (Operand.tmp 17) (Operand.const (Value.int IntKind.i64 2)) 3), none, ann0⟩,
  ⟨(some 19), (Op.indexAddr 23 (Operand.tmp 16) (Operand.tmp 18)), none, ann0⟩,
  ⟨(some 20), (Op.fieldAddr 33 (Operand.tmp 19) 0), none, ann0⟩,
  ⟨(some 21), (Op.load 3 (Operand.tmp 20)), none, ann0⟩,
  ⟨(some 4), (Op.assign (Operand.tmp 21)), none, ann0⟩,
  ⟨(some 5), (Op.assign (Operand.const (Value.bool true))), none, ann0⟩] none)
 .ret)
 .skip))))) (.tidy [0, 1] z (z + 0)))
 (.seq (.reg [⟨(some 22), (Op.move (Operand.tmp 0)), none, ann0⟩,
  ⟨(some 23), (Op.move (Operand.tmp 1)), none, ann0⟩,
  ⟨(some 24), (Op.binOp BinOp.quo 3 (Operand.tmp 23) (Operand.const (Value.int IntKind.i64 2)) 3), none, ann0⟩,
  ⟨(some 25), (Op.indexAddr 23 (Operand.tmp 22) (Operand.tmp 24)), none, ann0⟩,
  ⟨(some 26), (Op.fieldAddr 33 (Operand.tmp 25) 1), none, ann0⟩,
  ⟨(some 27), (Op.load 3 (Operand.tmp 26)), none, ann0⟩,
  ⟨(some 4), (Op.assign (Operand.tmp 27)), none, ann0⟩,
  ⟨(some 5), (Op.assign (Operand.const (Value.bool true))), none, ann0⟩] none)
 .ret)))⟩
theorem F78 (z : Nat) : FOk Try.prog 78 (s78 z) := by unfold FOk; kernel_rfl
def l79_0 : SLoop := ⟨13, [7],
 (.reg [⟨(some 5), (Op.alloc 33), none, ⟨1, false, false⟩⟩,
  ⟨none, (Op.store 33 (Operand.tmp 5) (Operand.tmp 7)), none, ann0⟩] none),
 (.block 1 (.reg [⟨(some 8), (Op.load 23 (Operand.tmp 2)), none, ann0⟩,
  ⟨(some 9), (Op.load 33 (Operand.tmp 5)), none, ann0⟩,
  ⟨(some 10), (Op.buildSlice 23 1 #[(0, (Operand.tmp 9))]), none, ⟨1, true, false⟩⟩,
  ⟨(some 11), (Op.call { callee := (Callee.builtin Builtin.append), args := #[(Operand.tmp 8), (Operand.tmp 10)], argTypes := #[23, 23] }), none, ann0⟩,
  ⟨none, (Op.store 23 (Operand.tmp 2) (Operand.tmp 11)), none, ann0⟩] none))⟩
theorem N79_0 : LOk Try.prog 5056 l79_0 := by unfold LOk; kernel_rfl
def s79 (z : Nat) : SFn := ⟨2, 13, [(ResultVar.tmp 4)],
 (.seq (.reg [⟨(some 2), (Op.box 23 (Operand.tmp 0)), none, ⟨1, false, false⟩⟩,
  ⟨(some 4), (Op.assign (Operand.const (Value.slice none 0 0))), none, ann0⟩] none)
 (.seq (.seq (.reg [⟨(some 6), (Op.move (Operand.tmp 1)), none, ann0⟩] none)
 (.post (.pre (.mkb 2 0 33 2) (.block 0 (.rng (Operand.tmp 6) 5056 [2] ⟨0, false, false⟩))) (.tidy [2] z (z + 3))))
 (.seq (.reg [⟨(some 12), (Op.load 23 (Operand.tmp 2)), none, ann0⟩,
  ⟨(some 4), (Op.assign (Operand.tmp 12)), none, ann0⟩] none)
 .ret)))⟩
theorem F79 (z : Nat) : FOk Try.prog 79 (s79 z) := by unfold FOk; kernel_rfl
def t80_106 (z : Nat) : SC := (.seq (.post (.reg [⟨(some 106), (Op.move (Operand.tmp 0)), none, ann0⟩,
  ⟨(some 107), (Op.move (Operand.tmp 1)), none, ann0⟩,
  ⟨(some 108), (Op.move (Operand.tmp 2)), none, ann0⟩,
  ⟨(some 109), (Op.move (Operand.tmp 13)), none, ann0⟩,
  ⟨(some 110), (Op.move (Operand.tmp 4)), none, ann0⟩,
  ⟨(some 111), (Op.call { callee := (Callee.value (Operand.func 89)), args := #[(Operand.tmp 106), (Operand.tmp 107), (Operand.tmp 108), (Operand.tmp 109), (Operand.tmp 110)], argTypes := #[23, 3, 3, 3, 72] }), none, ann0⟩,
  ⟨(some 105), (Op.move (Operand.tmp 111)), none, ann0⟩,
  ⟨(some 112), (Op.extract (Operand.tmp 105) 0), none, ann0⟩,
  ⟨(some 113), (Op.extract (Operand.tmp 105) 1), none, ann0⟩,
  ⟨(some 16), (Op.assign (Operand.tmp 112)), none, ann0⟩,
  ⟨(some 17), (Op.assign (Operand.tmp 113)), none, ann0⟩] none) (.tidy [0, 1, 2, 3, 4, 12, 16, 17] z (z + 0)))
 (.seq (.reg [⟨(some 114), (Op.move (Operand.tmp 17)), none, ann0⟩,
  ⟨(some 11), (Op.assign (Operand.tmp 114)), none, ann0⟩] none)
 (.seq (.post (.reg [⟨(some 115), (Op.move (Operand.tmp 16)), none, ann0⟩,
  ⟨(some 116), (Op.move (Operand.tmp 1)), none, ann0⟩,
  ⟨(some 117), (Op.binOp BinOp.sub 3 (Operand.tmp 115) (Operand.tmp 116) 3), none, ann0⟩,
  ⟨(some 118), (Op.move (Operand.tmp 2)), none, ann0⟩,
  ⟨(some 119), (Op.move (Operand.tmp 16)), none, ann0⟩,
  ⟨(some 120), (Op.binOp BinOp.sub 3 (Operand.tmp 118) (Operand.tmp 119) 3), none, ann0⟩,
  ⟨(some 18), (Op.assign (Operand.tmp 117)), none, ann0⟩,
  ⟨(some 19), (Op.assign (Operand.tmp 120)), none, ann0⟩] none) (.tidy [0, 1, 2, 3, 4, 11, 12, 16, 18, 19] z (z + 0)))
 (.seq (.reg [⟨(some 121), (Op.move (Operand.tmp 12)), none, ann0⟩,
  ⟨(some 122), (Op.binOp BinOp.quo 3 (Operand.tmp 121) (Operand.const (Value.int IntKind.i64 8)) 3), none, ann0⟩,
  ⟨(some 20), (Op.assign (Operand.tmp 122)), none, ann0⟩] none)
 (.seq (.reg [⟨(some 123), (Op.move (Operand.tmp 18)), none, ann0⟩,
  ⟨(some 124), (Op.move (Operand.tmp 19)), none, ann0⟩,
  ⟨(some 125), (Op.binOp BinOp.lss 3 (Operand.tmp 123) (Operand.tmp 124) 3), none, ann0⟩] none)
 (.cond (Operand.tmp 125) (.seq (.post (.reg [⟨(some 126), (Op.move (Operand.tmp 18)), none, ann0⟩,
  ⟨(some 127), (Op.move (Operand.tmp 20)), none, ann0⟩,
  ⟨(some 128), (Op.binOp BinOp.geq 3 (Operand.tmp 126) (Operand.tmp 127) 3), none, ann0⟩,
  ⟨(some 10), (Op.assign (Operand.tmp 128)), none, ann0⟩] none) (.tidy [0, 1, 2, 3, 4, 10, 11, 16] z (z + 0)))
 (.seq (.post (.reg [⟨(some 129), (Op.move (Operand.tmp 0)), none, ann0⟩,
  ⟨(some 130), (Op.move (Operand.tmp 1)), none, ann0⟩,
  ⟨(some 131), (Op.move (Operand.tmp 16)), none, ann0⟩,
  ⟨(some 132), (Op.move (Operand.tmp 3)), none, ann0⟩,
  ⟨(some 133), (Op.move (Operand.tmp 4)), none, ann0⟩,
  ⟨(some 134), (Op.call { callee := (Callee.value (Operand.func 80)), args := #[(Operand.tmp 129), (Operand.tmp 130), (Operand.tmp 131), (Operand.tmp 132), (Operand.tmp 133)], argTypes := #[23, 3, 3, 3, 72] }), none, ann0⟩] none) (.tidy [0, 2, 3, 4, 10, 11, 16] z (z + 0)))
 (.reg [⟨(some 135), (Op.move (Operand.tmp 16)), none, ann0⟩,
  ⟨(some 136), (Op.binOp BinOp.add 3 (Operand.tmp 135) (Operand.const (Value.int IntKind.i64 1)) 3), none, ann0⟩,
  ⟨(some 1), (Op.assign (Operand.tmp 136)), none, ann0⟩] none)))
 (.seq (.reg [⟨(some 137), (Op.move (Operand.tmp 19)), none, ann0⟩,
  ⟨(some 138), (Op.move (Operand.tmp 20)), none, ann0⟩,
  ⟨(some 139), (Op.binOp BinOp.geq 3 (Operand.tmp 137) (Operand.tmp 138) 3), none, ann0⟩,
  ⟨(some 10), (Op.assign (Operand.tmp 139)), none, ann0⟩] none)
 (.seq (.post (.reg [⟨(some 140), (Op.move (Operand.tmp 0)), none, ann0⟩,
  ⟨(some 141), (Op.move (Operand.tmp 16)), none, ann0⟩,
  ⟨(some 142), (Op.binOp BinOp.add 3 (Operand.tmp 141) (Operand.const (Value.int IntKind.i64 1)) 3), none, ann0⟩,
  ⟨(some 143), (Op.move (Operand.tmp 2)), none, ann0⟩,
  ⟨(some 144), (Op.move (Operand.tmp 3)), none, ann0⟩,
  ⟨(some 145), (Op.move (Operand.tmp 4)), none, ann0⟩,
  ⟨(some 146), (Op.call { callee := (Callee.value (Operand.func 80)), args := #[(Operand.tmp 140), (Operand.tmp 142), (Operand.tmp 143), (Operand.tmp 144), (Operand.tmp 145)], argTypes := #[23, 3, 3, 3, 72] }), none, ann0⟩] none) (.tidy [0, 1, 3, 4, 10, 11, 16] z (z + 0)))
 (.reg [⟨(some 147), (Op.move (Operand.tmp 16)), none, ann0⟩,
  ⟨(some 2), (Op.assign (Operand.tmp 147)), none, ann0⟩] none)))))))))
def t80_81 (z : Nat) : SC := (.seq (.post (.seq (.post (.reg [⟨(some 81), (Op.move (Operand.tmp 1)), none, ann0⟩,
  ⟨(some 82), (Op.binOp BinOp.gtr 3 (Operand.tmp 81) (Operand.const (Value.int IntKind.i64 0)) 3), none, ann0⟩,
  ⟨(some 83), (Op.move (Operand.tmp 82)), none, ann0⟩,
  ⟨(some 84), (Op.move (Operand.tmp 4)), (some (83, true)), ann0⟩,
  ⟨(some 85), (Op.move (Operand.tmp 0)), (some (83, true)), ann0⟩,
  ⟨(some 86), (Op.move (Operand.tmp 1)), (some (83, true)), ann0⟩,
  ⟨(some 87), (Op.binOp BinOp.sub 3 (Operand.tmp 86) (Operand.const (Value.int IntKind.i64 1)) 3), (some (83, true)), ann0⟩,
  ⟨(some 88), (Op.indexAddr 23 (Operand.tmp 85) (Operand.tmp 87)), (some (83, true)), ann0⟩,
  ⟨(some 89), (Op.load 33 (Operand.tmp 88)), (some (83, true)), ann0⟩,
  ⟨(some 90), (Op.move (Operand.tmp 0)), (some (83, true)), ann0⟩,
  ⟨(some 91), (Op.move (Operand.tmp 13)), (some (83, true)), ann0⟩,
  ⟨(some 92), (Op.indexAddr 23 (Operand.tmp 90) (Operand.tmp 91)), (some (83, true)), ann0⟩,
  ⟨(some 93), (Op.load 33 (Operand.tmp 92)), (some (83, true)), ann0⟩,
  ⟨(some 94), (Op.call { callee := (Callee.value (Operand.tmp 84)), args := #[(Operand.tmp 89), (Operand.tmp 93)], argTypes := #[33, 33] }), (some (83, true)), ann0⟩,
  ⟨(some 95), (Op.binOp BinOp.lss 3 (Operand.tmp 94) (Operand.const (Value.int IntKind.i64 0)) 3), (some (83, true)), ann0⟩,
  ⟨(some 96), (Op.unOp UnOp.not 4 (Operand.tmp 95)), (some (83, true)), ann0⟩,
  ⟨(some 97), (Op.pick (Operand.tmp 83) (Operand.tmp 96) (Operand.const (Value.bool false))), none, ann0⟩] (some [0, 1, 3, 7, 7, 7, 39, 119, 247, 7, 7, 1543, 3591, 8191, 16383, 32767, 65535])) (.tidy [0, 1, 2, 3, 4, 10, 11, 12, 13, 97] z (z + 0)))
 (.cond (Operand.tmp 97) (.seq (.post (.reg [⟨(some 98), (Op.move (Operand.tmp 0)), none, ann0⟩,
  ⟨(some 99), (Op.move (Operand.tmp 1)), none, ann0⟩,
  ⟨(some 100), (Op.move (Operand.tmp 2)), none, ann0⟩,
  ⟨(some 101), (Op.move (Operand.tmp 13)), none, ann0⟩,
  ⟨(some 102), (Op.move (Operand.tmp 4)), none, ann0⟩,
  ⟨(some 103), (Op.call { callee := (Callee.value (Operand.func 88)), args := #[(Operand.tmp 98), (Operand.tmp 99), (Operand.tmp 100), (Operand.tmp 101), (Operand.tmp 102)], argTypes := #[23, 3, 3, 3, 72] }), none, ann0⟩,
  ⟨(some 15), (Op.assign (Operand.tmp 103)), none, ann0⟩] none) (.tidy [0, 2, 3, 4, 10, 11, 15] z (z + 0)))
 (.seq (.reg [⟨(some 104), (Op.move (Operand.tmp 15)), none, ann0⟩,
  ⟨(some 1), (Op.assign (Operand.tmp 104)), none, ann0⟩] none)
 (.exit 1)))
 .skip)) (.tidy [0, 1, 2, 3, 4, 12, 13] z (z + 0)))
 (t80_106 z))
def t80_68 (z : Nat) : SC := (.seq (.post (.seq (.post (.reg [⟨(some 68), (Op.move (Operand.tmp 10)), none, ann0⟩,
  ⟨(some 69), (Op.move (Operand.tmp 68)), none, ann0⟩,
  ⟨(some 70), (Op.move (Operand.tmp 11)), (some (69, true)), ann0⟩,
  ⟨(some 71), (Op.pick (Operand.tmp 69) (Operand.tmp 70) (Operand.const (Value.bool false))), none, ann0⟩,
  ⟨(some 72), (Op.move (Operand.tmp 71)), none, ann0⟩,
  ⟨(some 73), (Op.move (Operand.tmp 14)), (some (72, true)), ann0⟩,
  ⟨(some 74), (Op.binOp BinOp.eql 85 (Operand.tmp 73) (Operand.const (Value.int IntKind.i64 1)) 85), (some (72, true)), ann0⟩,
  ⟨(some 75), (Op.pick (Operand.tmp 72) (Operand.tmp 74) (Operand.const (Value.bool false))), none, ann0⟩] none) (.tidy [0, 1, 2, 3, 4, 10, 11, 12, 13, 75] z (z + 0)))
 (.cond (Operand.tmp 75) (.seq (.reg [⟨(some 76), (Op.move (Operand.tmp 0)), none, ann0⟩,
  ⟨(some 77), (Op.move (Operand.tmp 1)), none, ann0⟩,
  ⟨(some 78), (Op.move (Operand.tmp 2)), none, ann0⟩,
  ⟨(some 79), (Op.move (Operand.tmp 4)), none, ann0⟩,
  ⟨(some 80), (Op.call { callee := (Callee.value (Operand.func 87)), args := #[(Operand.tmp 76), (Operand.tmp 77), (Operand.tmp 78), (Operand.tmp 79)], argTypes := #[23, 3, 3, 72] }), none, ann0⟩] none)
 (.cond (Operand.tmp 80) .ret
 .skip))
 .skip)) (.tidy [0, 1, 2, 3, 4, 10, 11, 12, 13] z (z + 0)))
 (t80_81 z))
def t80_48 (z : Nat) : SC := (.seq (.post (.reg [⟨(some 48), (Op.move (Operand.tmp 0)), none, ann0⟩,
  ⟨(some 49), (Op.move (Operand.tmp 1)), none, ann0⟩,
  ⟨(some 50), (Op.move (Operand.tmp 2)), none, ann0⟩,
  ⟨(some 51), (Op.move (Operand.tmp 4)), none, ann0⟩,
  ⟨(some 52), (Op.call { callee := (Callee.value (Operand.func 85)), args := #[(Operand.tmp 48), (Operand.tmp 49), (Operand.tmp 50), (Operand.tmp 51)], argTypes := #[23, 3, 3, 72] }), none, ann0⟩,
  ⟨(some 47), (Op.move (Operand.tmp 52)), none, ann0⟩,
  ⟨(some 53), (Op.extract (Operand.tmp 47) 0), none, ann0⟩,
  ⟨(some 54), (Op.extract (Operand.tmp 47) 1), none, ann0⟩,
  ⟨(some 13), (Op.assign (Operand.tmp 53)), none, ann0⟩,
  ⟨(some 14), (Op.assign (Operand.tmp 54)), none, ann0⟩] none) (.tidy [0, 1, 2, 3, 4, 10, 11, 12, 13, 14] z (z + 0)))
 (.seq (.post (.seq (.reg [⟨(some 55), (Op.move (Operand.tmp 14)), none, ann0⟩,
  ⟨(some 56), (Op.binOp BinOp.eql 85 (Operand.tmp 55) (Operand.const (Value.int IntKind.i64 2)) 85), none, ann0⟩] none)
 (.cond (Operand.tmp 56) (.seq (.post (.reg [⟨(some 57), (Op.move (Operand.tmp 0)), none, ann0⟩,
  ⟨(some 58), (Op.move (Operand.tmp 1)), none, ann0⟩,
  ⟨(some 59), (Op.move (Operand.tmp 2)), none, ann0⟩,
  ⟨(some 60), (Op.move (Operand.tmp 4)), none, ann0⟩,
  ⟨(some 61), (Op.call { callee := (Callee.value (Operand.func 86)), args := #[(Operand.tmp 57), (Operand.tmp 58), (Operand.tmp 59), (Operand.tmp 60)], argTypes := #[23, 3, 3, 72] }), none, ann0⟩] none) (.tidy [0, 1, 2, 3, 4, 10, 11, 12, 13] z (z + 0)))
 (.seq (.post (.reg [⟨(some 62), (Op.move (Operand.tmp 2)), none, ann0⟩,
  ⟨(some 63), (Op.binOp BinOp.sub 3 (Operand.tmp 62) (Operand.const (Value.int IntKind.i64 1)) 3), none, ann0⟩,
  ⟨(some 64), (Op.move (Operand.tmp 13)), none, ann0⟩,
  ⟨(some 65), (Op.move (Operand.tmp 1)), none, ann0⟩,
  ⟨(some 66), (Op.binOp BinOp.sub 3 (Operand.tmp 64) (Operand.tmp 65) 3), none, ann0⟩,
  ⟨(some 67), (Op.binOp BinOp.sub 3 (Operand.tmp 63) (Operand.tmp 66) 3), none, ann0⟩,
  ⟨(some 13), (Op.assign (Operand.tmp 67)), none, ann0⟩] none) (.tidy [0, 1, 2, 3, 4, 10, 11, 12, 13] z (z + 0)))
 (.reg [⟨(some 14), (Op.assign (Operand.const (Value.int IntKind.i64 1))), none, ann0⟩] none)))
 .skip)) (.tidy [0, 1, 2, 3, 4, 10, 11, 12, 13, 14] z (z + 0)))
 (t80_68 z)))
def c80_1 (z : Nat) : SC := .post (.block 1 (.seq (.reg [⟨(some 21), (Op.move (Operand.tmp 2)), none, ann0⟩,
  ⟨(some 22), (Op.move (Operand.tmp 1)), none, ann0⟩,
  ⟨(some 23), (Op.binOp BinOp.sub 3 (Operand.tmp 21) (Operand.tmp 22) 3), none, ann0⟩,
  ⟨(some 12), (Op.assign (Operand.tmp 23)), none, ann0⟩] none)
 (.seq (.post (.seq (.reg [⟨(some 24), (Op.move (Operand.tmp 12)), none, ann0⟩,
  ⟨(some 25), (Op.binOp BinOp.leq 3 (Operand.tmp 24) (Operand.const (Value.int IntKind.i64 12)) 3), none, ann0⟩] none)
 (.cond (Operand.tmp 25) (.seq (.reg [⟨(some 26), (Op.move (Operand.tmp 0)), none, ann0⟩,
  ⟨(some 27), (Op.move (Operand.tmp 1)), none, ann0⟩,
  ⟨(some 28), (Op.move (Operand.tmp 2)), none, ann0⟩,
  ⟨(some 29), (Op.move (Operand.tmp 4)), none, ann0⟩,
  ⟨(some 30), (Op.call { callee := (Callee.value (Operand.func 82)), args := #[(Operand.tmp 26), (Operand.tmp 27), (Operand.tmp 28), (Operand.tmp 29)], argTypes := #[23, 3, 3, 72] }), none, ann0⟩] none)
 .ret)
 .skip)) (.tidy [0, 1, 2, 3, 4, 10, 11, 12] z (z + 0)))
 (.seq (.post (.seq (.reg [⟨(some 31), (Op.move (Operand.tmp 3)), none, ann0⟩,
  ⟨(some 32), (Op.binOp BinOp.eql 3 (Operand.tmp 31) (Operand.const (Value.int IntKind.i64 0)) 3), none, ann0⟩] none)
 (.cond (Operand.tmp 32) (.seq (.reg [⟨(some 33), (Op.move (Operand.tmp 0)), none, ann0⟩,
  ⟨(some 34), (Op.move (Operand.tmp 1)), none, ann0⟩,
  ⟨(some 35), (Op.move (Operand.tmp 2)), none, ann0⟩,
  ⟨(some 36), (Op.move (Operand.tmp 4)), none, ann0⟩,
  ⟨(some 37), (Op.call { callee := (Callee.value (Operand.func 83)), args := #[(Operand.tmp 33), (Operand.tmp 34), (Operand.tmp 35), (Operand.tmp 36)], argTypes := #[23, 3, 3, 72] }), none, ann0⟩] none)
 .ret)
 .skip)) (.tidy [0, 1, 2, 3, 4, 10, 11, 12] z (z + 0)))
 (.seq (.post (.seq (.reg [⟨(some 38), (Op.move (Operand.tmp 10)), none, ann0⟩,
  ⟨(some 39), (Op.unOp UnOp.not 4 (Operand.tmp 38)), none, ann0⟩] none)
 (.cond (Operand.tmp 39) (.seq (.post (.reg [⟨(some 40), (Op.move (Operand.tmp 0)), none, ann0⟩,
  ⟨(some 41), (Op.move (Operand.tmp 1)), none, ann0⟩,
  ⟨(some 42), (Op.move (Operand.tmp 2)), none, ann0⟩,
  ⟨(some 43), (Op.move (Operand.tmp 4)), none, ann0⟩,
  ⟨(some 44), (Op.call { callee := (Callee.value (Operand.func 84)), args := #[(Operand.tmp 40), (Operand.tmp 41), (Operand.tmp 42), (Operand.tmp 43)], argTypes := #[23, 3, 3, 72] }), none, ann0⟩] none) (.tidy [0, 1, 2, 3, 4, 10, 11, 12] z (z + 0)))
 (.reg [⟨(some 45), (Op.move (Operand.tmp 3)), none, ann0⟩,
  ⟨(some 46), (Op.binOp BinOp.sub 3 (Operand.tmp 45) (Operand.const (Value.int IntKind.i64 1)) 3), none, ann0⟩,
  ⟨(some 3), (Op.assign (Operand.tmp 46)), none, ann0⟩] none))
 .skip)) (.tidy [0, 1, 2, 3, 4, 10, 11, 12] z (z + 0)))
 (t80_48 z)))))) (.tidy [0, 1, 2, 3, 4, 10, 11] z (z + 0))
def s80_1 (z : Nat) : SC := c80_1 z
theorem e80_1 {C : Pg} {z : Nat} {st : St} {ks : List Fr} {K : Ex → St → Prop} : wpk C (s80_1 z) st ks K ↔ wpk C (c80_1 z) st ks K := Iff.rfl
def s80 (z : Nat) : SFn := ⟨5, 148, [],
 (.seq (.reg [⟨(some 10), (Op.assign (Operand.const (Value.bool true))), none, ann0⟩] none)
 (.seq (.reg [⟨(some 11), (Op.assign (Operand.const (Value.bool true))), none, ann0⟩] none)
 (.post (.block 0 (.pre (.tidy [0, 1, 2, 3, 4, 10, 11] z (z + 0)) (.loop (s80_1 z)))) (.tidy [] z (z + 0)))))⟩
theorem F80 (z : Nat) : FOk Try.prog 80 (s80 z) := by unfold FOk; kernel_rfl
def s81 (z : Nat) : SFn := ⟨1, 8, [(ResultVar.tmp 2)],
 (.seq (.reg [⟨(some 2), (Op.assign (Operand.const (Value.int IntKind.i64 0))), none, ann0⟩] none)
 (.seq (.post (.cond (Operand.const (Value.bool false)) (.seq (.reg [⟨(some 3), (Op.move (Operand.tmp 0)), none, ann0⟩,
  ⟨(some 4), (Op.convert 45 92 (Operand.tmp 3)), none, ann0⟩,
  ⟨(some 5), (Op.call { callee := (Callee.value (Operand.func 90)), args := #[(Operand.tmp 4)], argTypes := #[92] }), none, ann0⟩,
  ⟨(some 2), (Op.assign (Operand.tmp 5)), none, ann0⟩] none)
 .ret)
 .skip) (.tidy [0] z (z + 0)))
 (.seq (.reg [⟨(some 6), (Op.move (Operand.tmp 0)), none, ann0⟩,
  ⟨(some 7), (Op.call { callee := (Callee.value (Operand.func 91)), args := #[(Operand.tmp 6)], argTypes := #[94] }), none, ann0⟩,
  ⟨(some 2), (Op.assign (Operand.tmp 7)), none, ann0⟩] none)
 .ret)))⟩
theorem F81 (z : Nat) : FOk Try.prog 81 (s81 z) := by unfold FOk; kernel_rfl
def c82_2 (z : Nat) : SC := .post (.seq (.post (.seq (.post (.reg [⟨(some 18), (Op.move (Operand.tmp 9)), none, ann0⟩,
  ⟨(some 19), (Op.move (Operand.tmp 1)), none, ann0⟩,
  ⟨(some 20), (Op.binOp BinOp.gtr 3 (Operand.tmp 18) (Operand.tmp 19) 3), none, ann0⟩,
  ⟨(some 21), (Op.move (Operand.tmp 20)), none, ann0⟩,
  ⟨(some 22), (Op.move (Operand.tmp 3)), (some (21, true)), ann0⟩,
  ⟨(some 23), (Op.move (Operand.tmp 0)), (some (21, true)), ann0⟩,
  ⟨(some 24), (Op.move (Operand.tmp 9)), (some (21, true)), ann0⟩,
  ⟨(some 25), (Op.indexAddr 23 (Operand.tmp 23) (Operand.tmp 24)), (some (21, true)), ann0⟩,
  ⟨(some 26), (Op.load 33 (Operand.tmp 25)), (some (21, true)), ann0⟩,
  ⟨(some 27), (Op.move (Operand.tmp 0)), (some (21, true)), ann0⟩,
  ⟨(some 28), (Op.move (Operand.tmp 9)), (some (21, true)), ann0⟩,
  ⟨(some 29), (Op.binOp BinOp.sub 3 (Operand.tmp 28) (Operand.const (Value.int IntKind.i64 1)) 3), (some (21, true)), ann0⟩,
  ⟨(some 30), (Op.indexAddr 23 (Operand.tmp 27) (Operand.tmp 29)), (some (21, true)), ann0⟩,
  ⟨(some 31), (Op.load 33 (Operand.tmp 30)), (some (21, true)), ann0⟩,
  ⟨(some 32), (Op.call { callee := (Callee.value (Operand.tmp 22)), args := #[(Operand.tmp 26), (Operand.tmp 31)], argTypes := #[33, 33] }), (some (21, true)), ann0⟩,
  ⟨(some 33), (Op.binOp BinOp.lss 3 (Operand.tmp 32) (Operand.const (Value.int IntKind.i64 0)) 3), (some (21, true)), ann0⟩,
  ⟨(some 34), (Op.pick (Operand.tmp 21) (Operand.tmp 33) (Operand.const (Value.bool false))), none, ann0⟩] (some [0, 0, 3, 7, 15, 15, 15, 111, 239, 15, 15, 1039, 3599, 7695, 16383, 32767, 65535])) (.tidy [0, 1, 2, 3, 8, 9, 34] z (z + 0)))
 (.cond (Operand.tmp 34) .skip
 (.exit 2))) (.tidy [0, 1, 2, 3, 8, 9] z (z + 0)))
 (.seq (.post (.block 3 (.reg [⟨(some 37), (Op.move (Operand.tmp 0)), none, ann0⟩,
  ⟨(some 38), (Op.move (Operand.tmp 9)), none, ann0⟩,
  ⟨(some 39), (Op.move (Operand.tmp 0)), none, ann0⟩,
  ⟨(some 40), (Op.move (Operand.tmp 9)), none, ann0⟩,
  ⟨(some 41), (Op.binOp BinOp.sub 3 (Operand.tmp 40) (Operand.const (Value.int IntKind.i64 1)) 3), none, ann0⟩,
  ⟨(some 42), (Op.move (Operand.tmp 0)), none, ann0⟩,
  ⟨(some 43), (Op.move (Operand.tmp 9)), none, ann0⟩,
  ⟨(some 44), (Op.binOp BinOp.sub 3 (Operand.tmp 43) (Operand.const (Value.int IntKind.i64 1)) 3), none, ann0⟩,
  ⟨(some 45), (Op.indexAddr 23 (Operand.tmp 42) (Operand.tmp 44)), none, ann0⟩,
  ⟨(some 46), (Op.load 33 (Operand.tmp 45)), none, ann0⟩,
  ⟨(some 47), (Op.move (Operand.tmp 0)), none, ann0⟩,
  ⟨(some 48), (Op.move (Operand.tmp 9)), none, ann0⟩,
  ⟨(some 49), (Op.indexAddr 23 (Operand.tmp 47) (Operand.tmp 48)), none, ann0⟩,
  ⟨(some 50), (Op.load 33 (Operand.tmp 49)), none, ann0⟩,
  ⟨(some 51), (Op.indexAddr 23 (Operand.tmp 37) (Operand.tmp 38)), none, ann0⟩,
  ⟨none, (Op.store 33 (Operand.tmp 51) (Operand.tmp 46)), none, ann0⟩,
  ⟨(some 52), (Op.indexAddr 23 (Operand.tmp 39) (Operand.tmp 41)), none, ann0⟩,
  ⟨none, (Op.store 33 (Operand.tmp 52) (Operand.tmp 50)), none, ann0⟩] (some [0, 0, 0, 0, 8, 0, 0, 64, 224, 480, 0, 0, 3072, 7168, 16355, 32739, 65535, 131071]))) (.tidy [0, 1, 2, 3, 8, 9] z (z + 0)))
 (.reg [⟨(some 35), (Op.move (Operand.tmp 9)), none, ann0⟩,
  ⟨(some 36), (Op.binOp BinOp.sub 3 (Operand.tmp 35) (Operand.const (Value.int IntKind.i64 1)) 3), none, ann0⟩,
  ⟨(some 9), (Op.assign (Operand.tmp 36)), none, ann0⟩] none))) (.tidy [0, 1, 2, 3, 8, 9] z (z + 0))
def s82_2 (z : Nat) : SC := c82_2 z
theorem e82_2 {C : Pg} {z : Nat} {st : St} {ks : List Fr} {K : Ex → St → Prop} : wpk C (s82_2 z) st ks K ↔ wpk C (c82_2 z) st ks K := Iff.rfl
def c82_1 (z : Nat) : SC := .post (.seq (.post (.seq (.reg [⟨(some 12), (Op.move (Operand.tmp 8)), none, ann0⟩,
  ⟨(some 13), (Op.move (Operand.tmp 2)), none, ann0⟩,
  ⟨(some 14), (Op.binOp BinOp.lss 3 (Operand.tmp 12) (Operand.tmp 13) 3), none, ann0⟩] none)
 (.cond (Operand.tmp 14) .skip
 (.exit 0))) (.tidy [0, 1, 2, 3, 8] z (z + 0)))
 (.seq (.post (.block 1 (.seq (.reg [⟨(some 17), (Op.move (Operand.tmp 8)), none, ann0⟩,
  ⟨(some 9), (Op.assign (Operand.tmp 17)), none, ann0⟩] none)
 (.post (.block 2 (.pre (.tidy [0, 1, 2, 3, 8, 9] z (z + 0)) (.loop (s82_2 z)))) (.tidy [0, 1, 2, 3, 8] z (z + 0))))) (.tidy [0, 1, 2, 3, 8] z (z + 0)))
 (.reg [⟨(some 15), (Op.move (Operand.tmp 8)), none, ann0⟩,
  ⟨(some 16), (Op.binOp BinOp.add 3 (Operand.tmp 15) (Operand.const (Value.int IntKind.i64 1)) 3), none, ann0⟩,
  ⟨(some 8), (Op.assign (Operand.tmp 16)), none, ann0⟩] none))) (.tidy [0, 1, 2, 3, 8] z (z + 0))
def s82_1 (z : Nat) : SC := c82_1 z
theorem e82_1 {C : Pg} {z : Nat} {st : St} {ks : List Fr} {K : Ex → St → Prop} : wpk C (s82_1 z) st ks K ↔ wpk C (c82_1 z) st ks K := Iff.rfl
def s82 (z : Nat) : SFn := ⟨4, 53, [],
 (.seq (.reg [⟨(some 10), (Op.move (Operand.tmp 1)), none, ann0⟩,
  ⟨(some 11), (Op.binOp BinOp.add 3 (Operand.tmp 10) (Operand.const (Value.int IntKind.i64 1)) 3), none, ann0⟩,
  ⟨(some 8), (Op.assign (Operand.tmp 11)), none, ann0⟩] none)
 (.post (.block 0 (.pre (.tidy [0, 1, 2, 3, 8] z (z + 0)) (.loop (s82_1 z)))) (.tidy [] z (z + 0))))⟩
theorem F82 (z : Nat) : FOk Try.prog 82 (s82 z) := by unfold FOk; kernel_rfl
def c83_1 (z : Nat) : SC := .post (.seq (.seq (.reg [⟨(some 20), (Op.move (Operand.tmp 11)), none, ann0⟩,
  ⟨(some 21), (Op.binOp BinOp.geq 3 (Operand.tmp 20) (Operand.const (Value.int IntKind.i64 0)) 3), none, ann0⟩] none)
 (.cond (Operand.tmp 21) .skip
 (.exit 0)))
 (.seq (.post (.block 1 (.reg [⟨(some 24), (Op.move (Operand.tmp 0)), none, ann0⟩,
  ⟨(some 25), (Op.move (Operand.tmp 11)), none, ann0⟩,
  ⟨(some 26), (Op.move (Operand.tmp 10)), none, ann0⟩,
  ⟨(some 27), (Op.move (Operand.tmp 8)), none, ann0⟩,
  ⟨(some 28), (Op.move (Operand.tmp 3)), none, ann0⟩,
  ⟨(some 29), (Op.call { callee := (Callee.value (Operand.func 92)), args := #[(Operand.tmp 24), (Operand.tmp 25), (Operand.tmp 26), (Operand.tmp 27), (Operand.tmp 28)], argTypes := #[23, 3, 3, 3, 72] }), none, ann0⟩] none)) (.tidy [0, 3, 8, 9, 10, 11] z (z + 0)))
 (.reg [⟨(some 22), (Op.move (Operand.tmp 11)), none, ann0⟩,
  ⟨(some 23), (Op.binOp BinOp.sub 3 (Operand.tmp 22) (Operand.const (Value.int IntKind.i64 1)) 3), none, ann0⟩,
  ⟨(some 11), (Op.assign (Operand.tmp 23)), none, ann0⟩] none))) (.tidy [0, 3, 8, 9, 10, 11] z (z + 0))
def s83_1 (z : Nat) : SC := c83_1 z
theorem e83_1 {C : Pg} {z : Nat} {st : St} {ks : List Fr} {K : Ex → St → Prop} : wpk C (s83_1 z) st ks K ↔ wpk C (c83_1 z) st ks K := Iff.rfl
def c83_2 (z : Nat) : SC := .post (.seq (.seq (.reg [⟨(some 32), (Op.move (Operand.tmp 12)), none, ann0⟩,
  ⟨(some 33), (Op.binOp BinOp.geq 3 (Operand.tmp 32) (Operand.const (Value.int IntKind.i64 0)) 3), none, ann0⟩] none)
 (.cond (Operand.tmp 33) .skip
 (.exit 2)))
 (.seq (.post (.block 3 (.seq (.post (.reg [⟨(some 36), (Op.move (Operand.tmp 0)), none, ann0⟩,
  ⟨(some 37), (Op.move (Operand.tmp 8)), none, ann0⟩,
  ⟨(some 38), (Op.move (Operand.tmp 0)), none, ann0⟩,
  ⟨(some 39), (Op.move (Operand.tmp 8)), none, ann0⟩,
  ⟨(some 40), (Op.move (Operand.tmp 12)), none, ann0⟩,
  ⟨(some 41), (Op.binOp BinOp.add 3 (Operand.tmp 39) (Operand.tmp 40) 3), none, ann0⟩,
  ⟨(some 42), (Op.move (Operand.tmp 0)), none, ann0⟩,
  ⟨(some 43), (Op.move (Operand.tmp 8)), none, ann0⟩,
  ⟨(some 44), (Op.move (Operand.tmp 12)), none, ann0⟩,
  ⟨(some 45), (Op.binOp BinOp.add 3 (Operand.tmp 43) (Operand.tmp 44) 3), none, ann0⟩,
  ⟨(some 46), (Op.indexAddr 23 (Operand.tmp 42) (Operand.tmp 45)), none, ann0⟩,
  ⟨(some 47), (Op.load 33 (Operand.tmp 46)), none, ann0⟩,
  ⟨(some 48), (Op.move (Operand.tmp 0)), none, ann0⟩,
  ⟨(some 49), (Op.move (Operand.tmp 8)), none, ann0⟩,
  ⟨(some 50), (Op.indexAddr 23 (Operand.tmp 48) (Operand.tmp 49)), none, ann0⟩,
  ⟨(some 51), (Op.load 33 (Operand.tmp 50)), none, ann0⟩,
  ⟨(some 52), (Op.indexAddr 23 (Operand.tmp 36) (Operand.tmp 37)), none, ann0⟩,
  ⟨none, (Op.store 33 (Operand.tmp 52) (Operand.tmp 47)), none, ann0⟩,
  ⟨(some 53), (Op.indexAddr 23 (Operand.tmp 38) (Operand.tmp 41)), none, ann0⟩,
  ⟨none, (Op.store 33 (Operand.tmp 53) (Operand.tmp 51)), none, ann0⟩] (some [0, 0, 0, 0, 0, 24, 0, 0, 0, 384, 960, 1984, 0, 0, 12288, 28672, 65475, 131011, 262143, 524287])) (.tidy [0, 3, 8, 9, 12] z (z + 0)))
 (.reg [⟨(some 54), (Op.move (Operand.tmp 0)), none, ann0⟩,
  ⟨(some 55), (Op.move (Operand.tmp 9)), none, ann0⟩,
  ⟨(some 56), (Op.move (Operand.tmp 12)), none, ann0⟩,
  ⟨(some 57), (Op.move (Operand.tmp 8)), none, ann0⟩,
  ⟨(some 58), (Op.move (Operand.tmp 3)), none, ann0⟩,
  ⟨(some 59), (Op.call { callee := (Callee.value (Operand.func 92)), args := #[(Operand.tmp 54), (Operand.tmp 55), (Operand.tmp 56), (Operand.tmp 57), (Operand.tmp 58)], argTypes := #[23, 3, 3, 3, 72] }), none, ann0⟩] none))) (.tidy [0, 3, 8, 9, 12] z (z + 0)))
 (.reg [⟨(some 34), (Op.move (Operand.tmp 12)), none, ann0⟩,
  ⟨(some 35), (Op.binOp BinOp.sub 3 (Operand.tmp 34) (Operand.const (Value.int IntKind.i64 1)) 3), none, ann0⟩,
  ⟨(some 12), (Op.assign (Operand.tmp 35)), none, ann0⟩] none))) (.tidy [0, 3, 8, 9, 12] z (z + 0))
def s83_2 (z : Nat) : SC := c83_2 z
theorem e83_2 {C : Pg} {z : Nat} {st : St} {ks : List Fr} {K : Ex → St → Prop} : wpk C (s83_2 z) st ks K ↔ wpk C (c83_2 z) st ks K := Iff.rfl
def s83 (z : Nat) : SFn := ⟨4, 60, [],
 (.seq (.reg [⟨(some 13), (Op.move (Operand.tmp 1)), none, ann0⟩,
  ⟨(some 8), (Op.assign (Operand.tmp 13)), none, ann0⟩] none)
 (.seq (.reg [⟨(some 9), (Op.assign (Operand.const (Value.int IntKind.i64 0))), none, ann0⟩] none)
 (.seq (.reg [⟨(some 14), (Op.move (Operand.tmp 2)), none, ann0⟩,
  ⟨(some 15), (Op.move (Operand.tmp 1)), none, ann0⟩,
  ⟨(some 16), (Op.binOp BinOp.sub 3 (Operand.tmp 14) (Operand.tmp 15) 3), none, ann0⟩,
  ⟨(some 10), (Op.assign (Operand.tmp 16)), none, ann0⟩] none)
 (.seq (.post (.seq (.post (.reg [⟨(some 17), (Op.move (Operand.tmp 10)), none, ann0⟩,
  ⟨(some 18), (Op.binOp BinOp.sub 3 (Operand.tmp 17) (Operand.const (Value.int IntKind.i64 1)) 3), none, ann0⟩,
  ⟨(some 19), (Op.binOp BinOp.quo 3 (Operand.tmp 18) (Operand.const (Value.int IntKind.i64 2)) 3), none, ann0⟩,
  ⟨(some 11), (Op.assign (Operand.tmp 19)), none, ann0⟩] none) (.tidy [0, 3, 8, 9, 10, 11] z (z + 0)))
 (.post (.block 0 (.pre (.tidy [0, 3, 8, 9, 10, 11] z (z + 0)) (.loop (s83_1 z)))) (.tidy [0, 3, 8, 9, 10] z (z + 0)))) (.tidy [0, 3, 8, 9, 10] z (z + 0)))
 (.seq (.reg [⟨(some 30), (Op.move (Operand.tmp 10)), none, ann0⟩,
  ⟨(some 31), (Op.binOp BinOp.sub 3 (Operand.tmp 30) (Operand.const (Value.int IntKind.i64 1)) 3), none, ann0⟩,
  ⟨(some 12), (Op.assign (Operand.tmp 31)), none, ann0⟩] none)
 (.post (.block 2 (.pre (.tidy [0, 3, 8, 9, 12] z (z + 0)) (.loop (s83_2 z)))) (.tidy [] z (z + 0))))))))⟩
theorem F83 (z : Nat) : FOk Try.prog 83 (s83 z) := by unfold FOk; kernel_rfl
def c84_1 (z : Nat) : SC := .post (.seq (.post (.seq (.post (.reg [⟨(some 28), (Op.move (Operand.tmp 11)), none, ann0⟩,
  ⟨(some 29), (Op.move (Operand.tmp 1)), none, ann0⟩,
  ⟨(some 30), (Op.move (Operand.tmp 8)), none, ann0⟩,
  ⟨(some 31), (Op.binOp BinOp.quo 3 (Operand.tmp 30) (Operand.const (Value.int IntKind.i64 4)) 3), none, ann0⟩,
  ⟨(some 32), (Op.binOp BinOp.mul 3 (Operand.tmp 31) (Operand.const (Value.int IntKind.i64 2)) 3), none, ann0⟩,
  ⟨(some 33), (Op.binOp BinOp.add 3 (Operand.tmp 29) (Operand.tmp 32) 3), none, ann0⟩,
  ⟨(some 34), (Op.binOp BinOp.add 3 (Operand.tmp 33) (Operand.const (Value.int IntKind.i64 1)) 3), none, ann0⟩,
  ⟨(some 35), (Op.binOp BinOp.leq 3 (Operand.tmp 28) (Operand.tmp 34) 3), none, ann0⟩] none) (.tidy [0, 1, 8, 9, 10, 11, 35] z (z + 1)))
 (.cond (Operand.tmp 35) .skip
 (.exit 0))) (.tidy [0, 1, 8, 9, 10, 11] z (z + 1)))
 (.seq (.post (.block 1 (.seq (.reg [⟨(some 38), (Op.call { callee := (Callee.value (Operand.func 94)), args := #[(Operand.tmp 9)], argTypes := #[95] }), none, ann0⟩,
  ⟨(some 39), (Op.move (Operand.tmp 10)), none, ann0⟩,
  ⟨(some 40), (Op.binOp BinOp.sub 45 (Operand.tmp 39) (Operand.const (Value.int IntKind.u64 1)) 45), none, ann0⟩,
  ⟨(some 41), (Op.binOp BinOp.and 45 (Operand.tmp 38) (Operand.tmp 40) 45), none, ann0⟩,
  ⟨(some 42), (Op.convert 45 3 (Operand.tmp 41)), none, ann0⟩,
  ⟨(some 12), (Op.assign (Operand.tmp 42)), none, ann0⟩] none)
 (.seq (.post (.seq (.post (.reg [⟨(some 43), (Op.move (Operand.tmp 12)), none, ann0⟩,
  ⟨(some 44), (Op.move (Operand.tmp 8)), none, ann0⟩,
  ⟨(some 45), (Op.binOp BinOp.geq 3 (Operand.tmp 43) (Operand.tmp 44) 3), none, ann0⟩] none) (.tidy [0, 1, 8, 9, 10, 11, 12, 45] z (z + 1)))
 (.cond (Operand.tmp 45) (.reg [⟨(some 46), (Op.move (Operand.tmp 12)), none, ann0⟩,
  ⟨(some 47), (Op.move (Operand.tmp 8)), none, ann0⟩,
  ⟨(some 48), (Op.binOp BinOp.sub 3 (Operand.tmp 46) (Operand.tmp 47) 3), none, ann0⟩,
  ⟨(some 12), (Op.assign (Operand.tmp 48)), none, ann0⟩] none)
 .skip)) (.tidy [0, 1, 8, 9, 10, 11, 12] z (z + 1)))
 (.reg [⟨(some 49), (Op.move (Operand.tmp 0)), none, ann0⟩,
  ⟨(some 50), (Op.move (Operand.tmp 11)), none, ann0⟩,
  ⟨(some 51), (Op.move (Operand.tmp 0)), none, ann0⟩,
  ⟨(some 52), (Op.move (Operand.tmp 1)), none, ann0⟩,
  ⟨(some 53), (Op.move (Operand.tmp 12)), none, ann0⟩,
  ⟨(some 54), (Op.binOp BinOp.add 3 (Operand.tmp 52) (Operand.tmp 53) 3), none, ann0⟩,
  ⟨(some 55), (Op.move (Operand.tmp 0)), none, ann0⟩,
  ⟨(some 56), (Op.move (Operand.tmp 1)), none, ann0⟩,
  ⟨(some 57), (Op.move (Operand.tmp 12)), none, ann0⟩,
  ⟨(some 58), (Op.binOp BinOp.add 3 (Operand.tmp 56) (Operand.tmp 57) 3), none, ann0⟩,
  ⟨(some 59), (Op.indexAddr 23 (Operand.tmp 55) (Operand.tmp 58)), none, ann0⟩,
  ⟨(some 60), (Op.load 33 (Operand.tmp 59)), none, ann0⟩,
  ⟨(some 61), (Op.move (Operand.tmp 0)), none, ann0⟩,
  ⟨(some 62), (Op.move (Operand.tmp 11)), none, ann0⟩,
  ⟨(some 63), (Op.indexAddr 23 (Operand.tmp 61) (Operand.tmp 62)), none, ann0⟩,
  ⟨(some 64), (Op.load 33 (Operand.tmp 63)), none, ann0⟩,
  ⟨(some 65), (Op.indexAddr 23 (Operand.tmp 49) (Operand.tmp 50)), none, ann0⟩,
  ⟨none, (Op.store 33 (Operand.tmp 65) (Operand.tmp 60)), none, ann0⟩,
  ⟨(some 66), (Op.indexAddr 23 (Operand.tmp 51) (Operand.tmp 54)), none, ann0⟩,
  ⟨none, (Op.store 33 (Operand.tmp 66) (Operand.tmp 64)), none, ann0⟩] (some [0, 0, 0, 0, 0, 24, 0, 0, 0, 384, 960, 1984, 0, 0, 12288, 28672, 65475, 131011, 262143, 524287]))))) (.tidy [0, 1, 8, 9, 10, 11] z (z + 1)))
 (.reg [⟨(some 36), (Op.move (Operand.tmp 11)), none, ann0⟩,
  ⟨(some 37), (Op.binOp BinOp.add 3 (Operand.tmp 36) (Operand.const (Value.int IntKind.i64 1)) 3), none, ann0⟩,
  ⟨(some 11), (Op.assign (Operand.tmp 37)), none, ann0⟩] none))) (.tidy [0, 1, 8, 9, 10, 11] z (z + 1))
def s84_1 (z : Nat) : SC := c84_1 z
theorem e84_1 {C : Pg} {z : Nat} {st : St} {ks : List Fr} {K : Ex → St → Prop} : wpk C (s84_1 z) st ks K ↔ wpk C (c84_1 z) st ks K := Iff.rfl
def s84 (z : Nat) : SFn := ⟨4, 67, [],
 (.seq (.reg [⟨(some 13), (Op.move (Operand.tmp 2)), none, ann0⟩,
  ⟨(some 14), (Op.move (Operand.tmp 1)), none, ann0⟩,
  ⟨(some 15), (Op.binOp BinOp.sub 3 (Operand.tmp 13) (Operand.tmp 14) 3), none, ann0⟩,
  ⟨(some 8), (Op.assign (Operand.tmp 15)), none, ann0⟩] none)
 (.seq (.reg [⟨(some 16), (Op.move (Operand.tmp 8)), none, ann0⟩,
  ⟨(some 17), (Op.binOp BinOp.geq 3 (Operand.tmp 16) (Operand.const (Value.int IntKind.i64 8)) 3), none, ann0⟩] none)
 (.cond (Operand.tmp 17) (.seq (.post (.reg [⟨(some 18), (Op.move (Operand.tmp 8)), none, ann0⟩,
  ⟨(some 19), (Op.convert 3 95 (Operand.tmp 18)), none, ann0⟩,
  ⟨(some 9), (Op.alloc 95), none, ⟨1, false, false⟩⟩,
  ⟨none, (Op.store 95 (Operand.tmp 9) (Operand.tmp 19)), none, ann0⟩] none) (.tidy [0, 1, 8, 9] z (z + 1)))
 (.seq (.reg [⟨(some 20), (Op.move (Operand.tmp 8)), none, ann0⟩,
  ⟨(some 21), (Op.call { callee := (Callee.value (Operand.func 93)), args := #[(Operand.tmp 20)], argTypes := #[3] }), none, ann0⟩,
  ⟨(some 10), (Op.assign (Operand.tmp 21)), none, ann0⟩] none)
 (.seq (.post (.reg [⟨(some 22), (Op.move (Operand.tmp 1)), none, ann0⟩,
  ⟨(some 23), (Op.move (Operand.tmp 8)), none, ann0⟩,
  ⟨(some 24), (Op.binOp BinOp.quo 3 (Operand.tmp 23) (Operand.const (Value.int IntKind.i64 4)) 3), none, ann0⟩,
  ⟨(some 25), (Op.binOp BinOp.mul 3 (Operand.tmp 24) (Operand.const (Value.int IntKind.i64 2)) 3), none, ann0⟩,
  ⟨(some 26), (Op.binOp BinOp.add 3 (Operand.tmp 22) (Operand.tmp 25) 3), none, ann0⟩,
  ⟨(some 27), (Op.binOp BinOp.sub 3 (Operand.tmp 26) (Operand.const (Value.int IntKind.i64 1)) 3), none, ann0⟩,
  ⟨(some 11), (Op.assign (Operand.tmp 27)), none, ann0⟩] none) (.tidy [0, 1, 8, 9, 10, 11] z (z + 1)))
 (.post (.block 0 (.pre (.tidy [0, 1, 8, 9, 10, 11] z (z + 1)) (.loop (s84_1 z)))) (.tidy [] z (z + 1))))))
 .skip)))⟩
theorem F84 (z : Nat) : FOk Try.prog 84 (s84 z) := by unfold FOk; kernel_rfl
def s85 (z : Nat) : SFn := ⟨4, 63, [(ResultVar.tmp 8), (ResultVar.tmp 9)],
 (.seq (.reg [⟨(some 8), (Op.assign (Operand.const (Value.int IntKind.i64 0))), none, ann0⟩,
  ⟨(some 9), (Op.assign (Operand.const (Value.int IntKind.i64 0))), none, ann0⟩] none)
 (.seq (.reg [⟨(some 15), (Op.move (Operand.tmp 2)), none, ann0⟩,
  ⟨(some 16), (Op.move (Operand.tmp 1)), none, ann0⟩,
  ⟨(some 17), (Op.binOp BinOp.sub 3 (Operand.tmp 15) (Operand.tmp 16) 3), none, ann0⟩,
  ⟨(some 10), (Op.assign (Operand.tmp 17)), none, ann0⟩] none)
 (.seq (.reg [⟨(some 11), (Op.alloc 3), none, ⟨1, false, false⟩⟩] none)
 (.seq (.post (.reg [⟨(some 18), (Op.move (Operand.tmp 1)), none, ann0⟩,
  ⟨(some 19), (Op.move (Operand.tmp 10)), none, ann0⟩,
  ⟨(some 20), (Op.binOp BinOp.quo 3 (Operand.tmp 19) (Operand.const (Value.int IntKind.i64 4)) 3), none, ann0⟩,
  ⟨(some 21), (Op.binOp BinOp.mul 3 (Operand.tmp 20) (Operand.const (Value.int IntKind.i64 1)) 3), none, ann0⟩,
  ⟨(some 22), (Op.binOp BinOp.add 3 (Operand.tmp 18) (Operand.tmp 21) 3), none, ann0⟩,
  ⟨(some 12), (Op.assign (Operand.tmp 22)), none, ann0⟩] none) (.tidy [0, 1, 3, 10, 11, 12] z (z + 1)))
 (.seq (.reg [⟨(some 23), (Op.move (Operand.tmp 1)), none, ann0⟩,
  ⟨(some 24), (Op.move (Operand.tmp 10)), none, ann0⟩,
  ⟨(some 25), (Op.binOp BinOp.quo 3 (Operand.tmp 24) (Operand.const (Value.int IntKind.i64 4)) 3), none, ann0⟩,
  ⟨(some 26), (Op.binOp BinOp.mul 3 (Operand.tmp 25) (Operand.const (Value.int IntKind.i64 2)) 3), none, ann0⟩,
  ⟨(some 27), (Op.binOp BinOp.add 3 (Operand.tmp 23) (Operand.tmp 26) 3), none, ann0⟩,
  ⟨(some 13), (Op.assign (Operand.tmp 27)), none, ann0⟩] none)
 (.seq (.post (.reg [⟨(some 28), (Op.move (Operand.tmp 1)), none, ann0⟩,
  ⟨(some 29), (Op.move (Operand.tmp 10)), none, ann0⟩,
  ⟨(some 30), (Op.binOp BinOp.quo 3 (Operand.tmp 29) (Operand.const (Value.int IntKind.i64 4)) 3), none, ann0⟩,
  ⟨(some 31), (Op.binOp BinOp.mul 3 (Operand.tmp 30) (Operand.const (Value.int IntKind.i64 3)) 3), none, ann0⟩,
  ⟨(some 32), (Op.binOp BinOp.add 3 (Operand.tmp 28) (Operand.tmp 31) 3), none, ann0⟩,
  ⟨(some 14), (Op.assign (Operand.tmp 32)), none, ann0⟩] none) (.tidy [0, 3, 10, 11, 12, 13, 14] z (z + 1)))
 (.seq (.post (.seq (.reg [⟨(some 33), (Op.move (Operand.tmp 10)), none, ann0⟩,
  ⟨(some 34), (Op.binOp BinOp.geq 3 (Operand.tmp 33) (Operand.const (Value.int IntKind.i64 8)) 3), none, ann0⟩] none)
 (.cond (Operand.tmp 34) (.seq (.post (.seq (.reg [⟨(some 35), (Op.move (Operand.tmp 10)), none, ann0⟩,
  ⟨(some 36), (Op.binOp BinOp.geq 3 (Operand.tmp 35) (Operand.const (Value.int IntKind.i64 50)) 3), none, ann0⟩] none)
 (.cond (Operand.tmp 36) (.seq (.post (.reg [⟨(some 37), (Op.move (Operand.tmp 0)), none, ann0⟩,
  ⟨(some 38), (Op.move (Operand.tmp 12)), none, ann0⟩,
  ⟨(some 39), (Op.move (Operand.tmp 3)), none, ann0⟩,
  ⟨(some 40), (Op.call { callee := (Callee.value (Operand.func 95)), args := #[(Operand.tmp 37), (Operand.tmp 38), (Operand.tmp 11), (Operand.tmp 39)], argTypes := #[23, 3, 99, 72] }), none, ann0⟩,
  ⟨(some 12), (Op.assign (Operand.tmp 40)), none, ann0⟩] none) (.tidy [0, 3, 11, 12, 13, 14] z (z + 1)))
 (.seq (.reg [⟨(some 41), (Op.move (Operand.tmp 0)), none, ann0⟩,
  ⟨(some 42), (Op.move (Operand.tmp 13)), none, ann0⟩,
  ⟨(some 43), (Op.move (Operand.tmp 3)), none, ann0⟩,
  ⟨(some 44), (Op.call { callee := (Callee.value (Operand.func 95)), args := #[(Operand.tmp 41), (Operand.tmp 42), (Operand.tmp 11), (Operand.tmp 43)], argTypes := #[23, 3, 99, 72] }), none, ann0⟩,
  ⟨(some 13), (Op.assign (Operand.tmp 44)), none, ann0⟩] none)
 (.reg [⟨(some 45), (Op.move (Operand.tmp 0)), none, ann0⟩,
  ⟨(some 46), (Op.move (Operand.tmp 14)), none, ann0⟩,
  ⟨(some 47), (Op.move (Operand.tmp 3)), none, ann0⟩,
  ⟨(some 48), (Op.call { callee := (Callee.value (Operand.func 95)), args := #[(Operand.tmp 45), (Operand.tmp 46), (Operand.tmp 11), (Operand.tmp 47)], argTypes := #[23, 3, 99, 72] }), none, ann0⟩,
  ⟨(some 14), (Op.assign (Operand.tmp 48)), none, ann0⟩] none)))
 .skip)) (.tidy [0, 3, 11, 12, 13, 14] z (z + 1)))
 (.reg [⟨(some 49), (Op.move (Operand.tmp 0)), none, ann0⟩,
  ⟨(some 50), (Op.move (Operand.tmp 12)), none, ann0⟩,
  ⟨(some 51), (Op.move (Operand.tmp 13)), none, ann0⟩,
  ⟨(some 52), (Op.move (Operand.tmp 14)), none, ann0⟩,
  ⟨(some 53), (Op.move (Operand.tmp 3)), none, ann0⟩,
  ⟨(some 54), (Op.call { callee := (Callee.value (Operand.func 96)), args := #[(Operand.tmp 49), (Operand.tmp 50), (Operand.tmp 51), (Operand.tmp 52), (Operand.tmp 11), (Operand.tmp 53)], argTypes := #[23, 3, 3, 3, 99, 72] }), none, ann0⟩,
  ⟨(some 13), (Op.assign (Operand.tmp 54)), none, ann0⟩] none))
 .skip)) (.tidy [11, 13] z (z + 1)))
 (.seq (.reg [⟨(some 55), (Op.load 3 (Operand.tmp 11)), none, ann0⟩] none)
 (.block 0 (.seq (.reg [⟨(some 58), (Op.binOp BinOp.eql 3 (Operand.tmp 55) (Operand.const (Value.int IntKind.i64 0)) 3), none, ann0⟩,
  ⟨(some 57), (Op.assign (Operand.tmp 58)), none, ann0⟩] none)
 (.cond (Operand.tmp 57) (.seq (.reg [⟨(some 59), (Op.move (Operand.tmp 13)), none, ann0⟩,
  ⟨(some 8), (Op.assign (Operand.tmp 59)), none, ann0⟩,
  ⟨(some 9), (Op.assign (Operand.const (Value.int IntKind.i64 1))), none, ann0⟩] none)
 .ret)
 (.seq (.reg [⟨(some 61), (Op.binOp BinOp.eql 3 (Operand.tmp 55) (Operand.const (Value.int IntKind.i64 12)) 3), none, ann0⟩,
  ⟨(some 60), (Op.assign (Operand.tmp 61)), none, ann0⟩] none)
 (.cond (Operand.tmp 60) (.seq (.reg [⟨(some 62), (Op.move (Operand.tmp 13)), none, ann0⟩,
  ⟨(some 8), (Op.assign (Operand.tmp 62)), none, ann0⟩,
  ⟨(some 9), (Op.assign (Operand.const (Value.int IntKind.i64 2))), none, ann0⟩] none)
 .ret)
 (.seq (.reg [⟨(some 56), (Op.move (Operand.tmp 13)), none, ann0⟩,
  ⟨(some 8), (Op.assign (Operand.tmp 56)), none, ann0⟩,
  ⟨(some 9), (Op.assign (Operand.const (Value.int IntKind.i64 0))), none, ann0⟩] none)
 .ret))))))))))))))⟩
theorem F85 (z : Nat) : FOk Try.prog 85 (s85 z) := by unfold FOk; kernel_rfl
def c86_1 (z : Nat) : SC := .post (.seq (.post (.seq (.reg [⟨(some 13), (Op.move (Operand.tmp 8)), none, ann0⟩,
  ⟨(some 14), (Op.move (Operand.tmp 9)), none, ann0⟩,
  ⟨(some 15), (Op.binOp BinOp.lss 3 (Operand.tmp 13) (Operand.tmp 14) 3), none, ann0⟩] none)
 (.cond (Operand.tmp 15) .skip
 (.exit 0))) (.tidy [0, 8, 9] z (z + 0)))
 (.block 1 (.seq (.post (.reg [⟨(some 16), (Op.move (Operand.tmp 0)), none, ann0⟩,
  ⟨(some 17), (Op.move (Operand.tmp 8)), none, ann0⟩,
  ⟨(some 18), (Op.move (Operand.tmp 0)), none, ann0⟩,
  ⟨(some 19), (Op.move (Operand.tmp 9)), none, ann0⟩,
  ⟨(some 20), (Op.move (Operand.tmp 0)), none, ann0⟩,
  ⟨(some 21), (Op.move (Operand.tmp 9)), none, ann0⟩,
  ⟨(some 22), (Op.indexAddr 23 (Operand.tmp 20) (Operand.tmp 21)), none, ann0⟩,
  ⟨(some 23), (Op.load 33 (Operand.tmp 22)), none, ann0⟩,
  ⟨(some 24), (Op.move (Operand.tmp 0)), none, ann0⟩,
  ⟨(some 25), (Op.move (Operand.tmp 8)), none, ann0⟩,
  ⟨(some 26), (Op.indexAddr 23 (Operand.tmp 24) (Operand.tmp 25)), none, ann0⟩,
  ⟨(some 27), (Op.load 33 (Operand.tmp 26)), none, ann0⟩,
  ⟨(some 28), (Op.indexAddr 23 (Operand.tmp 16) (Operand.tmp 17)), none, ann0⟩,
  ⟨none, (Op.store 33 (Operand.tmp 28) (Operand.tmp 23)), none, ann0⟩,
  ⟨(some 29), (Op.indexAddr 23 (Operand.tmp 18) (Operand.tmp 19)), none, ann0⟩,
  ⟨none, (Op.store 33 (Operand.tmp 29) (Operand.tmp 27)), none, ann0⟩] (some [0, 0, 0, 0, 0, 0, 48, 112, 0, 0, 768, 1792, 4083, 8179, 16383, 32767])) (.tidy [0, 8, 9] z (z + 0)))
 (.seq (.reg [⟨(some 30), (Op.move (Operand.tmp 8)), none, ann0⟩,
  ⟨(some 31), (Op.binOp BinOp.add 3 (Operand.tmp 30) (Operand.const (Value.int IntKind.i64 1)) 3), none, ann0⟩,
  ⟨(some 8), (Op.assign (Operand.tmp 31)), none, ann0⟩] none)
 (.reg [⟨(some 32), (Op.move (Operand.tmp 9)), none, ann0⟩,
  ⟨(some 33), (Op.binOp BinOp.sub 3 (Operand.tmp 32) (Operand.const (Value.int IntKind.i64 1)) 3), none, ann0⟩,
  ⟨(some 9), (Op.assign (Operand.tmp 33)), none, ann0⟩] none))))) (.tidy [0, 8, 9] z (z + 0))
def s86_1 (z : Nat) : SC := c86_1 z
theorem e86_1 {C : Pg} {z : Nat} {st : St} {ks : List Fr} {K : Ex → St → Prop} : wpk C (s86_1 z) st ks K ↔ wpk C (c86_1 z) st ks K := Iff.rfl
def s86 (z : Nat) : SFn := ⟨4, 34, [],
 (.seq (.reg [⟨(some 10), (Op.move (Operand.tmp 1)), none, ann0⟩,
  ⟨(some 8), (Op.assign (Operand.tmp 10)), none, ann0⟩] none)
 (.seq (.reg [⟨(some 11), (Op.move (Operand.tmp 2)), none, ann0⟩,
  ⟨(some 12), (Op.binOp BinOp.sub 3 (Operand.tmp 11) (Operand.const (Value.int IntKind.i64 1)) 3), none, ann0⟩,
  ⟨(some 9), (Op.assign (Operand.tmp 12)), none, ann0⟩] none)
 (.post (.block 0 (.pre (.tidy [0, 8, 9] z (z + 0)) (.loop (s86_1 z)))) (.tidy [] z (z + 0)))))⟩
theorem F86 (z : Nat) : FOk Try.prog 86 (s86 z) := by unfold FOk; kernel_rfl
def c87_2 (z : Nat) : SC := .post (.seq (.post (.seq (.post (.reg [⟨(some 19), (Op.move (Operand.tmp 9)), none, ann0⟩,
  ⟨(some 20), (Op.move (Operand.tmp 2)), none, ann0⟩,
  ⟨(some 21), (Op.binOp BinOp.lss 3 (Operand.tmp 19) (Operand.tmp 20) 3), none, ann0⟩,
  ⟨(some 22), (Op.move (Operand.tmp 21)), none, ann0⟩,
  ⟨(some 23), (Op.move (Operand.tmp 3)), (some (22, true)), ann0⟩,
  ⟨(some 24), (Op.move (Operand.tmp 0)), (some (22, true)), ann0⟩,
  ⟨(some 25), (Op.move (Operand.tmp 9)), (some (22, true)), ann0⟩,
  ⟨(some 26), (Op.indexAddr 23 (Operand.tmp 24) (Operand.tmp 25)), (some (22, true)), ann0⟩,
  ⟨(some 27), (Op.load 33 (Operand.tmp 26)), (some (22, true)), ann0⟩,
  ⟨(some 28), (Op.move (Operand.tmp 0)), (some (22, true)), ann0⟩,
  ⟨(some 29), (Op.move (Operand.tmp 9)), (some (22, true)), ann0⟩,
  ⟨(some 30), (Op.binOp BinOp.sub 3 (Operand.tmp 29) (Operand.const (Value.int IntKind.i64 1)) 3), (some (22, true)), ann0⟩,
  ⟨(some 31), (Op.indexAddr 23 (Operand.tmp 28) (Operand.tmp 30)), (some (22, true)), ann0⟩,
  ⟨(some 32), (Op.load 33 (Operand.tmp 31)), (some (22, true)), ann0⟩,
  ⟨(some 33), (Op.call { callee := (Callee.value (Operand.tmp 23)), args := #[(Operand.tmp 27), (Operand.tmp 32)], argTypes := #[33, 33] }), (some (22, true)), ann0⟩,
  ⟨(some 34), (Op.binOp BinOp.lss 3 (Operand.tmp 33) (Operand.const (Value.int IntKind.i64 0)) 3), (some (22, true)), ann0⟩,
  ⟨(some 35), (Op.unOp UnOp.not 4 (Operand.tmp 34)), (some (22, true)), ann0⟩,
  ⟨(some 36), (Op.pick (Operand.tmp 22) (Operand.tmp 35) (Operand.const (Value.bool false))), none, ann0⟩] (some [0, 0, 3, 7, 15, 15, 15, 111, 239, 15, 15, 1039, 3599, 7695, 16383, 32767, 65535, 131071])) (.tidy [0, 1, 2, 3, 9, 10, 36] z (z + 0)))
 (.cond (Operand.tmp 36) .skip
 (.exit 2))) (.tidy [0, 1, 2, 3, 9, 10] z (z + 0)))
 (.block 3 (.reg [⟨(some 37), (Op.move (Operand.tmp 9)), none, ann0⟩,
  ⟨(some 38), (Op.binOp BinOp.add 3 (Operand.tmp 37) (Operand.const (Value.int IntKind.i64 1)) 3), none, ann0⟩,
  ⟨(some 9), (Op.assign (Operand.tmp 38)), none, ann0⟩] none))) (.tidy [0, 1, 2, 3, 9, 10] z (z + 0))
def s87_2 (z : Nat) : SC := c87_2 z
theorem e87_2 {C : Pg} {z : Nat} {st : St} {ks : List Fr} {K : Ex → St → Prop} : wpk C (s87_2 z) st ks K ↔ wpk C (c87_2 z) st ks K := Iff.rfl
def c87_3 (z : Nat) : SC := .post (.seq (.seq (.post (.reg [⟨(some 68), (Op.move (Operand.tmp 11)), none, ann0⟩,
  ⟨(some 69), (Op.binOp BinOp.geq 3 (Operand.tmp 68) (Operand.const (Value.int IntKind.i64 1)) 3), none, ann0⟩] none) (.tidy [0, 1, 2, 3, 9, 10, 11, 69] z (z + 0)))
 (.cond (Operand.tmp 69) .skip
 (.exit 4)))
 (.seq (.post (.block 5 (.seq (.post (.seq (.post (.reg [⟨(some 72), (Op.move (Operand.tmp 3)), none, ann0⟩,
  ⟨(some 73), (Op.move (Operand.tmp 0)), none, ann0⟩,
  ⟨(some 74), (Op.move (Operand.tmp 11)), none, ann0⟩,
  ⟨(some 75), (Op.indexAddr 23 (Operand.tmp 73) (Operand.tmp 74)), none, ann0⟩,
  ⟨(some 76), (Op.load 33 (Operand.tmp 75)), none, ann0⟩,
  ⟨(some 77), (Op.move (Operand.tmp 0)), none, ann0⟩,
  ⟨(some 78), (Op.move (Operand.tmp 11)), none, ann0⟩,
  ⟨(some 79), (Op.binOp BinOp.sub 3 (Operand.tmp 78) (Operand.const (Value.int IntKind.i64 1)) 3), none, ann0⟩,
  ⟨(some 80), (Op.indexAddr 23 (Operand.tmp 77) (Operand.tmp 79)), none, ann0⟩,
  ⟨(some 81), (Op.load 33 (Operand.tmp 80)), none, ann0⟩,
  ⟨(some 82), (Op.call { callee := (Callee.value (Operand.tmp 72)), args := #[(Operand.tmp 76), (Operand.tmp 81)], argTypes := #[33, 33] }), none, ann0⟩,
  ⟨(some 83), (Op.binOp BinOp.lss 3 (Operand.tmp 82) (Operand.const (Value.int IntKind.i64 0)) 3), none, ann0⟩,
  ⟨(some 84), (Op.unOp UnOp.not 4 (Operand.tmp 83)), none, ann0⟩] (some [0, 0, 0, 6, 14, 0, 0, 64, 224, 480, 1023, 2047, 4095])) (.tidy [0, 1, 2, 3, 9, 10, 11, 84] z (z + 0)))
 (.cond (Operand.tmp 84) (.exit 4)
 .skip)) (.tidy [0, 1, 2, 3, 9, 10, 11] z (z + 0)))
 (.reg [⟨(some 85), (Op.move (Operand.tmp 0)), none, ann0⟩,
  ⟨(some 86), (Op.move (Operand.tmp 11)), none, ann0⟩,
  ⟨(some 87), (Op.move (Operand.tmp 0)), none, ann0⟩,
  ⟨(some 88), (Op.move (Operand.tmp 11)), none, ann0⟩,
  ⟨(some 89), (Op.binOp BinOp.sub 3 (Operand.tmp 88) (Operand.const (Value.int IntKind.i64 1)) 3), none, ann0⟩,
  ⟨(some 90), (Op.move (Operand.tmp 0)), none, ann0⟩,
  ⟨(some 91), (Op.move (Operand.tmp 11)), none, ann0⟩,
  ⟨(some 92), (Op.binOp BinOp.sub 3 (Operand.tmp 91) (Operand.const (Value.int IntKind.i64 1)) 3), none, ann0⟩,
  ⟨(some 93), (Op.indexAddr 23 (Operand.tmp 90) (Operand.tmp 92)), none, ann0⟩,
  ⟨(some 94), (Op.load 33 (Operand.tmp 93)), none, ann0⟩,
  ⟨(some 95), (Op.move (Operand.tmp 0)), none, ann0⟩,
  ⟨(some 96), (Op.move (Operand.tmp 11)), none, ann0⟩,
  ⟨(some 97), (Op.indexAddr 23 (Operand.tmp 95) (Operand.tmp 96)), none, ann0⟩,
  ⟨(some 98), (Op.load 33 (Operand.tmp 97)), none, ann0⟩,
  ⟨(some 99), (Op.indexAddr 23 (Operand.tmp 85) (Operand.tmp 86)), none, ann0⟩,
  ⟨none, (Op.store 33 (Operand.tmp 99) (Operand.tmp 94)), none, ann0⟩,
  ⟨(some 100), (Op.indexAddr 23 (Operand.tmp 87) (Operand.tmp 89)), none, ann0⟩,
  ⟨none, (Op.store 33 (Operand.tmp 100) (Operand.tmp 98)), none, ann0⟩] (some [0, 0, 0, 0, 8, 0, 0, 64, 224, 480, 0, 0, 3072, 7168, 16355, 32739, 65535, 131071])))) (.tidy [0, 1, 2, 3, 9, 10, 11] z (z + 0)))
 (.reg [⟨(some 70), (Op.move (Operand.tmp 11)), none, ann0⟩,
  ⟨(some 71), (Op.binOp BinOp.sub 3 (Operand.tmp 70) (Operand.const (Value.int IntKind.i64 1)) 3), none, ann0⟩,
  ⟨(some 11), (Op.assign (Operand.tmp 71)), none, ann0⟩] none))) (.tidy [0, 1, 2, 3, 9, 10, 11] z (z + 0))
def s87_3 (z : Nat) : SC := c87_3 z
theorem e87_3 {C : Pg} {z : Nat} {st : St} {ks : List Fr} {K : Ex → St → Prop} : wpk C (s87_3 z) st ks K ↔ wpk C (c87_3 z) st ks K := Iff.rfl
def c87_4 (z : Nat) : SC := .post (.seq (.seq (.post (.reg [⟨(some 107), (Op.move (Operand.tmp 12)), none, ann0⟩,
  ⟨(some 108), (Op.move (Operand.tmp 2)), none, ann0⟩,
  ⟨(some 109), (Op.binOp BinOp.lss 3 (Operand.tmp 107) (Operand.tmp 108) 3), none, ann0⟩] none) (.tidy [0, 1, 2, 3, 9, 10, 12, 109] z (z + 0)))
 (.cond (Operand.tmp 109) .skip
 (.exit 6)))
 (.seq (.post (.block 7 (.seq (.post (.seq (.post (.reg [⟨(some 112), (Op.move (Operand.tmp 3)), none, ann0⟩,
  ⟨(some 113), (Op.move (Operand.tmp 0)), none, ann0⟩,
  ⟨(some 114), (Op.move (Operand.tmp 12)), none, ann0⟩,
  ⟨(some 115), (Op.indexAddr 23 (Operand.tmp 113) (Operand.tmp 114)), none, ann0⟩,
  ⟨(some 116), (Op.load 33 (Operand.tmp 115)), none, ann0⟩,
  ⟨(some 117), (Op.move (Operand.tmp 0)), none, ann0⟩,
  ⟨(some 118), (Op.move (Operand.tmp 12)), none, ann0⟩,
  ⟨(some 119), (Op.binOp BinOp.sub 3 (Operand.tmp 118) (Operand.const (Value.int IntKind.i64 1)) 3), none, ann0⟩,
  ⟨(some 120), (Op.indexAddr 23 (Operand.tmp 117) (Operand.tmp 119)), none, ann0⟩,
  ⟨(some 121), (Op.load 33 (Operand.tmp 120)), none, ann0⟩,
  ⟨(some 122), (Op.call { callee := (Callee.value (Operand.tmp 112)), args := #[(Operand.tmp 116), (Operand.tmp 121)], argTypes := #[33, 33] }), none, ann0⟩,
  ⟨(some 123), (Op.binOp BinOp.lss 3 (Operand.tmp 122) (Operand.const (Value.int IntKind.i64 0)) 3), none, ann0⟩,
  ⟨(some 124), (Op.unOp UnOp.not 4 (Operand.tmp 123)), none, ann0⟩] (some [0, 0, 0, 6, 14, 0, 0, 64, 224, 480, 1023, 2047, 4095])) (.tidy [0, 1, 2, 3, 9, 10, 12, 124] z (z + 0)))
 (.cond (Operand.tmp 124) (.exit 6)
 .skip)) (.tidy [0, 1, 2, 3, 9, 10, 12] z (z + 0)))
 (.reg [⟨(some 125), (Op.move (Operand.tmp 0)), none, ann0⟩,
  ⟨(some 126), (Op.move (Operand.tmp 12)), none, ann0⟩,
  ⟨(some 127), (Op.move (Operand.tmp 0)), none, ann0⟩,
  ⟨(some 128), (Op.move (Operand.tmp 12)), none, ann0⟩,
  ⟨(some 129), (Op.binOp BinOp.sub 3 (Operand.tmp 128) (Operand.const (Value.int IntKind.i64 1)) 3), none, ann0⟩,
  ⟨(some 130), (Op.move (Operand.tmp 0)), none, ann0⟩,
  ⟨(some 131), (Op.move (Operand.tmp 12)), none, ann0⟩,
  ⟨(some 132), (Op.binOp BinOp.sub 3 (Operand.tmp 131) (Operand.const (Value.int IntKind.i64 1)) 3), none, ann0⟩,
  ⟨(some 133), (Op.indexAddr 23 (Operand.tmp 130) (Operand.tmp 132)), none, ann0⟩,
  ⟨(some 134), (Op.load 33 (Operand.tmp 133)), none, ann0⟩,
  ⟨(some 135), (Op.move (Operand.tmp 0)), none, ann0⟩,
  ⟨(some 136), (Op.move (Operand.tmp 12)), none, ann0⟩,
  ⟨(some 137), (Op.indexAddr 23 (Operand.tmp 135) (Operand.tmp 136)), none, ann0⟩,
  ⟨(some 138), (Op.load 33 (Operand.tmp 137)), none, ann0⟩,
  ⟨(some 139), (Op.indexAddr 23 (Operand.tmp 125) (Operand.tmp 126)), none, ann0⟩,
  ⟨none, (Op.store 33 (Operand.tmp 139) (Operand.tmp 134)), none, ann0⟩,
  ⟨(some 140), (Op.indexAddr 23 (Operand.tmp 127) (Operand.tmp 129)), none, ann0⟩,
  ⟨none, (Op.store 33 (Operand.tmp 140) (Operand.tmp 138)), none, ann0⟩] (some [0, 0, 0, 0, 8, 0, 0, 64, 224, 480, 0, 0, 3072, 7168, 16355, 32739, 65535, 131071])))) (.tidy [0, 1, 2, 3, 9, 10, 12] z (z + 0)))
 (.reg [⟨(some 110), (Op.move (Operand.tmp 12)), none, ann0⟩,
  ⟨(some 111), (Op.binOp BinOp.add 3 (Operand.tmp 110) (Operand.const (Value.int IntKind.i64 1)) 3), none, ann0⟩,
  ⟨(some 12), (Op.assign (Operand.tmp 111)), none, ann0⟩] none))) (.tidy [0, 1, 2, 3, 9, 10, 12] z (z + 0))
def s87_4 (z : Nat) : SC := c87_4 z
theorem e87_4 {C : Pg} {z : Nat} {st : St} {ks : List Fr} {K : Ex → St → Prop} : wpk C (s87_4 z) st ks K ↔ wpk C (c87_4 z) st ks K := Iff.rfl
def c87_1 (z : Nat) : SC := .post (.seq (.post (.seq (.reg [⟨(some 15), (Op.move (Operand.tmp 10)), none, ann0⟩,
  ⟨(some 16), (Op.binOp BinOp.lss 3 (Operand.tmp 15) (Operand.const (Value.int IntKind.i64 5)) 3), none, ann0⟩] none)
 (.cond (Operand.tmp 16) .skip
 (.exit 0))) (.tidy [0, 1, 2, 3, 9, 10] z (z + 0)))
 (.seq (.post (.block 1 (.seq (.post (.block 2 (.pre (.tidy [0, 1, 2, 3, 9, 10] z (z + 0)) (.loop (s87_2 z)))) (.tidy [0, 1, 2, 3, 9, 10] z (z + 0)))
 (.seq (.seq (.post (.reg [⟨(some 39), (Op.move (Operand.tmp 9)), none, ann0⟩,
  ⟨(some 40), (Op.move (Operand.tmp 2)), none, ann0⟩,
  ⟨(some 41), (Op.binOp BinOp.eql 3 (Operand.tmp 39) (Operand.tmp 40) 3), none, ann0⟩] none) (.tidy [0, 1, 2, 3, 9, 10, 41] z (z + 0)))
 (.cond (Operand.tmp 41) (.seq (.reg [⟨(some 8), (Op.assign (Operand.const (Value.bool true))), none, ann0⟩] none)
 .ret)
 .skip))
 (.seq (.seq (.post (.reg [⟨(some 42), (Op.move (Operand.tmp 2)), none, ann0⟩,
  ⟨(some 43), (Op.move (Operand.tmp 1)), none, ann0⟩,
  ⟨(some 44), (Op.binOp BinOp.sub 3 (Operand.tmp 42) (Operand.tmp 43) 3), none, ann0⟩,
  ⟨(some 45), (Op.binOp BinOp.lss 3 (Operand.tmp 44) (Operand.const (Value.int IntKind.i64 50)) 3), none, ann0⟩] none) (.tidy [0, 1, 2, 3, 9, 10, 45] z (z + 0)))
 (.cond (Operand.tmp 45) (.seq (.reg [⟨(some 8), (Op.assign (Operand.const (Value.bool false))), none, ann0⟩] none)
 .ret)
 .skip))
 (.seq (.post (.reg [⟨(some 46), (Op.move (Operand.tmp 0)), none, ann0⟩,
  ⟨(some 47), (Op.move (Operand.tmp 9)), none, ann0⟩,
  ⟨(some 48), (Op.move (Operand.tmp 0)), none, ann0⟩,
  ⟨(some 49), (Op.move (Operand.tmp 9)), none, ann0⟩,
  ⟨(some 50), (Op.binOp BinOp.sub 3 (Operand.tmp 49) (Operand.const (Value.int IntKind.i64 1)) 3), none, ann0⟩,
  ⟨(some 51), (Op.move (Operand.tmp 0)), none, ann0⟩,
  ⟨(some 52), (Op.move (Operand.tmp 9)), none, ann0⟩,
  ⟨(some 53), (Op.binOp BinOp.sub 3 (Operand.tmp 52) (Operand.const (Value.int IntKind.i64 1)) 3), none, ann0⟩,
  ⟨(some 54), (Op.indexAddr 23 (Operand.tmp 51) (Operand.tmp 53)), none, ann0⟩,
  ⟨(some 55), (Op.load 33 (Operand.tmp 54)), none, ann0⟩,
  ⟨(some 56), (Op.move (Operand.tmp 0)), none, ann0⟩,
  ⟨(some 57), (Op.move (Operand.tmp 9)), none, ann0⟩,
  ⟨(some 58), (Op.indexAddr 23 (Operand.tmp 56) (Operand.tmp 57)), none, ann0⟩,
  ⟨(some 59), (Op.load 33 (Operand.tmp 58)), none, ann0⟩,
  ⟨(some 60), (Op.indexAddr 23 (Operand.tmp 46) (Operand.tmp 47)), none, ann0⟩,
  ⟨none, (Op.store 33 (Operand.tmp 60) (Operand.tmp 55)), none, ann0⟩,
  ⟨(some 61), (Op.indexAddr 23 (Operand.tmp 48) (Operand.tmp 50)), none, ann0⟩,
  ⟨none, (Op.store 33 (Operand.tmp 61) (Operand.tmp 59)), none, ann0⟩] (some [0, 0, 0, 0, 8, 0, 0, 64, 224, 480, 0, 0, 3072, 7168, 16355, 32739, 65535, 131071])) (.tidy [0, 1, 2, 3, 9, 10] z (z + 0)))
 (.seq (.post (.seq (.reg [⟨(some 62), (Op.move (Operand.tmp 9)), none, ann0⟩,
  ⟨(some 63), (Op.move (Operand.tmp 1)), none, ann0⟩,
  ⟨(some 64), (Op.binOp BinOp.sub 3 (Operand.tmp 62) (Operand.tmp 63) 3), none, ann0⟩,
  ⟨(some 65), (Op.binOp BinOp.geq 3 (Operand.tmp 64) (Operand.const (Value.int IntKind.i64 2)) 3), none, ann0⟩] none)
 (.cond (Operand.tmp 65) (.seq (.reg [⟨(some 66), (Op.move (Operand.tmp 9)), none, ann0⟩,
  ⟨(some 67), (Op.binOp BinOp.sub 3 (Operand.tmp 66) (Operand.const (Value.int IntKind.i64 1)) 3), none, ann0⟩,
  ⟨(some 11), (Op.assign (Operand.tmp 67)), none, ann0⟩] none)
 (.post (.block 4 (.pre (.tidy [0, 1, 2, 3, 9, 10, 11] z (z + 0)) (.loop (s87_3 z)))) (.tidy [0, 1, 2, 3, 9, 10] z (z + 0))))
 .skip)) (.tidy [0, 1, 2, 3, 9, 10] z (z + 0)))
 (.seq (.reg [⟨(some 101), (Op.move (Operand.tmp 2)), none, ann0⟩,
  ⟨(some 102), (Op.move (Operand.tmp 9)), none, ann0⟩,
  ⟨(some 103), (Op.binOp BinOp.sub 3 (Operand.tmp 101) (Operand.tmp 102) 3), none, ann0⟩,
  ⟨(some 104), (Op.binOp BinOp.geq 3 (Operand.tmp 103) (Operand.const (Value.int IntKind.i64 2)) 3), none, ann0⟩] none)
 (.cond (Operand.tmp 104) (.seq (.reg [⟨(some 105), (Op.move (Operand.tmp 9)), none, ann0⟩,
  ⟨(some 106), (Op.binOp BinOp.add 3 (Operand.tmp 105) (Operand.const (Value.int IntKind.i64 1)) 3), none, ann0⟩,
  ⟨(some 12), (Op.assign (Operand.tmp 106)), none, ann0⟩] none)
 (.post (.block 6 (.pre (.tidy [0, 1, 2, 3, 9, 10, 12] z (z + 0)) (.loop (s87_4 z)))) (.tidy [0, 1, 2, 3, 9, 10] z (z + 0))))
 .skip)))))))) (.tidy [0, 1, 2, 3, 9, 10] z (z + 0)))
 (.reg [⟨(some 17), (Op.move (Operand.tmp 10)), none, ann0⟩,
  ⟨(some 18), (Op.binOp BinOp.add 3 (Operand.tmp 17) (Operand.const (Value.int IntKind.i64 1)) 3), none, ann0⟩,
  ⟨(some 10), (Op.assign (Operand.tmp 18)), none, ann0⟩] none))) (.tidy [0, 1, 2, 3, 9, 10] z (z + 0))
def s87_1 (z : Nat) : SC := c87_1 z
theorem e87_1 {C : Pg} {z : Nat} {st : St} {ks : List Fr} {K : Ex → St → Prop} : wpk C (s87_1 z) st ks K ↔ wpk C (c87_1 z) st ks K := Iff.rfl
def s87 (z : Nat) : SFn := ⟨4, 141, [(ResultVar.tmp 8)],
 (.seq (.reg [⟨(some 8), (Op.assign (Operand.const (Value.bool false))), none, ann0⟩] none)
 (.seq (.reg [⟨(some 13), (Op.move (Operand.tmp 1)), none, ann0⟩,
  ⟨(some 14), (Op.binOp BinOp.add 3 (Operand.tmp 13) (Operand.const (Value.int IntKind.i64 1)) 3), none, ann0⟩,
  ⟨(some 9), (Op.assign (Operand.tmp 14)), none, ann0⟩] none)
 (.seq (.post (.seq (.reg [⟨(some 10), (Op.assign (Operand.const (Value.int IntKind.i64 0))), none, ann0⟩] none)
 (.post (.block 0 (.pre (.tidy [0, 1, 2, 3, 9, 10] z (z + 0)) (.loop (s87_1 z)))) (.tidy [] z (z + 0)))) (.tidy [] z (z + 0)))
 (.seq (.reg [⟨(some 8), (Op.assign (Operand.const (Value.bool false))), none, ann0⟩] none)
 .ret))))⟩
theorem F87 (z : Nat) : FOk Try.prog 87 (s87 z) := by unfold FOk; kernel_rfl
def c88_2 (z : Nat) : SC := .post (.seq (.post (.seq (.post (.reg [⟨(some 31), (Op.move (Operand.tmp 11)), none, ann0⟩,
  ⟨(some 32), (Op.move (Operand.tmp 12)), none, ann0⟩,
  ⟨(some 33), (Op.binOp BinOp.leq 3 (Operand.tmp 31) (Operand.tmp 32) 3), none, ann0⟩,
  ⟨(some 34), (Op.move (Operand.tmp 33)), none, ann0⟩,
  ⟨(some 35), (Op.move (Operand.tmp 4)), (some (34, true)), ann0⟩,
  ⟨(some 36), (Op.move (Operand.tmp 0)), (some (34, true)), ann0⟩,
  ⟨(some 37), (Op.move (Operand.tmp 1)), (some (34, true)), ann0⟩,
  ⟨(some 38), (Op.indexAddr 23 (Operand.tmp 36) (Operand.tmp 37)), (some (34, true)), ann0⟩,
  ⟨(some 39), (Op.load 33 (Operand.tmp 38)), (some (34, true)), ann0⟩,
  ⟨(some 40), (Op.move (Operand.tmp 0)), (some (34, true)), ann0⟩,
  ⟨(some 41), (Op.move (Operand.tmp 11)), (some (34, true)), ann0⟩,
  ⟨(some 42), (Op.indexAddr 23 (Operand.tmp 40) (Operand.tmp 41)), (some (34, true)), ann0⟩,
  ⟨(some 43), (Op.load 33 (Operand.tmp 42)), (some (34, true)), ann0⟩,
  ⟨(some 44), (Op.call { callee := (Callee.value (Operand.tmp 35)), args := #[(Operand.tmp 39), (Operand.tmp 43)], argTypes := #[33, 33] }), (some (34, true)), ann0⟩,
  ⟨(some 45), (Op.binOp BinOp.lss 3 (Operand.tmp 44) (Operand.const (Value.int IntKind.i64 0)) 3), (some (34, true)), ann0⟩,
  ⟨(some 46), (Op.unOp UnOp.not 4 (Operand.tmp 45)), (some (34, true)), ann0⟩,
  ⟨(some 47), (Op.pick (Operand.tmp 34) (Operand.tmp 46) (Operand.const (Value.bool false))), none, ann0⟩] (some [0, 0, 3, 7, 15, 15, 15, 111, 239, 15, 15, 1551, 3599, 8191, 16383, 32767, 65535])) (.tidy [0, 1, 4, 11, 12, 47] z (z + 0)))
 (.cond (Operand.tmp 47) .skip
 (.exit 2))) (.tidy [0, 1, 4, 11, 12] z (z + 0)))
 (.block 3 (.reg [⟨(some 48), (Op.move (Operand.tmp 11)), none, ann0⟩,
  ⟨(some 49), (Op.binOp BinOp.add 3 (Operand.tmp 48) (Operand.const (Value.int IntKind.i64 1)) 3), none, ann0⟩,
  ⟨(some 11), (Op.assign (Operand.tmp 49)), none, ann0⟩] none))) (.tidy [0, 1, 4, 11, 12] z (z + 0))
def s88_2 (z : Nat) : SC := c88_2 z
theorem e88_2 {C : Pg} {z : Nat} {st : St} {ks : List Fr} {K : Ex → St → Prop} : wpk C (s88_2 z) st ks K ↔ wpk C (c88_2 z) st ks K := Iff.rfl
def c88_3 (z : Nat) : SC := .post (.seq (.post (.seq (.post (.reg [⟨(some 50), (Op.move (Operand.tmp 11)), none, ann0⟩,
  ⟨(some 51), (Op.move (Operand.tmp 12)), none, ann0⟩,
  ⟨(some 52), (Op.binOp BinOp.leq 3 (Operand.tmp 50) (Operand.tmp 51) 3), none, ann0⟩,
  ⟨(some 53), (Op.move (Operand.tmp 52)), none, ann0⟩,
  ⟨(some 54), (Op.move (Operand.tmp 4)), (some (53, true)), ann0⟩,
  ⟨(some 55), (Op.move (Operand.tmp 0)), (some (53, true)), ann0⟩,
  ⟨(some 56), (Op.move (Operand.tmp 1)), (some (53, true)), ann0⟩,
  ⟨(some 57), (Op.indexAddr 23 (Operand.tmp 55) (Operand.tmp 56)), (some (53, true)), ann0⟩,
  ⟨(some 58), (Op.load 33 (Operand.tmp 57)), (some (53, true)), ann0⟩,
  ⟨(some 59), (Op.move (Operand.tmp 0)), (some (53, true)), ann0⟩,
  ⟨(some 60), (Op.move (Operand.tmp 12)), (some (53, true)), ann0⟩,
  ⟨(some 61), (Op.indexAddr 23 (Operand.tmp 59) (Operand.tmp 60)), (some (53, true)), ann0⟩,
  ⟨(some 62), (Op.load 33 (Operand.tmp 61)), (some (53, true)), ann0⟩,
  ⟨(some 63), (Op.call { callee := (Callee.value (Operand.tmp 54)), args := #[(Operand.tmp 58), (Operand.tmp 62)], argTypes := #[33, 33] }), (some (53, true)), ann0⟩,
  ⟨(some 64), (Op.binOp BinOp.lss 3 (Operand.tmp 63) (Operand.const (Value.int IntKind.i64 0)) 3), (some (53, true)), ann0⟩,
  ⟨(some 65), (Op.pick (Operand.tmp 53) (Operand.tmp 64) (Operand.const (Value.bool false))), none, ann0⟩] (some [0, 0, 3, 7, 15, 15, 15, 111, 239, 15, 15, 1551, 3599, 8191, 16383, 32767])) (.tidy [0, 1, 4, 11, 12, 65] z (z + 0)))
 (.cond (Operand.tmp 65) .skip
 (.exit 4))) (.tidy [0, 1, 4, 11, 12] z (z + 0)))
 (.block 5 (.reg [⟨(some 66), (Op.move (Operand.tmp 12)), none, ann0⟩,
  ⟨(some 67), (Op.binOp BinOp.sub 3 (Operand.tmp 66) (Operand.const (Value.int IntKind.i64 1)) 3), none, ann0⟩,
  ⟨(some 12), (Op.assign (Operand.tmp 67)), none, ann0⟩] none))) (.tidy [0, 1, 4, 11, 12] z (z + 0))
def s88_3 (z : Nat) : SC := c88_3 z
theorem e88_3 {C : Pg} {z : Nat} {st : St} {ks : List Fr} {K : Ex → St → Prop} : wpk C (s88_3 z) st ks K ↔ wpk C (c88_3 z) st ks K := Iff.rfl
def c88_1 (z : Nat) : SC := .post (.post (.block 1 (.seq (.post (.block 2 (.pre (.tidy [0, 1, 4, 11, 12] z (z + 0)) (.loop (s88_2 z)))) (.tidy [0, 1, 4, 11, 12] z (z + 0)))
 (.seq (.post (.block 4 (.pre (.tidy [0, 1, 4, 11, 12] z (z + 0)) (.loop (s88_3 z)))) (.tidy [0, 1, 4, 11, 12] z (z + 0)))
 (.seq (.seq (.post (.reg [⟨(some 68), (Op.move (Operand.tmp 11)), none, ann0⟩,
  ⟨(some 69), (Op.move (Operand.tmp 12)), none, ann0⟩,
  ⟨(some 70), (Op.binOp BinOp.gtr 3 (Operand.tmp 68) (Operand.tmp 69) 3), none, ann0⟩] none) (.tidy [0, 1, 4, 11, 12, 70] z (z + 0)))
 (.cond (Operand.tmp 70) (.exit 0)
 .skip))
 (.seq (.post (.reg [⟨(some 71), (Op.move (Operand.tmp 0)), none, ann0⟩,
  ⟨(some 72), (Op.move (Operand.tmp 11)), none, ann0⟩,
  ⟨(some 73), (Op.move (Operand.tmp 0)), none, ann0⟩,
  ⟨(some 74), (Op.move (Operand.tmp 12)), none, ann0⟩,
  ⟨(some 75), (Op.move (Operand.tmp 0)), none, ann0⟩,
  ⟨(some 76), (Op.move (Operand.tmp 12)), none, ann0⟩,
  ⟨(some 77), (Op.indexAddr 23 (Operand.tmp 75) (Operand.tmp 76)), none, ann0⟩,
  ⟨(some 78), (Op.load 33 (Operand.tmp 77)), none, ann0⟩,
  ⟨(some 79), (Op.move (Operand.tmp 0)), none, ann0⟩,
  ⟨(some 80), (Op.move (Operand.tmp 11)), none, ann0⟩,
  ⟨(some 81), (Op.indexAddr 23 (Operand.tmp 79) (Operand.tmp 80)), none, ann0⟩,
  ⟨(some 82), (Op.load 33 (Operand.tmp 81)), none, ann0⟩,
  ⟨(some 83), (Op.indexAddr 23 (Operand.tmp 71) (Operand.tmp 72)), none, ann0⟩,
  ⟨none, (Op.store 33 (Operand.tmp 83) (Operand.tmp 78)), none, ann0⟩,
  ⟨(some 84), (Op.indexAddr 23 (Operand.tmp 73) (Operand.tmp 74)), none, ann0⟩,
  ⟨none, (Op.store 33 (Operand.tmp 84) (Operand.tmp 82)), none, ann0⟩] (some [0, 0, 0, 0, 0, 0, 48, 112, 0, 0, 768, 1792, 4083, 8179, 16383, 32767])) (.tidy [0, 1, 4, 11, 12] z (z + 0)))
 (.seq (.reg [⟨(some 85), (Op.move (Operand.tmp 11)), none, ann0⟩,
  ⟨(some 86), (Op.binOp BinOp.add 3 (Operand.tmp 85) (Operand.const (Value.int IntKind.i64 1)) 3), none, ann0⟩,
  ⟨(some 11), (Op.assign (Operand.tmp 86)), none, ann0⟩] none)
 (.reg [⟨(some 87), (Op.move (Operand.tmp 12)), none, ann0⟩,
  ⟨(some 88), (Op.binOp BinOp.sub 3 (Operand.tmp 87) (Operand.const (Value.int IntKind.i64 1)) 3), none, ann0⟩,
  ⟨(some 12), (Op.assign (Operand.tmp 88)), none, ann0⟩] none))))))) (.tidy [0, 1, 4, 11, 12] z (z + 0))) (.tidy [0, 1, 4, 11, 12] z (z + 0))
def s88_1 (z : Nat) : SC := c88_1 z
theorem e88_1 {C : Pg} {z : Nat} {st : St} {ks : List Fr} {K : Ex → St → Prop} : wpk C (s88_1 z) st ks K ↔ wpk C (c88_1 z) st ks K := Iff.rfl
def s88 (z : Nat) : SFn := ⟨5, 90, [(ResultVar.tmp 10)],
 (.seq (.reg [⟨(some 10), (Op.assign (Operand.const (Value.int IntKind.i64 0))), none, ann0⟩] none)
 (.seq (.post (.reg [⟨(some 13), (Op.move (Operand.tmp 0)), none, ann0⟩,
  ⟨(some 14), (Op.move (Operand.tmp 1)), none, ann0⟩,
  ⟨(some 15), (Op.move (Operand.tmp 0)), none, ann0⟩,
  ⟨(some 16), (Op.move (Operand.tmp 3)), none, ann0⟩,
  ⟨(some 17), (Op.move (Operand.tmp 0)), none, ann0⟩,
  ⟨(some 18), (Op.move (Operand.tmp 3)), none, ann0⟩,
  ⟨(some 19), (Op.indexAddr 23 (Operand.tmp 17) (Operand.tmp 18)), none, ann0⟩,
  ⟨(some 20), (Op.load 33 (Operand.tmp 19)), none, ann0⟩,
  ⟨(some 21), (Op.move (Operand.tmp 0)), none, ann0⟩,
  ⟨(some 22), (Op.move (Operand.tmp 1)), none, ann0⟩,
  ⟨(some 23), (Op.indexAddr 23 (Operand.tmp 21) (Operand.tmp 22)), none, ann0⟩,
  ⟨(some 24), (Op.load 33 (Operand.tmp 23)), none, ann0⟩,
  ⟨(some 25), (Op.indexAddr 23 (Operand.tmp 13) (Operand.tmp 14)), none, ann0⟩,
  ⟨none, (Op.store 33 (Operand.tmp 25) (Operand.tmp 20)), none, ann0⟩,
  ⟨(some 26), (Op.indexAddr 23 (Operand.tmp 15) (Operand.tmp 16)), none, ann0⟩,
  ⟨none, (Op.store 33 (Operand.tmp 26) (Operand.tmp 24)), none, ann0⟩] (some [0, 0, 0, 0, 0, 0, 48, 112, 0, 0, 768, 1792, 4083, 8179, 16383, 32767])) (.tidy [0, 1, 2, 4] z (z + 0)))
 (.seq (.reg [⟨(some 27), (Op.move (Operand.tmp 1)), none, ann0⟩,
  ⟨(some 28), (Op.binOp BinOp.add 3 (Operand.tmp 27) (Operand.const (Value.int IntKind.i64 1)) 3), none, ann0⟩,
  ⟨(some 29), (Op.move (Operand.tmp 2)), none, ann0⟩,
  ⟨(some 30), (Op.binOp BinOp.sub 3 (Operand.tmp 29) (Operand.const (Value.int IntKind.i64 1)) 3), none, ann0⟩,
  ⟨(some 11), (Op.assign (Operand.tmp 28)), none, ann0⟩,
  ⟨(some 12), (Op.assign (Operand.tmp 30)), none, ann0⟩] none)
 (.seq (.post (.block 0 (.pre (.tidy [0, 1, 4, 11, 12] z (z + 0)) (.loop (s88_1 z)))) (.tidy [11] z (z + 0)))
 (.seq (.reg [⟨(some 89), (Op.move (Operand.tmp 11)), none, ann0⟩,
  ⟨(some 10), (Op.assign (Operand.tmp 89)), none, ann0⟩] none)
 .ret)))))⟩
theorem F88 (z : Nat) : FOk Try.prog 88 (s88 z) := by unfold FOk; kernel_rfl
def c89_1 (z : Nat) : SC := .post (.seq (.post (.seq (.post (.reg [⟨(some 32), (Op.move (Operand.tmp 12)), none, ann0⟩,
  ⟨(some 33), (Op.move (Operand.tmp 13)), none, ann0⟩,
  ⟨(some 34), (Op.binOp BinOp.leq 3 (Operand.tmp 32) (Operand.tmp 33) 3), none, ann0⟩,
  ⟨(some 35), (Op.move (Operand.tmp 34)), none, ann0⟩,
  ⟨(some 36), (Op.move (Operand.tmp 4)), (some (35, true)), ann0⟩,
  ⟨(some 37), (Op.move (Operand.tmp 0)), (some (35, true)), ann0⟩,
  ⟨(some 38), (Op.move (Operand.tmp 12)), (some (35, true)), ann0⟩,
  ⟨(some 39), (Op.indexAddr 23 (Operand.tmp 37) (Operand.tmp 38)), (some (35, true)), ann0⟩,
  ⟨(some 40), (Op.load 33 (Operand.tmp 39)), (some (35, true)), ann0⟩,
  ⟨(some 41), (Op.move (Operand.tmp 0)), (some (35, true)), ann0⟩,
  ⟨(some 42), (Op.move (Operand.tmp 1)), (some (35, true)), ann0⟩,
  ⟨(some 43), (Op.indexAddr 23 (Operand.tmp 41) (Operand.tmp 42)), (some (35, true)), ann0⟩,
  ⟨(some 44), (Op.load 33 (Operand.tmp 43)), (some (35, true)), ann0⟩,
  ⟨(some 45), (Op.call { callee := (Callee.value (Operand.tmp 36)), args := #[(Operand.tmp 40), (Operand.tmp 44)], argTypes := #[33, 33] }), (some (35, true)), ann0⟩,
  ⟨(some 46), (Op.binOp BinOp.lss 3 (Operand.tmp 45) (Operand.const (Value.int IntKind.i64 0)) 3), (some (35, true)), ann0⟩,
  ⟨(some 47), (Op.pick (Operand.tmp 35) (Operand.tmp 46) (Operand.const (Value.bool false))), none, ann0⟩] (some [0, 0, 3, 7, 15, 15, 15, 111, 239, 15, 15, 1551, 3599, 8191, 16383, 32767])) (.tidy [0, 1, 4, 12, 13, 47] z (z + 0)))
 (.cond (Operand.tmp 47) .skip
 (.exit 0))) (.tidy [0, 1, 4, 12, 13] z (z + 0)))
 (.block 1 (.reg [⟨(some 48), (Op.move (Operand.tmp 12)), none, ann0⟩,
  ⟨(some 49), (Op.binOp BinOp.add 3 (Operand.tmp 48) (Operand.const (Value.int IntKind.i64 1)) 3), none, ann0⟩,
  ⟨(some 12), (Op.assign (Operand.tmp 49)), none, ann0⟩] none))) (.tidy [0, 1, 4, 12, 13] z (z + 0))
def s89_1 (z : Nat) : SC := c89_1 z
theorem e89_1 {C : Pg} {z : Nat} {st : St} {ks : List Fr} {K : Ex → St → Prop} : wpk C (s89_1 z) st ks K ↔ wpk C (c89_1 z) st ks K := Iff.rfl
def c89_2 (z : Nat) : SC := .post (.seq (.post (.seq (.post (.reg [⟨(some 50), (Op.move (Operand.tmp 12)), none, ann0⟩,
  ⟨(some 51), (Op.move (Operand.tmp 13)), none, ann0⟩,
  ⟨(some 52), (Op.binOp BinOp.leq 3 (Operand.tmp 50) (Operand.tmp 51) 3), none, ann0⟩,
  ⟨(some 53), (Op.move (Operand.tmp 52)), none, ann0⟩,
  ⟨(some 54), (Op.move (Operand.tmp 4)), (some (53, true)), ann0⟩,
  ⟨(some 55), (Op.move (Operand.tmp 0)), (some (53, true)), ann0⟩,
  ⟨(some 56), (Op.move (Operand.tmp 13)), (some (53, true)), ann0⟩,
  ⟨(some 57), (Op.indexAddr 23 (Operand.tmp 55) (Operand.tmp 56)), (some (53, true)), ann0⟩,
  ⟨(some 58), (Op.load 33 (Operand.tmp 57)), (some (53, true)), ann0⟩,
  ⟨(some 59), (Op.move (Operand.tmp 0)), (some (53, true)), ann0⟩,
  ⟨(some 60), (Op.move (Operand.tmp 1)), (some (53, true)), ann0⟩,
  ⟨(some 61), (Op.indexAddr 23 (Operand.tmp 59) (Operand.tmp 60)), (some (53, true)), ann0⟩,
  ⟨(some 62), (Op.load 33 (Operand.tmp 61)), (some (53, true)), ann0⟩,
  ⟨(some 63), (Op.call { callee := (Callee.value (Operand.tmp 54)), args := #[(Operand.tmp 58), (Operand.tmp 62)], argTypes := #[33, 33] }), (some (53, true)), ann0⟩,
  ⟨(some 64), (Op.binOp BinOp.lss 3 (Operand.tmp 63) (Operand.const (Value.int IntKind.i64 0)) 3), (some (53, true)), ann0⟩,
  ⟨(some 65), (Op.unOp UnOp.not 4 (Operand.tmp 64)), (some (53, true)), ann0⟩,
  ⟨(some 66), (Op.pick (Operand.tmp 53) (Operand.tmp 65) (Operand.const (Value.bool false))), none, ann0⟩] (some [0, 0, 3, 7, 15, 15, 15, 111, 239, 15, 15, 1551, 3599, 8191, 16383, 32767, 65535])) (.tidy [0, 1, 4, 12, 13, 66] z (z + 0)))
 (.cond (Operand.tmp 66) .skip
 (.exit 2))) (.tidy [0, 1, 4, 12, 13] z (z + 0)))
 (.block 3 (.reg [⟨(some 67), (Op.move (Operand.tmp 13)), none, ann0⟩,
  ⟨(some 68), (Op.binOp BinOp.sub 3 (Operand.tmp 67) (Operand.const (Value.int IntKind.i64 1)) 3), none, ann0⟩,
  ⟨(some 13), (Op.assign (Operand.tmp 68)), none, ann0⟩] none))) (.tidy [0, 1, 4, 12, 13] z (z + 0))
def s89_2 (z : Nat) : SC := c89_2 z
theorem e89_2 {C : Pg} {z : Nat} {st : St} {ks : List Fr} {K : Ex → St → Prop} : wpk C (s89_2 z) st ks K ↔ wpk C (c89_2 z) st ks K := Iff.rfl
def c89_4 (z : Nat) : SC := .post (.seq (.post (.seq (.post (.reg [⟨(some 105), (Op.move (Operand.tmp 12)), none, ann0⟩,
  ⟨(some 106), (Op.move (Operand.tmp 13)), none, ann0⟩,
  ⟨(some 107), (Op.binOp BinOp.leq 3 (Operand.tmp 105) (Operand.tmp 106) 3), none, ann0⟩,
  ⟨(some 108), (Op.move (Operand.tmp 107)), none, ann0⟩,
  ⟨(some 109), (Op.move (Operand.tmp 4)), (some (108, true)), ann0⟩,
  ⟨(some 110), (Op.move (Operand.tmp 0)), (some (108, true)), ann0⟩,
  ⟨(some 111), (Op.move (Operand.tmp 12)), (some (108, true)), ann0⟩,
  ⟨(some 112), (Op.indexAddr 23 (Operand.tmp 110) (Operand.tmp 111)), (some (108, true)), ann0⟩,
  ⟨(some 113), (Op.load 33 (Operand.tmp 112)), (some (108, true)), ann0⟩,
  ⟨(some 114), (Op.move (Operand.tmp 0)), (some (108, true)), ann0⟩,
  ⟨(some 115), (Op.move (Operand.tmp 1)), (some (108, true)), ann0⟩,
  ⟨(some 116), (Op.indexAddr 23 (Operand.tmp 114) (Operand.tmp 115)), (some (108, true)), ann0⟩,
  ⟨(some 117), (Op.load 33 (Operand.tmp 116)), (some (108, true)), ann0⟩,
  ⟨(some 118), (Op.call { callee := (Callee.value (Operand.tmp 109)), args := #[(Operand.tmp 113), (Operand.tmp 117)], argTypes := #[33, 33] }), (some (108, true)), ann0⟩,
  ⟨(some 119), (Op.binOp BinOp.lss 3 (Operand.tmp 118) (Operand.const (Value.int IntKind.i64 0)) 3), (some (108, true)), ann0⟩,
  ⟨(some 120), (Op.pick (Operand.tmp 108) (Operand.tmp 119) (Operand.const (Value.bool false))), none, ann0⟩] (some [0, 0, 3, 7, 15, 15, 15, 111, 239, 15, 15, 1551, 3599, 8191, 16383, 32767])) (.tidy [0, 1, 4, 12, 13, 120] z (z + 0)))
 (.cond (Operand.tmp 120) .skip
 (.exit 6))) (.tidy [0, 1, 4, 12, 13] z (z + 0)))
 (.block 7 (.reg [⟨(some 121), (Op.move (Operand.tmp 12)), none, ann0⟩,
  ⟨(some 122), (Op.binOp BinOp.add 3 (Operand.tmp 121) (Operand.const (Value.int IntKind.i64 1)) 3), none, ann0⟩,
  ⟨(some 12), (Op.assign (Operand.tmp 122)), none, ann0⟩] none))) (.tidy [0, 1, 4, 12, 13] z (z + 0))
def s89_4 (z : Nat) : SC := c89_4 z
theorem e89_4 {C : Pg} {z : Nat} {st : St} {ks : List Fr} {K : Ex → St → Prop} : wpk C (s89_4 z) st ks K ↔ wpk C (c89_4 z) st ks K := Iff.rfl
def c89_5 (z : Nat) : SC := .post (.seq (.post (.seq (.post (.reg [⟨(some 123), (Op.move (Operand.tmp 12)), none, ann0⟩,
  ⟨(some 124), (Op.move (Operand.tmp 13)), none, ann0⟩,
  ⟨(some 125), (Op.binOp BinOp.leq 3 (Operand.tmp 123) (Operand.tmp 124) 3), none, ann0⟩,
  ⟨(some 126), (Op.move (Operand.tmp 125)), none, ann0⟩,
  ⟨(some 127), (Op.move (Operand.tmp 4)), (some (126, true)), ann0⟩,
  ⟨(some 128), (Op.move (Operand.tmp 0)), (some (126, true)), ann0⟩,
  ⟨(some 129), (Op.move (Operand.tmp 13)), (some (126, true)), ann0⟩,
  ⟨(some 130), (Op.indexAddr 23 (Operand.tmp 128) (Operand.tmp 129)), (some (126, true)), ann0⟩,
  ⟨(some 131), (Op.load 33 (Operand.tmp 130)), (some (126, true)), ann0⟩,
  ⟨(some 132), (Op.move (Operand.tmp 0)), (some (126, true)), ann0⟩,
  ⟨(some 133), (Op.move (Operand.tmp 1)), (some (126, true)), ann0⟩,
  ⟨(some 134), (Op.indexAddr 23 (Operand.tmp 132) (Operand.tmp 133)), (some (126, true)), ann0⟩,
  ⟨(some 135), (Op.load 33 (Operand.tmp 134)), (some (126, true)), ann0⟩,
  ⟨(some 136), (Op.call { callee := (Callee.value (Operand.tmp 127)), args := #[(Operand.tmp 131), (Operand.tmp 135)], argTypes := #[33, 33] }), (some (126, true)), ann0⟩,
  ⟨(some 137), (Op.binOp BinOp.lss 3 (Operand.tmp 136) (Operand.const (Value.int IntKind.i64 0)) 3), (some (126, true)), ann0⟩,
  ⟨(some 138), (Op.unOp UnOp.not 4 (Operand.tmp 137)), (some (126, true)), ann0⟩,
  ⟨(some 139), (Op.pick (Operand.tmp 126) (Operand.tmp 138) (Operand.const (Value.bool false))), none, ann0⟩] (some [0, 0, 3, 7, 15, 15, 15, 111, 239, 15, 15, 1551, 3599, 8191, 16383, 32767, 65535])) (.tidy [0, 1, 4, 12, 13, 139] z (z + 0)))
 (.cond (Operand.tmp 139) .skip
 (.exit 8))) (.tidy [0, 1, 4, 12, 13] z (z + 0)))
 (.block 9 (.reg [⟨(some 140), (Op.move (Operand.tmp 13)), none, ann0⟩,
  ⟨(some 141), (Op.binOp BinOp.sub 3 (Operand.tmp 140) (Operand.const (Value.int IntKind.i64 1)) 3), none, ann0⟩,
  ⟨(some 13), (Op.assign (Operand.tmp 141)), none, ann0⟩] none))) (.tidy [0, 1, 4, 12, 13] z (z + 0))
def s89_5 (z : Nat) : SC := c89_5 z
theorem e89_5 {C : Pg} {z : Nat} {st : St} {ks : List Fr} {K : Ex → St → Prop} : wpk C (s89_5 z) st ks K ↔ wpk C (c89_5 z) st ks K := Iff.rfl
def c89_3 (z : Nat) : SC := .post (.post (.block 5 (.seq (.post (.block 6 (.pre (.tidy [0, 1, 4, 12, 13] z (z + 0)) (.loop (s89_4 z)))) (.tidy [0, 1, 4, 12, 13] z (z + 0)))
 (.seq (.post (.block 8 (.pre (.tidy [0, 1, 4, 12, 13] z (z + 0)) (.loop (s89_5 z)))) (.tidy [0, 1, 4, 12, 13] z (z + 0)))
 (.seq (.seq (.post (.reg [⟨(some 142), (Op.move (Operand.tmp 12)), none, ann0⟩,
  ⟨(some 143), (Op.move (Operand.tmp 13)), none, ann0⟩,
  ⟨(some 144), (Op.binOp BinOp.gtr 3 (Operand.tmp 142) (Operand.tmp 143) 3), none, ann0⟩] none) (.tidy [0, 1, 4, 12, 13, 144] z (z + 0)))
 (.cond (Operand.tmp 144) (.exit 4)
 .skip))
 (.seq (.post (.reg [⟨(some 145), (Op.move (Operand.tmp 0)), none, ann0⟩,
  ⟨(some 146), (Op.move (Operand.tmp 12)), none, ann0⟩,
  ⟨(some 147), (Op.move (Operand.tmp 0)), none, ann0⟩,
  ⟨(some 148), (Op.move (Operand.tmp 13)), none, ann0⟩,
  ⟨(some 149), (Op.move (Operand.tmp 0)), none, ann0⟩,
  ⟨(some 150), (Op.move (Operand.tmp 13)), none, ann0⟩,
  ⟨(some 151), (Op.indexAddr 23 (Operand.tmp 149) (Operand.tmp 150)), none, ann0⟩,
  ⟨(some 152), (Op.load 33 (Operand.tmp 151)), none, ann0⟩,
  ⟨(some 153), (Op.move (Operand.tmp 0)), none, ann0⟩,
  ⟨(some 154), (Op.move (Operand.tmp 12)), none, ann0⟩,
  ⟨(some 155), (Op.indexAddr 23 (Operand.tmp 153) (Operand.tmp 154)), none, ann0⟩,
  ⟨(some 156), (Op.load 33 (Operand.tmp 155)), none, ann0⟩,
  ⟨(some 157), (Op.indexAddr 23 (Operand.tmp 145) (Operand.tmp 146)), none, ann0⟩,
  ⟨none, (Op.store 33 (Operand.tmp 157) (Operand.tmp 152)), none, ann0⟩,
  ⟨(some 158), (Op.indexAddr 23 (Operand.tmp 147) (Operand.tmp 148)), none, ann0⟩,
  ⟨none, (Op.store 33 (Operand.tmp 158) (Operand.tmp 156)), none, ann0⟩] (some [0, 0, 0, 0, 0, 0, 48, 112, 0, 0, 768, 1792, 4083, 8179, 16383, 32767])) (.tidy [0, 1, 4, 12, 13] z (z + 0)))
 (.seq (.reg [⟨(some 159), (Op.move (Operand.tmp 12)), none, ann0⟩,
  ⟨(some 160), (Op.binOp BinOp.add 3 (Operand.tmp 159) (Operand.const (Value.int IntKind.i64 1)) 3), none, ann0⟩,
  ⟨(some 12), (Op.assign (Operand.tmp 160)), none, ann0⟩] none)
 (.reg [⟨(some 161), (Op.move (Operand.tmp 13)), none, ann0⟩,
  ⟨(some 162), (Op.binOp BinOp.sub 3 (Operand.tmp 161) (Operand.const (Value.int IntKind.i64 1)) 3), none, ann0⟩,
  ⟨(some 13), (Op.assign (Operand.tmp 162)), none, ann0⟩] none))))))) (.tidy [0, 1, 4, 12, 13] z (z + 0))) (.tidy [0, 1, 4, 12, 13] z (z + 0))
def s89_3 (z : Nat) : SC := c89_3 z
theorem e89_3 {C : Pg} {z : Nat} {st : St} {ks : List Fr} {K : Ex → St → Prop} : wpk C (s89_3 z) st ks K ↔ wpk C (c89_3 z) st ks K := Iff.rfl
def s89 (z : Nat) : SFn := ⟨5, 178, [(ResultVar.tmp 10), (ResultVar.tmp 11)],
 (.seq (.reg [⟨(some 10), (Op.assign (Operand.const (Value.int IntKind.i64 0))), none, ann0⟩,
  ⟨(some 11), (Op.assign (Operand.const (Value.bool false))), none, ann0⟩] none)
 (.seq (.post (.reg [⟨(some 14), (Op.move (Operand.tmp 0)), none, ann0⟩,
  ⟨(some 15), (Op.move (Operand.tmp 1)), none, ann0⟩,
  ⟨(some 16), (Op.move (Operand.tmp 0)), none, ann0⟩,
  ⟨(some 17), (Op.move (Operand.tmp 3)), none, ann0⟩,
  ⟨(some 18), (Op.move (Operand.tmp 0)), none, ann0⟩,
  ⟨(some 19), (Op.move (Operand.tmp 3)), none, ann0⟩,
  ⟨(some 20), (Op.indexAddr 23 (Operand.tmp 18) (Operand.tmp 19)), none, ann0⟩,
  ⟨(some 21), (Op.load 33 (Operand.tmp 20)), none, ann0⟩,
  ⟨(some 22), (Op.move (Operand.tmp 0)), none, ann0⟩,
  ⟨(some 23), (Op.move (Operand.tmp 1)), none, ann0⟩,
  ⟨(some 24), (Op.indexAddr 23 (Operand.tmp 22) (Operand.tmp 23)), none, ann0⟩,
  ⟨(some 25), (Op.load 33 (Operand.tmp 24)), none, ann0⟩,
  ⟨(some 26), (Op.indexAddr 23 (Operand.tmp 14) (Operand.tmp 15)), none, ann0⟩,
  ⟨none, (Op.store 33 (Operand.tmp 26) (Operand.tmp 21)), none, ann0⟩,
  ⟨(some 27), (Op.indexAddr 23 (Operand.tmp 16) (Operand.tmp 17)), none, ann0⟩,
  ⟨none, (Op.store 33 (Operand.tmp 27) (Operand.tmp 25)), none, ann0⟩] (some [0, 0, 0, 0, 0, 0, 48, 112, 0, 0, 768, 1792, 4083, 8179, 16383, 32767])) (.tidy [0, 1, 2, 4] z (z + 0)))
 (.seq (.reg [⟨(some 28), (Op.move (Operand.tmp 1)), none, ann0⟩,
  ⟨(some 29), (Op.binOp BinOp.add 3 (Operand.tmp 28) (Operand.const (Value.int IntKind.i64 1)) 3), none, ann0⟩,
  ⟨(some 30), (Op.move (Operand.tmp 2)), none, ann0⟩,
  ⟨(some 31), (Op.binOp BinOp.sub 3 (Operand.tmp 30) (Operand.const (Value.int IntKind.i64 1)) 3), none, ann0⟩,
  ⟨(some 12), (Op.assign (Operand.tmp 29)), none, ann0⟩,
  ⟨(some 13), (Op.assign (Operand.tmp 31)), none, ann0⟩] none)
 (.seq (.post (.block 0 (.pre (.tidy [0, 1, 4, 12, 13] z (z + 0)) (.loop (s89_1 z)))) (.tidy [0, 1, 4, 12, 13] z (z + 0)))
 (.seq (.post (.block 2 (.pre (.tidy [0, 1, 4, 12, 13] z (z + 0)) (.loop (s89_2 z)))) (.tidy [0, 1, 4, 12, 13] z (z + 0)))
 (.seq (.post (.seq (.post (.reg [⟨(some 69), (Op.move (Operand.tmp 12)), none, ann0⟩,
  ⟨(some 70), (Op.move (Operand.tmp 13)), none, ann0⟩,
  ⟨(some 71), (Op.binOp BinOp.gtr 3 (Operand.tmp 69) (Operand.tmp 70) 3), none, ann0⟩] none) (.tidy [0, 1, 4, 12, 13, 71] z (z + 0)))
 (.cond (Operand.tmp 71) (.seq (.post (.reg [⟨(some 72), (Op.move (Operand.tmp 0)), none, ann0⟩,
  ⟨(some 73), (Op.move (Operand.tmp 13)), none, ann0⟩,
  ⟨(some 74), (Op.move (Operand.tmp 0)), none, ann0⟩,
  ⟨(some 75), (Op.move (Operand.tmp 1)), none, ann0⟩,
  ⟨(some 76), (Op.move (Operand.tmp 0)), none, ann0⟩,
  ⟨(some 77), (Op.move (Operand.tmp 1)), none, ann0⟩,
  ⟨(some 78), (Op.indexAddr 23 (Operand.tmp 76) (Operand.tmp 77)), none, ann0⟩,
  ⟨(some 79), (Op.load 33 (Operand.tmp 78)), none, ann0⟩,
  ⟨(some 80), (Op.move (Operand.tmp 0)), none, ann0⟩,
  ⟨(some 81), (Op.move (Operand.tmp 13)), none, ann0⟩,
  ⟨(some 82), (Op.indexAddr 23 (Operand.tmp 80) (Operand.tmp 81)), none, ann0⟩,
  ⟨(some 83), (Op.load 33 (Operand.tmp 82)), none, ann0⟩,
  ⟨(some 84), (Op.indexAddr 23 (Operand.tmp 72) (Operand.tmp 73)), none, ann0⟩,
  ⟨none, (Op.store 33 (Operand.tmp 84) (Operand.tmp 79)), none, ann0⟩,
  ⟨(some 85), (Op.indexAddr 23 (Operand.tmp 74) (Operand.tmp 75)), none, ann0⟩,
  ⟨none, (Op.store 33 (Operand.tmp 85) (Operand.tmp 83)), none, ann0⟩] (some [0, 0, 0, 0, 0, 0, 48, 112, 0, 0, 768, 1792, 4083, 8179, 16383, 32767])) (.tidy [13] z (z + 0)))
 (.seq (.reg [⟨(some 86), (Op.move (Operand.tmp 13)), none, ann0⟩,
  ⟨(some 10), (Op.assign (Operand.tmp 86)), none, ann0⟩,
  ⟨(some 11), (Op.assign (Operand.const (Value.bool true))), none, ann0⟩] none)
 .ret))
 .skip)) (.tidy [0, 1, 4, 12, 13] z (z + 0)))
 (.seq (.post (.reg [⟨(some 87), (Op.move (Operand.tmp 0)), none, ann0⟩,
  ⟨(some 88), (Op.move (Operand.tmp 12)), none, ann0⟩,
  ⟨(some 89), (Op.move (Operand.tmp 0)), none, ann0⟩,
  ⟨(some 90), (Op.move (Operand.tmp 13)), none, ann0⟩,
  ⟨(some 91), (Op.move (Operand.tmp 0)), none, ann0⟩,
  ⟨(some 92), (Op.move (Operand.tmp 13)), none, ann0⟩,
  ⟨(some 93), (Op.indexAddr 23 (Operand.tmp 91) (Operand.tmp 92)), none, ann0⟩,
  ⟨(some 94), (Op.load 33 (Operand.tmp 93)), none, ann0⟩,
  ⟨(some 95), (Op.move (Operand.tmp 0)), none, ann0⟩,
  ⟨(some 96), (Op.move (Operand.tmp 12)), none, ann0⟩,
  ⟨(some 97), (Op.indexAddr 23 (Operand.tmp 95) (Operand.tmp 96)), none, ann0⟩,
  ⟨(some 98), (Op.load 33 (Operand.tmp 97)), none, ann0⟩,
  ⟨(some 99), (Op.indexAddr 23 (Operand.tmp 87) (Operand.tmp 88)), none, ann0⟩,
  ⟨none, (Op.store 33 (Operand.tmp 99) (Operand.tmp 94)), none, ann0⟩,
  ⟨(some 100), (Op.indexAddr 23 (Operand.tmp 89) (Operand.tmp 90)), none, ann0⟩,
  ⟨none, (Op.store 33 (Operand.tmp 100) (Operand.tmp 98)), none, ann0⟩] (some [0, 0, 0, 0, 0, 0, 48, 112, 0, 0, 768, 1792, 4083, 8179, 16383, 32767])) (.tidy [0, 1, 4, 12, 13] z (z + 0)))
 (.seq (.reg [⟨(some 101), (Op.move (Operand.tmp 12)), none, ann0⟩,
  ⟨(some 102), (Op.binOp BinOp.add 3 (Operand.tmp 101) (Operand.const (Value.int IntKind.i64 1)) 3), none, ann0⟩,
  ⟨(some 12), (Op.assign (Operand.tmp 102)), none, ann0⟩] none)
 (.seq (.reg [⟨(some 103), (Op.move (Operand.tmp 13)), none, ann0⟩,
  ⟨(some 104), (Op.binOp BinOp.sub 3 (Operand.tmp 103) (Operand.const (Value.int IntKind.i64 1)) 3), none, ann0⟩,
  ⟨(some 13), (Op.assign (Operand.tmp 104)), none, ann0⟩] none)
 (.seq (.post (.block 4 (.pre (.tidy [0, 1, 4, 12, 13] z (z + 0)) (.loop (s89_3 z)))) (.tidy [0, 1, 13] z (z + 0)))
 (.seq (.post (.reg [⟨(some 163), (Op.move (Operand.tmp 0)), none, ann0⟩,
  ⟨(some 164), (Op.move (Operand.tmp 13)), none, ann0⟩,
  ⟨(some 165), (Op.move (Operand.tmp 0)), none, ann0⟩,
  ⟨(some 166), (Op.move (Operand.tmp 1)), none, ann0⟩,
  ⟨(some 167), (Op.move (Operand.tmp 0)), none, ann0⟩,
  ⟨(some 168), (Op.move (Operand.tmp 1)), none, ann0⟩,
  ⟨(some 169), (Op.indexAddr 23 (Operand.tmp 167) (Operand.tmp 168)), none, ann0⟩,
  ⟨(some 170), (Op.load 33 (Operand.tmp 169)), none, ann0⟩,
  ⟨(some 171), (Op.move (Operand.tmp 0)), none, ann0⟩,
  ⟨(some 172), (Op.move (Operand.tmp 13)), none, ann0⟩,
  ⟨(some 173), (Op.indexAddr 23 (Operand.tmp 171) (Operand.tmp 172)), none, ann0⟩,
  ⟨(some 174), (Op.load 33 (Operand.tmp 173)), none, ann0⟩,
  ⟨(some 175), (Op.indexAddr 23 (Operand.tmp 163) (Operand.tmp 164)), none, ann0⟩,
  ⟨none, (Op.store 33 (Operand.tmp 175) (Operand.tmp 170)), none, ann0⟩,
  ⟨(some 176), (Op.indexAddr 23 (Operand.tmp 165) (Operand.tmp 166)), none, ann0⟩,
  ⟨none, (Op.store 33 (Operand.tmp 176) (Operand.tmp 174)), none, ann0⟩] (some [0, 0, 0, 0, 0, 0, 48, 112, 0, 0, 768, 1792, 4083, 8179, 16383, 32767])) (.tidy [13] z (z + 0)))
 (.seq (.reg [⟨(some 177), (Op.move (Operand.tmp 13)), none, ann0⟩,
  ⟨(some 10), (Op.assign (Operand.tmp 177)), none, ann0⟩,
  ⟨(some 11), (Op.assign (Operand.const (Value.bool false))), none, ann0⟩] none)
 .ret))))))))))))⟩
theorem F89 (z : Nat) : FOk Try.prog 89 (s89 z) := by unfold FOk; kernel_rfl
def s90 (z : Nat) : SFn := ⟨1, 19, [(ResultVar.tmp 2)],
 (.seq (.reg [⟨(some 2), (Op.assign (Operand.const (Value.int IntKind.i64 0))), none, ann0⟩] none)
 (.seq (.post (.seq (.reg [⟨(some 3), (Op.move (Operand.tmp 0)), none, ann0⟩,
  ⟨(some 4), (Op.binOp BinOp.geq 92 (Operand.tmp 3) (Operand.const (Value.int IntKind.u32 65536)) 92), none, ann0⟩] none)
 (.cond (Operand.tmp 4) (.seq (.reg [⟨(some 5), (Op.move (Operand.tmp 0)), none, ann0⟩,
  ⟨(some 6), (Op.binOp BinOp.shr 92 (Operand.tmp 5) (Operand.const (Value.int IntKind.u64 16)) 45), none, ann0⟩,
  ⟨(some 0), (Op.assign (Operand.tmp 6)), none, ann0⟩] none)
 (.reg [⟨(some 2), (Op.assign (Operand.const (Value.int IntKind.i64 16))), none, ann0⟩] none))
 .skip)) (.tidy [0, 2] z (z + 0)))
 (.seq (.post (.seq (.reg [⟨(some 7), (Op.move (Operand.tmp 0)), none, ann0⟩,
  ⟨(some 8), (Op.binOp BinOp.geq 92 (Operand.tmp 7) (Operand.const (Value.int IntKind.u32 256)) 92), none, ann0⟩] none)
 (.cond (Operand.tmp 8) (.seq (.reg [⟨(some 9), (Op.move (Operand.tmp 0)), none, ann0⟩,
  ⟨(some 10), (Op.binOp BinOp.shr 92 (Operand.tmp 9) (Operand.const (Value.int IntKind.u64 8)) 45), none, ann0⟩,
  ⟨(some 0), (Op.assign (Operand.tmp 10)), none, ann0⟩] none)
 (.reg [⟨(some 11), (Op.move (Operand.tmp 2)), none, ann0⟩,
  ⟨(some 12), (Op.binOp BinOp.add 3 (Operand.tmp 11) (Operand.const (Value.int IntKind.i64 8)) 3), none, ann0⟩,
  ⟨(some 2), (Op.assign (Operand.tmp 12)), none, ann0⟩] none))
 .skip)) (.tidy [0, 2] z (z + 0)))
 (.seq (.reg [⟨(some 13), (Op.move (Operand.tmp 2)), none, ann0⟩,
  ⟨(some 14), (Op.move (Operand.tmp 0)), none, ann0⟩,
  ⟨(some 15), (Op.convert 92 5 (Operand.tmp 14)), none, ann0⟩,
  ⟨(some 16), (Op.index 9 (Operand.const (Value.string ⟨#[0, 1, 2, 2, 3, 3, 3, 3, 4, 4, 4, 4, 4, 4, 4, 4, 5, 5, 5, 5, 5, 5, 5, 5, 5, 5, 5, 5, 5, 5, 5, 5, 6, 6, 6, 6, 6, 6, 6, 6, 6, 6, 6, 6, 6, 6, 6, 6, 6, 6, 6, 6, 6, 6, 6, 6, 6, 6, 6, 6, 6, 6, 6, 6, 7, 7, 7, 7, 7, 7, 7, 7, 7, 7, 7, 7, 7, 7, 7, 7, 7, 7, 7, 7, 7, 7, 7, 7, 7, 7, 7, 7, 7, 7, 7, 7, 7, 7, 7, 7, 7, 7, 7, 7, 7, 7, 7, 7, 7, 7, 7, 7, 7, 7, 7, 7, 7, 7, 7, 7, 7, 7, 7, 7, 7, 7, 7, 7, 8, 8, 8, 8, 8, 8, 8, 8, 8, 8, 8, 8, 8, 8, 8, 8, 8, 8, 8, 8, 8, 8, 8, 8, 8, 8, 8, 8, 8, 8, 8, 8, 8, 8, 8, 8, 8, 8, 8, 8, 8, 8, 8, 8, 8, 8, 8, 8, 8, 8, 8, 8, 8, 8, 8, 8, 8, 8, 8, 8, 8, 8, 8, 8, 8, 8, 8, 8, 8, 8, 8, 8, 8, 8, 8, 8, 8, 8, 8, 8, 8, 8, 8, 8, 8, 8, 8, 8, 8, 8, 8, 8, 8, 8, 8, 8, 8, 8, 8, 8, 8, 8, 8, 8, 8, 8, 8, 8, 8, 8, 8, 8, 8, 8, 8, 8, 8, 8, 8, 8, 8, 8, 8, 8, 8, 8, 8, 8]⟩)) (Operand.tmp 15)), none, ann0⟩,
  ⟨(some 17), (Op.convert 5 3 (Operand.tmp 16)), none, ann0⟩,
  ⟨(some 18), (Op.binOp BinOp.add 3 (Operand.tmp 13) (Operand.tmp 17) 3), none, ann0⟩,
  ⟨(some 2), (Op.assign (Operand.tmp 18)), none, ann0⟩] none)
 .ret))))⟩
theorem F90 (z : Nat) : FOk Try.prog 90 (s90 z) := by unfold FOk; kernel_rfl
def s91 (z : Nat) : SFn := ⟨1, 25, [(ResultVar.tmp 2)],
 (.seq (.reg [⟨(some 2), (Op.assign (Operand.const (Value.int IntKind.i64 0))), none, ann0⟩] none)
 (.seq (.post (.seq (.reg [⟨(some 3), (Op.move (Operand.tmp 0)), none, ann0⟩,
  ⟨(some 4), (Op.binOp BinOp.geq 94 (Operand.tmp 3) (Operand.const (Value.int IntKind.u64 4294967296)) 94), none, ann0⟩] none)
 (.cond (Operand.tmp 4) (.seq (.reg [⟨(some 5), (Op.move (Operand.tmp 0)), none, ann0⟩,
  ⟨(some 6), (Op.binOp BinOp.shr 94 (Operand.tmp 5) (Operand.const (Value.int IntKind.u64 32)) 45), none, ann0⟩,
  ⟨(some 0), (Op.assign (Operand.tmp 6)), none, ann0⟩] none)
 (.reg [⟨(some 2), (Op.assign (Operand.const (Value.int IntKind.i64 32))), none, ann0⟩] none))
 .skip)) (.tidy [0, 2] z (z + 0)))
 (.seq (.post (.seq (.reg [⟨(some 7), (Op.move (Operand.tmp 0)), none, ann0⟩,
  ⟨(some 8), (Op.binOp BinOp.geq 94 (Operand.tmp 7) (Operand.const (Value.int IntKind.u64 65536)) 94), none, ann0⟩] none)
 (.cond (Operand.tmp 8) (.seq (.reg [⟨(some 9), (Op.move (Operand.tmp 0)), none, ann0⟩,
  ⟨(some 10), (Op.binOp BinOp.shr 94 (Operand.tmp 9) (Operand.const (Value.int IntKind.u64 16)) 45), none, ann0⟩,
  ⟨(some 0), (Op.assign (Operand.tmp 10)), none, ann0⟩] none)
 (.reg [⟨(some 11), (Op.move (Operand.tmp 2)), none, ann0⟩,
  ⟨(some 12), (Op.binOp BinOp.add 3 (Operand.tmp 11) (Operand.const (Value.int IntKind.i64 16)) 3), none, ann0⟩,
  ⟨(some 2), (Op.assign (Operand.tmp 12)), none, ann0⟩] none))
 .skip)) (.tidy [0, 2] z (z + 0)))
 (.seq (.post (.seq (.reg [⟨(some 13), (Op.move (Operand.tmp 0)), none, ann0⟩,
  ⟨(some 14), (Op.binOp BinOp.geq 94 (Operand.tmp 13) (Operand.const (Value.int IntKind.u64 256)) 94), none, ann0⟩] none)
 (.cond (Operand.tmp 14) (.seq (.reg [⟨(some 15), (Op.move (Operand.tmp 0)), none, ann0⟩,
  ⟨(some 16), (Op.binOp BinOp.shr 94 (Operand.tmp 15) (Operand.const (Value.int IntKind.u64 8)) 45), none, ann0⟩,
  ⟨(some 0), (Op.assign (Operand.tmp 16)), none, ann0⟩] none)
 (.reg [⟨(some 17), (Op.move (Operand.tmp 2)), none, ann0⟩,
  ⟨(some 18), (Op.binOp BinOp.add 3 (Operand.tmp 17) (Operand.const (Value.int IntKind.i64 8)) 3), none, ann0⟩,
  ⟨(some 2), (Op.assign (Operand.tmp 18)), none, ann0⟩] none))
 .skip)) (.tidy [0, 2] z (z + 0)))
 (.seq (.reg [⟨(some 19), (Op.move (Operand.tmp 2)), none, ann0⟩,
  ⟨(some 20), (Op.move (Operand.tmp 0)), none, ann0⟩,
  ⟨(some 21), (Op.convert 94 5 (Operand.tmp 20)), none, ann0⟩,
  ⟨(some 22), (Op.index 9 (Operand.const (Value.string ⟨#[0, 1, 2, 2, 3, 3, 3, 3, 4, 4, 4, 4, 4, 4, 4, 4, 5, 5, 5, 5, 5, 5, 5, 5, 5, 5, 5, 5, 5, 5, 5, 5, 6, 6, 6, 6, 6, 6, 6, 6, 6, 6, 6, 6, 6, 6, 6, 6, 6, 6, 6, 6, 6, 6, 6, 6, 6, 6, 6, 6, 6, 6, 6, 6, 7, 7, 7, 7, 7, 7, 7, 7, 7, 7, 7, 7, 7, 7, 7, 7, 7, 7, 7, 7, 7, 7, 7, 7, 7, 7, 7, 7, 7, 7, 7, 7, 7, 7, 7, 7, 7, 7, 7, 7, 7, 7, 7, 7, 7, 7, 7, 7, 7, 7, 7, 7, 7, 7, 7, 7, 7, 7, 7, 7, 7, 7, 7, 7, 8, 8, 8, 8, 8, 8, 8, 8, 8, 8, 8, 8, 8, 8, 8, 8, 8, 8, 8, 8, 8, 8, 8, 8, 8, 8, 8, 8, 8, 8, 8, 8, 8, 8, 8, 8, 8, 8, 8, 8, 8, 8, 8, 8, 8, 8, 8, 8, 8, 8, 8, 8, 8, 8, 8, 8, 8, 8, 8, 8, 8, 8, 8, 8, 8, 8, 8, 8, 8, 8, 8, 8, 8, 8, 8, 8, 8, 8, 8, 8, 8, 8, 8, 8, 8, 8, 8, 8, 8, 8, 8, 8, 8, 8, 8, 8, 8, 8, 8, 8, 8, 8, 8, 8, 8, 8, 8, 8, 8, 8, 8, 8, 8, 8, 8, 8, 8, 8, 8, 8, 8, 8, 8, 8, 8, 8, 8, 8]⟩)) (Operand.tmp 21)), none, ann0⟩,
  ⟨(some 23), (Op.convert 5 3 (Operand.tmp 22)), none, ann0⟩,
  ⟨(some 24), (Op.binOp BinOp.add 3 (Operand.tmp 19) (Operand.tmp 23) 3), none, ann0⟩,
  ⟨(some 2), (Op.assign (Operand.tmp 24)), none, ann0⟩] none)
 .ret)))))⟩
theorem F91 (z : Nat) : FOk Try.prog 91 (s91 z) := by unfold FOk; kernel_rfl
def c92_1 (z : Nat) : SC := .post (.block 1 (.seq (.reg [⟨(some 13), (Op.move (Operand.tmp 10)), none, ann0⟩,
  ⟨(some 14), (Op.binOp BinOp.mul 3 (Operand.const (Value.int IntKind.i64 2)) (Operand.tmp 13) 3), none, ann0⟩,
  ⟨(some 15), (Op.binOp BinOp.add 3 (Operand.tmp 14) (Operand.const (Value.int IntKind.i64 1)) 3), none, ann0⟩,
  ⟨(some 11), (Op.assign (Operand.tmp 15)), none, ann0⟩] none)
 (.seq (.seq (.post (.reg [⟨(some 16), (Op.move (Operand.tmp 11)), none, ann0⟩,
  ⟨(some 17), (Op.move (Operand.tmp 2)), none, ann0⟩,
  ⟨(some 18), (Op.binOp BinOp.geq 3 (Operand.tmp 16) (Operand.tmp 17) 3), none, ann0⟩] none) (.tidy [0, 2, 3, 4, 10, 11, 18] z (z + 0)))
 (.cond (Operand.tmp 18) (.exit 0)
 .skip))
 (.seq (.post (.seq (.post (.reg [⟨(some 19), (Op.move (Operand.tmp 11)), none, ann0⟩,
  ⟨(some 20), (Op.binOp BinOp.add 3 (Operand.tmp 19) (Operand.const (Value.int IntKind.i64 1)) 3), none, ann0⟩,
  ⟨(some 21), (Op.move (Operand.tmp 2)), none, ann0⟩,
  ⟨(some 22), (Op.binOp BinOp.lss 3 (Operand.tmp 20) (Operand.tmp 21) 3), none, ann0⟩,
  ⟨(some 23), (Op.move (Operand.tmp 22)), none, ann0⟩,
  ⟨(some 24), (Op.move (Operand.tmp 4)), (some (23, true)), ann0⟩,
  ⟨(some 25), (Op.move (Operand.tmp 0)), (some (23, true)), ann0⟩,
  ⟨(some 26), (Op.move (Operand.tmp 3)), (some (23, true)), ann0⟩,
  ⟨(some 27), (Op.move (Operand.tmp 11)), (some (23, true)), ann0⟩,
  ⟨(some 28), (Op.binOp BinOp.add 3 (Operand.tmp 26) (Operand.tmp 27) 3), (some (23, true)), ann0⟩,
  ⟨(some 29), (Op.indexAddr 23 (Operand.tmp 25) (Operand.tmp 28)), (some (23, true)), ann0⟩,
  ⟨(some 30), (Op.load 33 (Operand.tmp 29)), (some (23, true)), ann0⟩,
  ⟨(some 31), (Op.move (Operand.tmp 0)), (some (23, true)), ann0⟩,
  ⟨(some 32), (Op.move (Operand.tmp 3)), (some (23, true)), ann0⟩,
  ⟨(some 33), (Op.move (Operand.tmp 11)), (some (23, true)), ann0⟩,
  ⟨(some 34), (Op.binOp BinOp.add 3 (Operand.tmp 32) (Operand.tmp 33) 3), (some (23, true)), ann0⟩,
  ⟨(some 35), (Op.binOp BinOp.add 3 (Operand.tmp 34) (Operand.const (Value.int IntKind.i64 1)) 3), (some (23, true)), ann0⟩,
  ⟨(some 36), (Op.indexAddr 23 (Operand.tmp 31) (Operand.tmp 35)), (some (23, true)), ann0⟩,
  ⟨(some 37), (Op.load 33 (Operand.tmp 36)), (some (23, true)), ann0⟩,
  ⟨(some 38), (Op.call { callee := (Callee.value (Operand.tmp 24)), args := #[(Operand.tmp 30), (Operand.tmp 37)], argTypes := #[33, 33] }), (some (23, true)), ann0⟩,
  ⟨(some 39), (Op.binOp BinOp.lss 3 (Operand.tmp 38) (Operand.const (Value.int IntKind.i64 0)) 3), (some (23, true)), ann0⟩,
  ⟨(some 40), (Op.pick (Operand.tmp 23) (Operand.tmp 39) (Operand.const (Value.bool false))), none, ann0⟩] (some [0, 1, 0, 7, 15, 31, 31, 31, 31, 415, 991, 2015, 31, 31, 31, 24607, 57375, 127007, 258079, 524287, 1048575, 2097151])) (.tidy [0, 2, 3, 4, 10, 11, 40] z (z + 0)))
 (.cond (Operand.tmp 40) (.reg [⟨(some 41), (Op.move (Operand.tmp 11)), none, ann0⟩,
  ⟨(some 42), (Op.binOp BinOp.add 3 (Operand.tmp 41) (Operand.const (Value.int IntKind.i64 1)) 3), none, ann0⟩,
  ⟨(some 11), (Op.assign (Operand.tmp 42)), none, ann0⟩] none)
 .skip)) (.tidy [0, 2, 3, 4, 10, 11] z (z + 0)))
 (.seq (.post (.seq (.post (.reg [⟨(some 43), (Op.move (Operand.tmp 4)), none, ann0⟩,
  ⟨(some 44), (Op.move (Operand.tmp 0)), none, ann0⟩,
  ⟨(some 45), (Op.move (Operand.tmp 3)), none, ann0⟩,
  ⟨(some 46), (Op.move (Operand.tmp 10)), none, ann0⟩,
  ⟨(some 47), (Op.binOp BinOp.add 3 (Operand.tmp 45) (Operand.tmp 46) 3), none, ann0⟩,
  ⟨(some 48), (Op.indexAddr 23 (Operand.tmp 44) (Operand.tmp 47)), none, ann0⟩,
  ⟨(some 49), (Op.load 33 (Operand.tmp 48)), none, ann0⟩,
  ⟨(some 50), (Op.move (Operand.tmp 0)), none, ann0⟩,
  ⟨(some 51), (Op.move (Operand.tmp 3)), none, ann0⟩,
  ⟨(some 52), (Op.move (Operand.tmp 11)), none, ann0⟩,
  ⟨(some 53), (Op.binOp BinOp.add 3 (Operand.tmp 51) (Operand.tmp 52) 3), none, ann0⟩,
  ⟨(some 54), (Op.indexAddr 23 (Operand.tmp 50) (Operand.tmp 53)), none, ann0⟩,
  ⟨(some 55), (Op.load 33 (Operand.tmp 54)), none, ann0⟩,
  ⟨(some 56), (Op.call { callee := (Callee.value (Operand.tmp 43)), args := #[(Operand.tmp 49), (Operand.tmp 55)], argTypes := #[33, 33] }), none, ann0⟩,
  ⟨(some 57), (Op.binOp BinOp.lss 3 (Operand.tmp 56) (Operand.const (Value.int IntKind.i64 0)) 3), none, ann0⟩,
  ⟨(some 58), (Op.unOp UnOp.not 4 (Operand.tmp 57)), none, ann0⟩] (some [0, 0, 0, 0, 12, 30, 62, 0, 0, 0, 768, 1920, 3968, 8191, 16383, 32767])) (.tidy [0, 2, 3, 4, 10, 11, 58] z (z + 0)))
 (.cond (Operand.tmp 58) .ret
 .skip)) (.tidy [0, 2, 3, 4, 10, 11] z (z + 0)))
 (.seq (.post (.reg [⟨(some 59), (Op.move (Operand.tmp 0)), none, ann0⟩,
  ⟨(some 60), (Op.move (Operand.tmp 3)), none, ann0⟩,
  ⟨(some 61), (Op.move (Operand.tmp 10)), none, ann0⟩,
  ⟨(some 62), (Op.binOp BinOp.add 3 (Operand.tmp 60) (Operand.tmp 61) 3), none, ann0⟩,
  ⟨(some 63), (Op.move (Operand.tmp 0)), none, ann0⟩,
  ⟨(some 64), (Op.move (Operand.tmp 3)), none, ann0⟩,
  ⟨(some 65), (Op.move (Operand.tmp 11)), none, ann0⟩,
  ⟨(some 66), (Op.binOp BinOp.add 3 (Operand.tmp 64) (Operand.tmp 65) 3), none, ann0⟩,
  ⟨(some 67), (Op.move (Operand.tmp 0)), none, ann0⟩,
  ⟨(some 68), (Op.move (Operand.tmp 3)), none, ann0⟩,
  ⟨(some 69), (Op.move (Operand.tmp 11)), none, ann0⟩,
  ⟨(some 70), (Op.binOp BinOp.add 3 (Operand.tmp 68) (Operand.tmp 69) 3), none, ann0⟩,
  ⟨(some 71), (Op.indexAddr 23 (Operand.tmp 67) (Operand.tmp 70)), none, ann0⟩,
  ⟨(some 72), (Op.load 33 (Operand.tmp 71)), none, ann0⟩,
  ⟨(some 73), (Op.move (Operand.tmp 0)), none, ann0⟩,
  ⟨(some 74), (Op.move (Operand.tmp 3)), none, ann0⟩,
  ⟨(some 75), (Op.move (Operand.tmp 10)), none, ann0⟩,
  ⟨(some 76), (Op.binOp BinOp.add 3 (Operand.tmp 74) (Operand.tmp 75) 3), none, ann0⟩,
  ⟨(some 77), (Op.indexAddr 23 (Operand.tmp 73) (Operand.tmp 76)), none, ann0⟩,
  ⟨(some 78), (Op.load 33 (Operand.tmp 77)), none, ann0⟩,
  ⟨(some 79), (Op.indexAddr 23 (Operand.tmp 59) (Operand.tmp 62)), none, ann0⟩,
  ⟨none, (Op.store 33 (Operand.tmp 79) (Operand.tmp 72)), none, ann0⟩,
  ⟨(some 80), (Op.indexAddr 23 (Operand.tmp 63) (Operand.tmp 66)), none, ann0⟩,
  ⟨none, (Op.store 33 (Operand.tmp 80) (Operand.tmp 78)), none, ann0⟩] (some [0, 0, 0, 6, 0, 0, 0, 96, 0, 0, 0, 1536, 3840, 7936, 0, 0, 0, 98304, 245760, 507904, 1048335, 2096911, 4194303, 8388607])) (.tidy [0, 2, 3, 4, 11] z (z + 0)))
 (.reg [⟨(some 81), (Op.move (Operand.tmp 11)), none, ann0⟩,
  ⟨(some 10), (Op.assign (Operand.tmp 81)), none, ann0⟩] none))))))) (.tidy [0, 2, 3, 4, 10] z (z + 0))
def s92_1 (z : Nat) : SC := c92_1 z
theorem e92_1 {C : Pg} {z : Nat} {st : St} {ks : List Fr} {K : Ex → St → Prop} : wpk C (s92_1 z) st ks K ↔ wpk C (c92_1 z) st ks K := Iff.rfl
def s92 (z : Nat) : SFn := ⟨5, 82, [],
 (.seq (.reg [⟨(some 12), (Op.move (Operand.tmp 1)), none, ann0⟩,
  ⟨(some 10), (Op.assign (Operand.tmp 12)), none, ann0⟩] none)
 (.post (.block 0 (.pre (.tidy [0, 2, 3, 4, 10] z (z + 0)) (.loop (s92_1 z)))) (.tidy [] z (z + 0))))⟩
theorem F92 (z : Nat) : FOk Try.prog 92 (s92 z) := by unfold FOk; kernel_rfl
def s93 (z : Nat) : SFn := ⟨1, 7, [(ResultVar.tmp 2)],
 (.seq (.reg [⟨(some 2), (Op.assign (Operand.const (Value.int IntKind.u64 0))), none, ann0⟩] none)
 (.seq (.reg [⟨(some 3), (Op.move (Operand.tmp 0)), none, ann0⟩,
  ⟨(some 4), (Op.convert 3 45 (Operand.tmp 3)), none, ann0⟩,
  ⟨(some 5), (Op.call { callee := (Callee.value (Operand.func 81)), args := #[(Operand.tmp 4)], argTypes := #[45] }), none, ann0⟩,
  ⟨(some 6), (Op.binOp BinOp.shl 45 (Operand.const (Value.int IntKind.u64 1)) (Operand.tmp 5) 3), none, ann0⟩,
  ⟨(some 2), (Op.assign (Operand.tmp 6)), none, ann0⟩] none)
 .ret))⟩
theorem F93 (z : Nat) : FOk Try.prog 93 (s93 z) := by unfold FOk; kernel_rfl
def s94 (z : Nat) : SFn := ⟨1, 33, [(ResultVar.tmp 2)],
 (.seq (.reg [⟨(some 2), (Op.assign (Operand.const (Value.int IntKind.u64 0))), none, ann0⟩] none)
 (.seq (.post (.reg [⟨(some 3), (Op.move (Operand.tmp 0)), none, ann0⟩,
  ⟨(some 4), (Op.nilCheck (Operand.tmp 3)), none, ann0⟩,
  ⟨(some 5), (Op.load 95 (Operand.tmp 4)), none, ann0⟩,
  ⟨(some 6), (Op.move (Operand.tmp 0)), none, ann0⟩,
  ⟨(some 7), (Op.nilCheck (Operand.tmp 6)), none, ann0⟩,
  ⟨(some 8), (Op.load 95 (Operand.tmp 7)), none, ann0⟩,
  ⟨(some 9), (Op.binOp BinOp.shl 95 (Operand.tmp 8) (Operand.const (Value.int IntKind.u64 13)) 45), none, ann0⟩,
  ⟨(some 10), (Op.binOp BinOp.xor 95 (Operand.tmp 5) (Operand.tmp 9) 95), none, ann0⟩,
  ⟨(some 11), (Op.nilCheck (Operand.tmp 3)), none, ann0⟩,
  ⟨none, (Op.store 95 (Operand.tmp 11) (Operand.tmp 10)), none, ann0⟩] (some [0, 1, 3, 0, 8, 24, 56, 127, 255, 511])) (.tidy [0] z (z + 0)))
 (.seq (.post (.reg [⟨(some 12), (Op.move (Operand.tmp 0)), none, ann0⟩,
  ⟨(some 13), (Op.nilCheck (Operand.tmp 12)), none, ann0⟩,
  ⟨(some 14), (Op.load 95 (Operand.tmp 13)), none, ann0⟩,
  ⟨(some 15), (Op.move (Operand.tmp 0)), none, ann0⟩,
  ⟨(some 16), (Op.nilCheck (Operand.tmp 15)), none, ann0⟩,
  ⟨(some 17), (Op.load 95 (Operand.tmp 16)), none, ann0⟩,
  ⟨(some 18), (Op.binOp BinOp.shr 95 (Operand.tmp 17) (Operand.const (Value.int IntKind.u64 7)) 45), none, ann0⟩,
  ⟨(some 19), (Op.binOp BinOp.xor 95 (Operand.tmp 14) (Operand.tmp 18) 95), none, ann0⟩,
  ⟨(some 20), (Op.nilCheck (Operand.tmp 12)), none, ann0⟩,
  ⟨none, (Op.store 95 (Operand.tmp 20) (Operand.tmp 19)), none, ann0⟩] (some [0, 1, 3, 0, 8, 24, 56, 127, 255, 511])) (.tidy [0] z (z + 0)))
 (.seq (.post (.reg [⟨(some 21), (Op.move (Operand.tmp 0)), none, ann0⟩,
  ⟨(some 22), (Op.nilCheck (Operand.tmp 21)), none, ann0⟩,
  ⟨(some 23), (Op.load 95 (Operand.tmp 22)), none, ann0⟩,
  ⟨(some 24), (Op.move (Operand.tmp 0)), none, ann0⟩,
  ⟨(some 25), (Op.nilCheck (Operand.tmp 24)), none, ann0⟩,
  ⟨(some 26), (Op.load 95 (Operand.tmp 25)), none, ann0⟩,
  ⟨(some 27), (Op.binOp BinOp.shl 95 (Operand.tmp 26) (Operand.const (Value.int IntKind.u64 17)) 45), none, ann0⟩,
  ⟨(some 28), (Op.binOp BinOp.xor 95 (Operand.tmp 23) (Operand.tmp 27) 95), none, ann0⟩,
  ⟨(some 29), (Op.nilCheck (Operand.tmp 21)), none, ann0⟩,
  ⟨none, (Op.store 95 (Operand.tmp 29) (Operand.tmp 28)), none, ann0⟩] (some [0, 1, 3, 0, 8, 24, 56, 127, 255, 511])) (.tidy [0] z (z + 0)))
 (.seq (.reg [⟨(some 30), (Op.move (Operand.tmp 0)), none, ann0⟩,
  ⟨(some 31), (Op.nilCheck (Operand.tmp 30)), none, ann0⟩,
  ⟨(some 32), (Op.load 95 (Operand.tmp 31)), none, ann0⟩,
  ⟨(some 2), (Op.assign (Operand.tmp 32)), none, ann0⟩] none)
 .ret)))))⟩
theorem F94 (z : Nat) : FOk Try.prog 94 (s94 z) := by unfold FOk; kernel_rfl
def s95 (z : Nat) : SFn := ⟨4, 18, [(ResultVar.tmp 8)],
 (.seq (.reg [⟨(some 8), (Op.assign (Operand.const (Value.int IntKind.i64 0))), none, ann0⟩] none)
 (.seq (.reg [⟨(some 9), (Op.move (Operand.tmp 0)), none, ann0⟩,
  ⟨(some 10), (Op.move (Operand.tmp 1)), none, ann0⟩,
  ⟨(some 11), (Op.binOp BinOp.sub 3 (Operand.tmp 10) (Operand.const (Value.int IntKind.i64 1)) 3), none, ann0⟩,
  ⟨(some 12), (Op.move (Operand.tmp 1)), none, ann0⟩,
  ⟨(some 13), (Op.move (Operand.tmp 1)), none, ann0⟩,
  ⟨(some 14), (Op.binOp BinOp.add 3 (Operand.tmp 13) (Operand.const (Value.int IntKind.i64 1)) 3), none, ann0⟩,
  ⟨(some 15), (Op.move (Operand.tmp 2)), none, ann0⟩,
  ⟨(some 16), (Op.move (Operand.tmp 3)), none, ann0⟩,
  ⟨(some 17), (Op.call { callee := (Callee.value (Operand.func 96)), args := #[(Operand.tmp 9), (Operand.tmp 11), (Operand.tmp 12), (Operand.tmp 14), (Operand.tmp 15), (Operand.tmp 16)], argTypes := #[23, 3, 3, 3, 99, 72] }), none, ann0⟩,
  ⟨(some 8), (Op.assign (Operand.tmp 17)), none, ann0⟩] none)
 .ret))⟩
theorem F95 (z : Nat) : FOk Try.prog 95 (s95 z) := by unfold FOk; kernel_rfl
def s96 (z : Nat) : SFn := ⟨6, 41, [(ResultVar.tmp 12)],
 (.seq (.reg [⟨(some 12), (Op.assign (Operand.const (Value.int IntKind.i64 0))), none, ann0⟩] none)
 (.seq (.post (.reg [⟨(some 14), (Op.move (Operand.tmp 0)), none, ann0⟩,
  ⟨(some 15), (Op.move (Operand.tmp 1)), none, ann0⟩,
  ⟨(some 16), (Op.move (Operand.tmp 2)), none, ann0⟩,
  ⟨(some 17), (Op.move (Operand.tmp 4)), none, ann0⟩,
  ⟨(some 18), (Op.move (Operand.tmp 5)), none, ann0⟩,
  ⟨(some 19), (Op.call { callee := (Callee.value (Operand.func 97)), args := #[(Operand.tmp 14), (Operand.tmp 15), (Operand.tmp 16), (Operand.tmp 17), (Operand.tmp 18)], argTypes := #[23, 3, 3, 99, 72] }), none, ann0⟩,
  ⟨(some 13), (Op.move (Operand.tmp 19)), none, ann0⟩,
  ⟨(some 20), (Op.extract (Operand.tmp 13) 0), none, ann0⟩,
  ⟨(some 21), (Op.extract (Operand.tmp 13) 1), none, ann0⟩,
  ⟨(some 1), (Op.assign (Operand.tmp 20)), none, ann0⟩,
  ⟨(some 2), (Op.assign (Operand.tmp 21)), none, ann0⟩] none) (.tidy [0, 1, 2, 3, 4, 5] z (z + 0)))
 (.seq (.post (.reg [⟨(some 23), (Op.move (Operand.tmp 0)), none, ann0⟩,
  ⟨(some 24), (Op.move (Operand.tmp 2)), none, ann0⟩,
  ⟨(some 25), (Op.move (Operand.tmp 3)), none, ann0⟩,
  ⟨(some 26), (Op.move (Operand.tmp 4)), none, ann0⟩,
  ⟨(some 27), (Op.move (Operand.tmp 5)), none, ann0⟩,
  ⟨(some 28), (Op.call { callee := (Callee.value (Operand.func 97)), args := #[(Operand.tmp 23), (Operand.tmp 24), (Operand.tmp 25), (Operand.tmp 26), (Operand.tmp 27)], argTypes := #[23, 3, 3, 99, 72] }), none, ann0⟩,
  ⟨(some 22), (Op.move (Operand.tmp 28)), none, ann0⟩,
  ⟨(some 29), (Op.extract (Operand.tmp 22) 0), none, ann0⟩,
  ⟨(some 30), (Op.extract (Operand.tmp 22) 1), none, ann0⟩,
  ⟨(some 2), (Op.assign (Operand.tmp 29)), none, ann0⟩,
  ⟨(some 3), (Op.assign (Operand.tmp 30)), none, ann0⟩] none) (.tidy [0, 1, 2, 4, 5] z (z + 0)))
 (.seq (.post (.reg [⟨(some 32), (Op.move (Operand.tmp 0)), none, ann0⟩,
  ⟨(some 33), (Op.move (Operand.tmp 1)), none, ann0⟩,
  ⟨(some 34), (Op.move (Operand.tmp 2)), none, ann0⟩,
  ⟨(some 35), (Op.move (Operand.tmp 4)), none, ann0⟩,
  ⟨(some 36), (Op.move (Operand.tmp 5)), none, ann0⟩,
  ⟨(some 37), (Op.call { callee := (Callee.value (Operand.func 97)), args := #[(Operand.tmp 32), (Operand.tmp 33), (Operand.tmp 34), (Operand.tmp 35), (Operand.tmp 36)], argTypes := #[23, 3, 3, 99, 72] }), none, ann0⟩,
  ⟨(some 31), (Op.move (Operand.tmp 37)), none, ann0⟩,
  ⟨(some 38), (Op.extract (Operand.tmp 31) 0), none, ann0⟩,
  ⟨(some 39), (Op.extract (Operand.tmp 31) 1), none, ann0⟩,
  ⟨(some 1), (Op.assign (Operand.tmp 38)), none, ann0⟩,
  ⟨(some 2), (Op.assign (Operand.tmp 39)), none, ann0⟩] none) (.tidy [2] z (z + 0)))
 (.seq (.reg [⟨(some 40), (Op.move (Operand.tmp 2)), none, ann0⟩,
  ⟨(some 12), (Op.assign (Operand.tmp 40)), none, ann0⟩] none)
 .ret)))))⟩
theorem F96 (z : Nat) : FOk Try.prog 96 (s96 z) := by unfold FOk; kernel_rfl
def s97 (z : Nat) : SFn := ⟨5, 32, [(ResultVar.tmp 10), (ResultVar.tmp 11)],
 (.seq (.reg [⟨(some 10), (Op.assign (Operand.const (Value.int IntKind.i64 0))), none, ann0⟩,
  ⟨(some 11), (Op.assign (Operand.const (Value.int IntKind.i64 0))), none, ann0⟩] none)
 (.seq (.post (.seq (.post (.reg [⟨(some 12), (Op.move (Operand.tmp 4)), none, ann0⟩,
  ⟨(some 13), (Op.move (Operand.tmp 0)), none, ann0⟩,
  ⟨(some 14), (Op.move (Operand.tmp 2)), none, ann0⟩,
  ⟨(some 15), (Op.indexAddr 23 (Operand.tmp 13) (Operand.tmp 14)), none, ann0⟩,
  ⟨(some 16), (Op.load 33 (Operand.tmp 15)), none, ann0⟩,
  ⟨(some 17), (Op.move (Operand.tmp 0)), none, ann0⟩,
  ⟨(some 18), (Op.move (Operand.tmp 1)), none, ann0⟩,
  ⟨(some 19), (Op.indexAddr 23 (Operand.tmp 17) (Operand.tmp 18)), none, ann0⟩,
  ⟨(some 20), (Op.load 33 (Operand.tmp 19)), none, ann0⟩,
  ⟨(some 21), (Op.call { callee := (Callee.value (Operand.tmp 12)), args := #[(Operand.tmp 16), (Operand.tmp 20)], argTypes := #[33, 33] }), none, ann0⟩,
  ⟨(some 22), (Op.binOp BinOp.lss 3 (Operand.tmp 21) (Operand.const (Value.int IntKind.i64 0)) 3), none, ann0⟩] (some [0, 0, 0, 6, 14, 0, 0, 96, 224, 511, 1023])) (.tidy [1, 2, 3, 22] z (z + 0)))
 (.cond (Operand.tmp 22) (.seq (.reg [⟨(some 23), (Op.move (Operand.tmp 3)), none, ann0⟩,
  ⟨(some 24), (Op.nilCheck (Operand.tmp 23)), none, ann0⟩,
  ⟨(some 25), (Op.load 3 (Operand.tmp 24)), none, ann0⟩,
  ⟨(some 26), (Op.binOp BinOp.add 3 (Operand.tmp 25) (Operand.const (Value.int IntKind.i64 1)) 3), none, ann0⟩,
  ⟨(some 27), (Op.nilCheck (Operand.tmp 23)), none, ann0⟩,
  ⟨none, (Op.store 3 (Operand.tmp 27) (Operand.tmp 26)), none, ann0⟩] none)
 (.seq (.reg [⟨(some 28), (Op.move (Operand.tmp 2)), none, ann0⟩,
  ⟨(some 29), (Op.move (Operand.tmp 1)), none, ann0⟩,
  ⟨(some 10), (Op.assign (Operand.tmp 28)), none, ann0⟩,
  ⟨(some 11), (Op.assign (Operand.tmp 29)), none, ann0⟩] none)
 .ret))
 .skip)) (.tidy [1, 2] z (z + 0)))
 (.seq (.reg [⟨(some 30), (Op.move (Operand.tmp 1)), none, ann0⟩,
  ⟨(some 31), (Op.move (Operand.tmp 2)), none, ann0⟩,
  ⟨(some 10), (Op.assign (Operand.tmp 30)), none, ann0⟩,
  ⟨(some 11), (Op.assign (Operand.tmp 31)), none, ann0⟩] none)
 .ret)))⟩
theorem F97 (z : Nat) : FOk Try.prog 97 (s97 z) := by unfold FOk; kernel_rfl
def AL (z : Nat) : List (Nat × SFn) := [(7, s7 z), (14, s14 z), (15, s15 z), (19, s19 z), (20, s20 z), (24, s24 z), (25, s25 z), (26, s26 z), (27, s27 z), (37, s37 z), (38, s38 z), (47, s47 z), (48, s48 z), (52, s52 z), (53, s53 z), (54, s54 z), (55, s55 z), (56, s56 z), (57, s57 z), (58, s58 z), (59, s59 z), (60, s60 z), (61, s61 z), (69, s69 z), (70, s70 z), (71, s71 z), (72, s72 z), (73, s73 z), (74, s74 z), (77, s77 z), (78, s78 z), (79, s79 z), (80, s80 z), (81, s81 z), (82, s82 z), (83, s83 z), (84, s84 z), (85, s85 z), (86, s86 z), (87, s87 z), (88, s88 z), (89, s89 z), (90, s90 z), (91, s91 z), (92, s92 z), (93, s93 z), (94, s94 z), (95, s95 z), (96, s96 z), (97, s97 z)]
def AA (f : FuncId) (_ : List AV) (obs : List AObj) : Option SFn := getF f (AL obs.length)
theorem AL_ok (z : Nat) : AllF Try.prog (AL z) := by
  simp only [AL, AllF]
  exact ⟨F7 z, F14 z, F15 z, F19 z, F20 z, F24 z, F25 z, F26 z, F27 z, F37 z, F38 z, F47 z, F48 z, F52 z, F53 z, F54 z, F55 z, F56 z, F57 z, F58 z, F59 z, F60 z, F61 z, F69 z, F70 z, F71 z, F72 z, F73 z, F74 z, F77 z, F78 z, F79 z, F80 z, F81 z, F82 z, F83 z, F84 z, F85 z, F86 z, F87 z, F88 z, F89 z, F90 z, F91 z, F92 z, F93 z, F94 z, F95 z, F96 z, F97 z, trivial⟩
theorem AA_ok (f : FuncId) (xs : List AV) (obs : List AObj) (s : SFn) (h : AA f xs obs = some s) : (Try.prog.funcs[f]?).bind slimFn = some (s.erase Try.prog) := getF_ok (AL_ok _) h
def LL : List (Nat × SLoop) := [(3072, l48_0), (5056, l79_0)]
def LT (k : Nat) : Option SLoop := getLp k LL
theorem LT_ok (k : Nat) (l : SLoop) (h : LT k = some l) : loopS Try.prog k = some (l.erase Try.prog) := getLp_ok (t := LL) (by
  simp only [LL, AllL]
  exact ⟨N48_0, N79_0, trivial⟩) h
theorem L3072 : LT 3072 = some l48_0 := rfl
theorem L5056 : LT 5056 = some l79_0 := rfl
theorem A7 (xs : List AV) (obs : List AObj) : AA 7 xs obs = some (s7 obs.length) := rfl
theorem A14 (xs : List AV) (obs : List AObj) : AA 14 xs obs = some (s14 obs.length) := rfl
theorem A15 (xs : List AV) (obs : List AObj) : AA 15 xs obs = some (s15 obs.length) := rfl
theorem A19 (xs : List AV) (obs : List AObj) : AA 19 xs obs = some (s19 obs.length) := rfl
theorem A20 (xs : List AV) (obs : List AObj) : AA 20 xs obs = some (s20 obs.length) := rfl
theorem A24 (xs : List AV) (obs : List AObj) : AA 24 xs obs = some (s24 obs.length) := rfl
theorem A25 (xs : List AV) (obs : List AObj) : AA 25 xs obs = some (s25 obs.length) := rfl
theorem A26 (xs : List AV) (obs : List AObj) : AA 26 xs obs = some (s26 obs.length) := rfl
theorem A27 (xs : List AV) (obs : List AObj) : AA 27 xs obs = some (s27 obs.length) := rfl
theorem A37 (xs : List AV) (obs : List AObj) : AA 37 xs obs = some (s37 obs.length) := rfl
theorem A38 (xs : List AV) (obs : List AObj) : AA 38 xs obs = some (s38 obs.length) := rfl
theorem A47 (xs : List AV) (obs : List AObj) : AA 47 xs obs = some (s47 obs.length) := rfl
theorem A48 (xs : List AV) (obs : List AObj) : AA 48 xs obs = some (s48 obs.length) := rfl
theorem A52 (xs : List AV) (obs : List AObj) : AA 52 xs obs = some (s52 obs.length) := rfl
theorem A53 (xs : List AV) (obs : List AObj) : AA 53 xs obs = some (s53 obs.length) := rfl
theorem A54 (xs : List AV) (obs : List AObj) : AA 54 xs obs = some (s54 obs.length) := rfl
theorem A55 (xs : List AV) (obs : List AObj) : AA 55 xs obs = some (s55 obs.length) := rfl
theorem A56 (xs : List AV) (obs : List AObj) : AA 56 xs obs = some (s56 obs.length) := rfl
theorem A57 (xs : List AV) (obs : List AObj) : AA 57 xs obs = some (s57 obs.length) := rfl
theorem A58 (xs : List AV) (obs : List AObj) : AA 58 xs obs = some (s58 obs.length) := rfl
theorem A59 (xs : List AV) (obs : List AObj) : AA 59 xs obs = some (s59 obs.length) := rfl
theorem A60 (xs : List AV) (obs : List AObj) : AA 60 xs obs = some (s60 obs.length) := rfl
theorem A61 (xs : List AV) (obs : List AObj) : AA 61 xs obs = some (s61 obs.length) := rfl
theorem A69 (xs : List AV) (obs : List AObj) : AA 69 xs obs = some (s69 obs.length) := rfl
theorem A70 (xs : List AV) (obs : List AObj) : AA 70 xs obs = some (s70 obs.length) := rfl
theorem A71 (xs : List AV) (obs : List AObj) : AA 71 xs obs = some (s71 obs.length) := rfl
theorem A72 (xs : List AV) (obs : List AObj) : AA 72 xs obs = some (s72 obs.length) := rfl
theorem A73 (xs : List AV) (obs : List AObj) : AA 73 xs obs = some (s73 obs.length) := rfl
theorem A74 (xs : List AV) (obs : List AObj) : AA 74 xs obs = some (s74 obs.length) := rfl
theorem A77 (xs : List AV) (obs : List AObj) : AA 77 xs obs = some (s77 obs.length) := rfl
theorem A78 (xs : List AV) (obs : List AObj) : AA 78 xs obs = some (s78 obs.length) := rfl
theorem A79 (xs : List AV) (obs : List AObj) : AA 79 xs obs = some (s79 obs.length) := rfl
theorem A80 (xs : List AV) (obs : List AObj) : AA 80 xs obs = some (s80 obs.length) := rfl
theorem A81 (xs : List AV) (obs : List AObj) : AA 81 xs obs = some (s81 obs.length) := rfl
theorem A82 (xs : List AV) (obs : List AObj) : AA 82 xs obs = some (s82 obs.length) := rfl
theorem A83 (xs : List AV) (obs : List AObj) : AA 83 xs obs = some (s83 obs.length) := rfl
theorem A84 (xs : List AV) (obs : List AObj) : AA 84 xs obs = some (s84 obs.length) := rfl
theorem A85 (xs : List AV) (obs : List AObj) : AA 85 xs obs = some (s85 obs.length) := rfl
theorem A86 (xs : List AV) (obs : List AObj) : AA 86 xs obs = some (s86 obs.length) := rfl
theorem A87 (xs : List AV) (obs : List AObj) : AA 87 xs obs = some (s87 obs.length) := rfl
theorem A88 (xs : List AV) (obs : List AObj) : AA 88 xs obs = some (s88 obs.length) := rfl
theorem A89 (xs : List AV) (obs : List AObj) : AA 89 xs obs = some (s89 obs.length) := rfl
theorem A90 (xs : List AV) (obs : List AObj) : AA 90 xs obs = some (s90 obs.length) := rfl
theorem A91 (xs : List AV) (obs : List AObj) : AA 91 xs obs = some (s91 obs.length) := rfl
theorem A92 (xs : List AV) (obs : List AObj) : AA 92 xs obs = some (s92 obs.length) := rfl
theorem A93 (xs : List AV) (obs : List AObj) : AA 93 xs obs = some (s93 obs.length) := rfl
theorem A94 (xs : List AV) (obs : List AObj) : AA 94 xs obs = some (s94 obs.length) := rfl
theorem A95 (xs : List AV) (obs : List AObj) : AA 95 xs obs = some (s95 obs.length) := rfl
theorem A96 (xs : List AV) (obs : List AObj) : AA 96 xs obs = some (s96 obs.length) := rfl
theorem A97 (xs : List AV) (obs : List AObj) : AA 97 xs obs = some (s97 obs.length) := rfl
end Go.Proofs.YtnpppjipbkceeaaV
