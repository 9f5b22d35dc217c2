/- The table of types and the functions' code, with notes for the interpreter, and the facts that they are the program's: made by a program. -/
import Derived.Test.YtdgpipoffcajgaaWb28a
set_option linter.unusedVariables false
namespace Go.Proofs.YtdgpipoffcajgaaV
open Go.RowKit

def TT : Tbl := [(3, ⟨.int .i64, 1, 8, [(.d (.int .i64 0))]⟩),
  (4, ⟨.bool, 1, 1, [(.d (.bool false))]⟩),
  (5, ⟨.int .u8, 1, 1, [(.d (.int .u8 0))]⟩),
  (9, ⟨.str, 1, 16, [(.d (.str ⟨#[]⟩))]⟩),
  (22, ⟨.slice 92, 1, 24, [(.d .nils)]⟩),
  (23, ⟨.slice 87, 1, 24, [(.d .nils)]⟩),
  (25, ⟨.struct [(0, 3, 1), (1, 3, 1), (2, 22, 1), (3, 23, 1)], 4, 64, [(.d (.int .i64 0)), (.d (.int .i64 0)), (.d .nils), (.d .nils)]⟩),
  (27, ⟨.ptr, 1, 8, [.nilp]⟩),
  (28, ⟨.ptr, 1, 8, [.nilp]⟩),
  (32, ⟨.struct [(0, 5, 1), (1, 5, 1), (2, 5, 1)], 3, 3, [(.d (.int .u8 0)), (.d (.int .u8 0)), (.d (.int .u8 0))]⟩),
  (34, ⟨.int .i64, 1, 8, [(.d (.int .i64 0))]⟩),
  (38, ⟨.struct [(0, 3, 1), (1, 3, 1)], 2, 16, [(.d (.int .i64 0)), (.d (.int .i64 0))]⟩),
  (40, ⟨.struct [(0, 3, 1), (1, 38, 2), (3, 3, 1)], 4, 32, [(.d (.int .i64 0)), (.d (.int .i64 0)), (.d (.int .i64 0)), (.d (.int .i64 0))]⟩),
  (46, ⟨.struct [(0, 3, 1), (1, 3, 1), (2, 3, 1)], 3, 24, [(.d (.int .i64 0)), (.d (.int .i64 0)), (.d (.int .i64 0))]⟩),
  (49, ⟨.slice 38, 1, 24, [(.d .nils)]⟩),
  (51, ⟨.slice 40, 1, 24, [(.d .nils)]⟩),
  (72, ⟨.slice 101, 1, 24, [(.d .nils)]⟩),
  (74, ⟨.struct [(0, 46, 3), (3, 72, 1), (4, 3, 1), (5, 3, 1), (6, 3, 1)], 7, 72, [(.d (.int .i64 0)), (.d (.int .i64 0)), (.d (.int .i64 0)), (.d .nils), (.d (.int .i64 0)), (.d (.int .i64 0)), (.d (.int .i64 0))]⟩),
  (76, ⟨.map 38 81, 1, 8, [.nilm]⟩),
  (77, ⟨.map 3 40, 1, 8, [.nilm]⟩),
  (79, ⟨.struct [(0, 46, 3), (3, 76, 1), (4, 77, 1), (5, 3, 1), (6, 3, 1), (7, 3, 1), (8, 3, 1)], 9, 72, [(.d (.int .i64 0)), (.d (.int .i64 0)), (.d (.int .i64 0)), .nilm, .nilm, (.d (.int .i64 0)), (.d (.int .i64 0)), (.d (.int .i64 0)), (.d (.int .i64 0))]⟩),
  (81, ⟨.struct [(0, 25, 4), (4, 3, 1), (5, 3, 1)], 6, 80, [(.d (.int .i64 0)), (.d (.int .i64 0)), (.d .nils), (.d .nils), (.d (.int .i64 0)), (.d (.int .i64 0))]⟩),
  (87, ⟨.struct [(0, 3, 1), (1, 3, 1), (2, 3, 1), (3, 3, 1), (4, 3, 1)], 5, 40, [(.d (.int .i64 0)), (.d (.int .i64 0)), (.d (.int .i64 0)), (.d (.int .i64 0)), (.d (.int .i64 0))]⟩),
  (89, ⟨.slice 109, 1, 24, [(.d .nils)]⟩),
  (90, ⟨.slice 119, 1, 24, [(.d .nils)]⟩),
  (92, ⟨.struct [(0, 3, 1), (1, 3, 1), (2, 3, 1), (3, 3, 1), (4, 3, 1), (5, 3, 1), (6, 9, 1), (7, 9, 1), (8, 9, 1), (9, 3, 1), (10, 3, 1), (11, 4, 1), (12, 89, 1), (13, 90, 1)], 14, 168, [(.d (.int .i64 0)), (.d (.int .i64 0)), (.d (.int .i64 0)), (.d (.int .i64 0)), (.d (.int .i64 0)), (.d (.int .i64 0)), (.d (.str ⟨#[]⟩)), (.d (.str ⟨#[]⟩)), (.d (.str ⟨#[]⟩)), (.d (.int .i64 0)), (.d (.int .i64 0)), (.d (.bool false)), (.d .nils), (.d .nils)]⟩),
  (101, ⟨.struct [(0, 25, 4), (4, 40, 4)], 8, 96, [(.d (.int .i64 0)), (.d (.int .i64 0)), (.d .nils), (.d .nils), (.d (.int .i64 0)), (.d (.int .i64 0)), (.d (.int .i64 0)), (.d (.int .i64 0))]⟩),
  (107, ⟨.struct [(0, 3, 1), (1, 9, 1), (2, 3, 1)], 3, 32, [(.d (.int .i64 0)), (.d (.str ⟨#[]⟩)), (.d (.int .i64 0))]⟩),
  (109, ⟨.struct [(0, 9, 1), (1, 107, 3)], 4, 48, [(.d (.str ⟨#[]⟩)), (.d (.int .i64 0)), (.d (.str ⟨#[]⟩)), (.d (.int .i64 0))]⟩),
  (119, ⟨.struct [(0, 3, 1), (1, 3, 1)], 2, 16, [(.d (.int .i64 0)), (.d (.int .i64 0))]⟩),
  (125, ⟨.int .u64, 1, 8, [(.d (.int .u64 0))]⟩),
  (128, ⟨.slice 5, 1, 24, [(.d .nils)]⟩),
  (130, ⟨.struct [(0, 128, 1)], 1, 24, [(.d .nils)]⟩),
  (133, ⟨.ptr, 1, 8, [.nilp]⟩),
  (140, ⟨.int .i64, 1, 8, [(.d (.int .i64 0))]⟩),
  (148, ⟨.int .u32, 1, 4, [(.d (.int .u32 0))]⟩),
  (150, ⟨.int .u64, 1, 8, [(.d (.int .u64 0))]⟩),
  (151, ⟨.slice 3, 1, 24, [(.d .nils)]⟩)]
theorem TT_ok : TOk Try.prog TT := by unfold TOk; kernel_rfl
theorem T3 : TT.get 3 = some ⟨.int .i64, 1, 8, [(.d (.int .i64 0))]⟩ := by kernel_rfl
theorem T4 : TT.get 4 = some ⟨.bool, 1, 1, [(.d (.bool false))]⟩ := by kernel_rfl
theorem T5 : TT.get 5 = some ⟨.int .u8, 1, 1, [(.d (.int .u8 0))]⟩ := by kernel_rfl
theorem T9 : TT.get 9 = some ⟨.str, 1, 16, [(.d (.str ⟨#[]⟩))]⟩ := by kernel_rfl
theorem T22 : TT.get 22 = some ⟨.slice 92, 1, 24, [(.d .nils)]⟩ := by kernel_rfl
theorem T23 : TT.get 23 = some ⟨.slice 87, 1, 24, [(.d .nils)]⟩ := by kernel_rfl
theorem T25 : TT.get 25 = some ⟨.struct [(0, 3, 1), (1, 3, 1), (2, 22, 1), (3, 23, 1)], 4, 64, [(.d (.int .i64 0)), (.d (.int .i64 0)), (.d .nils), (.d .nils)]⟩ := by kernel_rfl
theorem T27 : TT.get 27 = some ⟨.ptr, 1, 8, [.nilp]⟩ := by kernel_rfl
theorem T28 : TT.get 28 = some ⟨.ptr, 1, 8, [.nilp]⟩ := by kernel_rfl
theorem T32 : TT.get 32 = some ⟨.struct [(0, 5, 1), (1, 5, 1), (2, 5, 1)], 3, 3, [(.d (.int .u8 0)), (.d (.int .u8 0)), (.d (.int .u8 0))]⟩ := by kernel_rfl
theorem T34 : TT.get 34 = some ⟨.int .i64, 1, 8, [(.d (.int .i64 0))]⟩ := by kernel_rfl
theorem T38 : TT.get 38 = some ⟨.struct [(0, 3, 1), (1, 3, 1)], 2, 16, [(.d (.int .i64 0)), (.d (.int .i64 0))]⟩ := by kernel_rfl
theorem T40 : TT.get 40 = some ⟨.struct [(0, 3, 1), (1, 38, 2), (3, 3, 1)], 4, 32, [(.d (.int .i64 0)), (.d (.int .i64 0)), (.d (.int .i64 0)), (.d (.int .i64 0))]⟩ := by kernel_rfl
theorem T46 : TT.get 46 = some ⟨.struct [(0, 3, 1), (1, 3, 1), (2, 3, 1)], 3, 24, [(.d (.int .i64 0)), (.d (.int .i64 0)), (.d (.int .i64 0))]⟩ := by kernel_rfl
theorem T49 : TT.get 49 = some ⟨.slice 38, 1, 24, [(.d .nils)]⟩ := by kernel_rfl
theorem T51 : TT.get 51 = some ⟨.slice 40, 1, 24, [(.d .nils)]⟩ := by kernel_rfl
theorem T72 : TT.get 72 = some ⟨.slice 101, 1, 24, [(.d .nils)]⟩ := by kernel_rfl
theorem T74 : TT.get 74 = some ⟨.struct [(0, 46, 3), (3, 72, 1), (4, 3, 1), (5, 3, 1), (6, 3, 1)], 7, 72, [(.d (.int .i64 0)), (.d (.int .i64 0)), (.d (.int .i64 0)), (.d .nils), (.d (.int .i64 0)), (.d (.int .i64 0)), (.d (.int .i64 0))]⟩ := by kernel_rfl
theorem T76 : TT.get 76 = some ⟨.map 38 81, 1, 8, [.nilm]⟩ := by kernel_rfl
theorem T77 : TT.get 77 = some ⟨.map 3 40, 1, 8, [.nilm]⟩ := by kernel_rfl
theorem T79 : TT.get 79 = some ⟨.struct [(0, 46, 3), (3, 76, 1), (4, 77, 1), (5, 3, 1), (6, 3, 1), (7, 3, 1), (8, 3, 1)], 9, 72, [(.d (.int .i64 0)), (.d (.int .i64 0)), (.d (.int .i64 0)), .nilm, .nilm, (.d (.int .i64 0)), (.d (.int .i64 0)), (.d (.int .i64 0)), (.d (.int .i64 0))]⟩ := by kernel_rfl
theorem T81 : TT.get 81 = some ⟨.struct [(0, 25, 4), (4, 3, 1), (5, 3, 1)], 6, 80, [(.d (.int .i64 0)), (.d (.int .i64 0)), (.d .nils), (.d .nils), (.d (.int .i64 0)), (.d (.int .i64 0))]⟩ := by kernel_rfl
theorem T87 : TT.get 87 = some ⟨.struct [(0, 3, 1), (1, 3, 1), (2, 3, 1), (3, 3, 1), (4, 3, 1)], 5, 40, [(.d (.int .i64 0)), (.d (.int .i64 0)), (.d (.int .i64 0)), (.d (.int .i64 0)), (.d (.int .i64 0))]⟩ := by kernel_rfl
theorem T89 : TT.get 89 = some ⟨.slice 109, 1, 24, [(.d .nils)]⟩ := by kernel_rfl
theorem T90 : TT.get 90 = some ⟨.slice 119, 1, 24, [(.d .nils)]⟩ := by kernel_rfl
theorem T92 : TT.get 92 = some ⟨.struct [(0, 3, 1), (1, 3, 1), (2, 3, 1), (3, 3, 1), (4, 3, 1), (5, 3, 1), (6, 9, 1), (7, 9, 1), (8, 9, 1), (9, 3, 1), (10, 3, 1), (11, 4, 1), (12, 89, 1), (13, 90, 1)], 14, 168, [(.d (.int .i64 0)), (.d (.int .i64 0)), (.d (.int .i64 0)), (.d (.int .i64 0)), (.d (.int .i64 0)), (.d (.int .i64 0)), (.d (.str ⟨#[]⟩)), (.d (.str ⟨#[]⟩)), (.d (.str ⟨#[]⟩)), (.d (.int .i64 0)), (.d (.int .i64 0)), (.d (.bool false)), (.d .nils), (.d .nils)]⟩ := by kernel_rfl
theorem T101 : TT.get 101 = some ⟨.struct [(0, 25, 4), (4, 40, 4)], 8, 96, [(.d (.int .i64 0)), (.d (.int .i64 0)), (.d .nils), (.d .nils), (.d (.int .i64 0)), (.d (.int .i64 0)), (.d (.int .i64 0)), (.d (.int .i64 0))]⟩ := by kernel_rfl
theorem T107 : TT.get 107 = some ⟨.struct [(0, 3, 1), (1, 9, 1), (2, 3, 1)], 3, 32, [(.d (.int .i64 0)), (.d (.str ⟨#[]⟩)), (.d (.int .i64 0))]⟩ := by kernel_rfl
theorem T109 : TT.get 109 = some ⟨.struct [(0, 9, 1), (1, 107, 3)], 4, 48, [(.d (.str ⟨#[]⟩)), (.d (.int .i64 0)), (.d (.str ⟨#[]⟩)), (.d (.int .i64 0))]⟩ := by kernel_rfl
theorem T119 : TT.get 119 = some ⟨.struct [(0, 3, 1), (1, 3, 1)], 2, 16, [(.d (.int .i64 0)), (.d (.int .i64 0))]⟩ := by kernel_rfl
theorem T125 : TT.get 125 = some ⟨.int .u64, 1, 8, [(.d (.int .u64 0))]⟩ := by kernel_rfl
theorem T128 : TT.get 128 = some ⟨.slice 5, 1, 24, [(.d .nils)]⟩ := by kernel_rfl
theorem T130 : TT.get 130 = some ⟨.struct [(0, 128, 1)], 1, 24, [(.d .nils)]⟩ := by kernel_rfl
theorem T133 : TT.get 133 = some ⟨.ptr, 1, 8, [.nilp]⟩ := by kernel_rfl
theorem T140 : TT.get 140 = some ⟨.int .i64, 1, 8, [(.d (.int .i64 0))]⟩ := by kernel_rfl
theorem T148 : TT.get 148 = some ⟨.int .u32, 1, 4, [(.d (.int .u32 0))]⟩ := by kernel_rfl
theorem T150 : TT.get 150 = some ⟨.int .u64, 1, 8, [(.d (.int .u64 0))]⟩ := by kernel_rfl
theorem T151 : TT.get 151 = some ⟨.slice 3, 1, 24, [(.d .nils)]⟩ := by kernel_rfl
def c72_1 (z : Nat) : SC := .post (.block 1 (.seq (.reg [⟨(some 21), (Op.move (Operand.tmp 2)), none, ann0⟩,
  ⟨(some 22), (Op.move (Operand.tmp 1)), none, ann0⟩,
  ⟨(some 23), (Op.binOp BinOp.sub 3 (Operand.tmp 21) (Operand.tmp 22) 3), none, ann0⟩,
  ⟨(some 12), (Op.assign (Operand.tmp 23)), none, ann0⟩] none)
 (.seq (.post (.seq (.reg [⟨(some 24), (Op.move (Operand.tmp 12)), none, ann0⟩,
  ⟨(some 25), (Op.binOp BinOp.leq 3 (Operand.tmp 24) (Operand.const (Value.int IntKind.i64 12)) 3), none, ann0⟩] none)
 (.cond (Operand.tmp 25) (.seq (.reg [⟨(some 26), (Op.move (Operand.tmp 0)), none, ann0⟩,
  ⟨(some 27), (Op.move (Operand.tmp 1)), none, ann0⟩,
  ⟨(some 28), (Op.move (Operand.tmp 2)), none, ann0⟩,
  ⟨(some 29), (Op.move (Operand.tmp 4)), none, ann0⟩,
  ⟨(some 30), (Op.call { callee := (Callee.value (Operand.func 90)), args := #[(Operand.tmp 26), (Operand.tmp 27), (Operand.tmp 28), (Operand.tmp 29)], argTypes := #[49, 3, 3, 122] }), none, ann0⟩] none)
 .ret)
 .skip)) (.tidy [0, 1, 2, 3, 4, 10, 11, 12] z (z + 0)))
 (.seq (.post (.seq (.reg [⟨(some 31), (Op.move (Operand.tmp 3)), none, ann0⟩,
  ⟨(some 32), (Op.binOp BinOp.eql 3 (Operand.tmp 31) (Operand.const (Value.int IntKind.i64 0)) 3), none, ann0⟩] none)
 (.cond (Operand.tmp 32) (.seq (.reg [⟨(some 33), (Op.move (Operand.tmp 0)), none, ann0⟩,
  ⟨(some 34), (Op.move (Operand.tmp 1)), none, ann0⟩,
  ⟨(some 35), (Op.move (Operand.tmp 2)), none, ann0⟩,
  ⟨(some 36), (Op.move (Operand.tmp 4)), none, ann0⟩,
  ⟨(some 37), (Op.call { callee := (Callee.value (Operand.func 91)), args := #[(Operand.tmp 33), (Operand.tmp 34), (Operand.tmp 35), (Operand.tmp 36)], argTypes := #[49, 3, 3, 122] }), none, ann0⟩] none)
 .ret)
 .skip)) (.tidy [0, 1, 2, 3, 4, 10, 11, 12] z (z + 0)))
 (.seq (.post (.seq (.reg [⟨(some 38), (Op.move (Operand.tmp 10)), none, ann0⟩,
  ⟨(some 39), (Op.unOp UnOp.not 4 (Operand.tmp 38)), none, ann0⟩] none)
 (.cond (Operand.tmp 39) (.seq (.post (.reg [⟨(some 40), (Op.move (Operand.tmp 0)), none, ann0⟩,
  ⟨(some 41), (Op.move (Operand.tmp 1)), none, ann0⟩,
  ⟨(some 42), (Op.move (Operand.tmp 2)), none, ann0⟩,
  ⟨(some 43), (Op.move (Operand.tmp 4)), none, ann0⟩,
  ⟨(some 44), (Op.call { callee := (Callee.value (Operand.func 92)), args := #[(Operand.tmp 40), (Operand.tmp 41), (Operand.tmp 42), (Operand.tmp 43)], argTypes := #[49, 3, 3, 122] }), none, ann0⟩] none) (.tidy [0, 1, 2, 3, 4, 10, 11, 12] z (z + 0)))
 (.reg [⟨(some 45), (Op.move (Operand.tmp 3)), none, ann0⟩,
  ⟨(some 46), (Op.binOp BinOp.sub 3 (Operand.tmp 45) (Operand.const (Value.int IntKind.i64 1)) 3), none, ann0⟩,
  ⟨(some 3), (Op.assign (Operand.tmp 46)), none, ann0⟩] none))
 .skip)) (.tidy [0, 1, 2, 3, 4, 10, 11, 12] z (z + 0)))
 (.seq (.post (.reg [⟨(some 48), (Op.move (Operand.tmp 0)), none, ann0⟩,
  ⟨(some 49), (Op.move (Operand.tmp 1)), none, ann0⟩,
  ⟨(some 50), (Op.move (Operand.tmp 2)), none, ann0⟩,
  ⟨(some 51), (Op.move (Operand.tmp 4)), none, ann0⟩,
  ⟨(some 52), (Op.call { callee := (Callee.value (Operand.func 93)), args := #[(Operand.tmp 48), (Operand.tmp 49), (Operand.tmp 50), (Operand.tmp 51)], argTypes := #[49, 3, 3, 122] }), none, ann0⟩,
  ⟨(some 47), (Op.move (Operand.tmp 52)), none, ann0⟩,
  ⟨(some 53), (Op.extract (Operand.tmp 47) 0), none, ann0⟩,
  ⟨(some 54), (Op.extract (Operand.tmp 47) 1), none, ann0⟩,
  ⟨(some 13), (Op.assign (Operand.tmp 53)), none, ann0⟩,
  ⟨(some 14), (Op.assign (Operand.tmp 54)), none, ann0⟩] none) (.tidy [0, 1, 2, 3, 4, 10, 11, 12, 13, 14] z (z + 0)))
 (.seq (.post (.seq (.reg [⟨(some 55), (Op.move (Operand.tmp 14)), none, ann0⟩,
  ⟨(some 56), (Op.binOp BinOp.eql 140 (Operand.tmp 55) (Operand.const (Value.int IntKind.i64 2)) 140), none, ann0⟩] none)
 (.cond (Operand.tmp 56) (.seq (.post (.reg [⟨(some 57), (Op.move (Operand.tmp 0)), none, ann0⟩,
  ⟨(some 58), (Op.move (Operand.tmp 1)), none, ann0⟩,
  ⟨(some 59), (Op.move (Operand.tmp 2)), none, ann0⟩,
  ⟨(some 60), (Op.move (Operand.tmp 4)), none, ann0⟩,
  ⟨(some 61), (Op.call { callee := (Callee.value (Operand.func 94)), args := #[(Operand.tmp 57), (Operand.tmp 58), (Operand.tmp 59), (Operand.tmp 60)], argTypes := #[49, 3, 3, 122] }), none, ann0⟩] none) (.tidy [0, 1, 2, 3, 4, 10, 11, 12, 13] z (z + 0)))
 (.seq (.post (.reg [⟨(some 62), (Op.move (Operand.tmp 2)), none, ann0⟩,
  ⟨(some 63), (Op.binOp BinOp.sub 3 (Operand.tmp 62) (Operand.const (Value.int IntKind.i64 1)) 3), none, ann0⟩,
  ⟨(some 64), (Op.move (Operand.tmp 13)), none, ann0⟩,
  ⟨(some 65), (Op.move (Operand.tmp 1)), none, ann0⟩,
  ⟨(some 66), (Op.binOp BinOp.sub 3 (Operand.tmp 64) (Operand.tmp 65) 3), none, ann0⟩,
  ⟨(some 67), (Op.binOp BinOp.sub 3 (Operand.tmp 63) (Operand.tmp 66) 3), none, ann0⟩,
  ⟨(some 13), (Op.assign (Operand.tmp 67)), none, ann0⟩] none) (.tidy [0, 1, 2, 3, 4, 10, 11, 12, 13] z (z + 0)))
 (.reg [⟨(some 14), (Op.assign (Operand.const (Value.int IntKind.i64 1))), none, ann0⟩] none)))
 .skip)) (.tidy [0, 1, 2, 3, 4, 10, 11, 12, 13, 14] z (z + 0)))
 (.seq (.post (.seq (.post (.reg [⟨(some 68), (Op.move (Operand.tmp 10)), none, ann0⟩,
  ⟨(some 69), (Op.move (Operand.tmp 68)), none, ann0⟩,
  ⟨(some 70), (Op.move (Operand.tmp 11)), (some (69, true)), ann0⟩,
  ⟨(some 71), (Op.pick (Operand.tmp 69) (Operand.tmp 70) (Operand.const (Value.bool false))), none, ann0⟩,
  ⟨(some 72), (Op.move (Operand.tmp 71)), none, ann0⟩,
  ⟨(some 73), (Op.move (Operand.tmp 14)), (some (72, true)), ann0⟩,
  ⟨(some 74), (Op.binOp BinOp.eql 140 (Operand.tmp 73) (Operand.const (Value.int IntKind.i64 1)) 140), (some (72, true)), ann0⟩,
  ⟨(some 75), (Op.pick (Operand.tmp 72) (Operand.tmp 74) (Operand.const (Value.bool false))), none, ann0⟩] none) (.tidy [0, 1, 2, 3, 4, 10, 11, 12, 13, 75] z (z + 0)))
 (.cond (Operand.tmp 75) (.seq (.reg [⟨(some 76), (Op.move (Operand.tmp 0)), none, ann0⟩,
  ⟨(some 77), (Op.move (Operand.tmp 1)), none, ann0⟩,
  ⟨(some 78), (Op.move (Operand.tmp 2)), none, ann0⟩,
  ⟨(some 79), (Op.move (Operand.tmp 4)), none, ann0⟩,
  ⟨(some 80), (Op.call { callee := (Callee.value (Operand.func 95)), args := #[(Operand.tmp 76), (Operand.tmp 77), (Operand.tmp 78), (Operand.tmp 79)], argTypes := #[49, 3, 3, 122] }), none, ann0⟩] none)
 (.cond (Operand.tmp 80) .ret
 .skip))
 .skip)) (.tidy [0, 1, 2, 3, 4, 10, 11, 12, 13] z (z + 0)))
 (.seq (.post (.seq (.post (.reg [⟨(some 81), (Op.move (Operand.tmp 1)), none, ann0⟩,
  ⟨(some 82), (Op.binOp BinOp.gtr 3 (Operand.tmp 81) (Operand.const (Value.int IntKind.i64 0)) 3), none, ann0⟩,
  ⟨(some 83), (Op.move (Operand.tmp 82)), none, ann0⟩,
  ⟨(some 84), (Op.move (Operand.tmp 4)), (some (83, true)), ann0⟩,
  ⟨(some 85), (Op.move (Operand.tmp 0)), (some (83, true)), ann0⟩,
  ⟨(some 86), (Op.move (Operand.tmp 1)), (some (83, true)), ann0⟩,
  ⟨(some 87), (Op.binOp BinOp.sub 3 (Operand.tmp 86) (Operand.const (Value.int IntKind.i64 1)) 3), (some (83, true)), ann0⟩,
  ⟨(some 88), (Op.indexAddr 49 (Operand.tmp 85) (Operand.tmp 87)), (some (83, true)), ann0⟩,
  ⟨(some 89), (Op.load 38 (Operand.tmp 88)), (some (83, true)), ann0⟩,
  ⟨(some 90), (Op.move (Operand.tmp 0)), (some (83, true)), ann0⟩,
  ⟨(some 91), (Op.move (Operand.tmp 13)), (some (83, true)), ann0⟩,
  ⟨(some 92), (Op.indexAddr 49 (Operand.tmp 90) (Operand.tmp 91)), (some (83, true)), ann0⟩,
  ⟨(some 93), (Op.load 38 (Operand.tmp 92)), (some (83, true)), ann0⟩,
  ⟨(some 94), (Op.call { callee := (Callee.value (Operand.tmp 84)), args := #[(Operand.tmp 89), (Operand.tmp 93)], argTypes := #[38, 38] }), (some (83, true)), ann0⟩,
  ⟨(some 95), (Op.binOp BinOp.lss 3 (Operand.tmp 94) (Operand.const (Value.int IntKind.i64 0)) 3), (some (83, true)), ann0⟩,
  ⟨(some 96), (Op.unOp UnOp.not 4 (Operand.tmp 95)), (some (83, true)), ann0⟩,
  ⟨(some 97), (Op.pick (Operand.tmp 83) (Operand.tmp 96) (Operand.const (Value.bool false))), none, ann0⟩] (some [0, 1, 3, 7, 7, 7, 39, 119, 247, 7, 7, 1543, 3591, 8191, 16383, 32767, 65535])) (.tidy [0, 1, 2, 3, 4, 10, 11, 12, 13, 97] z (z + 0)))
 (.cond (Operand.tmp 97) (.seq (.post (.reg [⟨(some 98), (Op.move (Operand.tmp 0)), none, ann0⟩,
  ⟨(some 99), (Op.move (Operand.tmp 1)), none, ann0⟩,
  ⟨(some 100), (Op.move (Operand.tmp 2)), none, ann0⟩,
  ⟨(some 101), (Op.move (Operand.tmp 13)), none, ann0⟩,
  ⟨(some 102), (Op.move (Operand.tmp 4)), none, ann0⟩,
  ⟨(some 103), (Op.call { callee := (Callee.value (Operand.func 96)), args := #[(Operand.tmp 98), (Operand.tmp 99), (Operand.tmp 100), (Operand.tmp 101), (Operand.tmp 102)], argTypes := #[49, 3, 3, 3, 122] }), none, ann0⟩,
  ⟨(some 15), (Op.assign (Operand.tmp 103)), none, ann0⟩] none) (.tidy [0, 2, 3, 4, 10, 11, 15] z (z + 0)))
 (.seq (.reg [⟨(some 104), (Op.move (Operand.tmp 15)), none, ann0⟩,
  ⟨(some 1), (Op.assign (Operand.tmp 104)), none, ann0⟩] none)
 (.exit 1)))
 .skip)) (.tidy [0, 1, 2, 3, 4, 12, 13] z (z + 0)))
 (.seq (.post (.reg [⟨(some 106), (Op.move (Operand.tmp 0)), none, ann0⟩,
  ⟨(some 107), (Op.move (Operand.tmp 1)), none, ann0⟩,
  ⟨(some 108), (Op.move (Operand.tmp 2)), none, ann0⟩,
  ⟨(some 109), (Op.move (Operand.tmp 13)), none, ann0⟩,
  ⟨(some 110), (Op.move (Operand.tmp 4)), none, ann0⟩,
  ⟨(some 111), (Op.call { callee := (Callee.value (Operand.func 97)), args := #[(Operand.tmp 106), (Operand.tmp 107), (Operand.tmp 108), (Operand.tmp 109), (Operand.tmp 110)], argTypes := #[49, 3, 3, 3, 122] }), none, ann0⟩,
  ⟨(some 105), (Op.move (Operand.tmp 111)), none, ann0⟩,
  ⟨(some 112), (Op.extract (Operand.tmp 105) 0), none, ann0⟩,
  ⟨(some 113), (Op.extract (Operand.tmp 105) 1), none, ann0⟩,
  ⟨(some 16), (Op.assign (Operand.tmp 112)), none, ann0⟩,
  ⟨(some 17), (Op.assign (Operand.tmp 113)), none, ann0⟩] none) (.tidy [0, 1, 2, 3, 4, 12, 16, 17] z (z + 0)))
 (.seq (.reg [⟨(some 114), (Op.move (Operand.tmp 17)), none, ann0⟩,
  ⟨(some 11), (Op.assign (Operand.tmp 114)), none, ann0⟩] none)
 (.seq (.post (.reg [⟨(some 115), (Op.move (Operand.tmp 16)), none, ann0⟩,
  ⟨(some 116), (Op.move (Operand.tmp 1)), none, ann0⟩,
  ⟨(some 117), (Op.binOp BinOp.sub 3 (Operand.tmp 115) (Operand.tmp 116) 3), none, ann0⟩,
  ⟨(some 118), (Op.move (Operand.tmp 2)), none, ann0⟩,
  ⟨(some 119), (Op.move (Operand.tmp 16)), none, ann0⟩,
  ⟨(some 120), (Op.binOp BinOp.sub 3 (Operand.tmp 118) (Operand.tmp 119) 3), none, ann0⟩,
  ⟨(some 18), (Op.assign (Operand.tmp 117)), none, ann0⟩,
  ⟨(some 19), (Op.assign (Operand.tmp 120)), none, ann0⟩] none) (.tidy [0, 1, 2, 3, 4, 11, 12, 16, 18, 19] z (z + 0)))
 (.seq (.reg [⟨(some 121), (Op.move (Operand.tmp 12)), none, ann0⟩,
  ⟨(some 122), (Op.binOp BinOp.quo 3 (Operand.tmp 121) (Operand.const (Value.int IntKind.i64 8)) 3), none, ann0⟩,
  ⟨(some 20), (Op.assign (Operand.tmp 122)), none, ann0⟩] none)
 (.seq (.reg [⟨(some 123), (Op.move (Operand.tmp 18)), none, ann0⟩,
  ⟨(some 124), (Op.move (Operand.tmp 19)), none, ann0⟩,
  ⟨(some 125), (Op.binOp BinOp.lss 3 (Operand.tmp 123) (Operand.tmp 124) 3), none, ann0⟩] none)
 (.cond (Operand.tmp 125) (.seq (.post (.reg [⟨(some 126), (Op.move (Operand.tmp 18)), none, ann0⟩,
  ⟨(some 127), (Op.move (Operand.tmp 20)), none, ann0⟩,
  ⟨(some 128), (Op.binOp BinOp.geq 3 (Operand.tmp 126) (Operand.tmp 127) 3), none, ann0⟩,
  ⟨(some 10), (Op.assign (Operand.tmp 128)), none, ann0⟩] none) (.tidy [0, 1, 2, 3, 4, 10, 11, 16] z (z + 0)))
 (.seq (.post (.reg [⟨(some 129), (Op.move (Operand.tmp 0)), none, ann0⟩,
  ⟨(some 130), (Op.move (Operand.tmp 1)), none, ann0⟩,
  ⟨(some 131), (Op.move (Operand.tmp 16)), none, ann0⟩,
  ⟨(some 132), (Op.move (Operand.tmp 3)), none, ann0⟩,
  ⟨(some 133), (Op.move (Operand.tmp 4)), none, ann0⟩,
  ⟨(some 134), (Op.call { callee := (Callee.value (Operand.func 72)), args := #[(Operand.tmp 129), (Operand.tmp 130), (Operand.tmp 131), (Operand.tmp 132), (Operand.tmp 133)], argTypes := #[49, 3, 3, 3, 122] }), none, ann0⟩] none) (.tidy [0, 2, 3, 4, 10, 11, 16] z (z + 0)))
 (.reg [⟨(some 135), (Op.move (Operand.tmp 16)), none, ann0⟩,
  ⟨(some 136), (Op.binOp BinOp.add 3 (Operand.tmp 135) (Operand.const (Value.int IntKind.i64 1)) 3), none, ann0⟩,
  ⟨(some 1), (Op.assign (Operand.tmp 136)), none, ann0⟩] none)))
 (.seq (.reg [⟨(some 137), (Op.move (Operand.tmp 19)), none, ann0⟩,
  ⟨(some 138), (Op.move (Operand.tmp 20)), none, ann0⟩,
  ⟨(some 139), (Op.binOp BinOp.geq 3 (Operand.tmp 137) (Operand.tmp 138) 3), none, ann0⟩,
  ⟨(some 10), (Op.assign (Operand.tmp 139)), none, ann0⟩] none)
 (.seq (.post (.reg [⟨(some 140), (Op.move (Operand.tmp 0)), none, ann0⟩,
  ⟨(some 141), (Op.move (Operand.tmp 16)), none, ann0⟩,
  ⟨(some 142), (Op.binOp BinOp.add 3 (Operand.tmp 141) (Operand.const (Value.int IntKind.i64 1)) 3), none, ann0⟩,
  ⟨(some 143), (Op.move (Operand.tmp 2)), none, ann0⟩,
  ⟨(some 144), (Op.move (Operand.tmp 3)), none, ann0⟩,
  ⟨(some 145), (Op.move (Operand.tmp 4)), none, ann0⟩,
  ⟨(some 146), (Op.call { callee := (Callee.value (Operand.func 72)), args := #[(Operand.tmp 140), (Operand.tmp 142), (Operand.tmp 143), (Operand.tmp 144), (Operand.tmp 145)], argTypes := #[49, 3, 3, 3, 122] }), none, ann0⟩] none) (.tidy [0, 1, 3, 4, 10, 11, 16] z (z + 0)))
 (.reg [⟨(some 147), (Op.move (Operand.tmp 16)), none, ann0⟩,
  ⟨(some 2), (Op.assign (Operand.tmp 147)), none, ann0⟩] none)))))))))))))))))) (.tidy [0, 1, 2, 3, 4, 10, 11] z (z + 0))
def s72_1 (z : Nat) : SC := c72_1 z
theorem e72_1 {C : Pg} {z : Nat} {st : St} {ks : List Fr} {K : Ex → St → Prop} : wpk C (s72_1 z) st ks K ↔ wpk C (c72_1 z) st ks K := Iff.rfl
def s72 (z : Nat) : SFn := ⟨5, 148, [],
 (.seq (.reg [⟨(some 10), (Op.assign (Operand.const (Value.bool true))), none, ann0⟩] none)
 (.seq (.reg [⟨(some 11), (Op.assign (Operand.const (Value.bool true))), none, ann0⟩] none)
 (.post (.block 0 (.pre (.tidy [0, 1, 2, 3, 4, 10, 11] z (z + 0)) (.loop (s72_1 z)))) (.tidy [] z (z + 0)))))⟩
theorem F72 (z : Nat) : FOk Try.prog 72 (s72 z) := by unfold FOk; kernel_rfl
def c73_2 (z : Nat) : SC := .post (.seq (.post (.seq (.post (.reg [⟨(some 18), (Op.move (Operand.tmp 9)), none, ann0⟩,
  ⟨(some 19), (Op.move (Operand.tmp 1)), none, ann0⟩,
  ⟨(some 20), (Op.binOp BinOp.gtr 3 (Operand.tmp 18) (Operand.tmp 19) 3), none, ann0⟩,
  ⟨(some 21), (Op.move (Operand.tmp 20)), none, ann0⟩,
  ⟨(some 22), (Op.move (Operand.tmp 3)), (some (21, true)), ann0⟩,
  ⟨(some 23), (Op.move (Operand.tmp 0)), (some (21, true)), ann0⟩,
  ⟨(some 24), (Op.move (Operand.tmp 9)), (some (21, true)), ann0⟩,
  ⟨(some 25), (Op.indexAddr 51 (Operand.tmp 23) (Operand.tmp 24)), (some (21, true)), ann0⟩,
  ⟨(some 26), (Op.load 40 (Operand.tmp 25)), (some (21, true)), ann0⟩,
  ⟨(some 27), (Op.move (Operand.tmp 0)), (some (21, true)), ann0⟩,
  ⟨(some 28), (Op.move (Operand.tmp 9)), (some (21, true)), ann0⟩,
  ⟨(some 29), (Op.binOp BinOp.sub 3 (Operand.tmp 28) (Operand.const (Value.int IntKind.i64 1)) 3), (some (21, true)), ann0⟩,
  ⟨(some 30), (Op.indexAddr 51 (Operand.tmp 27) (Operand.tmp 29)), (some (21, true)), ann0⟩,
  ⟨(some 31), (Op.load 40 (Operand.tmp 30)), (some (21, true)), ann0⟩,
  ⟨(some 32), (Op.call { callee := (Callee.value (Operand.tmp 22)), args := #[(Operand.tmp 26), (Operand.tmp 31)], argTypes := #[40, 40] }), (some (21, true)), ann0⟩,
  ⟨(some 33), (Op.binOp BinOp.lss 3 (Operand.tmp 32) (Operand.const (Value.int IntKind.i64 0)) 3), (some (21, true)), ann0⟩,
  ⟨(some 34), (Op.pick (Operand.tmp 21) (Operand.tmp 33) (Operand.const (Value.bool false))), none, ann0⟩] (some [0, 0, 3, 7, 15, 15, 15, 111, 239, 15, 15, 1039, 3599, 7695, 16383, 32767, 65535])) (.tidy [0, 1, 2, 3, 8, 9, 34] z (z + 0)))
 (.cond (Operand.tmp 34) .skip
 (.exit 2))) (.tidy [0, 1, 2, 3, 8, 9] z (z + 0)))
 (.seq (.post (.block 3 (.reg [⟨(some 37), (Op.move (Operand.tmp 0)), none, ann0⟩,
  ⟨(some 38), (Op.move (Operand.tmp 9)), none, ann0⟩,
  ⟨(some 39), (Op.move (Operand.tmp 0)), none, ann0⟩,
  ⟨(some 40), (Op.move (Operand.tmp 9)), none, ann0⟩,
  ⟨(some 41), (Op.binOp BinOp.sub 3 (Operand.tmp 40) (Operand.const (Value.int IntKind.i64 1)) 3), none, ann0⟩,
  ⟨(some 42), (Op.move (Operand.tmp 0)), none, ann0⟩,
  ⟨(some 43), (Op.move (Operand.tmp 9)), none, ann0⟩,
  ⟨(some 44), (Op.binOp BinOp.sub 3 (Operand.tmp 43) (Operand.const (Value.int IntKind.i64 1)) 3), none, ann0⟩,
  ⟨(some 45), (Op.indexAddr 51 (Operand.tmp 42) (Operand.tmp 44)), none, ann0⟩,
  ⟨(some 46), (Op.load 40 (Operand.tmp 45)), none, ann0⟩,
  ⟨(some 47), (Op.move (Operand.tmp 0)), none, ann0⟩,
  ⟨(some 48), (Op.move (Operand.tmp 9)), none, ann0⟩,
  ⟨(some 49), (Op.indexAddr 51 (Operand.tmp 47) (Operand.tmp 48)), none, ann0⟩,
  ⟨(some 50), (Op.load 40 (Operand.tmp 49)), none, ann0⟩,
  ⟨(some 51), (Op.indexAddr 51 (Operand.tmp 37) (Operand.tmp 38)), none, ann0⟩,
  ⟨none, (Op.store 40 (Operand.tmp 51) (Operand.tmp 46)), none, ann0⟩,
  ⟨(some 52), (Op.indexAddr 51 (Operand.tmp 39) (Operand.tmp 41)), none, ann0⟩,
  ⟨none, (Op.store 40 (Operand.tmp 52) (Operand.tmp 50)), none, ann0⟩] (some [0, 0, 0, 0, 8, 0, 0, 64, 224, 480, 0, 0, 3072, 7168, 16355, 32739, 65535, 131071]))) (.tidy [0, 1, 2, 3, 8, 9] z (z + 0)))
 (.reg [⟨(some 35), (Op.move (Operand.tmp 9)), none, ann0⟩,
  ⟨(some 36), (Op.binOp BinOp.sub 3 (Operand.tmp 35) (Operand.const (Value.int IntKind.i64 1)) 3), none, ann0⟩,
  ⟨(some 9), (Op.assign (Operand.tmp 36)), none, ann0⟩] none))) (.tidy [0, 1, 2, 3, 8, 9] z (z + 0))
def s73_2 (z : Nat) : SC := c73_2 z
theorem e73_2 {C : Pg} {z : Nat} {st : St} {ks : List Fr} {K : Ex → St → Prop} : wpk C (s73_2 z) st ks K ↔ wpk C (c73_2 z) st ks K := Iff.rfl
def c73_1 (z : Nat) : SC := .post (.seq (.post (.seq (.reg [⟨(some 12), (Op.move (Operand.tmp 8)), none, ann0⟩,
  ⟨(some 13), (Op.move (Operand.tmp 2)), none, ann0⟩,
  ⟨(some 14), (Op.binOp BinOp.lss 3 (Operand.tmp 12) (Operand.tmp 13) 3), none, ann0⟩] none)
 (.cond (Operand.tmp 14) .skip
 (.exit 0))) (.tidy [0, 1, 2, 3, 8] z (z + 0)))
 (.seq (.post (.block 1 (.seq (.reg [⟨(some 17), (Op.move (Operand.tmp 8)), none, ann0⟩,
  ⟨(some 9), (Op.assign (Operand.tmp 17)), none, ann0⟩] none)
 (.post (.block 2 (.pre (.tidy [0, 1, 2, 3, 8, 9] z (z + 0)) (.loop (s73_2 z)))) (.tidy [0, 1, 2, 3, 8] z (z + 0))))) (.tidy [0, 1, 2, 3, 8] z (z + 0)))
 (.reg [⟨(some 15), (Op.move (Operand.tmp 8)), none, ann0⟩,
  ⟨(some 16), (Op.binOp BinOp.add 3 (Operand.tmp 15) (Operand.const (Value.int IntKind.i64 1)) 3), none, ann0⟩,
  ⟨(some 8), (Op.assign (Operand.tmp 16)), none, ann0⟩] none))) (.tidy [0, 1, 2, 3, 8] z (z + 0))
def s73_1 (z : Nat) : SC := c73_1 z
theorem e73_1 {C : Pg} {z : Nat} {st : St} {ks : List Fr} {K : Ex → St → Prop} : wpk C (s73_1 z) st ks K ↔ wpk C (c73_1 z) st ks K := Iff.rfl
def s73 (z : Nat) : SFn := ⟨4, 53, [],
 (.seq (.reg [⟨(some 10), (Op.move (Operand.tmp 1)), none, ann0⟩,
  ⟨(some 11), (Op.binOp BinOp.add 3 (Operand.tmp 10) (Operand.const (Value.int IntKind.i64 1)) 3), none, ann0⟩,
  ⟨(some 8), (Op.assign (Operand.tmp 11)), none, ann0⟩] none)
 (.post (.block 0 (.pre (.tidy [0, 1, 2, 3, 8] z (z + 0)) (.loop (s73_1 z)))) (.tidy [] z (z + 0))))⟩
theorem F73 (z : Nat) : FOk Try.prog 73 (s73 z) := by unfold FOk; kernel_rfl
def s81 (z : Nat) : SFn := ⟨1, 19, [(ResultVar.tmp 2)],
 (.seq (.reg [⟨(some 2), (Op.assign (Operand.const (Value.int IntKind.i64 0))), none, ann0⟩] none)
 (.seq (.post (.seq (.reg [⟨(some 3), (Op.move (Operand.tmp 0)), none, ann0⟩,
  ⟨(some 4), (Op.binOp BinOp.geq 148 (Operand.tmp 3) (Operand.const (Value.int IntKind.u32 65536)) 148), none, ann0⟩] none)
 (.cond (Operand.tmp 4) (.seq (.reg [⟨(some 5), (Op.move (Operand.tmp 0)), none, ann0⟩,
  ⟨(some 6), (Op.binOp BinOp.shr 148 (Operand.tmp 5) (Operand.const (Value.int IntKind.u64 16)) 125), none, ann0⟩,
  ⟨(some 0), (Op.assign (Operand.tmp 6)), none, ann0⟩] none)
 (.reg [⟨(some 2), (Op.assign (Operand.const (Value.int IntKind.i64 16))), none, ann0⟩] none))
 .skip)) (.tidy [0, 2] z (z + 0)))
 (.seq (.post (.seq (.reg [⟨(some 7), (Op.move (Operand.tmp 0)), none, ann0⟩,
  ⟨(some 8), (Op.binOp BinOp.geq 148 (Operand.tmp 7) (Operand.const (Value.int IntKind.u32 256)) 148), none, ann0⟩] none)
 (.cond (Operand.tmp 8) (.seq (.reg [⟨(some 9), (Op.move (Operand.tmp 0)), none, ann0⟩,
  ⟨(some 10), (Op.binOp BinOp.shr 148 (Operand.tmp 9) (Operand.const (Value.int IntKind.u64 8)) 125), none, ann0⟩,
  ⟨(some 0), (Op.assign (Operand.tmp 10)), none, ann0⟩] none)
 (.reg [⟨(some 11), (Op.move (Operand.tmp 2)), none, ann0⟩,
  ⟨(some 12), (Op.binOp BinOp.add 3 (Operand.tmp 11) (Operand.const (Value.int IntKind.i64 8)) 3), none, ann0⟩,
  ⟨(some 2), (Op.assign (Operand.tmp 12)), none, ann0⟩] none))
 .skip)) (.tidy [0, 2] z (z + 0)))
 (.seq (.reg [⟨(some 13), (Op.move (Operand.tmp 2)), none, ann0⟩,
  ⟨(some 14), (Op.move (Operand.tmp 0)), none, ann0⟩,
  ⟨(some 15), (Op.convert 148 5 (Operand.tmp 14)), none, ann0⟩,
  ⟨(some 16), (Op.index 9 (Operand.const (Value.string ⟨#[0, 1, 2, 2, 3, 3, 3, 3, 4, 4, 4, 4, 4, 4, 4, 4, 5, 5, 5, 5, 5, 5, 5, 5, 5, 5, 5, 5, 5, 5, 5, 5, 6, 6, 6, 6, 6, 6, 6, 6, 6, 6, 6, 6, 6, 6, 6, 6, 6, 6, 6, 6, 6, 6, 6, 6, 6, 6, 6, 6, 6, 6, 6, 6, 7, 7, 7, 7, 7, 7, 7, 7, 7, 7, 7, 7, 7, 7, 7, 7, 7, 7, 7, 7, 7, 7, 7, 7, 7, 7, 7, 7, 7, 7, 7, 7, 7, 7, 7, 7, 7, 7, 7, 7, 7, 7, 7, 7, 7, 7, 7, 7, 7, 7, 7, 7, 7, 7, 7, 7, 7, 7, 7, 7, 7, 7, 7, 7, 8, 8, 8, 8, 8, 8, 8, 8, 8, 8, 8, 8, 8, 8, 8, 8, 8, 8, 8, 8, 8, 8, 8, 8, 8, 8, 8, 8, 8, 8, 8, 8, 8, 8, 8, 8, 8, 8, 8, 8, 8, 8, 8, 8, 8, 8, 8, 8, 8, 8, 8, 8, 8, 8, 8, 8, 8, 8, 8, 8, 8, 8, 8, 8, 8, 8, 8, 8, 8, 8, 8, 8, 8, 8, 8, 8, 8, 8, 8, 8, 8, 8, 8, 8, 8, 8, 8, 8, 8, 8, 8, 8, 8, 8, 8, 8, 8, 8, 8, 8, 8, 8, 8, 8, 8, 8, 8, 8, 8, 8, 8, 8, 8, 8, 8, 8, 8, 8, 8, 8, 8, 8, 8, 8, 8, 8, 8, 8]⟩)) (Operand.tmp 15)), none, ann0⟩,
  ⟨(some 17), (Op.convert 5 3 (Operand.tmp 16)), none, ann0⟩,
  ⟨(some 18), (Op.binOp BinOp.add 3 (Operand.tmp 13) (Operand.tmp 17) 3), none, ann0⟩,
  ⟨(some 2), (Op.assign (Operand.tmp 18)), none, ann0⟩] none)
 .ret))))⟩
theorem F81 (z : Nat) : FOk Try.prog 81 (s81 z) := by unfold FOk; kernel_rfl
def s82 (z : Nat) : SFn := ⟨1, 25, [(ResultVar.tmp 2)],
 (.seq (.reg [⟨(some 2), (Op.assign (Operand.const (Value.int IntKind.i64 0))), none, ann0⟩] none)
 (.seq (.post (.seq (.reg [⟨(some 3), (Op.move (Operand.tmp 0)), none, ann0⟩,
  ⟨(some 4), (Op.binOp BinOp.geq 150 (Operand.tmp 3) (Operand.const (Value.int IntKind.u64 4294967296)) 150), none, ann0⟩] none)
 (.cond (Operand.tmp 4) (.seq (.reg [⟨(some 5), (Op.move (Operand.tmp 0)), none, ann0⟩,
  ⟨(some 6), (Op.binOp BinOp.shr 150 (Operand.tmp 5) (Operand.const (Value.int IntKind.u64 32)) 125), none, ann0⟩,
  ⟨(some 0), (Op.assign (Operand.tmp 6)), none, ann0⟩] none)
 (.reg [⟨(some 2), (Op.assign (Operand.const (Value.int IntKind.i64 32))), none, ann0⟩] none))
 .skip)) (.tidy [0, 2] z (z + 0)))
 (.seq (.post (.seq (.reg [⟨(some 7), (Op.move (Operand.tmp 0)), none, ann0⟩,
  ⟨(some 8), (Op.binOp BinOp.geq 150 (Operand.tmp 7) (Operand.const (Value.int IntKind.u64 65536)) 150), none, ann0⟩] none)
 (.cond (Operand.tmp 8) (.seq (.reg [⟨(some 9), (Op.move (Operand.tmp 0)), none, ann0⟩,
  ⟨(some 10), (Op.binOp BinOp.shr 150 (Operand.tmp 9) (Operand.const (Value.int IntKind.u64 16)) 125), none, ann0⟩,
  ⟨(some 0), (Op.assign (Operand.tmp 10)), none, ann0⟩] none)
 (.reg [⟨(some 11), (Op.move (Operand.tmp 2)), none, ann0⟩,
  ⟨(some 12), (Op.binOp BinOp.add 3 (Operand.tmp 11) (Operand.const (Value.int IntKind.i64 16)) 3), none, ann0⟩,
  ⟨(some 2), (Op.assign (Operand.tmp 12)), none, ann0⟩] none))
 .skip)) (.tidy [0, 2] z (z + 0)))
 (.seq (.post (.seq (.reg [⟨(some 13), (Op.move (Operand.tmp 0)), none, ann0⟩,
  ⟨(some 14), (Op.binOp BinOp.geq 150 (Operand.tmp 13) (Operand.const (Value.int IntKind.u64 256)) 150), none, ann0⟩] none)
 (.cond (Operand.tmp 14) (.seq (.reg [⟨(some 15), (Op.move (Operand.tmp 0)), none, ann0⟩,
  ⟨(some 16), (Op.binOp BinOp.shr 150 (Operand.tmp 15) (Operand.const (Value.int IntKind.u64 8)) 125), none, ann0⟩,
  ⟨(some 0), (Op.assign (Operand.tmp 16)), none, ann0⟩] none)
 (.reg [⟨(some 17), (Op.move (Operand.tmp 2)), none, ann0⟩,
  ⟨(some 18), (Op.binOp BinOp.add 3 (Operand.tmp 17) (Operand.const (Value.int IntKind.i64 8)) 3), none, ann0⟩,
  ⟨(some 2), (Op.assign (Operand.tmp 18)), none, ann0⟩] none))
 .skip)) (.tidy [0, 2] z (z + 0)))
 (.seq (.reg [⟨(some 19), (Op.move (Operand.tmp 2)), none, ann0⟩,
  ⟨(some 20), (Op.move (Operand.tmp 0)), none, ann0⟩,
  ⟨(some 21), (Op.convert 150 5 (Operand.tmp 20)), none, ann0⟩,
  ⟨(some 22), (Op.index 9 (Operand.const (Value.string ⟨#[0, 1, 2, 2, 3, 3, 3, 3, 4, 4, 4, 4, 4, 4, 4, 4, 5, 5, 5, 5, 5, 5, 5, 5, 5, 5, 5, 5, 5, 5, 5, 5, 6, 6, 6, 6, 6, 6, 6, 6, 6, 6, 6, 6, 6, 6, 6, 6, 6, 6, 6, 6, 6, 6, 6, 6, 6, 6, 6, 6, 6, 6, 6, 6, 7, 7, 7, 7, 7, 7, 7, 7, 7, 7, 7, 7, 7, 7, 7, 7, 7, 7, 7, 7, 7, 7, 7, 7, 7, 7, 7, 7, 7, 7, 7, 7, 7, 7, 7, 7, 7, 7, 7, 7, 7, 7, 7, 7, 7, 7, 7, 7, 7, 7, 7, 7, 7, 7, 7, 7, 7, 7, 7, 7, 7, 7, 7, 7, 8, 8, 8, 8, 8, 8, 8, 8, 8, 8, 8, 8, 8, 8, 8, 8, 8, 8, 8, 8, 8, 8, 8, 8, 8, 8, 8, 8, 8, 8, 8, 8, 8, 8, 8, 8, 8, 8, 8, 8, 8, 8, 8, 8, 8, 8, 8, 8, 8, 8, 8, 8, 8, 8, 8, 8, 8, 8, 8, 8, 8, 8, 8, 8, 8, 8, 8, 8, 8, 8, 8, 8, 8, 8, 8, 8, 8, 8, 8, 8, 8, 8, 8, 8, 8, 8, 8, 8, 8, 8, 8, 8, 8, 8, 8, 8, 8, 8, 8, 8, 8, 8, 8, 8, 8, 8, 8, 8, 8, 8, 8, 8, 8, 8, 8, 8, 8, 8, 8, 8, 8, 8, 8, 8, 8, 8, 8, 8]⟩)) (Operand.tmp 21)), none, ann0⟩,
  ⟨(some 23), (Op.convert 5 3 (Operand.tmp 22)), none, ann0⟩,
  ⟨(some 24), (Op.binOp BinOp.add 3 (Operand.tmp 19) (Operand.tmp 23) 3), none, ann0⟩,
  ⟨(some 2), (Op.assign (Operand.tmp 24)), none, ann0⟩] none)
 .ret)))))⟩
theorem F82 (z : Nat) : FOk Try.prog 82 (s82 z) := by unfold FOk; kernel_rfl
def c90_2 (z : Nat) : SC := .post (.seq (.post (.seq (.post (.reg [⟨(some 18), (Op.move (Operand.tmp 9)), none, ann0⟩,
  ⟨(some 19), (Op.move (Operand.tmp 1)), none, ann0⟩,
  ⟨(some 20), (Op.binOp BinOp.gtr 3 (Operand.tmp 18) (Operand.tmp 19) 3), none, ann0⟩,
  ⟨(some 21), (Op.move (Operand.tmp 20)), none, ann0⟩,
  ⟨(some 22), (Op.move (Operand.tmp 3)), (some (21, true)), ann0⟩,
  ⟨(some 23), (Op.move (Operand.tmp 0)), (some (21, true)), ann0⟩,
  ⟨(some 24), (Op.move (Operand.tmp 9)), (some (21, true)), ann0⟩,
  ⟨(some 25), (Op.indexAddr 49 (Operand.tmp 23) (Operand.tmp 24)), (some (21, true)), ann0⟩,
  ⟨(some 26), (Op.load 38 (Operand.tmp 25)), (some (21, true)), ann0⟩,
  ⟨(some 27), (Op.move (Operand.tmp 0)), (some (21, true)), ann0⟩,
  ⟨(some 28), (Op.move (Operand.tmp 9)), (some (21, true)), ann0⟩,
  ⟨(some 29), (Op.binOp BinOp.sub 3 (Operand.tmp 28) (Operand.const (Value.int IntKind.i64 1)) 3), (some (21, true)), ann0⟩,
  ⟨(some 30), (Op.indexAddr 49 (Operand.tmp 27) (Operand.tmp 29)), (some (21, true)), ann0⟩,
  ⟨(some 31), (Op.load 38 (Operand.tmp 30)), (some (21, true)), ann0⟩,
  ⟨(some 32), (Op.call { callee := (Callee.value (Operand.tmp 22)), args := #[(Operand.tmp 26), (Operand.tmp 31)], argTypes := #[38, 38] }), (some (21, true)), ann0⟩,
  ⟨(some 33), (Op.binOp BinOp.lss 3 (Operand.tmp 32) (Operand.const (Value.int IntKind.i64 0)) 3), (some (21, true)), ann0⟩,
  ⟨(some 34), (Op.pick (Operand.tmp 21) (Operand.tmp 33) (Operand.const (Value.bool false))), none, ann0⟩] (some [0, 0, 3, 7, 15, 15, 15, 111, 239, 15, 15, 1039, 3599, 7695, 16383, 32767, 65535])) (.tidy [0, 1, 2, 3, 8, 9, 34] z (z + 0)))
 (.cond (Operand.tmp 34) .skip
 (.exit 2))) (.tidy [0, 1, 2, 3, 8, 9] z (z + 0)))
 (.seq (.post (.block 3 (.reg [⟨(some 37), (Op.move (Operand.tmp 0)), none, ann0⟩,
  ⟨(some 38), (Op.move (Operand.tmp 9)), none, ann0⟩,
  ⟨(some 39), (Op.move (Operand.tmp 0)), none, ann0⟩,
  ⟨(some 40), (Op.move (Operand.tmp 9)), none, ann0⟩,
  ⟨(some 41), (Op.binOp BinOp.sub 3 (Operand.tmp 40) (Operand.const (Value.int IntKind.i64 1)) 3), none, ann0⟩,
  ⟨(some 42), (Op.move (Operand.tmp 0)), none, ann0⟩,
  ⟨(some 43), (Op.move (Operand.tmp 9)), none, ann0⟩,
  ⟨(some 44), (Op.binOp BinOp.sub 3 (Operand.tmp 43) (Operand.const (Value.int IntKind.i64 1)) 3), none, ann0⟩,
  ⟨(some 45), (Op.indexAddr 49 (Operand.tmp 42) (Operand.tmp 44)), none, ann0⟩,
  ⟨(some 46), (Op.load 38 (Operand.tmp 45)), none, ann0⟩,
  ⟨(some 47), (Op.move (Operand.tmp 0)), none, ann0⟩,
  ⟨(some 48), (Op.move (Operand.tmp 9)), none, ann0⟩,
  ⟨(some 49), (Op.indexAddr 49 (Operand.tmp 47) (Operand.tmp 48)), none, ann0⟩,
  ⟨(some 50), (Op.load 38 (Operand.tmp 49)), none, ann0⟩,
  ⟨(some 51), (Op.indexAddr 49 (Operand.tmp 37) (Operand.tmp 38)), none, ann0⟩,
  ⟨none, (Op.store 38 (Operand.tmp 51) (Operand.tmp 46)), none, ann0⟩,
  ⟨(some 52), (Op.indexAddr 49 (Operand.tmp 39) (Operand.tmp 41)), none, ann0⟩,
  ⟨none, (Op.store 38 (Operand.tmp 52) (Operand.tmp 50)), none, ann0⟩] (some [0, 0, 0, 0, 8, 0, 0, 64, 224, 480, 0, 0, 3072, 7168, 16355, 32739, 65535, 131071]))) (.tidy [0, 1, 2, 3, 8, 9] z (z + 0)))
 (.reg [⟨(some 35), (Op.move (Operand.tmp 9)), none, ann0⟩,
  ⟨(some 36), (Op.binOp BinOp.sub 3 (Operand.tmp 35) (Operand.const (Value.int IntKind.i64 1)) 3), none, ann0⟩,
  ⟨(some 9), (Op.assign (Operand.tmp 36)), none, ann0⟩] none))) (.tidy [0, 1, 2, 3, 8, 9] z (z + 0))
def s90_2 (z : Nat) : SC := c90_2 z
theorem e90_2 {C : Pg} {z : Nat} {st : St} {ks : List Fr} {K : Ex → St → Prop} : wpk C (s90_2 z) st ks K ↔ wpk C (c90_2 z) st ks K := Iff.rfl
def c90_1 (z : Nat) : SC := .post (.seq (.post (.seq (.reg [⟨(some 12), (Op.move (Operand.tmp 8)), none, ann0⟩,
  ⟨(some 13), (Op.move (Operand.tmp 2)), none, ann0⟩,
  ⟨(some 14), (Op.binOp BinOp.lss 3 (Operand.tmp 12) (Operand.tmp 13) 3), none, ann0⟩] none)
 (.cond (Operand.tmp 14) .skip
 (.exit 0))) (.tidy [0, 1, 2, 3, 8] z (z + 0)))
 (.seq (.post (.block 1 (.seq (.reg [⟨(some 17), (Op.move (Operand.tmp 8)), none, ann0⟩,
  ⟨(some 9), (Op.assign (Operand.tmp 17)), none, ann0⟩] none)
 (.post (.block 2 (.pre (.tidy [0, 1, 2, 3, 8, 9] z (z + 0)) (.loop (s90_2 z)))) (.tidy [0, 1, 2, 3, 8] z (z + 0))))) (.tidy [0, 1, 2, 3, 8] z (z + 0)))
 (.reg [⟨(some 15), (Op.move (Operand.tmp 8)), none, ann0⟩,
  ⟨(some 16), (Op.binOp BinOp.add 3 (Operand.tmp 15) (Operand.const (Value.int IntKind.i64 1)) 3), none, ann0⟩,
  ⟨(some 8), (Op.assign (Operand.tmp 16)), none, ann0⟩] none))) (.tidy [0, 1, 2, 3, 8] z (z + 0))
def s90_1 (z : Nat) : SC := c90_1 z
theorem e90_1 {C : Pg} {z : Nat} {st : St} {ks : List Fr} {K : Ex → St → Prop} : wpk C (s90_1 z) st ks K ↔ wpk C (c90_1 z) st ks K := Iff.rfl
def s90 (z : Nat) : SFn := ⟨4, 53, [],
 (.seq (.reg [⟨(some 10), (Op.move (Operand.tmp 1)), none, ann0⟩,
  ⟨(some 11), (Op.binOp BinOp.add 3 (Operand.tmp 10) (Operand.const (Value.int IntKind.i64 1)) 3), none, ann0⟩,
  ⟨(some 8), (Op.assign (Operand.tmp 11)), none, ann0⟩] none)
 (.post (.block 0 (.pre (.tidy [0, 1, 2, 3, 8] z (z + 0)) (.loop (s90_1 z)))) (.tidy [] z (z + 0))))⟩
theorem F90 (z : Nat) : FOk Try.prog 90 (s90 z) := by unfold FOk; kernel_rfl
def c47_1 (z : Nat) : SC := .post (.seq (.post (.seq (.reg [⟨(some 16), (Op.move (Operand.tmp 6)), none, ann0⟩,
  ⟨(some 17), (Op.move (Operand.tmp 0)), none, ann0⟩,
  ⟨(some 18), (Op.call { callee := (Callee.builtin Builtin.len), args := #[(Operand.tmp 17)], argTypes := #[51] }), none, ann0⟩,
  ⟨(some 19), (Op.binOp BinOp.lss 3 (Operand.tmp 16) (Operand.tmp 18) 3), none, ann0⟩] none)
 (.cond (Operand.tmp 19) .skip
 (.exit 0))) (.tidy [0, 1, 5, 6] z (z + 0)))
 (.seq (.post (.block 1 (.seq (.reg [⟨(some 22), (Op.move (Operand.tmp 0)), none, ann0⟩,
  ⟨(some 23), (Op.move (Operand.tmp 6)), none, ann0⟩,
  ⟨(some 24), (Op.indexAddr 51 (Operand.tmp 22) (Operand.tmp 23)), none, ann0⟩,
  ⟨(some 25), (Op.load 40 (Operand.tmp 24)), none, ann0⟩,
  ⟨(some 7), (Op.alloc 40), none, ⟨1, false, false⟩⟩,
  ⟨none, (Op.store 40 (Operand.tmp 7) (Operand.tmp 25)), none, ann0⟩] none)
 (.seq (.post (.reg [⟨(some 26), (Op.move (Operand.tmp 1)), none, ann0⟩,
  ⟨(some 27), (Op.load 40 (Operand.tmp 7)), none, ann0⟩,
  ⟨(some 28), (Op.call { callee := (Callee.value (Operand.tmp 26)), args := #[(Operand.tmp 27)], argTypes := #[40] }), none, ann0⟩,
  ⟨(some 29), (Op.unOp UnOp.not 4 (Operand.tmp 28)), none, ann0⟩] none) (.tidy [0, 1, 5, 6, 7, 29] z (z + 1)))
 (.cond (Operand.tmp 29) (.seq (.reg [⟨(some 30), (Op.move (Operand.tmp 0)), none, ann0⟩,
  ⟨(some 31), (Op.move (Operand.tmp 5)), none, ann0⟩,
  ⟨(some 32), (Op.load 40 (Operand.tmp 7)), none, ann0⟩,
  ⟨(some 33), (Op.indexAddr 51 (Operand.tmp 30) (Operand.tmp 31)), none, ann0⟩,
  ⟨none, (Op.store 40 (Operand.tmp 33) (Operand.tmp 32)), none, ann0⟩] none)
 (.reg [⟨(some 34), (Op.move (Operand.tmp 5)), none, ann0⟩,
  ⟨(some 35), (Op.binOp BinOp.add 3 (Operand.tmp 34) (Operand.const (Value.int IntKind.i64 1)) 3), none, ann0⟩,
  ⟨(some 5), (Op.assign (Operand.tmp 35)), none, ann0⟩] none))
 .skip)))) (.tidy [0, 1, 5, 6] z (z + 1)))
 (.reg [⟨(some 20), (Op.move (Operand.tmp 6)), none, ann0⟩,
  ⟨(some 21), (Op.binOp BinOp.add 3 (Operand.tmp 20) (Operand.const (Value.int IntKind.i64 1)) 3), none, ann0⟩,
  ⟨(some 6), (Op.assign (Operand.tmp 21)), none, ann0⟩] none))) (.tidy [0, 1, 5, 6] z (z + 0))
def s47_1 (z : Nat) : SC := c47_1 z
theorem e47_1 {C : Pg} {z : Nat} {st : St} {ks : List Fr} {K : Ex → St → Prop} : wpk C (s47_1 z) st ks K ↔ wpk C (c47_1 z) st ks K := Iff.rfl
def s47 (z : Nat) : SFn := ⟨2, 42, [(ResultVar.tmp 4)],
 (.post (.seq (.reg [⟨(some 4), (Op.assign (Operand.const (Value.slice none 0 0))), none, ann0⟩] none)
 (.seq (.reg [⟨(some 8), (Op.move (Operand.tmp 0)), none, ann0⟩,
  ⟨(some 9), (Op.move (Operand.tmp 1)), none, ann0⟩,
  ⟨(some 10), (Op.call { callee := (Callee.value (Operand.func 65)), args := #[(Operand.tmp 8), (Operand.tmp 9)], argTypes := #[51, 104] }), none, ann0⟩,
  ⟨(some 5), (Op.assign (Operand.tmp 10)), none, ann0⟩] none)
 (.seq (.post (.seq (.reg [⟨(some 11), (Op.move (Operand.tmp 5)), none, ann0⟩,
  ⟨(some 12), (Op.binOp BinOp.eql 3 (Operand.tmp 11) (Operand.const (Value.int IntKind.i64 (-1))) 3), none, ann0⟩] none)
 (.cond (Operand.tmp 12) (.seq (.reg [⟨(some 13), (Op.move (Operand.tmp 0)), none, ann0⟩,
  ⟨(some 4), (Op.assign (Operand.tmp 13)), none, ann0⟩] none)
 .ret)
 .skip)) (.tidy [0, 1, 5] z (z + 0)))
 (.seq (.post (.seq (.reg [⟨(some 14), (Op.move (Operand.tmp 5)), none, ann0⟩,
  ⟨(some 15), (Op.binOp BinOp.add 3 (Operand.tmp 14) (Operand.const (Value.int IntKind.i64 1)) 3), none, ann0⟩,
  ⟨(some 6), (Op.assign (Operand.tmp 15)), none, ann0⟩] none)
 (.post (.block 0 (.pre (.tidy [0, 1, 5, 6] z (z + 0)) (.loop (s47_1 z)))) (.tidy [0, 5] z (z + 0)))) (.tidy [0, 5] z (z + 0)))
 (.seq (.reg [⟨(some 36), (Op.move (Operand.tmp 0)), none, ann0⟩,
  ⟨(some 37), (Op.move (Operand.tmp 5)), none, ann0⟩,
  ⟨(some 38), (Op.slice 51 (Operand.tmp 36) (some (Operand.tmp 37)) none none), none, ann0⟩,
  ⟨none, (Op.call { callee := (Callee.builtin Builtin.clear), args := #[(Operand.tmp 38)], argTypes := #[51] }), none, ann0⟩] none)
 (.seq (.reg [⟨(some 39), (Op.move (Operand.tmp 0)), none, ann0⟩,
  ⟨(some 40), (Op.move (Operand.tmp 5)), none, ann0⟩,
  ⟨(some 41), (Op.slice 51 (Operand.tmp 39) none (some (Operand.tmp 40)) none), none, ann0⟩,
  ⟨(some 4), (Op.assign (Operand.tmp 41)), none, ann0⟩] none)
 .ret)))))) (.frz 4))⟩
theorem F47 (z : Nat) : FOk Try.prog 47 (s47 z) := by unfold FOk; kernel_rfl
def AL (z : Nat) : List (Nat × SFn) := [(3, s3 z), (4, s4 z), (11, s11 z), (12, s12 z), (13, s13 z), (14, s14 z), (15, s15 z), (16, s16 z), (17, s17 z), (18, s18 z), (19, s19 z), (20, s20 z), (21, s21 z), (22, s22 z), (23, s23 z), (26, s26 z), (27, s27 z), (29, s29 z), (30, s30 z), (31, s31 z), (33, s33 z), (34, s34 z), (35, s35 z), (36, s36 z), (37, s37 z), (38, s38 z), (39, s39 z), (40, s40 z), (41, s41 z), (48, s48 z), (49, s49 z), (50, s50 z), (51, s51 z), (52, s52 z), (53, s53 z), (54, s54 z), (55, s55 z), (56, s56 z), (57, s57 z), (58, s58 z), (59, s59 z), (60, s60 z), (61, s61 z), (62, s62 z), (63, s63 z), (64, s64 z), (65, s65 z), (66, s66 z), (67, s67 z), (68, s68 z), (69, s69 z), (70, s70 z), (71, s71 z), (72, s72 z), (73, s73 z), (81, s81 z), (82, s82 z), (90, s90 z), (47, s47 z)]
def AA (f : FuncId) (_ : List AV) (obs : List AObj) : Option SFn := getF f (AL obs.length)
theorem AL_ok (z : Nat) : AllF Try.prog (AL z) := by
  simp only [AL, AllF]
  exact ⟨F3 z, F4 z, F11 z, F12 z, F13 z, F14 z, F15 z, F16 z, F17 z, F18 z, F19 z, F20 z, F21 z, F22 z, F23 z, F26 z, F27 z, F29 z, F30 z, F31 z, F33 z, F34 z, F35 z, F36 z, F37 z, F38 z, F39 z, F40 z, F41 z, F48 z, F49 z, F50 z, F51 z, F52 z, F53 z, F54 z, F55 z, F56 z, F57 z, F58 z, F59 z, F60 z, F61 z, F62 z, F63 z, F64 z, F65 z, F66 z, F67 z, F68 z, F69 z, F70 z, F71 z, F72 z, F73 z, F81 z, F82 z, F90 z, F47 z, trivial⟩
theorem AA_ok (f : FuncId) (xs : List AV) (obs : List AObj) (s : SFn) (h : AA f xs obs = some s) : (Try.prog.funcs[f]?).bind slimFn = some (s.erase Try.prog) := getF_ok (AL_ok _) h
def LL : List (Nat × SLoop) := []
def LT (k : Nat) : Option SLoop := getLp k LL
theorem LT_ok (k : Nat) (l : SLoop) (h : LT k = some l) : loopS Try.prog k = some (l.erase Try.prog) := getLp_ok (t := LL) (by simp only [LL, AllL]) h
theorem A3 (xs : List AV) (obs : List AObj) : AA 3 xs obs = some (s3 obs.length) := rfl
theorem A4 (xs : List AV) (obs : List AObj) : AA 4 xs obs = some (s4 obs.length) := rfl
theorem A11 (xs : List AV) (obs : List AObj) : AA 11 xs obs = some (s11 obs.length) := rfl
theorem A12 (xs : List AV) (obs : List AObj) : AA 12 xs obs = some (s12 obs.length) := rfl
theorem A13 (xs : List AV) (obs : List AObj) : AA 13 xs obs = some (s13 obs.length) := rfl
theorem A14 (xs : List AV) (obs : List AObj) : AA 14 xs obs = some (s14 obs.length) := rfl
theorem A15 (xs : List AV) (obs : List AObj) : AA 15 xs obs = some (s15 obs.length) := rfl
theorem A16 (xs : List AV) (obs : List AObj) : AA 16 xs obs = some (s16 obs.length) := rfl
theorem A17 (xs : List AV) (obs : List AObj) : AA 17 xs obs = some (s17 obs.length) := rfl
theorem A18 (xs : List AV) (obs : List AObj) : AA 18 xs obs = some (s18 obs.length) := rfl
theorem A19 (xs : List AV) (obs : List AObj) : AA 19 xs obs = some (s19 obs.length) := rfl
theorem A20 (xs : List AV) (obs : List AObj) : AA 20 xs obs = some (s20 obs.length) := rfl
theorem A21 (xs : List AV) (obs : List AObj) : AA 21 xs obs = some (s21 obs.length) := rfl
theorem A22 (xs : List AV) (obs : List AObj) : AA 22 xs obs = some (s22 obs.length) := rfl
theorem A23 (xs : List AV) (obs : List AObj) : AA 23 xs obs = some (s23 obs.length) := rfl
theorem A26 (xs : List AV) (obs : List AObj) : AA 26 xs obs = some (s26 obs.length) := rfl
theorem A27 (xs : List AV) (obs : List AObj) : AA 27 xs obs = some (s27 obs.length) := rfl
theorem A29 (xs : List AV) (obs : List AObj) : AA 29 xs obs = some (s29 obs.length) := rfl
theorem A30 (xs : List AV) (obs : List AObj) : AA 30 xs obs = some (s30 obs.length) := rfl
theorem A31 (xs : List AV) (obs : List AObj) : AA 31 xs obs = some (s31 obs.length) := rfl
theorem A33 (xs : List AV) (obs : List AObj) : AA 33 xs obs = some (s33 obs.length) := rfl
theorem A34 (xs : List AV) (obs : List AObj) : AA 34 xs obs = some (s34 obs.length) := rfl
theorem A35 (xs : List AV) (obs : List AObj) : AA 35 xs obs = some (s35 obs.length) := rfl
theorem A36 (xs : List AV) (obs : List AObj) : AA 36 xs obs = some (s36 obs.length) := rfl
theorem A37 (xs : List AV) (obs : List AObj) : AA 37 xs obs = some (s37 obs.length) := rfl
theorem A38 (xs : List AV) (obs : List AObj) : AA 38 xs obs = some (s38 obs.length) := rfl
theorem A39 (xs : List AV) (obs : List AObj) : AA 39 xs obs = some (s39 obs.length) := rfl
theorem A40 (xs : List AV) (obs : List AObj) : AA 40 xs obs = some (s40 obs.length) := rfl
theorem A41 (xs : List AV) (obs : List AObj) : AA 41 xs obs = some (s41 obs.length) := rfl
theorem A48 (xs : List AV) (obs : List AObj) : AA 48 xs obs = some (s48 obs.length) := rfl
theorem A49 (xs : List AV) (obs : List AObj) : AA 49 xs obs = some (s49 obs.length) := rfl
theorem A50 (xs : List AV) (obs : List AObj) : AA 50 xs obs = some (s50 obs.length) := rfl
theorem A51 (xs : List AV) (obs : List AObj) : AA 51 xs obs = some (s51 obs.length) := rfl
theorem A52 (xs : List AV) (obs : List AObj) : AA 52 xs obs = some (s52 obs.length) := rfl
theorem A53 (xs : List AV) (obs : List AObj) : AA 53 xs obs = some (s53 obs.length) := rfl
theorem A54 (xs : List AV) (obs : List AObj) : AA 54 xs obs = some (s54 obs.length) := rfl
theorem A55 (xs : List AV) (obs : List AObj) : AA 55 xs obs = some (s55 obs.length) := rfl
theorem A56 (xs : List AV) (obs : List AObj) : AA 56 xs obs = some (s56 obs.length) := rfl
theorem A57 (xs : List AV) (obs : List AObj) : AA 57 xs obs = some (s57 obs.length) := rfl
theorem A58 (xs : List AV) (obs : List AObj) : AA 58 xs obs = some (s58 obs.length) := rfl
theorem A59 (xs : List AV) (obs : List AObj) : AA 59 xs obs = some (s59 obs.length) := rfl
theorem A60 (xs : List AV) (obs : List AObj) : AA 60 xs obs = some (s60 obs.length) := rfl
theorem A61 (xs : List AV) (obs : List AObj) : AA 61 xs obs = some (s61 obs.length) := rfl
theorem A62 (xs : List AV) (obs : List AObj) : AA 62 xs obs = some (s62 obs.length) := rfl
theorem A63 (xs : List AV) (obs : List AObj) : AA 63 xs obs = some (s63 obs.length) := rfl
theorem A64 (xs : List AV) (obs : List AObj) : AA 64 xs obs = some (s64 obs.length) := rfl
theorem A65 (xs : List AV) (obs : List AObj) : AA 65 xs obs = some (s65 obs.length) := rfl
theorem A66 (xs : List AV) (obs : List AObj) : AA 66 xs obs = some (s66 obs.length) := rfl
theorem A67 (xs : List AV) (obs : List AObj) : AA 67 xs obs = some (s67 obs.length) := rfl
theorem A68 (xs : List AV) (obs : List AObj) : AA 68 xs obs = some (s68 obs.length) := rfl
theorem A69 (xs : List AV) (obs : List AObj) : AA 69 xs obs = some (s69 obs.length) := rfl
theorem A70 (xs : List AV) (obs : List AObj) : AA 70 xs obs = some (s70 obs.length) := rfl
theorem A71 (xs : List AV) (obs : List AObj) : AA 71 xs obs = some (s71 obs.length) := rfl
theorem A72 (xs : List AV) (obs : List AObj) : AA 72 xs obs = some (s72 obs.length) := rfl
theorem A73 (xs : List AV) (obs : List AObj) : AA 73 xs obs = some (s73 obs.length) := rfl
theorem A81 (xs : List AV) (obs : List AObj) : AA 81 xs obs = some (s81 obs.length) := rfl
theorem A82 (xs : List AV) (obs : List AObj) : AA 82 xs obs = some (s82 obs.length) := rfl
theorem A90 (xs : List AV) (obs : List AObj) : AA 90 xs obs = some (s90 obs.length) := rfl
theorem A47 (xs : List AV) (obs : List AObj) : AA 47 xs obs = some (s47 obs.length) := rfl
end Go.Proofs.YtdgpipoffcajgaaV
