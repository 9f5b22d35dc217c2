/- The table of types and the functions' code, with notes for the interpreter, and the facts that they are the program's: made by a program. -/
import Derived.Test.YtdgpipoffcajgaaVC
import Derived.Test.YtdgpipoffcajgaaProg
import Derived.KernelRfl
set_option linter.unusedVariables false
namespace Go.Proofs.YtdgpipoffcajgaaV
open Go.RowKit

def TT : Tbl := [(3, ⟨.int .i64, 1, 8, [(.d (.int .i64 0))]⟩),
  (4, ⟨.bool, 1, 1, [(.d (.bool false))]⟩),
  (5, ⟨.int .u8, 1, 1, [(.d (.int .u8 0))]⟩),
  (9, ⟨.str, 1, 16, [(.d (.str ⟨#[]⟩))]⟩),
  (22, ⟨.slice 92, 1, 24, [(.d .nils)]⟩),
  (23, ⟨.slice 87, 1, 24, [(.d .nils)]⟩),
  (25, ⟨.struct [(0, 3, 1), (1, 3, 1), (2, 22, 1), (3, 23, 1)], 4, 64, [(.d (.int .i64 0)), (.d (.int .i64 0)), (.d .nils), (.d .nils)]⟩),
  (27, ⟨.ptr, 1, 8, [.nilp]⟩),
  (32, ⟨.struct [(0, 5, 1), (1, 5, 1), (2, 5, 1)], 3, 3, [(.d (.int .u8 0)), (.d (.int .u8 0)), (.d (.int .u8 0))]⟩),
  (34, ⟨.int .i64, 1, 8, [(.d (.int .i64 0))]⟩),
  (38, ⟨.struct [(0, 3, 1), (1, 3, 1)], 2, 16, [(.d (.int .i64 0)), (.d (.int .i64 0))]⟩),
  (40, ⟨.struct [(0, 3, 1), (1, 38, 2), (3, 3, 1)], 4, 32, [(.d (.int .i64 0)), (.d (.int .i64 0)), (.d (.int .i64 0)), (.d (.int .i64 0))]⟩),
  (46, ⟨.struct [(0, 3, 1), (1, 3, 1), (2, 3, 1)], 3, 24, [(.d (.int .i64 0)), (.d (.int .i64 0)), (.d (.int .i64 0))]⟩),
  (49, ⟨.slice 38, 1, 24, [(.d .nils)]⟩),
  (51, ⟨.slice 40, 1, 24, [(.d .nils)]⟩),
  (54, ⟨.slice 57, 1, 24, [(.d .nils)]⟩),
  (57, ⟨.struct [(0, 5, 1), (1, 5, 1), (2, 5, 1)], 3, 3, [(.d (.int .u8 0)), (.d (.int .u8 0)), (.d (.int .u8 0))]⟩),
  (66, ⟨.map 38 4, 1, 8, [.nilm]⟩),
  (72, ⟨.slice 101, 1, 24, [(.d .nils)]⟩),
  (74, ⟨.struct [(0, 46, 3), (3, 72, 1), (4, 3, 1), (5, 3, 1), (6, 3, 1)], 7, 72, [(.d (.int .i64 0)), (.d (.int .i64 0)), (.d (.int .i64 0)), (.d .nils), (.d (.int .i64 0)), (.d (.int .i64 0)), (.d (.int .i64 0))]⟩),
  (76, ⟨.map 38 81, 1, 8, [.nilm]⟩),
  (77, ⟨.map 3 40, 1, 8, [.nilm]⟩),
  (79, ⟨.struct [(0, 46, 3), (3, 76, 1), (4, 77, 1), (5, 3, 1), (6, 3, 1), (7, 3, 1), (8, 3, 1)], 9, 72, [(.d (.int .i64 0)), (.d (.int .i64 0)), (.d (.int .i64 0)), .nilm, .nilm, (.d (.int .i64 0)), (.d (.int .i64 0)), (.d (.int .i64 0)), (.d (.int .i64 0))]⟩),
  (81, ⟨.struct [(0, 25, 4), (4, 3, 1), (5, 3, 1)], 6, 80, [(.d (.int .i64 0)), (.d (.int .i64 0)), (.d .nils), (.d .nils), (.d (.int .i64 0)), (.d (.int .i64 0))]⟩),
  (87, ⟨.struct [(0, 3, 1), (1, 3, 1), (2, 3, 1), (3, 3, 1), (4, 3, 1)], 5, 40, [(.d (.int .i64 0)), (.d (.int .i64 0)), (.d (.int .i64 0)), (.d (.int .i64 0)), (.d (.int .i64 0))]⟩),
  (89, ⟨.slice 109, 1, 24, [(.d .nils)]⟩),
  (90, ⟨.slice 119, 1, 24, [(.d .nils)]⟩),
  (92, ⟨.struct [(0, 3, 1), (1, 3, 1), (2, 3, 1), (3, 3, 1), (4, 3, 1), (5, 3, 1), (6, 9, 1), (7, 9, 1), (8, 9, 1), (9, 3, 1), (10, 3, 1), (11, 4, 1), (12, 89, 1), (13, 90, 1)], 14, 168, [(.d (.int .i64 0)), (.d (.int .i64 0)), (.d (.int .i64 0)), (.d (.int .i64 0)), (.d (.int .i64 0)), (.d (.int .i64 0)), (.d (.str ⟨#[]⟩)), (.d (.str ⟨#[]⟩)), (.d (.str ⟨#[]⟩)), (.d (.int .i64 0)), (.d (.int .i64 0)), (.d (.bool false)), (.d .nils), (.d .nils)]⟩),
  (101, ⟨.struct [(0, 25, 4), (4, 40, 4)], 8, 96, [(.d (.int .i64 0)), (.d (.int .i64 0)), (.d .nils), (.d .nils), (.d (.int .i64 0)), (.d (.int .i64 0)), (.d (.int .i64 0)), (.d (.int .i64 0))]⟩),
  (107, ⟨.struct [(0, 3, 1), (1, 9, 1), (2, 3, 1)], 3, 32, [(.d (.int .i64 0)), (.d (.str ⟨#[]⟩)), (.d (.int .i64 0))]⟩),
  (109, ⟨.struct [(0, 9, 1), (1, 107, 3)], 4, 48, [(.d (.str ⟨#[]⟩)), (.d (.int .i64 0)), (.d (.str ⟨#[]⟩)), (.d (.int .i64 0))]⟩),
  (119, ⟨.struct [(0, 3, 1), (1, 3, 1)], 2, 16, [(.d (.int .i64 0)), (.d (.int .i64 0))]⟩),
  (125, ⟨.int .u64, 1, 8, [(.d (.int .u64 0))]⟩),
  (128, ⟨.slice 5, 1, 24, [(.d .nils)]⟩),
  (130, ⟨.struct [(0, 128, 1)], 1, 24, [(.d .nils)]⟩),
  (133, ⟨.ptr, 1, 8, [.nilp]⟩),
  (140, ⟨.int .i64, 1, 8, [(.d (.int .i64 0))]⟩),
  (148, ⟨.int .u32, 1, 4, [(.d (.int .u32 0))]⟩),
  (150, ⟨.int .u64, 1, 8, [(.d (.int .u64 0))]⟩),
  (151, ⟨.slice 3, 1, 24, [(.d .nils)]⟩)]
theorem TT_ok : TOk Try.prog TT := by unfold TOk; kernel_rfl
theorem T3 : TT.get 3 = some ⟨.int .i64, 1, 8, [(.d (.int .i64 0))]⟩ := by kernel_rfl
theorem T4 : TT.get 4 = some ⟨.bool, 1, 1, [(.d (.bool false))]⟩ := by kernel_rfl
theorem T5 : TT.get 5 = some ⟨.int .u8, 1, 1, [(.d (.int .u8 0))]⟩ := by kernel_rfl
theorem T9 : TT.get 9 = some ⟨.str, 1, 16, [(.d (.str ⟨#[]⟩))]⟩ := by kernel_rfl
theorem T22 : TT.get 22 = some ⟨.slice 92, 1, 24, [(.d .nils)]⟩ := by kernel_rfl
theorem T23 : TT.get 23 = some ⟨.slice 87, 1, 24, [(.d .nils)]⟩ := by kernel_rfl
theorem T25 : TT.get 25 = some ⟨.struct [(0, 3, 1), (1, 3, 1), (2, 22, 1), (3, 23, 1)], 4, 64, [(.d (.int .i64 0)), (.d (.int .i64 0)), (.d .nils), (.d .nils)]⟩ := by kernel_rfl
theorem T27 : TT.get 27 = some ⟨.ptr, 1, 8, [.nilp]⟩ := by kernel_rfl
theorem T32 : TT.get 32 = some ⟨.struct [(0, 5, 1), (1, 5, 1), (2, 5, 1)], 3, 3, [(.d (.int .u8 0)), (.d (.int .u8 0)), (.d (.int .u8 0))]⟩ := by kernel_rfl
theorem T34 : TT.get 34 = some ⟨.int .i64, 1, 8, [(.d (.int .i64 0))]⟩ := by kernel_rfl
theorem T38 : TT.get 38 = some ⟨.struct [(0, 3, 1), (1, 3, 1)], 2, 16, [(.d (.int .i64 0)), (.d (.int .i64 0))]⟩ := by kernel_rfl
theorem T40 : TT.get 40 = some ⟨.struct [(0, 3, 1), (1, 38, 2), (3, 3, 1)], 4, 32, [(.d (.int .i64 0)), (.d (.int .i64 0)), (.d (.int .i64 0)), (.d (.int .i64 0))]⟩ := by kernel_rfl
theorem T46 : TT.get 46 = some ⟨.struct [(0, 3, 1), (1, 3, 1), (2, 3, 1)], 3, 24, [(.d (.int .i64 0)), (.d (.int .i64 0)), (.d (.int .i64 0))]⟩ := by kernel_rfl
theorem T49 : TT.get 49 = some ⟨.slice 38, 1, 24, [(.d .nils)]⟩ := by kernel_rfl
theorem T51 : TT.get 51 = some ⟨.slice 40, 1, 24, [(.d .nils)]⟩ := by kernel_rfl
theorem T54 : TT.get 54 = some ⟨.slice 57, 1, 24, [(.d .nils)]⟩ := by kernel_rfl
theorem T57 : TT.get 57 = some ⟨.struct [(0, 5, 1), (1, 5, 1), (2, 5, 1)], 3, 3, [(.d (.int .u8 0)), (.d (.int .u8 0)), (.d (.int .u8 0))]⟩ := by kernel_rfl
theorem T66 : TT.get 66 = some ⟨.map 38 4, 1, 8, [.nilm]⟩ := by kernel_rfl
theorem T72 : TT.get 72 = some ⟨.slice 101, 1, 24, [(.d .nils)]⟩ := by kernel_rfl
theorem T74 : TT.get 74 = some ⟨.struct [(0, 46, 3), (3, 72, 1), (4, 3, 1), (5, 3, 1), (6, 3, 1)], 7, 72, [(.d (.int .i64 0)), (.d (.int .i64 0)), (.d (.int .i64 0)), (.d .nils), (.d (.int .i64 0)), (.d (.int .i64 0)), (.d (.int .i64 0))]⟩ := by kernel_rfl
theorem T76 : TT.get 76 = some ⟨.map 38 81, 1, 8, [.nilm]⟩ := by kernel_rfl
theorem T77 : TT.get 77 = some ⟨.map 3 40, 1, 8, [.nilm]⟩ := by kernel_rfl
theorem T79 : TT.get 79 = some ⟨.struct [(0, 46, 3), (3, 76, 1), (4, 77, 1), (5, 3, 1), (6, 3, 1), (7, 3, 1), (8, 3, 1)], 9, 72, [(.d (.int .i64 0)), (.d (.int .i64 0)), (.d (.int .i64 0)), .nilm, .nilm, (.d (.int .i64 0)), (.d (.int .i64 0)), (.d (.int .i64 0)), (.d (.int .i64 0))]⟩ := by kernel_rfl
theorem T81 : TT.get 81 = some ⟨.struct [(0, 25, 4), (4, 3, 1), (5, 3, 1)], 6, 80, [(.d (.int .i64 0)), (.d (.int .i64 0)), (.d .nils), (.d .nils), (.d (.int .i64 0)), (.d (.int .i64 0))]⟩ := by kernel_rfl
theorem T87 : TT.get 87 = some ⟨.struct [(0, 3, 1), (1, 3, 1), (2, 3, 1), (3, 3, 1), (4, 3, 1)], 5, 40, [(.d (.int .i64 0)), (.d (.int .i64 0)), (.d (.int .i64 0)), (.d (.int .i64 0)), (.d (.int .i64 0))]⟩ := by kernel_rfl
theorem T89 : TT.get 89 = some ⟨.slice 109, 1, 24, [(.d .nils)]⟩ := by kernel_rfl
theorem T90 : TT.get 90 = some ⟨.slice 119, 1, 24, [(.d .nils)]⟩ := by kernel_rfl
theorem T92 : TT.get 92 = some ⟨.struct [(0, 3, 1), (1, 3, 1), (2, 3, 1), (3, 3, 1), (4, 3, 1), (5, 3, 1), (6, 9, 1), (7, 9, 1), (8, 9, 1), (9, 3, 1), (10, 3, 1), (11, 4, 1), (12, 89, 1), (13, 90, 1)], 14, 168, [(.d (.int .i64 0)), (.d (.int .i64 0)), (.d (.int .i64 0)), (.d (.int .i64 0)), (.d (.int .i64 0)), (.d (.int .i64 0)), (.d (.str ⟨#[]⟩)), (.d (.str ⟨#[]⟩)), (.d (.str ⟨#[]⟩)), (.d (.int .i64 0)), (.d (.int .i64 0)), (.d (.bool false)), (.d .nils), (.d .nils)]⟩ := by kernel_rfl
theorem T101 : TT.get 101 = some ⟨.struct [(0, 25, 4), (4, 40, 4)], 8, 96, [(.d (.int .i64 0)), (.d (.int .i64 0)), (.d .nils), (.d .nils), (.d (.int .i64 0)), (.d (.int .i64 0)), (.d (.int .i64 0)), (.d (.int .i64 0))]⟩ := by kernel_rfl
theorem T107 : TT.get 107 = some ⟨.struct [(0, 3, 1), (1, 9, 1), (2, 3, 1)], 3, 32, [(.d (.int .i64 0)), (.d (.str ⟨#[]⟩)), (.d (.int .i64 0))]⟩ := by kernel_rfl
theorem T109 : TT.get 109 = some ⟨.struct [(0, 9, 1), (1, 107, 3)], 4, 48, [(.d (.str ⟨#[]⟩)), (.d (.int .i64 0)), (.d (.str ⟨#[]⟩)), (.d (.int .i64 0))]⟩ := by kernel_rfl
theorem T119 : TT.get 119 = some ⟨.struct [(0, 3, 1), (1, 3, 1)], 2, 16, [(.d (.int .i64 0)), (.d (.int .i64 0))]⟩ := by kernel_rfl
theorem T125 : TT.get 125 = some ⟨.int .u64, 1, 8, [(.d (.int .u64 0))]⟩ := by kernel_rfl
theorem T128 : TT.get 128 = some ⟨.slice 5, 1, 24, [(.d .nils)]⟩ := by kernel_rfl
theorem T130 : TT.get 130 = some ⟨.struct [(0, 128, 1)], 1, 24, [(.d .nils)]⟩ := by kernel_rfl
theorem T133 : TT.get 133 = some ⟨.ptr, 1, 8, [.nilp]⟩ := by kernel_rfl
theorem T140 : TT.get 140 = some ⟨.int .i64, 1, 8, [(.d (.int .i64 0))]⟩ := by kernel_rfl
theorem T148 : TT.get 148 = some ⟨.int .u32, 1, 4, [(.d (.int .u32 0))]⟩ := by kernel_rfl
theorem T150 : TT.get 150 = some ⟨.int .u64, 1, 8, [(.d (.int .u64 0))]⟩ := by kernel_rfl
theorem T151 : TT.get 151 = some ⟨.slice 3, 1, 24, [(.d .nils)]⟩ := by kernel_rfl
def c9_2 (z : Nat) : SC := .post (.seq (.reg [⟨(some 87), (Op.binOp BinOp.lss 3 (Operand.tmp 86) (Operand.tmp 85) 3), none, ann0⟩] none)
 (.seq (.cond (Operand.tmp 87) .skip
 (.exit 3))
 (.seq (.post (.block 4 (.seq (.reg [⟨(some 88), (Op.indexAddr 51 (Operand.tmp 84) (Operand.tmp 86)), none, ann0⟩,
  ⟨(some 89), (Op.load 40 (Operand.tmp 88)), none, ann0⟩,
  ⟨(some 12), (Op.alloc 40), none, ⟨1, false, false⟩⟩,
  ⟨none, (Op.store 40 (Operand.tmp 12) (Operand.tmp 89)), none, ann0⟩] none)
 (.seq (.post (.reg [⟨(some 90), (Op.fieldAddr 40 (Operand.tmp 12) 0), none, ann0⟩,
  ⟨(some 91), (Op.load 3 (Operand.tmp 90)), none, ann0⟩,
  ⟨(some 92), (Op.fieldAddr 57 (Operand.tmp 9) 1), none, ann0⟩,
  ⟨(some 93), (Op.load 5 (Operand.tmp 92)), none, ann0⟩,
  ⟨(some 94), (Op.binOp BinOp.rem 5 (Operand.tmp 93) (Operand.const (Value.int IntKind.u8 10)) 5), none, ann0⟩,
  ⟨(some 95), (Op.convert 5 3 (Operand.tmp 94)), none, ann0⟩,
  ⟨(some 96), (Op.binOp BinOp.add 3 (Operand.const (Value.int IntKind.i64 1)) (Operand.tmp 95) 3), none, ann0⟩,
  ⟨(some 97), (Op.binOp BinOp.eql 3 (Operand.tmp 91) (Operand.tmp 96) 3), none, ann0⟩,
  ⟨(some 98), (Op.move (Operand.tmp 97)), none, ann0⟩,
  ⟨(some 99), (Op.move (Operand.tmp 5)), (some (98, true)), ann0⟩,
  ⟨(some 100), (Op.fieldAddr 40 (Operand.tmp 12) 0), (some (98, true)), ann0⟩,
  ⟨(some 101), (Op.load 3 (Operand.tmp 100)), (some (98, true)), ann0⟩,
  ⟨(some 102), (Op.call { callee := (Callee.value (Operand.func 27)), args := #[(Operand.tmp 99), (Operand.tmp 101)], argTypes := #[27, 3] }), (some (98, true)), ann0⟩,
  ⟨(some 103), (Op.binOp BinOp.eql 34 (Operand.tmp 102) (Operand.const (Value.int IntKind.i64 0)) 34), (some (98, true)), ann0⟩,
  ⟨(some 104), (Op.pick (Operand.tmp 98) (Operand.tmp 103) (Operand.const (Value.bool false))), none, ann0⟩] none) (.tidy [5, 7, 9, 12, 38, 39, 40, 84, 85, 86, 104] z (z + 9)))
 (.cond (Operand.tmp 104) (.reg [⟨(some 105), (Op.move (Operand.tmp 7)), none, ann0⟩,
  ⟨(some 106), (Op.fieldAddr 40 (Operand.tmp 12) 1), none, ann0⟩,
  ⟨(some 107), (Op.load 38 (Operand.tmp 106)), none, ann0⟩,
  ⟨none, (Op.mapUpdate 66 (Operand.tmp 105) (Operand.tmp 107) (Operand.const (Value.bool false))), none, ann0⟩] none)
 .skip)))) (.tidy [5, 7, 9, 38, 39, 40, 84, 85, 86] z (z + 9)))
 (.reg [⟨(some 108), (Op.binOp BinOp.add 3 (Operand.tmp 86) (Operand.const (Value.int IntKind.i64 1)) 3), none, ann0⟩,
  ⟨(some 86), (Op.move (Operand.tmp 108)), none, ann0⟩] none)))) (.tidy [5, 7, 9, 38, 39, 40, 84, 85, 86] z (z + 8))
def s9_2 (z : Nat) : SC := c9_2 z
theorem e9_2 {C : Pg} {z : Nat} {st : St} {ks : List Fr} {K : Ex → St → Prop} : wpk C (s9_2 z) st ks K ↔ wpk C (c9_2 z) st ks K := Iff.rfl
def c9_1 (z : Nat) : SC := .post (.seq (.reg [⟨(some 41), (Op.binOp BinOp.lss 3 (Operand.tmp 40) (Operand.tmp 39) 3), none, ann0⟩] none)
 (.seq (.cond (Operand.tmp 41) .skip
 (.exit 0))
 (.seq (.post (.block 1 (.seq (.post (.reg [⟨(some 42), (Op.indexAddr 54 (Operand.tmp 38) (Operand.tmp 40)), none, ann0⟩,
  ⟨(some 43), (Op.load 57 (Operand.tmp 42)), none, ann0⟩,
  ⟨(some 9), (Op.alloc 57), none, ⟨1, false, false⟩⟩,
  ⟨none, (Op.store 57 (Operand.tmp 9) (Operand.tmp 43)), none, ann0⟩] none) (.tidy [5, 7, 9, 38, 39, 40] z (z + 7)))
 (.seq (.reg [⟨(some 44), (Op.fieldAddr 57 (Operand.tmp 9) 0), none, ann0⟩,
  ⟨(some 45), (Op.load 5 (Operand.tmp 44)), none, ann0⟩,
  ⟨(some 46), (Op.binOp BinOp.rem 5 (Operand.tmp 45) (Operand.const (Value.int IntKind.u8 5)) 5), none, ann0⟩] none)
 (.post (.block 2 (.seq (.reg [⟨(some 57), (Op.binOp BinOp.eql 5 (Operand.tmp 46) (Operand.const (Value.int IntKind.u8 0)) 5), none, ann0⟩,
  ⟨(some 56), (Op.assign (Operand.tmp 57)), none, ann0⟩] none)
 (.cond (Operand.tmp 56) (.seq (.reg [⟨(some 58), (Op.load 57 (Operand.tmp 9)), none, ann0⟩,
  ⟨(some 59), (Op.call { callee := (Callee.value (Operand.func 28)), args := #[(Operand.tmp 58)], argTypes := #[57] }), none, ann0⟩,
  ⟨(some 10), (Op.alloc 25), none, ⟨1, false, false⟩⟩,
  ⟨none, (Op.store 25 (Operand.tmp 10) (Operand.tmp 59)), none, ann0⟩] none)
 (.seq (.post (.reg [⟨(some 60), (Op.move (Operand.tmp 5)), none, ann0⟩,
  ⟨(some 61), (Op.load 25 (Operand.tmp 10)), none, ann0⟩,
  ⟨(some 62), (Op.call { callee := (Callee.value (Operand.func 15)), args := #[(Operand.tmp 60), (Operand.tmp 61)], argTypes := #[27, 25] }), none, ann0⟩,
  ⟨(some 63), (Op.binOp BinOp.eql 34 (Operand.tmp 62) (Operand.const (Value.int IntKind.i64 0)) 34), none, ann0⟩] none) (.tidy [5, 7, 10, 38, 39, 40, 63] z (z + 8)))
 (.cond (Operand.tmp 63) (.reg [⟨(some 64), (Op.move (Operand.tmp 7)), none, ann0⟩,
  ⟨(some 65), (Op.fieldAddr 25 (Operand.tmp 10) 0), none, ann0⟩,
  ⟨(some 66), (Op.load 3 (Operand.tmp 65)), none, ann0⟩,
  ⟨(some 67), (Op.fieldAddr 25 (Operand.tmp 10) 1), none, ann0⟩,
  ⟨(some 68), (Op.load 3 (Operand.tmp 67)), none, ann0⟩,
  ⟨(some 69), (Op.build 38 #[(0, (Operand.tmp 66)), (1, (Operand.tmp 68))]), none, ann0⟩,
  ⟨none, (Op.mapUpdate 66 (Operand.tmp 64) (Operand.tmp 69) (Operand.const (Value.bool true))), none, ann0⟩] none)
 .skip)))
 (.seq (.reg [⟨(some 71), (Op.binOp BinOp.eql 5 (Operand.tmp 46) (Operand.const (Value.int IntKind.u8 1)) 5), none, ann0⟩,
  ⟨(some 70), (Op.assign (Operand.tmp 71)), none, ann0⟩] none)
 (.cond (Operand.tmp 70) (.reg [⟨(some 72), (Op.move (Operand.tmp 5)), none, ann0⟩,
  ⟨(some 73), (Op.move (Operand.tmp 5)), none, ann0⟩,
  ⟨(some 74), (Op.call { callee := (Callee.value (Operand.func 20)), args := #[(Operand.tmp 73)], argTypes := #[27] }), none, ann0⟩,
  ⟨(some 75), (Op.fieldAddr 57 (Operand.tmp 9) 1), none, ann0⟩,
  ⟨(some 76), (Op.load 5 (Operand.tmp 75)), none, ann0⟩,
  ⟨(some 77), (Op.binOp BinOp.rem 5 (Operand.tmp 76) (Operand.const (Value.int IntKind.u8 4)) 5), none, ann0⟩,
  ⟨(some 78), (Op.convert 5 3 (Operand.tmp 77)), none, ann0⟩,
  ⟨(some 79), (Op.binOp BinOp.add 3 (Operand.tmp 74) (Operand.tmp 78) 3), none, ann0⟩,
  ⟨(some 80), (Op.call { callee := (Callee.value (Operand.func 17)), args := #[(Operand.tmp 72), (Operand.tmp 79)], argTypes := #[27, 3] }), none, ann0⟩] (some [0, 0, 2, 0, 8, 24, 56, 126, 255]))
 (.seq (.reg [⟨(some 82), (Op.binOp BinOp.eql 5 (Operand.tmp 46) (Operand.const (Value.int IntKind.u8 2)) 5), none, ann0⟩,
  ⟨(some 81), (Op.assign (Operand.tmp 82)), none, ann0⟩] none)
 (.cond (Operand.tmp 81) (.seq (.reg [⟨(some 83), (Op.move (Operand.tmp 5)), none, ann0⟩,
  ⟨(some 84), (Op.call { callee := (Callee.value (Operand.func 22)), args := #[(Operand.tmp 83)], argTypes := #[27] }), none, ⟨1, true, false⟩⟩,
  ⟨(some 85), (Op.call { callee := (Callee.builtin Builtin.len), args := #[(Operand.tmp 84)], argTypes := #[51] }), none, ann0⟩,
  ⟨(some 86), (Op.move (Operand.const (Value.int IntKind.i64 0))), none, ann0⟩] none)
 (.post (.block 3 (.pre (.tidy [5, 7, 9, 38, 39, 40, 84, 85, 86] z (z + 8)) (.loop (s9_2 z)))) (.tidy [5, 7, 38, 39, 40] z (z + 8))))
 (.seq (.reg [⟨(some 110), (Op.binOp BinOp.eql 5 (Operand.tmp 46) (Operand.const (Value.int IntKind.u8 3)) 5), none, ann0⟩,
  ⟨(some 109), (Op.assign (Operand.tmp 110)), none, ann0⟩] none)
 (.cond (Operand.tmp 109) (.reg [⟨(some 111), (Op.move (Operand.tmp 5)), none, ann0⟩,
  ⟨(some 112), (Op.fieldAddr 57 (Operand.tmp 9) 1), none, ann0⟩,
  ⟨(some 113), (Op.load 5 (Operand.tmp 112)), none, ann0⟩,
  ⟨(some 114), (Op.binOp BinOp.rem 5 (Operand.tmp 113) (Operand.const (Value.int IntKind.u8 10)) 5), none, ann0⟩,
  ⟨(some 115), (Op.convert 5 3 (Operand.tmp 114)), none, ann0⟩,
  ⟨(some 116), (Op.binOp BinOp.add 3 (Operand.const (Value.int IntKind.i64 1)) (Operand.tmp 115) 3), none, ann0⟩,
  ⟨(some 117), (Op.call { callee := (Callee.value (Operand.func 29)), args := #[(Operand.tmp 111), (Operand.tmp 116)], argTypes := #[27, 3] }), none, ann0⟩] none)
 (.reg [⟨(some 47), (Op.move (Operand.tmp 5)), none, ann0⟩,
  ⟨(some 48), (Op.move (Operand.tmp 5)), none, ann0⟩,
  ⟨(some 49), (Op.call { callee := (Callee.value (Operand.func 20)), args := #[(Operand.tmp 48)], argTypes := #[27] }), none, ann0⟩,
  ⟨(some 50), (Op.fieldAddr 57 (Operand.tmp 9) 1), none, ann0⟩,
  ⟨(some 51), (Op.load 5 (Operand.tmp 50)), none, ann0⟩,
  ⟨(some 52), (Op.binOp BinOp.rem 5 (Operand.tmp 51) (Operand.const (Value.int IntKind.u8 12)) 5), none, ann0⟩,
  ⟨(some 53), (Op.convert 5 3 (Operand.tmp 52)), none, ann0⟩,
  ⟨(some 54), (Op.binOp BinOp.add 3 (Operand.tmp 49) (Operand.tmp 53) 3), none, ann0⟩,
  ⟨(some 55), (Op.call { callee := (Callee.value (Operand.func 26)), args := #[(Operand.tmp 47), (Operand.tmp 54)], argTypes := #[27, 3] }), none, ann0⟩] (some [0, 0, 2, 0, 8, 24, 56, 126, 255]))))))))))) (.tidy [5, 7, 38, 39, 40] z (z + 8)))))) (.tidy [5, 7, 38, 39, 40] z (z + 8)))
 (.reg [⟨(some 118), (Op.binOp BinOp.add 3 (Operand.tmp 40) (Operand.const (Value.int IntKind.i64 1)) 3), none, ann0⟩,
  ⟨(some 40), (Op.move (Operand.tmp 118)), none, ann0⟩] none)))) (.tidy [5, 7, 38, 39, 40] z (z + 6))
def s9_1 (z : Nat) : SC := c9_1 z
theorem e9_1 {C : Pg} {z : Nat} {st : St} {ks : List Fr} {K : Ex → St → Prop} : wpk C (s9_1 z) st ks K ↔ wpk C (c9_1 z) st ks K := Iff.rfl
def c9_3 (z : Nat) : SC := .post (.seq (.reg [⟨(some 125), (Op.binOp BinOp.lss 3 (Operand.tmp 124) (Operand.tmp 123) 3), none, ann0⟩] none)
 (.seq (.cond (Operand.tmp 125) .skip
 (.exit 5))
 (.seq (.post (.block 6 (.seq (.reg [⟨(some 126), (Op.indexAddr 51 (Operand.tmp 122) (Operand.tmp 124)), none, ann0⟩,
  ⟨(some 127), (Op.load 40 (Operand.tmp 126)), none, ann0⟩,
  ⟨(some 15), (Op.alloc 40), none, ⟨1, false, false⟩⟩,
  ⟨none, (Op.store 40 (Operand.tmp 15) (Operand.tmp 127)), none, ann0⟩] none)
 (.reg [⟨(some 128), (Op.move (Operand.tmp 13)), none, ann0⟩,
  ⟨(some 129), (Op.fieldAddr 40 (Operand.tmp 15) 1), none, ann0⟩,
  ⟨(some 130), (Op.load 38 (Operand.tmp 129)), none, ann0⟩,
  ⟨(some 131), (Op.buildSlice 49 1 #[(0, (Operand.tmp 130))]), none, ⟨1, true, false⟩⟩,
  ⟨(some 132), (Op.call { callee := (Callee.builtin Builtin.append), args := #[(Operand.tmp 128), (Operand.tmp 131)], argTypes := #[49, 49] }), none, ann0⟩,
  ⟨(some 13), (Op.assign (Operand.tmp 132)), none, ann0⟩] none))) (.tidy [5, 7, 13, 122, 123, 124] z (z + 10)))
 (.reg [⟨(some 133), (Op.binOp BinOp.add 3 (Operand.tmp 124) (Operand.const (Value.int IntKind.i64 1)) 3), none, ann0⟩,
  ⟨(some 124), (Op.move (Operand.tmp 133)), none, ann0⟩] none)))) (.tidy [5, 7, 13, 122, 123, 124] z (z + 8))
def s9_3 (z : Nat) : SC := c9_3 z
theorem e9_3 {C : Pg} {z : Nat} {st : St} {ks : List Fr} {K : Ex → St → Prop} : wpk C (s9_3 z) st ks K ↔ wpk C (c9_3 z) st ks K := Iff.rfl
def c9_4 (z : Nat) : SC := .post (.seq (.reg [⟨(some 136), (Op.next (Operand.tmp 135) false), none, ann0⟩,
  ⟨(some 137), (Op.extract (Operand.tmp 136) 0), none, ann0⟩] none)
 (.seq (.cond (Operand.tmp 137) .skip
 (.exit 7))
 (.block 8 (.seq (.reg [⟨(some 138), (Op.entry (Operand.tmp 135)), none, ann0⟩,
  ⟨(some 139), (Op.extract (Operand.tmp 138) 1), none, ann0⟩,
  ⟨(some 18), (Op.assign (Operand.tmp 139)), none, ann0⟩] none)
 (.seq (.reg [⟨(some 140), (Op.move (Operand.tmp 18)), none, ann0⟩] none)
 (.cond (Operand.tmp 140) (.reg [⟨(some 141), (Op.move (Operand.tmp 16)), none, ann0⟩,
  ⟨(some 142), (Op.binOp BinOp.add 3 (Operand.tmp 141) (Operand.const (Value.int IntKind.i64 1)) 3), none, ann0⟩,
  ⟨(some 16), (Op.assign (Operand.tmp 142)), none, ann0⟩] none)
 .skip)))))) (.tidy [5, 7, 13, 16, 135] z (z + 9))
def s9_4 (z : Nat) : SC := c9_4 z
theorem e9_4 {C : Pg} {z : Nat} {st : St} {ks : List Fr} {K : Ex → St → Prop} : wpk C (s9_4 z) st ks K ↔ wpk C (c9_4 z) st ks K := Iff.rfl
def c9_5 (z : Nat) : SC := .post (.seq (.reg [⟨(some 147), (Op.binOp BinOp.lss 3 (Operand.tmp 146) (Operand.tmp 145) 3), none, ann0⟩] none)
 (.seq (.cond (Operand.tmp 147) .skip
 (.exit 9))
 (.seq (.post (.block 10 (.seq (.reg [⟨(some 148), (Op.indexAddr 49 (Operand.tmp 144) (Operand.tmp 146)), none, ann0⟩,
  ⟨(some 149), (Op.load 38 (Operand.tmp 148)), none, ann0⟩,
  ⟨(some 21), (Op.alloc 38), none, ⟨1, false, false⟩⟩,
  ⟨none, (Op.store 38 (Operand.tmp 21) (Operand.tmp 149)), none, ann0⟩] none)
 (.seq (.post (.seq (.post (.reg [⟨(some 150), (Op.move (Operand.tmp 19)), none, ann0⟩,
  ⟨(some 151), (Op.load 38 (Operand.tmp 21)), none, ann0⟩,
  ⟨(some 152), (Op.lookup 66 (Operand.tmp 150) (Operand.tmp 151) false), none, ann0⟩,
  ⟨(some 153), (Op.move (Operand.tmp 152)), none, ann0⟩,
  ⟨(some 154), (Op.move (Operand.tmp 7)), (some (153, false)), ann0⟩,
  ⟨(some 155), (Op.load 38 (Operand.tmp 21)), (some (153, false)), ann0⟩,
  ⟨(some 156), (Op.lookup 66 (Operand.tmp 154) (Operand.tmp 155) false), (some (153, false)), ann0⟩,
  ⟨(some 157), (Op.unOp UnOp.not 4 (Operand.tmp 156)), (some (153, false)), ann0⟩,
  ⟨(some 158), (Op.pick (Operand.tmp 153) (Operand.const (Value.bool true)) (Operand.tmp 157)), none, ann0⟩] none) (.tidy [5, 7, 13, 16, 19, 21, 144, 145, 146, 158] z (z + 11)))
 (.cond (Operand.tmp 158) (.seq (.reg [⟨(some 4), (Op.assign (Operand.const (Value.bool false))), none, ann0⟩] none)
 .ret)
 .skip)) (.tidy [5, 7, 13, 16, 19, 21, 144, 145, 146] z (z + 11)))
 (.reg [⟨(some 159), (Op.move (Operand.tmp 19)), none, ann0⟩,
  ⟨(some 160), (Op.load 38 (Operand.tmp 21)), none, ann0⟩,
  ⟨none, (Op.mapUpdate 66 (Operand.tmp 159) (Operand.tmp 160) (Operand.const (Value.bool true))), none, ann0⟩] none)))) (.tidy [5, 7, 13, 16, 19, 144, 145, 146] z (z + 11)))
 (.reg [⟨(some 161), (Op.binOp BinOp.add 3 (Operand.tmp 146) (Operand.const (Value.int IntKind.i64 1)) 3), none, ann0⟩,
  ⟨(some 146), (Op.move (Operand.tmp 161)), none, ann0⟩] none)))) (.tidy [5, 7, 13, 16, 19, 144, 145, 146] z (z + 10))
def s9_5 (z : Nat) : SC := c9_5 z
theorem e9_5 {C : Pg} {z : Nat} {st : St} {ks : List Fr} {K : Ex → St → Prop} : wpk C (s9_5 z) st ks K ↔ wpk C (c9_5 z) st ks K := Iff.rfl
def s9 (z : Nat) : SFn := ⟨2, 172, [(ResultVar.tmp 4)],
 (.seq (.reg [⟨(some 2), (Op.box 32 (Operand.tmp 0)), none, ⟨1, false, false⟩⟩,
  ⟨(some 4), (Op.assign (Operand.const (Value.bool false))), none, ann0⟩] none)
 (.seq (.post (.seq (.post (.reg [⟨(some 22), (Op.call { callee := (Callee.value (Operand.func 12)), args := #[], argTypes := #[] }), none, ann0⟩,
  ⟨(some 23), (Op.unOp UnOp.not 4 (Operand.tmp 22)), none, ann0⟩,
  ⟨(some 24), (Op.move (Operand.tmp 23)), none, ann0⟩,
  ⟨(some 25), (Op.move (Operand.tmp 1)), (some (24, false)), ann0⟩,
  ⟨(some 26), (Op.call { callee := (Callee.builtin Builtin.len), args := #[(Operand.tmp 25)], argTypes := #[54] }), (some (24, false)), ann0⟩,
  ⟨(some 27), (Op.binOp BinOp.gtr 3 (Operand.tmp 26) (Operand.const (Value.int IntKind.i64 25)) 3), (some (24, false)), ann0⟩,
  ⟨(some 28), (Op.pick (Operand.tmp 24) (Operand.const (Value.bool true)) (Operand.tmp 27)), none, ann0⟩] none) (.tidy [1, 2, 28] z (z + 1)))
 (.cond (Operand.tmp 28) (.seq (.reg [⟨(some 29), (Op.call { callee := (Callee.value (Operand.func 12)), args := #[], argTypes := #[] }), none, ann0⟩,
  ⟨(some 4), (Op.assign (Operand.tmp 29)), none, ann0⟩] none)
 .ret)
 .skip)) (.tidy [1, 2] z (z + 1)))
 (.seq (.post (.reg [⟨(some 31), (Op.load 32 (Operand.tmp 2)), none, ann0⟩,
  ⟨(some 32), (Op.call { callee := (Callee.value (Operand.func 13)), args := #[(Operand.tmp 31)], argTypes := #[32] }), none, ⟨4, false, false⟩⟩,
  ⟨(some 30), (Op.move (Operand.tmp 32)), none, ann0⟩,
  ⟨(some 33), (Op.extract (Operand.tmp 30) 0), none, ann0⟩,
  ⟨(some 34), (Op.extract (Operand.tmp 30) 1), none, ann0⟩,
  ⟨(some 5), (Op.assign (Operand.tmp 33)), none, ann0⟩,
  ⟨(some 6), (Op.assign (Operand.tmp 34)), none, ann0⟩] none) (.tidy [1, 5] z (z + 5)))
 (.seq (.seq (.reg [⟨(some 35), (Op.move (Operand.tmp 5)), none, ann0⟩,
  ⟨(some 36), (Op.binOp BinOp.eql 27 (Operand.tmp 35) (Operand.const (Value.pointer none)) 27), none, ann0⟩] none)
 (.cond (Operand.tmp 36) (.seq (.reg [⟨(some 4), (Op.assign (Operand.const (Value.bool false))), none, ann0⟩] none)
 .ret)
 .skip))
 (.seq (.reg [⟨(some 37), (Op.makeMap 66 none), none, ⟨1, true, false⟩⟩,
  ⟨(some 7), (Op.assign (Operand.tmp 37)), none, ann0⟩] none)
 (.seq (.post (.seq (.reg [⟨(some 38), (Op.move (Operand.tmp 1)), none, ann0⟩,
  ⟨(some 39), (Op.call { callee := (Callee.builtin Builtin.len), args := #[(Operand.tmp 38)], argTypes := #[54] }), none, ann0⟩,
  ⟨(some 40), (Op.move (Operand.const (Value.int IntKind.i64 0))), none, ann0⟩] none)
 (.post (.block 0 (.pre (.tidy [5, 7, 38, 39, 40] z (z + 6)) (.loop (s9_1 z)))) (.tidy [5, 7] z (z + 6)))) (.tidy [5, 7] z (z + 6)))
 (.seq (.reg [⟨(some 119), (Op.move (Operand.tmp 5)), none, ann0⟩,
  ⟨(some 120), (Op.call { callee := (Callee.value (Operand.func 21)), args := #[(Operand.tmp 119)], argTypes := #[27] }), none, ⟨1, false, false⟩⟩,
  ⟨(some 13), (Op.assign (Operand.tmp 120)), none, ann0⟩] none)
 (.seq (.post (.seq (.reg [⟨(some 121), (Op.move (Operand.tmp 5)), none, ann0⟩,
  ⟨(some 122), (Op.call { callee := (Callee.value (Operand.func 22)), args := #[(Operand.tmp 121)], argTypes := #[27] }), none, ⟨1, true, false⟩⟩,
  ⟨(some 123), (Op.call { callee := (Callee.builtin Builtin.len), args := #[(Operand.tmp 122)], argTypes := #[51] }), none, ann0⟩,
  ⟨(some 124), (Op.move (Operand.const (Value.int IntKind.i64 0))), none, ann0⟩] none)
 (.post (.block 5 (.pre (.tidy [5, 7, 13, 122, 123, 124] z (z + 8)) (.loop (s9_3 z)))) (.tidy [5, 7, 13] z (z + 8)))) (.tidy [5, 7, 13] z (z + 8)))
 (.seq (.reg [⟨(some 16), (Op.assign (Operand.const (Value.int IntKind.i64 0))), none, ann0⟩] none)
 (.seq (.post (.seq (.reg [⟨(some 134), (Op.move (Operand.tmp 7)), none, ann0⟩,
  ⟨(some 135), (Op.range 66 (Operand.tmp 134)), none, ⟨1, false, false⟩⟩] none)
 (.post (.block 7 (.pre (.tidy [5, 7, 13, 16, 135] z (z + 9)) (.loop (s9_4 z)))) (.tidy [5, 7, 13, 16] z (z + 9)))) (.tidy [5, 7, 13, 16] z (z + 9)))
 (.seq (.reg [⟨(some 143), (Op.makeMap 66 none), none, ⟨1, true, false⟩⟩,
  ⟨(some 19), (Op.assign (Operand.tmp 143)), none, ann0⟩] none)
 (.seq (.post (.seq (.reg [⟨(some 144), (Op.move (Operand.tmp 13)), none, ann0⟩,
  ⟨(some 145), (Op.call { callee := (Callee.builtin Builtin.len), args := #[(Operand.tmp 144)], argTypes := #[49] }), none, ann0⟩,
  ⟨(some 146), (Op.move (Operand.const (Value.int IntKind.i64 0))), none, ann0⟩] none)
 (.post (.block 9 (.pre (.tidy [5, 7, 13, 16, 19, 144, 145, 146] z (z + 10)) (.loop (s9_5 z)))) (.tidy [5, 13, 16] z (z + 10)))) (.tidy [5, 13, 16] z (z + 10)))
 (.seq (.reg [⟨(some 162), (Op.move (Operand.tmp 13)), none, ann0⟩,
  ⟨(some 163), (Op.call { callee := (Callee.builtin Builtin.len), args := #[(Operand.tmp 162)], argTypes := #[49] }), none, ann0⟩,
  ⟨(some 164), (Op.move (Operand.tmp 16)), none, ann0⟩,
  ⟨(some 165), (Op.binOp BinOp.eql 3 (Operand.tmp 163) (Operand.tmp 164) 3), none, ann0⟩,
  ⟨(some 166), (Op.move (Operand.tmp 165)), none, ann0⟩,
  ⟨(some 167), (Op.move (Operand.tmp 5)), (some (166, true)), ann0⟩,
  ⟨(some 168), (Op.call { callee := (Callee.value (Operand.func 16)), args := #[(Operand.tmp 167)], argTypes := #[27] }), (some (166, true)), ann0⟩,
  ⟨(some 169), (Op.move (Operand.tmp 16)), (some (166, true)), ann0⟩,
  ⟨(some 170), (Op.binOp BinOp.eql 3 (Operand.tmp 168) (Operand.tmp 169) 3), (some (166, true)), ann0⟩,
  ⟨(some 171), (Op.pick (Operand.tmp 166) (Operand.tmp 170) (Operand.const (Value.bool false))), none, ann0⟩,
  ⟨(some 4), (Op.assign (Operand.tmp 171)), none, ann0⟩] none)
 .ret)))))))))))))⟩
theorem F9 (z : Nat) : FOk Try.prog 9 (s9 z) := by unfold FOk; kernel_rfl
def c12_1 (z : Nat) : SC := .post (.seq (.reg [⟨(some 28), (Op.binOp BinOp.lss 3 (Operand.tmp 27) (Operand.tmp 26) 3), none, ann0⟩] none)
 (.seq (.cond (Operand.tmp 28) .skip
 (.exit 0))
 (.seq (.post (.block 1 (.seq (.reg [⟨(some 29), (Op.indexAddr 49 (Operand.tmp 25) (Operand.tmp 27)), none, ann0⟩,
  ⟨(some 30), (Op.load 38 (Operand.tmp 29)), none, ann0⟩,
  ⟨(some 4), (Op.alloc 38), none, ⟨1, false, false⟩⟩,
  ⟨none, (Op.store 38 (Operand.tmp 4) (Operand.tmp 30)), none, ann0⟩] none)
 (.seq (.post (.reg [⟨(some 31), (Op.move (Operand.tmp 1)), none, ann0⟩,
  ⟨(some 32), (Op.fieldAddr 38 (Operand.tmp 4) 0), none, ann0⟩,
  ⟨(some 33), (Op.load 3 (Operand.tmp 32)), none, ann0⟩,
  ⟨(some 34), (Op.fieldAddr 38 (Operand.tmp 4) 1), none, ann0⟩,
  ⟨(some 35), (Op.load 3 (Operand.tmp 34)), none, ann0⟩,
  ⟨(some 36), (Op.build 25 #[(0, (Operand.tmp 33)), (1, (Operand.tmp 35))]), none, ann0⟩,
  ⟨(some 37), (Op.call { callee := (Callee.value (Operand.func 15)), args := #[(Operand.tmp 31), (Operand.tmp 36)], argTypes := #[27, 25] }), none, ann0⟩,
  ⟨(some 38), (Op.binOp BinOp.neq 34 (Operand.tmp 37) (Operand.const (Value.int IntKind.i64 0)) 34), none, ann0⟩] none) (.tidy [1, 25, 26, 27, 38] z (z + 5)))
 (.cond (Operand.tmp 38) (.seq (.reg [⟨(some 0), (Op.assign (Operand.const (Value.bool false))), none, ann0⟩] none)
 .ret)
 .skip)))) (.tidy [1, 25, 26, 27] z (z + 5)))
 (.reg [⟨(some 39), (Op.binOp BinOp.add 3 (Operand.tmp 27) (Operand.const (Value.int IntKind.i64 1)) 3), none, ann0⟩,
  ⟨(some 27), (Op.move (Operand.tmp 39)), none, ann0⟩] none)))) (.tidy [1, 25, 26, 27] z (z + 4))
def s12_1 (z : Nat) : SC := c12_1 z
theorem e12_1 {C : Pg} {z : Nat} {st : St} {ks : List Fr} {K : Ex → St → Prop} : wpk C (s12_1 z) st ks K ↔ wpk C (c12_1 z) st ks K := Iff.rfl
def s12 (z : Nat) : SFn := ⟨0, 101, [(ResultVar.tmp 0)],
 (.seq (.reg [⟨(some 0), (Op.assign (Operand.const (Value.bool false))), none, ann0⟩] none)
 (.seq (.post (.reg [⟨(some 12), (Op.build 46 #[(0, (Operand.const (Value.int IntKind.i64 8))), (1, (Operand.const (Value.int IntKind.i64 2))), (2, (Operand.const (Value.int IntKind.i64 10)))]), none, ann0⟩,
  ⟨(some 13), (Op.call { callee := (Callee.value (Operand.func 19)), args := #[(Operand.tmp 12)], argTypes := #[46] }), none, ⟨3, false, false⟩⟩,
  ⟨(some 11), (Op.move (Operand.tmp 13)), none, ann0⟩,
  ⟨(some 14), (Op.extract (Operand.tmp 11) 0), none, ann0⟩,
  ⟨(some 15), (Op.extract (Operand.tmp 11) 1), none, ann0⟩,
  ⟨(some 1), (Op.assign (Operand.tmp 14)), none, ann0⟩,
  ⟨(some 2), (Op.assign (Operand.tmp 15)), none, ann0⟩] none) (.tidy [1, 2] z (z + 3)))
 (.seq (.post (.seq (.reg [⟨(some 16), (Op.move (Operand.tmp 2)), none, ann0⟩,
  ⟨(some 17), (Op.binOp BinOp.neq 34 (Operand.tmp 16) (Operand.const (Value.int IntKind.i64 0)) 34), none, ann0⟩,
  ⟨(some 18), (Op.move (Operand.tmp 17)), none, ann0⟩,
  ⟨(some 19), (Op.move (Operand.tmp 1)), (some (18, false)), ann0⟩,
  ⟨(some 20), (Op.binOp BinOp.eql 27 (Operand.tmp 19) (Operand.const (Value.pointer none)) 27), (some (18, false)), ann0⟩,
  ⟨(some 21), (Op.pick (Operand.tmp 18) (Operand.const (Value.bool true)) (Operand.tmp 20)), none, ann0⟩] none)
 (.cond (Operand.tmp 21) (.seq (.reg [⟨(some 0), (Op.assign (Operand.const (Value.bool false))), none, ann0⟩] none)
 .ret)
 .skip)) (.tidy [1] z (z + 3)))
 (.seq (.post (.seq (.reg [⟨(some 22), (Op.build 38 #[(0, (Operand.const (Value.int IntKind.i64 5))), (1, (Operand.const (Value.int IntKind.i64 0)))]), none, ann0⟩,
  ⟨(some 23), (Op.build 38 #[(0, (Operand.const (Value.int IntKind.i64 5))), (1, (Operand.const (Value.int IntKind.i64 1)))]), none, ann0⟩,
  ⟨(some 24), (Op.build 38 #[(0, (Operand.const (Value.int IntKind.i64 9))), (1, (Operand.const (Value.int IntKind.i64 0)))]), none, ann0⟩,
  ⟨(some 25), (Op.buildSlice 49 3 #[(0, (Operand.tmp 22)), (1, (Operand.tmp 23)), (2, (Operand.tmp 24))]), none, ⟨1, true, false⟩⟩,
  ⟨(some 26), (Op.call { callee := (Callee.builtin Builtin.len), args := #[(Operand.tmp 25)], argTypes := #[49] }), none, ann0⟩,
  ⟨(some 27), (Op.move (Operand.const (Value.int IntKind.i64 0))), none, ann0⟩] none)
 (.post (.block 0 (.pre (.tidy [1, 25, 26, 27] z (z + 4)) (.loop (s12_1 z)))) (.tidy [1] z (z + 4)))) (.tidy [1] z (z + 4)))
 (.seq (.post (.reg [⟨(some 41), (Op.move (Operand.tmp 1)), none, ann0⟩,
  ⟨(some 42), (Op.call { callee := (Callee.value (Operand.func 17)), args := #[(Operand.tmp 41), (Operand.const (Value.int IntKind.i64 3))], argTypes := #[27, 3] }), none, ann0⟩,
  ⟨(some 40), (Op.move (Operand.tmp 42)), none, ann0⟩,
  ⟨(some 43), (Op.extract (Operand.tmp 40) 0), none, ann0⟩,
  ⟨(some 44), (Op.extract (Operand.tmp 40) 1), none, ann0⟩,
  ⟨(some 45), (Op.extract (Operand.tmp 40) 2), none, ann0⟩,
  ⟨(some 5), (Op.alloc 40), none, ⟨1, false, false⟩⟩,
  ⟨(some 6), (Op.alloc 25), none, ⟨1, false, false⟩⟩,
  ⟨none, (Op.store 40 (Operand.tmp 5) (Operand.tmp 43)), none, ann0⟩,
  ⟨none, (Op.store 25 (Operand.tmp 6) (Operand.tmp 44)), none, ann0⟩,
  ⟨(some 7), (Op.assign (Operand.tmp 45)), none, ann0⟩] none) (.tidy [1, 5, 6, 7] z (z + 6)))
 (.seq (.post (.reg [⟨(some 47), (Op.move (Operand.tmp 1)), none, ann0⟩,
  ⟨(some 48), (Op.call { callee := (Callee.value (Operand.func 17)), args := #[(Operand.tmp 47), (Operand.const (Value.int IntKind.i64 3))], argTypes := #[27, 3] }), none, ann0⟩,
  ⟨(some 46), (Op.move (Operand.tmp 48)), none, ann0⟩,
  ⟨(some 49), (Op.extract (Operand.tmp 46) 0), none, ann0⟩,
  ⟨(some 50), (Op.extract (Operand.tmp 46) 1), none, ann0⟩,
  ⟨(some 51), (Op.extract (Operand.tmp 46) 2), none, ann0⟩,
  ⟨(some 8), (Op.alloc 40), none, ⟨1, false, false⟩⟩,
  ⟨(some 9), (Op.alloc 25), none, ⟨1, false, false⟩⟩,
  ⟨none, (Op.store 40 (Operand.tmp 8) (Operand.tmp 49)), none, ann0⟩,
  ⟨none, (Op.store 25 (Operand.tmp 9) (Operand.tmp 50)), none, ann0⟩,
  ⟨(some 10), (Op.assign (Operand.tmp 51)), none, ann0⟩] none) (.tidy [1, 5, 6, 7, 8, 10] z (z + 8)))
 (.seq (.reg [⟨(some 52), (Op.move (Operand.tmp 1)), none, ann0⟩,
  ⟨(some 53), (Op.call { callee := (Callee.value (Operand.func 14)), args := #[(Operand.tmp 52), (Operand.const (Value.int IntKind.i64 5))], argTypes := #[27, 3] }), none, ann0⟩,
  ⟨(some 54), (Op.binOp BinOp.eql 3 (Operand.tmp 53) (Operand.const (Value.int IntKind.i64 0)) 3), none, ann0⟩,
  ⟨(some 55), (Op.move (Operand.tmp 54)), none, ann0⟩,
  ⟨(some 56), (Op.move (Operand.tmp 1)), (some (55, true)), ann0⟩,
  ⟨(some 57), (Op.call { callee := (Callee.value (Operand.func 14)), args := #[(Operand.tmp 56), (Operand.const (Value.int IntKind.i64 9))], argTypes := #[27, 3] }), (some (55, true)), ann0⟩,
  ⟨(some 58), (Op.binOp BinOp.eql 3 (Operand.tmp 57) (Operand.const (Value.int IntKind.i64 1)) 3), (some (55, true)), ann0⟩,
  ⟨(some 59), (Op.pick (Operand.tmp 55) (Operand.tmp 58) (Operand.const (Value.bool false))), none, ann0⟩,
  ⟨(some 60), (Op.move (Operand.tmp 59)), none, ann0⟩,
  ⟨(some 61), (Op.move (Operand.tmp 7)), (some (60, true)), ann0⟩,
  ⟨(some 62), (Op.binOp BinOp.eql 34 (Operand.tmp 61) (Operand.const (Value.int IntKind.i64 0)) 34), (some (60, true)), ann0⟩,
  ⟨(some 63), (Op.pick (Operand.tmp 60) (Operand.tmp 62) (Operand.const (Value.bool false))), none, ann0⟩,
  ⟨(some 64), (Op.move (Operand.tmp 63)), none, ann0⟩,
  ⟨(some 65), (Op.load 40 (Operand.tmp 5)), (some (64, true)), ann0⟩,
  ⟨(some 66), (Op.build 38 #[(0, (Operand.const (Value.int IntKind.i64 5)))]), (some (64, true)), ann0⟩,
  ⟨(some 67), (Op.build 40 #[(0, (Operand.const (Value.int IntKind.i64 1))), (1, (Operand.tmp 66)), (2, (Operand.const (Value.int IntKind.i64 13)))]), (some (64, true)), ann0⟩,
  ⟨(some 68), (Op.binOp BinOp.eql 40 (Operand.tmp 65) (Operand.tmp 67) 40), (some (64, true)), ann0⟩,
  ⟨(some 69), (Op.pick (Operand.tmp 64) (Operand.tmp 68) (Operand.const (Value.bool false))), none, ann0⟩,
  ⟨(some 70), (Op.move (Operand.tmp 69)), none, ann0⟩,
  ⟨(some 71), (Op.fieldAddr 25 (Operand.tmp 6) 0), (some (70, true)), ann0⟩,
  ⟨(some 72), (Op.load 3 (Operand.tmp 71)), (some (70, true)), ann0⟩,
  ⟨(some 73), (Op.binOp BinOp.eql 3 (Operand.tmp 72) (Operand.const (Value.int IntKind.i64 5)) 3), (some (70, true)), ann0⟩,
  ⟨(some 74), (Op.pick (Operand.tmp 70) (Operand.tmp 73) (Operand.const (Value.bool false))), none, ann0⟩,
  ⟨(some 75), (Op.move (Operand.tmp 74)), none, ann0⟩,
  ⟨(some 76), (Op.move (Operand.tmp 10)), (some (75, true)), ann0⟩,
  ⟨(some 77), (Op.binOp BinOp.eql 34 (Operand.tmp 76) (Operand.const (Value.int IntKind.i64 0)) 34), (some (75, true)), ann0⟩,
  ⟨(some 78), (Op.pick (Operand.tmp 75) (Operand.tmp 77) (Operand.const (Value.bool false))), none, ann0⟩,
  ⟨(some 79), (Op.move (Operand.tmp 78)), none, ann0⟩,
  ⟨(some 80), (Op.fieldAddr 40 (Operand.tmp 8) 1), (some (79, true)), ann0⟩,
  ⟨(some 81), (Op.load 38 (Operand.tmp 80)), (some (79, true)), ann0⟩,
  ⟨(some 82), (Op.build 38 #[(0, (Operand.const (Value.int IntKind.i64 9)))]), (some (79, true)), ann0⟩,
  ⟨(some 83), (Op.binOp BinOp.eql 38 (Operand.tmp 81) (Operand.tmp 82) 38), (some (79, true)), ann0⟩,
  ⟨(some 84), (Op.pick (Operand.tmp 79) (Operand.tmp 83) (Operand.const (Value.bool false))), none, ann0⟩,
  ⟨(some 85), (Op.move (Operand.tmp 84)), none, ann0⟩,
  ⟨(some 86), (Op.move (Operand.tmp 1)), (some (85, true)), ann0⟩,
  ⟨(some 87), (Op.call { callee := (Callee.value (Operand.func 29)), args := #[(Operand.tmp 86), (Operand.const (Value.int IntKind.i64 1))], argTypes := #[27, 3] }), (some (85, true)), ann0⟩,
  ⟨(some 88), (Op.binOp BinOp.eql 34 (Operand.tmp 87) (Operand.const (Value.int IntKind.i64 0)) 34), (some (85, true)), ann0⟩,
  ⟨(some 89), (Op.pick (Operand.tmp 85) (Operand.tmp 88) (Operand.const (Value.bool false))), none, ann0⟩,
  ⟨(some 90), (Op.move (Operand.tmp 89)), none, ann0⟩,
  ⟨(some 91), (Op.move (Operand.tmp 1)), (some (90, true)), ann0⟩,
  ⟨(some 92), (Op.call { callee := (Callee.value (Operand.func 21)), args := #[(Operand.tmp 91)], argTypes := #[27] }), (some (90, true)), ⟨1, true, false⟩⟩,
  ⟨(some 93), (Op.call { callee := (Callee.builtin Builtin.len), args := #[(Operand.tmp 92)], argTypes := #[49] }), (some (90, true)), ann0⟩,
  ⟨(some 94), (Op.binOp BinOp.eql 3 (Operand.tmp 93) (Operand.const (Value.int IntKind.i64 2)) 3), (some (90, true)), ann0⟩,
  ⟨(some 95), (Op.pick (Operand.tmp 90) (Operand.tmp 94) (Operand.const (Value.bool false))), none, ann0⟩,
  ⟨(some 96), (Op.move (Operand.tmp 95)), none, ann0⟩,
  ⟨(some 97), (Op.move (Operand.tmp 1)), (some (96, true)), ann0⟩,
  ⟨(some 98), (Op.call { callee := (Callee.value (Operand.func 16)), args := #[(Operand.tmp 97)], argTypes := #[27] }), (some (96, true)), ann0⟩,
  ⟨(some 99), (Op.binOp BinOp.eql 3 (Operand.tmp 98) (Operand.const (Value.int IntKind.i64 3)) 3), (some (96, true)), ann0⟩,
  ⟨(some 100), (Op.pick (Operand.tmp 96) (Operand.tmp 99) (Operand.const (Value.bool false))), none, ann0⟩,
  ⟨(some 0), (Op.assign (Operand.tmp 100)), none, ann0⟩] none)
 .ret)))))))⟩
theorem F12 (z : Nat) : FOk Try.prog 12 (s12 z) := by unfold FOk; kernel_rfl
def s13 (z : Nat) : SFn := ⟨1, 19, [(ResultVar.tmp 2), (ResultVar.tmp 3)],
 (.seq (.reg [⟨(some 1), (Op.box 32 (Operand.tmp 0)), none, ⟨1, false, false⟩⟩,
  ⟨(some 2), (Op.assign (Operand.const (Value.pointer none))), none, ann0⟩,
  ⟨(some 3), (Op.assign (Operand.const (Value.pointer none))), none, ann0⟩] none)
 (.seq (.post (.reg [⟨(some 7), (Op.load 32 (Operand.tmp 1)), none, ann0⟩,
  ⟨(some 8), (Op.call { callee := (Callee.value (Operand.func 23)), args := #[(Operand.tmp 7)], argTypes := #[32] }), none, ann0⟩,
  ⟨(some 9), (Op.call { callee := (Callee.value (Operand.func 19)), args := #[(Operand.tmp 8)], argTypes := #[46] }), none, ⟨3, false, false⟩⟩,
  ⟨(some 6), (Op.move (Operand.tmp 9)), none, ann0⟩,
  ⟨(some 10), (Op.extract (Operand.tmp 6) 0), none, ann0⟩,
  ⟨(some 11), (Op.extract (Operand.tmp 6) 1), none, ann0⟩,
  ⟨(some 4), (Op.assign (Operand.tmp 10)), none, ann0⟩,
  ⟨(some 5), (Op.assign (Operand.tmp 11)), none, ann0⟩] none) (.tidy [1, 4, 5] z (z + 4)))
 (.seq (.seq (.reg [⟨(some 12), (Op.move (Operand.tmp 5)), none, ann0⟩,
  ⟨(some 13), (Op.binOp BinOp.neq 34 (Operand.tmp 12) (Operand.const (Value.int IntKind.i64 0)) 34), none, ann0⟩] none)
 (.cond (Operand.tmp 13) (.seq (.reg [⟨(some 2), (Op.assign (Operand.const (Value.pointer none))), none, ann0⟩,
  ⟨(some 3), (Op.assign (Operand.const (Value.pointer none))), none, ann0⟩] none)
 .ret)
 .skip))
 (.seq (.reg [⟨(some 14), (Op.move (Operand.tmp 4)), none, ann0⟩,
  ⟨(some 15), (Op.load 32 (Operand.tmp 1)), none, ann0⟩,
  ⟨(some 16), (Op.call { callee := (Callee.value (Operand.func 23)), args := #[(Operand.tmp 15)], argTypes := #[32] }), none, ann0⟩,
  ⟨(some 17), (Op.build 74 #[(0, (Operand.tmp 16)), (2, (Operand.const (Value.int IntKind.i64 1)))]), none, ann0⟩,
  ⟨(some 18), (Op.box 74 (Operand.tmp 17)), none, ⟨1, false, false⟩⟩,
  ⟨(some 2), (Op.assign (Operand.tmp 14)), none, ann0⟩,
  ⟨(some 3), (Op.assign (Operand.tmp 18)), none, ann0⟩] none)
 .ret))))⟩
theorem F13 (z : Nat) : FOk Try.prog 13 (s13 z) := by unfold FOk; kernel_rfl
def c14_1 (z : Nat) : SC := .post (.seq (.reg [⟨(some 19), (Op.next (Operand.tmp 18) false), none, ann0⟩,
  ⟨(some 20), (Op.extract (Operand.tmp 19) 0), none, ann0⟩] none)
 (.seq (.cond (Operand.tmp 20) .skip
 (.exit 0))
 (.block 1 (.seq (.post (.reg [⟨(some 21), (Op.entry (Operand.tmp 18)), none, ann0⟩,
  ⟨(some 22), (Op.extract (Operand.tmp 21) 0), none, ann0⟩,
  ⟨(some 6), (Op.alloc 38), none, ⟨1, false, false⟩⟩,
  ⟨none, (Op.store 38 (Operand.tmp 6) (Operand.tmp 22)), none, ann0⟩] none) (.tidy [0, 1, 5, 6, 18] z (z + 2)))
 (.seq (.reg [⟨(some 23), (Op.fieldAddr 38 (Operand.tmp 6) 0), none, ann0⟩,
  ⟨(some 24), (Op.load 3 (Operand.tmp 23)), none, ann0⟩,
  ⟨(some 25), (Op.move (Operand.tmp 1)), none, ann0⟩,
  ⟨(some 26), (Op.binOp BinOp.eql 3 (Operand.tmp 24) (Operand.tmp 25) 3), none, ann0⟩] none)
 (.cond (Operand.tmp 26) (.reg [⟨(some 27), (Op.move (Operand.tmp 5)), none, ann0⟩,
  ⟨(some 28), (Op.binOp BinOp.add 3 (Operand.tmp 27) (Operand.const (Value.int IntKind.i64 1)) 3), none, ann0⟩,
  ⟨(some 5), (Op.assign (Operand.tmp 28)), none, ann0⟩] none)
 .skip)))))) (.tidy [0, 1, 5, 18] z (z + 1))
def s14_1 (z : Nat) : SC := c14_1 z
theorem e14_1 {C : Pg} {z : Nat} {st : St} {ks : List Fr} {K : Ex → St → Prop} : wpk C (s14_1 z) st ks K ↔ wpk C (c14_1 z) st ks K := Iff.rfl
def s14 (z : Nat) : SFn := ⟨2, 49, [(ResultVar.tmp 4)],
 (.seq (.reg [⟨(some 4), (Op.assign (Operand.const (Value.int IntKind.i64 0))), none, ann0⟩] none)
 (.seq (.post (.seq (.post (.reg [⟨(some 7), (Op.move (Operand.tmp 0)), none, ann0⟩,
  ⟨(some 8), (Op.binOp BinOp.eql 27 (Operand.tmp 7) (Operand.const (Value.pointer none)) 27), none, ann0⟩,
  ⟨(some 9), (Op.move (Operand.tmp 8)), none, ann0⟩,
  ⟨(some 10), (Op.move (Operand.tmp 1)), (some (9, false)), ann0⟩,
  ⟨(some 11), (Op.call { callee := (Callee.value (Operand.func 33)), args := #[(Operand.tmp 10)], argTypes := #[3] }), (some (9, false)), ann0⟩,
  ⟨(some 12), (Op.unOp UnOp.not 4 (Operand.tmp 11)), (some (9, false)), ann0⟩,
  ⟨(some 13), (Op.pick (Operand.tmp 9) (Operand.const (Value.bool true)) (Operand.tmp 12)), none, ann0⟩] none) (.tidy [0, 1, 13] z (z + 0)))
 (.cond (Operand.tmp 13) (.seq (.reg [⟨(some 4), (Op.assign (Operand.const (Value.int IntKind.i64 0))), none, ann0⟩] none)
 .ret)
 .skip)) (.tidy [0, 1] z (z + 0)))
 (.seq (.reg [⟨(some 5), (Op.assign (Operand.const (Value.int IntKind.i64 0))), none, ann0⟩] none)
 (.seq (.post (.seq (.reg [⟨(some 14), (Op.move (Operand.tmp 0)), none, ann0⟩,
  ⟨(some 15), (Op.nilCheck (Operand.tmp 14)), none, ann0⟩,
  ⟨(some 16), (Op.fieldAddr 79 (Operand.tmp 15) 1), none, ann0⟩,
  ⟨(some 17), (Op.load 76 (Operand.tmp 16)), none, ann0⟩,
  ⟨(some 18), (Op.range 76 (Operand.tmp 17)), none, ⟨1, false, false⟩⟩] none)
 (.post (.block 0 (.pre (.tidy [0, 1, 5, 18] z (z + 1)) (.loop (s14_1 z)))) (.tidy [0, 5] z (z + 1)))) (.tidy [0, 5] z (z + 1)))
 (.seq (.reg [⟨(some 29), (Op.move (Operand.tmp 0)), none, ann0⟩,
  ⟨(some 30), (Op.nilCheck (Operand.tmp 29)), none, ann0⟩,
  ⟨(some 31), (Op.fieldAddr 79 (Operand.tmp 30) 0), none, ann0⟩,
  ⟨(some 32), (Op.fieldAddr 46 (Operand.tmp 31) 0), none, ann0⟩,
  ⟨(some 33), (Op.load 3 (Operand.tmp 32)), none, ann0⟩,
  ⟨(some 34), (Op.move (Operand.tmp 0)), none, ann0⟩,
  ⟨(some 35), (Op.nilCheck (Operand.tmp 34)), none, ann0⟩,
  ⟨(some 36), (Op.fieldAddr 79 (Operand.tmp 35) 1), none, ann0⟩,
  ⟨(some 37), (Op.load 76 (Operand.tmp 36)), none, ann0⟩,
  ⟨(some 38), (Op.call { callee := (Callee.builtin Builtin.len), args := #[(Operand.tmp 37)], argTypes := #[76] }), none, ann0⟩,
  ⟨(some 39), (Op.binOp BinOp.sub 3 (Operand.tmp 33) (Operand.tmp 38) 3), none, ann0⟩,
  ⟨(some 40), (Op.move (Operand.tmp 0)), none, ann0⟩,
  ⟨(some 41), (Op.nilCheck (Operand.tmp 40)), none, ann0⟩,
  ⟨(some 42), (Op.fieldAddr 79 (Operand.tmp 41) 0), none, ann0⟩,
  ⟨(some 43), (Op.fieldAddr 46 (Operand.tmp 42) 1), none, ann0⟩,
  ⟨(some 44), (Op.load 3 (Operand.tmp 43)), none, ann0⟩,
  ⟨(some 45), (Op.move (Operand.tmp 5)), none, ann0⟩,
  ⟨(some 46), (Op.binOp BinOp.sub 3 (Operand.tmp 44) (Operand.tmp 45) 3), none, ann0⟩,
  ⟨(some 47), (Op.call { callee := (Callee.builtin Builtin.min), args := #[(Operand.tmp 39), (Operand.tmp 46)], argTypes := #[3, 3] }), none, ann0⟩,
  ⟨(some 48), (Op.call { callee := (Callee.builtin Builtin.max), args := #[(Operand.const (Value.int IntKind.i64 0)), (Operand.tmp 47)], argTypes := #[3, 3] }), none, ann0⟩,
  ⟨(some 4), (Op.assign (Operand.tmp 48)), none, ann0⟩] (some [0, 1, 3, 7, 15, 0, 32, 96, 224, 480, 1023, 0, 2048, 6144, 14336, 30720, 0, 129024, 262143, 524287, 1048575]))
 .ret)))))⟩
theorem F14 (z : Nat) : FOk Try.prog 14 (s14 z) := by unfold FOk; kernel_rfl
def s15 (z : Nat) : SFn := ⟨2, 63, [(ResultVar.tmp 4)],
 (.seq (.reg [⟨(some 3), (Op.box 25 (Operand.tmp 1)), none, ⟨1, false, false⟩⟩,
  ⟨(some 4), (Op.assign (Operand.const (Value.int IntKind.i64 0))), none, ann0⟩] none)
 (.seq (.seq (.reg [⟨(some 8), (Op.move (Operand.tmp 0)), none, ann0⟩,
  ⟨(some 9), (Op.binOp BinOp.eql 27 (Operand.tmp 8) (Operand.const (Value.pointer none)) 27), none, ann0⟩] none)
 (.cond (Operand.tmp 9) (.seq (.reg [⟨(some 4), (Op.assign (Operand.const (Value.int IntKind.i64 1))), none, ann0⟩] none)
 .ret)
 .skip))
 (.seq (.post (.seq (.post (.reg [⟨(some 10), (Op.fieldAddr 25 (Operand.tmp 3) 0), none, ann0⟩,
  ⟨(some 11), (Op.load 3 (Operand.tmp 10)), none, ann0⟩,
  ⟨(some 12), (Op.call { callee := (Callee.value (Operand.func 33)), args := #[(Operand.tmp 11)], argTypes := #[3] }), none, ann0⟩,
  ⟨(some 13), (Op.unOp UnOp.not 4 (Operand.tmp 12)), none, ann0⟩,
  ⟨(some 14), (Op.move (Operand.tmp 13)), none, ann0⟩,
  ⟨(some 15), (Op.fieldAddr 25 (Operand.tmp 3) 1), (some (14, false)), ann0⟩,
  ⟨(some 16), (Op.load 3 (Operand.tmp 15)), (some (14, false)), ann0⟩,
  ⟨(some 17), (Op.binOp BinOp.lss 3 (Operand.tmp 16) (Operand.const (Value.int IntKind.i64 0)) 3), (some (14, false)), ann0⟩,
  ⟨(some 18), (Op.pick (Operand.tmp 14) (Operand.const (Value.bool true)) (Operand.tmp 17)), none, ann0⟩,
  ⟨(some 19), (Op.move (Operand.tmp 18)), none, ann0⟩,
  ⟨(some 20), (Op.fieldAddr 25 (Operand.tmp 3) 1), (some (19, false)), ann0⟩,
  ⟨(some 21), (Op.load 3 (Operand.tmp 20)), (some (19, false)), ann0⟩,
  ⟨(some 22), (Op.binOp BinOp.gtr 3 (Operand.tmp 21) (Operand.const (Value.int IntKind.i64 1048576)) 3), (some (19, false)), ann0⟩,
  ⟨(some 23), (Op.pick (Operand.tmp 19) (Operand.const (Value.bool true)) (Operand.tmp 22)), none, ann0⟩] none) (.tidy [0, 3, 23] z (z + 1)))
 (.cond (Operand.tmp 23) (.seq (.reg [⟨(some 4), (Op.assign (Operand.const (Value.int IntKind.i64 2))), none, ann0⟩] none)
 .ret)
 .skip)) (.tidy [0, 3] z (z + 1)))
 (.seq (.reg [⟨(some 24), (Op.fieldAddr 25 (Operand.tmp 3) 0), none, ann0⟩,
  ⟨(some 25), (Op.load 3 (Operand.tmp 24)), none, ann0⟩,
  ⟨(some 26), (Op.fieldAddr 25 (Operand.tmp 3) 1), none, ann0⟩,
  ⟨(some 27), (Op.load 3 (Operand.tmp 26)), none, ann0⟩,
  ⟨(some 28), (Op.build 38 #[(0, (Operand.tmp 25)), (1, (Operand.tmp 27))]), none, ann0⟩,
  ⟨(some 5), (Op.alloc 38), none, ⟨1, false, false⟩⟩,
  ⟨none, (Op.store 38 (Operand.tmp 5) (Operand.tmp 28)), none, ann0⟩] none)
 (.seq (.post (.seq (.post (.reg [⟨(some 30), (Op.move (Operand.tmp 0)), none, ann0⟩,
  ⟨(some 31), (Op.nilCheck (Operand.tmp 30)), none, ann0⟩,
  ⟨(some 32), (Op.fieldAddr 79 (Operand.tmp 31) 1), none, ann0⟩,
  ⟨(some 33), (Op.load 76 (Operand.tmp 32)), none, ann0⟩,
  ⟨(some 34), (Op.load 38 (Operand.tmp 5)), none, ann0⟩,
  ⟨(some 35), (Op.lookup 76 (Operand.tmp 33) (Operand.tmp 34) true), none, ann0⟩,
  ⟨(some 29), (Op.move (Operand.tmp 35)), none, ann0⟩,
  ⟨(some 36), (Op.extract (Operand.tmp 29) 0), none, ann0⟩,
  ⟨(some 37), (Op.extract (Operand.tmp 29) 1), none, ann0⟩,
  ⟨(some 6), (Op.alloc 81), none, ⟨1, false, false⟩⟩,
  ⟨none, (Op.store 81 (Operand.tmp 6) (Operand.tmp 36)), none, ann0⟩,
  ⟨(some 7), (Op.assign (Operand.tmp 37)), none, ann0⟩] (some [0, 1, 3, 7, 0, 31, 63, 127, 127, 0, 767, 2047])) (.tidy [0, 3, 5, 7] z (z + 3)))
 (.seq (.reg [⟨(some 38), (Op.move (Operand.tmp 7)), none, ann0⟩] none)
 (.cond (Operand.tmp 38) (.seq (.reg [⟨(some 4), (Op.assign (Operand.const (Value.int IntKind.i64 9))), none, ann0⟩] none)
 .ret)
 .skip))) (.tidy [0, 3, 5] z (z + 3)))
 (.seq (.post (.seq (.reg [⟨(some 39), (Op.move (Operand.tmp 0)), none, ann0⟩,
  ⟨(some 40), (Op.fieldAddr 25 (Operand.tmp 3) 0), none, ann0⟩,
  ⟨(some 41), (Op.load 3 (Operand.tmp 40)), none, ann0⟩,
  ⟨(some 42), (Op.call { callee := (Callee.value (Operand.func 14)), args := #[(Operand.tmp 39), (Operand.tmp 41)], argTypes := #[27, 3] }), none, ann0⟩,
  ⟨(some 43), (Op.binOp BinOp.eql 3 (Operand.tmp 42) (Operand.const (Value.int IntKind.i64 0)) 3), none, ann0⟩] none)
 (.cond (Operand.tmp 43) (.seq (.reg [⟨(some 4), (Op.assign (Operand.const (Value.int IntKind.i64 28))), none, ann0⟩] none)
 .ret)
 .skip)) (.tidy [0, 3, 5] z (z + 3)))
 (.seq (.post (.reg [⟨(some 44), (Op.move (Operand.tmp 0)), none, ann0⟩,
  ⟨(some 45), (Op.nilCheck (Operand.tmp 44)), none, ann0⟩,
  ⟨(some 46), (Op.fieldAddr 79 (Operand.tmp 45) 1), none, ann0⟩,
  ⟨(some 47), (Op.load 76 (Operand.tmp 46)), none, ann0⟩,
  ⟨(some 48), (Op.load 38 (Operand.tmp 5)), none, ann0⟩,
  ⟨(some 49), (Op.load 25 (Operand.tmp 3)), none, ann0⟩,
  ⟨(some 50), (Op.call { callee := (Callee.value (Operand.func 34)), args := #[(Operand.tmp 49)], argTypes := #[25] }), none, ann0⟩,
  ⟨(some 51), (Op.move (Operand.tmp 0)), none, ann0⟩,
  ⟨(some 52), (Op.nilCheck (Operand.tmp 51)), none, ann0⟩,
  ⟨(some 53), (Op.fieldAddr 79 (Operand.tmp 52) 3), none, ann0⟩,
  ⟨(some 54), (Op.load 3 (Operand.tmp 53)), none, ann0⟩,
  ⟨(some 55), (Op.build 81 #[(0, (Operand.tmp 50)), (1, (Operand.tmp 54))]), none, ann0⟩,
  ⟨none, (Op.mapUpdate 76 (Operand.tmp 47) (Operand.tmp 48) (Operand.tmp 55)), none, ann0⟩] (some [0, 1, 3, 7, 0, 0, 32, 0, 128, 384, 896, 2016, 4095])) (.tidy [0] z (z + 3)))
 (.seq (.post (.reg [⟨(some 56), (Op.move (Operand.tmp 0)), none, ann0⟩,
  ⟨(some 57), (Op.nilCheck (Operand.tmp 56)), none, ann0⟩,
  ⟨(some 58), (Op.fieldAddr 79 (Operand.tmp 57) 3), none, ann0⟩,
  ⟨(some 59), (Op.load 3 (Operand.tmp 58)), none, ann0⟩,
  ⟨(some 60), (Op.binOp BinOp.add 3 (Operand.tmp 59) (Operand.const (Value.int IntKind.i64 1)) 3), none, ann0⟩,
  ⟨(some 61), (Op.nilCheck (Operand.tmp 56)), none, ann0⟩,
  ⟨(some 62), (Op.fieldAddr 79 (Operand.tmp 61) 3), none, ann0⟩,
  ⟨none, (Op.store 3 (Operand.tmp 62) (Operand.tmp 60)), none, ann0⟩] none) (.tidy [] z (z + 3)))
 (.seq (.reg [⟨(some 4), (Op.assign (Operand.const (Value.int IntKind.i64 0))), none, ann0⟩] none)
 .ret)))))))))⟩
theorem F15 (z : Nat) : FOk Try.prog 15 (s15 z) := by unfold FOk; kernel_rfl
def s16 (z : Nat) : SFn := ⟨1, 10, [(ResultVar.tmp 2)],
 (.seq (.reg [⟨(some 2), (Op.assign (Operand.const (Value.int IntKind.i64 0))), none, ann0⟩] none)
 (.seq (.seq (.reg [⟨(some 3), (Op.move (Operand.tmp 0)), none, ann0⟩,
  ⟨(some 4), (Op.binOp BinOp.eql 27 (Operand.tmp 3) (Operand.const (Value.pointer none)) 27), none, ann0⟩] none)
 (.cond (Operand.tmp 4) (.seq (.reg [⟨(some 2), (Op.assign (Operand.const (Value.int IntKind.i64 0))), none, ann0⟩] none)
 .ret)
 .skip))
 (.seq (.reg [⟨(some 5), (Op.move (Operand.tmp 0)), none, ann0⟩,
  ⟨(some 6), (Op.nilCheck (Operand.tmp 5)), none, ann0⟩,
  ⟨(some 7), (Op.fieldAddr 79 (Operand.tmp 6) 1), none, ann0⟩,
  ⟨(some 8), (Op.load 76 (Operand.tmp 7)), none, ann0⟩,
  ⟨(some 9), (Op.call { callee := (Callee.builtin Builtin.len), args := #[(Operand.tmp 8)], argTypes := #[76] }), none, ann0⟩,
  ⟨(some 2), (Op.assign (Operand.tmp 9)), none, ann0⟩] none)
 .ret)))⟩
theorem F16 (z : Nat) : FOk Try.prog 16 (s16 z) := by unfold FOk; kernel_rfl
def s17 (z : Nat) : SFn := ⟨2, 91, [(ResultVar.cell 4 40), (ResultVar.cell 5 25), (ResultVar.tmp 6)],
 (.seq (.reg [⟨(some 4), (Op.alloc 40), none, ⟨1, false, false⟩⟩,
  ⟨(some 5), (Op.alloc 25), none, ⟨1, false, false⟩⟩,
  ⟨(some 6), (Op.assign (Operand.const (Value.int IntKind.i64 0))), none, ann0⟩] none)
 (.seq (.post (.seq (.reg [⟨(some 11), (Op.move (Operand.tmp 0)), none, ann0⟩,
  ⟨(some 12), (Op.binOp BinOp.eql 27 (Operand.tmp 11) (Operand.const (Value.pointer none)) 27), none, ann0⟩] none)
 (.cond (Operand.tmp 12) (.seq (.reg [⟨(some 13), (Op.build 40 #[]), none, ann0⟩,
  ⟨(some 14), (Op.build 25 #[]), none, ann0⟩,
  ⟨none, (Op.store 40 (Operand.tmp 4) (Operand.tmp 13)), none, ann0⟩,
  ⟨none, (Op.store 25 (Operand.tmp 5) (Operand.tmp 14)), none, ann0⟩,
  ⟨(some 6), (Op.assign (Operand.const (Value.int IntKind.i64 1))), none, ann0⟩] none)
 .ret)
 .skip)) (.tidy [0, 1, 4, 5] z (z + 2)))
 (.seq (.post (.seq (.post (.reg [⟨(some 15), (Op.move (Operand.tmp 1)), none, ann0⟩,
  ⟨(some 16), (Op.move (Operand.tmp 0)), none, ann0⟩,
  ⟨(some 17), (Op.nilCheck (Operand.tmp 16)), none, ann0⟩,
  ⟨(some 18), (Op.fieldAddr 79 (Operand.tmp 17) 6), none, ann0⟩,
  ⟨(some 19), (Op.load 3 (Operand.tmp 18)), none, ann0⟩,
  ⟨(some 20), (Op.binOp BinOp.lss 3 (Operand.tmp 15) (Operand.tmp 19) 3), none, ann0⟩,
  ⟨(some 21), (Op.move (Operand.tmp 20)), none, ann0⟩,
  ⟨(some 22), (Op.move (Operand.tmp 1)), (some (21, false)), ann0⟩,
  ⟨(some 23), (Op.binOp BinOp.gtr 3 (Operand.tmp 22) (Operand.const (Value.int IntKind.i64 1099511627776)) 3), (some (21, false)), ann0⟩,
  ⟨(some 24), (Op.pick (Operand.tmp 21) (Operand.const (Value.bool true)) (Operand.tmp 23)), none, ann0⟩] none) (.tidy [0, 1, 4, 5, 24] z (z + 2)))
 (.cond (Operand.tmp 24) (.seq (.reg [⟨(some 25), (Op.build 40 #[]), none, ann0⟩,
  ⟨(some 26), (Op.build 25 #[]), none, ann0⟩,
  ⟨none, (Op.store 40 (Operand.tmp 4) (Operand.tmp 25)), none, ann0⟩,
  ⟨none, (Op.store 25 (Operand.tmp 5) (Operand.tmp 26)), none, ann0⟩,
  ⟨(some 6), (Op.assign (Operand.const (Value.int IntKind.i64 32))), none, ann0⟩] none)
 .ret)
 .skip)) (.tidy [0, 1, 4, 5] z (z + 2)))
 (.seq (.reg [⟨(some 28), (Op.move (Operand.tmp 0)), none, ann0⟩,
  ⟨(some 29), (Op.call { callee := (Callee.value (Operand.func 35)), args := #[(Operand.tmp 28)], argTypes := #[27] }), none, ann0⟩,
  ⟨(some 27), (Op.move (Operand.tmp 29)), none, ann0⟩,
  ⟨(some 30), (Op.extract (Operand.tmp 27) 0), none, ann0⟩,
  ⟨(some 31), (Op.extract (Operand.tmp 27) 1), none, ann0⟩,
  ⟨(some 7), (Op.alloc 38), none, ⟨1, false, false⟩⟩,
  ⟨none, (Op.store 38 (Operand.tmp 7) (Operand.tmp 30)), none, ann0⟩,
  ⟨(some 8), (Op.assign (Operand.tmp 31)), none, ann0⟩] none)
 (.seq (.post (.seq (.post (.reg [⟨(some 32), (Op.move (Operand.tmp 8)), none, ann0⟩,
  ⟨(some 33), (Op.unOp UnOp.not 4 (Operand.tmp 32)), none, ann0⟩] none) (.tidy [0, 1, 4, 5, 7, 33] z (z + 3)))
 (.cond (Operand.tmp 33) (.seq (.reg [⟨(some 34), (Op.build 40 #[]), none, ann0⟩,
  ⟨(some 35), (Op.build 25 #[]), none, ann0⟩,
  ⟨none, (Op.store 40 (Operand.tmp 4) (Operand.tmp 34)), none, ann0⟩,
  ⟨none, (Op.store 25 (Operand.tmp 5) (Operand.tmp 35)), none, ann0⟩,
  ⟨(some 6), (Op.assign (Operand.const (Value.int IntKind.i64 7))), none, ann0⟩] none)
 .ret)
 .skip)) (.tidy [0, 1, 4, 5, 7] z (z + 3)))
 (.seq (.post (.reg [⟨(some 36), (Op.move (Operand.tmp 0)), none, ann0⟩,
  ⟨(some 37), (Op.move (Operand.tmp 0)), none, ann0⟩,
  ⟨(some 38), (Op.move (Operand.tmp 1)), none, ann0⟩,
  ⟨(some 39), (Op.fieldAddr 38 (Operand.tmp 7) 0), none, ann0⟩,
  ⟨(some 40), (Op.load 3 (Operand.tmp 39)), none, ann0⟩,
  ⟨(some 41), (Op.nilCheck (Operand.tmp 36)), none, ann0⟩,
  ⟨(some 42), (Op.fieldAddr 79 (Operand.tmp 41) 6), none, ann0⟩,
  ⟨none, (Op.store 3 (Operand.tmp 42) (Operand.tmp 38)), none, ann0⟩,
  ⟨(some 43), (Op.nilCheck (Operand.tmp 37)), none, ann0⟩,
  ⟨(some 44), (Op.fieldAddr 79 (Operand.tmp 43) 5), none, ann0⟩,
  ⟨none, (Op.store 3 (Operand.tmp 44) (Operand.tmp 40)), none, ann0⟩] (some [0, 0, 0, 0, 8, 5, 37, 101, 255, 511, 1023])) (.tidy [0, 1, 4, 5, 7] z (z + 3)))
 (.seq (.post (.reg [⟨(some 45), (Op.move (Operand.tmp 0)), none, ann0⟩,
  ⟨(some 46), (Op.nilCheck (Operand.tmp 45)), none, ann0⟩,
  ⟨(some 47), (Op.fieldAddr 79 (Operand.tmp 46) 4), none, ann0⟩,
  ⟨(some 48), (Op.load 3 (Operand.tmp 47)), none, ann0⟩,
  ⟨(some 49), (Op.binOp BinOp.add 3 (Operand.tmp 48) (Operand.const (Value.int IntKind.i64 1)) 3), none, ann0⟩,
  ⟨(some 50), (Op.nilCheck (Operand.tmp 45)), none, ann0⟩,
  ⟨(some 51), (Op.fieldAddr 79 (Operand.tmp 50) 4), none, ann0⟩,
  ⟨none, (Op.store 3 (Operand.tmp 51) (Operand.tmp 49)), none, ann0⟩] none) (.tidy [0, 1, 4, 5, 7] z (z + 3)))
 (.seq (.post (.reg [⟨(some 52), (Op.move (Operand.tmp 0)), none, ann0⟩,
  ⟨(some 53), (Op.nilCheck (Operand.tmp 52)), none, ann0⟩,
  ⟨(some 54), (Op.fieldAddr 79 (Operand.tmp 53) 4), none, ann0⟩,
  ⟨(some 55), (Op.load 3 (Operand.tmp 54)), none, ann0⟩,
  ⟨(some 56), (Op.load 38 (Operand.tmp 7)), none, ann0⟩,
  ⟨(some 57), (Op.move (Operand.tmp 1)), none, ann0⟩,
  ⟨(some 58), (Op.move (Operand.tmp 0)), none, ann0⟩,
  ⟨(some 59), (Op.nilCheck (Operand.tmp 58)), none, ann0⟩,
  ⟨(some 60), (Op.fieldAddr 79 (Operand.tmp 59) 0), none, ann0⟩,
  ⟨(some 61), (Op.fieldAddr 46 (Operand.tmp 60) 2), none, ann0⟩,
  ⟨(some 62), (Op.load 3 (Operand.tmp 61)), none, ann0⟩,
  ⟨(some 63), (Op.binOp BinOp.add 3 (Operand.tmp 57) (Operand.tmp 62) 3), none, ann0⟩,
  ⟨(some 64), (Op.build 40 #[(0, (Operand.tmp 55)), (1, (Operand.tmp 56)), (2, (Operand.tmp 63))]), none, ann0⟩,
  ⟨(some 9), (Op.alloc 40), none, ⟨1, false, false⟩⟩,
  ⟨none, (Op.store 40 (Operand.tmp 9) (Operand.tmp 64)), none, ann0⟩] (some [0, 1, 3, 7, 0, 0, 0, 64, 192, 448, 960, 2016, 4095, 0, 16383])) (.tidy [0, 4, 5, 7, 9] z (z + 4)))
 (.seq (.post (.reg [⟨(some 65), (Op.move (Operand.tmp 0)), none, ann0⟩,
  ⟨(some 66), (Op.nilCheck (Operand.tmp 65)), none, ann0⟩,
  ⟨(some 67), (Op.fieldAddr 79 (Operand.tmp 66) 2), none, ann0⟩,
  ⟨(some 68), (Op.load 77 (Operand.tmp 67)), none, ann0⟩,
  ⟨(some 69), (Op.fieldAddr 40 (Operand.tmp 9) 0), none, ann0⟩,
  ⟨(some 70), (Op.load 3 (Operand.tmp 69)), none, ann0⟩,
  ⟨(some 71), (Op.load 40 (Operand.tmp 9)), none, ann0⟩,
  ⟨none, (Op.mapUpdate 77 (Operand.tmp 68) (Operand.tmp 70) (Operand.tmp 71)), none, ann0⟩] (some [0, 1, 3, 7, 0, 16, 0, 127])) (.tidy [0, 4, 5, 7, 9] z (z + 4)))
 (.seq (.post (.reg [⟨(some 72), (Op.move (Operand.tmp 0)), none, ann0⟩,
  ⟨(some 73), (Op.nilCheck (Operand.tmp 72)), none, ann0⟩,
  ⟨(some 74), (Op.fieldAddr 79 (Operand.tmp 73) 1), none, ann0⟩,
  ⟨(some 75), (Op.load 76 (Operand.tmp 74)), none, ann0⟩,
  ⟨(some 76), (Op.load 38 (Operand.tmp 7)), none, ann0⟩,
  ⟨(some 77), (Op.lookup 76 (Operand.tmp 75) (Operand.tmp 76) false), none, ann0⟩,
  ⟨(some 10), (Op.alloc 81), none, ⟨1, false, false⟩⟩,
  ⟨none, (Op.store 81 (Operand.tmp 10) (Operand.tmp 77)), none, ann0⟩] (some [0, 1, 3, 7, 0, 31, 0, 127])) (.tidy [0, 4, 5, 7, 9, 10] z (z + 5)))
 (.seq (.reg [⟨(some 78), (Op.fieldAddr 40 (Operand.tmp 9) 0), none, ann0⟩,
  ⟨(some 79), (Op.load 3 (Operand.tmp 78)), none, ann0⟩,
  ⟨(some 80), (Op.fieldAddr 81 (Operand.tmp 10) 2), none, ann0⟩,
  ⟨none, (Op.store 3 (Operand.tmp 80) (Operand.tmp 79)), none, ann0⟩] none)
 (.seq (.post (.reg [⟨(some 81), (Op.move (Operand.tmp 0)), none, ann0⟩,
  ⟨(some 82), (Op.nilCheck (Operand.tmp 81)), none, ann0⟩,
  ⟨(some 83), (Op.fieldAddr 79 (Operand.tmp 82) 1), none, ann0⟩,
  ⟨(some 84), (Op.load 76 (Operand.tmp 83)), none, ann0⟩,
  ⟨(some 85), (Op.load 38 (Operand.tmp 7)), none, ann0⟩,
  ⟨(some 86), (Op.load 81 (Operand.tmp 10)), none, ann0⟩,
  ⟨none, (Op.mapUpdate 76 (Operand.tmp 84) (Operand.tmp 85) (Operand.tmp 86)), none, ann0⟩] (some [0, 1, 3, 7, 0, 0, 63])) (.tidy [4, 5, 9, 10] z (z + 5)))
 (.seq (.reg [⟨(some 87), (Op.load 40 (Operand.tmp 9)), none, ann0⟩,
  ⟨(some 88), (Op.fieldAddr 81 (Operand.tmp 10) 0), none, ann0⟩,
  ⟨(some 89), (Op.load 25 (Operand.tmp 88)), none, ann0⟩,
  ⟨(some 90), (Op.call { callee := (Callee.value (Operand.func 34)), args := #[(Operand.tmp 89)], argTypes := #[25] }), none, ann0⟩,
  ⟨none, (Op.store 40 (Operand.tmp 4) (Operand.tmp 87)), none, ann0⟩,
  ⟨none, (Op.store 25 (Operand.tmp 5) (Operand.tmp 90)), none, ann0⟩,
  ⟨(some 6), (Op.assign (Operand.const (Value.int IntKind.i64 0))), none, ann0⟩] (some [0, 0, 2, 6, 15, 31, 63]))
 .ret)))))))))))))⟩
theorem F17 (z : Nat) : FOk Try.prog 17 (s17 z) := by unfold FOk; kernel_rfl
def s19 (z : Nat) : SFn := ⟨1, 39, [(ResultVar.tmp 2), (ResultVar.tmp 3)],
 (.seq (.reg [⟨(some 1), (Op.box 46 (Operand.tmp 0)), none, ⟨1, false, false⟩⟩,
  ⟨(some 2), (Op.assign (Operand.const (Value.pointer none))), none, ann0⟩,
  ⟨(some 3), (Op.assign (Operand.const (Value.int IntKind.i64 0))), none, ann0⟩] none)
 (.seq (.post (.seq (.post (.reg [⟨(some 4), (Op.fieldAddr 46 (Operand.tmp 1) 0), none, ann0⟩,
  ⟨(some 5), (Op.load 3 (Operand.tmp 4)), none, ann0⟩,
  ⟨(some 6), (Op.binOp BinOp.lss 3 (Operand.tmp 5) (Operand.const (Value.int IntKind.i64 1)) 3), none, ann0⟩,
  ⟨(some 7), (Op.move (Operand.tmp 6)), none, ann0⟩,
  ⟨(some 8), (Op.fieldAddr 46 (Operand.tmp 1) 0), (some (7, false)), ann0⟩,
  ⟨(some 9), (Op.load 3 (Operand.tmp 8)), (some (7, false)), ann0⟩,
  ⟨(some 10), (Op.binOp BinOp.gtr 3 (Operand.tmp 9) (Operand.const (Value.int IntKind.i64 4096)) 3), (some (7, false)), ann0⟩,
  ⟨(some 11), (Op.pick (Operand.tmp 7) (Operand.const (Value.bool true)) (Operand.tmp 10)), none, ann0⟩,
  ⟨(some 12), (Op.move (Operand.tmp 11)), none, ann0⟩,
  ⟨(some 13), (Op.fieldAddr 46 (Operand.tmp 1) 1), (some (12, false)), ann0⟩,
  ⟨(some 14), (Op.load 3 (Operand.tmp 13)), (some (12, false)), ann0⟩,
  ⟨(some 15), (Op.binOp BinOp.lss 3 (Operand.tmp 14) (Operand.const (Value.int IntKind.i64 1)) 3), (some (12, false)), ann0⟩,
  ⟨(some 16), (Op.pick (Operand.tmp 12) (Operand.const (Value.bool true)) (Operand.tmp 15)), none, ann0⟩,
  ⟨(some 17), (Op.move (Operand.tmp 16)), none, ann0⟩,
  ⟨(some 18), (Op.fieldAddr 46 (Operand.tmp 1) 1), (some (17, false)), ann0⟩,
  ⟨(some 19), (Op.load 3 (Operand.tmp 18)), (some (17, false)), ann0⟩,
  ⟨(some 20), (Op.fieldAddr 46 (Operand.tmp 1) 0), (some (17, false)), ann0⟩,
  ⟨(some 21), (Op.load 3 (Operand.tmp 20)), (some (17, false)), ann0⟩,
  ⟨(some 22), (Op.binOp BinOp.gtr 3 (Operand.tmp 19) (Operand.tmp 21) 3), (some (17, false)), ann0⟩,
  ⟨(some 23), (Op.pick (Operand.tmp 17) (Operand.const (Value.bool true)) (Operand.tmp 22)), none, ann0⟩,
  ⟨(some 24), (Op.move (Operand.tmp 23)), none, ann0⟩,
  ⟨(some 25), (Op.fieldAddr 46 (Operand.tmp 1) 2), (some (24, false)), ann0⟩,
  ⟨(some 26), (Op.load 3 (Operand.tmp 25)), (some (24, false)), ann0⟩,
  ⟨(some 27), (Op.binOp BinOp.lss 3 (Operand.tmp 26) (Operand.const (Value.int IntKind.i64 1)) 3), (some (24, false)), ann0⟩,
  ⟨(some 28), (Op.pick (Operand.tmp 24) (Operand.const (Value.bool true)) (Operand.tmp 27)), none, ann0⟩,
  ⟨(some 29), (Op.move (Operand.tmp 28)), none, ann0⟩,
  ⟨(some 30), (Op.fieldAddr 46 (Operand.tmp 1) 2), (some (29, false)), ann0⟩,
  ⟨(some 31), (Op.load 3 (Operand.tmp 30)), (some (29, false)), ann0⟩,
  ⟨(some 32), (Op.binOp BinOp.gtr 3 (Operand.tmp 31) (Operand.const (Value.int IntKind.i64 1048576)) 3), (some (29, false)), ann0⟩,
  ⟨(some 33), (Op.pick (Operand.tmp 29) (Operand.const (Value.bool true)) (Operand.tmp 32)), none, ann0⟩] none) (.tidy [1, 33] z (z + 1)))
 (.cond (Operand.tmp 33) (.seq (.reg [⟨(some 2), (Op.assign (Operand.const (Value.pointer none))), none, ann0⟩,
  ⟨(some 3), (Op.assign (Operand.const (Value.int IntKind.i64 2))), none, ann0⟩] none)
 .ret)
 .skip)) (.tidy [1] z (z + 1)))
 (.seq (.reg [⟨(some 34), (Op.load 46 (Operand.tmp 1)), none, ann0⟩,
  ⟨(some 35), (Op.makeMap 76 none), none, ⟨1, true, false⟩⟩,
  ⟨(some 36), (Op.makeMap 77 none), none, ⟨1, true, false⟩⟩,
  ⟨(some 37), (Op.build 79 #[(0, (Operand.tmp 34)), (1, (Operand.tmp 35)), (2, (Operand.tmp 36))]), none, ann0⟩,
  ⟨(some 38), (Op.box 79 (Operand.tmp 37)), none, ⟨1, false, false⟩⟩,
  ⟨(some 2), (Op.assign (Operand.tmp 38)), none, ann0⟩,
  ⟨(some 3), (Op.assign (Operand.const (Value.int IntKind.i64 0))), none, ann0⟩] none)
 .ret)))⟩
theorem F19 (z : Nat) : FOk Try.prog 19 (s19 z) := by unfold FOk; kernel_rfl
def s20 (z : Nat) : SFn := ⟨1, 9, [(ResultVar.tmp 2)],
 (.seq (.reg [⟨(some 2), (Op.assign (Operand.const (Value.int IntKind.i64 0))), none, ann0⟩] none)
 (.seq (.seq (.reg [⟨(some 3), (Op.move (Operand.tmp 0)), none, ann0⟩,
  ⟨(some 4), (Op.binOp BinOp.eql 27 (Operand.tmp 3) (Operand.const (Value.pointer none)) 27), none, ann0⟩] none)
 (.cond (Operand.tmp 4) (.seq (.reg [⟨(some 2), (Op.assign (Operand.const (Value.int IntKind.i64 0))), none, ann0⟩] none)
 .ret)
 .skip))
 (.seq (.reg [⟨(some 5), (Op.move (Operand.tmp 0)), none, ann0⟩,
  ⟨(some 6), (Op.nilCheck (Operand.tmp 5)), none, ann0⟩,
  ⟨(some 7), (Op.fieldAddr 79 (Operand.tmp 6) 6), none, ann0⟩,
  ⟨(some 8), (Op.load 3 (Operand.tmp 7)), none, ann0⟩,
  ⟨(some 2), (Op.assign (Operand.tmp 8)), none, ann0⟩] none)
 .ret)))⟩
theorem F20 (z : Nat) : FOk Try.prog 20 (s20 z) := by unfold FOk; kernel_rfl
def s21 (z : Nat) : SFn := ⟨1, 5, [(ResultVar.tmp 2)],
 (.seq (.reg [⟨(some 2), (Op.assign (Operand.const (Value.slice none 0 0))), none, ann0⟩] none)
 (.seq (.reg [⟨(some 3), (Op.move (Operand.tmp 0)), none, ann0⟩,
  ⟨(some 4), (Op.call { callee := (Callee.value (Operand.func 37)), args := #[(Operand.tmp 3), (Operand.func 38)], argTypes := #[27, 94] }), none, ⟨1, false, false⟩⟩,
  ⟨(some 2), (Op.assign (Operand.tmp 4)), none, ann0⟩] none)
 .ret))⟩
theorem F21 (z : Nat) : FOk Try.prog 21 (s21 z) := by unfold FOk; kernel_rfl
def c22_1 (z : Nat) : SC := .post (.seq (.reg [⟨(some 13), (Op.next (Operand.tmp 12) false), none, ann0⟩,
  ⟨(some 14), (Op.extract (Operand.tmp 13) 0), none, ann0⟩] none)
 (.seq (.cond (Operand.tmp 14) .skip
 (.exit 0))
 (.block 1 (.seq (.reg [⟨(some 15), (Op.entry (Operand.tmp 12)), none, ann0⟩,
  ⟨(some 16), (Op.extract (Operand.tmp 15) 1), none, ann0⟩,
  ⟨(some 5), (Op.alloc 40), none, ⟨1, false, false⟩⟩,
  ⟨none, (Op.store 40 (Operand.tmp 5) (Operand.tmp 16)), none, ann0⟩] none)
 (.reg [⟨(some 17), (Op.move (Operand.tmp 3)), none, ann0⟩,
  ⟨(some 18), (Op.load 40 (Operand.tmp 5)), none, ann0⟩,
  ⟨(some 19), (Op.buildSlice 51 1 #[(0, (Operand.tmp 18))]), none, ⟨1, true, false⟩⟩,
  ⟨(some 20), (Op.call { callee := (Callee.builtin Builtin.append), args := #[(Operand.tmp 17), (Operand.tmp 19)], argTypes := #[51, 51] }), none, ann0⟩,
  ⟨(some 3), (Op.assign (Operand.tmp 20)), none, ann0⟩] none))))) (.tidy [3, 12] z (z + 2))
def s22_1 (z : Nat) : SC := c22_1 z
theorem e22_1 {C : Pg} {z : Nat} {st : St} {ks : List Fr} {K : Ex → St → Prop} : wpk C (s22_1 z) st ks K ↔ wpk C (c22_1 z) st ks K := Iff.rfl
def s22 (z : Nat) : SFn := ⟨1, 24, [(ResultVar.tmp 2)],
 (.seq (.reg [⟨(some 2), (Op.assign (Operand.const (Value.slice none 0 0))), none, ann0⟩] none)
 (.seq (.seq (.reg [⟨(some 6), (Op.move (Operand.tmp 0)), none, ann0⟩,
  ⟨(some 7), (Op.binOp BinOp.eql 27 (Operand.tmp 6) (Operand.const (Value.pointer none)) 27), none, ann0⟩] none)
 (.cond (Operand.tmp 7) (.seq (.reg [⟨(some 2), (Op.assign (Operand.const (Value.slice none 0 0))), none, ann0⟩] none)
 .ret)
 .skip))
 (.seq (.post (.reg [⟨(some 3), (Op.assign (Operand.const (Value.slice none 0 0))), none, ann0⟩] none) (.mkv 3 40 4))
 (.seq (.post (.seq (.post (.reg [⟨(some 8), (Op.move (Operand.tmp 0)), none, ann0⟩,
  ⟨(some 9), (Op.nilCheck (Operand.tmp 8)), none, ann0⟩,
  ⟨(some 10), (Op.fieldAddr 79 (Operand.tmp 9) 2), none, ann0⟩,
  ⟨(some 11), (Op.load 77 (Operand.tmp 10)), none, ann0⟩,
  ⟨(some 12), (Op.range 77 (Operand.tmp 11)), none, ⟨1, false, false⟩⟩] none) (.tidy [3, 12] z (z + 2)))
 (.post (.block 0 (.pre (.tidy [3, 12] z (z + 2)) (.loop (s22_1 z)))) (.tidy [3] z (z + 2)))) (.tidy [3] z (z + 2)))
 (.seq (.reg [⟨(some 21), (Op.move (Operand.tmp 3)), none, ann0⟩,
  ⟨(some 22), (Op.call { callee := (Callee.value (Operand.func 39)), args := #[(Operand.tmp 21), (Operand.func 40)], argTypes := #[51, 97] }), none, ann0⟩] none)
 (.seq (.reg [⟨(some 23), (Op.move (Operand.tmp 3)), none, ann0⟩,
  ⟨(some 2), (Op.assign (Operand.tmp 23)), none, ann0⟩] none)
 .ret))))))⟩
theorem F22 (z : Nat) : FOk Try.prog 22 (s22 z) := by unfold FOk; kernel_rfl
def s23 (z : Nat) : SFn := ⟨1, 23, [(ResultVar.cell 2 46)],
 (.seq (.reg [⟨(some 1), (Op.box 32 (Operand.tmp 0)), none, ⟨1, false, false⟩⟩,
  ⟨(some 2), (Op.alloc 46), none, ⟨1, false, false⟩⟩] none)
 (.seq (.reg [⟨(some 4), (Op.fieldAddr 32 (Operand.tmp 1) 0), none, ann0⟩,
  ⟨(some 5), (Op.load 5 (Operand.tmp 4)), none, ann0⟩,
  ⟨(some 6), (Op.binOp BinOp.rem 5 (Operand.tmp 5) (Operand.const (Value.int IntKind.u8 6)) 5), none, ann0⟩,
  ⟨(some 7), (Op.convert 5 3 (Operand.tmp 6)), none, ann0⟩,
  ⟨(some 8), (Op.binOp BinOp.add 3 (Operand.const (Value.int IntKind.i64 1)) (Operand.tmp 7) 3), none, ann0⟩,
  ⟨(some 3), (Op.assign (Operand.tmp 8)), none, ann0⟩] none)
 (.seq (.reg [⟨(some 9), (Op.move (Operand.tmp 3)), none, ann0⟩,
  ⟨(some 10), (Op.fieldAddr 32 (Operand.tmp 1) 1), none, ann0⟩,
  ⟨(some 11), (Op.load 5 (Operand.tmp 10)), none, ann0⟩,
  ⟨(some 12), (Op.binOp BinOp.rem 5 (Operand.tmp 11) (Operand.const (Value.int IntKind.u8 4)) 5), none, ann0⟩,
  ⟨(some 13), (Op.convert 5 3 (Operand.tmp 12)), none, ann0⟩,
  ⟨(some 14), (Op.move (Operand.tmp 3)), none, ann0⟩,
  ⟨(some 15), (Op.binOp BinOp.rem 3 (Operand.tmp 13) (Operand.tmp 14) 3), none, ann0⟩,
  ⟨(some 16), (Op.binOp BinOp.add 3 (Operand.const (Value.int IntKind.i64 1)) (Operand.tmp 15) 3), none, ann0⟩,
  ⟨(some 17), (Op.fieldAddr 32 (Operand.tmp 1) 2), none, ann0⟩,
  ⟨(some 18), (Op.load 5 (Operand.tmp 17)), none, ann0⟩,
  ⟨(some 19), (Op.binOp BinOp.rem 5 (Operand.tmp 18) (Operand.const (Value.int IntKind.u8 8)) 5), none, ann0⟩,
  ⟨(some 20), (Op.convert 5 3 (Operand.tmp 19)), none, ann0⟩,
  ⟨(some 21), (Op.binOp BinOp.add 3 (Operand.const (Value.int IntKind.i64 1)) (Operand.tmp 20) 3), none, ann0⟩,
  ⟨(some 22), (Op.build 46 #[(0, (Operand.tmp 9)), (1, (Operand.tmp 16)), (2, (Operand.tmp 21))]), none, ann0⟩,
  ⟨none, (Op.store 46 (Operand.tmp 2) (Operand.tmp 22)), none, ann0⟩] (some [0, 0, 2, 6, 14, 0, 62, 126, 0, 256, 768, 1792, 3840, 8191, 16383]))
 .ret)))⟩
theorem F23 (z : Nat) : FOk Try.prog 23 (s23 z) := by unfold FOk; kernel_rfl
def c26_1 (z : Nat) : SC := .post (.seq (.reg [⟨(some 32), (Op.binOp BinOp.lss 3 (Operand.tmp 31) (Operand.tmp 30) 3), none, ann0⟩] none)
 (.seq (.cond (Operand.tmp 32) .skip
 (.exit 0))
 (.seq (.post (.block 1 (.seq (.reg [⟨(some 33), (Op.indexAddr 51 (Operand.tmp 29) (Operand.tmp 31)), none, ann0⟩,
  ⟨(some 34), (Op.load 40 (Operand.tmp 33)), none, ann0⟩,
  ⟨(some 8), (Op.alloc 40), none, ⟨1, false, false⟩⟩,
  ⟨none, (Op.store 40 (Operand.tmp 8) (Operand.tmp 34)), none, ann0⟩] none)
 (.reg [⟨(some 35), (Op.move (Operand.tmp 0)), none, ann0⟩,
  ⟨(some 36), (Op.fieldAddr 40 (Operand.tmp 8) 0), none, ann0⟩,
  ⟨(some 37), (Op.load 3 (Operand.tmp 36)), none, ann0⟩,
  ⟨(some 38), (Op.call { callee := (Callee.value (Operand.func 29)), args := #[(Operand.tmp 35), (Operand.tmp 37)], argTypes := #[27, 3] }), none, ann0⟩] none))) (.tidy [0, 6, 29, 30, 31] z (z + 3)))
 (.reg [⟨(some 39), (Op.binOp BinOp.add 3 (Operand.tmp 31) (Operand.const (Value.int IntKind.i64 1)) 3), none, ann0⟩,
  ⟨(some 31), (Op.move (Operand.tmp 39)), none, ann0⟩] none)))) (.tidy [0, 6, 29, 30, 31] z (z + 2))
def s26_1 (z : Nat) : SC := c26_1 z
theorem e26_1 {C : Pg} {z : Nat} {st : St} {ks : List Fr} {K : Ex → St → Prop} : wpk C (s26_1 z) st ks K ↔ wpk C (c26_1 z) st ks K := Iff.rfl
def s26 (z : Nat) : SFn := ⟨2, 41, [(ResultVar.tmp 4), (ResultVar.tmp 5)],
 (.post (.seq (.reg [⟨(some 3), (Op.box 3 (Operand.tmp 1)), none, ⟨1, false, false⟩⟩,
  ⟨(some 4), (Op.assign (Operand.const (Value.slice none 0 0))), none, ann0⟩,
  ⟨(some 5), (Op.assign (Operand.const (Value.int IntKind.i64 0))), none, ann0⟩] none)
 (.seq (.post (.seq (.reg [⟨(some 9), (Op.move (Operand.tmp 0)), none, ann0⟩,
  ⟨(some 10), (Op.binOp BinOp.eql 27 (Operand.tmp 9) (Operand.const (Value.pointer none)) 27), none, ann0⟩] none)
 (.cond (Operand.tmp 10) (.seq (.reg [⟨(some 4), (Op.assign (Operand.const (Value.slice none 0 0))), none, ann0⟩,
  ⟨(some 5), (Op.assign (Operand.const (Value.int IntKind.i64 1))), none, ann0⟩] none)
 .ret)
 .skip)) (.tidy [0, 3] z (z + 1)))
 (.seq (.post (.seq (.post (.reg [⟨(some 11), (Op.load 3 (Operand.tmp 3)), none, ann0⟩,
  ⟨(some 12), (Op.move (Operand.tmp 0)), none, ann0⟩,
  ⟨(some 13), (Op.nilCheck (Operand.tmp 12)), none, ann0⟩,
  ⟨(some 14), (Op.fieldAddr 79 (Operand.tmp 13) 6), none, ann0⟩,
  ⟨(some 15), (Op.load 3 (Operand.tmp 14)), none, ann0⟩,
  ⟨(some 16), (Op.binOp BinOp.lss 3 (Operand.tmp 11) (Operand.tmp 15) 3), none, ann0⟩,
  ⟨(some 17), (Op.move (Operand.tmp 16)), none, ann0⟩,
  ⟨(some 18), (Op.load 3 (Operand.tmp 3)), (some (17, false)), ann0⟩,
  ⟨(some 19), (Op.binOp BinOp.gtr 3 (Operand.tmp 18) (Operand.const (Value.int IntKind.i64 1099511627776)) 3), (some (17, false)), ann0⟩,
  ⟨(some 20), (Op.pick (Operand.tmp 17) (Operand.const (Value.bool true)) (Operand.tmp 19)), none, ann0⟩] (some [0, 0, 2, 6, 14, 31, 63, 127, 255, 511])) (.tidy [0, 3, 20] z (z + 1)))
 (.cond (Operand.tmp 20) (.seq (.reg [⟨(some 4), (Op.assign (Operand.const (Value.slice none 0 0))), none, ann0⟩,
  ⟨(some 5), (Op.assign (Operand.const (Value.int IntKind.i64 32))), none, ann0⟩] none)
 .ret)
 .skip)) (.tidy [0, 3] z (z + 1)))
 (.seq (.reg [⟨(some 21), (Op.move (Operand.tmp 0)), none, ann0⟩,
  ⟨(some 22), (Op.load 3 (Operand.tmp 3)), none, ann0⟩,
  ⟨(some 23), (Op.nilCheck (Operand.tmp 21)), none, ann0⟩,
  ⟨(some 24), (Op.fieldAddr 79 (Operand.tmp 23) 6), none, ann0⟩,
  ⟨none, (Op.store 3 (Operand.tmp 24) (Operand.tmp 22)), none, ann0⟩] none)
 (.seq (.post (.reg [⟨(some 25), (Op.move (Operand.tmp 0)), none, ann0⟩,
  ⟨(some 26), (Op.call { callee := (Callee.value (Operand.func 22)), args := #[(Operand.tmp 25)], argTypes := #[27] }), none, ⟨1, false, false⟩⟩,
  ⟨(some 27), (Op.makeFunc (Fn.func 48) #[] #[(Operand.tmp 3)]), none, ann0⟩,
  ⟨(some 28), (Op.call { callee := (Callee.value (Operand.func 47)), args := #[(Operand.tmp 26), (Operand.tmp 27)], argTypes := #[51, 104] }), none, ann0⟩,
  ⟨(some 6), (Op.assign (Operand.tmp 28)), none, ann0⟩] none) (.tidy [0, 6] z (z + 2)))
 (.seq (.post (.seq (.reg [⟨(some 29), (Op.move (Operand.tmp 6)), none, ann0⟩,
  ⟨(some 30), (Op.call { callee := (Callee.builtin Builtin.len), args := #[(Operand.tmp 29)], argTypes := #[51] }), none, ann0⟩,
  ⟨(some 31), (Op.move (Operand.const (Value.int IntKind.i64 0))), none, ann0⟩] none)
 (.post (.block 0 (.pre (.tidy [0, 6, 29, 30, 31] z (z + 2)) (.loop (s26_1 z)))) (.tidy [6] z (z + 2)))) (.tidy [6] z (z + 2)))
 (.seq (.reg [⟨(some 40), (Op.move (Operand.tmp 6)), none, ann0⟩,
  ⟨(some 4), (Op.assign (Operand.tmp 40)), none, ann0⟩,
  ⟨(some 5), (Op.assign (Operand.const (Value.int IntKind.i64 0))), none, ann0⟩] none)
 .ret))))))) (.frz 4))⟩
theorem F26 (z : Nat) : FOk Try.prog 26 (s26 z) := by unfold FOk; kernel_rfl
def s27 (z : Nat) : SFn := ⟨2, 31, [(ResultVar.tmp 4)],
 (.seq (.reg [⟨(some 4), (Op.assign (Operand.const (Value.int IntKind.i64 0))), none, ann0⟩] none)
 (.seq (.seq (.reg [⟨(some 7), (Op.move (Operand.tmp 0)), none, ann0⟩,
  ⟨(some 8), (Op.binOp BinOp.eql 27 (Operand.tmp 7) (Operand.const (Value.pointer none)) 27), none, ann0⟩] none)
 (.cond (Operand.tmp 8) (.seq (.reg [⟨(some 4), (Op.assign (Operand.const (Value.int IntKind.i64 1))), none, ann0⟩] none)
 .ret)
 .skip))
 (.seq (.post (.reg [⟨(some 10), (Op.move (Operand.tmp 0)), none, ann0⟩,
  ⟨(some 11), (Op.nilCheck (Operand.tmp 10)), none, ann0⟩,
  ⟨(some 12), (Op.fieldAddr 79 (Operand.tmp 11) 2), none, ann0⟩,
  ⟨(some 13), (Op.load 77 (Operand.tmp 12)), none, ann0⟩,
  ⟨(some 14), (Op.move (Operand.tmp 1)), none, ann0⟩,
  ⟨(some 15), (Op.lookup 77 (Operand.tmp 13) (Operand.tmp 14) true), none, ann0⟩,
  ⟨(some 9), (Op.move (Operand.tmp 15)), none, ann0⟩,
  ⟨(some 16), (Op.extract (Operand.tmp 9) 0), none, ann0⟩,
  ⟨(some 17), (Op.extract (Operand.tmp 9) 1), none, ann0⟩,
  ⟨(some 5), (Op.alloc 40), none, ⟨1, false, false⟩⟩,
  ⟨none, (Op.store 40 (Operand.tmp 5) (Operand.tmp 16)), none, ann0⟩,
  ⟨(some 6), (Op.assign (Operand.tmp 17)), none, ann0⟩] none) (.tidy [0, 1, 5, 6] z (z + 1)))
 (.seq (.seq (.reg [⟨(some 18), (Op.move (Operand.tmp 6)), none, ann0⟩,
  ⟨(some 19), (Op.unOp UnOp.not 4 (Operand.tmp 18)), none, ann0⟩] none)
 (.cond (Operand.tmp 19) (.seq (.reg [⟨(some 4), (Op.assign (Operand.const (Value.int IntKind.i64 10))), none, ann0⟩] none)
 .ret)
 .skip))
 (.seq (.post (.reg [⟨(some 20), (Op.move (Operand.tmp 0)), none, ann0⟩,
  ⟨(some 21), (Op.nilCheck (Operand.tmp 20)), none, ann0⟩,
  ⟨(some 22), (Op.fieldAddr 79 (Operand.tmp 21) 2), none, ann0⟩,
  ⟨(some 23), (Op.load 77 (Operand.tmp 22)), none, ann0⟩,
  ⟨(some 24), (Op.move (Operand.tmp 1)), none, ann0⟩,
  ⟨none, (Op.call { callee := (Callee.builtin Builtin.delete), args := #[(Operand.tmp 23), (Operand.tmp 24)], argTypes := #[77, 3] }), none, ann0⟩] none) (.tidy [0, 5] z (z + 1)))
 (.seq (.post (.reg [⟨(some 25), (Op.move (Operand.tmp 0)), none, ann0⟩,
  ⟨(some 26), (Op.nilCheck (Operand.tmp 25)), none, ann0⟩,
  ⟨(some 27), (Op.fieldAddr 79 (Operand.tmp 26) 1), none, ann0⟩,
  ⟨(some 28), (Op.load 76 (Operand.tmp 27)), none, ann0⟩,
  ⟨(some 29), (Op.fieldAddr 40 (Operand.tmp 5) 1), none, ann0⟩,
  ⟨(some 30), (Op.load 38 (Operand.tmp 29)), none, ann0⟩,
  ⟨none, (Op.call { callee := (Callee.builtin Builtin.delete), args := #[(Operand.tmp 28), (Operand.tmp 30)], argTypes := #[76, 38] }), none, ann0⟩] (some [0, 1, 3, 7, 0, 16, 63])) (.tidy [] z (z + 1)))
 (.seq (.reg [⟨(some 4), (Op.assign (Operand.const (Value.int IntKind.i64 0))), none, ann0⟩] none)
 .ret)))))))⟩
theorem F27 (z : Nat) : FOk Try.prog 27 (s27 z) := by unfold FOk; kernel_rfl
def s28 (z : Nat) : SFn := ⟨1, 36, [(ResultVar.cell 2 25)],
 (.seq (.reg [⟨(some 1), (Op.box 57 (Operand.tmp 0)), none, ⟨1, false, false⟩⟩,
  ⟨(some 2), (Op.alloc 25), none, ⟨1, false, false⟩⟩] none)
 (.seq (.post (.reg [⟨(some 4), (Op.fieldAddr 57 (Operand.tmp 1) 1), none, ann0⟩,
  ⟨(some 5), (Op.load 5 (Operand.tmp 4)), none, ann0⟩,
  ⟨(some 6), (Op.convert 5 3 (Operand.tmp 5)), none, ann0⟩,
  ⟨(some 7), (Op.binOp BinOp.add 3 (Operand.const (Value.int IntKind.i64 1)) (Operand.tmp 6) 3), none, ann0⟩,
  ⟨(some 8), (Op.fieldAddr 57 (Operand.tmp 1) 2), none, ann0⟩,
  ⟨(some 9), (Op.load 5 (Operand.tmp 8)), none, ann0⟩,
  ⟨(some 10), (Op.convert 5 3 (Operand.tmp 9)), none, ann0⟩,
  ⟨(some 11), (Op.binOp BinOp.add 3 (Operand.const (Value.int IntKind.i64 1)) (Operand.tmp 10) 3), none, ann0⟩,
  ⟨(some 12), (Op.fieldAddr 57 (Operand.tmp 1) 1), none, ann0⟩,
  ⟨(some 13), (Op.load 5 (Operand.tmp 12)), none, ann0⟩,
  ⟨(some 14), (Op.convert 5 3 (Operand.tmp 13)), none, ann0⟩,
  ⟨(some 15), (Op.build 107 #[(0, (Operand.const (Value.int IntKind.i64 2))), (2, (Operand.tmp 14))]), none, ann0⟩,
  ⟨(some 16), (Op.build 109 #[(0, (Operand.const (Value.string ⟨#[107]⟩))), (1, (Operand.tmp 15))]), none, ann0⟩,
  ⟨(some 17), (Op.buildSlice 89 1 #[(0, (Operand.tmp 16))]), none, ⟨1, true, false⟩⟩,
  ⟨(some 18), (Op.build 92 #[(0, (Operand.tmp 7)), (1, (Operand.tmp 11)), (6, (Operand.const (Value.string ⟨#[115]⟩))), (12, (Operand.tmp 17))]), none, ann0⟩,
  ⟨(some 3), (Op.alloc 92), none, ⟨1, false, false⟩⟩,
  ⟨none, (Op.store 92 (Operand.tmp 3) (Operand.tmp 18)), none, ann0⟩] none) (.tidy [1, 2, 3] z (z + 4)))
 (.seq (.reg [⟨(some 19), (Op.fieldAddr 57 (Operand.tmp 1) 1), none, ann0⟩,
  ⟨(some 20), (Op.load 5 (Operand.tmp 19)), none, ann0⟩,
  ⟨(some 21), (Op.binOp BinOp.rem 5 (Operand.tmp 20) (Operand.const (Value.int IntKind.u8 4)) 5), none, ann0⟩,
  ⟨(some 22), (Op.convert 5 3 (Operand.tmp 21)), none, ann0⟩,
  ⟨(some 23), (Op.binOp BinOp.add 3 (Operand.const (Value.int IntKind.i64 1)) (Operand.tmp 22) 3), none, ann0⟩,
  ⟨(some 24), (Op.fieldAddr 57 (Operand.tmp 1) 2), none, ann0⟩,
  ⟨(some 25), (Op.load 5 (Operand.tmp 24)), none, ann0⟩,
  ⟨(some 26), (Op.binOp BinOp.rem 5 (Operand.tmp 25) (Operand.const (Value.int IntKind.u8 8)) 5), none, ann0⟩,
  ⟨(some 27), (Op.convert 5 3 (Operand.tmp 26)), none, ann0⟩,
  ⟨(some 28), (Op.load 92 (Operand.tmp 3)), none, ann0⟩,
  ⟨(some 29), (Op.buildSlice 22 1 #[(0, (Operand.tmp 28))]), none, ⟨1, true, false⟩⟩,
  ⟨(some 30), (Op.fieldAddr 57 (Operand.tmp 1) 1), none, ann0⟩,
  ⟨(some 31), (Op.load 5 (Operand.tmp 30)), none, ann0⟩,
  ⟨(some 32), (Op.convert 5 3 (Operand.tmp 31)), none, ann0⟩,
  ⟨(some 33), (Op.build 87 #[(0, (Operand.const (Value.int IntKind.i64 1))), (1, (Operand.const (Value.int IntKind.i64 2))), (2, (Operand.tmp 32))]), none, ann0⟩,
  ⟨(some 34), (Op.buildSlice 23 1 #[(0, (Operand.tmp 33))]), none, ⟨1, true, false⟩⟩,
  ⟨(some 35), (Op.build 25 #[(0, (Operand.tmp 23)), (1, (Operand.tmp 27)), (2, (Operand.tmp 29)), (3, (Operand.tmp 34))]), none, ann0⟩,
  ⟨none, (Op.store 25 (Operand.tmp 2) (Operand.tmp 35)), none, ann0⟩] none)
 .ret)))⟩
theorem F28 (z : Nat) : FOk Try.prog 28 (s28 z) := by unfold FOk; kernel_rfl
def s29 (z : Nat) : SFn := ⟨2, 41, [(ResultVar.tmp 4)],
 (.seq (.reg [⟨(some 4), (Op.assign (Operand.const (Value.int IntKind.i64 0))), none, ann0⟩] none)
 (.seq (.seq (.reg [⟨(some 8), (Op.move (Operand.tmp 0)), none, ann0⟩,
  ⟨(some 9), (Op.binOp BinOp.eql 27 (Operand.tmp 8) (Operand.const (Value.pointer none)) 27), none, ann0⟩] none)
 (.cond (Operand.tmp 9) (.seq (.reg [⟨(some 4), (Op.assign (Operand.const (Value.int IntKind.i64 1))), none, ann0⟩] none)
 .ret)
 .skip))
 (.seq (.post (.reg [⟨(some 11), (Op.move (Operand.tmp 0)), none, ann0⟩,
  ⟨(some 12), (Op.nilCheck (Operand.tmp 11)), none, ann0⟩,
  ⟨(some 13), (Op.fieldAddr 79 (Operand.tmp 12) 2), none, ann0⟩,
  ⟨(some 14), (Op.load 77 (Operand.tmp 13)), none, ann0⟩,
  ⟨(some 15), (Op.move (Operand.tmp 1)), none, ann0⟩,
  ⟨(some 16), (Op.lookup 77 (Operand.tmp 14) (Operand.tmp 15) true), none, ann0⟩,
  ⟨(some 10), (Op.move (Operand.tmp 16)), none, ann0⟩,
  ⟨(some 17), (Op.extract (Operand.tmp 10) 0), none, ann0⟩,
  ⟨(some 18), (Op.extract (Operand.tmp 10) 1), none, ann0⟩,
  ⟨(some 5), (Op.alloc 40), none, ⟨1, false, false⟩⟩,
  ⟨none, (Op.store 40 (Operand.tmp 5) (Operand.tmp 17)), none, ann0⟩,
  ⟨(some 6), (Op.assign (Operand.tmp 18)), none, ann0⟩] none) (.tidy [0, 1, 5, 6] z (z + 1)))
 (.seq (.seq (.reg [⟨(some 19), (Op.move (Operand.tmp 6)), none, ann0⟩,
  ⟨(some 20), (Op.unOp UnOp.not 4 (Operand.tmp 19)), none, ann0⟩] none)
 (.cond (Operand.tmp 20) (.seq (.reg [⟨(some 4), (Op.assign (Operand.const (Value.int IntKind.i64 10))), none, ann0⟩] none)
 .ret)
 .skip))
 (.seq (.post (.reg [⟨(some 21), (Op.move (Operand.tmp 0)), none, ann0⟩,
  ⟨(some 22), (Op.nilCheck (Operand.tmp 21)), none, ann0⟩,
  ⟨(some 23), (Op.fieldAddr 79 (Operand.tmp 22) 2), none, ann0⟩,
  ⟨(some 24), (Op.load 77 (Operand.tmp 23)), none, ann0⟩,
  ⟨(some 25), (Op.move (Operand.tmp 1)), none, ann0⟩,
  ⟨none, (Op.call { callee := (Callee.builtin Builtin.delete), args := #[(Operand.tmp 24), (Operand.tmp 25)], argTypes := #[77, 3] }), none, ann0⟩] none) (.tidy [0, 5] z (z + 1)))
 (.seq (.post (.reg [⟨(some 26), (Op.move (Operand.tmp 0)), none, ann0⟩,
  ⟨(some 27), (Op.nilCheck (Operand.tmp 26)), none, ann0⟩,
  ⟨(some 28), (Op.fieldAddr 79 (Operand.tmp 27) 1), none, ann0⟩,
  ⟨(some 29), (Op.load 76 (Operand.tmp 28)), none, ann0⟩,
  ⟨(some 30), (Op.fieldAddr 40 (Operand.tmp 5) 1), none, ann0⟩,
  ⟨(some 31), (Op.load 38 (Operand.tmp 30)), none, ann0⟩,
  ⟨(some 32), (Op.lookup 76 (Operand.tmp 29) (Operand.tmp 31) false), none, ann0⟩,
  ⟨(some 7), (Op.alloc 81), none, ⟨1, false, false⟩⟩,
  ⟨none, (Op.store 81 (Operand.tmp 7) (Operand.tmp 32)), none, ann0⟩] (some [0, 1, 3, 7, 0, 16, 63, 0, 255])) (.tidy [0, 5, 7] z (z + 2)))
 (.seq (.reg [⟨(some 33), (Op.fieldAddr 81 (Operand.tmp 7) 2), none, ann0⟩,
  ⟨none, (Op.store 3 (Operand.tmp 33) (Operand.const (Value.int IntKind.i64 0))), none, ann0⟩] none)
 (.seq (.post (.reg [⟨(some 34), (Op.move (Operand.tmp 0)), none, ann0⟩,
  ⟨(some 35), (Op.nilCheck (Operand.tmp 34)), none, ann0⟩,
  ⟨(some 36), (Op.fieldAddr 79 (Operand.tmp 35) 1), none, ann0⟩,
  ⟨(some 37), (Op.load 76 (Operand.tmp 36)), none, ann0⟩,
  ⟨(some 38), (Op.fieldAddr 40 (Operand.tmp 5) 1), none, ann0⟩,
  ⟨(some 39), (Op.load 38 (Operand.tmp 38)), none, ann0⟩,
  ⟨(some 40), (Op.load 81 (Operand.tmp 7)), none, ann0⟩,
  ⟨none, (Op.mapUpdate 76 (Operand.tmp 37) (Operand.tmp 39) (Operand.tmp 40)), none, ann0⟩] (some [0, 1, 3, 7, 0, 16, 0, 127])) (.tidy [] z (z + 2)))
 (.seq (.reg [⟨(some 4), (Op.assign (Operand.const (Value.int IntKind.i64 0))), none, ann0⟩] none)
 .ret)))))))))⟩
theorem F29 (z : Nat) : FOk Try.prog 29 (s29 z) := by unfold FOk; kernel_rfl
def s33 (z : Nat) : SFn := ⟨1, 9, [(ResultVar.tmp 2)],
 (.seq (.reg [⟨(some 2), (Op.assign (Operand.const (Value.bool false))), none, ann0⟩] none)
 (.seq (.reg [⟨(some 3), (Op.move (Operand.tmp 0)), none, ann0⟩,
  ⟨(some 4), (Op.binOp BinOp.geq 3 (Operand.tmp 3) (Operand.const (Value.int IntKind.i64 1)) 3), none, ann0⟩,
  ⟨(some 5), (Op.move (Operand.tmp 4)), none, ann0⟩,
  ⟨(some 6), (Op.move (Operand.tmp 0)), (some (5, true)), ann0⟩,
  ⟨(some 7), (Op.binOp BinOp.leq 3 (Operand.tmp 6) (Operand.const (Value.int IntKind.i64 1048576)) 3), (some (5, true)), ann0⟩,
  ⟨(some 8), (Op.pick (Operand.tmp 5) (Operand.tmp 7) (Operand.const (Value.bool false))), none, ann0⟩,
  ⟨(some 2), (Op.assign (Operand.tmp 8)), none, ann0⟩] none)
 .ret))⟩
theorem F33 (z : Nat) : FOk Try.prog 33 (s33 z) := by unfold FOk; kernel_rfl
def c34_1 (z : Nat) : SC := .post (.seq (.reg [⟨(some 16), (Op.binOp BinOp.lss 3 (Operand.tmp 15) (Operand.tmp 14) 3), none, ann0⟩] none)
 (.seq (.cond (Operand.tmp 16) .skip
 (.exit 0))
 (.seq (.post (.block 1 (.seq (.reg [⟨(some 17), (Op.move (Operand.tmp 15)), none, ann0⟩,
  ⟨(some 3), (Op.assign (Operand.tmp 17)), none, ann0⟩] none)
 (.seq (.post (.reg [⟨(some 18), (Op.fieldAddr 25 (Operand.tmp 1) 2), none, ann0⟩,
  ⟨(some 19), (Op.load 22 (Operand.tmp 18)), none, ann0⟩,
  ⟨(some 20), (Op.move (Operand.tmp 3)), none, ann0⟩,
  ⟨(some 21), (Op.fieldAddr 25 (Operand.tmp 1) 2), none, ann0⟩,
  ⟨(some 22), (Op.load 22 (Operand.tmp 21)), none, ann0⟩,
  ⟨(some 23), (Op.move (Operand.tmp 3)), none, ann0⟩,
  ⟨(some 24), (Op.indexAddr 22 (Operand.tmp 22) (Operand.tmp 23)), none, ann0⟩,
  ⟨(some 25), (Op.fieldAddr 92 (Operand.tmp 24) 12), none, ann0⟩,
  ⟨(some 26), (Op.load 89 (Operand.tmp 25)), none, ann0⟩,
  ⟨(some 27), (Op.call { callee := (Callee.value (Operand.func 56)), args := #[(Operand.tmp 26)], argTypes := #[89] }), none, ann0⟩,
  ⟨(some 28), (Op.indexAddr 22 (Operand.tmp 19) (Operand.tmp 20)), none, ann0⟩,
  ⟨(some 29), (Op.fieldAddr 92 (Operand.tmp 28) 12), none, ann0⟩,
  ⟨none, (Op.store 89 (Operand.tmp 29) (Operand.tmp 27)), none, ann0⟩] (some [0, 1, 0, 0, 8, 0, 56, 120, 248, 504, 1023, 2047, 4095])) (.tidy [1, 2, 3, 14, 15] z (z + 3)))
 (.reg [⟨(some 30), (Op.fieldAddr 25 (Operand.tmp 1) 2), none, ann0⟩,
  ⟨(some 31), (Op.load 22 (Operand.tmp 30)), none, ann0⟩,
  ⟨(some 32), (Op.move (Operand.tmp 3)), none, ann0⟩,
  ⟨(some 33), (Op.fieldAddr 25 (Operand.tmp 1) 2), none, ann0⟩,
  ⟨(some 34), (Op.load 22 (Operand.tmp 33)), none, ann0⟩,
  ⟨(some 35), (Op.move (Operand.tmp 3)), none, ann0⟩,
  ⟨(some 36), (Op.indexAddr 22 (Operand.tmp 34) (Operand.tmp 35)), none, ann0⟩,
  ⟨(some 37), (Op.fieldAddr 92 (Operand.tmp 36) 13), none, ann0⟩,
  ⟨(some 38), (Op.load 90 (Operand.tmp 37)), none, ann0⟩,
  ⟨(some 39), (Op.call { callee := (Callee.value (Operand.func 57)), args := #[(Operand.tmp 38)], argTypes := #[90] }), none, ann0⟩,
  ⟨(some 40), (Op.indexAddr 22 (Operand.tmp 31) (Operand.tmp 32)), none, ann0⟩,
  ⟨(some 41), (Op.fieldAddr 92 (Operand.tmp 40) 13), none, ann0⟩,
  ⟨none, (Op.store 90 (Operand.tmp 41) (Operand.tmp 39)), none, ann0⟩] (some [0, 1, 0, 0, 8, 0, 56, 120, 248, 504, 1023, 2047, 4095]))))) (.tidy [1, 2, 14, 15] z (z + 3)))
 (.reg [⟨(some 42), (Op.binOp BinOp.add 3 (Operand.tmp 15) (Operand.const (Value.int IntKind.i64 1)) 3), none, ann0⟩,
  ⟨(some 15), (Op.move (Operand.tmp 42)), none, ann0⟩] none)))) (.tidy [1, 2, 14, 15] z (z + 3))
def s34_1 (z : Nat) : SC := c34_1 z
theorem e34_1 {C : Pg} {z : Nat} {st : St} {ks : List Fr} {K : Ex → St → Prop} : wpk C (s34_1 z) st ks K ↔ wpk C (c34_1 z) st ks K := Iff.rfl
def s34 (z : Nat) : SFn := ⟨1, 44, [(ResultVar.cell 2 25)],
 (.seq (.reg [⟨(some 1), (Op.box 25 (Operand.tmp 0)), none, ⟨1, false, false⟩⟩,
  ⟨(some 2), (Op.alloc 25), none, ⟨1, false, false⟩⟩] none)
 (.seq (.reg [⟨(some 4), (Op.fieldAddr 25 (Operand.tmp 1) 3), none, ann0⟩,
  ⟨(some 5), (Op.load 23 (Operand.tmp 4)), none, ann0⟩,
  ⟨(some 6), (Op.call { callee := (Callee.value (Operand.func 54)), args := #[(Operand.tmp 5)], argTypes := #[23] }), none, ann0⟩,
  ⟨(some 7), (Op.fieldAddr 25 (Operand.tmp 1) 3), none, ann0⟩,
  ⟨none, (Op.store 23 (Operand.tmp 7) (Operand.tmp 6)), none, ann0⟩] none)
 (.seq (.post (.reg [⟨(some 8), (Op.fieldAddr 25 (Operand.tmp 1) 2), none, ann0⟩,
  ⟨(some 9), (Op.load 22 (Operand.tmp 8)), none, ann0⟩,
  ⟨(some 10), (Op.call { callee := (Callee.value (Operand.func 55)), args := #[(Operand.tmp 9)], argTypes := #[22] }), none, ⟨1, false, false⟩⟩,
  ⟨(some 11), (Op.fieldAddr 25 (Operand.tmp 1) 2), none, ann0⟩,
  ⟨none, (Op.store 22 (Operand.tmp 11) (Operand.tmp 10)), none, ann0⟩] none) (.tidy [1, 2] z (z + 3)))
 (.seq (.post (.seq (.reg [⟨(some 12), (Op.fieldAddr 25 (Operand.tmp 1) 2), none, ann0⟩,
  ⟨(some 13), (Op.load 22 (Operand.tmp 12)), none, ann0⟩,
  ⟨(some 14), (Op.call { callee := (Callee.builtin Builtin.len), args := #[(Operand.tmp 13)], argTypes := #[22] }), none, ann0⟩,
  ⟨(some 15), (Op.move (Operand.const (Value.int IntKind.i64 0))), none, ann0⟩] none)
 (.post (.post (.block 0 (.pre (.tidy [1, 2, 14, 15] z (z + 3)) (.loop (s34_1 z)))) (.tidy [1, 2] z (z + 3))) (.frb 1 2))) (.tidy [1, 2] z (z + 3)))
 (.seq (.reg [⟨(some 43), (Op.load 25 (Operand.tmp 1)), none, ann0⟩,
  ⟨none, (Op.store 25 (Operand.tmp 2) (Operand.tmp 43)), none, ann0⟩] none)
 .ret)))))⟩
theorem F34 (z : Nat) : FOk Try.prog 34 (s34 z) := by unfold FOk; kernel_rfl
def c35_1 (z : Nat) : SC := .post (.seq (.reg [⟨(some 23), (Op.binOp BinOp.lss 3 (Operand.tmp 22) (Operand.tmp 21) 3), none, ann0⟩] none)
 (.seq (.cond (Operand.tmp 23) .skip
 (.exit 0))
 (.seq (.post (.block 1 (.seq (.post (.reg [⟨(some 24), (Op.indexAddr 49 (Operand.tmp 20) (Operand.tmp 22)), none, ann0⟩,
  ⟨(some 25), (Op.load 38 (Operand.tmp 24)), none, ann0⟩,
  ⟨(some 8), (Op.alloc 38), none, ⟨1, false, false⟩⟩,
  ⟨none, (Op.store 38 (Operand.tmp 8) (Operand.tmp 25)), none, ann0⟩] none) (.tidy [2, 5, 6, 8, 20, 21, 22] z (z + 5)))
 (.seq (.post (.reg [⟨(some 26), (Op.move (Operand.tmp 5)), none, ann0⟩,
  ⟨(some 27), (Op.load 38 (Operand.tmp 8)), none, ann0⟩,
  ⟨(some 28), (Op.call { callee := (Callee.value (Operand.tmp 26)), args := #[(Operand.tmp 27)], argTypes := #[38] }), none, ann0⟩,
  ⟨(some 29), (Op.move (Operand.tmp 5)), none, ann0⟩,
  ⟨(some 30), (Op.load 38 (Operand.tmp 6)), none, ann0⟩,
  ⟨(some 31), (Op.call { callee := (Callee.value (Operand.tmp 29)), args := #[(Operand.tmp 30)], argTypes := #[38] }), none, ann0⟩,
  ⟨(some 32), (Op.binOp BinOp.lss 3 (Operand.tmp 28) (Operand.tmp 31) 3), none, ann0⟩] (some [0, 0, 3, 0, 0, 31, 63])) (.tidy [2, 5, 6, 8, 20, 21, 22, 32] z (z + 5)))
 (.cond (Operand.tmp 32) (.reg [⟨(some 33), (Op.load 38 (Operand.tmp 8)), none, ann0⟩,
  ⟨none, (Op.store 38 (Operand.tmp 6) (Operand.tmp 33)), none, ann0⟩] none)
 .skip)))) (.tidy [2, 5, 6, 20, 21, 22] z (z + 5)))
 (.reg [⟨(some 34), (Op.binOp BinOp.add 3 (Operand.tmp 22) (Operand.const (Value.int IntKind.i64 1)) 3), none, ann0⟩,
  ⟨(some 22), (Op.move (Operand.tmp 34)), none, ann0⟩] none)))) (.tidy [2, 5, 6, 20, 21, 22] z (z + 4))
def s35_1 (z : Nat) : SC := c35_1 z
theorem e35_1 {C : Pg} {z : Nat} {st : St} {ks : List Fr} {K : Ex → St → Prop} : wpk C (s35_1 z) st ks K ↔ wpk C (c35_1 z) st ks K := Iff.rfl
def s35 (z : Nat) : SFn := ⟨1, 36, [(ResultVar.cell 2 38), (ResultVar.tmp 3)],
 (.seq (.reg [⟨(some 1), (Op.box 27 (Operand.tmp 0)), none, ⟨1, false, false⟩⟩,
  ⟨(some 2), (Op.alloc 38), none, ⟨1, false, false⟩⟩,
  ⟨(some 3), (Op.assign (Operand.const (Value.bool false))), none, ann0⟩] none)
 (.seq (.reg [⟨(some 9), (Op.load 27 (Operand.tmp 1)), none, ann0⟩,
  ⟨(some 10), (Op.call { callee := (Callee.value (Operand.func 21)), args := #[(Operand.tmp 9)], argTypes := #[27] }), none, ⟨1, true, false⟩⟩,
  ⟨(some 4), (Op.assign (Operand.tmp 10)), none, ann0⟩] none)
 (.seq (.post (.seq (.reg [⟨(some 11), (Op.move (Operand.tmp 4)), none, ann0⟩,
  ⟨(some 12), (Op.call { callee := (Callee.builtin Builtin.len), args := #[(Operand.tmp 11)], argTypes := #[49] }), none, ann0⟩,
  ⟨(some 13), (Op.binOp BinOp.eql 3 (Operand.tmp 12) (Operand.const (Value.int IntKind.i64 0)) 3), none, ann0⟩] none)
 (.cond (Operand.tmp 13) (.seq (.reg [⟨(some 14), (Op.build 38 #[]), none, ann0⟩,
  ⟨none, (Op.store 38 (Operand.tmp 2) (Operand.tmp 14)), none, ann0⟩,
  ⟨(some 3), (Op.assign (Operand.const (Value.bool false))), none, ann0⟩] none)
 .ret)
 .skip)) (.tidy [1, 2, 4] z (z + 3)))
 (.seq (.reg [⟨(some 15), (Op.makeFunc (Fn.func 58) #[] #[(Operand.tmp 1)]), none, ann0⟩,
  ⟨(some 5), (Op.assign (Operand.tmp 15)), none, ann0⟩] none)
 (.seq (.reg [⟨(some 16), (Op.move (Operand.tmp 4)), none, ann0⟩,
  ⟨(some 17), (Op.indexAddr 49 (Operand.tmp 16) (Operand.const (Value.int IntKind.i64 0))), none, ann0⟩,
  ⟨(some 18), (Op.load 38 (Operand.tmp 17)), none, ann0⟩,
  ⟨(some 6), (Op.alloc 38), none, ⟨1, false, false⟩⟩,
  ⟨none, (Op.store 38 (Operand.tmp 6) (Operand.tmp 18)), none, ann0⟩] none)
 (.seq (.post (.seq (.reg [⟨(some 19), (Op.move (Operand.tmp 4)), none, ann0⟩,
  ⟨(some 20), (Op.slice 49 (Operand.tmp 19) (some (Operand.const (Value.int IntKind.i64 1))) none none), none, ann0⟩,
  ⟨(some 21), (Op.call { callee := (Callee.builtin Builtin.len), args := #[(Operand.tmp 20)], argTypes := #[49] }), none, ann0⟩,
  ⟨(some 22), (Op.move (Operand.const (Value.int IntKind.i64 0))), none, ann0⟩] none)
 (.post (.block 0 (.pre (.tidy [2, 5, 6, 20, 21, 22] z (z + 4)) (.loop (s35_1 z)))) (.tidy [2, 6] z (z + 4)))) (.tidy [2, 6] z (z + 4)))
 (.seq (.reg [⟨(some 35), (Op.load 38 (Operand.tmp 6)), none, ann0⟩,
  ⟨none, (Op.store 38 (Operand.tmp 2) (Operand.tmp 35)), none, ann0⟩,
  ⟨(some 3), (Op.assign (Operand.const (Value.bool true))), none, ann0⟩] none)
 .ret)))))))⟩
theorem F35 (z : Nat) : FOk Try.prog 35 (s35 z) := by unfold FOk; kernel_rfl
def c37_1 (z : Nat) : SC := .post (.seq (.reg [⟨(some 15), (Op.next (Operand.tmp 14) false), none, ann0⟩,
  ⟨(some 16), (Op.extract (Operand.tmp 15) 0), none, ann0⟩] none)
 (.seq (.cond (Operand.tmp 16) .skip
 (.exit 0))
 (.block 1 (.seq (.reg [⟨(some 17), (Op.entry (Operand.tmp 14)), none, ann0⟩,
  ⟨(some 18), (Op.extract (Operand.tmp 17) 0), none, ann0⟩,
  ⟨(some 19), (Op.extract (Operand.tmp 17) 1), none, ann0⟩,
  ⟨(some 6), (Op.alloc 38), none, ⟨1, false, false⟩⟩,
  ⟨(some 7), (Op.alloc 81), none, ⟨1, false, false⟩⟩,
  ⟨none, (Op.store 38 (Operand.tmp 6) (Operand.tmp 18)), none, ann0⟩,
  ⟨none, (Op.store 81 (Operand.tmp 7) (Operand.tmp 19)), none, ann0⟩] none)
 (.seq (.post (.reg [⟨(some 20), (Op.move (Operand.tmp 1)), none, ann0⟩,
  ⟨(some 21), (Op.load 81 (Operand.tmp 7)), none, ann0⟩,
  ⟨(some 22), (Op.call { callee := (Callee.value (Operand.tmp 20)), args := #[(Operand.tmp 21)], argTypes := #[81] }), none, ann0⟩] none) (.tidy [1, 2, 5, 6, 14, 22] z (z + 5)))
 (.cond (Operand.tmp 22) (.reg [⟨(some 23), (Op.move (Operand.tmp 5)), none, ann0⟩,
  ⟨(some 24), (Op.load 38 (Operand.tmp 6)), none, ann0⟩,
  ⟨(some 25), (Op.buildSlice 49 1 #[(0, (Operand.tmp 24))]), none, ⟨1, true, false⟩⟩,
  ⟨(some 26), (Op.call { callee := (Callee.builtin Builtin.append), args := #[(Operand.tmp 23), (Operand.tmp 25)], argTypes := #[49, 49] }), none, ann0⟩,
  ⟨(some 5), (Op.assign (Operand.tmp 26)), none, ann0⟩] none)
 .skip)))))) (.tidy [1, 2, 5, 14] z (z + 3))
def s37_1 (z : Nat) : SC := c37_1 z
theorem e37_1 {C : Pg} {z : Nat} {st : St} {ks : List Fr} {K : Ex → St → Prop} : wpk C (s37_1 z) st ks K ↔ wpk C (c37_1 z) st ks K := Iff.rfl
def s37 (z : Nat) : SFn := ⟨2, 31, [(ResultVar.tmp 4)],
 (.seq (.reg [⟨(some 2), (Op.box 27 (Operand.tmp 0)), none, ⟨1, false, false⟩⟩,
  ⟨(some 4), (Op.assign (Operand.const (Value.slice none 0 0))), none, ann0⟩] none)
 (.seq (.seq (.reg [⟨(some 8), (Op.load 27 (Operand.tmp 2)), none, ann0⟩,
  ⟨(some 9), (Op.binOp BinOp.eql 27 (Operand.tmp 8) (Operand.const (Value.pointer none)) 27), none, ann0⟩] none)
 (.cond (Operand.tmp 9) (.seq (.reg [⟨(some 4), (Op.assign (Operand.const (Value.slice none 0 0))), none, ann0⟩] none)
 .ret)
 .skip))
 (.seq (.post (.reg [⟨(some 5), (Op.assign (Operand.const (Value.slice none 0 0))), none, ann0⟩] none) (.mkv 5 38 2))
 (.seq (.post (.seq (.post (.reg [⟨(some 10), (Op.load 27 (Operand.tmp 2)), none, ann0⟩,
  ⟨(some 11), (Op.nilCheck (Operand.tmp 10)), none, ann0⟩,
  ⟨(some 12), (Op.fieldAddr 79 (Operand.tmp 11) 1), none, ann0⟩,
  ⟨(some 13), (Op.load 76 (Operand.tmp 12)), none, ann0⟩,
  ⟨(some 14), (Op.range 76 (Operand.tmp 13)), none, ⟨1, false, false⟩⟩] none) (.tidy [1, 2, 5, 14] z (z + 3)))
 (.post (.block 0 (.pre (.tidy [1, 2, 5, 14] z (z + 3)) (.loop (s37_1 z)))) (.tidy [2, 5] z (z + 3)))) (.tidy [2, 5] z (z + 3)))
 (.seq (.reg [⟨(some 27), (Op.move (Operand.tmp 5)), none, ann0⟩,
  ⟨(some 28), (Op.makeFunc (Fn.func 60) #[] #[(Operand.tmp 2)]), none, ann0⟩,
  ⟨(some 29), (Op.call { callee := (Callee.value (Operand.func 59)), args := #[(Operand.tmp 27), (Operand.tmp 28)], argTypes := #[49, 122] }), none, ann0⟩] none)
 (.seq (.reg [⟨(some 30), (Op.move (Operand.tmp 5)), none, ann0⟩,
  ⟨(some 4), (Op.assign (Operand.tmp 30)), none, ann0⟩] none)
 .ret))))))⟩
theorem F37 (z : Nat) : FOk Try.prog 37 (s37 z) := by unfold FOk; kernel_rfl
def s38 (z : Nat) : SFn := ⟨1, 6, [(ResultVar.tmp 2)],
 (.seq (.reg [⟨(some 1), (Op.box 81 (Operand.tmp 0)), none, ⟨1, false, false⟩⟩,
  ⟨(some 2), (Op.assign (Operand.const (Value.bool false))), none, ann0⟩] none)
 (.seq (.reg [⟨(some 3), (Op.fieldAddr 81 (Operand.tmp 1) 2), none, ann0⟩,
  ⟨(some 4), (Op.load 3 (Operand.tmp 3)), none, ann0⟩,
  ⟨(some 5), (Op.binOp BinOp.eql 3 (Operand.tmp 4) (Operand.const (Value.int IntKind.i64 0)) 3), none, ann0⟩,
  ⟨(some 2), (Op.assign (Operand.tmp 5)), none, ann0⟩] none)
 .ret))⟩
theorem F38 (z : Nat) : FOk Try.prog 38 (s38 z) := by unfold FOk; kernel_rfl
def s39 (z : Nat) : SFn := ⟨2, 14, [],
 (.seq (.reg [⟨(some 5), (Op.move (Operand.tmp 0)), none, ann0⟩,
  ⟨(some 6), (Op.call { callee := (Callee.builtin Builtin.len), args := #[(Operand.tmp 5)], argTypes := #[51] }), none, ann0⟩,
  ⟨(some 4), (Op.assign (Operand.tmp 6)), none, ann0⟩] none)
 (.reg [⟨(some 7), (Op.move (Operand.tmp 0)), none, ann0⟩,
  ⟨(some 8), (Op.move (Operand.tmp 4)), none, ann0⟩,
  ⟨(some 9), (Op.move (Operand.tmp 4)), none, ann0⟩,
  ⟨(some 10), (Op.convert 3 125 (Operand.tmp 9)), none, ann0⟩,
  ⟨(some 11), (Op.call { callee := (Callee.value (Operand.func 62)), args := #[(Operand.tmp 10)], argTypes := #[125] }), none, ann0⟩,
  ⟨(some 12), (Op.move (Operand.tmp 1)), none, ann0⟩,
  ⟨(some 13), (Op.call { callee := (Callee.value (Operand.func 61)), args := #[(Operand.tmp 7), (Operand.const (Value.int IntKind.i64 0)), (Operand.tmp 8), (Operand.tmp 11), (Operand.tmp 12)], argTypes := #[51, 3, 3, 3, 97] }), none, ann0⟩] none))⟩
theorem F39 (z : Nat) : FOk Try.prog 39 (s39 z) := by unfold FOk; kernel_rfl
def s40 (z : Nat) : SFn := ⟨2, 10, [(ResultVar.tmp 4)],
 (.seq (.reg [⟨(some 2), (Op.box 40 (Operand.tmp 0)), none, ⟨1, false, false⟩⟩,
  ⟨(some 3), (Op.box 40 (Operand.tmp 1)), none, ⟨1, false, false⟩⟩,
  ⟨(some 4), (Op.assign (Operand.const (Value.int IntKind.i64 0))), none, ann0⟩] none)
 (.seq (.reg [⟨(some 5), (Op.fieldAddr 40 (Operand.tmp 2) 0), none, ann0⟩,
  ⟨(some 6), (Op.load 3 (Operand.tmp 5)), none, ann0⟩,
  ⟨(some 7), (Op.fieldAddr 40 (Operand.tmp 3) 0), none, ann0⟩,
  ⟨(some 8), (Op.load 3 (Operand.tmp 7)), none, ann0⟩,
  ⟨(some 9), (Op.call { callee := (Callee.value (Operand.func 41)), args := #[(Operand.tmp 6), (Operand.tmp 8)], argTypes := #[3, 3] }), none, ann0⟩,
  ⟨(some 4), (Op.assign (Operand.tmp 9)), none, ann0⟩] none)
 .ret))⟩
theorem F40 (z : Nat) : FOk Try.prog 40 (s40 z) := by unfold FOk; kernel_rfl
def s41 (z : Nat) : SFn := ⟨2, 20, [(ResultVar.tmp 4)],
 (.seq (.reg [⟨(some 4), (Op.assign (Operand.const (Value.int IntKind.i64 0))), none, ann0⟩] none)
 (.seq (.reg [⟨(some 7), (Op.move (Operand.tmp 0)), none, ann0⟩,
  ⟨(some 8), (Op.call { callee := (Callee.value (Operand.func 63)), args := #[(Operand.tmp 7)], argTypes := #[3] }), none, ann0⟩,
  ⟨(some 5), (Op.assign (Operand.tmp 8)), none, ann0⟩] none)
 (.seq (.reg [⟨(some 9), (Op.move (Operand.tmp 1)), none, ann0⟩,
  ⟨(some 10), (Op.call { callee := (Callee.value (Operand.func 63)), args := #[(Operand.tmp 9)], argTypes := #[3] }), none, ann0⟩,
  ⟨(some 6), (Op.assign (Operand.tmp 10)), none, ann0⟩] none)
 (.seq (.seq (.reg [⟨(some 11), (Op.move (Operand.tmp 5)), none, ann0⟩] none)
 (.cond (Operand.tmp 11) (.seq (.post (.seq (.reg [⟨(some 12), (Op.move (Operand.tmp 6)), none, ann0⟩] none)
 (.cond (Operand.tmp 12) (.seq (.reg [⟨(some 4), (Op.assign (Operand.const (Value.int IntKind.i64 0))), none, ann0⟩] none)
 .ret)
 .skip)) (.tidy [] z (z + 0)))
 (.seq (.reg [⟨(some 4), (Op.assign (Operand.const (Value.int IntKind.i64 (-1)))), none, ann0⟩] none)
 .ret))
 .skip))
 (.seq (.seq (.reg [⟨(some 13), (Op.move (Operand.tmp 6)), none, ann0⟩] none)
 (.cond (Operand.tmp 13) (.seq (.reg [⟨(some 4), (Op.assign (Operand.const (Value.int IntKind.i64 1))), none, ann0⟩] none)
 .ret)
 .skip))
 (.seq (.seq (.post (.reg [⟨(some 14), (Op.move (Operand.tmp 0)), none, ann0⟩,
  ⟨(some 15), (Op.move (Operand.tmp 1)), none, ann0⟩,
  ⟨(some 16), (Op.binOp BinOp.lss 3 (Operand.tmp 14) (Operand.tmp 15) 3), none, ann0⟩] none) (.tidy [0, 1, 16] z (z + 0)))
 (.cond (Operand.tmp 16) (.seq (.reg [⟨(some 4), (Op.assign (Operand.const (Value.int IntKind.i64 (-1)))), none, ann0⟩] none)
 .ret)
 .skip))
 (.seq (.seq (.post (.reg [⟨(some 17), (Op.move (Operand.tmp 0)), none, ann0⟩,
  ⟨(some 18), (Op.move (Operand.tmp 1)), none, ann0⟩,
  ⟨(some 19), (Op.binOp BinOp.gtr 3 (Operand.tmp 17) (Operand.tmp 18) 3), none, ann0⟩] none) (.tidy [19] z (z + 0)))
 (.cond (Operand.tmp 19) (.seq (.reg [⟨(some 4), (Op.assign (Operand.const (Value.int IntKind.i64 1))), none, ann0⟩] none)
 .ret)
 .skip))
 (.seq (.reg [⟨(some 4), (Op.assign (Operand.const (Value.int IntKind.i64 0))), none, ann0⟩] none)
 .ret))))))))⟩
theorem F41 (z : Nat) : FOk Try.prog 41 (s41 z) := by unfold FOk; kernel_rfl
def c47_1 (z : Nat) : SC := .post (.seq (.post (.seq (.reg [⟨(some 16), (Op.move (Operand.tmp 6)), none, ann0⟩,
  ⟨(some 17), (Op.move (Operand.tmp 0)), none, ann0⟩,
  ⟨(some 18), (Op.call { callee := (Callee.builtin Builtin.len), args := #[(Operand.tmp 17)], argTypes := #[51] }), none, ann0⟩,
  ⟨(some 19), (Op.binOp BinOp.lss 3 (Operand.tmp 16) (Operand.tmp 18) 3), none, ann0⟩] none)
 (.cond (Operand.tmp 19) .skip
 (.exit 0))) (.tidy [0, 1, 5, 6] z (z + 0)))
 (.seq (.post (.block 1 (.seq (.reg [⟨(some 22), (Op.move (Operand.tmp 0)), none, ann0⟩,
  ⟨(some 23), (Op.move (Operand.tmp 6)), none, ann0⟩,
  ⟨(some 24), (Op.indexAddr 51 (Operand.tmp 22) (Operand.tmp 23)), none, ann0⟩,
  ⟨(some 25), (Op.load 40 (Operand.tmp 24)), none, ann0⟩,
  ⟨(some 7), (Op.alloc 40), none, ⟨1, false, false⟩⟩,
  ⟨none, (Op.store 40 (Operand.tmp 7) (Operand.tmp 25)), none, ann0⟩] none)
 (.seq (.post (.reg [⟨(some 26), (Op.move (Operand.tmp 1)), none, ann0⟩,
  ⟨(some 27), (Op.load 40 (Operand.tmp 7)), none, ann0⟩,
  ⟨(some 28), (Op.call { callee := (Callee.value (Operand.tmp 26)), args := #[(Operand.tmp 27)], argTypes := #[40] }), none, ann0⟩,
  ⟨(some 29), (Op.unOp UnOp.not 4 (Operand.tmp 28)), none, ann0⟩] none) (.tidy [0, 1, 5, 6, 7, 29] z (z + 1)))
 (.cond (Operand.tmp 29) (.seq (.reg [⟨(some 30), (Op.move (Operand.tmp 0)), none, ann0⟩,
  ⟨(some 31), (Op.move (Operand.tmp 5)), none, ann0⟩,
  ⟨(some 32), (Op.load 40 (Operand.tmp 7)), none, ann0⟩,
  ⟨(some 33), (Op.indexAddr 51 (Operand.tmp 30) (Operand.tmp 31)), none, ann0⟩,
  ⟨none, (Op.store 40 (Operand.tmp 33) (Operand.tmp 32)), none, ann0⟩] none)
 (.reg [⟨(some 34), (Op.move (Operand.tmp 5)), none, ann0⟩,
  ⟨(some 35), (Op.binOp BinOp.add 3 (Operand.tmp 34) (Operand.const (Value.int IntKind.i64 1)) 3), none, ann0⟩,
  ⟨(some 5), (Op.assign (Operand.tmp 35)), none, ann0⟩] none))
 .skip)))) (.tidy [0, 1, 5, 6] z (z + 1)))
 (.reg [⟨(some 20), (Op.move (Operand.tmp 6)), none, ann0⟩,
  ⟨(some 21), (Op.binOp BinOp.add 3 (Operand.tmp 20) (Operand.const (Value.int IntKind.i64 1)) 3), none, ann0⟩,
  ⟨(some 6), (Op.assign (Operand.tmp 21)), none, ann0⟩] none))) (.tidy [0, 1, 5, 6] z (z + 0))
def s47_1 (z : Nat) : SC := c47_1 z
theorem e47_1 {C : Pg} {z : Nat} {st : St} {ks : List Fr} {K : Ex → St → Prop} : wpk C (s47_1 z) st ks K ↔ wpk C (c47_1 z) st ks K := Iff.rfl
def s47 (z : Nat) : SFn := ⟨2, 42, [(ResultVar.tmp 4)],
 (.seq (.reg [⟨(some 4), (Op.assign (Operand.const (Value.slice none 0 0))), none, ann0⟩] none)
 (.seq (.reg [⟨(some 8), (Op.move (Operand.tmp 0)), none, ann0⟩,
  ⟨(some 9), (Op.move (Operand.tmp 1)), none, ann0⟩,
  ⟨(some 10), (Op.call { callee := (Callee.value (Operand.func 65)), args := #[(Operand.tmp 8), (Operand.tmp 9)], argTypes := #[51, 104] }), none, ann0⟩,
  ⟨(some 5), (Op.assign (Operand.tmp 10)), none, ann0⟩] none)
 (.seq (.post (.seq (.reg [⟨(some 11), (Op.move (Operand.tmp 5)), none, ann0⟩,
  ⟨(some 12), (Op.binOp BinOp.eql 3 (Operand.tmp 11) (Operand.const (Value.int IntKind.i64 (-1))) 3), none, ann0⟩] none)
 (.cond (Operand.tmp 12) (.seq (.reg [⟨(some 13), (Op.move (Operand.tmp 0)), none, ann0⟩,
  ⟨(some 4), (Op.assign (Operand.tmp 13)), none, ann0⟩] none)
 .ret)
 .skip)) (.tidy [0, 1, 5] z (z + 0)))
 (.seq (.post (.seq (.reg [⟨(some 14), (Op.move (Operand.tmp 5)), none, ann0⟩,
  ⟨(some 15), (Op.binOp BinOp.add 3 (Operand.tmp 14) (Operand.const (Value.int IntKind.i64 1)) 3), none, ann0⟩,
  ⟨(some 6), (Op.assign (Operand.tmp 15)), none, ann0⟩] none)
 (.post (.block 0 (.pre (.tidy [0, 1, 5, 6] z (z + 0)) (.loop (s47_1 z)))) (.tidy [0, 5] z (z + 0)))) (.tidy [0, 5] z (z + 0)))
 (.seq (.reg [⟨(some 36), (Op.move (Operand.tmp 0)), none, ann0⟩,
  ⟨(some 37), (Op.move (Operand.tmp 5)), none, ann0⟩,
  ⟨(some 38), (Op.slice 51 (Operand.tmp 36) (some (Operand.tmp 37)) none none), none, ann0⟩,
  ⟨none, (Op.call { callee := (Callee.builtin Builtin.clear), args := #[(Operand.tmp 38)], argTypes := #[51] }), none, ann0⟩] none)
 (.seq (.reg [⟨(some 39), (Op.move (Operand.tmp 0)), none, ann0⟩,
  ⟨(some 40), (Op.move (Operand.tmp 5)), none, ann0⟩,
  ⟨(some 41), (Op.slice 51 (Operand.tmp 39) none (some (Operand.tmp 40)) none), none, ann0⟩,
  ⟨(some 4), (Op.assign (Operand.tmp 41)), none, ann0⟩] none)
 .ret))))))⟩
theorem F47 (z : Nat) : FOk Try.prog 47 (s47 z) := by unfold FOk; kernel_rfl
def s48 (z : Nat) : SFn := ⟨2, 8, [(ResultVar.tmp 3)],
 (.seq (.reg [⟨(some 2), (Op.box 40 (Operand.tmp 0)), none, ⟨1, false, false⟩⟩,
  ⟨(some 3), (Op.assign (Operand.const (Value.bool false))), none, ann0⟩] none)
 (.seq (.reg [⟨(some 4), (Op.fieldAddr 40 (Operand.tmp 2) 2), none, ann0⟩,
  ⟨(some 5), (Op.load 3 (Operand.tmp 4)), none, ann0⟩,
  ⟨(some 6), (Op.load 3 (Operand.tmp 1)), none, ann0⟩,
  ⟨(some 7), (Op.binOp BinOp.gtr 3 (Operand.tmp 5) (Operand.tmp 6) 3), none, ann0⟩,
  ⟨(some 3), (Op.assign (Operand.tmp 7)), none, ann0⟩] none)
 .ret))⟩
theorem F48 (z : Nat) : FOk Try.prog 48 (s48 z) := by unfold FOk; kernel_rfl
def s52 (z : Nat) : SFn := ⟨4, 29, [(ResultVar.tmp 6)],
 (.seq (.reg [⟨(some 4), (Op.box 38 (Operand.tmp 0)), none, ⟨1, false, false⟩⟩,
  ⟨(some 5), (Op.box 38 (Operand.tmp 1)), none, ⟨1, false, false⟩⟩,
  ⟨(some 6), (Op.assign (Operand.const (Value.bool false))), none, ann0⟩] none)
 (.seq (.reg [⟨(some 7), (Op.load 38 (Operand.tmp 4)), none, ann0⟩,
  ⟨(some 8), (Op.load 38 (Operand.tmp 5)), none, ann0⟩,
  ⟨(some 9), (Op.binOp BinOp.eql 38 (Operand.tmp 7) (Operand.tmp 8) 38), none, ann0⟩,
  ⟨(some 10), (Op.move (Operand.tmp 9)), none, ann0⟩,
  ⟨(some 11), (Op.load 27 (Operand.tmp 2)), (some (10, true)), ann0⟩,
  ⟨(some 12), (Op.nilCheck (Operand.tmp 11)), (some (10, true)), ann0⟩,
  ⟨(some 13), (Op.fieldAddr 79 (Operand.tmp 12) 1), (some (10, true)), ann0⟩,
  ⟨(some 14), (Op.load 76 (Operand.tmp 13)), (some (10, true)), ann0⟩,
  ⟨(some 15), (Op.load 38 (Operand.tmp 4)), (some (10, true)), ann0⟩,
  ⟨(some 16), (Op.lookup 76 (Operand.tmp 14) (Operand.tmp 15) false), (some (10, true)), ann0⟩,
  ⟨(some 17), (Op.field 81 (Operand.tmp 16) 0), (some (10, true)), ann0⟩,
  ⟨(some 18), (Op.call { callee := (Callee.value (Operand.func 53)), args := #[(Operand.tmp 17)], argTypes := #[25] }), (some (10, true)), ann0⟩,
  ⟨(some 19), (Op.load 27 (Operand.tmp 3)), (some (10, true)), ann0⟩,
  ⟨(some 20), (Op.nilCheck (Operand.tmp 19)), (some (10, true)), ann0⟩,
  ⟨(some 21), (Op.fieldAddr 79 (Operand.tmp 20) 1), (some (10, true)), ann0⟩,
  ⟨(some 22), (Op.load 76 (Operand.tmp 21)), (some (10, true)), ann0⟩,
  ⟨(some 23), (Op.load 38 (Operand.tmp 5)), (some (10, true)), ann0⟩,
  ⟨(some 24), (Op.lookup 76 (Operand.tmp 22) (Operand.tmp 23) false), (some (10, true)), ann0⟩,
  ⟨(some 25), (Op.field 81 (Operand.tmp 24) 0), (some (10, true)), ann0⟩,
  ⟨(some 26), (Op.call { callee := (Callee.value (Operand.func 53)), args := #[(Operand.tmp 25)], argTypes := #[25] }), (some (10, true)), ann0⟩,
  ⟨(some 27), (Op.binOp BinOp.eql 9 (Operand.tmp 18) (Operand.tmp 26) 9), (some (10, true)), ann0⟩,
  ⟨(some 28), (Op.pick (Operand.tmp 10) (Operand.tmp 27) (Operand.const (Value.bool false))), none, ann0⟩,
  ⟨(some 6), (Op.assign (Operand.tmp 28)), none, ann0⟩] (some [0, 0, 3, 7, 15, 31, 63, 127, 15, 511, 1023, 2047, 15, 4111, 12303, 28687, 15, 126991, 258063, 524287, 1048575, 2097151, 4194303]))
 .ret))⟩
theorem F52 (z : Nat) : FOk Try.prog 52 (s52 z) := by unfold FOk; kernel_rfl
def s53 (z : Nat) : SFn := ⟨1, 19, [(ResultVar.tmp 2)],
 (.seq (.reg [⟨(some 1), (Op.box 25 (Operand.tmp 0)), none, ⟨1, false, false⟩⟩,
  ⟨(some 2), (Op.assign (Operand.const (Value.string ⟨#[]⟩))), none, ann0⟩] none)
 (.seq (.reg [⟨(some 3), (Op.alloc 130), none, ⟨1, false, false⟩⟩] none)
 (.seq (.post (.reg [⟨(some 4), (Op.fieldAddr 25 (Operand.tmp 1) 0), none, ann0⟩,
  ⟨(some 5), (Op.load 3 (Operand.tmp 4)), none, ann0⟩,
  ⟨(some 6), (Op.fieldAddr 25 (Operand.tmp 1) 1), none, ann0⟩,
  ⟨(some 7), (Op.load 3 (Operand.tmp 6)), none, ann0⟩,
  ⟨(some 8), (Op.buildSlice 151 2 #[(0, (Operand.tmp 5)), (1, (Operand.tmp 7))]), none, ⟨1, true, false⟩⟩,
  ⟨(some 9), (Op.call { callee := (Callee.value (Operand.func 66)), args := #[(Operand.tmp 3), (Operand.tmp 8)], argTypes := #[130, 151] }), none, ann0⟩] none) (.tidy [1, 3] z (z + 3)))
 (.seq (.reg [⟨(some 10), (Op.fieldAddr 25 (Operand.tmp 1) 2), none, ann0⟩,
  ⟨(some 11), (Op.load 22 (Operand.tmp 10)), none, ann0⟩,
  ⟨(some 12), (Op.makeFunc (Fn.func 68) #[(Operand.tmp 3)] #[]), none, ann0⟩,
  ⟨(some 13), (Op.call { callee := (Callee.value (Operand.func 67)), args := #[(Operand.tmp 3), (Operand.tmp 11), (Operand.tmp 12)], argTypes := #[133, 22, 134] }), none, ann0⟩] none)
 (.seq (.post (.reg [⟨(some 14), (Op.fieldAddr 25 (Operand.tmp 1) 3), none, ann0⟩,
  ⟨(some 15), (Op.load 23 (Operand.tmp 14)), none, ann0⟩,
  ⟨(some 16), (Op.makeFunc (Fn.func 70) #[(Operand.tmp 3)] #[]), none, ann0⟩,
  ⟨(some 17), (Op.call { callee := (Callee.value (Operand.func 69)), args := #[(Operand.tmp 3), (Operand.tmp 15), (Operand.tmp 16)], argTypes := #[133, 23, 136] }), none, ann0⟩] none) (.tidy [3] z (z + 3)))
 (.seq (.reg [⟨(some 18), (Op.call { callee := (Callee.value (Operand.func 71)), args := #[(Operand.tmp 3)], argTypes := #[130] }), none, ann0⟩,
  ⟨(some 2), (Op.assign (Operand.tmp 18)), none, ann0⟩] none)
 .ret))))))⟩
theorem F53 (z : Nat) : FOk Try.prog 53 (s53 z) := by unfold FOk; kernel_rfl
def s54 (z : Nat) : SFn := ⟨1, 8, [(ResultVar.tmp 2)],
 (.post (.seq (.reg [⟨(some 2), (Op.assign (Operand.const (Value.slice none 0 0))), none, ann0⟩] none)
 (.seq (.seq (.reg [⟨(some 3), (Op.move (Operand.tmp 0)), none, ann0⟩,
  ⟨(some 4), (Op.binOp BinOp.eql 23 (Operand.tmp 3) (Operand.const (Value.slice none 0 0)) 23), none, ann0⟩] none)
 (.cond (Operand.tmp 4) (.seq (.reg [⟨(some 2), (Op.assign (Operand.const (Value.slice none 0 0))), none, ann0⟩] none)
 .ret)
 .skip))
 (.seq (.post (.reg [⟨(some 5), (Op.buildSlice 23 0 #[]), none, ⟨1, false, false⟩⟩,
  ⟨(some 6), (Op.move (Operand.tmp 0)), none, ann0⟩,
  ⟨(some 7), (Op.call { callee := (Callee.builtin Builtin.append), args := #[(Operand.tmp 5), (Operand.tmp 6)], argTypes := #[23, 23] }), none, ann0⟩,
  ⟨(some 2), (Op.assign (Operand.tmp 7)), none, ann0⟩] none) (.frz 2))
 .ret))) (.frz 2))⟩
theorem F54 (z : Nat) : FOk Try.prog 54 (s54 z) := by unfold FOk; kernel_rfl
def s55 (z : Nat) : SFn := ⟨1, 8, [(ResultVar.tmp 2)],
 (.seq (.reg [⟨(some 2), (Op.assign (Operand.const (Value.slice none 0 0))), none, ann0⟩] none)
 (.seq (.seq (.reg [⟨(some 3), (Op.move (Operand.tmp 0)), none, ann0⟩,
  ⟨(some 4), (Op.binOp BinOp.eql 22 (Operand.tmp 3) (Operand.const (Value.slice none 0 0)) 22), none, ann0⟩] none)
 (.cond (Operand.tmp 4) (.seq (.reg [⟨(some 2), (Op.assign (Operand.const (Value.slice none 0 0))), none, ann0⟩] none)
 .ret)
 .skip))
 (.seq (.reg [⟨(some 5), (Op.buildSlice 22 0 #[]), none, ⟨1, false, false⟩⟩,
  ⟨(some 6), (Op.move (Operand.tmp 0)), none, ann0⟩,
  ⟨(some 7), (Op.call { callee := (Callee.builtin Builtin.append), args := #[(Operand.tmp 5), (Operand.tmp 6)], argTypes := #[22, 22] }), none, ann0⟩,
  ⟨(some 2), (Op.assign (Operand.tmp 7)), none, ann0⟩] none)
 .ret)))⟩
theorem F55 (z : Nat) : FOk Try.prog 55 (s55 z) := by unfold FOk; kernel_rfl
def s56 (z : Nat) : SFn := ⟨1, 8, [(ResultVar.tmp 2)],
 (.post (.seq (.reg [⟨(some 2), (Op.assign (Operand.const (Value.slice none 0 0))), none, ann0⟩] none)
 (.seq (.seq (.reg [⟨(some 3), (Op.move (Operand.tmp 0)), none, ann0⟩,
  ⟨(some 4), (Op.binOp BinOp.eql 89 (Operand.tmp 3) (Operand.const (Value.slice none 0 0)) 89), none, ann0⟩] none)
 (.cond (Operand.tmp 4) (.seq (.reg [⟨(some 2), (Op.assign (Operand.const (Value.slice none 0 0))), none, ann0⟩] none)
 .ret)
 .skip))
 (.seq (.post (.reg [⟨(some 5), (Op.buildSlice 89 0 #[]), none, ⟨1, false, false⟩⟩,
  ⟨(some 6), (Op.move (Operand.tmp 0)), none, ann0⟩,
  ⟨(some 7), (Op.call { callee := (Callee.builtin Builtin.append), args := #[(Operand.tmp 5), (Operand.tmp 6)], argTypes := #[89, 89] }), none, ann0⟩,
  ⟨(some 2), (Op.assign (Operand.tmp 7)), none, ann0⟩] none) (.frz 2))
 .ret))) (.frz 2))⟩
theorem F56 (z : Nat) : FOk Try.prog 56 (s56 z) := by unfold FOk; kernel_rfl
def s57 (z : Nat) : SFn := ⟨1, 8, [(ResultVar.tmp 2)],
 (.post (.seq (.reg [⟨(some 2), (Op.assign (Operand.const (Value.slice none 0 0))), none, ann0⟩] none)
 (.seq (.seq (.reg [⟨(some 3), (Op.move (Operand.tmp 0)), none, ann0⟩,
  ⟨(some 4), (Op.binOp BinOp.eql 90 (Operand.tmp 3) (Operand.const (Value.slice none 0 0)) 90), none, ann0⟩] none)
 (.cond (Operand.tmp 4) (.seq (.reg [⟨(some 2), (Op.assign (Operand.const (Value.slice none 0 0))), none, ann0⟩] none)
 .ret)
 .skip))
 (.seq (.post (.reg [⟨(some 5), (Op.buildSlice 90 0 #[]), none, ⟨1, false, false⟩⟩,
  ⟨(some 6), (Op.move (Operand.tmp 0)), none, ann0⟩,
  ⟨(some 7), (Op.call { callee := (Callee.builtin Builtin.append), args := #[(Operand.tmp 5), (Operand.tmp 6)], argTypes := #[90, 90] }), none, ann0⟩,
  ⟨(some 2), (Op.assign (Operand.tmp 7)), none, ann0⟩] none) (.frz 2))
 .ret))) (.frz 2))⟩
theorem F57 (z : Nat) : FOk Try.prog 57 (s57 z) := by unfold FOk; kernel_rfl
def s58 (z : Nat) : SFn := ⟨2, 16, [(ResultVar.tmp 3)],
 (.seq (.reg [⟨(some 2), (Op.box 38 (Operand.tmp 0)), none, ⟨1, false, false⟩⟩,
  ⟨(some 3), (Op.assign (Operand.const (Value.int IntKind.i64 0))), none, ann0⟩] none)
 (.seq (.post (.seq (.post (.reg [⟨(some 4), (Op.fieldAddr 38 (Operand.tmp 2) 0), none, ann0⟩,
  ⟨(some 5), (Op.load 3 (Operand.tmp 4)), none, ann0⟩,
  ⟨(some 6), (Op.load 27 (Operand.tmp 1)), none, ann0⟩,
  ⟨(some 7), (Op.nilCheck (Operand.tmp 6)), none, ann0⟩,
  ⟨(some 8), (Op.fieldAddr 79 (Operand.tmp 7) 5), none, ann0⟩,
  ⟨(some 9), (Op.load 3 (Operand.tmp 8)), none, ann0⟩,
  ⟨(some 10), (Op.binOp BinOp.gtr 3 (Operand.tmp 5) (Operand.tmp 9) 3), none, ann0⟩] (some [0, 1, 0, 4, 12, 28, 63])) (.tidy [2, 10] z (z + 1)))
 (.cond (Operand.tmp 10) (.seq (.reg [⟨(some 11), (Op.fieldAddr 38 (Operand.tmp 2) 0), none, ann0⟩,
  ⟨(some 12), (Op.load 3 (Operand.tmp 11)), none, ann0⟩,
  ⟨(some 3), (Op.assign (Operand.tmp 12)), none, ann0⟩] none)
 .ret)
 .skip)) (.tidy [2] z (z + 1)))
 (.seq (.reg [⟨(some 13), (Op.fieldAddr 38 (Operand.tmp 2) 0), none, ann0⟩,
  ⟨(some 14), (Op.load 3 (Operand.tmp 13)), none, ann0⟩,
  ⟨(some 15), (Op.binOp BinOp.add 3 (Operand.tmp 14) (Operand.const (Value.int IntKind.i64 1048576)) 3), none, ann0⟩,
  ⟨(some 3), (Op.assign (Operand.tmp 15)), none, ann0⟩] none)
 .ret)))⟩
theorem F58 (z : Nat) : FOk Try.prog 58 (s58 z) := by unfold FOk; kernel_rfl
def s59 (z : Nat) : SFn := ⟨2, 14, [],
 (.seq (.reg [⟨(some 5), (Op.move (Operand.tmp 0)), none, ann0⟩,
  ⟨(some 6), (Op.call { callee := (Callee.builtin Builtin.len), args := #[(Operand.tmp 5)], argTypes := #[49] }), none, ann0⟩,
  ⟨(some 4), (Op.assign (Operand.tmp 6)), none, ann0⟩] none)
 (.reg [⟨(some 7), (Op.move (Operand.tmp 0)), none, ann0⟩,
  ⟨(some 8), (Op.move (Operand.tmp 4)), none, ann0⟩,
  ⟨(some 9), (Op.move (Operand.tmp 4)), none, ann0⟩,
  ⟨(some 10), (Op.convert 3 125 (Operand.tmp 9)), none, ann0⟩,
  ⟨(some 11), (Op.call { callee := (Callee.value (Operand.func 62)), args := #[(Operand.tmp 10)], argTypes := #[125] }), none, ann0⟩,
  ⟨(some 12), (Op.move (Operand.tmp 1)), none, ann0⟩,
  ⟨(some 13), (Op.call { callee := (Callee.value (Operand.func 72)), args := #[(Operand.tmp 7), (Operand.const (Value.int IntKind.i64 0)), (Operand.tmp 8), (Operand.tmp 11), (Operand.tmp 12)], argTypes := #[49, 3, 3, 3, 122] }), none, ann0⟩] none))⟩
theorem F59 (z : Nat) : FOk Try.prog 59 (s59 z) := by unfold FOk; kernel_rfl
def s60 (z : Nat) : SFn := ⟨3, 21, [(ResultVar.tmp 5)],
 (.seq (.reg [⟨(some 3), (Op.box 38 (Operand.tmp 0)), none, ⟨1, false, false⟩⟩,
  ⟨(some 4), (Op.box 38 (Operand.tmp 1)), none, ⟨1, false, false⟩⟩,
  ⟨(some 5), (Op.assign (Operand.const (Value.int IntKind.i64 0))), none, ann0⟩] none)
 (.seq (.reg [⟨(some 6), (Op.load 27 (Operand.tmp 2)), none, ann0⟩,
  ⟨(some 7), (Op.nilCheck (Operand.tmp 6)), none, ann0⟩,
  ⟨(some 8), (Op.fieldAddr 79 (Operand.tmp 7) 1), none, ann0⟩,
  ⟨(some 9), (Op.load 76 (Operand.tmp 8)), none, ann0⟩,
  ⟨(some 10), (Op.load 38 (Operand.tmp 3)), none, ann0⟩,
  ⟨(some 11), (Op.lookup 76 (Operand.tmp 9) (Operand.tmp 10) false), none, ann0⟩,
  ⟨(some 12), (Op.field 81 (Operand.tmp 11) 1), none, ann0⟩,
  ⟨(some 13), (Op.load 27 (Operand.tmp 2)), none, ann0⟩,
  ⟨(some 14), (Op.nilCheck (Operand.tmp 13)), none, ann0⟩,
  ⟨(some 15), (Op.fieldAddr 79 (Operand.tmp 14) 1), none, ann0⟩,
  ⟨(some 16), (Op.load 76 (Operand.tmp 15)), none, ann0⟩,
  ⟨(some 17), (Op.load 38 (Operand.tmp 4)), none, ann0⟩,
  ⟨(some 18), (Op.lookup 76 (Operand.tmp 16) (Operand.tmp 17) false), none, ann0⟩,
  ⟨(some 19), (Op.field 81 (Operand.tmp 18) 1), none, ann0⟩,
  ⟨(some 20), (Op.call { callee := (Callee.value (Operand.func 41)), args := #[(Operand.tmp 12), (Operand.tmp 19)], argTypes := #[3, 3] }), none, ann0⟩,
  ⟨(some 5), (Op.assign (Operand.tmp 20)), none, ann0⟩] (some [0, 1, 3, 7, 0, 31, 63, 0, 128, 384, 896, 0, 3968, 8064, 16383, 32767]))
 .ret))⟩
theorem F60 (z : Nat) : FOk Try.prog 60 (s60 z) := by unfold FOk; kernel_rfl
def c61_1 (z : Nat) : SC := .post (.block 1 (.seq (.reg [⟨(some 21), (Op.move (Operand.tmp 2)), none, ann0⟩,
  ⟨(some 22), (Op.move (Operand.tmp 1)), none, ann0⟩,
  ⟨(some 23), (Op.binOp BinOp.sub 3 (Operand.tmp 21) (Operand.tmp 22) 3), none, ann0⟩,
  ⟨(some 12), (Op.assign (Operand.tmp 23)), none, ann0⟩] none)
 (.seq (.post (.seq (.reg [⟨(some 24), (Op.move (Operand.tmp 12)), none, ann0⟩,
  ⟨(some 25), (Op.binOp BinOp.leq 3 (Operand.tmp 24) (Operand.const (Value.int IntKind.i64 12)) 3), none, ann0⟩] none)
 (.cond (Operand.tmp 25) (.seq (.reg [⟨(some 26), (Op.move (Operand.tmp 0)), none, ann0⟩,
  ⟨(some 27), (Op.move (Operand.tmp 1)), none, ann0⟩,
  ⟨(some 28), (Op.move (Operand.tmp 2)), none, ann0⟩,
  ⟨(some 29), (Op.move (Operand.tmp 4)), none, ann0⟩,
  ⟨(some 30), (Op.call { callee := (Callee.value (Operand.func 73)), args := #[(Operand.tmp 26), (Operand.tmp 27), (Operand.tmp 28), (Operand.tmp 29)], argTypes := #[51, 3, 3, 97] }), none, ann0⟩] none)
 .ret)
 .skip)) (.tidy [0, 1, 2, 3, 4, 10, 11, 12] z (z + 0)))
 (.seq (.post (.seq (.reg [⟨(some 31), (Op.move (Operand.tmp 3)), none, ann0⟩,
  ⟨(some 32), (Op.binOp BinOp.eql 3 (Operand.tmp 31) (Operand.const (Value.int IntKind.i64 0)) 3), none, ann0⟩] none)
 (.cond (Operand.tmp 32) (.seq (.reg [⟨(some 33), (Op.move (Operand.tmp 0)), none, ann0⟩,
  ⟨(some 34), (Op.move (Operand.tmp 1)), none, ann0⟩,
  ⟨(some 35), (Op.move (Operand.tmp 2)), none, ann0⟩,
  ⟨(some 36), (Op.move (Operand.tmp 4)), none, ann0⟩,
  ⟨(some 37), (Op.call { callee := (Callee.value (Operand.func 74)), args := #[(Operand.tmp 33), (Operand.tmp 34), (Operand.tmp 35), (Operand.tmp 36)], argTypes := #[51, 3, 3, 97] }), none, ann0⟩] none)
 .ret)
 .skip)) (.tidy [0, 1, 2, 3, 4, 10, 11, 12] z (z + 0)))
 (.seq (.post (.seq (.reg [⟨(some 38), (Op.move (Operand.tmp 10)), none, ann0⟩,
  ⟨(some 39), (Op.unOp UnOp.not 4 (Operand.tmp 38)), none, ann0⟩] none)
 (.cond (Operand.tmp 39) (.seq (.post (.reg [⟨(some 40), (Op.move (Operand.tmp 0)), none, ann0⟩,
  ⟨(some 41), (Op.move (Operand.tmp 1)), none, ann0⟩,
  ⟨(some 42), (Op.move (Operand.tmp 2)), none, ann0⟩,
  ⟨(some 43), (Op.move (Operand.tmp 4)), none, ann0⟩,
  ⟨(some 44), (Op.call { callee := (Callee.value (Operand.func 75)), args := #[(Operand.tmp 40), (Operand.tmp 41), (Operand.tmp 42), (Operand.tmp 43)], argTypes := #[51, 3, 3, 97] }), none, ann0⟩] none) (.tidy [0, 1, 2, 3, 4, 10, 11, 12] z (z + 0)))
 (.reg [⟨(some 45), (Op.move (Operand.tmp 3)), none, ann0⟩,
  ⟨(some 46), (Op.binOp BinOp.sub 3 (Operand.tmp 45) (Operand.const (Value.int IntKind.i64 1)) 3), none, ann0⟩,
  ⟨(some 3), (Op.assign (Operand.tmp 46)), none, ann0⟩] none))
 .skip)) (.tidy [0, 1, 2, 3, 4, 10, 11, 12] z (z + 0)))
 (.seq (.post (.reg [⟨(some 48), (Op.move (Operand.tmp 0)), none, ann0⟩,
  ⟨(some 49), (Op.move (Operand.tmp 1)), none, ann0⟩,
  ⟨(some 50), (Op.move (Operand.tmp 2)), none, ann0⟩,
  ⟨(some 51), (Op.move (Operand.tmp 4)), none, ann0⟩,
  ⟨(some 52), (Op.call { callee := (Callee.value (Operand.func 76)), args := #[(Operand.tmp 48), (Operand.tmp 49), (Operand.tmp 50), (Operand.tmp 51)], argTypes := #[51, 3, 3, 97] }), none, ann0⟩,
  ⟨(some 47), (Op.move (Operand.tmp 52)), none, ann0⟩,
  ⟨(some 53), (Op.extract (Operand.tmp 47) 0), none, ann0⟩,
  ⟨(some 54), (Op.extract (Operand.tmp 47) 1), none, ann0⟩,
  ⟨(some 13), (Op.assign (Operand.tmp 53)), none, ann0⟩,
  ⟨(some 14), (Op.assign (Operand.tmp 54)), none, ann0⟩] none) (.tidy [0, 1, 2, 3, 4, 10, 11, 12, 13, 14] z (z + 0)))
 (.seq (.post (.seq (.reg [⟨(some 55), (Op.move (Operand.tmp 14)), none, ann0⟩,
  ⟨(some 56), (Op.binOp BinOp.eql 140 (Operand.tmp 55) (Operand.const (Value.int IntKind.i64 2)) 140), none, ann0⟩] none)
 (.cond (Operand.tmp 56) (.seq (.post (.reg [⟨(some 57), (Op.move (Operand.tmp 0)), none, ann0⟩,
  ⟨(some 58), (Op.move (Operand.tmp 1)), none, ann0⟩,
  ⟨(some 59), (Op.move (Operand.tmp 2)), none, ann0⟩,
  ⟨(some 60), (Op.move (Operand.tmp 4)), none, ann0⟩,
  ⟨(some 61), (Op.call { callee := (Callee.value (Operand.func 77)), args := #[(Operand.tmp 57), (Operand.tmp 58), (Operand.tmp 59), (Operand.tmp 60)], argTypes := #[51, 3, 3, 97] }), none, ann0⟩] none) (.tidy [0, 1, 2, 3, 4, 10, 11, 12, 13] z (z + 0)))
 (.seq (.post (.reg [⟨(some 62), (Op.move (Operand.tmp 2)), none, ann0⟩,
  ⟨(some 63), (Op.binOp BinOp.sub 3 (Operand.tmp 62) (Operand.const (Value.int IntKind.i64 1)) 3), none, ann0⟩,
  ⟨(some 64), (Op.move (Operand.tmp 13)), none, ann0⟩,
  ⟨(some 65), (Op.move (Operand.tmp 1)), none, ann0⟩,
  ⟨(some 66), (Op.binOp BinOp.sub 3 (Operand.tmp 64) (Operand.tmp 65) 3), none, ann0⟩,
  ⟨(some 67), (Op.binOp BinOp.sub 3 (Operand.tmp 63) (Operand.tmp 66) 3), none, ann0⟩,
  ⟨(some 13), (Op.assign (Operand.tmp 67)), none, ann0⟩] none) (.tidy [0, 1, 2, 3, 4, 10, 11, 12, 13] z (z + 0)))
 (.reg [⟨(some 14), (Op.assign (Operand.const (Value.int IntKind.i64 1))), none, ann0⟩] none)))
 .skip)) (.tidy [0, 1, 2, 3, 4, 10, 11, 12, 13, 14] z (z + 0)))
 (.seq (.post (.seq (.post (.reg [⟨(some 68), (Op.move (Operand.tmp 10)), none, ann0⟩,
  ⟨(some 69), (Op.move (Operand.tmp 68)), none, ann0⟩,
  ⟨(some 70), (Op.move (Operand.tmp 11)), (some (69, true)), ann0⟩,
  ⟨(some 71), (Op.pick (Operand.tmp 69) (Operand.tmp 70) (Operand.const (Value.bool false))), none, ann0⟩,
  ⟨(some 72), (Op.move (Operand.tmp 71)), none, ann0⟩,
  ⟨(some 73), (Op.move (Operand.tmp 14)), (some (72, true)), ann0⟩,
  ⟨(some 74), (Op.binOp BinOp.eql 140 (Operand.tmp 73) (Operand.const (Value.int IntKind.i64 1)) 140), (some (72, true)), ann0⟩,
  ⟨(some 75), (Op.pick (Operand.tmp 72) (Operand.tmp 74) (Operand.const (Value.bool false))), none, ann0⟩] none) (.tidy [0, 1, 2, 3, 4, 10, 11, 12, 13, 75] z (z + 0)))
 (.cond (Operand.tmp 75) (.seq (.reg [⟨(some 76), (Op.move (Operand.tmp 0)), none, ann0⟩,
  ⟨(some 77), (Op.move (Operand.tmp 1)), none, ann0⟩,
  ⟨(some 78), (Op.move (Operand.tmp 2)), none, ann0⟩,
  ⟨(some 79), (Op.move (Operand.tmp 4)), none, ann0⟩,
  ⟨(some 80), (Op.call { callee := (Callee.value (Operand.func 78)), args := #[(Operand.tmp 76), (Operand.tmp 77), (Operand.tmp 78), (Operand.tmp 79)], argTypes := #[51, 3, 3, 97] }), none, ann0⟩] none)
 (.cond (Operand.tmp 80) .ret
 .skip))
 .skip)) (.tidy [0, 1, 2, 3, 4, 10, 11, 12, 13] z (z + 0)))
 (.seq (.post (.seq (.post (.reg [⟨(some 81), (Op.move (Operand.tmp 1)), none, ann0⟩,
  ⟨(some 82), (Op.binOp BinOp.gtr 3 (Operand.tmp 81) (Operand.const (Value.int IntKind.i64 0)) 3), none, ann0⟩,
  ⟨(some 83), (Op.move (Operand.tmp 82)), none, ann0⟩,
  ⟨(some 84), (Op.move (Operand.tmp 4)), (some (83, true)), ann0⟩,
  ⟨(some 85), (Op.move (Operand.tmp 0)), (some (83, true)), ann0⟩,
  ⟨(some 86), (Op.move (Operand.tmp 1)), (some (83, true)), ann0⟩,
  ⟨(some 87), (Op.binOp BinOp.sub 3 (Operand.tmp 86) (Operand.const (Value.int IntKind.i64 1)) 3), (some (83, true)), ann0⟩,
  ⟨(some 88), (Op.indexAddr 51 (Operand.tmp 85) (Operand.tmp 87)), (some (83, true)), ann0⟩,
  ⟨(some 89), (Op.load 40 (Operand.tmp 88)), (some (83, true)), ann0⟩,
  ⟨(some 90), (Op.move (Operand.tmp 0)), (some (83, true)), ann0⟩,
  ⟨(some 91), (Op.move (Operand.tmp 13)), (some (83, true)), ann0⟩,
  ⟨(some 92), (Op.indexAddr 51 (Operand.tmp 90) (Operand.tmp 91)), (some (83, true)), ann0⟩,
  ⟨(some 93), (Op.load 40 (Operand.tmp 92)), (some (83, true)), ann0⟩,
  ⟨(some 94), (Op.call { callee := (Callee.value (Operand.tmp 84)), args := #[(Operand.tmp 89), (Operand.tmp 93)], argTypes := #[40, 40] }), (some (83, true)), ann0⟩,
  ⟨(some 95), (Op.binOp BinOp.lss 3 (Operand.tmp 94) (Operand.const (Value.int IntKind.i64 0)) 3), (some (83, true)), ann0⟩,
  ⟨(some 96), (Op.unOp UnOp.not 4 (Operand.tmp 95)), (some (83, true)), ann0⟩,
  ⟨(some 97), (Op.pick (Operand.tmp 83) (Operand.tmp 96) (Operand.const (Value.bool false))), none, ann0⟩] (some [0, 1, 3, 7, 7, 7, 39, 119, 247, 7, 7, 1543, 3591, 8191, 16383, 32767, 65535])) (.tidy [0, 1, 2, 3, 4, 10, 11, 12, 13, 97] z (z + 0)))
 (.cond (Operand.tmp 97) (.seq (.post (.reg [⟨(some 98), (Op.move (Operand.tmp 0)), none, ann0⟩,
  ⟨(some 99), (Op.move (Operand.tmp 1)), none, ann0⟩,
  ⟨(some 100), (Op.move (Operand.tmp 2)), none, ann0⟩,
  ⟨(some 101), (Op.move (Operand.tmp 13)), none, ann0⟩,
  ⟨(some 102), (Op.move (Operand.tmp 4)), none, ann0⟩,
  ⟨(some 103), (Op.call { callee := (Callee.value (Operand.func 79)), args := #[(Operand.tmp 98), (Operand.tmp 99), (Operand.tmp 100), (Operand.tmp 101), (Operand.tmp 102)], argTypes := #[51, 3, 3, 3, 97] }), none, ann0⟩,
  ⟨(some 15), (Op.assign (Operand.tmp 103)), none, ann0⟩] none) (.tidy [0, 2, 3, 4, 10, 11, 15] z (z + 0)))
 (.seq (.reg [⟨(some 104), (Op.move (Operand.tmp 15)), none, ann0⟩,
  ⟨(some 1), (Op.assign (Operand.tmp 104)), none, ann0⟩] none)
 (.exit 1)))
 .skip)) (.tidy [0, 1, 2, 3, 4, 12, 13] z (z + 0)))
 (.seq (.post (.reg [⟨(some 106), (Op.move (Operand.tmp 0)), none, ann0⟩,
  ⟨(some 107), (Op.move (Operand.tmp 1)), none, ann0⟩,
  ⟨(some 108), (Op.move (Operand.tmp 2)), none, ann0⟩,
  ⟨(some 109), (Op.move (Operand.tmp 13)), none, ann0⟩,
  ⟨(some 110), (Op.move (Operand.tmp 4)), none, ann0⟩,
  ⟨(some 111), (Op.call { callee := (Callee.value (Operand.func 80)), args := #[(Operand.tmp 106), (Operand.tmp 107), (Operand.tmp 108), (Operand.tmp 109), (Operand.tmp 110)], argTypes := #[51, 3, 3, 3, 97] }), none, ann0⟩,
  ⟨(some 105), (Op.move (Operand.tmp 111)), none, ann0⟩,
  ⟨(some 112), (Op.extract (Operand.tmp 105) 0), none, ann0⟩,
  ⟨(some 113), (Op.extract (Operand.tmp 105) 1), none, ann0⟩,
  ⟨(some 16), (Op.assign (Operand.tmp 112)), none, ann0⟩,
  ⟨(some 17), (Op.assign (Operand.tmp 113)), none, ann0⟩] none) (.tidy [0, 1, 2, 3, 4, 12, 16, 17] z (z + 0)))
 (.seq (.reg [⟨(some 114), (Op.move (Operand.tmp 17)), none, ann0⟩,
  ⟨(some 11), (Op.assign (Operand.tmp 114)), none, ann0⟩] none)
 (.seq (.post (.reg [⟨(some 115), (Op.move (Operand.tmp 16)), none, ann0⟩,
  ⟨(some 116), (Op.move (Operand.tmp 1)), none, ann0⟩,
  ⟨(some 117), (Op.binOp BinOp.sub 3 (Operand.tmp 115) (Operand.tmp 116) 3), none, ann0⟩,
  ⟨(some 118), (Op.move (Operand.tmp 2)), none, ann0⟩,
  ⟨(some 119), (Op.move (Operand.tmp 16)), none, ann0⟩,
  ⟨(some 120), (Op.binOp BinOp.sub 3 (Operand.tmp 118) (Operand.tmp 119) 3), none, ann0⟩,
  ⟨(some 18), (Op.assign (Operand.tmp 117)), none, ann0⟩,
  ⟨(some 19), (Op.assign (Operand.tmp 120)), none, ann0⟩] none) (.tidy [0, 1, 2, 3, 4, 11, 12, 16, 18, 19] z (z + 0)))
 (.seq (.reg [⟨(some 121), (Op.move (Operand.tmp 12)), none, ann0⟩,
  ⟨(some 122), (Op.binOp BinOp.quo 3 (Operand.tmp 121) (Operand.const (Value.int IntKind.i64 8)) 3), none, ann0⟩,
  ⟨(some 20), (Op.assign (Operand.tmp 122)), none, ann0⟩] none)
 (.seq (.reg [⟨(some 123), (Op.move (Operand.tmp 18)), none, ann0⟩,
  ⟨(some 124), (Op.move (Operand.tmp 19)), none, ann0⟩,
  ⟨(some 125), (Op.binOp BinOp.lss 3 (Operand.tmp 123) (Operand.tmp 124) 3), none, ann0⟩] none)
 (.cond (Operand.tmp 125) (.seq (.post (.reg [⟨(some 126), (Op.move (Operand.tmp 18)), none, ann0⟩,
  ⟨(some 127), (Op.move (Operand.tmp 20)), none, ann0⟩,
  ⟨(some 128), (Op.binOp BinOp.geq 3 (Operand.tmp 126) (Operand.tmp 127) 3), none, ann0⟩,
  ⟨(some 10), (Op.assign (Operand.tmp 128)), none, ann0⟩] none) (.tidy [0, 1, 2, 3, 4, 10, 11, 16] z (z + 0)))
 (.seq (.post (.reg [⟨(some 129), (Op.move (Operand.tmp 0)), none, ann0⟩,
  ⟨(some 130), (Op.move (Operand.tmp 1)), none, ann0⟩,
  ⟨(some 131), (Op.move (Operand.tmp 16)), none, ann0⟩,
  ⟨(some 132), (Op.move (Operand.tmp 3)), none, ann0⟩,
  ⟨(some 133), (Op.move (Operand.tmp 4)), none, ann0⟩,
  ⟨(some 134), (Op.call { callee := (Callee.value (Operand.func 61)), args := #[(Operand.tmp 129), (Operand.tmp 130), (Operand.tmp 131), (Operand.tmp 132), (Operand.tmp 133)], argTypes := #[51, 3, 3, 3, 97] }), none, ann0⟩] none) (.tidy [0, 2, 3, 4, 10, 11, 16] z (z + 0)))
 (.reg [⟨(some 135), (Op.move (Operand.tmp 16)), none, ann0⟩,
  ⟨(some 136), (Op.binOp BinOp.add 3 (Operand.tmp 135) (Operand.const (Value.int IntKind.i64 1)) 3), none, ann0⟩,
  ⟨(some 1), (Op.assign (Operand.tmp 136)), none, ann0⟩] none)))
 (.seq (.reg [⟨(some 137), (Op.move (Operand.tmp 19)), none, ann0⟩,
  ⟨(some 138), (Op.move (Operand.tmp 20)), none, ann0⟩,
  ⟨(some 139), (Op.binOp BinOp.geq 3 (Operand.tmp 137) (Operand.tmp 138) 3), none, ann0⟩,
  ⟨(some 10), (Op.assign (Operand.tmp 139)), none, ann0⟩] none)
 (.seq (.post (.reg [⟨(some 140), (Op.move (Operand.tmp 0)), none, ann0⟩,
  ⟨(some 141), (Op.move (Operand.tmp 16)), none, ann0⟩,
  ⟨(some 142), (Op.binOp BinOp.add 3 (Operand.tmp 141) (Operand.const (Value.int IntKind.i64 1)) 3), none, ann0⟩,
  ⟨(some 143), (Op.move (Operand.tmp 2)), none, ann0⟩,
  ⟨(some 144), (Op.move (Operand.tmp 3)), none, ann0⟩,
  ⟨(some 145), (Op.move (Operand.tmp 4)), none, ann0⟩,
  ⟨(some 146), (Op.call { callee := (Callee.value (Operand.func 61)), args := #[(Operand.tmp 140), (Operand.tmp 142), (Operand.tmp 143), (Operand.tmp 144), (Operand.tmp 145)], argTypes := #[51, 3, 3, 3, 97] }), none, ann0⟩] none) (.tidy [0, 1, 3, 4, 10, 11, 16] z (z + 0)))
 (.reg [⟨(some 147), (Op.move (Operand.tmp 16)), none, ann0⟩,
  ⟨(some 2), (Op.assign (Operand.tmp 147)), none, ann0⟩] none)))))))))))))))))) (.tidy [0, 1, 2, 3, 4, 10, 11] z (z + 0))
def s61_1 (z : Nat) : SC := c61_1 z
theorem e61_1 {C : Pg} {z : Nat} {st : St} {ks : List Fr} {K : Ex → St → Prop} : wpk C (s61_1 z) st ks K ↔ wpk C (c61_1 z) st ks K := Iff.rfl
def s61 (z : Nat) : SFn := ⟨5, 148, [],
 (.seq (.reg [⟨(some 10), (Op.assign (Operand.const (Value.bool true))), none, ann0⟩] none)
 (.seq (.reg [⟨(some 11), (Op.assign (Operand.const (Value.bool true))), none, ann0⟩] none)
 (.post (.block 0 (.pre (.tidy [0, 1, 2, 3, 4, 10, 11] z (z + 0)) (.loop (s61_1 z)))) (.tidy [] z (z + 0)))))⟩
theorem F61 (z : Nat) : FOk Try.prog 61 (s61 z) := by unfold FOk; kernel_rfl
def s62 (z : Nat) : SFn := ⟨1, 8, [(ResultVar.tmp 2)],
 (.seq (.reg [⟨(some 2), (Op.assign (Operand.const (Value.int IntKind.i64 0))), none, ann0⟩] none)
 (.seq (.post (.cond (Operand.const (Value.bool false)) (.seq (.reg [⟨(some 3), (Op.move (Operand.tmp 0)), none, ann0⟩,
  ⟨(some 4), (Op.convert 125 148 (Operand.tmp 3)), none, ann0⟩,
  ⟨(some 5), (Op.call { callee := (Callee.value (Operand.func 81)), args := #[(Operand.tmp 4)], argTypes := #[148] }), none, ann0⟩,
  ⟨(some 2), (Op.assign (Operand.tmp 5)), none, ann0⟩] none)
 .ret)
 .skip) (.tidy [0] z (z + 0)))
 (.seq (.reg [⟨(some 6), (Op.move (Operand.tmp 0)), none, ann0⟩,
  ⟨(some 7), (Op.call { callee := (Callee.value (Operand.func 82)), args := #[(Operand.tmp 6)], argTypes := #[150] }), none, ann0⟩,
  ⟨(some 2), (Op.assign (Operand.tmp 7)), none, ann0⟩] none)
 .ret)))⟩
theorem F62 (z : Nat) : FOk Try.prog 62 (s62 z) := by unfold FOk; kernel_rfl
def s63 (z : Nat) : SFn := ⟨1, 6, [(ResultVar.tmp 2)],
 (.seq (.reg [⟨(some 2), (Op.assign (Operand.const (Value.bool false))), none, ann0⟩] none)
 (.seq (.reg [⟨(some 3), (Op.move (Operand.tmp 0)), none, ann0⟩,
  ⟨(some 4), (Op.move (Operand.tmp 0)), none, ann0⟩,
  ⟨(some 5), (Op.binOp BinOp.neq 3 (Operand.tmp 3) (Operand.tmp 4) 3), none, ann0⟩,
  ⟨(some 2), (Op.assign (Operand.tmp 5)), none, ann0⟩] none)
 .ret))⟩
theorem F63 (z : Nat) : FOk Try.prog 63 (s63 z) := by unfold FOk; kernel_rfl
def c65_1 (z : Nat) : SC := .post (.seq (.reg [⟨(some 9), (Op.binOp BinOp.lss 3 (Operand.tmp 8) (Operand.tmp 7) 3), none, ann0⟩] none)
 (.seq (.cond (Operand.tmp 9) .skip
 (.exit 0))
 (.seq (.post (.block 1 (.seq (.reg [⟨(some 10), (Op.move (Operand.tmp 8)), none, ann0⟩,
  ⟨(some 5), (Op.assign (Operand.tmp 10)), none, ann0⟩] none)
 (.seq (.post (.reg [⟨(some 11), (Op.move (Operand.tmp 1)), none, ann0⟩,
  ⟨(some 12), (Op.move (Operand.tmp 0)), none, ann0⟩,
  ⟨(some 13), (Op.move (Operand.tmp 5)), none, ann0⟩,
  ⟨(some 14), (Op.indexAddr 51 (Operand.tmp 12) (Operand.tmp 13)), none, ann0⟩,
  ⟨(some 15), (Op.load 40 (Operand.tmp 14)), none, ann0⟩,
  ⟨(some 16), (Op.call { callee := (Callee.value (Operand.tmp 11)), args := #[(Operand.tmp 15)], argTypes := #[40] }), none, ann0⟩] none) (.tidy [0, 1, 5, 7, 8, 16] z (z + 0)))
 (.cond (Operand.tmp 16) (.seq (.reg [⟨(some 17), (Op.move (Operand.tmp 5)), none, ann0⟩,
  ⟨(some 4), (Op.assign (Operand.tmp 17)), none, ann0⟩] none)
 .ret)
 .skip)))) (.tidy [0, 1, 7, 8] z (z + 0)))
 (.reg [⟨(some 18), (Op.binOp BinOp.add 3 (Operand.tmp 8) (Operand.const (Value.int IntKind.i64 1)) 3), none, ann0⟩,
  ⟨(some 8), (Op.move (Operand.tmp 18)), none, ann0⟩] none)))) (.tidy [0, 1, 7, 8] z (z + 0))
def s65_1 (z : Nat) : SC := c65_1 z
theorem e65_1 {C : Pg} {z : Nat} {st : St} {ks : List Fr} {K : Ex → St → Prop} : wpk C (s65_1 z) st ks K ↔ wpk C (c65_1 z) st ks K := Iff.rfl
def s65 (z : Nat) : SFn := ⟨2, 19, [(ResultVar.tmp 4)],
 (.seq (.reg [⟨(some 4), (Op.assign (Operand.const (Value.int IntKind.i64 0))), none, ann0⟩] none)
 (.seq (.post (.seq (.reg [⟨(some 6), (Op.move (Operand.tmp 0)), none, ann0⟩,
  ⟨(some 7), (Op.call { callee := (Callee.builtin Builtin.len), args := #[(Operand.tmp 6)], argTypes := #[51] }), none, ann0⟩,
  ⟨(some 8), (Op.move (Operand.const (Value.int IntKind.i64 0))), none, ann0⟩] none)
 (.post (.block 0 (.pre (.tidy [0, 1, 7, 8] z (z + 0)) (.loop (s65_1 z)))) (.tidy [] z (z + 0)))) (.tidy [] z (z + 0)))
 (.seq (.reg [⟨(some 4), (Op.assign (Operand.const (Value.int IntKind.i64 (-1)))), none, ann0⟩] none)
 .ret)))⟩
theorem F65 (z : Nat) : FOk Try.prog 65 (s65 z) := by unfold FOk; kernel_rfl
def c66_1 (z : Nat) : SC := .post (.seq (.reg [⟨(some 9), (Op.binOp BinOp.lss 3 (Operand.tmp 8) (Operand.tmp 7) 3), none, ann0⟩] none)
 (.seq (.cond (Operand.tmp 9) .skip
 (.exit 0))
 (.seq (.post (.block 1 (.seq (.reg [⟨(some 10), (Op.indexAddr 151 (Operand.tmp 6) (Operand.tmp 8)), none, ann0⟩,
  ⟨(some 11), (Op.load 3 (Operand.tmp 10)), none, ann0⟩,
  ⟨(some 5), (Op.assign (Operand.tmp 11)), none, ann0⟩] none)
 (.reg [⟨(some 12), (Op.move (Operand.tmp 0)), none, ann0⟩,
  ⟨(some 13), (Op.move (Operand.tmp 5)), none, ann0⟩,
  ⟨(some 14), (Op.call { callee := (Callee.value (Operand.func 83)), args := #[(Operand.tmp 12), (Operand.tmp 13)], argTypes := #[133, 3] }), none, ann0⟩] none))) (.tidy [0, 6, 7, 8] z (z + 0)))
 (.reg [⟨(some 15), (Op.binOp BinOp.add 3 (Operand.tmp 8) (Operand.const (Value.int IntKind.i64 1)) 3), none, ann0⟩,
  ⟨(some 8), (Op.move (Operand.tmp 15)), none, ann0⟩] none)))) (.tidy [0, 6, 7, 8] z (z + 0))
def s66_1 (z : Nat) : SC := c66_1 z
theorem e66_1 {C : Pg} {z : Nat} {st : St} {ks : List Fr} {K : Ex → St → Prop} : wpk C (s66_1 z) st ks K ↔ wpk C (c66_1 z) st ks K := Iff.rfl
def s66 (z : Nat) : SFn := ⟨2, 16, [],
 (.seq (.reg [⟨(some 6), (Op.move (Operand.tmp 1)), none, ann0⟩,
  ⟨(some 7), (Op.call { callee := (Callee.builtin Builtin.len), args := #[(Operand.tmp 6)], argTypes := #[151] }), none, ann0⟩,
  ⟨(some 8), (Op.move (Operand.const (Value.int IntKind.i64 0))), none, ann0⟩] none)
 (.post (.block 0 (.pre (.tidy [0, 6, 7, 8] z (z + 0)) (.loop (s66_1 z)))) (.tidy [] z (z + 0))))⟩
theorem F66 (z : Nat) : FOk Try.prog 66 (s66 z) := by unfold FOk; kernel_rfl
def c67_1 (z : Nat) : SC := .post (.seq (.reg [⟨(some 15), (Op.binOp BinOp.lss 3 (Operand.tmp 14) (Operand.tmp 13) 3), none, ann0⟩] none)
 (.seq (.cond (Operand.tmp 15) .skip
 (.exit 0))
 (.seq (.post (.block 1 (.seq (.post (.reg [⟨(some 16), (Op.indexAddr 22 (Operand.tmp 12) (Operand.tmp 14)), none, ann0⟩,
  ⟨(some 17), (Op.load 92 (Operand.tmp 16)), none, ann0⟩,
  ⟨(some 7), (Op.alloc 92), none, ⟨1, false, false⟩⟩,
  ⟨none, (Op.store 92 (Operand.tmp 7) (Operand.tmp 17)), none, ann0⟩] none) (.tidy [2, 7, 12, 13, 14] z (z + 1)))
 (.reg [⟨(some 18), (Op.move (Operand.tmp 2)), none, ann0⟩,
  ⟨(some 19), (Op.load 92 (Operand.tmp 7)), none, ann0⟩,
  ⟨(some 20), (Op.call { callee := (Callee.value (Operand.tmp 18)), args := #[(Operand.tmp 19)], argTypes := #[92] }), none, ann0⟩] none))) (.tidy [2, 12, 13, 14] z (z + 1)))
 (.reg [⟨(some 21), (Op.binOp BinOp.add 3 (Operand.tmp 14) (Operand.const (Value.int IntKind.i64 1)) 3), none, ann0⟩,
  ⟨(some 14), (Op.move (Operand.tmp 21)), none, ann0⟩] none)))) (.tidy [2, 12, 13, 14] z (z + 0))
def s67_1 (z : Nat) : SC := c67_1 z
theorem e67_1 {C : Pg} {z : Nat} {st : St} {ks : List Fr} {K : Ex → St → Prop} : wpk C (s67_1 z) st ks K ↔ wpk C (c67_1 z) st ks K := Iff.rfl
def s67 (z : Nat) : SFn := ⟨3, 22, [],
 (.seq (.reg [⟨(some 8), (Op.move (Operand.tmp 0)), none, ann0⟩,
  ⟨(some 9), (Op.move (Operand.tmp 1)), none, ann0⟩,
  ⟨(some 10), (Op.call { callee := (Callee.builtin Builtin.len), args := #[(Operand.tmp 9)], argTypes := #[22] }), none, ann0⟩,
  ⟨(some 11), (Op.call { callee := (Callee.value (Operand.func 83)), args := #[(Operand.tmp 8), (Operand.tmp 10)], argTypes := #[133, 3] }), none, ann0⟩] none)
 (.seq (.reg [⟨(some 12), (Op.move (Operand.tmp 1)), none, ann0⟩,
  ⟨(some 13), (Op.call { callee := (Callee.builtin Builtin.len), args := #[(Operand.tmp 12)], argTypes := #[22] }), none, ann0⟩,
  ⟨(some 14), (Op.move (Operand.const (Value.int IntKind.i64 0))), none, ann0⟩] none)
 (.post (.block 0 (.pre (.tidy [2, 12, 13, 14] z (z + 0)) (.loop (s67_1 z)))) (.tidy [] z (z + 0)))))⟩
theorem F67 (z : Nat) : FOk Try.prog 67 (s67 z) := by unfold FOk; kernel_rfl
def s68 (z : Nat) : SFn := ⟨2, 54, [],
 (.seq (.reg [⟨(some 3), (Op.box 92 (Operand.tmp 1)), none, ⟨1, false, false⟩⟩] none)
 (.seq (.post (.reg [⟨(some 4), (Op.move (Operand.tmp 0)), none, ann0⟩,
  ⟨(some 5), (Op.fieldAddr 92 (Operand.tmp 3) 0), none, ann0⟩,
  ⟨(some 6), (Op.load 3 (Operand.tmp 5)), none, ann0⟩,
  ⟨(some 7), (Op.fieldAddr 92 (Operand.tmp 3) 1), none, ann0⟩,
  ⟨(some 8), (Op.load 3 (Operand.tmp 7)), none, ann0⟩,
  ⟨(some 9), (Op.fieldAddr 92 (Operand.tmp 3) 2), none, ann0⟩,
  ⟨(some 10), (Op.load 3 (Operand.tmp 9)), none, ann0⟩,
  ⟨(some 11), (Op.fieldAddr 92 (Operand.tmp 3) 3), none, ann0⟩,
  ⟨(some 12), (Op.load 3 (Operand.tmp 11)), none, ann0⟩,
  ⟨(some 13), (Op.fieldAddr 92 (Operand.tmp 3) 4), none, ann0⟩,
  ⟨(some 14), (Op.load 3 (Operand.tmp 13)), none, ann0⟩,
  ⟨(some 15), (Op.fieldAddr 92 (Operand.tmp 3) 5), none, ann0⟩,
  ⟨(some 16), (Op.load 3 (Operand.tmp 15)), none, ann0⟩,
  ⟨(some 17), (Op.buildSlice 151 6 #[(0, (Operand.tmp 6)), (1, (Operand.tmp 8)), (2, (Operand.tmp 10)), (3, (Operand.tmp 12)), (4, (Operand.tmp 14)), (5, (Operand.tmp 16))]), none, ⟨1, true, false⟩⟩,
  ⟨(some 18), (Op.call { callee := (Callee.value (Operand.func 66)), args := #[(Operand.tmp 4), (Operand.tmp 17)], argTypes := #[133, 151] }), none, ann0⟩] none) (.tidy [0, 3] z (z + 2)))
 (.seq (.reg [⟨(some 19), (Op.move (Operand.tmp 0)), none, ann0⟩,
  ⟨(some 20), (Op.fieldAddr 92 (Operand.tmp 3) 6), none, ann0⟩,
  ⟨(some 21), (Op.load 9 (Operand.tmp 20)), none, ann0⟩,
  ⟨(some 22), (Op.call { callee := (Callee.value (Operand.func 84)), args := #[(Operand.tmp 19), (Operand.tmp 21)], argTypes := #[133, 9] }), none, ann0⟩] none)
 (.seq (.post (.reg [⟨(some 23), (Op.move (Operand.tmp 0)), none, ann0⟩,
  ⟨(some 24), (Op.fieldAddr 92 (Operand.tmp 3) 7), none, ann0⟩,
  ⟨(some 25), (Op.load 9 (Operand.tmp 24)), none, ann0⟩,
  ⟨(some 26), (Op.call { callee := (Callee.value (Operand.func 84)), args := #[(Operand.tmp 23), (Operand.tmp 25)], argTypes := #[133, 9] }), none, ann0⟩] none) (.tidy [0, 3] z (z + 2)))
 (.seq (.reg [⟨(some 27), (Op.move (Operand.tmp 0)), none, ann0⟩,
  ⟨(some 28), (Op.fieldAddr 92 (Operand.tmp 3) 8), none, ann0⟩,
  ⟨(some 29), (Op.load 9 (Operand.tmp 28)), none, ann0⟩,
  ⟨(some 30), (Op.call { callee := (Callee.value (Operand.func 84)), args := #[(Operand.tmp 27), (Operand.tmp 29)], argTypes := #[133, 9] }), none, ann0⟩] none)
 (.seq (.post (.reg [⟨(some 31), (Op.move (Operand.tmp 0)), none, ann0⟩,
  ⟨(some 32), (Op.fieldAddr 92 (Operand.tmp 3) 9), none, ann0⟩,
  ⟨(some 33), (Op.load 3 (Operand.tmp 32)), none, ann0⟩,
  ⟨(some 34), (Op.fieldAddr 92 (Operand.tmp 3) 10), none, ann0⟩,
  ⟨(some 35), (Op.load 3 (Operand.tmp 34)), none, ann0⟩,
  ⟨(some 36), (Op.buildSlice 151 2 #[(0, (Operand.tmp 33)), (1, (Operand.tmp 35))]), none, ⟨1, true, false⟩⟩,
  ⟨(some 37), (Op.call { callee := (Callee.value (Operand.func 66)), args := #[(Operand.tmp 31), (Operand.tmp 36)], argTypes := #[133, 151] }), none, ann0⟩] none) (.tidy [0, 3] z (z + 3)))
 (.seq (.reg [⟨(some 38), (Op.move (Operand.tmp 0)), none, ann0⟩,
  ⟨(some 39), (Op.fieldAddr 92 (Operand.tmp 3) 11), none, ann0⟩,
  ⟨(some 40), (Op.load 4 (Operand.tmp 39)), none, ann0⟩,
  ⟨(some 41), (Op.call { callee := (Callee.value (Operand.func 85)), args := #[(Operand.tmp 38), (Operand.tmp 40)], argTypes := #[133, 4] }), none, ann0⟩] none)
 (.seq (.post (.reg [⟨(some 42), (Op.move (Operand.tmp 0)), none, ann0⟩,
  ⟨(some 43), (Op.fieldAddr 92 (Operand.tmp 3) 12), none, ann0⟩,
  ⟨(some 44), (Op.load 89 (Operand.tmp 43)), none, ann0⟩,
  ⟨(some 45), (Op.move (Operand.tmp 0)), none, ann0⟩,
  ⟨(some 46), (Op.makeFunc (Fn.func 87) #[(Operand.tmp 45)] #[]), none, ann0⟩,
  ⟨(some 47), (Op.call { callee := (Callee.value (Operand.func 86)), args := #[(Operand.tmp 42), (Operand.tmp 44), (Operand.tmp 46)], argTypes := #[133, 89, 156] }), none, ann0⟩] none) (.tidy [0, 3] z (z + 3)))
 (.reg [⟨(some 48), (Op.move (Operand.tmp 0)), none, ann0⟩,
  ⟨(some 49), (Op.fieldAddr 92 (Operand.tmp 3) 13), none, ann0⟩,
  ⟨(some 50), (Op.load 90 (Operand.tmp 49)), none, ann0⟩,
  ⟨(some 51), (Op.move (Operand.tmp 0)), none, ann0⟩,
  ⟨(some 52), (Op.makeFunc (Fn.func 89) #[(Operand.tmp 51)] #[]), none, ann0⟩,
  ⟨(some 53), (Op.call { callee := (Callee.value (Operand.func 88)), args := #[(Operand.tmp 48), (Operand.tmp 50), (Operand.tmp 52)], argTypes := #[133, 90, 158] }), none, ann0⟩] none)))))))))⟩
theorem F68 (z : Nat) : FOk Try.prog 68 (s68 z) := by unfold FOk; kernel_rfl
def c69_1 (z : Nat) : SC := .post (.seq (.reg [⟨(some 15), (Op.binOp BinOp.lss 3 (Operand.tmp 14) (Operand.tmp 13) 3), none, ann0⟩] none)
 (.seq (.cond (Operand.tmp 15) .skip
 (.exit 0))
 (.seq (.post (.block 1 (.seq (.post (.reg [⟨(some 16), (Op.indexAddr 23 (Operand.tmp 12) (Operand.tmp 14)), none, ann0⟩,
  ⟨(some 17), (Op.load 87 (Operand.tmp 16)), none, ann0⟩,
  ⟨(some 7), (Op.alloc 87), none, ⟨1, false, false⟩⟩,
  ⟨none, (Op.store 87 (Operand.tmp 7) (Operand.tmp 17)), none, ann0⟩] none) (.tidy [2, 7, 12, 13, 14] z (z + 1)))
 (.reg [⟨(some 18), (Op.move (Operand.tmp 2)), none, ann0⟩,
  ⟨(some 19), (Op.load 87 (Operand.tmp 7)), none, ann0⟩,
  ⟨(some 20), (Op.call { callee := (Callee.value (Operand.tmp 18)), args := #[(Operand.tmp 19)], argTypes := #[87] }), none, ann0⟩] none))) (.tidy [2, 12, 13, 14] z (z + 1)))
 (.reg [⟨(some 21), (Op.binOp BinOp.add 3 (Operand.tmp 14) (Operand.const (Value.int IntKind.i64 1)) 3), none, ann0⟩,
  ⟨(some 14), (Op.move (Operand.tmp 21)), none, ann0⟩] none)))) (.tidy [2, 12, 13, 14] z (z + 0))
def s69_1 (z : Nat) : SC := c69_1 z
theorem e69_1 {C : Pg} {z : Nat} {st : St} {ks : List Fr} {K : Ex → St → Prop} : wpk C (s69_1 z) st ks K ↔ wpk C (c69_1 z) st ks K := Iff.rfl
def s69 (z : Nat) : SFn := ⟨3, 22, [],
 (.seq (.reg [⟨(some 8), (Op.move (Operand.tmp 0)), none, ann0⟩,
  ⟨(some 9), (Op.move (Operand.tmp 1)), none, ann0⟩,
  ⟨(some 10), (Op.call { callee := (Callee.builtin Builtin.len), args := #[(Operand.tmp 9)], argTypes := #[23] }), none, ann0⟩,
  ⟨(some 11), (Op.call { callee := (Callee.value (Operand.func 83)), args := #[(Operand.tmp 8), (Operand.tmp 10)], argTypes := #[133, 3] }), none, ann0⟩] none)
 (.seq (.reg [⟨(some 12), (Op.move (Operand.tmp 1)), none, ann0⟩,
  ⟨(some 13), (Op.call { callee := (Callee.builtin Builtin.len), args := #[(Operand.tmp 12)], argTypes := #[23] }), none, ann0⟩,
  ⟨(some 14), (Op.move (Operand.const (Value.int IntKind.i64 0))), none, ann0⟩] none)
 (.post (.block 0 (.pre (.tidy [2, 12, 13, 14] z (z + 0)) (.loop (s69_1 z)))) (.tidy [] z (z + 0)))))⟩
theorem F69 (z : Nat) : FOk Try.prog 69 (s69 z) := by unfold FOk; kernel_rfl
def s70 (z : Nat) : SFn := ⟨2, 17, [],
 (.seq (.reg [⟨(some 3), (Op.box 87 (Operand.tmp 1)), none, ⟨1, false, false⟩⟩] none)
 (.reg [⟨(some 4), (Op.move (Operand.tmp 0)), none, ann0⟩,
  ⟨(some 5), (Op.fieldAddr 87 (Operand.tmp 3) 0), none, ann0⟩,
  ⟨(some 6), (Op.load 3 (Operand.tmp 5)), none, ann0⟩,
  ⟨(some 7), (Op.fieldAddr 87 (Operand.tmp 3) 1), none, ann0⟩,
  ⟨(some 8), (Op.load 3 (Operand.tmp 7)), none, ann0⟩,
  ⟨(some 9), (Op.fieldAddr 87 (Operand.tmp 3) 2), none, ann0⟩,
  ⟨(some 10), (Op.load 3 (Operand.tmp 9)), none, ann0⟩,
  ⟨(some 11), (Op.fieldAddr 87 (Operand.tmp 3) 3), none, ann0⟩,
  ⟨(some 12), (Op.load 3 (Operand.tmp 11)), none, ann0⟩,
  ⟨(some 13), (Op.fieldAddr 87 (Operand.tmp 3) 4), none, ann0⟩,
  ⟨(some 14), (Op.load 3 (Operand.tmp 13)), none, ann0⟩,
  ⟨(some 15), (Op.buildSlice 151 5 #[(0, (Operand.tmp 6)), (1, (Operand.tmp 8)), (2, (Operand.tmp 10)), (3, (Operand.tmp 12)), (4, (Operand.tmp 14))]), none, ⟨1, true, false⟩⟩,
  ⟨(some 16), (Op.call { callee := (Callee.value (Operand.func 66)), args := #[(Operand.tmp 4), (Operand.tmp 15)], argTypes := #[133, 151] }), none, ann0⟩] none))⟩
theorem F70 (z : Nat) : FOk Try.prog 70 (s70 z) := by unfold FOk; kernel_rfl
def s71 (z : Nat) : SFn := ⟨1, 10, [(ResultVar.tmp 2)],
 (.seq (.reg [⟨(some 2), (Op.assign (Operand.const (Value.string ⟨#[]⟩))), none, ann0⟩] none)
 (.seq (.seq (.reg [⟨(some 3), (Op.move (Operand.tmp 0)), none, ann0⟩,
  ⟨(some 4), (Op.binOp BinOp.eql 133 (Operand.tmp 3) (Operand.const (Value.pointer none)) 133), none, ann0⟩] none)
 (.cond (Operand.tmp 4) (.seq (.reg [⟨(some 2), (Op.assign (Operand.const (Value.string ⟨#[]⟩))), none, ann0⟩] none)
 .ret)
 .skip))
 (.seq (.reg [⟨(some 5), (Op.move (Operand.tmp 0)), none, ann0⟩,
  ⟨(some 6), (Op.nilCheck (Operand.tmp 5)), none, ann0⟩,
  ⟨(some 7), (Op.fieldAddr 130 (Operand.tmp 6) 0), none, ann0⟩,
  ⟨(some 8), (Op.load 128 (Operand.tmp 7)), none, ann0⟩,
  ⟨(some 9), (Op.convert 128 9 (Operand.tmp 8)), none, ann0⟩,
  ⟨(some 2), (Op.assign (Operand.tmp 9)), none, ann0⟩] none)
 .ret)))⟩
theorem F71 (z : Nat) : FOk Try.prog 71 (s71 z) := by unfold FOk; kernel_rfl
def c72_1 (z : Nat) : SC := .post (.block 1 (.seq (.reg [⟨(some 21), (Op.move (Operand.tmp 2)), none, ann0⟩,
  ⟨(some 22), (Op.move (Operand.tmp 1)), none, ann0⟩,
  ⟨(some 23), (Op.binOp BinOp.sub 3 (Operand.tmp 21) (Operand.tmp 22) 3), none, ann0⟩,
  ⟨(some 12), (Op.assign (Operand.tmp 23)), none, ann0⟩] none)
 (.seq (.post (.seq (.reg [⟨(some 24), (Op.move (Operand.tmp 12)), none, ann0⟩,
  ⟨(some 25), (Op.binOp BinOp.leq 3 (Operand.tmp 24) (Operand.const (Value.int IntKind.i64 12)) 3), none, ann0⟩] none)
 (.cond (Operand.tmp 25) (.seq (.reg [⟨(some 26), (Op.move (Operand.tmp 0)), none, ann0⟩,
  ⟨(some 27), (Op.move (Operand.tmp 1)), none, ann0⟩,
  ⟨(some 28), (Op.move (Operand.tmp 2)), none, ann0⟩,
  ⟨(some 29), (Op.move (Operand.tmp 4)), none, ann0⟩,
  ⟨(some 30), (Op.call { callee := (Callee.value (Operand.func 90)), args := #[(Operand.tmp 26), (Operand.tmp 27), (Operand.tmp 28), (Operand.tmp 29)], argTypes := #[49, 3, 3, 122] }), none, ann0⟩] none)
 .ret)
 .skip)) (.tidy [0, 1, 2, 3, 4, 10, 11, 12] z (z + 0)))
 (.seq (.post (.seq (.reg [⟨(some 31), (Op.move (Operand.tmp 3)), none, ann0⟩,
  ⟨(some 32), (Op.binOp BinOp.eql 3 (Operand.tmp 31) (Operand.const (Value.int IntKind.i64 0)) 3), none, ann0⟩] none)
 (.cond (Operand.tmp 32) (.seq (.reg [⟨(some 33), (Op.move (Operand.tmp 0)), none, ann0⟩,
  ⟨(some 34), (Op.move (Operand.tmp 1)), none, ann0⟩,
  ⟨(some 35), (Op.move (Operand.tmp 2)), none, ann0⟩,
  ⟨(some 36), (Op.move (Operand.tmp 4)), none, ann0⟩,
  ⟨(some 37), (Op.call { callee := (Callee.value (Operand.func 91)), args := #[(Operand.tmp 33), (Operand.tmp 34), (Operand.tmp 35), (Operand.tmp 36)], argTypes := #[49, 3, 3, 122] }), none, ann0⟩] none)
 .ret)
 .skip)) (.tidy [0, 1, 2, 3, 4, 10, 11, 12] z (z + 0)))
 (.seq (.post (.seq (.reg [⟨(some 38), (Op.move (Operand.tmp 10)), none, ann0⟩,
  ⟨(some 39), (Op.unOp UnOp.not 4 (Operand.tmp 38)), none, ann0⟩] none)
 (.cond (Operand.tmp 39) (.seq (.post (.reg [⟨(some 40), (Op.move (Operand.tmp 0)), none, ann0⟩,
  ⟨(some 41), (Op.move (Operand.tmp 1)), none, ann0⟩,
  ⟨(some 42), (Op.move (Operand.tmp 2)), none, ann0⟩,
  ⟨(some 43), (Op.move (Operand.tmp 4)), none, ann0⟩,
  ⟨(some 44), (Op.call { callee := (Callee.value (Operand.func 92)), args := #[(Operand.tmp 40), (Operand.tmp 41), (Operand.tmp 42), (Operand.tmp 43)], argTypes := #[49, 3, 3, 122] }), none, ann0⟩] none) (.tidy [0, 1, 2, 3, 4, 10, 11, 12] z (z + 0)))
 (.reg [⟨(some 45), (Op.move (Operand.tmp 3)), none, ann0⟩,
  ⟨(some 46), (Op.binOp BinOp.sub 3 (Operand.tmp 45) (Operand.const (Value.int IntKind.i64 1)) 3), none, ann0⟩,
  ⟨(some 3), (Op.assign (Operand.tmp 46)), none, ann0⟩] none))
 .skip)) (.tidy [0, 1, 2, 3, 4, 10, 11, 12] z (z + 0)))
 (.seq (.post (.reg [⟨(some 48), (Op.move (Operand.tmp 0)), none, ann0⟩,
  ⟨(some 49), (Op.move (Operand.tmp 1)), none, ann0⟩,
  ⟨(some 50), (Op.move (Operand.tmp 2)), none, ann0⟩,
  ⟨(some 51), (Op.move (Operand.tmp 4)), none, ann0⟩,
  ⟨(some 52), (Op.call { callee := (Callee.value (Operand.func 93)), args := #[(Operand.tmp 48), (Operand.tmp 49), (Operand.tmp 50), (Operand.tmp 51)], argTypes := #[49, 3, 3, 122] }), none, ann0⟩,
  ⟨(some 47), (Op.move (Operand.tmp 52)), none, ann0⟩,
  ⟨(some 53), (Op.extract (Operand.tmp 47) 0), none, ann0⟩,
  ⟨(some 54), (Op.extract (Operand.tmp 47) 1), none, ann0⟩,
  ⟨(some 13), (Op.assign (Operand.tmp 53)), none, ann0⟩,
  ⟨(some 14), (Op.assign (Operand.tmp 54)), none, ann0⟩] none) (.tidy [0, 1, 2, 3, 4, 10, 11, 12, 13, 14] z (z + 0)))
 (.seq (.post (.seq (.reg [⟨(some 55), (Op.move (Operand.tmp 14)), none, ann0⟩,
  ⟨(some 56), (Op.binOp BinOp.eql 140 (Operand.tmp 55) (Operand.const (Value.int IntKind.i64 2)) 140), none, ann0⟩] none)
 (.cond (Operand.tmp 56) (.seq (.post (.reg [⟨(some 57), (Op.move (Operand.tmp 0)), none, ann0⟩,
  ⟨(some 58), (Op.move (Operand.tmp 1)), none, ann0⟩,
  ⟨(some 59), (Op.move (Operand.tmp 2)), none, ann0⟩,
  ⟨(some 60), (Op.move (Operand.tmp 4)), none, ann0⟩,
  ⟨(some 61), (Op.call { callee := (Callee.value (Operand.func 94)), args := #[(Operand.tmp 57), (Operand.tmp 58), (Operand.tmp 59), (Operand.tmp 60)], argTypes := #[49, 3, 3, 122] }), none, ann0⟩] none) (.tidy [0, 1, 2, 3, 4, 10, 11, 12, 13] z (z + 0)))
 (.seq (.post (.reg [⟨(some 62), (Op.move (Operand.tmp 2)), none, ann0⟩,
  ⟨(some 63), (Op.binOp BinOp.sub 3 (Operand.tmp 62) (Operand.const (Value.int IntKind.i64 1)) 3), none, ann0⟩,
  ⟨(some 64), (Op.move (Operand.tmp 13)), none, ann0⟩,
  ⟨(some 65), (Op.move (Operand.tmp 1)), none, ann0⟩,
  ⟨(some 66), (Op.binOp BinOp.sub 3 (Operand.tmp 64) (Operand.tmp 65) 3), none, ann0⟩,
  ⟨(some 67), (Op.binOp BinOp.sub 3 (Operand.tmp 63) (Operand.tmp 66) 3), none, ann0⟩,
  ⟨(some 13), (Op.assign (Operand.tmp 67)), none, ann0⟩] none) (.tidy [0, 1, 2, 3, 4, 10, 11, 12, 13] z (z + 0)))
 (.reg [⟨(some 14), (Op.assign (Operand.const (Value.int IntKind.i64 1))), none, ann0⟩] none)))
 .skip)) (.tidy [0, 1, 2, 3, 4, 10, 11, 12, 13, 14] z (z + 0)))
 (.seq (.post (.seq (.post (.reg [⟨(some 68), (Op.move (Operand.tmp 10)), none, ann0⟩,
  ⟨(some 69), (Op.move (Operand.tmp 68)), none, ann0⟩,
  ⟨(some 70), (Op.move (Operand.tmp 11)), (some (69, true)), ann0⟩,
  ⟨(some 71), (Op.pick (Operand.tmp 69) (Operand.tmp 70) (Operand.const (Value.bool false))), none, ann0⟩,
  ⟨(some 72), (Op.move (Operand.tmp 71)), none, ann0⟩,
  ⟨(some 73), (Op.move (Operand.tmp 14)), (some (72, true)), ann0⟩,
  ⟨(some 74), (Op.binOp BinOp.eql 140 (Operand.tmp 73) (Operand.const (Value.int IntKind.i64 1)) 140), (some (72, true)), ann0⟩,
  ⟨(some 75), (Op.pick (Operand.tmp 72) (Operand.tmp 74) (Operand.const (Value.bool false))), none, ann0⟩] none) (.tidy [0, 1, 2, 3, 4, 10, 11, 12, 13, 75] z (z + 0)))
 (.cond (Operand.tmp 75) (.seq (.reg [⟨(some 76), (Op.move (Operand.tmp 0)), none, ann0⟩,
  ⟨(some 77), (Op.move (Operand.tmp 1)), none, ann0⟩,
  ⟨(some 78), (Op.move (Operand.tmp 2)), none, ann0⟩,
  ⟨(some 79), (Op.move (Operand.tmp 4)), none, ann0⟩,
  ⟨(some 80), (Op.call { callee := (Callee.value (Operand.func 95)), args := #[(Operand.tmp 76), (Operand.tmp 77), (Operand.tmp 78), (Operand.tmp 79)], argTypes := #[49, 3, 3, 122] }), none, ann0⟩] none)
 (.cond (Operand.tmp 80) .ret
 .skip))
 .skip)) (.tidy [0, 1, 2, 3, 4, 10, 11, 12, 13] z (z + 0)))
 (.seq (.post (.seq (.post (.reg [⟨(some 81), (Op.move (Operand.tmp 1)), none, ann0⟩,
  ⟨(some 82), (Op.binOp BinOp.gtr 3 (Operand.tmp 81) (Operand.const (Value.int IntKind.i64 0)) 3), none, ann0⟩,
  ⟨(some 83), (Op.move (Operand.tmp 82)), none, ann0⟩,
  ⟨(some 84), (Op.move (Operand.tmp 4)), (some (83, true)), ann0⟩,
  ⟨(some 85), (Op.move (Operand.tmp 0)), (some (83, true)), ann0⟩,
  ⟨(some 86), (Op.move (Operand.tmp 1)), (some (83, true)), ann0⟩,
  ⟨(some 87), (Op.binOp BinOp.sub 3 (Operand.tmp 86) (Operand.const (Value.int IntKind.i64 1)) 3), (some (83, true)), ann0⟩,
  ⟨(some 88), (Op.indexAddr 49 (Operand.tmp 85) (Operand.tmp 87)), (some (83, true)), ann0⟩,
  ⟨(some 89), (Op.load 38 (Operand.tmp 88)), (some (83, true)), ann0⟩,
  ⟨(some 90), (Op.move (Operand.tmp 0)), (some (83, true)), ann0⟩,
  ⟨(some 91), (Op.move (Operand.tmp 13)), (some (83, true)), ann0⟩,
  ⟨(some 92), (Op.indexAddr 49 (Operand.tmp 90) (Operand.tmp 91)), (some (83, true)), ann0⟩,
  ⟨(some 93), (Op.load 38 (Operand.tmp 92)), (some (83, true)), ann0⟩,
  ⟨(some 94), (Op.call { callee := (Callee.value (Operand.tmp 84)), args := #[(Operand.tmp 89), (Operand.tmp 93)], argTypes := #[38, 38] }), (some (83, true)), ann0⟩,
  ⟨(some 95), (Op.binOp BinOp.lss 3 (Operand.tmp 94) (Operand.const (Value.int IntKind.i64 0)) 3), (some (83, true)), ann0⟩,
  ⟨(some 96), (Op.unOp UnOp.not 4 (Operand.tmp 95)), (some (83, true)), ann0⟩,
  ⟨(some 97), (Op.pick (Operand.tmp 83) (Operand.tmp 96) (Operand.const (Value.bool false))), none, ann0⟩] (some [0, 1, 3, 7, 7, 7, 39, 119, 247, 7, 7, 1543, 3591, 8191, 16383, 32767, 65535])) (.tidy [0, 1, 2, 3, 4, 10, 11, 12, 13, 97] z (z + 0)))
 (.cond (Operand.tmp 97) (.seq (.post (.reg [⟨(some 98), (Op.move (Operand.tmp 0)), none, ann0⟩,
  ⟨(some 99), (Op.move (Operand.tmp 1)), none, ann0⟩,
  ⟨(some 100), (Op.move (Operand.tmp 2)), none, ann0⟩,
  ⟨(some 101), (Op.move (Operand.tmp 13)), none, ann0⟩,
  ⟨(some 102), (Op.move (Operand.tmp 4)), none, ann0⟩,
  ⟨(some 103), (Op.call { callee := (Callee.value (Operand.func 96)), args := #[(Operand.tmp 98), (Operand.tmp 99), (Operand.tmp 100), (Operand.tmp 101), (Operand.tmp 102)], argTypes := #[49, 3, 3, 3, 122] }), none, ann0⟩,
  ⟨(some 15), (Op.assign (Operand.tmp 103)), none, ann0⟩] none) (.tidy [0, 2, 3, 4, 10, 11, 15] z (z + 0)))
 (.seq (.reg [⟨(some 104), (Op.move (Operand.tmp 15)), none, ann0⟩,
  ⟨(some 1), (Op.assign (Operand.tmp 104)), none, ann0⟩] none)
 (.exit 1)))
 .skip)) (.tidy [0, 1, 2, 3, 4, 12, 13] z (z + 0)))
 (.seq (.post (.reg [⟨(some 106), (Op.move (Operand.tmp 0)), none, ann0⟩,
  ⟨(some 107), (Op.move (Operand.tmp 1)), none, ann0⟩,
  ⟨(some 108), (Op.move (Operand.tmp 2)), none, ann0⟩,
  ⟨(some 109), (Op.move (Operand.tmp 13)), none, ann0⟩,
  ⟨(some 110), (Op.move (Operand.tmp 4)), none, ann0⟩,
  ⟨(some 111), (Op.call { callee := (Callee.value (Operand.func 97)), args := #[(Operand.tmp 106), (Operand.tmp 107), (Operand.tmp 108), (Operand.tmp 109), (Operand.tmp 110)], argTypes := #[49, 3, 3, 3, 122] }), none, ann0⟩,
  ⟨(some 105), (Op.move (Operand.tmp 111)), none, ann0⟩,
  ⟨(some 112), (Op.extract (Operand.tmp 105) 0), none, ann0⟩,
  ⟨(some 113), (Op.extract (Operand.tmp 105) 1), none, ann0⟩,
  ⟨(some 16), (Op.assign (Operand.tmp 112)), none, ann0⟩,
  ⟨(some 17), (Op.assign (Operand.tmp 113)), none, ann0⟩] none) (.tidy [0, 1, 2, 3, 4, 12, 16, 17] z (z + 0)))
 (.seq (.reg [⟨(some 114), (Op.move (Operand.tmp 17)), none, ann0⟩,
  ⟨(some 11), (Op.assign (Operand.tmp 114)), none, ann0⟩] none)
 (.seq (.post (.reg [⟨(some 115), (Op.move (Operand.tmp 16)), none, ann0⟩,
  ⟨(some 116), (Op.move (Operand.tmp 1)), none, ann0⟩,
  ⟨(some 117), (Op.binOp BinOp.sub 3 (Operand.tmp 115) (Operand.tmp 116) 3), none, ann0⟩,
  ⟨(some 118), (Op.move (Operand.tmp 2)), none, ann0⟩,
  ⟨(some 119), (Op.move (Operand.tmp 16)), none, ann0⟩,
  ⟨(some 120), (Op.binOp BinOp.sub 3 (Operand.tmp 118) (Operand.tmp 119) 3), none, ann0⟩,
  ⟨(some 18), (Op.assign (Operand.tmp 117)), none, ann0⟩,
  ⟨(some 19), (Op.assign (Operand.tmp 120)), none, ann0⟩] none) (.tidy [0, 1, 2, 3, 4, 11, 12, 16, 18, 19] z (z + 0)))
 (.seq (.reg [⟨(some 121), (Op.move (Operand.tmp 12)), none, ann0⟩,
  ⟨(some 122), (Op.binOp BinOp.quo 3 (Operand.tmp 121) (Operand.const (Value.int IntKind.i64 8)) 3), none, ann0⟩,
  ⟨(some 20), (Op.assign (Operand.tmp 122)), none, ann0⟩] none)
 (.seq (.reg [⟨(some 123), (Op.move (Operand.tmp 18)), none, ann0⟩,
  ⟨(some 124), (Op.move (Operand.tmp 19)), none, ann0⟩,
  ⟨(some 125), (Op.binOp BinOp.lss 3 (Operand.tmp 123) (Operand.tmp 124) 3), none, ann0⟩] none)
 (.cond (Operand.tmp 125) (.seq (.post (.reg [⟨(some 126), (Op.move (Operand.tmp 18)), none, ann0⟩,
  ⟨(some 127), (Op.move (Operand.tmp 20)), none, ann0⟩,
  ⟨(some 128), (Op.binOp BinOp.geq 3 (Operand.tmp 126) (Operand.tmp 127) 3), none, ann0⟩,
  ⟨(some 10), (Op.assign (Operand.tmp 128)), none, ann0⟩] none) (.tidy [0, 1, 2, 3, 4, 10, 11, 16] z (z + 0)))
 (.seq (.post (.reg [⟨(some 129), (Op.move (Operand.tmp 0)), none, ann0⟩,
  ⟨(some 130), (Op.move (Operand.tmp 1)), none, ann0⟩,
  ⟨(some 131), (Op.move (Operand.tmp 16)), none, ann0⟩,
  ⟨(some 132), (Op.move (Operand.tmp 3)), none, ann0⟩,
  ⟨(some 133), (Op.move (Operand.tmp 4)), none, ann0⟩,
  ⟨(some 134), (Op.call { callee := (Callee.value (Operand.func 72)), args := #[(Operand.tmp 129), (Operand.tmp 130), (Operand.tmp 131), (Operand.tmp 132), (Operand.tmp 133)], argTypes := #[49, 3, 3, 3, 122] }), none, ann0⟩] none) (.tidy [0, 2, 3, 4, 10, 11, 16] z (z + 0)))
 (.reg [⟨(some 135), (Op.move (Operand.tmp 16)), none, ann0⟩,
  ⟨(some 136), (Op.binOp BinOp.add 3 (Operand.tmp 135) (Operand.const (Value.int IntKind.i64 1)) 3), none, ann0⟩,
  ⟨(some 1), (Op.assign (Operand.tmp 136)), none, ann0⟩] none)))
 (.seq (.reg [⟨(some 137), (Op.move (Operand.tmp 19)), none, ann0⟩,
  ⟨(some 138), (Op.move (Operand.tmp 20)), none, ann0⟩,
  ⟨(some 139), (Op.binOp BinOp.geq 3 (Operand.tmp 137) (Operand.tmp 138) 3), none, ann0⟩,
  ⟨(some 10), (Op.assign (Operand.tmp 139)), none, ann0⟩] none)
 (.seq (.post (.reg [⟨(some 140), (Op.move (Operand.tmp 0)), none, ann0⟩,
  ⟨(some 141), (Op.move (Operand.tmp 16)), none, ann0⟩,
  ⟨(some 142), (Op.binOp BinOp.add 3 (Operand.tmp 141) (Operand.const (Value.int IntKind.i64 1)) 3), none, ann0⟩,
  ⟨(some 143), (Op.move (Operand.tmp 2)), none, ann0⟩,
  ⟨(some 144), (Op.move (Operand.tmp 3)), none, ann0⟩,
  ⟨(some 145), (Op.move (Operand.tmp 4)), none, ann0⟩,
  ⟨(some 146), (Op.call { callee := (Callee.value (Operand.func 72)), args := #[(Operand.tmp 140), (Operand.tmp 142), (Operand.tmp 143), (Operand.tmp 144), (Operand.tmp 145)], argTypes := #[49, 3, 3, 3, 122] }), none, ann0⟩] none) (.tidy [0, 1, 3, 4, 10, 11, 16] z (z + 0)))
 (.reg [⟨(some 147), (Op.move (Operand.tmp 16)), none, ann0⟩,
  ⟨(some 2), (Op.assign (Operand.tmp 147)), none, ann0⟩] none)))))))))))))))))) (.tidy [0, 1, 2, 3, 4, 10, 11] z (z + 0))
def s72_1 (z : Nat) : SC := c72_1 z
theorem e72_1 {C : Pg} {z : Nat} {st : St} {ks : List Fr} {K : Ex → St → Prop} : wpk C (s72_1 z) st ks K ↔ wpk C (c72_1 z) st ks K := Iff.rfl
def s72 (z : Nat) : SFn := ⟨5, 148, [],
 (.seq (.reg [⟨(some 10), (Op.assign (Operand.const (Value.bool true))), none, ann0⟩] none)
 (.seq (.reg [⟨(some 11), (Op.assign (Operand.const (Value.bool true))), none, ann0⟩] none)
 (.post (.block 0 (.pre (.tidy [0, 1, 2, 3, 4, 10, 11] z (z + 0)) (.loop (s72_1 z)))) (.tidy [] z (z + 0)))))⟩
theorem F72 (z : Nat) : FOk Try.prog 72 (s72 z) := by unfold FOk; kernel_rfl
def c73_2 (z : Nat) : SC := .post (.seq (.post (.seq (.post (.reg [⟨(some 18), (Op.move (Operand.tmp 9)), none, ann0⟩,
  ⟨(some 19), (Op.move (Operand.tmp 1)), none, ann0⟩,
  ⟨(some 20), (Op.binOp BinOp.gtr 3 (Operand.tmp 18) (Operand.tmp 19) 3), none, ann0⟩,
  ⟨(some 21), (Op.move (Operand.tmp 20)), none, ann0⟩,
  ⟨(some 22), (Op.move (Operand.tmp 3)), (some (21, true)), ann0⟩,
  ⟨(some 23), (Op.move (Operand.tmp 0)), (some (21, true)), ann0⟩,
  ⟨(some 24), (Op.move (Operand.tmp 9)), (some (21, true)), ann0⟩,
  ⟨(some 25), (Op.indexAddr 51 (Operand.tmp 23) (Operand.tmp 24)), (some (21, true)), ann0⟩,
  ⟨(some 26), (Op.load 40 (Operand.tmp 25)), (some (21, true)), ann0⟩,
  ⟨(some 27), (Op.move (Operand.tmp 0)), (some (21, true)), ann0⟩,
  ⟨(some 28), (Op.move (Operand.tmp 9)), (some (21, true)), ann0⟩,
  ⟨(some 29), (Op.binOp BinOp.sub 3 (Operand.tmp 28) (Operand.const (Value.int IntKind.i64 1)) 3), (some (21, true)), ann0⟩,
  ⟨(some 30), (Op.indexAddr 51 (Operand.tmp 27) (Operand.tmp 29)), (some (21, true)), ann0⟩,
  ⟨(some 31), (Op.load 40 (Operand.tmp 30)), (some (21, true)), ann0⟩,
  ⟨(some 32), (Op.call { callee := (Callee.value (Operand.tmp 22)), args := #[(Operand.tmp 26), (Operand.tmp 31)], argTypes := #[40, 40] }), (some (21, true)), ann0⟩,
  ⟨(some 33), (Op.binOp BinOp.lss 3 (Operand.tmp 32) (Operand.const (Value.int IntKind.i64 0)) 3), (some (21, true)), ann0⟩,
  ⟨(some 34), (Op.pick (Operand.tmp 21) (Operand.tmp 33) (Operand.const (Value.bool false))), none, ann0⟩] (some [0, 0, 3, 7, 15, 15, 15, 111, 239, 15, 15, 1039, 3599, 7695, 16383, 32767, 65535])) (.tidy [0, 1, 2, 3, 8, 9, 34] z (z + 0)))
 (.cond (Operand.tmp 34) .skip
 (.exit 2))) (.tidy [0, 1, 2, 3, 8, 9] z (z + 0)))
 (.seq (.post (.block 3 (.reg [⟨(some 37), (Op.move (Operand.tmp 0)), none, ann0⟩,
  ⟨(some 38), (Op.move (Operand.tmp 9)), none, ann0⟩,
  ⟨(some 39), (Op.move (Operand.tmp 0)), none, ann0⟩,
  ⟨(some 40), (Op.move (Operand.tmp 9)), none, ann0⟩,
  ⟨(some 41), (Op.binOp BinOp.sub 3 (Operand.tmp 40) (Operand.const (Value.int IntKind.i64 1)) 3), none, ann0⟩,
  ⟨(some 42), (Op.move (Operand.tmp 0)), none, ann0⟩,
  ⟨(some 43), (Op.move (Operand.tmp 9)), none, ann0⟩,
  ⟨(some 44), (Op.binOp BinOp.sub 3 (Operand.tmp 43) (Operand.const (Value.int IntKind.i64 1)) 3), none, ann0⟩,
  ⟨(some 45), (Op.indexAddr 51 (Operand.tmp 42) (Operand.tmp 44)), none, ann0⟩,
  ⟨(some 46), (Op.load 40 (Operand.tmp 45)), none, ann0⟩,
  ⟨(some 47), (Op.move (Operand.tmp 0)), none, ann0⟩,
  ⟨(some 48), (Op.move (Operand.tmp 9)), none, ann0⟩,
  ⟨(some 49), (Op.indexAddr 51 (Operand.tmp 47) (Operand.tmp 48)), none, ann0⟩,
  ⟨(some 50), (Op.load 40 (Operand.tmp 49)), none, ann0⟩,
  ⟨(some 51), (Op.indexAddr 51 (Operand.tmp 37) (Operand.tmp 38)), none, ann0⟩,
  ⟨none, (Op.store 40 (Operand.tmp 51) (Operand.tmp 46)), none, ann0⟩,
  ⟨(some 52), (Op.indexAddr 51 (Operand.tmp 39) (Operand.tmp 41)), none, ann0⟩,
  ⟨none, (Op.store 40 (Operand.tmp 52) (Operand.tmp 50)), none, ann0⟩] (some [0, 0, 0, 0, 8, 0, 0, 64, 224, 480, 0, 0, 3072, 7168, 16355, 32739, 65535, 131071]))) (.tidy [0, 1, 2, 3, 8, 9] z (z + 0)))
 (.reg [⟨(some 35), (Op.move (Operand.tmp 9)), none, ann0⟩,
  ⟨(some 36), (Op.binOp BinOp.sub 3 (Operand.tmp 35) (Operand.const (Value.int IntKind.i64 1)) 3), none, ann0⟩,
  ⟨(some 9), (Op.assign (Operand.tmp 36)), none, ann0⟩] none))) (.tidy [0, 1, 2, 3, 8, 9] z (z + 0))
def s73_2 (z : Nat) : SC := c73_2 z
theorem e73_2 {C : Pg} {z : Nat} {st : St} {ks : List Fr} {K : Ex → St → Prop} : wpk C (s73_2 z) st ks K ↔ wpk C (c73_2 z) st ks K := Iff.rfl
def c73_1 (z : Nat) : SC := .post (.seq (.post (.seq (.reg [⟨(some 12), (Op.move (Operand.tmp 8)), none, ann0⟩,
  ⟨(some 13), (Op.move (Operand.tmp 2)), none, ann0⟩,
  ⟨(some 14), (Op.binOp BinOp.lss 3 (Operand.tmp 12) (Operand.tmp 13) 3), none, ann0⟩] none)
 (.cond (Operand.tmp 14) .skip
 (.exit 0))) (.tidy [0, 1, 2, 3, 8] z (z + 0)))
 (.seq (.post (.block 1 (.seq (.reg [⟨(some 17), (Op.move (Operand.tmp 8)), none, ann0⟩,
  ⟨(some 9), (Op.assign (Operand.tmp 17)), none, ann0⟩] none)
 (.post (.block 2 (.pre (.tidy [0, 1, 2, 3, 8, 9] z (z + 0)) (.loop (s73_2 z)))) (.tidy [0, 1, 2, 3, 8] z (z + 0))))) (.tidy [0, 1, 2, 3, 8] z (z + 0)))
 (.reg [⟨(some 15), (Op.move (Operand.tmp 8)), none, ann0⟩,
  ⟨(some 16), (Op.binOp BinOp.add 3 (Operand.tmp 15) (Operand.const (Value.int IntKind.i64 1)) 3), none, ann0⟩,
  ⟨(some 8), (Op.assign (Operand.tmp 16)), none, ann0⟩] none))) (.tidy [0, 1, 2, 3, 8] z (z + 0))
def s73_1 (z : Nat) : SC := c73_1 z
theorem e73_1 {C : Pg} {z : Nat} {st : St} {ks : List Fr} {K : Ex → St → Prop} : wpk C (s73_1 z) st ks K ↔ wpk C (c73_1 z) st ks K := Iff.rfl
def s73 (z : Nat) : SFn := ⟨4, 53, [],
 (.seq (.reg [⟨(some 10), (Op.move (Operand.tmp 1)), none, ann0⟩,
  ⟨(some 11), (Op.binOp BinOp.add 3 (Operand.tmp 10) (Operand.const (Value.int IntKind.i64 1)) 3), none, ann0⟩,
  ⟨(some 8), (Op.assign (Operand.tmp 11)), none, ann0⟩] none)
 (.post (.block 0 (.pre (.tidy [0, 1, 2, 3, 8] z (z + 0)) (.loop (s73_1 z)))) (.tidy [] z (z + 0))))⟩
theorem F73 (z : Nat) : FOk Try.prog 73 (s73 z) := by unfold FOk; kernel_rfl
def s81 (z : Nat) : SFn := ⟨1, 19, [(ResultVar.tmp 2)],
 (.seq (.reg [⟨(some 2), (Op.assign (Operand.const (Value.int IntKind.i64 0))), none, ann0⟩] none)
 (.seq (.post (.seq (.reg [⟨(some 3), (Op.move (Operand.tmp 0)), none, ann0⟩,
  ⟨(some 4), (Op.binOp BinOp.geq 148 (Operand.tmp 3) (Operand.const (Value.int IntKind.u32 65536)) 148), none, ann0⟩] none)
 (.cond (Operand.tmp 4) (.seq (.reg [⟨(some 5), (Op.move (Operand.tmp 0)), none, ann0⟩,
  ⟨(some 6), (Op.binOp BinOp.shr 148 (Operand.tmp 5) (Operand.const (Value.int IntKind.u64 16)) 125), none, ann0⟩,
  ⟨(some 0), (Op.assign (Operand.tmp 6)), none, ann0⟩] none)
 (.reg [⟨(some 2), (Op.assign (Operand.const (Value.int IntKind.i64 16))), none, ann0⟩] none))
 .skip)) (.tidy [0, 2] z (z + 0)))
 (.seq (.post (.seq (.reg [⟨(some 7), (Op.move (Operand.tmp 0)), none, ann0⟩,
  ⟨(some 8), (Op.binOp BinOp.geq 148 (Operand.tmp 7) (Operand.const (Value.int IntKind.u32 256)) 148), none, ann0⟩] none)
 (.cond (Operand.tmp 8) (.seq (.reg [⟨(some 9), (Op.move (Operand.tmp 0)), none, ann0⟩,
  ⟨(some 10), (Op.binOp BinOp.shr 148 (Operand.tmp 9) (Operand.const (Value.int IntKind.u64 8)) 125), none, ann0⟩,
  ⟨(some 0), (Op.assign (Operand.tmp 10)), none, ann0⟩] none)
 (.reg [⟨(some 11), (Op.move (Operand.tmp 2)), none, ann0⟩,
  ⟨(some 12), (Op.binOp BinOp.add 3 (Operand.tmp 11) (Operand.const (Value.int IntKind.i64 8)) 3), none, ann0⟩,
  ⟨(some 2), (Op.assign (Operand.tmp 12)), none, ann0⟩] none))
 .skip)) (.tidy [0, 2] z (z + 0)))
 (.seq (.reg [⟨(some 13), (Op.move (Operand.tmp 2)), none, ann0⟩,
  ⟨(some 14), (Op.move (Operand.tmp 0)), none, ann0⟩,
  ⟨(some 15), (Op.convert 148 5 (Operand.tmp 14)), none, ann0⟩,
  ⟨(some 16), (Op.index 9 (Operand.const (Value.string ⟨#[0, 1, 2, 2, 3, 3, 3, 3, 4, 4, 4, 4, 4, 4, 4, 4, 5, 5, 5, 5, 5, 5, 5, 5, 5, 5, 5, 5, 5, 5, 5, 5, 6, 6, 6, 6, 6, 6, 6, 6, 6, 6, 6, 6, 6, 6, 6, 6, 6, 6, 6, 6, 6, 6, 6, 6, 6, 6, 6, 6, 6, 6, 6, 6, 7, 7, 7, 7, 7, 7, 7, 7, 7, 7, 7, 7, 7, 7, 7, 7, 7, 7, 7, 7, 7, 7, 7, 7, 7, 7, 7, 7, 7, 7, 7, 7, 7, 7, 7, 7, 7, 7, 7, 7, 7, 7, 7, 7, 7, 7, 7, 7, 7, 7, 7, 7, 7, 7, 7, 7, 7, 7, 7, 7, 7, 7, 7, 7, 8, 8, 8, 8, 8, 8, 8, 8, 8, 8, 8, 8, 8, 8, 8, 8, 8, 8, 8, 8, 8, 8, 8, 8, 8, 8, 8, 8, 8, 8, 8, 8, 8, 8, 8, 8, 8, 8, 8, 8, 8, 8, 8, 8, 8, 8, 8, 8, 8, 8, 8, 8, 8, 8, 8, 8, 8, 8, 8, 8, 8, 8, 8, 8, 8, 8, 8, 8, 8, 8, 8, 8, 8, 8, 8, 8, 8, 8, 8, 8, 8, 8, 8, 8, 8, 8, 8, 8, 8, 8, 8, 8, 8, 8, 8, 8, 8, 8, 8, 8, 8, 8, 8, 8, 8, 8, 8, 8, 8, 8, 8, 8, 8, 8, 8, 8, 8, 8, 8, 8, 8, 8, 8, 8, 8, 8, 8, 8]⟩)) (Operand.tmp 15)), none, ann0⟩,
  ⟨(some 17), (Op.convert 5 3 (Operand.tmp 16)), none, ann0⟩,
  ⟨(some 18), (Op.binOp BinOp.add 3 (Operand.tmp 13) (Operand.tmp 17) 3), none, ann0⟩,
  ⟨(some 2), (Op.assign (Operand.tmp 18)), none, ann0⟩] none)
 .ret))))⟩
theorem F81 (z : Nat) : FOk Try.prog 81 (s81 z) := by unfold FOk; kernel_rfl
def s82 (z : Nat) : SFn := ⟨1, 25, [(ResultVar.tmp 2)],
 (.seq (.reg [⟨(some 2), (Op.assign (Operand.const (Value.int IntKind.i64 0))), none, ann0⟩] none)
 (.seq (.post (.seq (.reg [⟨(some 3), (Op.move (Operand.tmp 0)), none, ann0⟩,
  ⟨(some 4), (Op.binOp BinOp.geq 150 (Operand.tmp 3) (Operand.const (Value.int IntKind.u64 4294967296)) 150), none, ann0⟩] none)
 (.cond (Operand.tmp 4) (.seq (.reg [⟨(some 5), (Op.move (Operand.tmp 0)), none, ann0⟩,
  ⟨(some 6), (Op.binOp BinOp.shr 150 (Operand.tmp 5) (Operand.const (Value.int IntKind.u64 32)) 125), none, ann0⟩,
  ⟨(some 0), (Op.assign (Operand.tmp 6)), none, ann0⟩] none)
 (.reg [⟨(some 2), (Op.assign (Operand.const (Value.int IntKind.i64 32))), none, ann0⟩] none))
 .skip)) (.tidy [0, 2] z (z + 0)))
 (.seq (.post (.seq (.reg [⟨(some 7), (Op.move (Operand.tmp 0)), none, ann0⟩,
  ⟨(some 8), (Op.binOp BinOp.geq 150 (Operand.tmp 7) (Operand.const (Value.int IntKind.u64 65536)) 150), none, ann0⟩] none)
 (.cond (Operand.tmp 8) (.seq (.reg [⟨(some 9), (Op.move (Operand.tmp 0)), none, ann0⟩,
  ⟨(some 10), (Op.binOp BinOp.shr 150 (Operand.tmp 9) (Operand.const (Value.int IntKind.u64 16)) 125), none, ann0⟩,
  ⟨(some 0), (Op.assign (Operand.tmp 10)), none, ann0⟩] none)
 (.reg [⟨(some 11), (Op.move (Operand.tmp 2)), none, ann0⟩,
  ⟨(some 12), (Op.binOp BinOp.add 3 (Operand.tmp 11) (Operand.const (Value.int IntKind.i64 16)) 3), none, ann0⟩,
  ⟨(some 2), (Op.assign (Operand.tmp 12)), none, ann0⟩] none))
 .skip)) (.tidy [0, 2] z (z + 0)))
 (.seq (.post (.seq (.reg [⟨(some 13), (Op.move (Operand.tmp 0)), none, ann0⟩,
  ⟨(some 14), (Op.binOp BinOp.geq 150 (Operand.tmp 13) (Operand.const (Value.int IntKind.u64 256)) 150), none, ann0⟩] none)
 (.cond (Operand.tmp 14) (.seq (.reg [⟨(some 15), (Op.move (Operand.tmp 0)), none, ann0⟩,
  ⟨(some 16), (Op.binOp BinOp.shr 150 (Operand.tmp 15) (Operand.const (Value.int IntKind.u64 8)) 125), none, ann0⟩,
  ⟨(some 0), (Op.assign (Operand.tmp 16)), none, ann0⟩] none)
 (.reg [⟨(some 17), (Op.move (Operand.tmp 2)), none, ann0⟩,
  ⟨(some 18), (Op.binOp BinOp.add 3 (Operand.tmp 17) (Operand.const (Value.int IntKind.i64 8)) 3), none, ann0⟩,
  ⟨(some 2), (Op.assign (Operand.tmp 18)), none, ann0⟩] none))
 .skip)) (.tidy [0, 2] z (z + 0)))
 (.seq (.reg [⟨(some 19), (Op.move (Operand.tmp 2)), none, ann0⟩,
  ⟨(some 20), (Op.move (Operand.tmp 0)), none, ann0⟩,
  ⟨(some 21), (Op.convert 150 5 (Operand.tmp 20)), none, ann0⟩,
  ⟨(some 22), (Op.index 9 (Operand.const (Value.string ⟨#[0, 1, 2, 2, 3, 3, 3, 3, 4, 4, 4, 4, 4, 4, 4, 4, 5, 5, 5, 5, 5, 5, 5, 5, 5, 5, 5, 5, 5, 5, 5, 5, 6, 6, 6, 6, 6, 6, 6, 6, 6, 6, 6, 6, 6, 6, 6, 6, 6, 6, 6, 6, 6, 6, 6, 6, 6, 6, 6, 6, 6, 6, 6, 6, 7, 7, 7, 7, 7, 7, 7, 7, 7, 7, 7, 7, 7, 7, 7, 7, 7, 7, 7, 7, 7, 7, 7, 7, 7, 7, 7, 7, 7, 7, 7, 7, 7, 7, 7, 7, 7, 7, 7, 7, 7, 7, 7, 7, 7, 7, 7, 7, 7, 7, 7, 7, 7, 7, 7, 7, 7, 7, 7, 7, 7, 7, 7, 7, 8, 8, 8, 8, 8, 8, 8, 8, 8, 8, 8, 8, 8, 8, 8, 8, 8, 8, 8, 8, 8, 8, 8, 8, 8, 8, 8, 8, 8, 8, 8, 8, 8, 8, 8, 8, 8, 8, 8, 8, 8, 8, 8, 8, 8, 8, 8, 8, 8, 8, 8, 8, 8, 8, 8, 8, 8, 8, 8, 8, 8, 8, 8, 8, 8, 8, 8, 8, 8, 8, 8, 8, 8, 8, 8, 8, 8, 8, 8, 8, 8, 8, 8, 8, 8, 8, 8, 8, 8, 8, 8, 8, 8, 8, 8, 8, 8, 8, 8, 8, 8, 8, 8, 8, 8, 8, 8, 8, 8, 8, 8, 8, 8, 8, 8, 8, 8, 8, 8, 8, 8, 8, 8, 8, 8, 8, 8, 8]⟩)) (Operand.tmp 21)), none, ann0⟩,
  ⟨(some 23), (Op.convert 5 3 (Operand.tmp 22)), none, ann0⟩,
  ⟨(some 24), (Op.binOp BinOp.add 3 (Operand.tmp 19) (Operand.tmp 23) 3), none, ann0⟩,
  ⟨(some 2), (Op.assign (Operand.tmp 24)), none, ann0⟩] none)
 .ret)))))⟩
theorem F82 (z : Nat) : FOk Try.prog 82 (s82 z) := by unfold FOk; kernel_rfl
def c90_2 (z : Nat) : SC := .post (.seq (.post (.seq (.post (.reg [⟨(some 18), (Op.move (Operand.tmp 9)), none, ann0⟩,
  ⟨(some 19), (Op.move (Operand.tmp 1)), none, ann0⟩,
  ⟨(some 20), (Op.binOp BinOp.gtr 3 (Operand.tmp 18) (Operand.tmp 19) 3), none, ann0⟩,
  ⟨(some 21), (Op.move (Operand.tmp 20)), none, ann0⟩,
  ⟨(some 22), (Op.move (Operand.tmp 3)), (some (21, true)), ann0⟩,
  ⟨(some 23), (Op.move (Operand.tmp 0)), (some (21, true)), ann0⟩,
  ⟨(some 24), (Op.move (Operand.tmp 9)), (some (21, true)), ann0⟩,
  ⟨(some 25), (Op.indexAddr 49 (Operand.tmp 23) (Operand.tmp 24)), (some (21, true)), ann0⟩,
  ⟨(some 26), (Op.load 38 (Operand.tmp 25)), (some (21, true)), ann0⟩,
  ⟨(some 27), (Op.move (Operand.tmp 0)), (some (21, true)), ann0⟩,
  ⟨(some 28), (Op.move (Operand.tmp 9)), (some (21, true)), ann0⟩,
  ⟨(some 29), (Op.binOp BinOp.sub 3 (Operand.tmp 28) (Operand.const (Value.int IntKind.i64 1)) 3), (some (21, true)), ann0⟩,
  ⟨(some 30), (Op.indexAddr 49 (Operand.tmp 27) (Operand.tmp 29)), (some (21, true)), ann0⟩,
  ⟨(some 31), (Op.load 38 (Operand.tmp 30)), (some (21, true)), ann0⟩,
  ⟨(some 32), (Op.call { callee := (Callee.value (Operand.tmp 22)), args := #[(Operand.tmp 26), (Operand.tmp 31)], argTypes := #[38, 38] }), (some (21, true)), ann0⟩,
  ⟨(some 33), (Op.binOp BinOp.lss 3 (Operand.tmp 32) (Operand.const (Value.int IntKind.i64 0)) 3), (some (21, true)), ann0⟩,
  ⟨(some 34), (Op.pick (Operand.tmp 21) (Operand.tmp 33) (Operand.const (Value.bool false))), none, ann0⟩] (some [0, 0, 3, 7, 15, 15, 15, 111, 239, 15, 15, 1039, 3599, 7695, 16383, 32767, 65535])) (.tidy [0, 1, 2, 3, 8, 9, 34] z (z + 0)))
 (.cond (Operand.tmp 34) .skip
 (.exit 2))) (.tidy [0, 1, 2, 3, 8, 9] z (z + 0)))
 (.seq (.post (.block 3 (.reg [⟨(some 37), (Op.move (Operand.tmp 0)), none, ann0⟩,
  ⟨(some 38), (Op.move (Operand.tmp 9)), none, ann0⟩,
  ⟨(some 39), (Op.move (Operand.tmp 0)), none, ann0⟩,
  ⟨(some 40), (Op.move (Operand.tmp 9)), none, ann0⟩,
  ⟨(some 41), (Op.binOp BinOp.sub 3 (Operand.tmp 40) (Operand.const (Value.int IntKind.i64 1)) 3), none, ann0⟩,
  ⟨(some 42), (Op.move (Operand.tmp 0)), none, ann0⟩,
  ⟨(some 43), (Op.move (Operand.tmp 9)), none, ann0⟩,
  ⟨(some 44), (Op.binOp BinOp.sub 3 (Operand.tmp 43) (Operand.const (Value.int IntKind.i64 1)) 3), none, ann0⟩,
  ⟨(some 45), (Op.indexAddr 49 (Operand.tmp 42) (Operand.tmp 44)), none, ann0⟩,
  ⟨(some 46), (Op.load 38 (Operand.tmp 45)), none, ann0⟩,
  ⟨(some 47), (Op.move (Operand.tmp 0)), none, ann0⟩,
  ⟨(some 48), (Op.move (Operand.tmp 9)), none, ann0⟩,
  ⟨(some 49), (Op.indexAddr 49 (Operand.tmp 47) (Operand.tmp 48)), none, ann0⟩,
  ⟨(some 50), (Op.load 38 (Operand.tmp 49)), none, ann0⟩,
  ⟨(some 51), (Op.indexAddr 49 (Operand.tmp 37) (Operand.tmp 38)), none, ann0⟩,
  ⟨none, (Op.store 38 (Operand.tmp 51) (Operand.tmp 46)), none, ann0⟩,
  ⟨(some 52), (Op.indexAddr 49 (Operand.tmp 39) (Operand.tmp 41)), none, ann0⟩,
  ⟨none, (Op.store 38 (Operand.tmp 52) (Operand.tmp 50)), none, ann0⟩] (some [0, 0, 0, 0, 8, 0, 0, 64, 224, 480, 0, 0, 3072, 7168, 16355, 32739, 65535, 131071]))) (.tidy [0, 1, 2, 3, 8, 9] z (z + 0)))
 (.reg [⟨(some 35), (Op.move (Operand.tmp 9)), none, ann0⟩,
  ⟨(some 36), (Op.binOp BinOp.sub 3 (Operand.tmp 35) (Operand.const (Value.int IntKind.i64 1)) 3), none, ann0⟩,
  ⟨(some 9), (Op.assign (Operand.tmp 36)), none, ann0⟩] none))) (.tidy [0, 1, 2, 3, 8, 9] z (z + 0))
def s90_2 (z : Nat) : SC := c90_2 z
theorem e90_2 {C : Pg} {z : Nat} {st : St} {ks : List Fr} {K : Ex → St → Prop} : wpk C (s90_2 z) st ks K ↔ wpk C (c90_2 z) st ks K := Iff.rfl
def c90_1 (z : Nat) : SC := .post (.seq (.post (.seq (.reg [⟨(some 12), (Op.move (Operand.tmp 8)), none, ann0⟩,
  ⟨(some 13), (Op.move (Operand.tmp 2)), none, ann0⟩,
  ⟨(some 14), (Op.binOp BinOp.lss 3 (Operand.tmp 12) (Operand.tmp 13) 3), none, ann0⟩] none)
 (.cond (Operand.tmp 14) .skip
 (.exit 0))) (.tidy [0, 1, 2, 3, 8] z (z + 0)))
 (.seq (.post (.block 1 (.seq (.reg [⟨(some 17), (Op.move (Operand.tmp 8)), none, ann0⟩,
  ⟨(some 9), (Op.assign (Operand.tmp 17)), none, ann0⟩] none)
 (.post (.block 2 (.pre (.tidy [0, 1, 2, 3, 8, 9] z (z + 0)) (.loop (s90_2 z)))) (.tidy [0, 1, 2, 3, 8] z (z + 0))))) (.tidy [0, 1, 2, 3, 8] z (z + 0)))
 (.reg [⟨(some 15), (Op.move (Operand.tmp 8)), none, ann0⟩,
  ⟨(some 16), (Op.binOp BinOp.add 3 (Operand.tmp 15) (Operand.const (Value.int IntKind.i64 1)) 3), none, ann0⟩,
  ⟨(some 8), (Op.assign (Operand.tmp 16)), none, ann0⟩] none))) (.tidy [0, 1, 2, 3, 8] z (z + 0))
def s90_1 (z : Nat) : SC := c90_1 z
theorem e90_1 {C : Pg} {z : Nat} {st : St} {ks : List Fr} {K : Ex → St → Prop} : wpk C (s90_1 z) st ks K ↔ wpk C (c90_1 z) st ks K := Iff.rfl
def s90 (z : Nat) : SFn := ⟨4, 53, [],
 (.seq (.reg [⟨(some 10), (Op.move (Operand.tmp 1)), none, ann0⟩,
  ⟨(some 11), (Op.binOp BinOp.add 3 (Operand.tmp 10) (Operand.const (Value.int IntKind.i64 1)) 3), none, ann0⟩,
  ⟨(some 8), (Op.assign (Operand.tmp 11)), none, ann0⟩] none)
 (.post (.block 0 (.pre (.tidy [0, 1, 2, 3, 8] z (z + 0)) (.loop (s90_1 z)))) (.tidy [] z (z + 0))))⟩
theorem F90 (z : Nat) : FOk Try.prog 90 (s90 z) := by unfold FOk; kernel_rfl
def AL (z : Nat) : List (Nat × SFn) := [(9, s9 z), (12, s12 z), (13, s13 z), (14, s14 z), (15, s15 z), (16, s16 z), (17, s17 z), (19, s19 z), (20, s20 z), (21, s21 z), (22, s22 z), (23, s23 z), (26, s26 z), (27, s27 z), (28, s28 z), (29, s29 z), (33, s33 z), (34, s34 z), (35, s35 z), (37, s37 z), (38, s38 z), (39, s39 z), (40, s40 z), (41, s41 z), (47, s47 z), (48, s48 z), (52, s52 z), (53, s53 z), (54, s54 z), (55, s55 z), (56, s56 z), (57, s57 z), (58, s58 z), (59, s59 z), (60, s60 z), (61, s61 z), (62, s62 z), (63, s63 z), (65, s65 z), (66, s66 z), (67, s67 z), (68, s68 z), (69, s69 z), (70, s70 z), (71, s71 z), (72, s72 z), (73, s73 z), (81, s81 z), (82, s82 z), (90, s90 z)]
def AA (f : FuncId) (_ : List AV) (obs : List AObj) : Option SFn := getF f (AL obs.length)
theorem AL_ok (z : Nat) : AllF Try.prog (AL z) := by
  simp only [AL, AllF]
  exact ⟨F9 z, F12 z, F13 z, F14 z, F15 z, F16 z, F17 z, F19 z, F20 z, F21 z, F22 z, F23 z, F26 z, F27 z, F28 z, F29 z, F33 z, F34 z, F35 z, F37 z, F38 z, F39 z, F40 z, F41 z, F47 z, F48 z, F52 z, F53 z, F54 z, F55 z, F56 z, F57 z, F58 z, F59 z, F60 z, F61 z, F62 z, F63 z, F65 z, F66 z, F67 z, F68 z, F69 z, F70 z, F71 z, F72 z, F73 z, F81 z, F82 z, F90 z, trivial⟩
theorem AA_ok (f : FuncId) (xs : List AV) (obs : List AObj) (s : SFn) (h : AA f xs obs = some s) : (Try.prog.funcs[f]?).bind slimFn = some (s.erase Try.prog) := getF_ok (AL_ok _) h
def LL : List (Nat × SLoop) := []
def LT (k : Nat) : Option SLoop := getLp k LL
theorem LT_ok (k : Nat) (l : SLoop) (h : LT k = some l) : loopS Try.prog k = some (l.erase Try.prog) := getLp_ok (t := LL) (by simp only [LL, AllL]) h
theorem A9 (xs : List AV) (obs : List AObj) : AA 9 xs obs = some (s9 obs.length) := rfl
theorem A12 (xs : List AV) (obs : List AObj) : AA 12 xs obs = some (s12 obs.length) := rfl
theorem A13 (xs : List AV) (obs : List AObj) : AA 13 xs obs = some (s13 obs.length) := rfl
theorem A14 (xs : List AV) (obs : List AObj) : AA 14 xs obs = some (s14 obs.length) := rfl
theorem A15 (xs : List AV) (obs : List AObj) : AA 15 xs obs = some (s15 obs.length) := rfl
theorem A16 (xs : List AV) (obs : List AObj) : AA 16 xs obs = some (s16 obs.length) := rfl
theorem A17 (xs : List AV) (obs : List AObj) : AA 17 xs obs = some (s17 obs.length) := rfl
theorem A19 (xs : List AV) (obs : List AObj) : AA 19 xs obs = some (s19 obs.length) := rfl
theorem A20 (xs : List AV) (obs : List AObj) : AA 20 xs obs = some (s20 obs.length) := rfl
theorem A21 (xs : List AV) (obs : List AObj) : AA 21 xs obs = some (s21 obs.length) := rfl
theorem A22 (xs : List AV) (obs : List AObj) : AA 22 xs obs = some (s22 obs.length) := rfl
theorem A23 (xs : List AV) (obs : List AObj) : AA 23 xs obs = some (s23 obs.length) := rfl
theorem A26 (xs : List AV) (obs : List AObj) : AA 26 xs obs = some (s26 obs.length) := rfl
theorem A27 (xs : List AV) (obs : List AObj) : AA 27 xs obs = some (s27 obs.length) := rfl
theorem A28 (xs : List AV) (obs : List AObj) : AA 28 xs obs = some (s28 obs.length) := rfl
theorem A29 (xs : List AV) (obs : List AObj) : AA 29 xs obs = some (s29 obs.length) := rfl
theorem A33 (xs : List AV) (obs : List AObj) : AA 33 xs obs = some (s33 obs.length) := rfl
theorem A34 (xs : List AV) (obs : List AObj) : AA 34 xs obs = some (s34 obs.length) := rfl
theorem A35 (xs : List AV) (obs : List AObj) : AA 35 xs obs = some (s35 obs.length) := rfl
theorem A37 (xs : List AV) (obs : List AObj) : AA 37 xs obs = some (s37 obs.length) := rfl
theorem A38 (xs : List AV) (obs : List AObj) : AA 38 xs obs = some (s38 obs.length) := rfl
theorem A39 (xs : List AV) (obs : List AObj) : AA 39 xs obs = some (s39 obs.length) := rfl
theorem A40 (xs : List AV) (obs : List AObj) : AA 40 xs obs = some (s40 obs.length) := rfl
theorem A41 (xs : List AV) (obs : List AObj) : AA 41 xs obs = some (s41 obs.length) := rfl
theorem A47 (xs : List AV) (obs : List AObj) : AA 47 xs obs = some (s47 obs.length) := rfl
theorem A48 (xs : List AV) (obs : List AObj) : AA 48 xs obs = some (s48 obs.length) := rfl
theorem A52 (xs : List AV) (obs : List AObj) : AA 52 xs obs = some (s52 obs.length) := rfl
theorem A53 (xs : List AV) (obs : List AObj) : AA 53 xs obs = some (s53 obs.length) := rfl
theorem A54 (xs : List AV) (obs : List AObj) : AA 54 xs obs = some (s54 obs.length) := rfl
theorem A55 (xs : List AV) (obs : List AObj) : AA 55 xs obs = some (s55 obs.length) := rfl
theorem A56 (xs : List AV) (obs : List AObj) : AA 56 xs obs = some (s56 obs.length) := rfl
theorem A57 (xs : List AV) (obs : List AObj) : AA 57 xs obs = some (s57 obs.length) := rfl
theorem A58 (xs : List AV) (obs : List AObj) : AA 58 xs obs = some (s58 obs.length) := rfl
theorem A59 (xs : List AV) (obs : List AObj) : AA 59 xs obs = some (s59 obs.length) := rfl
theorem A60 (xs : List AV) (obs : List AObj) : AA 60 xs obs = some (s60 obs.length) := rfl
theorem A61 (xs : List AV) (obs : List AObj) : AA 61 xs obs = some (s61 obs.length) := rfl
theorem A62 (xs : List AV) (obs : List AObj) : AA 62 xs obs = some (s62 obs.length) := rfl
theorem A63 (xs : List AV) (obs : List AObj) : AA 63 xs obs = some (s63 obs.length) := rfl
theorem A65 (xs : List AV) (obs : List AObj) : AA 65 xs obs = some (s65 obs.length) := rfl
theorem A66 (xs : List AV) (obs : List AObj) : AA 66 xs obs = some (s66 obs.length) := rfl
theorem A67 (xs : List AV) (obs : List AObj) : AA 67 xs obs = some (s67 obs.length) := rfl
theorem A68 (xs : List AV) (obs : List AObj) : AA 68 xs obs = some (s68 obs.length) := rfl
theorem A69 (xs : List AV) (obs : List AObj) : AA 69 xs obs = some (s69 obs.length) := rfl
theorem A70 (xs : List AV) (obs : List AObj) : AA 70 xs obs = some (s70 obs.length) := rfl
theorem A71 (xs : List AV) (obs : List AObj) : AA 71 xs obs = some (s71 obs.length) := rfl
theorem A72 (xs : List AV) (obs : List AObj) : AA 72 xs obs = some (s72 obs.length) := rfl
theorem A73 (xs : List AV) (obs : List AObj) : AA 73 xs obs = some (s73 obs.length) := rfl
theorem A81 (xs : List AV) (obs : List AObj) : AA 81 xs obs = some (s81 obs.length) := rfl
theorem A82 (xs : List AV) (obs : List AObj) : AA 82 xs obs = some (s82 obs.length) := rfl
theorem A90 (xs : List AV) (obs : List AObj) : AA 90 xs obs = some (s90 obs.length) := rfl
end Go.Proofs.YtdgpipoffcajgaaV
