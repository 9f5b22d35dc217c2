/- The table of types and the functions' code, with notes for the interpreter, and the facts that they are the program's: made by a program. -/
import Derived.Test.YtpooehcjchkbkaaVC
import Derived.Test.YtpooehcjchkbkaaProg
import Derived.KernelRfl
set_option linter.unusedVariables false
namespace Go.Proofs.YtpooehcjchkbkaaV
open Go.RowKit

def ZA89 : List AV := List.flatten (List.replicate 256 [(.d (.str ⟨#[]⟩)), (.d (.str ⟨#[]⟩)), (.d (.int .i64 0)), (.d (.int .i64 0))])
def TT : Tbl := [(3, ⟨.int .i64, 1, 8, [(.d (.int .i64 0))]⟩),
  (4, ⟨.bool, 1, 1, [(.d (.bool false))]⟩),
  (5, ⟨.int .u8, 1, 1, [(.d (.int .u8 0))]⟩),
  (9, ⟨.str, 1, 16, [(.d (.str ⟨#[]⟩))]⟩),
  (23, ⟨.struct [(0, 9, 1), (1, 9, 1), (2, 9, 1), (3, 3, 1), (4, 3, 1), (5, 3, 1), (6, 3, 1), (7, 3, 1)], 8, 88, [(.d (.str ⟨#[]⟩)), (.d (.str ⟨#[]⟩)), (.d (.str ⟨#[]⟩)), (.d (.int .i64 0)), (.d (.int .i64 0)), (.d (.int .i64 0)), (.d (.int .i64 0)), (.d (.int .i64 0))]⟩),
  (25, ⟨.struct [(0, 5, 1), (1, 5, 1), (2, 5, 1), (3, 5, 1), (4, 5, 1)], 5, 5, [(.d (.int .u8 0)), (.d (.int .u8 0)), (.d (.int .u8 0)), (.d (.int .u8 0)), (.d (.int .u8 0))]⟩),
  (27, ⟨.int .i64, 1, 8, [(.d (.int .i64 0))]⟩),
  (32, ⟨.struct [(0, 3, 1), (1, 3, 1)], 2, 16, [(.d (.int .i64 0)), (.d (.int .i64 0))]⟩),
  (33, ⟨.slice 3, 1, 24, [(.d .nils)]⟩),
  (35, ⟨.struct [(0, 9, 1), (1, 9, 1), (2, 3, 1), (3, 32, 2), (5, 3, 1), (6, 33, 1)], 7, 88, [(.d (.str ⟨#[]⟩)), (.d (.str ⟨#[]⟩)), (.d (.int .i64 0)), (.d (.int .i64 0)), (.d (.int .i64 0)), (.d (.int .i64 0)), (.d .nils)]⟩),
  (39, ⟨.slice 57, 1, 24, [(.d .nils)]⟩),
  (50, ⟨.slice 59, 1, 24, [(.d .nils)]⟩),
  (52, ⟨.struct [(0, 5, 1), (1, 50, 1)], 2, 32, [(.d (.int .u8 0)), (.d .nils)]⟩),
  (57, ⟨.struct [(0, 3, 1), (1, 3, 1), (2, 3, 1)], 3, 24, [(.d (.int .i64 0)), (.d (.int .i64 0)), (.d (.int .i64 0))]⟩),
  (59, ⟨.arr 2 5, 2, 2, [(.d (.int .u8 0)), (.d (.int .u8 0))]⟩),
  (64, ⟨.slice 23, 1, 24, [(.d .nils)]⟩),
  (65, ⟨.slice 70, 1, 24, [(.d .nils)]⟩),
  (66, ⟨.ptr, 1, 8, [.nilp]⟩),
  (70, ⟨.struct [(0, 9, 1), (1, 9, 1), (2, 3, 1), (3, 3, 1)], 4, 48, [(.d (.str ⟨#[]⟩)), (.d (.str ⟨#[]⟩)), (.d (.int .i64 0)), (.d (.int .i64 0))]⟩),
  (71, ⟨.slice 83, 1, 24, [(.d .nils)]⟩),
  (77, ⟨.slice 9, 1, 24, [(.d .nils)]⟩),
  (81, ⟨.arr 2 3, 2, 16, [(.d (.int .i64 0)), (.d (.int .i64 0))]⟩),
  (83, ⟨.struct [(0, 9, 1), (1, 3, 1), (2, 3, 1), (3, 3, 1)], 4, 40, [(.d (.str ⟨#[]⟩)), (.d (.int .i64 0)), (.d (.int .i64 0)), (.d (.int .i64 0))]⟩),
  (88, ⟨.ptr, 1, 8, [.nilp]⟩),
  (89, ⟨.arr 256 70, 1024, 12288, ZA89⟩),
  (91, ⟨.struct [(0, 23, 8), (8, 89, 1024), (1032, 3, 1), (1033, 3, 1), (1034, 3, 1)], 1035, 12400, ([(.d (.str ⟨#[]⟩)), (.d (.str ⟨#[]⟩)), (.d (.str ⟨#[]⟩)), (.d (.int .i64 0)), (.d (.int .i64 0)), (.d (.int .i64 0)), (.d (.int .i64 0)), (.d (.int .i64 0))] ++ ZA89 ++ [(.d (.int .i64 0)), (.d (.int .i64 0)), (.d (.int .i64 0))])⟩),
  (95, ⟨.slice 35, 1, 24, [(.d .nils)]⟩),
  (97, ⟨.slice 91, 1, 24, [(.d .nils)]⟩),
  (99, ⟨.struct [(0, 97, 1), (1, 3, 1)], 2, 32, [(.d .nils), (.d (.int .i64 0))]⟩),
  (100, ⟨.map 9 4, 1, 8, [.nilm]⟩),
  (112, ⟨.int .u64, 1, 8, [(.d (.int .u64 0))]⟩)]
theorem TT_ok : TOk Try.prog TT := by unfold TOk; kernel_rfl
theorem T3 : TT.get 3 = some ⟨.int .i64, 1, 8, [(.d (.int .i64 0))]⟩ := by kernel_rfl
theorem T4 : TT.get 4 = some ⟨.bool, 1, 1, [(.d (.bool false))]⟩ := by kernel_rfl
theorem T5 : TT.get 5 = some ⟨.int .u8, 1, 1, [(.d (.int .u8 0))]⟩ := by kernel_rfl
theorem T9 : TT.get 9 = some ⟨.str, 1, 16, [(.d (.str ⟨#[]⟩))]⟩ := by kernel_rfl
theorem T23 : TT.get 23 = some ⟨.struct [(0, 9, 1), (1, 9, 1), (2, 9, 1), (3, 3, 1), (4, 3, 1), (5, 3, 1), (6, 3, 1), (7, 3, 1)], 8, 88, [(.d (.str ⟨#[]⟩)), (.d (.str ⟨#[]⟩)), (.d (.str ⟨#[]⟩)), (.d (.int .i64 0)), (.d (.int .i64 0)), (.d (.int .i64 0)), (.d (.int .i64 0)), (.d (.int .i64 0))]⟩ := by kernel_rfl
theorem T25 : TT.get 25 = some ⟨.struct [(0, 5, 1), (1, 5, 1), (2, 5, 1), (3, 5, 1), (4, 5, 1)], 5, 5, [(.d (.int .u8 0)), (.d (.int .u8 0)), (.d (.int .u8 0)), (.d (.int .u8 0)), (.d (.int .u8 0))]⟩ := by kernel_rfl
theorem T27 : TT.get 27 = some ⟨.int .i64, 1, 8, [(.d (.int .i64 0))]⟩ := by kernel_rfl
theorem T32 : TT.get 32 = some ⟨.struct [(0, 3, 1), (1, 3, 1)], 2, 16, [(.d (.int .i64 0)), (.d (.int .i64 0))]⟩ := by kernel_rfl
theorem T33 : TT.get 33 = some ⟨.slice 3, 1, 24, [(.d .nils)]⟩ := by kernel_rfl
theorem T35 : TT.get 35 = some ⟨.struct [(0, 9, 1), (1, 9, 1), (2, 3, 1), (3, 32, 2), (5, 3, 1), (6, 33, 1)], 7, 88, [(.d (.str ⟨#[]⟩)), (.d (.str ⟨#[]⟩)), (.d (.int .i64 0)), (.d (.int .i64 0)), (.d (.int .i64 0)), (.d (.int .i64 0)), (.d .nils)]⟩ := by kernel_rfl
theorem T39 : TT.get 39 = some ⟨.slice 57, 1, 24, [(.d .nils)]⟩ := by kernel_rfl
theorem T50 : TT.get 50 = some ⟨.slice 59, 1, 24, [(.d .nils)]⟩ := by kernel_rfl
theorem T52 : TT.get 52 = some ⟨.struct [(0, 5, 1), (1, 50, 1)], 2, 32, [(.d (.int .u8 0)), (.d .nils)]⟩ := by kernel_rfl
theorem T57 : TT.get 57 = some ⟨.struct [(0, 3, 1), (1, 3, 1), (2, 3, 1)], 3, 24, [(.d (.int .i64 0)), (.d (.int .i64 0)), (.d (.int .i64 0))]⟩ := by kernel_rfl
theorem T59 : TT.get 59 = some ⟨.arr 2 5, 2, 2, [(.d (.int .u8 0)), (.d (.int .u8 0))]⟩ := by kernel_rfl
theorem T64 : TT.get 64 = some ⟨.slice 23, 1, 24, [(.d .nils)]⟩ := by kernel_rfl
theorem T65 : TT.get 65 = some ⟨.slice 70, 1, 24, [(.d .nils)]⟩ := by kernel_rfl
theorem T66 : TT.get 66 = some ⟨.ptr, 1, 8, [.nilp]⟩ := by kernel_rfl
theorem T70 : TT.get 70 = some ⟨.struct [(0, 9, 1), (1, 9, 1), (2, 3, 1), (3, 3, 1)], 4, 48, [(.d (.str ⟨#[]⟩)), (.d (.str ⟨#[]⟩)), (.d (.int .i64 0)), (.d (.int .i64 0))]⟩ := by kernel_rfl
theorem T71 : TT.get 71 = some ⟨.slice 83, 1, 24, [(.d .nils)]⟩ := by kernel_rfl
theorem T77 : TT.get 77 = some ⟨.slice 9, 1, 24, [(.d .nils)]⟩ := by kernel_rfl
theorem T81 : TT.get 81 = some ⟨.arr 2 3, 2, 16, [(.d (.int .i64 0)), (.d (.int .i64 0))]⟩ := by kernel_rfl
theorem T83 : TT.get 83 = some ⟨.struct [(0, 9, 1), (1, 3, 1), (2, 3, 1), (3, 3, 1)], 4, 40, [(.d (.str ⟨#[]⟩)), (.d (.int .i64 0)), (.d (.int .i64 0)), (.d (.int .i64 0))]⟩ := by kernel_rfl
theorem T88 : TT.get 88 = some ⟨.ptr, 1, 8, [.nilp]⟩ := by kernel_rfl
theorem T89 : TT.get 89 = some ⟨.arr 256 70, 1024, 12288, ZA89⟩ := by kernel_rfl
theorem T91 : TT.get 91 = some ⟨.struct [(0, 23, 8), (8, 89, 1024), (1032, 3, 1), (1033, 3, 1), (1034, 3, 1)], 1035, 12400, ([(.d (.str ⟨#[]⟩)), (.d (.str ⟨#[]⟩)), (.d (.str ⟨#[]⟩)), (.d (.int .i64 0)), (.d (.int .i64 0)), (.d (.int .i64 0)), (.d (.int .i64 0)), (.d (.int .i64 0))] ++ ZA89 ++ [(.d (.int .i64 0)), (.d (.int .i64 0)), (.d (.int .i64 0))])⟩ := by kernel_rfl
theorem T95 : TT.get 95 = some ⟨.slice 35, 1, 24, [(.d .nils)]⟩ := by kernel_rfl
theorem T97 : TT.get 97 = some ⟨.slice 91, 1, 24, [(.d .nils)]⟩ := by kernel_rfl
theorem T99 : TT.get 99 = some ⟨.struct [(0, 97, 1), (1, 3, 1)], 2, 32, [(.d .nils), (.d (.int .i64 0))]⟩ := by kernel_rfl
theorem T100 : TT.get 100 = some ⟨.map 9 4, 1, 8, [.nilm]⟩ := by kernel_rfl
theorem T112 : TT.get 112 = some ⟨.int .u64, 1, 8, [(.d (.int .u64 0))]⟩ := by kernel_rfl
def c10_1 (z : Nat) : SC := .post (.seq (.post (.seq (.post (.reg [⟨(some 34), (Op.move (Operand.tmp 8)), none, ann0⟩,
  ⟨(some 35), (Op.move (Operand.tmp 0)), none, ann0⟩,
  ⟨(some 36), (Op.call { callee := (Callee.builtin Builtin.len), args := #[(Operand.tmp 35)], argTypes := #[64] }), none, ann0⟩,
  ⟨(some 37), (Op.binOp BinOp.lss 3 (Operand.tmp 34) (Operand.tmp 36) 3), none, ann0⟩,
  ⟨(some 38), (Op.move (Operand.tmp 37)), none, ann0⟩,
  ⟨(some 39), (Op.move (Operand.tmp 7)), (some (38, true)), ann0⟩,
  ⟨(some 40), (Op.binOp BinOp.eql 27 (Operand.tmp 39) (Operand.const (Value.int IntKind.i64 0)) 27), (some (38, true)), ann0⟩,
  ⟨(some 41), (Op.pick (Operand.tmp 38) (Operand.tmp 40) (Operand.const (Value.bool false))), none, ann0⟩] none) (.tidy [0, 1, 2, 7, 8, 41] z (z + 0)))
 (.cond (Operand.tmp 41) .skip
 (.exit 0))) (.tidy [0, 1, 2, 8] z (z + 0)))
 (.seq (.post (.block 1 (.seq (.post (.seq (.post (.reg [⟨(some 44), (Op.move (Operand.tmp 0)), none, ann0⟩,
  ⟨(some 45), (Op.move (Operand.tmp 8)), none, ann0⟩,
  ⟨(some 46), (Op.indexAddr 64 (Operand.tmp 44) (Operand.tmp 45)), none, ann0⟩,
  ⟨(some 47), (Op.fieldAddr 23 (Operand.tmp 46) 0), none, ann0⟩,
  ⟨(some 48), (Op.load 9 (Operand.tmp 47)), none, ann0⟩,
  ⟨(some 49), (Op.call { callee := (Callee.builtin Builtin.len), args := #[(Operand.tmp 48)], argTypes := #[9] }), none, ann0⟩,
  ⟨(some 50), (Op.move (Operand.tmp 0)), none, ann0⟩,
  ⟨(some 51), (Op.move (Operand.tmp 8)), none, ann0⟩,
  ⟨(some 52), (Op.indexAddr 64 (Operand.tmp 50) (Operand.tmp 51)), none, ann0⟩,
  ⟨(some 53), (Op.fieldAddr 23 (Operand.tmp 52) 1), none, ann0⟩,
  ⟨(some 54), (Op.load 9 (Operand.tmp 53)), none, ann0⟩,
  ⟨(some 55), (Op.call { callee := (Callee.builtin Builtin.len), args := #[(Operand.tmp 54)], argTypes := #[9] }), none, ann0⟩,
  ⟨(some 56), (Op.binOp BinOp.add 3 (Operand.tmp 49) (Operand.tmp 55) 3), none, ann0⟩,
  ⟨(some 57), (Op.move (Operand.tmp 0)), none, ann0⟩,
  ⟨(some 58), (Op.move (Operand.tmp 8)), none, ann0⟩,
  ⟨(some 59), (Op.indexAddr 64 (Operand.tmp 57) (Operand.tmp 58)), none, ann0⟩,
  ⟨(some 60), (Op.fieldAddr 23 (Operand.tmp 59) 2), none, ann0⟩,
  ⟨(some 61), (Op.load 9 (Operand.tmp 60)), none, ann0⟩,
  ⟨(some 62), (Op.call { callee := (Callee.builtin Builtin.len), args := #[(Operand.tmp 61)], argTypes := #[9] }), none, ann0⟩,
  ⟨(some 63), (Op.binOp BinOp.add 3 (Operand.tmp 56) (Operand.tmp 62) 3), none, ann0⟩,
  ⟨(some 64), (Op.binOp BinOp.gtr 3 (Operand.tmp 63) (Operand.const (Value.int IntKind.i64 240)) 3), none, ann0⟩] (some [0, 0, 3, 7, 15, 31, 0, 0, 192, 448, 960, 1984, 4095, 0, 0, 24576, 57344, 122880, 253952, 524287, 1048575])) (.tidy [0, 1, 2, 8, 64] z (z + 0)))
 (.cond (Operand.tmp 64) (.seq (.reg [⟨(some 6), (Op.assign (Operand.const (Value.bool true))), none, ann0⟩] none)
 .ret)
 .skip)) (.tidy [0, 1, 2, 8] z (z + 0)))
 (.reg [⟨(some 65), (Op.move (Operand.tmp 0)), none, ann0⟩,
  ⟨(some 66), (Op.move (Operand.tmp 8)), none, ann0⟩,
  ⟨(some 67), (Op.indexAddr 64 (Operand.tmp 65) (Operand.tmp 66)), none, ann0⟩,
  ⟨(some 68), (Op.load 23 (Operand.tmp 67)), none, ann0⟩,
  ⟨(some 69), (Op.call { callee := (Callee.value (Operand.func 15)), args := #[(Operand.tmp 68)], argTypes := #[23] }), none, ann0⟩,
  ⟨(some 7), (Op.assign (Operand.tmp 69)), none, ann0⟩] none))) (.tidy [0, 1, 2, 7, 8] z (z + 0)))
 (.reg [⟨(some 42), (Op.move (Operand.tmp 8)), none, ann0⟩,
  ⟨(some 43), (Op.binOp BinOp.add 3 (Operand.tmp 42) (Operand.const (Value.int IntKind.i64 1)) 3), none, ann0⟩,
  ⟨(some 8), (Op.assign (Operand.tmp 43)), none, ann0⟩] none))) (.tidy [0, 1, 2, 7, 8] z (z + 0))
def s10_1 (z : Nat) : SC := c10_1 z
theorem e10_1 {C : Pg} {z : Nat} {st : St} {ks : List Fr} {K : Ex → St → Prop} : wpk C (s10_1 z) st ks K ↔ wpk C (c10_1 z) st ks K := Iff.rfl
def c10_3 (z : Nat) : SC := .post (.seq (.seq (.reg [⟨(some 80), (Op.move (Operand.tmp 10)), none, ann0⟩,
  ⟨(some 81), (Op.move (Operand.tmp 9)), none, ann0⟩,
  ⟨(some 82), (Op.binOp BinOp.lss 3 (Operand.tmp 80) (Operand.tmp 81) 3), none, ann0⟩] none)
 (.cond (Operand.tmp 82) .skip
 (.exit 4)))
 (.seq (.post (.block 5 (.seq (.post (.reg [⟨(some 85), (Op.move (Operand.tmp 0)), none, ann0⟩,
  ⟨(some 86), (Op.move (Operand.tmp 9)), none, ann0⟩,
  ⟨(some 87), (Op.indexAddr 64 (Operand.tmp 85) (Operand.tmp 86)), none, ann0⟩,
  ⟨(some 88), (Op.fieldAddr 23 (Operand.tmp 87) 0), none, ann0⟩,
  ⟨(some 89), (Op.load 9 (Operand.tmp 88)), none, ann0⟩,
  ⟨(some 90), (Op.move (Operand.tmp 0)), none, ann0⟩,
  ⟨(some 91), (Op.move (Operand.tmp 10)), none, ann0⟩,
  ⟨(some 92), (Op.indexAddr 64 (Operand.tmp 90) (Operand.tmp 91)), none, ann0⟩,
  ⟨(some 93), (Op.fieldAddr 23 (Operand.tmp 92) 0), none, ann0⟩,
  ⟨(some 94), (Op.load 9 (Operand.tmp 93)), none, ann0⟩,
  ⟨(some 95), (Op.binOp BinOp.eql 9 (Operand.tmp 89) (Operand.tmp 94) 9), none, ann0⟩] (some [0, 0, 3, 7, 15, 0, 0, 96, 224, 480, 1023])) (.tidy [0, 1, 2, 7, 9, 10, 95] z (z + 0)))
 (.cond (Operand.tmp 95) (.reg [⟨(some 7), (Op.assign (Operand.const (Value.int IntKind.i64 9))), none, ann0⟩] none)
 .skip))) (.tidy [0, 1, 2, 7, 9, 10] z (z + 0)))
 (.reg [⟨(some 83), (Op.move (Operand.tmp 10)), none, ann0⟩,
  ⟨(some 84), (Op.binOp BinOp.add 3 (Operand.tmp 83) (Operand.const (Value.int IntKind.i64 1)) 3), none, ann0⟩,
  ⟨(some 10), (Op.assign (Operand.tmp 84)), none, ann0⟩] none))) (.tidy [0, 1, 2, 7, 9, 10] z (z + 0))
def s10_3 (z : Nat) : SC := c10_3 z
theorem e10_3 {C : Pg} {z : Nat} {st : St} {ks : List Fr} {K : Ex → St → Prop} : wpk C (s10_3 z) st ks K ↔ wpk C (c10_3 z) st ks K := Iff.rfl
def c10_2 (z : Nat) : SC := .post (.seq (.post (.seq (.post (.reg [⟨(some 70), (Op.move (Operand.tmp 9)), none, ann0⟩,
  ⟨(some 71), (Op.move (Operand.tmp 0)), none, ann0⟩,
  ⟨(some 72), (Op.call { callee := (Callee.builtin Builtin.len), args := #[(Operand.tmp 71)], argTypes := #[64] }), none, ann0⟩,
  ⟨(some 73), (Op.binOp BinOp.lss 3 (Operand.tmp 70) (Operand.tmp 72) 3), none, ann0⟩,
  ⟨(some 74), (Op.move (Operand.tmp 73)), none, ann0⟩,
  ⟨(some 75), (Op.move (Operand.tmp 7)), (some (74, true)), ann0⟩,
  ⟨(some 76), (Op.binOp BinOp.eql 27 (Operand.tmp 75) (Operand.const (Value.int IntKind.i64 0)) 27), (some (74, true)), ann0⟩,
  ⟨(some 77), (Op.pick (Operand.tmp 74) (Operand.tmp 76) (Operand.const (Value.bool false))), none, ann0⟩] none) (.tidy [0, 1, 2, 7, 9, 77] z (z + 0)))
 (.cond (Operand.tmp 77) .skip
 (.exit 2))) (.tidy [0, 1, 2, 7, 9] z (z + 0)))
 (.seq (.post (.block 3 (.seq (.reg [⟨(some 10), (Op.assign (Operand.const (Value.int IntKind.i64 0))), none, ann0⟩] none)
 (.post (.block 4 (.pre (.tidy [0, 1, 2, 7, 9, 10] z (z + 0)) (.loop (s10_3 z)))) (.tidy [0, 1, 2, 7, 9] z (z + 0))))) (.tidy [0, 1, 2, 7, 9] z (z + 0)))
 (.reg [⟨(some 78), (Op.move (Operand.tmp 9)), none, ann0⟩,
  ⟨(some 79), (Op.binOp BinOp.add 3 (Operand.tmp 78) (Operand.const (Value.int IntKind.i64 1)) 3), none, ann0⟩,
  ⟨(some 9), (Op.assign (Operand.tmp 79)), none, ann0⟩] none))) (.tidy [0, 1, 2, 7, 9] z (z + 0))
def s10_2 (z : Nat) : SC := c10_2 z
theorem e10_2 {C : Pg} {z : Nat} {st : St} {ks : List Fr} {K : Ex → St → Prop} : wpk C (s10_2 z) st ks K ↔ wpk C (c10_2 z) st ks K := Iff.rfl
def c10_4 (z : Nat) : SC := .post (.seq (.seq (.post (.reg [⟨(some 133), (Op.move (Operand.tmp 16)), none, ann0⟩,
  ⟨(some 134), (Op.move (Operand.tmp 2)), none, ann0⟩,
  ⟨(some 135), (Op.call { callee := (Callee.builtin Builtin.len), args := #[(Operand.tmp 134)], argTypes := #[65] }), none, ann0⟩,
  ⟨(some 136), (Op.binOp BinOp.lss 3 (Operand.tmp 133) (Operand.tmp 135) 3), none, ann0⟩] none) (.tidy [1, 2, 11, 15, 16, 136] z (z + 3)))
 (.cond (Operand.tmp 136) .skip
 (.exit 6)))
 (.seq (.post (.block 7 (.seq (.post (.reg [⟨(some 139), (Op.move (Operand.tmp 2)), none, ann0⟩,
  ⟨(some 140), (Op.move (Operand.tmp 16)), none, ann0⟩,
  ⟨(some 141), (Op.indexAddr 65 (Operand.tmp 139) (Operand.tmp 140)), none, ann0⟩,
  ⟨(some 142), (Op.fieldAddr 70 (Operand.tmp 141) 3), none, ann0⟩,
  ⟨(some 143), (Op.load 3 (Operand.tmp 142)), none, ann0⟩,
  ⟨(some 144), (Op.binOp BinOp.lss 3 (Operand.tmp 143) (Operand.const (Value.int IntKind.i64 0)) 3), none, ann0⟩,
  ⟨(some 145), (Op.move (Operand.tmp 144)), none, ann0⟩,
  ⟨(some 146), (Op.move (Operand.tmp 2)), (some (145, false)), ann0⟩,
  ⟨(some 147), (Op.move (Operand.tmp 16)), (some (145, false)), ann0⟩,
  ⟨(some 148), (Op.indexAddr 65 (Operand.tmp 146) (Operand.tmp 147)), (some (145, false)), ann0⟩,
  ⟨(some 149), (Op.fieldAddr 70 (Operand.tmp 148) 3), (some (145, false)), ann0⟩,
  ⟨(some 150), (Op.load 3 (Operand.tmp 149)), (some (145, false)), ann0⟩,
  ⟨(some 151), (Op.binOp BinOp.gtr 3 (Operand.tmp 150) (Operand.const (Value.int IntKind.i64 1048576)) 3), (some (145, false)), ann0⟩,
  ⟨(some 152), (Op.pick (Operand.tmp 145) (Operand.const (Value.bool true)) (Operand.tmp 151)), none, ann0⟩,
  ⟨(some 153), (Op.move (Operand.tmp 152)), none, ann0⟩,
  ⟨(some 154), (Op.move (Operand.tmp 2)), (some (153, false)), ann0⟩,
  ⟨(some 155), (Op.move (Operand.tmp 16)), (some (153, false)), ann0⟩,
  ⟨(some 156), (Op.indexAddr 65 (Operand.tmp 154) (Operand.tmp 155)), (some (153, false)), ann0⟩,
  ⟨(some 157), (Op.fieldAddr 70 (Operand.tmp 156) 2), (some (153, false)), ann0⟩,
  ⟨(some 158), (Op.load 3 (Operand.tmp 157)), (some (153, false)), ann0⟩,
  ⟨(some 159), (Op.binOp BinOp.lss 3 (Operand.tmp 158) (Operand.const (Value.int IntKind.i64 0)) 3), (some (153, false)), ann0⟩,
  ⟨(some 160), (Op.pick (Operand.tmp 153) (Operand.const (Value.bool true)) (Operand.tmp 159)), none, ann0⟩,
  ⟨(some 161), (Op.move (Operand.tmp 160)), none, ann0⟩,
  ⟨(some 162), (Op.move (Operand.tmp 2)), (some (161, false)), ann0⟩,
  ⟨(some 163), (Op.move (Operand.tmp 16)), (some (161, false)), ann0⟩,
  ⟨(some 164), (Op.indexAddr 65 (Operand.tmp 162) (Operand.tmp 163)), (some (161, false)), ann0⟩,
  ⟨(some 165), (Op.fieldAddr 70 (Operand.tmp 164) 2), (some (161, false)), ann0⟩,
  ⟨(some 166), (Op.load 3 (Operand.tmp 165)), (some (161, false)), ann0⟩,
  ⟨(some 167), (Op.move (Operand.tmp 2)), (some (161, false)), ann0⟩,
  ⟨(some 168), (Op.move (Operand.tmp 16)), (some (161, false)), ann0⟩,
  ⟨(some 169), (Op.indexAddr 65 (Operand.tmp 167) (Operand.tmp 168)), (some (161, false)), ann0⟩,
  ⟨(some 170), (Op.fieldAddr 70 (Operand.tmp 169) 3), (some (161, false)), ann0⟩,
  ⟨(some 171), (Op.load 3 (Operand.tmp 170)), (some (161, false)), ann0⟩,
  ⟨(some 172), (Op.binOp BinOp.gtr 3 (Operand.tmp 166) (Operand.tmp 171) 3), (some (161, false)), ann0⟩,
  ⟨(some 173), (Op.pick (Operand.tmp 161) (Operand.const (Value.bool true)) (Operand.tmp 172)), none, ann0⟩] (some [0, 0, 3, 7, 15, 31, 63, 127, 127, 511, 1023, 2047, 4095, 8191, 16383, 32767, 32767, 131071, 262143, 524287, 1048575, 2097151, 4194303, 8388607, 8388607, 33554431, 67108863, 134217727, 8388607, 8388607, 813694975, 1887436799, 4034920447, 8589934591, 17179869183])) (.tidy [1, 2, 11, 15, 16, 173] z (z + 3)))
 (.cond (Operand.tmp 173) (.reg [⟨(some 15), (Op.assign (Operand.const (Value.int IntKind.i64 2))), none, ann0⟩] none)
 .skip))) (.tidy [1, 2, 11, 15, 16] z (z + 3)))
 (.reg [⟨(some 137), (Op.move (Operand.tmp 16)), none, ann0⟩,
  ⟨(some 138), (Op.binOp BinOp.add 3 (Operand.tmp 137) (Operand.const (Value.int IntKind.i64 1)) 3), none, ann0⟩,
  ⟨(some 16), (Op.assign (Operand.tmp 138)), none, ann0⟩] none))) (.tidy [1, 2, 11, 15, 16] z (z + 3))
def s10_4 (z : Nat) : SC := c10_4 z
theorem e10_4 {C : Pg} {z : Nat} {st : St} {ks : List Fr} {K : Ex → St → Prop} : wpk C (s10_4 z) st ks K ↔ wpk C (c10_4 z) st ks K := Iff.rfl
def s10 (z : Nat) : SFn := ⟨3, 218, [(ResultVar.tmp 6)],
 (.seq (.reg [⟨(some 6), (Op.assign (Operand.const (Value.bool false))), none, ann0⟩] none)
 (.seq (.post (.seq (.post (.reg [⟨(some 21), (Op.call { callee := (Callee.value (Operand.func 13)), args := #[], argTypes := #[] }), none, ann0⟩,
  ⟨(some 22), (Op.unOp UnOp.not 4 (Operand.tmp 21)), none, ann0⟩,
  ⟨(some 23), (Op.move (Operand.tmp 22)), none, ann0⟩,
  ⟨(some 24), (Op.move (Operand.tmp 0)), (some (23, false)), ann0⟩,
  ⟨(some 25), (Op.call { callee := (Callee.builtin Builtin.len), args := #[(Operand.tmp 24)], argTypes := #[64] }), (some (23, false)), ann0⟩,
  ⟨(some 26), (Op.binOp BinOp.gtr 3 (Operand.tmp 25) (Operand.const (Value.int IntKind.i64 4)) 3), (some (23, false)), ann0⟩,
  ⟨(some 27), (Op.pick (Operand.tmp 23) (Operand.const (Value.bool true)) (Operand.tmp 26)), none, ann0⟩,
  ⟨(some 28), (Op.move (Operand.tmp 27)), none, ann0⟩,
  ⟨(some 29), (Op.move (Operand.tmp 2)), (some (28, false)), ann0⟩,
  ⟨(some 30), (Op.call { callee := (Callee.builtin Builtin.len), args := #[(Operand.tmp 29)], argTypes := #[65] }), (some (28, false)), ann0⟩,
  ⟨(some 31), (Op.binOp BinOp.gtr 3 (Operand.tmp 30) (Operand.const (Value.int IntKind.i64 4)) 3), (some (28, false)), ann0⟩,
  ⟨(some 32), (Op.pick (Operand.tmp 28) (Operand.const (Value.bool true)) (Operand.tmp 31)), none, ann0⟩] none) (.tidy [0, 1, 2, 32] z (z + 0)))
 (.cond (Operand.tmp 32) (.seq (.reg [⟨(some 33), (Op.call { callee := (Callee.value (Operand.func 13)), args := #[], argTypes := #[] }), none, ann0⟩,
  ⟨(some 6), (Op.assign (Operand.tmp 33)), none, ann0⟩] none)
 .ret)
 .skip)) (.tidy [0, 1, 2] z (z + 0)))
 (.seq (.reg [⟨(some 7), (Op.assign (Operand.const (Value.int IntKind.i64 0))), none, ann0⟩] none)
 (.seq (.post (.seq (.reg [⟨(some 8), (Op.assign (Operand.const (Value.int IntKind.i64 0))), none, ann0⟩] none)
 (.post (.block 0 (.pre (.tidy [0, 1, 2, 7, 8] z (z + 0)) (.loop (s10_1 z)))) (.tidy [0, 1, 2, 7] z (z + 0)))) (.tidy [0, 1, 2, 7] z (z + 0)))
 (.seq (.post (.seq (.reg [⟨(some 9), (Op.assign (Operand.const (Value.int IntKind.i64 0))), none, ann0⟩] none)
 (.post (.block 2 (.pre (.tidy [0, 1, 2, 7, 9] z (z + 0)) (.loop (s10_2 z)))) (.tidy [0, 1, 2, 7] z (z + 0)))) (.tidy [0, 1, 2, 7] z (z + 0)))
 (.seq (.post (.seq (.post (.reg [⟨(some 96), (Op.move (Operand.tmp 7)), none, ann0⟩,
  ⟨(some 97), (Op.binOp BinOp.eql 27 (Operand.tmp 96) (Operand.const (Value.int IntKind.i64 0)) 27), none, ann0⟩,
  ⟨(some 98), (Op.move (Operand.tmp 97)), none, ann0⟩,
  ⟨(some 99), (Op.move (Operand.tmp 1)), (some (98, true)), ann0⟩,
  ⟨(some 100), (Op.binOp BinOp.lss 3 (Operand.tmp 99) (Operand.const (Value.int IntKind.i64 0)) 3), (some (98, true)), ann0⟩,
  ⟨(some 101), (Op.move (Operand.tmp 100)), (some (98, true)), ann0⟩,
  ⟨(some 102), (Op.move (Operand.tmp 1)), (some (101, false)), ann0⟩,
  ⟨(some 103), (Op.binOp BinOp.gtr 3 (Operand.tmp 102) (Operand.const (Value.int IntKind.i64 1048576)) 3), (some (101, false)), ann0⟩,
  ⟨(some 104), (Op.pick (Operand.tmp 101) (Operand.const (Value.bool true)) (Operand.tmp 103)), (some (98, true)), ann0⟩,
  ⟨(some 105), (Op.pick (Operand.tmp 98) (Operand.tmp 104) (Operand.const (Value.bool false))), none, ann0⟩] none) (.tidy [0, 1, 2, 7, 105] z (z + 0)))
 (.cond (Operand.tmp 105) (.reg [⟨(some 7), (Op.assign (Operand.const (Value.int IntKind.i64 32))), none, ann0⟩] none)
 .skip)) (.tidy [0, 1, 2, 7] z (z + 0)))
 (.seq (.post (.reg [⟨(some 107), (Op.move (Operand.tmp 0)), none, ann0⟩,
  ⟨(some 108), (Op.move (Operand.tmp 1)), none, ann0⟩,
  ⟨(some 109), (Op.call { callee := (Callee.value (Operand.func 28)), args := #[(Operand.tmp 107), (Operand.tmp 108)], argTypes := #[64, 3] }), none, ⟨2, false, false⟩⟩,
  ⟨(some 106), (Op.move (Operand.tmp 109)), none, ann0⟩,
  ⟨(some 110), (Op.extract (Operand.tmp 106) 0), none, ann0⟩,
  ⟨(some 111), (Op.extract (Operand.tmp 106) 1), none, ann0⟩,
  ⟨(some 11), (Op.assign (Operand.tmp 110)), none, ann0⟩,
  ⟨(some 12), (Op.assign (Operand.tmp 111)), none, ann0⟩] none) (.tidy [1, 2, 7, 11, 12] z (z + 2)))
 (.seq (.post (.reg [⟨(some 113), (Op.makeSlice 64 (Operand.const (Value.int IntKind.i64 257)) (Operand.const (Value.int IntKind.i64 257))), none, ⟨1, false, false⟩⟩,
  ⟨(some 114), (Op.call { callee := (Callee.value (Operand.func 28)), args := #[(Operand.tmp 113), (Operand.const (Value.int IntKind.i64 0))], argTypes := #[64, 3] }), none, ann0⟩,
  ⟨(some 112), (Op.move (Operand.tmp 114)), none, ann0⟩,
  ⟨(some 115), (Op.extract (Operand.tmp 112) 0), none, ann0⟩,
  ⟨(some 116), (Op.extract (Operand.tmp 112) 1), none, ann0⟩,
  ⟨(some 13), (Op.assign (Operand.tmp 115)), none, ann0⟩,
  ⟨(some 14), (Op.assign (Operand.tmp 116)), none, ann0⟩] none) (.tidy [1, 2, 7, 11, 12, 14] z (z + 3)))
 (.seq (.post (.seq (.post (.reg [⟨(some 117), (Op.move (Operand.tmp 12)), none, ann0⟩,
  ⟨(some 118), (Op.move (Operand.tmp 7)), none, ann0⟩,
  ⟨(some 119), (Op.binOp BinOp.neq 27 (Operand.tmp 117) (Operand.tmp 118) 27), none, ann0⟩,
  ⟨(some 120), (Op.move (Operand.tmp 119)), none, ann0⟩,
  ⟨(some 121), (Op.move (Operand.tmp 11)), (some (120, false)), ann0⟩,
  ⟨(some 122), (Op.binOp BinOp.eql 66 (Operand.tmp 121) (Operand.const (Value.pointer none)) 66), (some (120, false)), ann0⟩,
  ⟨(some 123), (Op.move (Operand.tmp 12)), (some (120, false)), ann0⟩,
  ⟨(some 124), (Op.binOp BinOp.neq 27 (Operand.tmp 123) (Operand.const (Value.int IntKind.i64 0)) 27), (some (120, false)), ann0⟩,
  ⟨(some 125), (Op.binOp BinOp.neq 4 (Operand.tmp 122) (Operand.tmp 124) 4), (some (120, false)), ann0⟩,
  ⟨(some 126), (Op.pick (Operand.tmp 120) (Operand.const (Value.bool true)) (Operand.tmp 125)), none, ann0⟩,
  ⟨(some 127), (Op.move (Operand.tmp 126)), none, ann0⟩,
  ⟨(some 128), (Op.move (Operand.tmp 14)), (some (127, false)), ann0⟩,
  ⟨(some 129), (Op.binOp BinOp.neq 27 (Operand.tmp 128) (Operand.const (Value.int IntKind.i64 6)) 27), (some (127, false)), ann0⟩,
  ⟨(some 130), (Op.pick (Operand.tmp 127) (Operand.const (Value.bool true)) (Operand.tmp 129)), none, ann0⟩] none) (.tidy [1, 2, 11, 12, 130] z (z + 3)))
 (.cond (Operand.tmp 130) (.seq (.reg [⟨(some 6), (Op.assign (Operand.const (Value.bool false))), none, ann0⟩] none)
 .ret)
 .skip)) (.tidy [1, 2, 11, 12] z (z + 3)))
 (.seq (.seq (.reg [⟨(some 131), (Op.move (Operand.tmp 12)), none, ann0⟩,
  ⟨(some 132), (Op.binOp BinOp.neq 27 (Operand.tmp 131) (Operand.const (Value.int IntKind.i64 0)) 27), none, ann0⟩] none)
 (.cond (Operand.tmp 132) (.seq (.reg [⟨(some 6), (Op.assign (Operand.const (Value.bool true))), none, ann0⟩] none)
 .ret)
 .skip))
 (.seq (.reg [⟨(some 15), (Op.assign (Operand.const (Value.int IntKind.i64 0))), none, ann0⟩] none)
 (.seq (.post (.seq (.reg [⟨(some 16), (Op.assign (Operand.const (Value.int IntKind.i64 0))), none, ann0⟩] none)
 (.post (.block 6 (.pre (.tidy [1, 2, 11, 15, 16] z (z + 3)) (.loop (s10_4 z)))) (.tidy [1, 2, 11, 15] z (z + 3)))) (.tidy [1, 2, 11, 15] z (z + 3)))
 (.seq (.post (.reg [⟨(some 175), (Op.move (Operand.tmp 11)), none, ann0⟩,
  ⟨(some 176), (Op.move (Operand.tmp 2)), none, ann0⟩,
  ⟨(some 177), (Op.call { callee := (Callee.value (Operand.func 29)), args := #[(Operand.tmp 175), (Operand.tmp 176)], argTypes := #[66, 65] }), none, ann0⟩,
  ⟨(some 174), (Op.move (Operand.tmp 177)), none, ann0⟩,
  ⟨(some 178), (Op.extract (Operand.tmp 174) 0), none, ann0⟩,
  ⟨(some 179), (Op.extract (Operand.tmp 174) 1), none, ann0⟩,
  ⟨(some 17), (Op.assign (Operand.tmp 178)), none, ann0⟩,
  ⟨(some 18), (Op.assign (Operand.tmp 179)), none, ann0⟩] none) (.tidy [1, 11, 15, 17, 18] z (z + 3)))
 (.seq (.post (.seq (.reg [⟨(some 180), (Op.move (Operand.tmp 15)), none, ann0⟩,
  ⟨(some 181), (Op.binOp BinOp.neq 27 (Operand.tmp 180) (Operand.const (Value.int IntKind.i64 0)) 27), none, ann0⟩] none)
 (.cond (Operand.tmp 181) (.seq (.reg [⟨(some 182), (Op.move (Operand.tmp 18)), none, ann0⟩,
  ⟨(some 183), (Op.move (Operand.tmp 15)), none, ann0⟩,
  ⟨(some 184), (Op.binOp BinOp.eql 27 (Operand.tmp 182) (Operand.tmp 183) 27), none, ann0⟩,
  ⟨(some 185), (Op.move (Operand.tmp 184)), none, ann0⟩,
  ⟨(some 186), (Op.move (Operand.tmp 17)), (some (185, true)), ann0⟩,
  ⟨(some 187), (Op.call { callee := (Callee.builtin Builtin.len), args := #[(Operand.tmp 186)], argTypes := #[71] }), (some (185, true)), ann0⟩,
  ⟨(some 188), (Op.binOp BinOp.eql 3 (Operand.tmp 187) (Operand.const (Value.int IntKind.i64 0)) 3), (some (185, true)), ann0⟩,
  ⟨(some 189), (Op.pick (Operand.tmp 185) (Operand.tmp 188) (Operand.const (Value.bool false))), none, ann0⟩,
  ⟨(some 190), (Op.move (Operand.tmp 189)), none, ann0⟩,
  ⟨(some 191), (Op.move (Operand.tmp 11)), (some (190, true)), ann0⟩,
  ⟨(some 192), (Op.call { callee := (Callee.value (Operand.func 30)), args := #[(Operand.tmp 191)], argTypes := #[66] }), (some (190, true)), ann0⟩,
  ⟨(some 193), (Op.move (Operand.tmp 1)), (some (190, true)), ann0⟩,
  ⟨(some 194), (Op.binOp BinOp.eql 3 (Operand.tmp 192) (Operand.tmp 193) 3), (some (190, true)), ann0⟩,
  ⟨(some 195), (Op.pick (Operand.tmp 190) (Operand.tmp 194) (Operand.const (Value.bool false))), none, ann0⟩,
  ⟨(some 6), (Op.assign (Operand.tmp 195)), none, ann0⟩] none)
 .ret)
 .skip)) (.tidy [1, 11, 18] z (z + 3)))
 (.seq (.post (.reg [⟨(some 197), (Op.move (Operand.tmp 11)), none, ann0⟩,
  ⟨(some 198), (Op.call { callee := (Callee.value (Operand.func 29)), args := #[(Operand.tmp 197), (Operand.const (Value.slice none 0 0))], argTypes := #[66, 65] }), none, ann0⟩,
  ⟨(some 196), (Op.move (Operand.tmp 198)), none, ann0⟩,
  ⟨(some 199), (Op.extract (Operand.tmp 196) 0), none, ann0⟩,
  ⟨(some 200), (Op.extract (Operand.tmp 196) 1), none, ann0⟩,
  ⟨(some 19), (Op.assign (Operand.tmp 199)), none, ann0⟩,
  ⟨(some 20), (Op.assign (Operand.tmp 200)), none, ann0⟩] none) (.tidy [1, 18, 20] z (z + 3)))
 (.seq (.reg [⟨(some 201), (Op.move (Operand.tmp 18)), none, ann0⟩,
  ⟨(some 202), (Op.binOp BinOp.eql 27 (Operand.tmp 201) (Operand.const (Value.int IntKind.i64 0)) 27), none, ann0⟩,
  ⟨(some 203), (Op.move (Operand.tmp 202)), none, ann0⟩,
  ⟨(some 204), (Op.move (Operand.tmp 20)), (some (203, true)), ann0⟩,
  ⟨(some 205), (Op.binOp BinOp.eql 27 (Operand.tmp 204) (Operand.const (Value.int IntKind.i64 0)) 27), (some (203, true)), ann0⟩,
  ⟨(some 206), (Op.move (Operand.tmp 1)), (some (203, true)), ann0⟩,
  ⟨(some 207), (Op.binOp BinOp.lss 3 (Operand.tmp 206) (Operand.const (Value.int IntKind.i64 1048576)) 3), (some (203, true)), ann0⟩,
  ⟨(some 208), (Op.binOp BinOp.eql 4 (Operand.tmp 205) (Operand.tmp 207) 4), (some (203, true)), ann0⟩,
  ⟨(some 209), (Op.pick (Operand.tmp 203) (Operand.tmp 208) (Operand.const (Value.bool false))), none, ann0⟩,
  ⟨(some 210), (Op.move (Operand.tmp 209)), none, ann0⟩,
  ⟨(some 211), (Op.move (Operand.tmp 20)), (some (210, true)), ann0⟩,
  ⟨(some 212), (Op.binOp BinOp.eql 27 (Operand.tmp 211) (Operand.const (Value.int IntKind.i64 0)) 27), (some (210, true)), ann0⟩,
  ⟨(some 213), (Op.move (Operand.tmp 212)), (some (210, true)), ann0⟩,
  ⟨(some 214), (Op.move (Operand.tmp 20)), (some (213, false)), ann0⟩,
  ⟨(some 215), (Op.binOp BinOp.eql 27 (Operand.tmp 214) (Operand.const (Value.int IntKind.i64 32)) 27), (some (213, false)), ann0⟩,
  ⟨(some 216), (Op.pick (Operand.tmp 213) (Operand.const (Value.bool true)) (Operand.tmp 215)), (some (210, true)), ann0⟩,
  ⟨(some 217), (Op.pick (Operand.tmp 210) (Operand.tmp 216) (Operand.const (Value.bool false))), none, ann0⟩,
  ⟨(some 6), (Op.assign (Operand.tmp 217)), none, ann0⟩] none)
 .ret))))))))))))))))⟩
theorem F10 (z : Nat) : FOk Try.prog 10 (s10 z) := by unfold FOk; kernel_rfl
def c12_2 (z : Nat) : SC := .post (.seq (.seq (.reg [⟨(some 91), (Op.move (Operand.tmp 21)), none, ann0⟩,
  ⟨(some 92), (Op.binOp BinOp.lss 3 (Operand.tmp 91) (Operand.const (Value.int IntKind.i64 2)) 3), none, ann0⟩] none)
 (.cond (Operand.tmp 92) .skip
 (.exit 2)))
 (.seq (.post (.block 3 (.seq (.post (.reg [⟨(some 95), (Op.buildSlice 77 2 #[(0, (Operand.const (Value.string ⟨#[114]⟩))), (1, (Operand.const (Value.string ⟨#[115]⟩)))]), none, ⟨1, true, false⟩⟩,
  ⟨(some 96), (Op.move (Operand.tmp 21)), none, ann0⟩,
  ⟨(some 97), (Op.indexAddr 77 (Operand.tmp 95) (Operand.tmp 96)), none, ann0⟩,
  ⟨(some 98), (Op.load 9 (Operand.tmp 97)), none, ann0⟩,
  ⟨(some 22), (Op.assign (Operand.tmp 98)), none, ann0⟩] none) (.tidy [7, 8, 11, 13, 14, 15, 16, 17, 18, 19, 20, 21, 22] z (z + 17)))
 (.seq (.post (.seq (.post (.reg [⟨(some 99), (Op.move (Operand.tmp 21)), none, ann0⟩,
  ⟨(some 100), (Op.indexAddr 81 (Operand.tmp 20) (Operand.tmp 99)), none, ann0⟩,
  ⟨(some 101), (Op.load 3 (Operand.tmp 100)), none, ann0⟩,
  ⟨(some 102), (Op.move (Operand.tmp 21)), none, ann0⟩,
  ⟨(some 103), (Op.indexAddr 81 (Operand.tmp 16) (Operand.tmp 102)), none, ann0⟩,
  ⟨(some 104), (Op.load 3 (Operand.tmp 103)), none, ann0⟩,
  ⟨(some 105), (Op.binOp BinOp.neq 3 (Operand.tmp 101) (Operand.tmp 104) 3), none, ann0⟩] (some [0, 1, 3, 0, 8, 24, 63])) (.tidy [7, 8, 11, 13, 14, 15, 16, 17, 18, 19, 20, 21, 22, 105] z (z + 17)))
 (.cond (Operand.tmp 105) (.reg [⟨(some 106), (Op.move (Operand.tmp 18)), none, ann0⟩,
  ⟨(some 107), (Op.move (Operand.tmp 22)), none, ann0⟩,
  ⟨(some 108), (Op.fieldAddr 35 (Operand.tmp 7) 4), none, ann0⟩,
  ⟨(some 109), (Op.load 3 (Operand.tmp 108)), none, ann0⟩,
  ⟨(some 110), (Op.move (Operand.tmp 17)), none, ann0⟩,
  ⟨(some 111), (Op.binOp BinOp.add 3 (Operand.tmp 109) (Operand.tmp 110) 3), none, ann0⟩,
  ⟨(some 112), (Op.move (Operand.tmp 21)), none, ann0⟩,
  ⟨(some 113), (Op.indexAddr 81 (Operand.tmp 16) (Operand.tmp 112)), none, ann0⟩,
  ⟨(some 114), (Op.load 3 (Operand.tmp 113)), none, ann0⟩,
  ⟨(some 115), (Op.move (Operand.tmp 21)), none, ann0⟩,
  ⟨(some 116), (Op.indexAddr 81 (Operand.tmp 20) (Operand.tmp 115)), none, ann0⟩,
  ⟨(some 117), (Op.load 3 (Operand.tmp 116)), none, ann0⟩,
  ⟨(some 118), (Op.build 83 #[(0, (Operand.tmp 107)), (1, (Operand.tmp 111)), (2, (Operand.tmp 114)), (3, (Operand.tmp 117))]), none, ann0⟩,
  ⟨(some 119), (Op.buildSlice 71 1 #[(0, (Operand.tmp 118))]), none, ⟨1, true, false⟩⟩,
  ⟨(some 120), (Op.call { callee := (Callee.builtin Builtin.append), args := #[(Operand.tmp 106), (Operand.tmp 119)], argTypes := #[71, 71] }), none, ann0⟩,
  ⟨(some 18), (Op.assign (Operand.tmp 120)), none, ann0⟩] (some [0, 0, 0, 4, 0, 28, 0, 64, 192, 0, 512, 1536, 4094, 8190, 16383, 32767]))
 .skip)) (.tidy [7, 8, 11, 13, 14, 15, 16, 17, 18, 19, 20, 21, 22] z (z + 18)))
 (.seq (.reg [⟨(some 121), (Op.move (Operand.tmp 21)), none, ann0⟩,
  ⟨(some 122), (Op.indexAddr 81 (Operand.tmp 20) (Operand.tmp 121)), none, ann0⟩,
  ⟨(some 123), (Op.load 3 (Operand.tmp 122)), none, ann0⟩,
  ⟨(some 124), (Op.binOp BinOp.eql 3 (Operand.tmp 123) (Operand.const (Value.int IntKind.i64 2)) 3), none, ann0⟩] none)
 (.cond (Operand.tmp 124) (.reg [⟨(some 125), (Op.move (Operand.tmp 19)), none, ann0⟩,
  ⟨(some 126), (Op.move (Operand.tmp 22)), none, ann0⟩,
  ⟨(some 127), (Op.buildSlice 77 1 #[(0, (Operand.tmp 126))]), none, ⟨1, true, false⟩⟩,
  ⟨(some 128), (Op.call { callee := (Callee.builtin Builtin.append), args := #[(Operand.tmp 125), (Operand.tmp 127)], argTypes := #[77, 77] }), none, ann0⟩,
  ⟨(some 19), (Op.assign (Operand.tmp 128)), none, ann0⟩] none)
 .skip))))) (.tidy [7, 8, 11, 13, 14, 15, 16, 17, 18, 19, 20, 21] z (z + 19)))
 (.reg [⟨(some 93), (Op.move (Operand.tmp 21)), none, ann0⟩,
  ⟨(some 94), (Op.binOp BinOp.add 3 (Operand.tmp 93) (Operand.const (Value.int IntKind.i64 1)) 3), none, ann0⟩,
  ⟨(some 21), (Op.assign (Operand.tmp 94)), none, ann0⟩] none))) (.tidy [7, 8, 11, 13, 14, 15, 16, 17, 18, 19, 20, 21] z (z + 16))
def s12_2 (z : Nat) : SC := c12_2 z
theorem e12_2 {C : Pg} {z : Nat} {st : St} {ks : List Fr} {K : Ex → St → Prop} : wpk C (s12_2 z) st ks K ↔ wpk C (c12_2 z) st ks K := Iff.rfl
def c12_3 (z : Nat) : SC := .post (.seq (.post (.seq (.reg [⟨(some 210), (Op.move (Operand.tmp 30)), none, ann0⟩,
  ⟨(some 211), (Op.move (Operand.tmp 23)), none, ann0⟩,
  ⟨(some 212), (Op.call { callee := (Callee.builtin Builtin.len), args := #[(Operand.tmp 211)], argTypes := #[71] }), none, ann0⟩,
  ⟨(some 213), (Op.binOp BinOp.lss 3 (Operand.tmp 210) (Operand.tmp 212) 3), none, ann0⟩] none)
 (.cond (Operand.tmp 213) .skip
 (.exit 4))) (.tidy [7, 8, 11, 13, 14, 15, 16, 17, 18, 19, 20, 23, 29, 30] z (z + 17)))
 (.seq (.post (.block 5 (.seq (.post (.reg [⟨(some 216), (Op.move (Operand.tmp 23)), none, ann0⟩,
  ⟨(some 217), (Op.move (Operand.tmp 30)), none, ann0⟩,
  ⟨(some 218), (Op.indexAddr 71 (Operand.tmp 216) (Operand.tmp 217)), none, ann0⟩,
  ⟨(some 219), (Op.load 83 (Operand.tmp 218)), none, ann0⟩,
  ⟨(some 220), (Op.move (Operand.tmp 18)), none, ann0⟩,
  ⟨(some 221), (Op.move (Operand.tmp 30)), none, ann0⟩,
  ⟨(some 222), (Op.indexAddr 71 (Operand.tmp 220) (Operand.tmp 221)), none, ann0⟩,
  ⟨(some 223), (Op.load 83 (Operand.tmp 222)), none, ann0⟩,
  ⟨(some 224), (Op.binOp BinOp.neq 83 (Operand.tmp 219) (Operand.tmp 223) 83), none, ann0⟩] (some [0, 0, 3, 7, 0, 0, 48, 112, 255])) (.tidy [7, 8, 11, 13, 14, 15, 16, 17, 18, 19, 20, 23, 29, 30, 224] z (z + 17)))
 (.cond (Operand.tmp 224) (.seq (.reg [⟨(some 6), (Op.assign (Operand.const (Value.bool false))), none, ann0⟩] none)
 .ret)
 .skip))) (.tidy [7, 8, 11, 13, 14, 15, 16, 17, 18, 19, 20, 23, 29, 30] z (z + 17)))
 (.reg [⟨(some 214), (Op.move (Operand.tmp 30)), none, ann0⟩,
  ⟨(some 215), (Op.binOp BinOp.add 3 (Operand.tmp 214) (Operand.const (Value.int IntKind.i64 1)) 3), none, ann0⟩,
  ⟨(some 30), (Op.assign (Operand.tmp 215)), none, ann0⟩] none))) (.tidy [7, 8, 11, 13, 14, 15, 16, 17, 18, 19, 20, 23, 29, 30] z (z + 17))
def s12_3 (z : Nat) : SC := c12_3 z
theorem e12_3 {C : Pg} {z : Nat} {st : St} {ks : List Fr} {K : Ex → St → Prop} : wpk C (s12_3 z) st ks K ↔ wpk C (c12_3 z) st ks K := Iff.rfl
def c12_4 (z : Nat) : SC := .post (.seq (.post (.seq (.reg [⟨(some 225), (Op.move (Operand.tmp 31)), none, ann0⟩,
  ⟨(some 226), (Op.move (Operand.tmp 29)), none, ann0⟩,
  ⟨(some 227), (Op.call { callee := (Callee.builtin Builtin.len), args := #[(Operand.tmp 226)], argTypes := #[77] }), none, ann0⟩,
  ⟨(some 228), (Op.binOp BinOp.lss 3 (Operand.tmp 225) (Operand.tmp 227) 3), none, ann0⟩] none)
 (.cond (Operand.tmp 228) .skip
 (.exit 6))) (.tidy [7, 8, 11, 13, 14, 15, 16, 17, 19, 20, 29, 31] z (z + 17)))
 (.seq (.post (.block 7 (.seq (.post (.reg [⟨(some 231), (Op.move (Operand.tmp 29)), none, ann0⟩,
  ⟨(some 232), (Op.move (Operand.tmp 31)), none, ann0⟩,
  ⟨(some 233), (Op.indexAddr 77 (Operand.tmp 231) (Operand.tmp 232)), none, ann0⟩,
  ⟨(some 234), (Op.load 9 (Operand.tmp 233)), none, ann0⟩,
  ⟨(some 235), (Op.move (Operand.tmp 19)), none, ann0⟩,
  ⟨(some 236), (Op.move (Operand.tmp 31)), none, ann0⟩,
  ⟨(some 237), (Op.indexAddr 77 (Operand.tmp 235) (Operand.tmp 236)), none, ann0⟩,
  ⟨(some 238), (Op.load 9 (Operand.tmp 237)), none, ann0⟩,
  ⟨(some 239), (Op.binOp BinOp.neq 9 (Operand.tmp 234) (Operand.tmp 238) 9), none, ann0⟩] (some [0, 0, 3, 7, 0, 0, 48, 112, 255])) (.tidy [7, 8, 11, 13, 14, 15, 16, 17, 19, 20, 29, 31, 239] z (z + 17)))
 (.cond (Operand.tmp 239) (.seq (.reg [⟨(some 6), (Op.assign (Operand.const (Value.bool false))), none, ann0⟩] none)
 .ret)
 .skip))) (.tidy [7, 8, 11, 13, 14, 15, 16, 17, 19, 20, 29, 31] z (z + 17)))
 (.reg [⟨(some 229), (Op.move (Operand.tmp 31)), none, ann0⟩,
  ⟨(some 230), (Op.binOp BinOp.add 3 (Operand.tmp 229) (Operand.const (Value.int IntKind.i64 1)) 3), none, ann0⟩,
  ⟨(some 31), (Op.assign (Operand.tmp 230)), none, ann0⟩] none))) (.tidy [7, 8, 11, 13, 14, 15, 16, 17, 19, 20, 29, 31] z (z + 17))
def s12_4 (z : Nat) : SC := c12_4 z
theorem e12_4 {C : Pg} {z : Nat} {st : St} {ks : List Fr} {K : Ex → St → Prop} : wpk C (s12_4 z) st ks K ↔ wpk C (c12_4 z) st ks K := Iff.rfl
def c12_1 (z : Nat) : SC := .post (.seq (.seq (.post (.reg [⟨(some 76), (Op.move (Operand.tmp 17)), none, ann0⟩,
  ⟨(some 77), (Op.move (Operand.tmp 13)), none, ann0⟩,
  ⟨(some 78), (Op.call { callee := (Callee.builtin Builtin.len), args := #[(Operand.tmp 77)], argTypes := #[33] }), none, ann0⟩,
  ⟨(some 79), (Op.binOp BinOp.lss 3 (Operand.tmp 76) (Operand.tmp 78) 3), none, ann0⟩] none) (.tidy [7, 8, 11, 13, 14, 15, 16, 17, 79] z (z + 13)))
 (.cond (Operand.tmp 79) .skip
 (.exit 0)))
 (.seq (.post (.block 1 (.seq (.post (.reg [⟨(some 18), (Op.assign (Operand.const (Value.slice none 0 0))), none, ann0⟩] none) (.mkv 18 83 4))
 (.seq (.post (.reg [⟨(some 19), (Op.assign (Operand.const (Value.slice none 0 0))), none, ann0⟩] none) (.mkv 19 9 1))
 (.seq (.post (.reg [⟨(some 82), (Op.move (Operand.tmp 13)), none, ann0⟩,
  ⟨(some 83), (Op.move (Operand.tmp 17)), none, ann0⟩,
  ⟨(some 84), (Op.indexAddr 33 (Operand.tmp 82) (Operand.tmp 83)), none, ann0⟩,
  ⟨(some 85), (Op.load 3 (Operand.tmp 84)), none, ann0⟩,
  ⟨(some 86), (Op.move (Operand.tmp 14)), none, ann0⟩,
  ⟨(some 87), (Op.move (Operand.tmp 17)), none, ann0⟩,
  ⟨(some 88), (Op.indexAddr 33 (Operand.tmp 86) (Operand.tmp 87)), none, ann0⟩,
  ⟨(some 89), (Op.load 3 (Operand.tmp 88)), none, ann0⟩,
  ⟨(some 90), (Op.build 81 #[(0, (Operand.tmp 85)), (1, (Operand.tmp 89))]), none, ann0⟩,
  ⟨(some 20), (Op.alloc 81), none, ⟨1, false, false⟩⟩,
  ⟨none, (Op.store 81 (Operand.tmp 20) (Operand.tmp 90)), none, ann0⟩] (some [0, 0, 3, 7, 0, 0, 48, 112, 255, 0, 1023])) (.tidy [7, 8, 11, 13, 14, 15, 16, 17, 18, 19, 20] z (z + 16)))
 (.seq (.post (.seq (.reg [⟨(some 21), (Op.assign (Operand.const (Value.int IntKind.i64 0))), none, ann0⟩] none)
 (.post (.block 2 (.pre (.tidy [7, 8, 11, 13, 14, 15, 16, 17, 18, 19, 20, 21] z (z + 16)) (.loop (s12_2 z)))) (.tidy [7, 8, 11, 13, 14, 15, 16, 17, 18, 19, 20] z (z + 16)))) (.tidy [7, 8, 11, 13, 14, 15, 16, 17, 18, 19, 20] z (z + 16)))
 (.seq (.post (.reg [⟨(some 130), (Op.move (Operand.tmp 11)), none, ann0⟩,
  ⟨(some 131), (Op.build 70 #[(0, (Operand.const (Value.string ⟨#[100, 98]⟩))), (2, (Operand.const (Value.int IntKind.i64 1))), (3, (Operand.const (Value.int IntKind.i64 1)))]), none, ann0⟩,
  ⟨(some 132), (Op.fieldAddr 35 (Operand.tmp 7) 5), none, ann0⟩,
  ⟨(some 133), (Op.load 33 (Operand.tmp 132)), none, ann0⟩,
  ⟨(some 134), (Op.move (Operand.tmp 17)), none, ann0⟩,
  ⟨(some 135), (Op.indexAddr 33 (Operand.tmp 133) (Operand.tmp 134)), none, ann0⟩,
  ⟨(some 136), (Op.load 3 (Operand.tmp 135)), none, ann0⟩,
  ⟨(some 137), (Op.fieldAddr 35 (Operand.tmp 8) 5), none, ann0⟩,
  ⟨(some 138), (Op.load 33 (Operand.tmp 137)), none, ann0⟩,
  ⟨(some 139), (Op.move (Operand.tmp 17)), none, ann0⟩,
  ⟨(some 140), (Op.indexAddr 33 (Operand.tmp 138) (Operand.tmp 139)), none, ann0⟩,
  ⟨(some 141), (Op.load 3 (Operand.tmp 140)), none, ann0⟩,
  ⟨(some 142), (Op.build 70 #[(0, (Operand.const (Value.string ⟨#[97, 112, 105]⟩))), (2, (Operand.tmp 136)), (3, (Operand.tmp 141))]), none, ann0⟩,
  ⟨(some 143), (Op.build 70 #[(0, (Operand.const (Value.string ⟨#[97, 112, 105]⟩))), (3, (Operand.const (Value.int IntKind.i64 9)))]), none, ann0⟩,
  ⟨(some 144), (Op.buildSlice 65 3 #[(0, (Operand.tmp 131)), (1, (Operand.tmp 142)), (2, (Operand.tmp 143))]), none, ⟨1, true, false⟩⟩,
  ⟨(some 145), (Op.call { callee := (Callee.value (Operand.func 29)), args := #[(Operand.tmp 130), (Operand.tmp 144)], argTypes := #[66, 65] }), none, ann0⟩,
  ⟨(some 129), (Op.move (Operand.tmp 145)), none, ann0⟩,
  ⟨(some 146), (Op.extract (Operand.tmp 129) 0), none, ann0⟩,
  ⟨(some 147), (Op.extract (Operand.tmp 129) 1), none, ann0⟩,
  ⟨(some 23), (Op.assign (Operand.tmp 146)), none, ann0⟩,
  ⟨(some 24), (Op.assign (Operand.tmp 147)), none, ann0⟩] (some [0, 0, 0, 4, 0, 28, 60, 0, 128, 0, 896, 1920, 4092, 0, 16382, 32767, 65535, 131071, 131071, 262143, 1048575])) (.tidy [7, 8, 11, 13, 14, 15, 16, 17, 18, 19, 20, 23, 24] z (z + 17)))
 (.seq (.reg [⟨(some 149), (Op.move (Operand.tmp 11)), none, ann0⟩,
  ⟨(some 150), (Op.call { callee := (Callee.value (Operand.func 31)), args := #[(Operand.tmp 149), (Operand.const (Value.string ⟨#[114]⟩))], argTypes := #[66, 9] }), none, ann0⟩,
  ⟨(some 148), (Op.move (Operand.tmp 150)), none, ann0⟩,
  ⟨(some 151), (Op.extract (Operand.tmp 148) 0), none, ann0⟩,
  ⟨(some 152), (Op.extract (Operand.tmp 148) 1), none, ann0⟩,
  ⟨(some 25), (Op.assign (Operand.tmp 151)), none, ann0⟩,
  ⟨(some 26), (Op.assign (Operand.tmp 152)), none, ann0⟩] none)
 (.seq (.post (.reg [⟨(some 154), (Op.move (Operand.tmp 11)), none, ann0⟩,
  ⟨(some 155), (Op.call { callee := (Callee.value (Operand.func 31)), args := #[(Operand.tmp 154), (Operand.const (Value.string ⟨#[115]⟩))], argTypes := #[66, 9] }), none, ann0⟩,
  ⟨(some 153), (Op.move (Operand.tmp 155)), none, ann0⟩,
  ⟨(some 156), (Op.extract (Operand.tmp 153) 0), none, ann0⟩,
  ⟨(some 157), (Op.extract (Operand.tmp 153) 1), none, ann0⟩,
  ⟨(some 27), (Op.assign (Operand.tmp 156)), none, ann0⟩,
  ⟨(some 28), (Op.assign (Operand.tmp 157)), none, ann0⟩] none) (.tidy [7, 8, 11, 13, 14, 15, 16, 17, 18, 19, 20, 23, 24, 25, 26, 27, 28] z (z + 17)))
 (.seq (.reg [⟨(some 158), (Op.move (Operand.tmp 11)), none, ann0⟩,
  ⟨(some 159), (Op.call { callee := (Callee.value (Operand.func 32)), args := #[(Operand.tmp 158)], argTypes := #[66] }), none, ann0⟩,
  ⟨(some 29), (Op.assign (Operand.tmp 159)), none, ann0⟩] none)
 (.seq (.post (.seq (.post (.reg [⟨(some 160), (Op.move (Operand.tmp 24)), none, ann0⟩,
  ⟨(some 161), (Op.binOp BinOp.neq 27 (Operand.tmp 160) (Operand.const (Value.int IntKind.i64 0)) 27), none, ann0⟩,
  ⟨(some 162), (Op.move (Operand.tmp 161)), none, ann0⟩,
  ⟨(some 163), (Op.move (Operand.tmp 26)), (some (162, false)), ann0⟩,
  ⟨(some 164), (Op.binOp BinOp.neq 27 (Operand.tmp 163) (Operand.const (Value.int IntKind.i64 0)) 27), (some (162, false)), ann0⟩,
  ⟨(some 165), (Op.pick (Operand.tmp 162) (Operand.const (Value.bool true)) (Operand.tmp 164)), none, ann0⟩,
  ⟨(some 166), (Op.move (Operand.tmp 165)), none, ann0⟩,
  ⟨(some 167), (Op.move (Operand.tmp 28)), (some (166, false)), ann0⟩,
  ⟨(some 168), (Op.binOp BinOp.neq 27 (Operand.tmp 167) (Operand.const (Value.int IntKind.i64 0)) 27), (some (166, false)), ann0⟩,
  ⟨(some 169), (Op.pick (Operand.tmp 166) (Operand.const (Value.bool true)) (Operand.tmp 168)), none, ann0⟩,
  ⟨(some 170), (Op.move (Operand.tmp 169)), none, ann0⟩,
  ⟨(some 171), (Op.move (Operand.tmp 25)), (some (170, false)), ann0⟩,
  ⟨(some 172), (Op.move (Operand.tmp 13)), (some (170, false)), ann0⟩,
  ⟨(some 173), (Op.move (Operand.tmp 17)), (some (170, false)), ann0⟩,
  ⟨(some 174), (Op.indexAddr 33 (Operand.tmp 172) (Operand.tmp 173)), (some (170, false)), ann0⟩,
  ⟨(some 175), (Op.load 3 (Operand.tmp 174)), (some (170, false)), ann0⟩,
  ⟨(some 176), (Op.binOp BinOp.neq 3 (Operand.tmp 171) (Operand.tmp 175) 3), (some (170, false)), ann0⟩,
  ⟨(some 177), (Op.pick (Operand.tmp 170) (Operand.const (Value.bool true)) (Operand.tmp 176)), none, ann0⟩,
  ⟨(some 178), (Op.move (Operand.tmp 177)), none, ann0⟩,
  ⟨(some 179), (Op.move (Operand.tmp 27)), (some (178, false)), ann0⟩,
  ⟨(some 180), (Op.move (Operand.tmp 14)), (some (178, false)), ann0⟩,
  ⟨(some 181), (Op.move (Operand.tmp 17)), (some (178, false)), ann0⟩,
  ⟨(some 182), (Op.indexAddr 33 (Operand.tmp 180) (Operand.tmp 181)), (some (178, false)), ann0⟩,
  ⟨(some 183), (Op.load 3 (Operand.tmp 182)), (some (178, false)), ann0⟩,
  ⟨(some 184), (Op.binOp BinOp.neq 3 (Operand.tmp 179) (Operand.tmp 183) 3), (some (178, false)), ann0⟩,
  ⟨(some 185), (Op.pick (Operand.tmp 178) (Operand.const (Value.bool true)) (Operand.tmp 184)), none, ann0⟩,
  ⟨(some 186), (Op.move (Operand.tmp 185)), none, ann0⟩,
  ⟨(some 187), (Op.move (Operand.tmp 23)), (some (186, false)), ann0⟩,
  ⟨(some 188), (Op.call { callee := (Callee.builtin Builtin.len), args := #[(Operand.tmp 187)], argTypes := #[71] }), (some (186, false)), ann0⟩,
  ⟨(some 189), (Op.move (Operand.tmp 18)), (some (186, false)), ann0⟩,
  ⟨(some 190), (Op.call { callee := (Callee.builtin Builtin.len), args := #[(Operand.tmp 189)], argTypes := #[71] }), (some (186, false)), ann0⟩,
  ⟨(some 191), (Op.binOp BinOp.neq 3 (Operand.tmp 188) (Operand.tmp 190) 3), (some (186, false)), ann0⟩,
  ⟨(some 192), (Op.pick (Operand.tmp 186) (Operand.const (Value.bool true)) (Operand.tmp 191)), none, ann0⟩,
  ⟨(some 193), (Op.move (Operand.tmp 192)), none, ann0⟩,
  ⟨(some 194), (Op.move (Operand.tmp 29)), (some (193, false)), ann0⟩,
  ⟨(some 195), (Op.call { callee := (Callee.builtin Builtin.len), args := #[(Operand.tmp 194)], argTypes := #[77] }), (some (193, false)), ann0⟩,
  ⟨(some 196), (Op.move (Operand.tmp 19)), (some (193, false)), ann0⟩,
  ⟨(some 197), (Op.call { callee := (Callee.builtin Builtin.len), args := #[(Operand.tmp 196)], argTypes := #[77] }), (some (193, false)), ann0⟩,
  ⟨(some 198), (Op.binOp BinOp.neq 3 (Operand.tmp 195) (Operand.tmp 197) 3), (some (193, false)), ann0⟩,
  ⟨(some 199), (Op.pick (Operand.tmp 193) (Operand.const (Value.bool true)) (Operand.tmp 198)), none, ann0⟩,
  ⟨(some 200), (Op.move (Operand.tmp 199)), none, ann0⟩,
  ⟨(some 201), (Op.move (Operand.tmp 11)), (some (200, false)), ann0⟩,
  ⟨(some 202), (Op.call { callee := (Callee.value (Operand.func 30)), args := #[(Operand.tmp 201)], argTypes := #[66] }), (some (200, false)), ann0⟩,
  ⟨(some 203), (Op.fieldAddr 35 (Operand.tmp 7) 4), (some (200, false)), ann0⟩,
  ⟨(some 204), (Op.load 3 (Operand.tmp 203)), (some (200, false)), ann0⟩,
  ⟨(some 205), (Op.move (Operand.tmp 17)), (some (200, false)), ann0⟩,
  ⟨(some 206), (Op.binOp BinOp.add 3 (Operand.tmp 204) (Operand.tmp 205) 3), (some (200, false)), ann0⟩,
  ⟨(some 207), (Op.binOp BinOp.add 3 (Operand.tmp 206) (Operand.const (Value.int IntKind.i64 1)) 3), (some (200, false)), ann0⟩,
  ⟨(some 208), (Op.binOp BinOp.neq 3 (Operand.tmp 202) (Operand.tmp 207) 3), (some (200, false)), ann0⟩,
  ⟨(some 209), (Op.pick (Operand.tmp 200) (Operand.const (Value.bool true)) (Operand.tmp 208)), none, ann0⟩] (some [0, 1, 3, 7, 15, 31, 63, 127, 255, 511, 1023, 2047, 2047, 2047, 14335, 30719, 65535, 131071, 262143, 524287, 524287, 524287, 3670015, 7864319, 16777215, 33554431, 67108863, 134217727, 268435455, 134217727, 671088639, 2147483647, 4294967295, 8589934591, 17179869183, 34359738367, 17179869183, 85899345919, 274877906943, 549755813887, 1099511627775, 2199023255551, 4398046511103, 2199023255551, 10995116277759, 2199023255551, 63771674411007, 134140418588671, 281474976710655, 562949953421311])) (.tidy [7, 8, 11, 13, 14, 15, 16, 17, 18, 19, 20, 23, 29, 209] z (z + 17)))
 (.cond (Operand.tmp 209) (.seq (.reg [⟨(some 6), (Op.assign (Operand.const (Value.bool false))), none, ann0⟩] none)
 .ret)
 .skip)) (.tidy [7, 8, 11, 13, 14, 15, 16, 17, 18, 19, 20, 23, 29] z (z + 17)))
 (.seq (.post (.seq (.reg [⟨(some 30), (Op.assign (Operand.const (Value.int IntKind.i64 0))), none, ann0⟩] none)
 (.post (.block 4 (.pre (.tidy [7, 8, 11, 13, 14, 15, 16, 17, 18, 19, 20, 23, 29, 30] z (z + 17)) (.loop (s12_3 z)))) (.tidy [7, 8, 11, 13, 14, 15, 16, 17, 19, 20, 29] z (z + 17)))) (.tidy [7, 8, 11, 13, 14, 15, 16, 17, 19, 20, 29] z (z + 17)))
 (.seq (.post (.seq (.reg [⟨(some 31), (Op.assign (Operand.const (Value.int IntKind.i64 0))), none, ann0⟩] none)
 (.post (.block 6 (.pre (.tidy [7, 8, 11, 13, 14, 15, 16, 17, 19, 20, 29, 31] z (z + 17)) (.loop (s12_4 z)))) (.tidy [7, 8, 11, 13, 14, 15, 16, 17, 20] z (z + 17)))) (.tidy [7, 8, 11, 13, 14, 15, 16, 17, 20] z (z + 17)))
 (.reg [⟨(some 240), (Op.load 81 (Operand.tmp 20)), none, ann0⟩,
  ⟨none, (Op.store 81 (Operand.tmp 16) (Operand.tmp 240)), none, ann0⟩] none))))))))))))) (.tidy [7, 8, 11, 13, 14, 15, 16, 17] z (z + 17)))
 (.reg [⟨(some 80), (Op.move (Operand.tmp 17)), none, ann0⟩,
  ⟨(some 81), (Op.binOp BinOp.add 3 (Operand.tmp 80) (Operand.const (Value.int IntKind.i64 1)) 3), none, ann0⟩,
  ⟨(some 17), (Op.assign (Operand.tmp 81)), none, ann0⟩] none))) (.tidy [7, 8, 11, 13, 14, 15, 16, 17] z (z + 13))
def s12_1 (z : Nat) : SC := c12_1 z
theorem e12_1 {C : Pg} {z : Nat} {st : St} {ks : List Fr} {K : Ex → St → Prop} : wpk C (s12_1 z) st ks K ↔ wpk C (c12_1 z) st ks K := Iff.rfl
def s12 (z : Nat) : SFn := ⟨3, 261, [(ResultVar.tmp 6)],
 (.seq (.reg [⟨(some 3), (Op.box 25 (Operand.tmp 0)), none, ⟨1, false, false⟩⟩,
  ⟨(some 4), (Op.box 25 (Operand.tmp 1)), none, ⟨1, false, false⟩⟩,
  ⟨(some 5), (Op.box 52 (Operand.tmp 2)), none, ⟨1, false, false⟩⟩,
  ⟨(some 6), (Op.assign (Operand.const (Value.bool false))), none, ann0⟩] none)
 (.seq (.seq (.reg [⟨(some 34), (Op.call { callee := (Callee.value (Operand.func 13)), args := #[], argTypes := #[] }), none, ann0⟩,
  ⟨(some 35), (Op.unOp UnOp.not 4 (Operand.tmp 34)), none, ann0⟩] none)
 (.cond (Operand.tmp 35) (.seq (.reg [⟨(some 6), (Op.assign (Operand.const (Value.bool false))), none, ann0⟩] none)
 .ret)
 .skip))
 (.seq (.post (.reg [⟨(some 37), (Op.load 52 (Operand.tmp 5)), none, ann0⟩,
  ⟨(some 38), (Op.call { callee := (Callee.value (Operand.func 26)), args := #[(Operand.tmp 37)], argTypes := #[52] }), none, ann0⟩,
  ⟨(some 36), (Op.move (Operand.tmp 38)), none, ann0⟩,
  ⟨(some 39), (Op.extract (Operand.tmp 36) 0), none, ann0⟩,
  ⟨(some 40), (Op.extract (Operand.tmp 36) 1), none, ann0⟩,
  ⟨(some 7), (Op.alloc 35), none, ⟨1, false, false⟩⟩,
  ⟨(some 8), (Op.alloc 35), none, ⟨1, false, false⟩⟩,
  ⟨none, (Op.store 35 (Operand.tmp 7) (Operand.tmp 39)), none, ann0⟩,
  ⟨none, (Op.store 35 (Operand.tmp 8) (Operand.tmp 40)), none, ann0⟩] none) (.tidy [3, 4, 7, 8] z (z + 5)))
 (.seq (.reg [⟨(some 41), (Op.load 25 (Operand.tmp 3)), none, ann0⟩,
  ⟨(some 42), (Op.call { callee := (Callee.value (Operand.func 16)), args := #[(Operand.tmp 41)], argTypes := #[25] }), none, ann0⟩,
  ⟨(some 43), (Op.load 25 (Operand.tmp 4)), none, ann0⟩,
  ⟨(some 44), (Op.call { callee := (Callee.value (Operand.func 16)), args := #[(Operand.tmp 43)], argTypes := #[25] }), none, ann0⟩,
  ⟨(some 9), (Op.alloc 23), none, ⟨1, false, false⟩⟩,
  ⟨(some 10), (Op.alloc 23), none, ⟨1, false, false⟩⟩,
  ⟨none, (Op.store 23 (Operand.tmp 9) (Operand.tmp 42)), none, ann0⟩,
  ⟨none, (Op.store 23 (Operand.tmp 10) (Operand.tmp 44)), none, ann0⟩] (some [0, 1, 0, 7, 0, 0, 63, 127]))
 (.seq (.reg [⟨(some 45), (Op.fieldAddr 23 (Operand.tmp 10) 0), none, ann0⟩,
  ⟨none, (Op.store 9 (Operand.tmp 45) (Operand.const (Value.string ⟨#[115]⟩))), none, ann0⟩] none)
 (.seq (.post (.reg [⟨(some 47), (Op.load 23 (Operand.tmp 9)), none, ann0⟩,
  ⟨(some 48), (Op.load 23 (Operand.tmp 10)), none, ann0⟩,
  ⟨(some 49), (Op.buildSlice 64 2 #[(0, (Operand.tmp 47)), (1, (Operand.tmp 48))]), none, ⟨1, true, false⟩⟩,
  ⟨(some 50), (Op.fieldAddr 35 (Operand.tmp 7) 4), none, ann0⟩,
  ⟨(some 51), (Op.load 3 (Operand.tmp 50)), none, ann0⟩,
  ⟨(some 52), (Op.call { callee := (Callee.value (Operand.func 28)), args := #[(Operand.tmp 49), (Operand.tmp 51)], argTypes := #[64, 3] }), none, ⟨2, false, false⟩⟩,
  ⟨(some 46), (Op.move (Operand.tmp 52)), none, ann0⟩,
  ⟨(some 53), (Op.extract (Operand.tmp 46) 0), none, ann0⟩,
  ⟨(some 54), (Op.extract (Operand.tmp 46) 1), none, ann0⟩,
  ⟨(some 11), (Op.assign (Operand.tmp 53)), none, ann0⟩,
  ⟨(some 12), (Op.assign (Operand.tmp 54)), none, ann0⟩] none) (.tidy [7, 8, 9, 10, 11, 12] z (z + 10)))
 (.seq (.post (.reg [⟨(some 55), (Op.load 23 (Operand.tmp 9)), none, ann0⟩,
  ⟨(some 56), (Op.fieldAddr 35 (Operand.tmp 7) 5), none, ann0⟩,
  ⟨(some 57), (Op.load 33 (Operand.tmp 56)), none, ann0⟩,
  ⟨(some 58), (Op.fieldAddr 35 (Operand.tmp 8) 5), none, ann0⟩,
  ⟨(some 59), (Op.load 33 (Operand.tmp 58)), none, ann0⟩,
  ⟨(some 60), (Op.call { callee := (Callee.value (Operand.func 22)), args := #[(Operand.tmp 55), (Operand.tmp 57), (Operand.tmp 59)], argTypes := #[23, 33, 33] }), none, ann0⟩,
  ⟨(some 61), (Op.load 23 (Operand.tmp 10)), none, ann0⟩,
  ⟨(some 62), (Op.fieldAddr 35 (Operand.tmp 7) 5), none, ann0⟩,
  ⟨(some 63), (Op.load 33 (Operand.tmp 62)), none, ann0⟩,
  ⟨(some 64), (Op.fieldAddr 35 (Operand.tmp 8) 5), none, ann0⟩,
  ⟨(some 65), (Op.load 33 (Operand.tmp 64)), none, ann0⟩,
  ⟨(some 66), (Op.call { callee := (Callee.value (Operand.func 22)), args := #[(Operand.tmp 61), (Operand.tmp 63), (Operand.tmp 65)], argTypes := #[23, 33, 33] }), none, ann0⟩,
  ⟨(some 13), (Op.assign (Operand.tmp 60)), none, ann0⟩,
  ⟨(some 14), (Op.assign (Operand.tmp 66)), none, ann0⟩] (some [0, 0, 2, 0, 8, 31, 0, 0, 128, 0, 512, 2047, 4095, 8191])) (.tidy [7, 8, 11, 12, 13, 14] z (z + 10)))
 (.seq (.post (.seq (.reg [⟨(some 67), (Op.move (Operand.tmp 12)), none, ann0⟩,
  ⟨(some 68), (Op.binOp BinOp.neq 27 (Operand.tmp 67) (Operand.const (Value.int IntKind.i64 0)) 27), none, ann0⟩,
  ⟨(some 69), (Op.move (Operand.tmp 68)), none, ann0⟩,
  ⟨(some 70), (Op.move (Operand.tmp 11)), (some (69, false)), ann0⟩,
  ⟨(some 71), (Op.binOp BinOp.eql 66 (Operand.tmp 70) (Operand.const (Value.pointer none)) 66), (some (69, false)), ann0⟩,
  ⟨(some 72), (Op.pick (Operand.tmp 69) (Operand.const (Value.bool true)) (Operand.tmp 71)), none, ann0⟩] none)
 (.cond (Operand.tmp 72) (.seq (.reg [⟨(some 6), (Op.assign (Operand.const (Value.bool false))), none, ann0⟩] none)
 .ret)
 .skip)) (.tidy [7, 8, 11, 13, 14] z (z + 10)))
 (.seq (.reg [⟨(some 73), (Op.move (Operand.tmp 11)), none, ann0⟩,
  ⟨(some 74), (Op.call { callee := (Callee.value (Operand.func 33)), args := #[(Operand.tmp 73)], argTypes := #[66] }), none, ⟨2, false, false⟩⟩,
  ⟨(some 15), (Op.assign (Operand.tmp 74)), none, ann0⟩] none)
 (.seq (.reg [⟨(some 75), (Op.build 81 #[]), none, ann0⟩,
  ⟨(some 16), (Op.alloc 81), none, ⟨1, false, false⟩⟩,
  ⟨none, (Op.store 81 (Operand.tmp 16) (Operand.tmp 75)), none, ann0⟩] none)
 (.seq (.post (.seq (.reg [⟨(some 17), (Op.assign (Operand.const (Value.int IntKind.i64 0))), none, ann0⟩] none)
 (.post (.block 0 (.pre (.tidy [7, 8, 11, 13, 14, 15, 16, 17] z (z + 13)) (.loop (s12_1 z)))) (.tidy [7, 11, 15] z (z + 13)))) (.tidy [7, 11, 15] z (z + 13)))
 (.seq (.post (.reg [⟨(some 242), (Op.move (Operand.tmp 11)), none, ann0⟩,
  ⟨(some 243), (Op.call { callee := (Callee.value (Operand.func 31)), args := #[(Operand.tmp 242), (Operand.const (Value.string ⟨#[110, 111, 110, 101]⟩))], argTypes := #[66, 9] }), none, ann0⟩,
  ⟨(some 241), (Op.move (Operand.tmp 243)), none, ann0⟩,
  ⟨(some 244), (Op.extract (Operand.tmp 241) 0), none, ann0⟩,
  ⟨(some 245), (Op.extract (Operand.tmp 241) 1), none, ann0⟩,
  ⟨(some 32), (Op.assign (Operand.tmp 244)), none, ann0⟩,
  ⟨(some 33), (Op.assign (Operand.tmp 245)), none, ann0⟩] none) (.tidy [7, 15, 33] z (z + 13)))
 (.seq (.reg [⟨(some 246), (Op.move (Operand.tmp 33)), none, ann0⟩,
  ⟨(some 247), (Op.binOp BinOp.eql 27 (Operand.tmp 246) (Operand.const (Value.int IntKind.i64 10)) 27), none, ann0⟩,
  ⟨(some 248), (Op.move (Operand.tmp 247)), none, ann0⟩,
  ⟨(some 249), (Op.move (Operand.tmp 15)), (some (248, true)), ann0⟩,
  ⟨(some 250), (Op.call { callee := (Callee.value (Operand.func 30)), args := #[(Operand.tmp 249)], argTypes := #[66] }), (some (248, true)), ann0⟩,
  ⟨(some 251), (Op.fieldAddr 35 (Operand.tmp 7) 4), (some (248, true)), ann0⟩,
  ⟨(some 252), (Op.load 3 (Operand.tmp 251)), (some (248, true)), ann0⟩,
  ⟨(some 253), (Op.binOp BinOp.eql 3 (Operand.tmp 250) (Operand.tmp 252) 3), (some (248, true)), ann0⟩,
  ⟨(some 254), (Op.pick (Operand.tmp 248) (Operand.tmp 253) (Operand.const (Value.bool false))), none, ann0⟩,
  ⟨(some 255), (Op.move (Operand.tmp 254)), none, ann0⟩,
  ⟨(some 256), (Op.move (Operand.tmp 15)), (some (255, true)), ann0⟩,
  ⟨(some 257), (Op.call { callee := (Callee.value (Operand.func 32)), args := #[(Operand.tmp 256)], argTypes := #[66] }), (some (255, true)), ann0⟩,
  ⟨(some 258), (Op.call { callee := (Callee.builtin Builtin.len), args := #[(Operand.tmp 257)], argTypes := #[77] }), (some (255, true)), ann0⟩,
  ⟨(some 259), (Op.binOp BinOp.eql 3 (Operand.tmp 258) (Operand.const (Value.int IntKind.i64 0)) 3), (some (255, true)), ann0⟩,
  ⟨(some 260), (Op.pick (Operand.tmp 255) (Operand.tmp 259) (Operand.const (Value.bool false))), none, ann0⟩,
  ⟨(some 6), (Op.assign (Operand.tmp 260)), none, ann0⟩] (some [0, 1, 3, 7, 15, 7, 39, 127, 255, 511, 1023, 2047, 4095, 8191, 16383, 32767]))
 .ret)))))))))))))⟩
theorem F12 (z : Nat) : FOk Try.prog 12 (s12 z) := by unfold FOk; kernel_rfl
def s13 (z : Nat) : SFn := ⟨0, 74, [(ResultVar.tmp 0)],
 (.seq (.reg [⟨(some 0), (Op.assign (Operand.const (Value.bool false))), none, ann0⟩] none)
 (.seq (.reg [⟨(some 10), (Op.build 23 #[(0, (Operand.const (Value.string ⟨#[114]⟩))), (1, (Operand.const (Value.string ⟨#[97, 112, 105]⟩))), (3, (Operand.const (Value.int IntKind.i64 990000))), (4, (Operand.const (Value.int IntKind.i64 3))), (5, (Operand.const (Value.int IntKind.i64 1))), (6, (Operand.const (Value.int IntKind.i64 2000))), (7, (Operand.const (Value.int IntKind.i64 1)))]), none, ann0⟩,
  ⟨(some 1), (Op.alloc 23), none, ⟨1, false, false⟩⟩,
  ⟨none, (Op.store 23 (Operand.tmp 1) (Operand.tmp 10)), none, ann0⟩] none)
 (.seq (.post (.reg [⟨(some 12), (Op.build 59 #[(0, (Operand.const (Value.int IntKind.u8 100))), (1, (Operand.const (Value.int IntKind.u8 0)))]), none, ann0⟩,
  ⟨(some 13), (Op.build 59 #[(0, (Operand.const (Value.int IntKind.u8 100))), (1, (Operand.const (Value.int IntKind.u8 6)))]), none, ann0⟩,
  ⟨(some 14), (Op.build 59 #[(0, (Operand.const (Value.int IntKind.u8 100))), (1, (Operand.const (Value.int IntKind.u8 3)))]), none, ann0⟩,
  ⟨(some 15), (Op.build 59 #[(0, (Operand.const (Value.int IntKind.u8 100))), (1, (Operand.const (Value.int IntKind.u8 0)))]), none, ann0⟩,
  ⟨(some 16), (Op.build 59 #[(0, (Operand.const (Value.int IntKind.u8 100))), (1, (Operand.const (Value.int IntKind.u8 9)))]), none, ann0⟩,
  ⟨(some 17), (Op.buildSlice 50 5 #[(0, (Operand.tmp 12)), (1, (Operand.tmp 13)), (2, (Operand.tmp 14)), (3, (Operand.tmp 15)), (4, (Operand.tmp 16))]), none, ⟨1, true, false⟩⟩,
  ⟨(some 18), (Op.build 52 #[(0, (Operand.const (Value.int IntKind.u8 10))), (1, (Operand.tmp 17))]), none, ann0⟩,
  ⟨(some 19), (Op.call { callee := (Callee.value (Operand.func 26)), args := #[(Operand.tmp 18)], argTypes := #[52] }), none, ann0⟩,
  ⟨(some 11), (Op.move (Operand.tmp 19)), none, ann0⟩,
  ⟨(some 20), (Op.extract (Operand.tmp 11) 0), none, ann0⟩,
  ⟨(some 21), (Op.extract (Operand.tmp 11) 1), none, ann0⟩,
  ⟨(some 2), (Op.alloc 35), none, ⟨1, false, false⟩⟩,
  ⟨(some 3), (Op.alloc 35), none, ⟨1, false, false⟩⟩,
  ⟨none, (Op.store 35 (Operand.tmp 2) (Operand.tmp 20)), none, ann0⟩,
  ⟨none, (Op.store 35 (Operand.tmp 3) (Operand.tmp 21)), none, ann0⟩] none) (.tidy [1, 2, 3] z (z + 4)))
 (.seq (.post (.reg [⟨(some 23), (Op.load 23 (Operand.tmp 1)), none, ann0⟩,
  ⟨(some 24), (Op.load 35 (Operand.tmp 2)), none, ann0⟩,
  ⟨(some 25), (Op.load 35 (Operand.tmp 3)), none, ann0⟩,
  ⟨(some 26), (Op.call { callee := (Callee.value (Operand.func 19)), args := #[(Operand.tmp 23), (Operand.tmp 24), (Operand.tmp 25)], argTypes := #[23, 35, 35] }), none, ann0⟩,
  ⟨(some 22), (Op.move (Operand.tmp 26)), none, ann0⟩,
  ⟨(some 27), (Op.extract (Operand.tmp 22) 0), none, ann0⟩,
  ⟨(some 28), (Op.extract (Operand.tmp 22) 1), none, ann0⟩,
  ⟨(some 4), (Op.assign (Operand.tmp 27)), none, ann0⟩,
  ⟨(some 5), (Op.assign (Operand.tmp 28)), none, ann0⟩] none) (.tidy [4, 5] z (z + 4)))
 (.seq (.reg [⟨(some 30), (Op.call { callee := (Callee.value (Operand.func 23)), args := #[(Operand.const (Value.int IntKind.i64 250)), (Operand.const (Value.int IntKind.i64 990000))], argTypes := #[3, 3] }), none, ann0⟩,
  ⟨(some 29), (Op.move (Operand.tmp 30)), none, ann0⟩,
  ⟨(some 31), (Op.extract (Operand.tmp 29) 0), none, ann0⟩,
  ⟨(some 32), (Op.extract (Operand.tmp 29) 1), none, ann0⟩,
  ⟨(some 6), (Op.assign (Operand.tmp 31)), none, ann0⟩,
  ⟨(some 7), (Op.assign (Operand.tmp 32)), none, ann0⟩] none)
 (.seq (.post (.reg [⟨(some 34), (Op.call { callee := (Callee.value (Operand.func 24)), args := #[(Operand.const (Value.int IntKind.i64 5)), (Operand.const (Value.int IntKind.i64 250)), (Operand.const (Value.int IntKind.i64 990000))], argTypes := #[3, 3, 3] }), none, ann0⟩,
  ⟨(some 33), (Op.move (Operand.tmp 34)), none, ann0⟩,
  ⟨(some 35), (Op.extract (Operand.tmp 33) 0), none, ann0⟩,
  ⟨(some 36), (Op.extract (Operand.tmp 33) 1), none, ann0⟩,
  ⟨(some 8), (Op.assign (Operand.tmp 35)), none, ann0⟩,
  ⟨(some 9), (Op.assign (Operand.tmp 36)), none, ann0⟩] none) (.tidy [4, 5, 6, 7, 8, 9] z (z + 4)))
 (.seq (.reg [⟨(some 37), (Op.move (Operand.tmp 5)), none, ann0⟩,
  ⟨(some 38), (Op.binOp BinOp.eql 27 (Operand.tmp 37) (Operand.const (Value.int IntKind.i64 0)) 27), none, ann0⟩,
  ⟨(some 39), (Op.move (Operand.tmp 38)), none, ann0⟩,
  ⟨(some 40), (Op.move (Operand.tmp 4)), (some (39, true)), ann0⟩,
  ⟨(some 41), (Op.call { callee := (Callee.builtin Builtin.len), args := #[(Operand.tmp 40)], argTypes := #[39] }), (some (39, true)), ann0⟩,
  ⟨(some 42), (Op.binOp BinOp.eql 3 (Operand.tmp 41) (Operand.const (Value.int IntKind.i64 2)) 3), (some (39, true)), ann0⟩,
  ⟨(some 43), (Op.pick (Operand.tmp 39) (Operand.tmp 42) (Operand.const (Value.bool false))), none, ann0⟩,
  ⟨(some 44), (Op.move (Operand.tmp 43)), none, ann0⟩,
  ⟨(some 45), (Op.move (Operand.tmp 4)), (some (44, true)), ann0⟩,
  ⟨(some 46), (Op.indexAddr 39 (Operand.tmp 45) (Operand.const (Value.int IntKind.i64 0))), (some (44, true)), ann0⟩,
  ⟨(some 47), (Op.load 57 (Operand.tmp 46)), (some (44, true)), ann0⟩,
  ⟨(some 48), (Op.build 57 #[(0, (Operand.const (Value.int IntKind.i64 11))), (1, (Operand.const (Value.int IntKind.i64 13))), (2, (Operand.const (Value.int IntKind.i64 12)))]), (some (44, true)), ann0⟩,
  ⟨(some 49), (Op.binOp BinOp.eql 57 (Operand.tmp 47) (Operand.tmp 48) 57), (some (44, true)), ann0⟩,
  ⟨(some 50), (Op.pick (Operand.tmp 44) (Operand.tmp 49) (Operand.const (Value.bool false))), none, ann0⟩,
  ⟨(some 51), (Op.move (Operand.tmp 50)), none, ann0⟩,
  ⟨(some 52), (Op.move (Operand.tmp 4)), (some (51, true)), ann0⟩,
  ⟨(some 53), (Op.indexAddr 39 (Operand.tmp 52) (Operand.const (Value.int IntKind.i64 1))), (some (51, true)), ann0⟩,
  ⟨(some 54), (Op.load 57 (Operand.tmp 53)), (some (51, true)), ann0⟩,
  ⟨(some 55), (Op.build 57 #[(0, (Operand.const (Value.int IntKind.i64 14))), (1, (Operand.const (Value.int IntKind.i64 15))), (2, (Operand.const (Value.int IntKind.i64 (-1))))]), (some (51, true)), ann0⟩,
  ⟨(some 56), (Op.binOp BinOp.eql 57 (Operand.tmp 54) (Operand.tmp 55) 57), (some (51, true)), ann0⟩,
  ⟨(some 57), (Op.pick (Operand.tmp 51) (Operand.tmp 56) (Operand.const (Value.bool false))), none, ann0⟩,
  ⟨(some 58), (Op.move (Operand.tmp 57)), none, ann0⟩,
  ⟨(some 59), (Op.move (Operand.tmp 7)), (some (58, true)), ann0⟩,
  ⟨(some 60), (Op.binOp BinOp.eql 27 (Operand.tmp 59) (Operand.const (Value.int IntKind.i64 0)) 27), (some (58, true)), ann0⟩,
  ⟨(some 61), (Op.pick (Operand.tmp 58) (Operand.tmp 60) (Operand.const (Value.bool false))), none, ann0⟩,
  ⟨(some 62), (Op.move (Operand.tmp 61)), none, ann0⟩,
  ⟨(some 63), (Op.move (Operand.tmp 6)), (some (62, true)), ann0⟩,
  ⟨(some 64), (Op.binOp BinOp.eql 3 (Operand.tmp 63) (Operand.const (Value.int IntKind.i64 2)) 3), (some (62, true)), ann0⟩,
  ⟨(some 65), (Op.pick (Operand.tmp 62) (Operand.tmp 64) (Operand.const (Value.bool false))), none, ann0⟩,
  ⟨(some 66), (Op.move (Operand.tmp 65)), none, ann0⟩,
  ⟨(some 67), (Op.move (Operand.tmp 9)), (some (66, true)), ann0⟩,
  ⟨(some 68), (Op.binOp BinOp.eql 27 (Operand.tmp 67) (Operand.const (Value.int IntKind.i64 0)) 27), (some (66, true)), ann0⟩,
  ⟨(some 69), (Op.pick (Operand.tmp 66) (Operand.tmp 68) (Operand.const (Value.bool false))), none, ann0⟩,
  ⟨(some 70), (Op.move (Operand.tmp 69)), none, ann0⟩,
  ⟨(some 71), (Op.move (Operand.tmp 8)), (some (70, true)), ann0⟩,
  ⟨(some 72), (Op.binOp BinOp.eql 3 (Operand.tmp 71) (Operand.const (Value.int IntKind.i64 2000)) 3), (some (70, true)), ann0⟩,
  ⟨(some 73), (Op.pick (Operand.tmp 70) (Operand.tmp 72) (Operand.const (Value.bool false))), none, ann0⟩,
  ⟨(some 0), (Op.assign (Operand.tmp 73)), none, ann0⟩] none)
 .ret)))))))⟩
theorem F13 (z : Nat) : FOk Try.prog 13 (s13 z) := by unfold FOk; kernel_rfl
def s14 (z : Nat) : SFn := ⟨1, 61, [(ResultVar.tmp 2)],
 (.seq (.reg [⟨(some 1), (Op.box 23 (Operand.tmp 0)), none, ⟨1, false, false⟩⟩,
  ⟨(some 2), (Op.assign (Operand.const (Value.int IntKind.i64 0))), none, ann0⟩] none)
 (.seq (.post (.block 0 (.seq (.post (.reg [⟨(some 4), (Op.fieldAddr 23 (Operand.tmp 1) 0), none, ann0⟩,
  ⟨(some 5), (Op.load 9 (Operand.tmp 4)), none, ann0⟩,
  ⟨(some 6), (Op.call { callee := (Callee.value (Operand.func 34)), args := #[(Operand.tmp 5)], argTypes := #[9] }), none, ann0⟩,
  ⟨(some 7), (Op.unOp UnOp.not 4 (Operand.tmp 6)), none, ann0⟩,
  ⟨(some 8), (Op.move (Operand.tmp 7)), none, ann0⟩,
  ⟨(some 9), (Op.fieldAddr 23 (Operand.tmp 1) 1), (some (8, false)), ann0⟩,
  ⟨(some 10), (Op.load 9 (Operand.tmp 9)), (some (8, false)), ann0⟩,
  ⟨(some 11), (Op.call { callee := (Callee.value (Operand.func 34)), args := #[(Operand.tmp 10)], argTypes := #[9] }), (some (8, false)), ann0⟩,
  ⟨(some 12), (Op.unOp UnOp.not 4 (Operand.tmp 11)), (some (8, false)), ann0⟩,
  ⟨(some 13), (Op.pick (Operand.tmp 8) (Operand.const (Value.bool true)) (Operand.tmp 12)), none, ann0⟩,
  ⟨(some 14), (Op.move (Operand.tmp 13)), none, ann0⟩,
  ⟨(some 15), (Op.fieldAddr 23 (Operand.tmp 1) 2), (some (14, false)), ann0⟩,
  ⟨(some 16), (Op.load 9 (Operand.tmp 15)), (some (14, false)), ann0⟩,
  ⟨(some 17), (Op.binOp BinOp.neq 9 (Operand.tmp 16) (Operand.const (Value.string ⟨#[]⟩)) 9), (some (14, false)), ann0⟩,
  ⟨(some 18), (Op.move (Operand.tmp 17)), (some (14, false)), ann0⟩,
  ⟨(some 19), (Op.fieldAddr 23 (Operand.tmp 1) 2), (some (18, true)), ann0⟩,
  ⟨(some 20), (Op.load 9 (Operand.tmp 19)), (some (18, true)), ann0⟩,
  ⟨(some 21), (Op.call { callee := (Callee.value (Operand.func 34)), args := #[(Operand.tmp 20)], argTypes := #[9] }), (some (18, true)), ann0⟩,
  ⟨(some 22), (Op.unOp UnOp.not 4 (Operand.tmp 21)), (some (18, true)), ann0⟩,
  ⟨(some 23), (Op.pick (Operand.tmp 18) (Operand.tmp 22) (Operand.const (Value.bool false))), (some (14, false)), ann0⟩,
  ⟨(some 24), (Op.pick (Operand.tmp 14) (Operand.const (Value.bool true)) (Operand.tmp 23)), none, ann0⟩,
  ⟨(some 3), (Op.assign (Operand.tmp 24)), none, ann0⟩] none) (.tidy [1, 3] z (z + 1)))
 (.cond (Operand.tmp 3) (.seq (.reg [⟨(some 2), (Op.assign (Operand.const (Value.int IntKind.i64 11))), none, ann0⟩] none)
 .ret)
 (.seq (.post (.seq (.reg [⟨(some 26), (Op.fieldAddr 23 (Operand.tmp 1) 3), none, ann0⟩,
  ⟨(some 27), (Op.load 3 (Operand.tmp 26)), none, ann0⟩,
  ⟨(some 28), (Op.call { callee := (Callee.value (Operand.func 35)), args := #[(Operand.tmp 27)], argTypes := #[3] }), none, ann0⟩,
  ⟨(some 29), (Op.unOp UnOp.not 4 (Operand.tmp 28)), none, ann0⟩,
  ⟨(some 25), (Op.assign (Operand.tmp 29)), none, ann0⟩] none)
 (.cond (Operand.tmp 25) .skip
 (.seq (.post (.reg [⟨(some 30), (Op.fieldAddr 23 (Operand.tmp 1) 5), none, ann0⟩,
  ⟨(some 31), (Op.load 3 (Operand.tmp 30)), none, ann0⟩,
  ⟨(some 32), (Op.binOp BinOp.lss 3 (Operand.tmp 31) (Operand.const (Value.int IntKind.i64 1)) 3), none, ann0⟩,
  ⟨(some 33), (Op.move (Operand.tmp 32)), none, ann0⟩,
  ⟨(some 34), (Op.fieldAddr 23 (Operand.tmp 1) 5), (some (33, false)), ann0⟩,
  ⟨(some 35), (Op.load 3 (Operand.tmp 34)), (some (33, false)), ann0⟩,
  ⟨(some 36), (Op.fieldAddr 23 (Operand.tmp 1) 4), (some (33, false)), ann0⟩,
  ⟨(some 37), (Op.load 3 (Operand.tmp 36)), (some (33, false)), ann0⟩,
  ⟨(some 38), (Op.binOp BinOp.gtr 3 (Operand.tmp 35) (Operand.tmp 37) 3), (some (33, false)), ann0⟩,
  ⟨(some 39), (Op.pick (Operand.tmp 33) (Operand.const (Value.bool true)) (Operand.tmp 38)), none, ann0⟩,
  ⟨(some 40), (Op.move (Operand.tmp 39)), none, ann0⟩,
  ⟨(some 41), (Op.fieldAddr 23 (Operand.tmp 1) 4), (some (40, false)), ann0⟩,
  ⟨(some 42), (Op.load 3 (Operand.tmp 41)), (some (40, false)), ann0⟩,
  ⟨(some 43), (Op.binOp BinOp.gtr 3 (Operand.tmp 42) (Operand.const (Value.int IntKind.i64 256)) 3), (some (40, false)), ann0⟩,
  ⟨(some 44), (Op.pick (Operand.tmp 40) (Operand.const (Value.bool true)) (Operand.tmp 43)), none, ann0⟩,
  ⟨(some 25), (Op.assign (Operand.tmp 44)), none, ann0⟩] none) (.tidy [1, 25] z (z + 1)))
 (.cond (Operand.tmp 25) .skip
 (.seq (.post (.reg [⟨(some 45), (Op.fieldAddr 23 (Operand.tmp 1) 6), none, ann0⟩,
  ⟨(some 46), (Op.load 3 (Operand.tmp 45)), none, ann0⟩,
  ⟨(some 47), (Op.binOp BinOp.lss 3 (Operand.tmp 46) (Operand.const (Value.int IntKind.i64 1)) 3), none, ann0⟩,
  ⟨(some 48), (Op.move (Operand.tmp 47)), none, ann0⟩,
  ⟨(some 49), (Op.fieldAddr 23 (Operand.tmp 1) 6), (some (48, false)), ann0⟩,
  ⟨(some 50), (Op.load 3 (Operand.tmp 49)), (some (48, false)), ann0⟩,
  ⟨(some 51), (Op.binOp BinOp.gtr 3 (Operand.tmp 50) (Operand.const (Value.int IntKind.i64 1000000000)) 3), (some (48, false)), ann0⟩,
  ⟨(some 52), (Op.pick (Operand.tmp 48) (Operand.const (Value.bool true)) (Operand.tmp 51)), none, ann0⟩,
  ⟨(some 25), (Op.assign (Operand.tmp 52)), none, ann0⟩] none) (.tidy [1, 25] z (z + 1)))
 (.cond (Operand.tmp 25) .skip
 (.reg [⟨(some 53), (Op.fieldAddr 23 (Operand.tmp 1) 7), none, ann0⟩,
  ⟨(some 54), (Op.load 3 (Operand.tmp 53)), none, ann0⟩,
  ⟨(some 55), (Op.binOp BinOp.lss 3 (Operand.tmp 54) (Operand.const (Value.int IntKind.i64 0)) 3), none, ann0⟩,
  ⟨(some 56), (Op.move (Operand.tmp 55)), none, ann0⟩,
  ⟨(some 57), (Op.fieldAddr 23 (Operand.tmp 1) 7), (some (56, false)), ann0⟩,
  ⟨(some 58), (Op.load 3 (Operand.tmp 57)), (some (56, false)), ann0⟩,
  ⟨(some 59), (Op.binOp BinOp.gtr 3 (Operand.tmp 58) (Operand.const (Value.int IntKind.i64 256)) 3), (some (56, false)), ann0⟩,
  ⟨(some 60), (Op.pick (Operand.tmp 56) (Operand.const (Value.bool true)) (Operand.tmp 59)), none, ann0⟩,
  ⟨(some 25), (Op.assign (Operand.tmp 60)), none, ann0⟩] none))))))) (.tidy [25] z (z + 1)))
 (.cond (Operand.tmp 25) (.seq (.reg [⟨(some 2), (Op.assign (Operand.const (Value.int IntKind.i64 2))), none, ann0⟩] none)
 .ret)
 .skip))))) (.tidy [] z (z + 1)))
 (.seq (.reg [⟨(some 2), (Op.assign (Operand.const (Value.int IntKind.i64 0))), none, ann0⟩] none)
 .ret)))⟩
theorem F14 (z : Nat) : FOk Try.prog 14 (s14 z) := by unfold FOk; kernel_rfl
def s15 (z : Nat) : SFn := ⟨1, 69, [(ResultVar.tmp 2)],
 (.seq (.reg [⟨(some 1), (Op.box 23 (Operand.tmp 0)), none, ⟨1, false, false⟩⟩,
  ⟨(some 2), (Op.assign (Operand.const (Value.int IntKind.i64 0))), none, ann0⟩] none)
 (.seq (.post (.seq (.post (.reg [⟨(some 3), (Op.fieldAddr 23 (Operand.tmp 1) 0), none, ann0⟩,
  ⟨(some 4), (Op.load 9 (Operand.tmp 3)), none, ann0⟩,
  ⟨(some 5), (Op.call { callee := (Callee.value (Operand.func 34)), args := #[(Operand.tmp 4)], argTypes := #[9] }), none, ann0⟩,
  ⟨(some 6), (Op.unOp UnOp.not 4 (Operand.tmp 5)), none, ann0⟩,
  ⟨(some 7), (Op.move (Operand.tmp 6)), none, ann0⟩,
  ⟨(some 8), (Op.fieldAddr 23 (Operand.tmp 1) 1), (some (7, false)), ann0⟩,
  ⟨(some 9), (Op.load 9 (Operand.tmp 8)), (some (7, false)), ann0⟩,
  ⟨(some 10), (Op.call { callee := (Callee.value (Operand.func 34)), args := #[(Operand.tmp 9)], argTypes := #[9] }), (some (7, false)), ann0⟩,
  ⟨(some 11), (Op.unOp UnOp.not 4 (Operand.tmp 10)), (some (7, false)), ann0⟩,
  ⟨(some 12), (Op.pick (Operand.tmp 7) (Operand.const (Value.bool true)) (Operand.tmp 11)), none, ann0⟩,
  ⟨(some 13), (Op.move (Operand.tmp 12)), none, ann0⟩,
  ⟨(some 14), (Op.fieldAddr 23 (Operand.tmp 1) 2), (some (13, false)), ann0⟩,
  ⟨(some 15), (Op.load 9 (Operand.tmp 14)), (some (13, false)), ann0⟩,
  ⟨(some 16), (Op.binOp BinOp.neq 9 (Operand.tmp 15) (Operand.const (Value.string ⟨#[]⟩)) 9), (some (13, false)), ann0⟩,
  ⟨(some 17), (Op.move (Operand.tmp 16)), (some (13, false)), ann0⟩,
  ⟨(some 18), (Op.fieldAddr 23 (Operand.tmp 1) 2), (some (17, true)), ann0⟩,
  ⟨(some 19), (Op.load 9 (Operand.tmp 18)), (some (17, true)), ann0⟩,
  ⟨(some 20), (Op.call { callee := (Callee.value (Operand.func 34)), args := #[(Operand.tmp 19)], argTypes := #[9] }), (some (17, true)), ann0⟩,
  ⟨(some 21), (Op.unOp UnOp.not 4 (Operand.tmp 20)), (some (17, true)), ann0⟩,
  ⟨(some 22), (Op.pick (Operand.tmp 17) (Operand.tmp 21) (Operand.const (Value.bool false))), (some (13, false)), ann0⟩,
  ⟨(some 23), (Op.pick (Operand.tmp 13) (Operand.const (Value.bool true)) (Operand.tmp 22)), none, ann0⟩] none) (.tidy [1, 23] z (z + 1)))
 (.cond (Operand.tmp 23) (.seq (.reg [⟨(some 2), (Op.assign (Operand.const (Value.int IntKind.i64 11))), none, ann0⟩] none)
 .ret)
 .skip)) (.tidy [1] z (z + 1)))
 (.seq (.post (.seq (.post (.reg [⟨(some 24), (Op.fieldAddr 23 (Operand.tmp 1) 3), none, ann0⟩,
  ⟨(some 25), (Op.load 3 (Operand.tmp 24)), none, ann0⟩,
  ⟨(some 26), (Op.binOp BinOp.lss 3 (Operand.tmp 25) (Operand.const (Value.int IntKind.i64 0)) 3), none, ann0⟩,
  ⟨(some 27), (Op.move (Operand.tmp 26)), none, ann0⟩,
  ⟨(some 28), (Op.fieldAddr 23 (Operand.tmp 1) 3), (some (27, false)), ann0⟩,
  ⟨(some 29), (Op.load 3 (Operand.tmp 28)), (some (27, false)), ann0⟩,
  ⟨(some 30), (Op.binOp BinOp.gtr 3 (Operand.tmp 29) (Operand.const (Value.int IntKind.i64 999999)) 3), (some (27, false)), ann0⟩,
  ⟨(some 31), (Op.pick (Operand.tmp 27) (Operand.const (Value.bool true)) (Operand.tmp 30)), none, ann0⟩,
  ⟨(some 32), (Op.move (Operand.tmp 31)), none, ann0⟩,
  ⟨(some 33), (Op.fieldAddr 23 (Operand.tmp 1) 5), (some (32, false)), ann0⟩,
  ⟨(some 34), (Op.load 3 (Operand.tmp 33)), (some (32, false)), ann0⟩,
  ⟨(some 35), (Op.binOp BinOp.lss 3 (Operand.tmp 34) (Operand.const (Value.int IntKind.i64 1)) 3), (some (32, false)), ann0⟩,
  ⟨(some 36), (Op.pick (Operand.tmp 32) (Operand.const (Value.bool true)) (Operand.tmp 35)), none, ann0⟩,
  ⟨(some 37), (Op.move (Operand.tmp 36)), none, ann0⟩,
  ⟨(some 38), (Op.fieldAddr 23 (Operand.tmp 1) 5), (some (37, false)), ann0⟩,
  ⟨(some 39), (Op.load 3 (Operand.tmp 38)), (some (37, false)), ann0⟩,
  ⟨(some 40), (Op.fieldAddr 23 (Operand.tmp 1) 4), (some (37, false)), ann0⟩,
  ⟨(some 41), (Op.load 3 (Operand.tmp 40)), (some (37, false)), ann0⟩,
  ⟨(some 42), (Op.binOp BinOp.gtr 3 (Operand.tmp 39) (Operand.tmp 41) 3), (some (37, false)), ann0⟩,
  ⟨(some 43), (Op.pick (Operand.tmp 37) (Operand.const (Value.bool true)) (Operand.tmp 42)), none, ann0⟩,
  ⟨(some 44), (Op.move (Operand.tmp 43)), none, ann0⟩,
  ⟨(some 45), (Op.fieldAddr 23 (Operand.tmp 1) 4), (some (44, false)), ann0⟩,
  ⟨(some 46), (Op.load 3 (Operand.tmp 45)), (some (44, false)), ann0⟩,
  ⟨(some 47), (Op.binOp BinOp.gtr 3 (Operand.tmp 46) (Operand.const (Value.int IntKind.i64 256)) 3), (some (44, false)), ann0⟩,
  ⟨(some 48), (Op.pick (Operand.tmp 44) (Operand.const (Value.bool true)) (Operand.tmp 47)), none, ann0⟩,
  ⟨(some 49), (Op.move (Operand.tmp 48)), none, ann0⟩,
  ⟨(some 50), (Op.fieldAddr 23 (Operand.tmp 1) 6), (some (49, false)), ann0⟩,
  ⟨(some 51), (Op.load 3 (Operand.tmp 50)), (some (49, false)), ann0⟩,
  ⟨(some 52), (Op.binOp BinOp.lss 3 (Operand.tmp 51) (Operand.const (Value.int IntKind.i64 1)) 3), (some (49, false)), ann0⟩,
  ⟨(some 53), (Op.pick (Operand.tmp 49) (Operand.const (Value.bool true)) (Operand.tmp 52)), none, ann0⟩,
  ⟨(some 54), (Op.move (Operand.tmp 53)), none, ann0⟩,
  ⟨(some 55), (Op.fieldAddr 23 (Operand.tmp 1) 6), (some (54, false)), ann0⟩,
  ⟨(some 56), (Op.load 3 (Operand.tmp 55)), (some (54, false)), ann0⟩,
  ⟨(some 57), (Op.binOp BinOp.gtr 3 (Operand.tmp 56) (Operand.const (Value.int IntKind.i64 1000000000)) 3), (some (54, false)), ann0⟩,
  ⟨(some 58), (Op.pick (Operand.tmp 54) (Operand.const (Value.bool true)) (Operand.tmp 57)), none, ann0⟩,
  ⟨(some 59), (Op.move (Operand.tmp 58)), none, ann0⟩,
  ⟨(some 60), (Op.fieldAddr 23 (Operand.tmp 1) 7), (some (59, false)), ann0⟩,
  ⟨(some 61), (Op.load 3 (Operand.tmp 60)), (some (59, false)), ann0⟩,
  ⟨(some 62), (Op.binOp BinOp.lss 3 (Operand.tmp 61) (Operand.const (Value.int IntKind.i64 0)) 3), (some (59, false)), ann0⟩,
  ⟨(some 63), (Op.pick (Operand.tmp 59) (Operand.const (Value.bool true)) (Operand.tmp 62)), none, ann0⟩,
  ⟨(some 64), (Op.move (Operand.tmp 63)), none, ann0⟩,
  ⟨(some 65), (Op.fieldAddr 23 (Operand.tmp 1) 7), (some (64, false)), ann0⟩,
  ⟨(some 66), (Op.load 3 (Operand.tmp 65)), (some (64, false)), ann0⟩,
  ⟨(some 67), (Op.binOp BinOp.gtr 3 (Operand.tmp 66) (Operand.const (Value.int IntKind.i64 256)) 3), (some (64, false)), ann0⟩,
  ⟨(some 68), (Op.pick (Operand.tmp 64) (Operand.const (Value.bool true)) (Operand.tmp 67)), none, ann0⟩] none) (.tidy [68] z (z + 1)))
 (.cond (Operand.tmp 68) (.seq (.reg [⟨(some 2), (Op.assign (Operand.const (Value.int IntKind.i64 2))), none, ann0⟩] none)
 .ret)
 .skip)) (.tidy [] z (z + 1)))
 (.seq (.reg [⟨(some 2), (Op.assign (Operand.const (Value.int IntKind.i64 0))), none, ann0⟩] none)
 .ret))))⟩
theorem F15 (z : Nat) : FOk Try.prog 15 (s15 z) := by unfold FOk; kernel_rfl
def s16 (z : Nat) : SFn := ⟨1, 36, [(ResultVar.cell 2 23)],
 (.seq (.reg [⟨(some 1), (Op.box 25 (Operand.tmp 0)), none, ⟨1, false, false⟩⟩,
  ⟨(some 2), (Op.alloc 23), none, ⟨1, false, false⟩⟩] none)
 (.seq (.post (.reg [⟨(some 4), (Op.fieldAddr 25 (Operand.tmp 1) 0), none, ann0⟩,
  ⟨(some 5), (Op.load 5 (Operand.tmp 4)), none, ann0⟩,
  ⟨(some 6), (Op.binOp BinOp.rem 5 (Operand.tmp 5) (Operand.const (Value.int IntKind.u8 200)) 5), none, ann0⟩,
  ⟨(some 7), (Op.convert 5 3 (Operand.tmp 6)), none, ann0⟩,
  ⟨(some 8), (Op.binOp BinOp.add 3 (Operand.const (Value.int IntKind.i64 1)) (Operand.tmp 7) 3), none, ann0⟩,
  ⟨(some 9), (Op.binOp BinOp.mul 3 (Operand.const (Value.int IntKind.i64 1000)) (Operand.tmp 8) 3), none, ann0⟩,
  ⟨(some 10), (Op.binOp BinOp.sub 3 (Operand.const (Value.int IntKind.i64 1000000)) (Operand.tmp 9) 3), none, ann0⟩,
  ⟨(some 11), (Op.fieldAddr 25 (Operand.tmp 1) 1), none, ann0⟩,
  ⟨(some 12), (Op.load 5 (Operand.tmp 11)), none, ann0⟩,
  ⟨(some 13), (Op.binOp BinOp.rem 5 (Operand.tmp 12) (Operand.const (Value.int IntKind.u8 6)) 5), none, ann0⟩,
  ⟨(some 14), (Op.convert 5 3 (Operand.tmp 13)), none, ann0⟩,
  ⟨(some 15), (Op.binOp BinOp.add 3 (Operand.const (Value.int IntKind.i64 1)) (Operand.tmp 14) 3), none, ann0⟩,
  ⟨(some 16), (Op.fieldAddr 25 (Operand.tmp 1) 3), none, ann0⟩,
  ⟨(some 17), (Op.load 5 (Operand.tmp 16)), none, ann0⟩,
  ⟨(some 18), (Op.binOp BinOp.rem 5 (Operand.tmp 17) (Operand.const (Value.int IntKind.u8 10)) 5), none, ann0⟩,
  ⟨(some 19), (Op.convert 5 3 (Operand.tmp 18)), none, ann0⟩,
  ⟨(some 20), (Op.binOp BinOp.add 3 (Operand.const (Value.int IntKind.i64 1)) (Operand.tmp 19) 3), none, ann0⟩,
  ⟨(some 21), (Op.binOp BinOp.mul 3 (Operand.const (Value.int IntKind.i64 500)) (Operand.tmp 20) 3), none, ann0⟩,
  ⟨(some 22), (Op.fieldAddr 25 (Operand.tmp 1) 4), none, ann0⟩,
  ⟨(some 23), (Op.load 5 (Operand.tmp 22)), none, ann0⟩,
  ⟨(some 24), (Op.binOp BinOp.rem 5 (Operand.tmp 23) (Operand.const (Value.int IntKind.u8 4)) 5), none, ann0⟩,
  ⟨(some 25), (Op.convert 5 3 (Operand.tmp 24)), none, ann0⟩,
  ⟨(some 26), (Op.build 23 #[(0, (Operand.const (Value.string ⟨#[114]⟩))), (1, (Operand.const (Value.string ⟨#[97, 112, 105]⟩))), (3, (Operand.tmp 10)), (5, (Operand.tmp 15)), (6, (Operand.tmp 21)), (7, (Operand.tmp 25))]), none, ann0⟩,
  ⟨(some 3), (Op.alloc 23), none, ⟨1, false, false⟩⟩,
  ⟨none, (Op.store 23 (Operand.tmp 3) (Operand.tmp 26)), none, ann0⟩] none) (.tidy [1, 2, 3] z (z + 3)))
 (.seq (.post (.reg [⟨(some 27), (Op.fieldAddr 23 (Operand.tmp 3) 5), none, ann0⟩,
  ⟨(some 28), (Op.load 3 (Operand.tmp 27)), none, ann0⟩,
  ⟨(some 29), (Op.fieldAddr 25 (Operand.tmp 1) 2), none, ann0⟩,
  ⟨(some 30), (Op.load 5 (Operand.tmp 29)), none, ann0⟩,
  ⟨(some 31), (Op.binOp BinOp.rem 5 (Operand.tmp 30) (Operand.const (Value.int IntKind.u8 7)) 5), none, ann0⟩,
  ⟨(some 32), (Op.convert 5 3 (Operand.tmp 31)), none, ann0⟩,
  ⟨(some 33), (Op.binOp BinOp.add 3 (Operand.tmp 28) (Operand.tmp 32) 3), none, ann0⟩,
  ⟨(some 34), (Op.fieldAddr 23 (Operand.tmp 3) 4), none, ann0⟩,
  ⟨none, (Op.store 3 (Operand.tmp 34) (Operand.tmp 33)), none, ann0⟩] none) (.tidy [2, 3] z (z + 3)))
 (.seq (.reg [⟨(some 35), (Op.load 23 (Operand.tmp 3)), none, ann0⟩,
  ⟨none, (Op.store 23 (Operand.tmp 2) (Operand.tmp 35)), none, ann0⟩] none)
 .ret))))⟩
theorem F16 (z : Nat) : FOk Try.prog 16 (s16 z) := by unfold FOk; kernel_rfl
def c17_1 (z : Nat) : SC := .post (.seq (.post (.seq (.reg [⟨(some 77), (Op.move (Operand.tmp 11)), none, ann0⟩,
  ⟨(some 78), (Op.fieldAddr 35 (Operand.tmp 4) 5), none, ann0⟩,
  ⟨(some 79), (Op.load 33 (Operand.tmp 78)), none, ann0⟩,
  ⟨(some 80), (Op.call { callee := (Callee.builtin Builtin.len), args := #[(Operand.tmp 79)], argTypes := #[33] }), none, ann0⟩,
  ⟨(some 81), (Op.binOp BinOp.lss 3 (Operand.tmp 77) (Operand.tmp 80) 3), none, ann0⟩] none)
 (.cond (Operand.tmp 81) .skip
 (.exit 0))) (.tidy [4, 5, 10, 11] z (z + 3)))
 (.seq (.post (.block 1 (.seq (.post (.seq (.post (.reg [⟨(some 84), (Op.fieldAddr 35 (Operand.tmp 4) 5), none, ann0⟩,
  ⟨(some 85), (Op.load 33 (Operand.tmp 84)), none, ann0⟩,
  ⟨(some 86), (Op.move (Operand.tmp 11)), none, ann0⟩,
  ⟨(some 87), (Op.indexAddr 33 (Operand.tmp 85) (Operand.tmp 86)), none, ann0⟩,
  ⟨(some 88), (Op.load 3 (Operand.tmp 87)), none, ann0⟩,
  ⟨(some 89), (Op.fieldAddr 35 (Operand.tmp 5) 5), none, ann0⟩,
  ⟨(some 90), (Op.load 33 (Operand.tmp 89)), none, ann0⟩,
  ⟨(some 91), (Op.move (Operand.tmp 11)), none, ann0⟩,
  ⟨(some 92), (Op.indexAddr 33 (Operand.tmp 90) (Operand.tmp 91)), none, ann0⟩,
  ⟨(some 93), (Op.load 3 (Operand.tmp 92)), none, ann0⟩,
  ⟨(some 94), (Op.binOp BinOp.gtr 3 (Operand.tmp 88) (Operand.tmp 93) 3), none, ann0⟩] (some [0, 1, 0, 7, 15, 0, 32, 0, 224, 480, 1023])) (.tidy [4, 5, 10, 11, 94] z (z + 3)))
 (.cond (Operand.tmp 94) (.seq (.reg [⟨(some 6), (Op.assign (Operand.const (Value.int IntKind.i64 2))), none, ann0⟩] none)
 .ret)
 .skip)) (.tidy [4, 5, 10, 11] z (z + 3)))
 (.reg [⟨(some 95), (Op.move (Operand.tmp 10)), none, ann0⟩,
  ⟨(some 96), (Op.fieldAddr 35 (Operand.tmp 5) 5), none, ann0⟩,
  ⟨(some 97), (Op.load 33 (Operand.tmp 96)), none, ann0⟩,
  ⟨(some 98), (Op.move (Operand.tmp 11)), none, ann0⟩,
  ⟨(some 99), (Op.indexAddr 33 (Operand.tmp 97) (Operand.tmp 98)), none, ann0⟩,
  ⟨(some 100), (Op.load 3 (Operand.tmp 99)), none, ann0⟩,
  ⟨(some 101), (Op.binOp BinOp.add 3 (Operand.tmp 95) (Operand.tmp 100) 3), none, ann0⟩,
  ⟨(some 10), (Op.assign (Operand.tmp 101)), none, ann0⟩] none))) (.tidy [4, 5, 10, 11] z (z + 3)))
 (.reg [⟨(some 82), (Op.move (Operand.tmp 11)), none, ann0⟩,
  ⟨(some 83), (Op.binOp BinOp.add 3 (Operand.tmp 82) (Operand.const (Value.int IntKind.i64 1)) 3), none, ann0⟩,
  ⟨(some 11), (Op.assign (Operand.tmp 83)), none, ann0⟩] none))) (.tidy [4, 5, 10, 11] z (z + 3))
def s17_1 (z : Nat) : SC := c17_1 z
theorem e17_1 {C : Pg} {z : Nat} {st : St} {ks : List Fr} {K : Ex → St → Prop} : wpk C (s17_1 z) st ks K ↔ wpk C (c17_1 z) st ks K := Iff.rfl
def s17 (z : Nat) : SFn := ⟨3, 104, [(ResultVar.tmp 6)],
 (.seq (.reg [⟨(some 3), (Op.box 23 (Operand.tmp 0)), none, ⟨1, false, false⟩⟩,
  ⟨(some 4), (Op.box 35 (Operand.tmp 1)), none, ⟨1, false, false⟩⟩,
  ⟨(some 5), (Op.box 35 (Operand.tmp 2)), none, ⟨1, false, false⟩⟩,
  ⟨(some 6), (Op.assign (Operand.const (Value.int IntKind.i64 0))), none, ann0⟩] none)
 (.seq (.post (.seq (.reg [⟨(some 12), (Op.load 23 (Operand.tmp 3)), none, ann0⟩,
  ⟨(some 13), (Op.call { callee := (Callee.value (Operand.func 15)), args := #[(Operand.tmp 12)], argTypes := #[23] }), none, ann0⟩,
  ⟨(some 7), (Op.assign (Operand.tmp 13)), none, ann0⟩] none)
 (.seq (.reg [⟨(some 14), (Op.move (Operand.tmp 7)), none, ann0⟩,
  ⟨(some 15), (Op.binOp BinOp.neq 27 (Operand.tmp 14) (Operand.const (Value.int IntKind.i64 0)) 27), none, ann0⟩] none)
 (.cond (Operand.tmp 15) (.seq (.reg [⟨(some 16), (Op.move (Operand.tmp 7)), none, ann0⟩,
  ⟨(some 6), (Op.assign (Operand.tmp 16)), none, ann0⟩] none)
 .ret)
 .skip))) (.tidy [3, 4, 5] z (z + 3)))
 (.seq (.post (.seq (.reg [⟨(some 17), (Op.load 35 (Operand.tmp 4)), none, ann0⟩,
  ⟨(some 18), (Op.call { callee := (Callee.value (Operand.func 36)), args := #[(Operand.tmp 17)], argTypes := #[35] }), none, ann0⟩,
  ⟨(some 8), (Op.assign (Operand.tmp 18)), none, ann0⟩] none)
 (.seq (.reg [⟨(some 19), (Op.move (Operand.tmp 8)), none, ann0⟩,
  ⟨(some 20), (Op.binOp BinOp.neq 27 (Operand.tmp 19) (Operand.const (Value.int IntKind.i64 0)) 27), none, ann0⟩] none)
 (.cond (Operand.tmp 20) (.seq (.reg [⟨(some 21), (Op.move (Operand.tmp 8)), none, ann0⟩,
  ⟨(some 6), (Op.assign (Operand.tmp 21)), none, ann0⟩] none)
 .ret)
 .skip))) (.tidy [3, 4, 5] z (z + 3)))
 (.seq (.post (.seq (.reg [⟨(some 22), (Op.load 35 (Operand.tmp 5)), none, ann0⟩,
  ⟨(some 23), (Op.call { callee := (Callee.value (Operand.func 36)), args := #[(Operand.tmp 22)], argTypes := #[35] }), none, ann0⟩,
  ⟨(some 9), (Op.assign (Operand.tmp 23)), none, ann0⟩] none)
 (.seq (.reg [⟨(some 24), (Op.move (Operand.tmp 9)), none, ann0⟩,
  ⟨(some 25), (Op.binOp BinOp.neq 27 (Operand.tmp 24) (Operand.const (Value.int IntKind.i64 0)) 27), none, ann0⟩] none)
 (.cond (Operand.tmp 25) (.seq (.reg [⟨(some 26), (Op.move (Operand.tmp 9)), none, ann0⟩,
  ⟨(some 6), (Op.assign (Operand.tmp 26)), none, ann0⟩] none)
 .ret)
 .skip))) (.tidy [3, 4, 5] z (z + 3)))
 (.seq (.post (.seq (.post (.reg [⟨(some 27), (Op.fieldAddr 35 (Operand.tmp 4) 2), none, ann0⟩,
  ⟨(some 28), (Op.load 3 (Operand.tmp 27)), none, ann0⟩,
  ⟨(some 29), (Op.binOp BinOp.neq 3 (Operand.tmp 28) (Operand.const (Value.int IntKind.i64 2)) 3), none, ann0⟩,
  ⟨(some 30), (Op.move (Operand.tmp 29)), none, ann0⟩,
  ⟨(some 31), (Op.fieldAddr 35 (Operand.tmp 5) 2), (some (30, false)), ann0⟩,
  ⟨(some 32), (Op.load 3 (Operand.tmp 31)), (some (30, false)), ann0⟩,
  ⟨(some 33), (Op.binOp BinOp.neq 3 (Operand.tmp 32) (Operand.const (Value.int IntKind.i64 1)) 3), (some (30, false)), ann0⟩,
  ⟨(some 34), (Op.pick (Operand.tmp 30) (Operand.const (Value.bool true)) (Operand.tmp 33)), none, ann0⟩] none) (.tidy [3, 4, 5, 34] z (z + 3)))
 (.cond (Operand.tmp 34) (.seq (.reg [⟨(some 6), (Op.assign (Operand.const (Value.int IntKind.i64 12))), none, ann0⟩] none)
 .ret)
 .skip)) (.tidy [3, 4, 5] z (z + 3)))
 (.seq (.post (.seq (.post (.reg [⟨(some 35), (Op.fieldAddr 35 (Operand.tmp 4) 0), none, ann0⟩,
  ⟨(some 36), (Op.load 9 (Operand.tmp 35)), none, ann0⟩,
  ⟨(some 37), (Op.fieldAddr 23 (Operand.tmp 3) 1), none, ann0⟩,
  ⟨(some 38), (Op.load 9 (Operand.tmp 37)), none, ann0⟩,
  ⟨(some 39), (Op.binOp BinOp.neq 9 (Operand.tmp 36) (Operand.tmp 38) 9), none, ann0⟩,
  ⟨(some 40), (Op.move (Operand.tmp 39)), none, ann0⟩,
  ⟨(some 41), (Op.fieldAddr 35 (Operand.tmp 5) 0), (some (40, false)), ann0⟩,
  ⟨(some 42), (Op.load 9 (Operand.tmp 41)), (some (40, false)), ann0⟩,
  ⟨(some 43), (Op.fieldAddr 23 (Operand.tmp 3) 1), (some (40, false)), ann0⟩,
  ⟨(some 44), (Op.load 9 (Operand.tmp 43)), (some (40, false)), ann0⟩,
  ⟨(some 45), (Op.binOp BinOp.neq 9 (Operand.tmp 42) (Operand.tmp 44) 9), (some (40, false)), ann0⟩,
  ⟨(some 46), (Op.pick (Operand.tmp 40) (Operand.const (Value.bool true)) (Operand.tmp 45)), none, ann0⟩,
  ⟨(some 47), (Op.move (Operand.tmp 46)), none, ann0⟩,
  ⟨(some 48), (Op.fieldAddr 35 (Operand.tmp 4) 1), (some (47, false)), ann0⟩,
  ⟨(some 49), (Op.load 9 (Operand.tmp 48)), (some (47, false)), ann0⟩,
  ⟨(some 50), (Op.fieldAddr 23 (Operand.tmp 3) 2), (some (47, false)), ann0⟩,
  ⟨(some 51), (Op.load 9 (Operand.tmp 50)), (some (47, false)), ann0⟩,
  ⟨(some 52), (Op.binOp BinOp.neq 9 (Operand.tmp 49) (Operand.tmp 51) 9), (some (47, false)), ann0⟩,
  ⟨(some 53), (Op.pick (Operand.tmp 47) (Operand.const (Value.bool true)) (Operand.tmp 52)), none, ann0⟩,
  ⟨(some 54), (Op.move (Operand.tmp 53)), none, ann0⟩,
  ⟨(some 55), (Op.fieldAddr 35 (Operand.tmp 5) 1), (some (54, false)), ann0⟩,
  ⟨(some 56), (Op.load 9 (Operand.tmp 55)), (some (54, false)), ann0⟩,
  ⟨(some 57), (Op.fieldAddr 23 (Operand.tmp 3) 2), (some (54, false)), ann0⟩,
  ⟨(some 58), (Op.load 9 (Operand.tmp 57)), (some (54, false)), ann0⟩,
  ⟨(some 59), (Op.binOp BinOp.neq 9 (Operand.tmp 56) (Operand.tmp 58) 9), (some (54, false)), ann0⟩,
  ⟨(some 60), (Op.pick (Operand.tmp 54) (Operand.const (Value.bool true)) (Operand.tmp 59)), none, ann0⟩,
  ⟨(some 61), (Op.move (Operand.tmp 60)), none, ann0⟩,
  ⟨(some 62), (Op.fieldAddr 35 (Operand.tmp 4) 4), (some (61, false)), ann0⟩,
  ⟨(some 63), (Op.load 3 (Operand.tmp 62)), (some (61, false)), ann0⟩,
  ⟨(some 64), (Op.fieldAddr 35 (Operand.tmp 5) 4), (some (61, false)), ann0⟩,
  ⟨(some 65), (Op.load 3 (Operand.tmp 64)), (some (61, false)), ann0⟩,
  ⟨(some 66), (Op.binOp BinOp.neq 3 (Operand.tmp 63) (Operand.tmp 65) 3), (some (61, false)), ann0⟩,
  ⟨(some 67), (Op.pick (Operand.tmp 61) (Operand.const (Value.bool true)) (Operand.tmp 66)), none, ann0⟩,
  ⟨(some 68), (Op.move (Operand.tmp 67)), none, ann0⟩,
  ⟨(some 69), (Op.fieldAddr 35 (Operand.tmp 4) 5), (some (68, false)), ann0⟩,
  ⟨(some 70), (Op.load 33 (Operand.tmp 69)), (some (68, false)), ann0⟩,
  ⟨(some 71), (Op.call { callee := (Callee.builtin Builtin.len), args := #[(Operand.tmp 70)], argTypes := #[33] }), (some (68, false)), ann0⟩,
  ⟨(some 72), (Op.fieldAddr 35 (Operand.tmp 5) 5), (some (68, false)), ann0⟩,
  ⟨(some 73), (Op.load 33 (Operand.tmp 72)), (some (68, false)), ann0⟩,
  ⟨(some 74), (Op.call { callee := (Callee.builtin Builtin.len), args := #[(Operand.tmp 73)], argTypes := #[33] }), (some (68, false)), ann0⟩,
  ⟨(some 75), (Op.binOp BinOp.neq 3 (Operand.tmp 71) (Operand.tmp 74) 3), (some (68, false)), ann0⟩,
  ⟨(some 76), (Op.pick (Operand.tmp 68) (Operand.const (Value.bool true)) (Operand.tmp 75)), none, ann0⟩] none) (.tidy [4, 5, 76] z (z + 3)))
 (.cond (Operand.tmp 76) (.seq (.reg [⟨(some 6), (Op.assign (Operand.const (Value.int IntKind.i64 17))), none, ann0⟩] none)
 .ret)
 .skip)) (.tidy [4, 5] z (z + 3)))
 (.seq (.reg [⟨(some 10), (Op.assign (Operand.const (Value.int IntKind.i64 0))), none, ann0⟩] none)
 (.seq (.post (.seq (.reg [⟨(some 11), (Op.assign (Operand.const (Value.int IntKind.i64 0))), none, ann0⟩] none)
 (.post (.block 0 (.pre (.tidy [4, 5, 10, 11] z (z + 3)) (.loop (s17_1 z)))) (.tidy [10] z (z + 3)))) (.tidy [10] z (z + 3)))
 (.seq (.seq (.reg [⟨(some 102), (Op.move (Operand.tmp 10)), none, ann0⟩,
  ⟨(some 103), (Op.binOp BinOp.gtr 3 (Operand.tmp 102) (Operand.const (Value.int IntKind.i64 4294967296)) 3), none, ann0⟩] none)
 (.cond (Operand.tmp 103) (.seq (.reg [⟨(some 6), (Op.assign (Operand.const (Value.int IntKind.i64 20))), none, ann0⟩] none)
 .ret)
 .skip))
 (.seq (.reg [⟨(some 6), (Op.assign (Operand.const (Value.int IntKind.i64 0))), none, ann0⟩] none)
 .ret))))))))))⟩
theorem F17 (z : Nat) : FOk Try.prog 17 (s17 z) := by unfold FOk; kernel_rfl
def s18 (z : Nat) : SFn := ⟨3, 27, [(ResultVar.tmp 6), (ResultVar.tmp 7)],
 (.post (.seq (.reg [⟨(some 3), (Op.box 23 (Operand.tmp 0)), none, ⟨1, false, false⟩⟩,
  ⟨(some 4), (Op.box 35 (Operand.tmp 1)), none, ⟨1, false, false⟩⟩,
  ⟨(some 5), (Op.box 35 (Operand.tmp 2)), none, ⟨1, false, false⟩⟩,
  ⟨(some 6), (Op.assign (Operand.const (Value.slice none 0 0))), none, ann0⟩,
  ⟨(some 7), (Op.assign (Operand.const (Value.int IntKind.i64 0))), none, ann0⟩] none)
 (.seq (.post (.seq (.post (.reg [⟨(some 10), (Op.load 23 (Operand.tmp 3)), none, ann0⟩,
  ⟨(some 11), (Op.load 35 (Operand.tmp 4)), none, ann0⟩,
  ⟨(some 12), (Op.load 35 (Operand.tmp 5)), none, ann0⟩,
  ⟨(some 13), (Op.call { callee := (Callee.value (Operand.func 20)), args := #[(Operand.tmp 10), (Operand.tmp 11), (Operand.tmp 12)], argTypes := #[23, 35, 35] }), none, ann0⟩,
  ⟨(some 8), (Op.assign (Operand.tmp 13)), none, ann0⟩] none) (.tidy [3, 4, 5, 8] z (z + 3)))
 (.seq (.reg [⟨(some 14), (Op.move (Operand.tmp 8)), none, ann0⟩,
  ⟨(some 15), (Op.binOp BinOp.neq 27 (Operand.tmp 14) (Operand.const (Value.int IntKind.i64 0)) 27), none, ann0⟩] none)
 (.cond (Operand.tmp 15) (.seq (.reg [⟨(some 16), (Op.move (Operand.tmp 8)), none, ann0⟩,
  ⟨(some 6), (Op.assign (Operand.const (Value.slice none 0 0))), none, ann0⟩,
  ⟨(some 7), (Op.assign (Operand.tmp 16)), none, ann0⟩] none)
 .ret)
 .skip))) (.tidy [3, 4, 5] z (z + 3)))
 (.seq (.reg [⟨(some 17), (Op.load 23 (Operand.tmp 3)), none, ann0⟩,
  ⟨(some 18), (Op.build 91 #[(0, (Operand.tmp 17))]), none, ann0⟩,
  ⟨(some 19), (Op.box 91 (Operand.tmp 18)), none, ⟨1, false, false⟩⟩,
  ⟨(some 9), (Op.assign (Operand.tmp 19)), none, ann0⟩] none)
 (.seq (.reg [⟨(some 20), (Op.fieldAddr 35 (Operand.tmp 4) 5), none, ann0⟩,
  ⟨(some 21), (Op.load 33 (Operand.tmp 20)), none, ann0⟩,
  ⟨(some 22), (Op.fieldAddr 35 (Operand.tmp 5) 5), none, ann0⟩,
  ⟨(some 23), (Op.load 33 (Operand.tmp 22)), none, ann0⟩,
  ⟨(some 24), (Op.move (Operand.tmp 9)), none, ann0⟩,
  ⟨(some 25), (Op.makeFunc (Fn.func 38) #[(Operand.tmp 24)] #[]), none, ann0⟩,
  ⟨(some 26), (Op.call { callee := (Callee.value (Operand.func 37)), args := #[(Operand.tmp 21), (Operand.tmp 23), (Operand.tmp 25)], argTypes := #[33, 33, 93] }), none, ann0⟩,
  ⟨(some 6), (Op.assign (Operand.tmp 26)), none, ann0⟩,
  ⟨(some 7), (Op.assign (Operand.const (Value.int IntKind.i64 0))), none, ann0⟩] none)
 .ret)))) (.frz 6))⟩
theorem F18 (z : Nat) : FOk Try.prog 18 (s18 z) := by unfold FOk; kernel_rfl
def c19_1 (z : Nat) : SC := .post (.seq (.reg [⟨(some 28), (Op.binOp BinOp.lss 3 (Operand.tmp 27) (Operand.tmp 26) 3), none, ann0⟩] none)
 (.seq (.cond (Operand.tmp 28) .skip
 (.exit 0))
 (.seq (.post (.block 1 (.seq (.reg [⟨(some 29), (Op.move (Operand.tmp 27)), none, ann0⟩,
  ⟨(some 30), (Op.indexAddr 33 (Operand.tmp 25) (Operand.tmp 27)), none, ann0⟩,
  ⟨(some 31), (Op.load 3 (Operand.tmp 30)), none, ann0⟩,
  ⟨(some 11), (Op.assign (Operand.tmp 29)), none, ann0⟩,
  ⟨(some 12), (Op.assign (Operand.tmp 31)), none, ann0⟩] none)
 (.seq (.post (.reg [⟨(some 32), (Op.fieldAddr 35 (Operand.tmp 4) 4), none, ann0⟩,
  ⟨(some 33), (Op.load 3 (Operand.tmp 32)), none, ann0⟩,
  ⟨(some 34), (Op.move (Operand.tmp 11)), none, ann0⟩,
  ⟨(some 35), (Op.binOp BinOp.add 3 (Operand.tmp 33) (Operand.tmp 34) 3), none, ann0⟩,
  ⟨(some 13), (Op.assign (Operand.tmp 35)), none, ann0⟩] none) (.tidy [4, 8, 10, 11, 12, 13, 25, 26, 27] z (z + 4)))
 (.seq (.seq (.reg [⟨(some 36), (Op.move (Operand.tmp 12)), none, ann0⟩,
  ⟨(some 37), (Op.binOp BinOp.eql 3 (Operand.tmp 36) (Operand.const (Value.int IntKind.i64 0)) 3), none, ann0⟩] none)
 (.cond (Operand.tmp 37) (.exit 1)
 .skip))
 (.seq (.post (.seq (.post (.reg [⟨(some 38), (Op.move (Operand.tmp 11)), none, ann0⟩,
  ⟨(some 39), (Op.binOp BinOp.eql 3 (Operand.tmp 38) (Operand.const (Value.int IntKind.i64 0)) 3), none, ann0⟩,
  ⟨(some 40), (Op.move (Operand.tmp 39)), none, ann0⟩,
  ⟨(some 41), (Op.move (Operand.tmp 8)), (some (40, false)), ann0⟩,
  ⟨(some 42), (Op.move (Operand.tmp 11)), (some (40, false)), ann0⟩,
  ⟨(some 43), (Op.binOp BinOp.sub 3 (Operand.tmp 42) (Operand.const (Value.int IntKind.i64 1)) 3), (some (40, false)), ann0⟩,
  ⟨(some 44), (Op.indexAddr 33 (Operand.tmp 41) (Operand.tmp 43)), (some (40, false)), ann0⟩,
  ⟨(some 45), (Op.load 3 (Operand.tmp 44)), (some (40, false)), ann0⟩,
  ⟨(some 46), (Op.binOp BinOp.eql 3 (Operand.tmp 45) (Operand.const (Value.int IntKind.i64 0)) 3), (some (40, false)), ann0⟩,
  ⟨(some 47), (Op.pick (Operand.tmp 40) (Operand.const (Value.bool true)) (Operand.tmp 46)), none, ann0⟩] none) (.tidy [4, 8, 10, 12, 13, 25, 26, 27, 47] z (z + 4)))
 (.cond (Operand.tmp 47) (.reg [⟨(some 48), (Op.move (Operand.tmp 10)), none, ann0⟩,
  ⟨(some 49), (Op.move (Operand.tmp 13)), none, ann0⟩,
  ⟨(some 50), (Op.build 57 #[(0, (Operand.tmp 49)), (2, (Operand.const (Value.int IntKind.i64 (-1))))]), none, ann0⟩,
  ⟨(some 51), (Op.buildSlice 39 1 #[(0, (Operand.tmp 50))]), none, ⟨1, true, false⟩⟩,
  ⟨(some 52), (Op.call { callee := (Callee.builtin Builtin.append), args := #[(Operand.tmp 48), (Operand.tmp 51)], argTypes := #[39, 39] }), none, ann0⟩,
  ⟨(some 10), (Op.assign (Operand.tmp 52)), none, ann0⟩] none)
 .skip)) (.tidy [4, 8, 10, 12, 13, 25, 26, 27] z (z + 5)))
 (.seq (.reg [⟨(some 53), (Op.move (Operand.tmp 10)), none, ann0⟩,
  ⟨(some 54), (Op.move (Operand.tmp 10)), none, ann0⟩,
  ⟨(some 55), (Op.call { callee := (Callee.builtin Builtin.len), args := #[(Operand.tmp 54)], argTypes := #[39] }), none, ann0⟩,
  ⟨(some 56), (Op.binOp BinOp.sub 3 (Operand.tmp 55) (Operand.const (Value.int IntKind.i64 1)) 3), none, ann0⟩,
  ⟨(some 57), (Op.indexAddr 39 (Operand.tmp 53) (Operand.tmp 56)), none, ann0⟩,
  ⟨(some 14), (Op.assign (Operand.tmp 57)), none, ann0⟩] none)
 (.seq (.post (.reg [⟨(some 58), (Op.move (Operand.tmp 14)), none, ann0⟩,
  ⟨(some 59), (Op.move (Operand.tmp 13)), none, ann0⟩,
  ⟨(some 60), (Op.binOp BinOp.add 3 (Operand.tmp 59) (Operand.const (Value.int IntKind.i64 1)) 3), none, ann0⟩,
  ⟨(some 61), (Op.nilCheck (Operand.tmp 58)), none, ann0⟩,
  ⟨(some 62), (Op.fieldAddr 57 (Operand.tmp 61) 1), none, ann0⟩,
  ⟨none, (Op.store 3 (Operand.tmp 62) (Operand.tmp 60)), none, ann0⟩] none) (.tidy [4, 8, 10, 12, 13, 14, 25, 26, 27] z (z + 5)))
 (.seq (.post (.reg [⟨(some 63), (Op.move (Operand.tmp 12)), none, ann0⟩,
  ⟨(some 64), (Op.binOp BinOp.eql 3 (Operand.tmp 63) (Operand.const (Value.int IntKind.i64 2)) 3), none, ann0⟩,
  ⟨(some 65), (Op.move (Operand.tmp 64)), none, ann0⟩,
  ⟨(some 66), (Op.move (Operand.tmp 14)), (some (65, true)), ann0⟩,
  ⟨(some 67), (Op.nilCheck (Operand.tmp 66)), (some (65, true)), ann0⟩,
  ⟨(some 68), (Op.fieldAddr 57 (Operand.tmp 67) 2), (some (65, true)), ann0⟩,
  ⟨(some 69), (Op.load 3 (Operand.tmp 68)), (some (65, true)), ann0⟩,
  ⟨(some 70), (Op.binOp BinOp.lss 3 (Operand.tmp 69) (Operand.const (Value.int IntKind.i64 0)) 3), (some (65, true)), ann0⟩,
  ⟨(some 71), (Op.pick (Operand.tmp 65) (Operand.tmp 70) (Operand.const (Value.bool false))), none, ann0⟩] none) (.tidy [4, 8, 10, 13, 14, 25, 26, 27, 71] z (z + 5)))
 (.cond (Operand.tmp 71) (.reg [⟨(some 72), (Op.move (Operand.tmp 14)), none, ann0⟩,
  ⟨(some 73), (Op.move (Operand.tmp 13)), none, ann0⟩,
  ⟨(some 74), (Op.nilCheck (Operand.tmp 72)), none, ann0⟩,
  ⟨(some 75), (Op.fieldAddr 57 (Operand.tmp 74) 2), none, ann0⟩,
  ⟨none, (Op.store 3 (Operand.tmp 75) (Operand.tmp 73)), none, ann0⟩] none)
 .skip))))))))) (.tidy [4, 8, 10, 25, 26, 27] z (z + 5)))
 (.reg [⟨(some 76), (Op.binOp BinOp.add 3 (Operand.tmp 27) (Operand.const (Value.int IntKind.i64 1)) 3), none, ann0⟩,
  ⟨(some 27), (Op.move (Operand.tmp 76)), none, ann0⟩] none)))) (.tidy [4, 8, 10, 25, 26, 27] z (z + 4))
def s19_1 (z : Nat) : SC := c19_1 z
theorem e19_1 {C : Pg} {z : Nat} {st : St} {ks : List Fr} {K : Ex → St → Prop} : wpk C (s19_1 z) st ks K ↔ wpk C (c19_1 z) st ks K := Iff.rfl
def s19 (z : Nat) : SFn := ⟨3, 78, [(ResultVar.tmp 6), (ResultVar.tmp 7)],
 (.post (.seq (.reg [⟨(some 3), (Op.box 23 (Operand.tmp 0)), none, ⟨1, false, false⟩⟩,
  ⟨(some 4), (Op.box 35 (Operand.tmp 1)), none, ⟨1, false, false⟩⟩,
  ⟨(some 5), (Op.box 35 (Operand.tmp 2)), none, ⟨1, false, false⟩⟩,
  ⟨(some 6), (Op.assign (Operand.const (Value.slice none 0 0))), none, ann0⟩,
  ⟨(some 7), (Op.assign (Operand.const (Value.int IntKind.i64 0))), none, ann0⟩] none)
 (.seq (.post (.reg [⟨(some 16), (Op.load 23 (Operand.tmp 3)), none, ann0⟩,
  ⟨(some 17), (Op.load 35 (Operand.tmp 4)), none, ann0⟩,
  ⟨(some 18), (Op.load 35 (Operand.tmp 5)), none, ann0⟩,
  ⟨(some 19), (Op.call { callee := (Callee.value (Operand.func 18)), args := #[(Operand.tmp 16), (Operand.tmp 17), (Operand.tmp 18)], argTypes := #[23, 35, 35] }), none, ann0⟩,
  ⟨(some 15), (Op.move (Operand.tmp 19)), none, ann0⟩,
  ⟨(some 20), (Op.extract (Operand.tmp 15) 0), none, ann0⟩,
  ⟨(some 21), (Op.extract (Operand.tmp 15) 1), none, ann0⟩,
  ⟨(some 8), (Op.assign (Operand.tmp 20)), none, ann0⟩,
  ⟨(some 9), (Op.assign (Operand.tmp 21)), none, ann0⟩] none) (.tidy [4, 8, 9] z (z + 3)))
 (.seq (.post (.seq (.reg [⟨(some 22), (Op.move (Operand.tmp 9)), none, ann0⟩,
  ⟨(some 23), (Op.binOp BinOp.neq 27 (Operand.tmp 22) (Operand.const (Value.int IntKind.i64 0)) 27), none, ann0⟩] none)
 (.cond (Operand.tmp 23) (.seq (.reg [⟨(some 24), (Op.move (Operand.tmp 9)), none, ann0⟩,
  ⟨(some 6), (Op.assign (Operand.const (Value.slice none 0 0))), none, ann0⟩,
  ⟨(some 7), (Op.assign (Operand.tmp 24)), none, ann0⟩] none)
 .ret)
 .skip)) (.tidy [4, 8] z (z + 3)))
 (.seq (.post (.reg [⟨(some 10), (Op.assign (Operand.const (Value.slice none 0 0))), none, ann0⟩] none) (.mkv 10 57 3))
 (.seq (.post (.seq (.reg [⟨(some 25), (Op.move (Operand.tmp 8)), none, ann0⟩,
  ⟨(some 26), (Op.call { callee := (Callee.builtin Builtin.len), args := #[(Operand.tmp 25)], argTypes := #[33] }), none, ann0⟩,
  ⟨(some 27), (Op.move (Operand.const (Value.int IntKind.i64 0))), none, ann0⟩] none)
 (.post (.block 0 (.pre (.tidy [4, 8, 10, 25, 26, 27] z (z + 4)) (.loop (s19_1 z)))) (.tidy [10] z (z + 4)))) (.tidy [10] z (z + 4)))
 (.seq (.reg [⟨(some 77), (Op.move (Operand.tmp 10)), none, ann0⟩,
  ⟨(some 6), (Op.assign (Operand.tmp 77)), none, ann0⟩,
  ⟨(some 7), (Op.assign (Operand.const (Value.int IntKind.i64 0))), none, ann0⟩] none)
 .ret)))))) (.frz 6))⟩
theorem F19 (z : Nat) : FOk Try.prog 19 (s19 z) := by unfold FOk; kernel_rfl
def c20_1 (z : Nat) : SC := .post (.seq (.reg [⟨(some 28), (Op.binOp BinOp.lss 3 (Operand.tmp 27) (Operand.tmp 26) 3), none, ann0⟩] none)
 (.seq (.cond (Operand.tmp 28) .skip
 (.exit 0))
 (.seq (.post (.block 1 (.seq (.reg [⟨(some 29), (Op.indexAddr 95 (Operand.tmp 25) (Operand.tmp 27)), none, ann0⟩,
  ⟨(some 30), (Op.load 35 (Operand.tmp 29)), none, ann0⟩,
  ⟨(some 9), (Op.alloc 35), none, ⟨1, false, false⟩⟩,
  ⟨none, (Op.store 35 (Operand.tmp 9) (Operand.tmp 30)), none, ann0⟩] none)
 (.seq (.post (.reg [⟨(some 31), (Op.load 35 (Operand.tmp 9)), none, ann0⟩,
  ⟨(some 32), (Op.call { callee := (Callee.value (Operand.func 36)), args := #[(Operand.tmp 31)], argTypes := #[35] }), none, ann0⟩,
  ⟨(some 10), (Op.assign (Operand.tmp 32)), none, ann0⟩] none) (.tidy [3, 4, 5, 10, 25, 26, 27] z (z + 5)))
 (.seq (.reg [⟨(some 33), (Op.move (Operand.tmp 10)), none, ann0⟩,
  ⟨(some 34), (Op.binOp BinOp.neq 27 (Operand.tmp 33) (Operand.const (Value.int IntKind.i64 0)) 27), none, ann0⟩] none)
 (.cond (Operand.tmp 34) (.seq (.reg [⟨(some 35), (Op.move (Operand.tmp 10)), none, ann0⟩,
  ⟨(some 6), (Op.assign (Operand.tmp 35)), none, ann0⟩] none)
 .ret)
 .skip))))) (.tidy [3, 4, 5, 25, 26, 27] z (z + 5)))
 (.reg [⟨(some 36), (Op.binOp BinOp.add 3 (Operand.tmp 27) (Operand.const (Value.int IntKind.i64 1)) 3), none, ann0⟩,
  ⟨(some 27), (Op.move (Operand.tmp 36)), none, ann0⟩] none)))) (.tidy [3, 4, 5, 25, 26, 27] z (z + 4))
def s20_1 (z : Nat) : SC := c20_1 z
theorem e20_1 {C : Pg} {z : Nat} {st : St} {ks : List Fr} {K : Ex → St → Prop} : wpk C (s20_1 z) st ks K ↔ wpk C (c20_1 z) st ks K := Iff.rfl
def c20_2 (z : Nat) : SC := .post (.seq (.reg [⟨(some 50), (Op.binOp BinOp.lss 3 (Operand.tmp 49) (Operand.tmp 48) 3), none, ann0⟩] none)
 (.seq (.cond (Operand.tmp 50) .skip
 (.exit 2))
 (.seq (.post (.block 3 (.seq (.reg [⟨(some 51), (Op.indexAddr 95 (Operand.tmp 47) (Operand.tmp 49)), none, ann0⟩,
  ⟨(some 52), (Op.load 35 (Operand.tmp 51)), none, ann0⟩,
  ⟨(some 12), (Op.alloc 35), none, ⟨1, false, false⟩⟩,
  ⟨none, (Op.store 35 (Operand.tmp 12) (Operand.tmp 52)), none, ann0⟩] none)
 (.seq (.post (.reg [⟨(some 53), (Op.fieldAddr 35 (Operand.tmp 12) 0), none, ann0⟩,
  ⟨(some 54), (Op.load 9 (Operand.tmp 53)), none, ann0⟩,
  ⟨(some 55), (Op.fieldAddr 23 (Operand.tmp 3) 1), none, ann0⟩,
  ⟨(some 56), (Op.load 9 (Operand.tmp 55)), none, ann0⟩,
  ⟨(some 57), (Op.binOp BinOp.neq 9 (Operand.tmp 54) (Operand.tmp 56) 9), none, ann0⟩,
  ⟨(some 58), (Op.move (Operand.tmp 57)), none, ann0⟩,
  ⟨(some 59), (Op.fieldAddr 35 (Operand.tmp 12) 1), (some (58, false)), ann0⟩,
  ⟨(some 60), (Op.load 9 (Operand.tmp 59)), (some (58, false)), ann0⟩,
  ⟨(some 61), (Op.fieldAddr 23 (Operand.tmp 3) 2), (some (58, false)), ann0⟩,
  ⟨(some 62), (Op.load 9 (Operand.tmp 61)), (some (58, false)), ann0⟩,
  ⟨(some 63), (Op.binOp BinOp.neq 9 (Operand.tmp 60) (Operand.tmp 62) 9), (some (58, false)), ann0⟩,
  ⟨(some 64), (Op.pick (Operand.tmp 58) (Operand.const (Value.bool true)) (Operand.tmp 63)), none, ann0⟩,
  ⟨(some 65), (Op.move (Operand.tmp 64)), none, ann0⟩,
  ⟨(some 66), (Op.fieldAddr 35 (Operand.tmp 12) 4), (some (65, false)), ann0⟩,
  ⟨(some 67), (Op.load 3 (Operand.tmp 66)), (some (65, false)), ann0⟩,
  ⟨(some 68), (Op.fieldAddr 35 (Operand.tmp 4) 4), (some (65, false)), ann0⟩,
  ⟨(some 69), (Op.load 3 (Operand.tmp 68)), (some (65, false)), ann0⟩,
  ⟨(some 70), (Op.binOp BinOp.neq 3 (Operand.tmp 67) (Operand.tmp 69) 3), (some (65, false)), ann0⟩,
  ⟨(some 71), (Op.pick (Operand.tmp 65) (Operand.const (Value.bool true)) (Operand.tmp 70)), none, ann0⟩,
  ⟨(some 72), (Op.move (Operand.tmp 71)), none, ann0⟩,
  ⟨(some 73), (Op.fieldAddr 35 (Operand.tmp 12) 5), (some (72, false)), ann0⟩,
  ⟨(some 74), (Op.load 33 (Operand.tmp 73)), (some (72, false)), ann0⟩,
  ⟨(some 75), (Op.call { callee := (Callee.builtin Builtin.len), args := #[(Operand.tmp 74)], argTypes := #[33] }), (some (72, false)), ann0⟩,
  ⟨(some 76), (Op.fieldAddr 35 (Operand.tmp 4) 5), (some (72, false)), ann0⟩,
  ⟨(some 77), (Op.load 33 (Operand.tmp 76)), (some (72, false)), ann0⟩,
  ⟨(some 78), (Op.call { callee := (Callee.builtin Builtin.len), args := #[(Operand.tmp 77)], argTypes := #[33] }), (some (72, false)), ann0⟩,
  ⟨(some 79), (Op.binOp BinOp.neq 3 (Operand.tmp 75) (Operand.tmp 78) 3), (some (72, false)), ann0⟩,
  ⟨(some 80), (Op.pick (Operand.tmp 72) (Operand.const (Value.bool true)) (Operand.tmp 79)), none, ann0⟩] none) (.tidy [3, 4, 5, 47, 48, 49, 80] z (z + 6)))
 (.cond (Operand.tmp 80) (.seq (.reg [⟨(some 6), (Op.assign (Operand.const (Value.int IntKind.i64 17))), none, ann0⟩] none)
 .ret)
 .skip)))) (.tidy [3, 4, 5, 47, 48, 49] z (z + 6)))
 (.reg [⟨(some 81), (Op.binOp BinOp.add 3 (Operand.tmp 49) (Operand.const (Value.int IntKind.i64 1)) 3), none, ann0⟩,
  ⟨(some 49), (Op.move (Operand.tmp 81)), none, ann0⟩] none)))) (.tidy [3, 4, 5, 47, 48, 49] z (z + 5))
def s20_2 (z : Nat) : SC := c20_2 z
theorem e20_2 {C : Pg} {z : Nat} {st : St} {ks : List Fr} {K : Ex → St → Prop} : wpk C (s20_2 z) st ks K ↔ wpk C (c20_2 z) st ks K := Iff.rfl
def c20_3 (z : Nat) : SC := .post (.seq (.reg [⟨(some 86), (Op.binOp BinOp.lss 3 (Operand.tmp 85) (Operand.tmp 84) 3), none, ann0⟩] none)
 (.seq (.cond (Operand.tmp 86) .skip
 (.exit 4))
 (.seq (.post (.block 5 (.seq (.reg [⟨(some 87), (Op.move (Operand.tmp 85)), none, ann0⟩,
  ⟨(some 88), (Op.indexAddr 33 (Operand.tmp 83) (Operand.tmp 85)), none, ann0⟩,
  ⟨(some 89), (Op.load 3 (Operand.tmp 88)), none, ann0⟩,
  ⟨(some 14), (Op.assign (Operand.tmp 87)), none, ann0⟩,
  ⟨(some 15), (Op.assign (Operand.tmp 89)), none, ann0⟩] none)
 (.seq (.post (.reg [⟨(some 90), (Op.move (Operand.tmp 15)), none, ann0⟩,
  ⟨(some 91), (Op.fieldAddr 35 (Operand.tmp 5) 5), none, ann0⟩,
  ⟨(some 92), (Op.load 33 (Operand.tmp 91)), none, ann0⟩,
  ⟨(some 93), (Op.move (Operand.tmp 14)), none, ann0⟩,
  ⟨(some 94), (Op.indexAddr 33 (Operand.tmp 92) (Operand.tmp 93)), none, ann0⟩,
  ⟨(some 95), (Op.load 3 (Operand.tmp 94)), none, ann0⟩,
  ⟨(some 96), (Op.binOp BinOp.gtr 3 (Operand.tmp 90) (Operand.tmp 95) 3), none, ann0⟩] none) (.tidy [5, 13, 83, 84, 85, 96] z (z + 5)))
 (.cond (Operand.tmp 96) (.seq (.reg [⟨(some 6), (Op.assign (Operand.const (Value.int IntKind.i64 2))), none, ann0⟩] none)
 .ret)
 .skip)))) (.tidy [5, 13, 83, 84, 85] z (z + 5)))
 (.reg [⟨(some 97), (Op.binOp BinOp.add 3 (Operand.tmp 85) (Operand.const (Value.int IntKind.i64 1)) 3), none, ann0⟩,
  ⟨(some 85), (Op.move (Operand.tmp 97)), none, ann0⟩] none)))) (.tidy [5, 13, 83, 84, 85] z (z + 5))
def s20_3 (z : Nat) : SC := c20_3 z
theorem e20_3 {C : Pg} {z : Nat} {st : St} {ks : List Fr} {K : Ex → St → Prop} : wpk C (s20_3 z) st ks K ↔ wpk C (c20_3 z) st ks K := Iff.rfl
def c20_4 (z : Nat) : SC := .post (.seq (.reg [⟨(some 102), (Op.binOp BinOp.lss 3 (Operand.tmp 101) (Operand.tmp 100) 3), none, ann0⟩] none)
 (.seq (.cond (Operand.tmp 102) .skip
 (.exit 6))
 (.seq (.post (.block 7 (.seq (.reg [⟨(some 103), (Op.indexAddr 33 (Operand.tmp 99) (Operand.tmp 101)), none, ann0⟩,
  ⟨(some 104), (Op.load 3 (Operand.tmp 103)), none, ann0⟩,
  ⟨(some 17), (Op.assign (Operand.tmp 104)), none, ann0⟩] none)
 (.seq (.post (.reg [⟨(some 105), (Op.move (Operand.tmp 13)), none, ann0⟩,
  ⟨(some 106), (Op.move (Operand.tmp 17)), none, ann0⟩,
  ⟨(some 107), (Op.binOp BinOp.add 3 (Operand.tmp 105) (Operand.tmp 106) 3), none, ann0⟩,
  ⟨(some 13), (Op.assign (Operand.tmp 107)), none, ann0⟩] none) (.tidy [13, 99, 100, 101] z (z + 5)))
 (.seq (.reg [⟨(some 108), (Op.move (Operand.tmp 13)), none, ann0⟩,
  ⟨(some 109), (Op.binOp BinOp.gtr 3 (Operand.tmp 108) (Operand.const (Value.int IntKind.i64 4294967296)) 3), none, ann0⟩] none)
 (.cond (Operand.tmp 109) (.seq (.reg [⟨(some 6), (Op.assign (Operand.const (Value.int IntKind.i64 20))), none, ann0⟩] none)
 .ret)
 .skip))))) (.tidy [13, 99, 100, 101] z (z + 5)))
 (.reg [⟨(some 110), (Op.binOp BinOp.add 3 (Operand.tmp 101) (Operand.const (Value.int IntKind.i64 1)) 3), none, ann0⟩,
  ⟨(some 101), (Op.move (Operand.tmp 110)), none, ann0⟩] none)))) (.tidy [13, 99, 100, 101] z (z + 5))
def s20_4 (z : Nat) : SC := c20_4 z
theorem e20_4 {C : Pg} {z : Nat} {st : St} {ks : List Fr} {K : Ex → St → Prop} : wpk C (s20_4 z) st ks K ↔ wpk C (c20_4 z) st ks K := Iff.rfl
def s20 (z : Nat) : SFn := ⟨3, 111, [(ResultVar.tmp 6)],
 (.seq (.reg [⟨(some 3), (Op.box 23 (Operand.tmp 0)), none, ⟨1, false, false⟩⟩,
  ⟨(some 4), (Op.box 35 (Operand.tmp 1)), none, ⟨1, false, false⟩⟩,
  ⟨(some 5), (Op.box 35 (Operand.tmp 2)), none, ⟨1, false, false⟩⟩,
  ⟨(some 6), (Op.assign (Operand.const (Value.int IntKind.i64 0))), none, ann0⟩] none)
 (.seq (.post (.seq (.reg [⟨(some 18), (Op.load 23 (Operand.tmp 3)), none, ann0⟩,
  ⟨(some 19), (Op.call { callee := (Callee.value (Operand.func 14)), args := #[(Operand.tmp 18)], argTypes := #[23] }), none, ann0⟩,
  ⟨(some 7), (Op.assign (Operand.tmp 19)), none, ann0⟩] none)
 (.seq (.reg [⟨(some 20), (Op.move (Operand.tmp 7)), none, ann0⟩,
  ⟨(some 21), (Op.binOp BinOp.neq 27 (Operand.tmp 20) (Operand.const (Value.int IntKind.i64 0)) 27), none, ann0⟩] none)
 (.cond (Operand.tmp 21) (.seq (.reg [⟨(some 22), (Op.move (Operand.tmp 7)), none, ann0⟩,
  ⟨(some 6), (Op.assign (Operand.tmp 22)), none, ann0⟩] none)
 .ret)
 .skip))) (.tidy [3, 4, 5] z (z + 3)))
 (.seq (.post (.seq (.reg [⟨(some 23), (Op.load 35 (Operand.tmp 4)), none, ann0⟩,
  ⟨(some 24), (Op.load 35 (Operand.tmp 5)), none, ann0⟩,
  ⟨(some 25), (Op.buildSlice 95 2 #[(0, (Operand.tmp 23)), (1, (Operand.tmp 24))]), none, ⟨1, true, false⟩⟩,
  ⟨(some 26), (Op.call { callee := (Callee.builtin Builtin.len), args := #[(Operand.tmp 25)], argTypes := #[95] }), none, ann0⟩,
  ⟨(some 27), (Op.move (Operand.const (Value.int IntKind.i64 0))), none, ann0⟩] none)
 (.post (.block 0 (.pre (.tidy [3, 4, 5, 25, 26, 27] z (z + 4)) (.loop (s20_1 z)))) (.tidy [3, 4, 5] z (z + 4)))) (.tidy [3, 4, 5] z (z + 4)))
 (.seq (.post (.seq (.post (.reg [⟨(some 37), (Op.fieldAddr 35 (Operand.tmp 4) 2), none, ann0⟩,
  ⟨(some 38), (Op.load 3 (Operand.tmp 37)), none, ann0⟩,
  ⟨(some 39), (Op.binOp BinOp.neq 3 (Operand.tmp 38) (Operand.const (Value.int IntKind.i64 2)) 3), none, ann0⟩,
  ⟨(some 40), (Op.move (Operand.tmp 39)), none, ann0⟩,
  ⟨(some 41), (Op.fieldAddr 35 (Operand.tmp 5) 2), (some (40, false)), ann0⟩,
  ⟨(some 42), (Op.load 3 (Operand.tmp 41)), (some (40, false)), ann0⟩,
  ⟨(some 43), (Op.binOp BinOp.neq 3 (Operand.tmp 42) (Operand.const (Value.int IntKind.i64 1)) 3), (some (40, false)), ann0⟩,
  ⟨(some 44), (Op.pick (Operand.tmp 40) (Operand.const (Value.bool true)) (Operand.tmp 43)), none, ann0⟩] none) (.tidy [3, 4, 5, 44] z (z + 4)))
 (.cond (Operand.tmp 44) (.seq (.reg [⟨(some 6), (Op.assign (Operand.const (Value.int IntKind.i64 12))), none, ann0⟩] none)
 .ret)
 .skip)) (.tidy [3, 4, 5] z (z + 4)))
 (.seq (.post (.seq (.reg [⟨(some 45), (Op.load 35 (Operand.tmp 4)), none, ann0⟩,
  ⟨(some 46), (Op.load 35 (Operand.tmp 5)), none, ann0⟩,
  ⟨(some 47), (Op.buildSlice 95 2 #[(0, (Operand.tmp 45)), (1, (Operand.tmp 46))]), none, ⟨1, true, false⟩⟩,
  ⟨(some 48), (Op.call { callee := (Callee.builtin Builtin.len), args := #[(Operand.tmp 47)], argTypes := #[95] }), none, ann0⟩,
  ⟨(some 49), (Op.move (Operand.const (Value.int IntKind.i64 0))), none, ann0⟩] none)
 (.post (.block 2 (.pre (.tidy [3, 4, 5, 47, 48, 49] z (z + 5)) (.loop (s20_2 z)))) (.tidy [4, 5] z (z + 5)))) (.tidy [4, 5] z (z + 5)))
 (.seq (.reg [⟨(some 13), (Op.assign (Operand.const (Value.int IntKind.i64 0))), none, ann0⟩] none)
 (.seq (.post (.seq (.reg [⟨(some 82), (Op.fieldAddr 35 (Operand.tmp 4) 5), none, ann0⟩,
  ⟨(some 83), (Op.load 33 (Operand.tmp 82)), none, ann0⟩,
  ⟨(some 84), (Op.call { callee := (Callee.builtin Builtin.len), args := #[(Operand.tmp 83)], argTypes := #[33] }), none, ann0⟩,
  ⟨(some 85), (Op.move (Operand.const (Value.int IntKind.i64 0))), none, ann0⟩] none)
 (.post (.block 4 (.pre (.tidy [5, 13, 83, 84, 85] z (z + 5)) (.loop (s20_3 z)))) (.tidy [5, 13] z (z + 5)))) (.tidy [5, 13] z (z + 5)))
 (.seq (.post (.seq (.reg [⟨(some 98), (Op.fieldAddr 35 (Operand.tmp 5) 5), none, ann0⟩,
  ⟨(some 99), (Op.load 33 (Operand.tmp 98)), none, ann0⟩,
  ⟨(some 100), (Op.call { callee := (Callee.builtin Builtin.len), args := #[(Operand.tmp 99)], argTypes := #[33] }), none, ann0⟩,
  ⟨(some 101), (Op.move (Operand.const (Value.int IntKind.i64 0))), none, ann0⟩] none)
 (.post (.block 6 (.pre (.tidy [13, 99, 100, 101] z (z + 5)) (.loop (s20_4 z)))) (.tidy [] z (z + 5)))) (.tidy [] z (z + 5)))
 (.seq (.reg [⟨(some 6), (Op.assign (Operand.const (Value.int IntKind.i64 0))), none, ann0⟩] none)
 .ret)))))))))⟩
theorem F20 (z : Nat) : FOk Try.prog 20 (s20 z) := by unfold FOk; kernel_rfl
def c21_1 (z : Nat) : SC := .post (.seq (.post (.seq (.reg [⟨(some 11), (Op.move (Operand.tmp 5)), none, ann0⟩,
  ⟨(some 12), (Op.move (Operand.tmp 0)), none, ann0⟩,
  ⟨(some 13), (Op.call { callee := (Callee.builtin Builtin.len), args := #[(Operand.tmp 12)], argTypes := #[33] }), none, ann0⟩,
  ⟨(some 14), (Op.binOp BinOp.lss 3 (Operand.tmp 11) (Operand.tmp 13) 3), none, ann0⟩] none)
 (.cond (Operand.tmp 14) .skip
 (.exit 0))) (.tidy [0, 1, 5] z (z + 0)))
 (.seq (.post (.block 1 (.seq (.post (.reg [⟨(some 17), (Op.move (Operand.tmp 0)), none, ann0⟩,
  ⟨(some 18), (Op.move (Operand.tmp 5)), none, ann0⟩,
  ⟨(some 19), (Op.indexAddr 33 (Operand.tmp 17) (Operand.tmp 18)), none, ann0⟩,
  ⟨(some 20), (Op.load 3 (Operand.tmp 19)), none, ann0⟩,
  ⟨(some 21), (Op.move (Operand.tmp 1)), none, ann0⟩,
  ⟨(some 22), (Op.move (Operand.tmp 5)), none, ann0⟩,
  ⟨(some 23), (Op.indexAddr 33 (Operand.tmp 21) (Operand.tmp 22)), none, ann0⟩,
  ⟨(some 24), (Op.load 3 (Operand.tmp 23)), none, ann0⟩,
  ⟨(some 25), (Op.binOp BinOp.neq 3 (Operand.tmp 20) (Operand.tmp 24) 3), none, ann0⟩] (some [0, 0, 3, 7, 0, 0, 48, 112, 255])) (.tidy [0, 1, 5, 25] z (z + 0)))
 (.cond (Operand.tmp 25) (.seq (.reg [⟨(some 4), (Op.assign (Operand.const (Value.bool false))), none, ann0⟩] none)
 .ret)
 .skip))) (.tidy [0, 1, 5] z (z + 0)))
 (.reg [⟨(some 15), (Op.move (Operand.tmp 5)), none, ann0⟩,
  ⟨(some 16), (Op.binOp BinOp.add 3 (Operand.tmp 15) (Operand.const (Value.int IntKind.i64 1)) 3), none, ann0⟩,
  ⟨(some 5), (Op.assign (Operand.tmp 16)), none, ann0⟩] none))) (.tidy [0, 1, 5] z (z + 0))
def s21_1 (z : Nat) : SC := c21_1 z
theorem e21_1 {C : Pg} {z : Nat} {st : St} {ks : List Fr} {K : Ex → St → Prop} : wpk C (s21_1 z) st ks K ↔ wpk C (c21_1 z) st ks K := Iff.rfl
def s21 (z : Nat) : SFn := ⟨2, 26, [(ResultVar.tmp 4)],
 (.seq (.reg [⟨(some 4), (Op.assign (Operand.const (Value.bool false))), none, ann0⟩] none)
 (.seq (.post (.seq (.reg [⟨(some 6), (Op.move (Operand.tmp 0)), none, ann0⟩,
  ⟨(some 7), (Op.call { callee := (Callee.builtin Builtin.len), args := #[(Operand.tmp 6)], argTypes := #[33] }), none, ann0⟩,
  ⟨(some 8), (Op.move (Operand.tmp 1)), none, ann0⟩,
  ⟨(some 9), (Op.call { callee := (Callee.builtin Builtin.len), args := #[(Operand.tmp 8)], argTypes := #[33] }), none, ann0⟩,
  ⟨(some 10), (Op.binOp BinOp.neq 3 (Operand.tmp 7) (Operand.tmp 9) 3), none, ann0⟩] none)
 (.cond (Operand.tmp 10) (.seq (.reg [⟨(some 4), (Op.assign (Operand.const (Value.bool false))), none, ann0⟩] none)
 .ret)
 .skip)) (.tidy [0, 1] z (z + 0)))
 (.seq (.post (.seq (.reg [⟨(some 5), (Op.assign (Operand.const (Value.int IntKind.i64 0))), none, ann0⟩] none)
 (.post (.block 0 (.pre (.tidy [0, 1, 5] z (z + 0)) (.loop (s21_1 z)))) (.tidy [] z (z + 0)))) (.tidy [] z (z + 0)))
 (.seq (.reg [⟨(some 4), (Op.assign (Operand.const (Value.bool true))), none, ann0⟩] none)
 .ret))))⟩
theorem F21 (z : Nat) : FOk Try.prog 21 (s21 z) := by unfold FOk; kernel_rfl
def c22_1 (z : Nat) : SC := .post (.seq (.post (.seq (.reg [⟨(some 10), (Op.move (Operand.tmp 9)), none, ann0⟩,
  ⟨(some 11), (Op.move (Operand.tmp 1)), none, ann0⟩,
  ⟨(some 12), (Op.call { callee := (Callee.builtin Builtin.len), args := #[(Operand.tmp 11)], argTypes := #[33] }), none, ann0⟩,
  ⟨(some 13), (Op.binOp BinOp.lss 3 (Operand.tmp 10) (Operand.tmp 12) 3), none, ann0⟩] none)
 (.cond (Operand.tmp 13) .skip
 (.exit 0))) (.tidy [1, 2, 3, 7, 8, 9] z (z + 2)))
 (.seq (.post (.block 1 (.seq (.post (.seq (.post (.reg [⟨(some 16), (Op.move (Operand.tmp 1)), none, ann0⟩,
  ⟨(some 17), (Op.move (Operand.tmp 2)), none, ann0⟩,
  ⟨(some 18), (Op.move (Operand.tmp 9)), none, ann0⟩,
  ⟨(some 19), (Op.fieldAddr 23 (Operand.tmp 3) 4), none, ann0⟩,
  ⟨(some 20), (Op.load 3 (Operand.tmp 19)), none, ann0⟩,
  ⟨(some 21), (Op.fieldAddr 23 (Operand.tmp 3) 3), none, ann0⟩,
  ⟨(some 22), (Op.load 3 (Operand.tmp 21)), none, ann0⟩,
  ⟨(some 23), (Op.call { callee := (Callee.value (Operand.func 39)), args := #[(Operand.tmp 16), (Operand.tmp 17), (Operand.tmp 18), (Operand.tmp 20), (Operand.tmp 22)], argTypes := #[33, 33, 3, 3, 3] }), none, ann0⟩,
  ⟨(some 24), (Op.fieldAddr 23 (Operand.tmp 3) 6), none, ann0⟩,
  ⟨(some 25), (Op.load 3 (Operand.tmp 24)), none, ann0⟩,
  ⟨(some 26), (Op.binOp BinOp.lss 3 (Operand.tmp 23) (Operand.tmp 25) 3), none, ann0⟩,
  ⟨(some 27), (Op.move (Operand.tmp 26)), none, ann0⟩,
  ⟨(some 28), (Op.move (Operand.tmp 1)), (some (27, false)), ann0⟩,
  ⟨(some 29), (Op.move (Operand.tmp 2)), (some (27, false)), ann0⟩,
  ⟨(some 30), (Op.move (Operand.tmp 9)), (some (27, false)), ann0⟩,
  ⟨(some 31), (Op.fieldAddr 23 (Operand.tmp 3) 5), (some (27, false)), ann0⟩,
  ⟨(some 32), (Op.load 3 (Operand.tmp 31)), (some (27, false)), ann0⟩,
  ⟨(some 33), (Op.fieldAddr 23 (Operand.tmp 3) 3), (some (27, false)), ann0⟩,
  ⟨(some 34), (Op.load 3 (Operand.tmp 33)), (some (27, false)), ann0⟩,
  ⟨(some 35), (Op.call { callee := (Callee.value (Operand.func 39)), args := #[(Operand.tmp 28), (Operand.tmp 29), (Operand.tmp 30), (Operand.tmp 32), (Operand.tmp 34)], argTypes := #[33, 33, 3, 3, 3] }), (some (27, false)), ann0⟩,
  ⟨(some 36), (Op.fieldAddr 23 (Operand.tmp 3) 6), (some (27, false)), ann0⟩,
  ⟨(some 37), (Op.load 3 (Operand.tmp 36)), (some (27, false)), ann0⟩,
  ⟨(some 38), (Op.binOp BinOp.lss 3 (Operand.tmp 35) (Operand.tmp 37) 3), (some (27, false)), ann0⟩,
  ⟨(some 39), (Op.pick (Operand.tmp 27) (Operand.const (Value.bool true)) (Operand.tmp 38)), none, ann0⟩] (some [0, 0, 0, 0, 8, 0, 32, 127, 0, 256, 1023, 2047, 4095, 4095, 4095, 4095, 36863, 4095, 135167, 524287, 4095, 1052671, 4194303, 8388607])) (.tidy [1, 2, 3, 7, 8, 9, 39] z (z + 2)))
 (.cond (Operand.tmp 39) (.seq (.reg [⟨(some 8), (Op.assign (Operand.const (Value.int IntKind.i64 0))), none, ann0⟩] none)
 (.seq (.reg [⟨(some 40), (Op.move (Operand.tmp 7)), none, ann0⟩,
  ⟨(some 41), (Op.buildSlice 33 1 #[(0, (Operand.const (Value.int IntKind.i64 0)))]), none, ⟨1, true, false⟩⟩,
  ⟨(some 42), (Op.call { callee := (Callee.builtin Builtin.append), args := #[(Operand.tmp 40), (Operand.tmp 41)], argTypes := #[33, 33] }), none, ann0⟩,
  ⟨(some 7), (Op.assign (Operand.tmp 42)), none, ann0⟩] none)
 (.exit 1)))
 .skip)) (.tidy [1, 2, 3, 7, 8, 9] z (z + 3)))
 (.seq (.reg [⟨(some 43), (Op.move (Operand.tmp 8)), none, ann0⟩,
  ⟨(some 44), (Op.binOp BinOp.add 3 (Operand.tmp 43) (Operand.const (Value.int IntKind.i64 1)) 3), none, ann0⟩,
  ⟨(some 8), (Op.assign (Operand.tmp 44)), none, ann0⟩] none)
 (.seq (.reg [⟨(some 45), (Op.move (Operand.tmp 8)), none, ann0⟩,
  ⟨(some 46), (Op.fieldAddr 23 (Operand.tmp 3) 7), none, ann0⟩,
  ⟨(some 47), (Op.load 3 (Operand.tmp 46)), none, ann0⟩,
  ⟨(some 48), (Op.binOp BinOp.gtr 3 (Operand.tmp 45) (Operand.tmp 47) 3), none, ann0⟩] none)
 (.cond (Operand.tmp 48) (.reg [⟨(some 49), (Op.move (Operand.tmp 7)), none, ann0⟩,
  ⟨(some 50), (Op.buildSlice 33 1 #[(0, (Operand.const (Value.int IntKind.i64 2)))]), none, ⟨1, true, false⟩⟩,
  ⟨(some 51), (Op.call { callee := (Callee.builtin Builtin.append), args := #[(Operand.tmp 49), (Operand.tmp 50)], argTypes := #[33, 33] }), none, ann0⟩,
  ⟨(some 7), (Op.assign (Operand.tmp 51)), none, ann0⟩] none)
 (.reg [⟨(some 52), (Op.move (Operand.tmp 7)), none, ann0⟩,
  ⟨(some 53), (Op.buildSlice 33 1 #[(0, (Operand.const (Value.int IntKind.i64 1)))]), none, ⟨1, true, false⟩⟩,
  ⟨(some 54), (Op.call { callee := (Callee.builtin Builtin.append), args := #[(Operand.tmp 52), (Operand.tmp 53)], argTypes := #[33, 33] }), none, ann0⟩,
  ⟨(some 7), (Op.assign (Operand.tmp 54)), none, ann0⟩] none)))))) (.tidy [1, 2, 3, 7, 8, 9] z (z + 4)))
 (.reg [⟨(some 14), (Op.move (Operand.tmp 9)), none, ann0⟩,
  ⟨(some 15), (Op.binOp BinOp.add 3 (Operand.tmp 14) (Operand.const (Value.int IntKind.i64 1)) 3), none, ann0⟩,
  ⟨(some 9), (Op.assign (Operand.tmp 15)), none, ann0⟩] none))) (.tidy [1, 2, 3, 7, 8, 9] z (z + 2))
def s22_1 (z : Nat) : SC := c22_1 z
theorem e22_1 {C : Pg} {z : Nat} {st : St} {ks : List Fr} {K : Ex → St → Prop} : wpk C (s22_1 z) st ks K ↔ wpk C (c22_1 z) st ks K := Iff.rfl
def s22 (z : Nat) : SFn := ⟨3, 56, [(ResultVar.tmp 6)],
 (.post (.seq (.reg [⟨(some 3), (Op.box 23 (Operand.tmp 0)), none, ⟨1, false, false⟩⟩,
  ⟨(some 6), (Op.assign (Operand.const (Value.slice none 0 0))), none, ann0⟩] none)
 (.seq (.post (.reg [⟨(some 7), (Op.assign (Operand.const (Value.slice none 0 0))), none, ann0⟩] none) (.mkv 7 3 1))
 (.seq (.reg [⟨(some 8), (Op.assign (Operand.const (Value.int IntKind.i64 0))), none, ann0⟩] none)
 (.seq (.post (.seq (.reg [⟨(some 9), (Op.assign (Operand.const (Value.int IntKind.i64 0))), none, ann0⟩] none)
 (.post (.block 0 (.pre (.tidy [1, 2, 3, 7, 8, 9] z (z + 2)) (.loop (s22_1 z)))) (.tidy [7] z (z + 2)))) (.tidy [7] z (z + 2)))
 (.seq (.reg [⟨(some 55), (Op.move (Operand.tmp 7)), none, ann0⟩,
  ⟨(some 6), (Op.assign (Operand.tmp 55)), none, ann0⟩] none)
 .ret))))) (.frz 6))⟩
theorem F22 (z : Nat) : FOk Try.prog 22 (s22 z) := by unfold FOk; kernel_rfl
def s23 (z : Nat) : SFn := ⟨2, 22, [(ResultVar.tmp 4), (ResultVar.tmp 5)],
 (.seq (.reg [⟨(some 4), (Op.assign (Operand.const (Value.int IntKind.i64 0))), none, ann0⟩,
  ⟨(some 5), (Op.assign (Operand.const (Value.int IntKind.i64 0))), none, ann0⟩] none)
 (.seq (.post (.seq (.post (.reg [⟨(some 6), (Op.move (Operand.tmp 1)), none, ann0⟩,
  ⟨(some 7), (Op.call { callee := (Callee.value (Operand.func 35)), args := #[(Operand.tmp 6)], argTypes := #[3] }), none, ann0⟩,
  ⟨(some 8), (Op.unOp UnOp.not 4 (Operand.tmp 7)), none, ann0⟩,
  ⟨(some 9), (Op.move (Operand.tmp 8)), none, ann0⟩,
  ⟨(some 10), (Op.move (Operand.tmp 0)), (some (9, false)), ann0⟩,
  ⟨(some 11), (Op.binOp BinOp.lss 3 (Operand.tmp 10) (Operand.const (Value.int IntKind.i64 0)) 3), (some (9, false)), ann0⟩,
  ⟨(some 12), (Op.pick (Operand.tmp 9) (Operand.const (Value.bool true)) (Operand.tmp 11)), none, ann0⟩,
  ⟨(some 13), (Op.move (Operand.tmp 12)), none, ann0⟩,
  ⟨(some 14), (Op.move (Operand.tmp 0)), (some (13, false)), ann0⟩,
  ⟨(some 15), (Op.binOp BinOp.gtr 3 (Operand.tmp 14) (Operand.const (Value.int IntKind.i64 4294967296)) 3), (some (13, false)), ann0⟩,
  ⟨(some 16), (Op.pick (Operand.tmp 13) (Operand.const (Value.bool true)) (Operand.tmp 15)), none, ann0⟩] none) (.tidy [0, 1, 16] z (z + 0)))
 (.cond (Operand.tmp 16) (.seq (.reg [⟨(some 4), (Op.assign (Operand.const (Value.int IntKind.i64 0))), none, ann0⟩,
  ⟨(some 5), (Op.assign (Operand.const (Value.int IntKind.i64 2))), none, ann0⟩] none)
 .ret)
 .skip)) (.tidy [0, 1] z (z + 0)))
 (.seq (.reg [⟨(some 17), (Op.move (Operand.tmp 0)), none, ann0⟩,
  ⟨(some 18), (Op.move (Operand.tmp 1)), none, ann0⟩,
  ⟨(some 19), (Op.binOp BinOp.sub 3 (Operand.const (Value.int IntKind.i64 1000000)) (Operand.tmp 18) 3), none, ann0⟩,
  ⟨(some 20), (Op.binOp BinOp.mul 3 (Operand.tmp 17) (Operand.tmp 19) 3), none, ann0⟩,
  ⟨(some 21), (Op.binOp BinOp.quo 3 (Operand.tmp 20) (Operand.const (Value.int IntKind.i64 1000000)) 3), none, ann0⟩,
  ⟨(some 4), (Op.assign (Operand.tmp 21)), none, ann0⟩,
  ⟨(some 5), (Op.assign (Operand.const (Value.int IntKind.i64 0))), none, ann0⟩] none)
 .ret)))⟩
theorem F23 (z : Nat) : FOk Try.prog 23 (s23 z) := by unfold FOk; kernel_rfl
def s24 (z : Nat) : SFn := ⟨3, 32, [(ResultVar.tmp 6), (ResultVar.tmp 7)],
 (.seq (.reg [⟨(some 6), (Op.assign (Operand.const (Value.int IntKind.i64 0))), none, ann0⟩,
  ⟨(some 7), (Op.assign (Operand.const (Value.int IntKind.i64 0))), none, ann0⟩] none)
 (.seq (.post (.seq (.post (.reg [⟨(some 8), (Op.move (Operand.tmp 2)), none, ann0⟩,
  ⟨(some 9), (Op.call { callee := (Callee.value (Operand.func 35)), args := #[(Operand.tmp 8)], argTypes := #[3] }), none, ann0⟩,
  ⟨(some 10), (Op.unOp UnOp.not 4 (Operand.tmp 9)), none, ann0⟩,
  ⟨(some 11), (Op.move (Operand.tmp 10)), none, ann0⟩,
  ⟨(some 12), (Op.move (Operand.tmp 1)), (some (11, false)), ann0⟩,
  ⟨(some 13), (Op.binOp BinOp.lss 3 (Operand.tmp 12) (Operand.const (Value.int IntKind.i64 0)) 3), (some (11, false)), ann0⟩,
  ⟨(some 14), (Op.pick (Operand.tmp 11) (Operand.const (Value.bool true)) (Operand.tmp 13)), none, ann0⟩,
  ⟨(some 15), (Op.move (Operand.tmp 14)), none, ann0⟩,
  ⟨(some 16), (Op.move (Operand.tmp 1)), (some (15, false)), ann0⟩,
  ⟨(some 17), (Op.binOp BinOp.gtr 3 (Operand.tmp 16) (Operand.const (Value.int IntKind.i64 4294967296)) 3), (some (15, false)), ann0⟩,
  ⟨(some 18), (Op.pick (Operand.tmp 15) (Operand.const (Value.bool true)) (Operand.tmp 17)), none, ann0⟩,
  ⟨(some 19), (Op.move (Operand.tmp 18)), none, ann0⟩,
  ⟨(some 20), (Op.move (Operand.tmp 0)), (some (19, false)), ann0⟩,
  ⟨(some 21), (Op.binOp BinOp.lss 3 (Operand.tmp 20) (Operand.const (Value.int IntKind.i64 0)) 3), (some (19, false)), ann0⟩,
  ⟨(some 22), (Op.pick (Operand.tmp 19) (Operand.const (Value.bool true)) (Operand.tmp 21)), none, ann0⟩,
  ⟨(some 23), (Op.move (Operand.tmp 22)), none, ann0⟩,
  ⟨(some 24), (Op.move (Operand.tmp 0)), (some (23, false)), ann0⟩,
  ⟨(some 25), (Op.move (Operand.tmp 1)), (some (23, false)), ann0⟩,
  ⟨(some 26), (Op.binOp BinOp.gtr 3 (Operand.tmp 24) (Operand.tmp 25) 3), (some (23, false)), ann0⟩,
  ⟨(some 27), (Op.pick (Operand.tmp 23) (Operand.const (Value.bool true)) (Operand.tmp 26)), none, ann0⟩] none) (.tidy [0, 1, 2, 27] z (z + 0)))
 (.cond (Operand.tmp 27) (.seq (.reg [⟨(some 6), (Op.assign (Operand.const (Value.int IntKind.i64 0))), none, ann0⟩,
  ⟨(some 7), (Op.assign (Operand.const (Value.int IntKind.i64 2))), none, ann0⟩] none)
 .ret)
 .skip)) (.tidy [0, 1, 2] z (z + 0)))
 (.seq (.reg [⟨(some 28), (Op.move (Operand.tmp 0)), none, ann0⟩,
  ⟨(some 29), (Op.move (Operand.tmp 1)), none, ann0⟩,
  ⟨(some 30), (Op.move (Operand.tmp 2)), none, ann0⟩,
  ⟨(some 31), (Op.call { callee := (Callee.value (Operand.func 40)), args := #[(Operand.tmp 28), (Operand.tmp 29), (Operand.tmp 30)], argTypes := #[3, 3, 3] }), none, ann0⟩,
  ⟨(some 6), (Op.assign (Operand.tmp 31)), none, ann0⟩,
  ⟨(some 7), (Op.assign (Operand.const (Value.int IntKind.i64 0))), none, ann0⟩] none)
 .ret)))⟩
theorem F24 (z : Nat) : FOk Try.prog 24 (s24 z) := by unfold FOk; kernel_rfl
def s25 (z : Nat) : SFn := ⟨3, 16, [(ResultVar.tmp 6)],
 (.seq (.reg [⟨(some 6), (Op.assign (Operand.const (Value.int IntKind.i64 0))), none, ann0⟩] none)
 (.seq (.seq (.reg [⟨(some 7), (Op.move (Operand.tmp 1)), none, ann0⟩,
  ⟨(some 8), (Op.binOp BinOp.eql 3 (Operand.tmp 7) (Operand.const (Value.int IntKind.i64 0)) 3), none, ann0⟩] none)
 (.cond (Operand.tmp 8) (.seq (.reg [⟨(some 6), (Op.assign (Operand.const (Value.int IntKind.i64 0))), none, ann0⟩] none)
 .ret)
 .skip))
 (.seq (.reg [⟨(some 9), (Op.move (Operand.tmp 0)), none, ann0⟩,
  ⟨(some 10), (Op.binOp BinOp.mul 3 (Operand.tmp 9) (Operand.const (Value.int IntKind.i64 1000000000)) 3), none, ann0⟩,
  ⟨(some 11), (Op.move (Operand.tmp 1)), none, ann0⟩,
  ⟨(some 12), (Op.move (Operand.tmp 2)), none, ann0⟩,
  ⟨(some 13), (Op.binOp BinOp.sub 3 (Operand.const (Value.int IntKind.i64 1000000)) (Operand.tmp 12) 3), none, ann0⟩,
  ⟨(some 14), (Op.binOp BinOp.mul 3 (Operand.tmp 11) (Operand.tmp 13) 3), none, ann0⟩,
  ⟨(some 15), (Op.binOp BinOp.quo 3 (Operand.tmp 10) (Operand.tmp 14) 3), none, ann0⟩,
  ⟨(some 6), (Op.assign (Operand.tmp 15)), none, ann0⟩] none)
 .ret)))⟩
theorem F25 (z : Nat) : FOk Try.prog 25 (s25 z) := by unfold FOk; kernel_rfl
def c26_1 (z : Nat) : SC := .post (.seq (.post (.seq (.post (.reg [⟨(some 13), (Op.move (Operand.tmp 4)), none, ann0⟩,
  ⟨(some 14), (Op.fieldAddr 52 (Operand.tmp 1) 1), none, ann0⟩,
  ⟨(some 15), (Op.load 50 (Operand.tmp 14)), none, ann0⟩,
  ⟨(some 16), (Op.call { callee := (Callee.builtin Builtin.len), args := #[(Operand.tmp 15)], argTypes := #[50] }), none, ann0⟩,
  ⟨(some 17), (Op.binOp BinOp.lss 3 (Operand.tmp 13) (Operand.tmp 16) 3), none, ann0⟩,
  ⟨(some 18), (Op.move (Operand.tmp 17)), none, ann0⟩,
  ⟨(some 19), (Op.move (Operand.tmp 4)), (some (18, true)), ann0⟩,
  ⟨(some 20), (Op.binOp BinOp.lss 3 (Operand.tmp 19) (Operand.const (Value.int IntKind.i64 16)) 3), (some (18, true)), ann0⟩,
  ⟨(some 21), (Op.pick (Operand.tmp 18) (Operand.tmp 20) (Operand.const (Value.bool false))), none, ann0⟩] none) (.tidy [1, 2, 3, 4, 21] z (z + 5)))
 (.cond (Operand.tmp 21) .skip
 (.exit 0))) (.tidy [1, 2, 3, 4] z (z + 5)))
 (.seq (.post (.block 1 (.seq (.post (.reg [⟨(some 24), (Op.fieldAddr 35 (Operand.tmp 3) 5), none, ann0⟩,
  ⟨(some 25), (Op.load 33 (Operand.tmp 24)), none, ann0⟩,
  ⟨(some 26), (Op.fieldAddr 52 (Operand.tmp 1) 1), none, ann0⟩,
  ⟨(some 27), (Op.load 50 (Operand.tmp 26)), none, ann0⟩,
  ⟨(some 28), (Op.move (Operand.tmp 4)), none, ann0⟩,
  ⟨(some 29), (Op.indexAddr 50 (Operand.tmp 27) (Operand.tmp 28)), none, ann0⟩,
  ⟨(some 30), (Op.indexAddr 59 (Operand.tmp 29) (Operand.const (Value.int IntKind.i64 0))), none, ann0⟩,
  ⟨(some 31), (Op.load 5 (Operand.tmp 30)), none, ann0⟩,
  ⟨(some 32), (Op.convert 5 3 (Operand.tmp 31)), none, ann0⟩,
  ⟨(some 33), (Op.buildSlice 33 1 #[(0, (Operand.tmp 32))]), none, ⟨1, true, false⟩⟩,
  ⟨(some 34), (Op.call { callee := (Callee.builtin Builtin.append), args := #[(Operand.tmp 25), (Operand.tmp 33)], argTypes := #[33, 33] }), none, ann0⟩,
  ⟨(some 35), (Op.fieldAddr 35 (Operand.tmp 3) 5), none, ann0⟩,
  ⟨none, (Op.store 33 (Operand.tmp 35) (Operand.tmp 34)), none, ann0⟩] (some [0, 1, 0, 4, 0, 28, 60, 124, 252, 508, 1023, 2047, 4095])) (.tidy [1, 2, 3, 4] z (z + 6)))
 (.reg [⟨(some 36), (Op.fieldAddr 35 (Operand.tmp 2) 5), none, ann0⟩,
  ⟨(some 37), (Op.load 33 (Operand.tmp 36)), none, ann0⟩,
  ⟨(some 38), (Op.fieldAddr 52 (Operand.tmp 1) 1), none, ann0⟩,
  ⟨(some 39), (Op.load 50 (Operand.tmp 38)), none, ann0⟩,
  ⟨(some 40), (Op.move (Operand.tmp 4)), none, ann0⟩,
  ⟨(some 41), (Op.indexAddr 50 (Operand.tmp 39) (Operand.tmp 40)), none, ann0⟩,
  ⟨(some 42), (Op.indexAddr 59 (Operand.tmp 41) (Operand.const (Value.int IntKind.i64 0))), none, ann0⟩,
  ⟨(some 43), (Op.load 5 (Operand.tmp 42)), none, ann0⟩,
  ⟨(some 44), (Op.fieldAddr 52 (Operand.tmp 1) 1), none, ann0⟩,
  ⟨(some 45), (Op.load 50 (Operand.tmp 44)), none, ann0⟩,
  ⟨(some 46), (Op.move (Operand.tmp 4)), none, ann0⟩,
  ⟨(some 47), (Op.indexAddr 50 (Operand.tmp 45) (Operand.tmp 46)), none, ann0⟩,
  ⟨(some 48), (Op.indexAddr 59 (Operand.tmp 47) (Operand.const (Value.int IntKind.i64 1))), none, ann0⟩,
  ⟨(some 49), (Op.load 5 (Operand.tmp 48)), none, ann0⟩,
  ⟨(some 50), (Op.call { callee := (Callee.builtin Builtin.min), args := #[(Operand.tmp 43), (Operand.tmp 49)], argTypes := #[5, 5] }), none, ann0⟩,
  ⟨(some 51), (Op.convert 5 3 (Operand.tmp 50)), none, ann0⟩,
  ⟨(some 52), (Op.buildSlice 33 1 #[(0, (Operand.tmp 51))]), none, ⟨1, true, false⟩⟩,
  ⟨(some 53), (Op.call { callee := (Callee.builtin Builtin.append), args := #[(Operand.tmp 37), (Operand.tmp 52)], argTypes := #[33, 33] }), none, ann0⟩,
  ⟨(some 54), (Op.fieldAddr 35 (Operand.tmp 2) 5), none, ann0⟩,
  ⟨none, (Op.store 33 (Operand.tmp 54) (Operand.tmp 53)), none, ann0⟩] (some [0, 1, 0, 4, 0, 28, 60, 124, 0, 256, 0, 1792, 3840, 7936, 16380, 32764, 65532, 131071, 262143, 524287])))) (.tidy [1, 2, 3, 4] z (z + 7)))
 (.reg [⟨(some 22), (Op.move (Operand.tmp 4)), none, ann0⟩,
  ⟨(some 23), (Op.binOp BinOp.add 3 (Operand.tmp 22) (Operand.const (Value.int IntKind.i64 1)) 3), none, ann0⟩,
  ⟨(some 4), (Op.assign (Operand.tmp 23)), none, ann0⟩] none))) (.tidy [1, 2, 3, 4] z (z + 5))
def s26_1 (z : Nat) : SC := c26_1 z
theorem e26_1 {C : Pg} {z : Nat} {st : St} {ks : List Fr} {K : Ex → St → Prop} : wpk C (s26_1 z) st ks K ↔ wpk C (c26_1 z) st ks K := Iff.rfl
def s26 (z : Nat) : SFn := ⟨1, 57, [(ResultVar.cell 2 35), (ResultVar.cell 3 35)],
 (.seq (.reg [⟨(some 1), (Op.box 52 (Operand.tmp 0)), none, ⟨1, false, false⟩⟩,
  ⟨(some 2), (Op.alloc 35), none, ⟨1, false, false⟩⟩,
  ⟨(some 3), (Op.alloc 35), none, ⟨1, false, false⟩⟩] none)
 (.seq (.reg [⟨(some 5), (Op.fieldAddr 52 (Operand.tmp 1) 0), none, ann0⟩,
  ⟨(some 6), (Op.load 5 (Operand.tmp 5)), none, ann0⟩,
  ⟨(some 7), (Op.convert 5 3 (Operand.tmp 6)), none, ann0⟩,
  ⟨(some 8), (Op.build 35 #[(0, (Operand.const (Value.string ⟨#[97, 112, 105]⟩))), (2, (Operand.const (Value.int IntKind.i64 2))), (4, (Operand.tmp 7))]), none, ann0⟩,
  ⟨none, (Op.store 35 (Operand.tmp 2) (Operand.tmp 8)), none, ann0⟩] none)
 (.seq (.post (.reg [⟨(some 9), (Op.fieldAddr 52 (Operand.tmp 1) 0), none, ann0⟩,
  ⟨(some 10), (Op.load 5 (Operand.tmp 9)), none, ann0⟩,
  ⟨(some 11), (Op.convert 5 3 (Operand.tmp 10)), none, ann0⟩,
  ⟨(some 12), (Op.build 35 #[(0, (Operand.const (Value.string ⟨#[97, 112, 105]⟩))), (2, (Operand.const (Value.int IntKind.i64 1))), (4, (Operand.tmp 11))]), none, ann0⟩,
  ⟨none, (Op.store 35 (Operand.tmp 3) (Operand.tmp 12)), none, ann0⟩] none) (.tidy [1, 2, 3] z (z + 3)))
 (.seq (.post (.seq (.reg [⟨(some 4), (Op.assign (Operand.const (Value.int IntKind.i64 0))), none, ann0⟩] none)
 (.post (.post (.post (.pre (.mkb 2 6 3 1) (.pre (.mkb 3 6 3 1) (.block 0 (.pre (.tidy [1, 2, 3, 4] z (z + 5)) (.loop (s26_1 z)))))) (.tidy [2, 3] z (z + 5))) (.frb 2 6)) (.frb 3 6))) (.tidy [2, 3] z (z + 5)))
 (.seq (.reg [⟨(some 55), (Op.load 35 (Operand.tmp 2)), none, ann0⟩,
  ⟨(some 56), (Op.load 35 (Operand.tmp 3)), none, ann0⟩,
  ⟨none, (Op.store 35 (Operand.tmp 2) (Operand.tmp 55)), none, ann0⟩,
  ⟨none, (Op.store 35 (Operand.tmp 3) (Operand.tmp 56)), none, ann0⟩] (some [0, 0, 1, 7]))
 .ret)))))⟩
theorem F26 (z : Nat) : FOk Try.prog 26 (s26 z) := by unfold FOk; kernel_rfl
def c28_1 (z : Nat) : SC := .post (.seq (.reg [⟨(some 21), (Op.binOp BinOp.lss 3 (Operand.tmp 20) (Operand.tmp 19) 3), none, ann0⟩] none)
 (.seq (.cond (Operand.tmp 21) .skip
 (.exit 0))
 (.seq (.post (.block 1 (.seq (.post (.reg [⟨(some 22), (Op.indexAddr 64 (Operand.tmp 18) (Operand.tmp 20)), none, ann0⟩,
  ⟨(some 23), (Op.load 23 (Operand.tmp 22)), none, ann0⟩,
  ⟨(some 9), (Op.alloc 23), none, ⟨1, false, false⟩⟩,
  ⟨none, (Op.store 23 (Operand.tmp 9) (Operand.tmp 23)), none, ann0⟩] none) (.tidy [0, 1, 6, 7, 9, 18, 19, 20] z (z + 4)))
 (.seq (.post (.seq (.reg [⟨(some 24), (Op.load 23 (Operand.tmp 9)), none, ann0⟩,
  ⟨(some 25), (Op.call { callee := (Callee.value (Operand.func 14)), args := #[(Operand.tmp 24)], argTypes := #[23] }), none, ann0⟩,
  ⟨(some 10), (Op.assign (Operand.tmp 25)), none, ann0⟩] none)
 (.seq (.reg [⟨(some 26), (Op.move (Operand.tmp 10)), none, ann0⟩,
  ⟨(some 27), (Op.binOp BinOp.neq 27 (Operand.tmp 26) (Operand.const (Value.int IntKind.i64 0)) 27), none, ann0⟩] none)
 (.cond (Operand.tmp 27) (.seq (.reg [⟨(some 28), (Op.move (Operand.tmp 10)), none, ann0⟩,
  ⟨(some 4), (Op.assign (Operand.const (Value.pointer none))), none, ann0⟩,
  ⟨(some 5), (Op.assign (Operand.tmp 28)), none, ann0⟩] none)
 .ret)
 .skip))) (.tidy [0, 1, 6, 7, 9, 18, 19, 20] z (z + 4)))
 (.seq (.reg [⟨(some 29), (Op.move (Operand.tmp 7)), none, ann0⟩,
  ⟨(some 30), (Op.fieldAddr 23 (Operand.tmp 9) 0), none, ann0⟩,
  ⟨(some 31), (Op.load 9 (Operand.tmp 30)), none, ann0⟩,
  ⟨none, (Op.mapUpdate 100 (Operand.tmp 29) (Operand.tmp 31) (Operand.const (Value.bool true))), none, ann0⟩] none)
 (.reg [⟨(some 32), (Op.move (Operand.tmp 6)), none, ann0⟩,
  ⟨(some 33), (Op.move (Operand.tmp 6)), none, ann0⟩,
  ⟨(some 34), (Op.nilCheck (Operand.tmp 33)), none, ann0⟩,
  ⟨(some 35), (Op.fieldAddr 99 (Operand.tmp 34) 0), none, ann0⟩,
  ⟨(some 36), (Op.load 97 (Operand.tmp 35)), none, ann0⟩,
  ⟨(some 37), (Op.load 23 (Operand.tmp 9)), none, ann0⟩,
  ⟨(some 38), (Op.build 91 #[(0, (Operand.tmp 37))]), none, ann0⟩,
  ⟨(some 39), (Op.buildSlice 97 1 #[(0, (Operand.tmp 38))]), none, ⟨1, true, false⟩⟩,
  ⟨(some 40), (Op.call { callee := (Callee.builtin Builtin.append), args := #[(Operand.tmp 36), (Operand.tmp 39)], argTypes := #[97, 97] }), none, ann0⟩,
  ⟨(some 41), (Op.nilCheck (Operand.tmp 32)), none, ann0⟩,
  ⟨(some 42), (Op.fieldAddr 99 (Operand.tmp 41) 0), none, ann0⟩,
  ⟨none, (Op.store 97 (Operand.tmp 42) (Operand.tmp 40)), none, ann0⟩] (some [0, 0, 2, 6, 14, 0, 32, 96, 254, 511, 1023, 2047])))))) (.tidy [0, 1, 6, 7, 18, 19, 20] z (z + 5)))
 (.reg [⟨(some 43), (Op.binOp BinOp.add 3 (Operand.tmp 20) (Operand.const (Value.int IntKind.i64 1)) 3), none, ann0⟩,
  ⟨(some 20), (Op.move (Operand.tmp 43)), none, ann0⟩] none)))) (.tidy [0, 1, 6, 7, 18, 19, 20] z (z + 3))
def s28_1 (z : Nat) : SC := c28_1 z
theorem e28_1 {C : Pg} {z : Nat} {st : St} {ks : List Fr} {K : Ex → St → Prop} : wpk C (s28_1 z) st ks K ↔ wpk C (c28_1 z) st ks K := Iff.rfl
def s28 (z : Nat) : SFn := ⟨2, 58, [(ResultVar.tmp 4), (ResultVar.tmp 5)],
 (.seq (.reg [⟨(some 4), (Op.assign (Operand.const (Value.pointer none))), none, ann0⟩,
  ⟨(some 5), (Op.assign (Operand.const (Value.int IntKind.i64 0))), none, ann0⟩] none)
 (.seq (.post (.seq (.reg [⟨(some 11), (Op.move (Operand.tmp 0)), none, ann0⟩,
  ⟨(some 12), (Op.call { callee := (Callee.builtin Builtin.len), args := #[(Operand.tmp 11)], argTypes := #[64] }), none, ann0⟩,
  ⟨(some 13), (Op.binOp BinOp.gtr 3 (Operand.tmp 12) (Operand.const (Value.int IntKind.i64 256)) 3), none, ann0⟩] none)
 (.cond (Operand.tmp 13) (.seq (.reg [⟨(some 4), (Op.assign (Operand.const (Value.pointer none))), none, ann0⟩,
  ⟨(some 5), (Op.assign (Operand.const (Value.int IntKind.i64 6))), none, ann0⟩] none)
 .ret)
 .skip)) (.tidy [0, 1] z (z + 0)))
 (.seq (.reg [⟨(some 14), (Op.move (Operand.tmp 1)), none, ann0⟩,
  ⟨(some 15), (Op.build 99 #[(1, (Operand.tmp 14))]), none, ann0⟩,
  ⟨(some 16), (Op.box 99 (Operand.tmp 15)), none, ⟨1, false, false⟩⟩,
  ⟨(some 6), (Op.assign (Operand.tmp 16)), none, ann0⟩] none)
 (.seq (.reg [⟨(some 17), (Op.makeMap 100 none), none, ⟨1, false, false⟩⟩,
  ⟨(some 7), (Op.assign (Operand.tmp 17)), none, ann0⟩] none)
 (.seq (.post (.seq (.reg [⟨(some 18), (Op.move (Operand.tmp 0)), none, ann0⟩,
  ⟨(some 19), (Op.call { callee := (Callee.builtin Builtin.len), args := #[(Operand.tmp 18)], argTypes := #[64] }), none, ann0⟩,
  ⟨(some 20), (Op.move (Operand.const (Value.int IntKind.i64 0))), none, ann0⟩] none)
 (.post (.pre (.mkb 6 0 91 1035) (.block 0 (.pre (.tidy [0, 1, 6, 7, 18, 19, 20] z (z + 3)) (.loop (s28_1 z))))) (.tidy [0, 1, 6, 7] z (z + 3)))) (.tidy [0, 1, 6, 7] z (z + 3)))
 (.seq (.post (.block 2 (.seq (.reg [⟨(some 45), (Op.move (Operand.tmp 7)), none, ann0⟩,
  ⟨(some 46), (Op.call { callee := (Callee.builtin Builtin.len), args := #[(Operand.tmp 45)], argTypes := #[100] }), none, ann0⟩,
  ⟨(some 47), (Op.move (Operand.tmp 0)), none, ann0⟩,
  ⟨(some 48), (Op.call { callee := (Callee.builtin Builtin.len), args := #[(Operand.tmp 47)], argTypes := #[64] }), none, ann0⟩,
  ⟨(some 49), (Op.binOp BinOp.lss 3 (Operand.tmp 46) (Operand.tmp 48) 3), none, ann0⟩,
  ⟨(some 44), (Op.assign (Operand.tmp 49)), none, ann0⟩] none)
 (.cond (Operand.tmp 44) (.seq (.reg [⟨(some 4), (Op.assign (Operand.const (Value.pointer none))), none, ann0⟩,
  ⟨(some 5), (Op.assign (Operand.const (Value.int IntKind.i64 9))), none, ann0⟩] none)
 .ret)
 (.seq (.post (.reg [⟨(some 51), (Op.move (Operand.tmp 1)), none, ann0⟩,
  ⟨(some 52), (Op.binOp BinOp.lss 3 (Operand.tmp 51) (Operand.const (Value.int IntKind.i64 0)) 3), none, ann0⟩,
  ⟨(some 53), (Op.move (Operand.tmp 52)), none, ann0⟩,
  ⟨(some 54), (Op.move (Operand.tmp 1)), (some (53, false)), ann0⟩,
  ⟨(some 55), (Op.binOp BinOp.gtr 3 (Operand.tmp 54) (Operand.const (Value.int IntKind.i64 1048576)) 3), (some (53, false)), ann0⟩,
  ⟨(some 56), (Op.pick (Operand.tmp 53) (Operand.const (Value.bool true)) (Operand.tmp 55)), none, ann0⟩,
  ⟨(some 50), (Op.assign (Operand.tmp 56)), none, ann0⟩] none) (.tidy [6, 50] z (z + 3)))
 (.cond (Operand.tmp 50) (.seq (.reg [⟨(some 4), (Op.assign (Operand.const (Value.pointer none))), none, ann0⟩,
  ⟨(some 5), (Op.assign (Operand.const (Value.int IntKind.i64 32))), none, ann0⟩] none)
 .ret)
 .skip))))) (.tidy [6] z (z + 3)))
 (.seq (.reg [⟨(some 57), (Op.move (Operand.tmp 6)), none, ann0⟩,
  ⟨(some 4), (Op.assign (Operand.tmp 57)), none, ann0⟩,
  ⟨(some 5), (Op.assign (Operand.const (Value.int IntKind.i64 0))), none, ann0⟩] none)
 .ret)))))))⟩
theorem F28 (z : Nat) : FOk Try.prog 28 (s28 z) := by unfold FOk; kernel_rfl
def c29_1 (z : Nat) : SC := .post (.seq (.reg [⟨(some 20), (Op.binOp BinOp.lss 3 (Operand.tmp 19) (Operand.tmp 18) 3), none, ann0⟩] none)
 (.seq (.cond (Operand.tmp 20) .skip
 (.exit 0))
 (.seq (.post (.block 1 (.seq (.reg [⟨(some 21), (Op.indexAddr 65 (Operand.tmp 17) (Operand.tmp 19)), none, ann0⟩,
  ⟨(some 22), (Op.load 70 (Operand.tmp 21)), none, ann0⟩,
  ⟨(some 7), (Op.alloc 70), none, ⟨1, false, false⟩⟩,
  ⟨none, (Op.store 70 (Operand.tmp 7) (Operand.tmp 22)), none, ann0⟩] none)
 (.seq (.post (.reg [⟨(some 23), (Op.fieldAddr 70 (Operand.tmp 7) 3), none, ann0⟩,
  ⟨(some 24), (Op.load 3 (Operand.tmp 23)), none, ann0⟩,
  ⟨(some 25), (Op.binOp BinOp.lss 3 (Operand.tmp 24) (Operand.const (Value.int IntKind.i64 0)) 3), none, ann0⟩,
  ⟨(some 26), (Op.move (Operand.tmp 25)), none, ann0⟩,
  ⟨(some 27), (Op.fieldAddr 70 (Operand.tmp 7) 3), (some (26, false)), ann0⟩,
  ⟨(some 28), (Op.load 3 (Operand.tmp 27)), (some (26, false)), ann0⟩,
  ⟨(some 29), (Op.binOp BinOp.gtr 3 (Operand.tmp 28) (Operand.const (Value.int IntKind.i64 1048576)) 3), (some (26, false)), ann0⟩,
  ⟨(some 30), (Op.pick (Operand.tmp 26) (Operand.const (Value.bool true)) (Operand.tmp 29)), none, ann0⟩,
  ⟨(some 31), (Op.move (Operand.tmp 30)), none, ann0⟩,
  ⟨(some 32), (Op.fieldAddr 70 (Operand.tmp 7) 2), (some (31, false)), ann0⟩,
  ⟨(some 33), (Op.load 3 (Operand.tmp 32)), (some (31, false)), ann0⟩,
  ⟨(some 34), (Op.binOp BinOp.lss 3 (Operand.tmp 33) (Operand.const (Value.int IntKind.i64 0)) 3), (some (31, false)), ann0⟩,
  ⟨(some 35), (Op.pick (Operand.tmp 31) (Operand.const (Value.bool true)) (Operand.tmp 34)), none, ann0⟩,
  ⟨(some 36), (Op.move (Operand.tmp 35)), none, ann0⟩,
  ⟨(some 37), (Op.fieldAddr 70 (Operand.tmp 7) 2), (some (36, false)), ann0⟩,
  ⟨(some 38), (Op.load 3 (Operand.tmp 37)), (some (36, false)), ann0⟩,
  ⟨(some 39), (Op.fieldAddr 70 (Operand.tmp 7) 3), (some (36, false)), ann0⟩,
  ⟨(some 40), (Op.load 3 (Operand.tmp 39)), (some (36, false)), ann0⟩,
  ⟨(some 41), (Op.binOp BinOp.gtr 3 (Operand.tmp 38) (Operand.tmp 40) 3), (some (36, false)), ann0⟩,
  ⟨(some 42), (Op.pick (Operand.tmp 36) (Operand.const (Value.bool true)) (Operand.tmp 41)), none, ann0⟩] none) (.tidy [0, 1, 17, 18, 19, 42] z (z + 1)))
 (.cond (Operand.tmp 42) (.seq (.reg [⟨(some 4), (Op.assign (Operand.const (Value.slice none 0 0))), none, ann0⟩,
  ⟨(some 5), (Op.assign (Operand.const (Value.int IntKind.i64 2))), none, ann0⟩] none)
 .ret)
 .skip)))) (.tidy [0, 1, 17, 18, 19] z (z + 1)))
 (.reg [⟨(some 43), (Op.binOp BinOp.add 3 (Operand.tmp 19) (Operand.const (Value.int IntKind.i64 1)) 3), none, ann0⟩,
  ⟨(some 19), (Op.move (Operand.tmp 43)), none, ann0⟩] none)))) (.tidy [0, 1, 17, 18, 19] z (z + 0))
def s29_1 (z : Nat) : SC := c29_1 z
theorem e29_1 {C : Pg} {z : Nat} {st : St} {ks : List Fr} {K : Ex → St → Prop} : wpk C (s29_1 z) st ks K ↔ wpk C (c29_1 z) st ks K := Iff.rfl
def c29_2 (z : Nat) : SC := .post (.seq (.reg [⟨(some 55), (Op.binOp BinOp.lss 3 (Operand.tmp 54) (Operand.tmp 53) 3), none, ann0⟩] none)
 (.seq (.cond (Operand.tmp 55) .skip
 (.exit 2))
 (.seq (.post (.block 3 (.seq (.reg [⟨(some 56), (Op.move (Operand.tmp 54)), none, ann0⟩,
  ⟨(some 9), (Op.assign (Operand.tmp 56)), none, ann0⟩] none)
 (.seq (.post (.reg [⟨(some 57), (Op.move (Operand.tmp 0)), none, ann0⟩,
  ⟨(some 58), (Op.nilCheck (Operand.tmp 57)), none, ann0⟩,
  ⟨(some 59), (Op.fieldAddr 99 (Operand.tmp 58) 0), none, ann0⟩,
  ⟨(some 60), (Op.load 97 (Operand.tmp 59)), none, ann0⟩,
  ⟨(some 61), (Op.move (Operand.tmp 9)), none, ann0⟩,
  ⟨(some 62), (Op.indexAddr 97 (Operand.tmp 60) (Operand.tmp 61)), none, ann0⟩,
  ⟨(some 10), (Op.alloc 88), none, ⟨1, false, false⟩⟩,
  ⟨none, (Op.store 88 (Operand.tmp 10) (Operand.tmp 62)), none, ann0⟩] none) (.tidy [0, 1, 8, 10, 53, 54] z (z + 2)))
 (.seq (.reg [⟨(some 11), (Op.alloc 70), none, ⟨1, false, false⟩⟩] none)
 (.seq (.post (.seq (.reg [⟨(some 63), (Op.move (Operand.tmp 1)), none, ann0⟩,
  ⟨(some 64), (Op.makeFunc (Fn.func 42) #[] #[(Operand.tmp 10)]), none, ann0⟩,
  ⟨(some 65), (Op.call { callee := (Callee.value (Operand.func 41)), args := #[(Operand.tmp 63), (Operand.tmp 64)], argTypes := #[65, 102] }), none, ann0⟩,
  ⟨(some 12), (Op.assign (Operand.tmp 65)), none, ann0⟩] none)
 (.seq (.reg [⟨(some 66), (Op.move (Operand.tmp 12)), none, ann0⟩,
  ⟨(some 67), (Op.binOp BinOp.geq 3 (Operand.tmp 66) (Operand.const (Value.int IntKind.i64 0)) 3), none, ann0⟩] none)
 (.cond (Operand.tmp 67) (.reg [⟨(some 68), (Op.move (Operand.tmp 1)), none, ann0⟩,
  ⟨(some 69), (Op.move (Operand.tmp 12)), none, ann0⟩,
  ⟨(some 70), (Op.indexAddr 65 (Operand.tmp 68) (Operand.tmp 69)), none, ann0⟩,
  ⟨(some 71), (Op.load 70 (Operand.tmp 70)), none, ann0⟩,
  ⟨none, (Op.store 70 (Operand.tmp 11) (Operand.tmp 71)), none, ann0⟩] none)
 .skip))) (.tidy [0, 1, 8, 10, 11, 53, 54] z (z + 3)))
 (.seq (.reg [⟨(some 72), (Op.load 88 (Operand.tmp 10)), none, ann0⟩,
  ⟨(some 73), (Op.nilCheck (Operand.tmp 72)), none, ann0⟩,
  ⟨(some 74), (Op.fieldAddr 91 (Operand.tmp 73) 4), none, ann0⟩,
  ⟨(some 75), (Op.load 3 (Operand.tmp 74)), none, ann0⟩,
  ⟨(some 13), (Op.assign (Operand.tmp 75)), none, ann0⟩] none)
 (.seq (.post (.reg [⟨(some 76), (Op.load 88 (Operand.tmp 10)), none, ann0⟩,
  ⟨(some 77), (Op.fieldAddr 70 (Operand.tmp 11) 2), none, ann0⟩,
  ⟨(some 78), (Op.load 3 (Operand.tmp 77)), none, ann0⟩,
  ⟨(some 79), (Op.fieldAddr 70 (Operand.tmp 11) 3), none, ann0⟩,
  ⟨(some 80), (Op.load 3 (Operand.tmp 79)), none, ann0⟩,
  ⟨(some 81), (Op.call { callee := (Callee.value (Operand.func 38)), args := #[(Operand.tmp 76), (Operand.tmp 78), (Operand.tmp 80)], argTypes := #[88, 3, 3] }), none, ann0⟩,
  ⟨(some 14), (Op.assign (Operand.tmp 81)), none, ann0⟩] none) (.tidy [0, 1, 8, 10, 13, 14, 53, 54] z (z + 3)))
 (.seq (.reg [⟨(some 82), (Op.move (Operand.tmp 14)), none, ann0⟩,
  ⟨(some 83), (Op.move (Operand.tmp 13)), none, ann0⟩,
  ⟨(some 84), (Op.binOp BinOp.neq 3 (Operand.tmp 82) (Operand.tmp 83) 3), none, ann0⟩] none)
 (.cond (Operand.tmp 84) (.reg [⟨(some 85), (Op.move (Operand.tmp 8)), none, ann0⟩,
  ⟨(some 86), (Op.load 88 (Operand.tmp 10)), none, ann0⟩,
  ⟨(some 87), (Op.nilCheck (Operand.tmp 86)), none, ann0⟩,
  ⟨(some 88), (Op.fieldAddr 91 (Operand.tmp 87) 0), none, ann0⟩,
  ⟨(some 89), (Op.fieldAddr 23 (Operand.tmp 88) 0), none, ann0⟩,
  ⟨(some 90), (Op.load 9 (Operand.tmp 89)), none, ann0⟩,
  ⟨(some 91), (Op.move (Operand.tmp 0)), none, ann0⟩,
  ⟨(some 92), (Op.nilCheck (Operand.tmp 91)), none, ann0⟩,
  ⟨(some 93), (Op.fieldAddr 99 (Operand.tmp 92) 1), none, ann0⟩,
  ⟨(some 94), (Op.load 3 (Operand.tmp 93)), none, ann0⟩,
  ⟨(some 95), (Op.move (Operand.tmp 13)), none, ann0⟩,
  ⟨(some 96), (Op.move (Operand.tmp 14)), none, ann0⟩,
  ⟨(some 97), (Op.build 83 #[(0, (Operand.tmp 90)), (1, (Operand.tmp 94)), (2, (Operand.tmp 95)), (3, (Operand.tmp 96))]), none, ann0⟩,
  ⟨(some 98), (Op.buildSlice 71 1 #[(0, (Operand.tmp 97))]), none, ⟨1, true, false⟩⟩,
  ⟨(some 99), (Op.call { callee := (Callee.builtin Builtin.append), args := #[(Operand.tmp 85), (Operand.tmp 98)], argTypes := #[71, 71] }), none, ann0⟩,
  ⟨(some 8), (Op.assign (Operand.tmp 99)), none, ann0⟩] (some [0, 0, 2, 6, 14, 30, 0, 64, 192, 448, 0, 0, 4094, 8190, 16383, 32767]))
 .skip))))))))) (.tidy [0, 1, 8, 53, 54] z (z + 4)))
 (.reg [⟨(some 100), (Op.binOp BinOp.add 3 (Operand.tmp 54) (Operand.const (Value.int IntKind.i64 1)) 3), none, ann0⟩,
  ⟨(some 54), (Op.move (Operand.tmp 100)), none, ann0⟩] none)))) (.tidy [0, 1, 8, 53, 54] z (z + 1))
def s29_2 (z : Nat) : SC := c29_2 z
theorem e29_2 {C : Pg} {z : Nat} {st : St} {ks : List Fr} {K : Ex → St → Prop} : wpk C (s29_2 z) st ks K ↔ wpk C (c29_2 z) st ks K := Iff.rfl
def s29 (z : Nat) : SFn := ⟨2, 109, [(ResultVar.tmp 4), (ResultVar.tmp 5)],
 (.post (.seq (.reg [⟨(some 4), (Op.assign (Operand.const (Value.slice none 0 0))), none, ann0⟩,
  ⟨(some 5), (Op.assign (Operand.const (Value.int IntKind.i64 0))), none, ann0⟩] none)
 (.seq (.post (.seq (.reg [⟨(some 15), (Op.move (Operand.tmp 0)), none, ann0⟩,
  ⟨(some 16), (Op.binOp BinOp.eql 66 (Operand.tmp 15) (Operand.const (Value.pointer none)) 66), none, ann0⟩] none)
 (.cond (Operand.tmp 16) (.seq (.reg [⟨(some 4), (Op.assign (Operand.const (Value.slice none 0 0))), none, ann0⟩,
  ⟨(some 5), (Op.assign (Operand.const (Value.int IntKind.i64 1))), none, ann0⟩] none)
 .ret)
 .skip)) (.tidy [0, 1] z (z + 0)))
 (.seq (.post (.seq (.reg [⟨(some 17), (Op.move (Operand.tmp 1)), none, ann0⟩,
  ⟨(some 18), (Op.call { callee := (Callee.builtin Builtin.len), args := #[(Operand.tmp 17)], argTypes := #[65] }), none, ann0⟩,
  ⟨(some 19), (Op.move (Operand.const (Value.int IntKind.i64 0))), none, ann0⟩] none)
 (.post (.block 0 (.pre (.tidy [0, 1, 17, 18, 19] z (z + 0)) (.loop (s29_1 z)))) (.tidy [0, 1] z (z + 0)))) (.tidy [0, 1] z (z + 0)))
 (.seq (.post (.seq (.reg [⟨(some 44), (Op.move (Operand.tmp 0)), none, ann0⟩,
  ⟨(some 45), (Op.nilCheck (Operand.tmp 44)), none, ann0⟩,
  ⟨(some 46), (Op.fieldAddr 99 (Operand.tmp 45) 1), none, ann0⟩,
  ⟨(some 47), (Op.load 3 (Operand.tmp 46)), none, ann0⟩,
  ⟨(some 48), (Op.binOp BinOp.gtr 3 (Operand.tmp 47) (Operand.const (Value.int IntKind.i64 1048576)) 3), none, ann0⟩] none)
 (.cond (Operand.tmp 48) (.seq (.reg [⟨(some 4), (Op.assign (Operand.const (Value.slice none 0 0))), none, ann0⟩,
  ⟨(some 5), (Op.assign (Operand.const (Value.int IntKind.i64 32))), none, ann0⟩] none)
 .ret)
 .skip)) (.tidy [0, 1] z (z + 0)))
 (.seq (.post (.reg [⟨(some 8), (Op.assign (Operand.const (Value.slice none 0 0))), none, ann0⟩] none) (.mkv 8 83 4))
 (.seq (.post (.seq (.reg [⟨(some 49), (Op.move (Operand.tmp 0)), none, ann0⟩,
  ⟨(some 50), (Op.nilCheck (Operand.tmp 49)), none, ann0⟩,
  ⟨(some 51), (Op.fieldAddr 99 (Operand.tmp 50) 0), none, ann0⟩,
  ⟨(some 52), (Op.load 97 (Operand.tmp 51)), none, ann0⟩,
  ⟨(some 53), (Op.call { callee := (Callee.builtin Builtin.len), args := #[(Operand.tmp 52)], argTypes := #[97] }), none, ann0⟩,
  ⟨(some 54), (Op.move (Operand.const (Value.int IntKind.i64 0))), none, ann0⟩] none)
 (.post (.block 2 (.pre (.tidy [0, 1, 8, 53, 54] z (z + 1)) (.loop (s29_2 z)))) (.tidy [0, 8] z (z + 1)))) (.tidy [0, 8] z (z + 1)))
 (.seq (.post (.reg [⟨(some 101), (Op.move (Operand.tmp 0)), none, ann0⟩,
  ⟨(some 102), (Op.nilCheck (Operand.tmp 101)), none, ann0⟩,
  ⟨(some 103), (Op.fieldAddr 99 (Operand.tmp 102) 1), none, ann0⟩,
  ⟨(some 104), (Op.load 3 (Operand.tmp 103)), none, ann0⟩,
  ⟨(some 105), (Op.binOp BinOp.add 3 (Operand.tmp 104) (Operand.const (Value.int IntKind.i64 1)) 3), none, ann0⟩,
  ⟨(some 106), (Op.nilCheck (Operand.tmp 101)), none, ann0⟩,
  ⟨(some 107), (Op.fieldAddr 99 (Operand.tmp 106) 1), none, ann0⟩,
  ⟨none, (Op.store 3 (Operand.tmp 107) (Operand.tmp 105)), none, ann0⟩] none) (.tidy [8] z (z + 1)))
 (.seq (.reg [⟨(some 108), (Op.move (Operand.tmp 8)), none, ann0⟩,
  ⟨(some 4), (Op.assign (Operand.tmp 108)), none, ann0⟩,
  ⟨(some 5), (Op.assign (Operand.const (Value.int IntKind.i64 0))), none, ann0⟩] none)
 .ret)))))))) (.frz 4))⟩
theorem F29 (z : Nat) : FOk Try.prog 29 (s29 z) := by unfold FOk; kernel_rfl
def s30 (z : Nat) : SFn := ⟨1, 9, [(ResultVar.tmp 2)],
 (.seq (.reg [⟨(some 2), (Op.assign (Operand.const (Value.int IntKind.i64 0))), none, ann0⟩] none)
 (.seq (.seq (.reg [⟨(some 3), (Op.move (Operand.tmp 0)), none, ann0⟩,
  ⟨(some 4), (Op.binOp BinOp.eql 66 (Operand.tmp 3) (Operand.const (Value.pointer none)) 66), none, ann0⟩] none)
 (.cond (Operand.tmp 4) (.seq (.reg [⟨(some 2), (Op.assign (Operand.const (Value.int IntKind.i64 0))), none, ann0⟩] none)
 .ret)
 .skip))
 (.seq (.reg [⟨(some 5), (Op.move (Operand.tmp 0)), none, ann0⟩,
  ⟨(some 6), (Op.nilCheck (Operand.tmp 5)), none, ann0⟩,
  ⟨(some 7), (Op.fieldAddr 99 (Operand.tmp 6) 1), none, ann0⟩,
  ⟨(some 8), (Op.load 3 (Operand.tmp 7)), none, ann0⟩,
  ⟨(some 2), (Op.assign (Operand.tmp 8)), none, ann0⟩] none)
 .ret)))⟩
theorem F30 (z : Nat) : FOk Try.prog 30 (s30 z) := by unfold FOk; kernel_rfl
def c31_1 (z : Nat) : SC := .post (.seq (.reg [⟨(some 15), (Op.binOp BinOp.lss 3 (Operand.tmp 14) (Operand.tmp 13) 3), none, ann0⟩] none)
 (.seq (.cond (Operand.tmp 15) .skip
 (.exit 0))
 (.seq (.post (.block 1 (.seq (.reg [⟨(some 16), (Op.move (Operand.tmp 14)), none, ann0⟩,
  ⟨(some 6), (Op.assign (Operand.tmp 16)), none, ann0⟩] none)
 (.seq (.post (.reg [⟨(some 17), (Op.move (Operand.tmp 0)), none, ann0⟩,
  ⟨(some 18), (Op.nilCheck (Operand.tmp 17)), none, ann0⟩,
  ⟨(some 19), (Op.fieldAddr 99 (Operand.tmp 18) 0), none, ann0⟩,
  ⟨(some 20), (Op.load 97 (Operand.tmp 19)), none, ann0⟩,
  ⟨(some 21), (Op.move (Operand.tmp 6)), none, ann0⟩,
  ⟨(some 22), (Op.indexAddr 97 (Operand.tmp 20) (Operand.tmp 21)), none, ann0⟩,
  ⟨(some 23), (Op.fieldAddr 91 (Operand.tmp 22) 0), none, ann0⟩,
  ⟨(some 24), (Op.fieldAddr 23 (Operand.tmp 23) 0), none, ann0⟩,
  ⟨(some 25), (Op.load 9 (Operand.tmp 24)), none, ann0⟩,
  ⟨(some 26), (Op.move (Operand.tmp 1)), none, ann0⟩,
  ⟨(some 27), (Op.binOp BinOp.eql 9 (Operand.tmp 25) (Operand.tmp 26) 9), none, ann0⟩] none) (.tidy [0, 1, 6, 13, 14, 27] z (z + 0)))
 (.cond (Operand.tmp 27) (.seq (.reg [⟨(some 28), (Op.move (Operand.tmp 0)), none, ann0⟩,
  ⟨(some 29), (Op.nilCheck (Operand.tmp 28)), none, ann0⟩,
  ⟨(some 30), (Op.fieldAddr 99 (Operand.tmp 29) 0), none, ann0⟩,
  ⟨(some 31), (Op.load 97 (Operand.tmp 30)), none, ann0⟩,
  ⟨(some 32), (Op.move (Operand.tmp 6)), none, ann0⟩,
  ⟨(some 33), (Op.indexAddr 97 (Operand.tmp 31) (Operand.tmp 32)), none, ann0⟩,
  ⟨(some 34), (Op.fieldAddr 91 (Operand.tmp 33) 4), none, ann0⟩,
  ⟨(some 35), (Op.load 3 (Operand.tmp 34)), none, ann0⟩,
  ⟨(some 4), (Op.assign (Operand.tmp 35)), none, ann0⟩,
  ⟨(some 5), (Op.assign (Operand.const (Value.int IntKind.i64 0))), none, ann0⟩] none)
 .ret)
 .skip)))) (.tidy [0, 1, 13, 14] z (z + 0)))
 (.reg [⟨(some 36), (Op.binOp BinOp.add 3 (Operand.tmp 14) (Operand.const (Value.int IntKind.i64 1)) 3), none, ann0⟩,
  ⟨(some 14), (Op.move (Operand.tmp 36)), none, ann0⟩] none)))) (.tidy [0, 1, 13, 14] z (z + 0))
def s31_1 (z : Nat) : SC := c31_1 z
theorem e31_1 {C : Pg} {z : Nat} {st : St} {ks : List Fr} {K : Ex → St → Prop} : wpk C (s31_1 z) st ks K ↔ wpk C (c31_1 z) st ks K := Iff.rfl
def s31 (z : Nat) : SFn := ⟨2, 37, [(ResultVar.tmp 4), (ResultVar.tmp 5)],
 (.seq (.reg [⟨(some 4), (Op.assign (Operand.const (Value.int IntKind.i64 0))), none, ann0⟩,
  ⟨(some 5), (Op.assign (Operand.const (Value.int IntKind.i64 0))), none, ann0⟩] none)
 (.seq (.post (.seq (.reg [⟨(some 7), (Op.move (Operand.tmp 0)), none, ann0⟩,
  ⟨(some 8), (Op.binOp BinOp.eql 66 (Operand.tmp 7) (Operand.const (Value.pointer none)) 66), none, ann0⟩] none)
 (.cond (Operand.tmp 8) (.seq (.reg [⟨(some 4), (Op.assign (Operand.const (Value.int IntKind.i64 0))), none, ann0⟩,
  ⟨(some 5), (Op.assign (Operand.const (Value.int IntKind.i64 1))), none, ann0⟩] none)
 .ret)
 .skip)) (.tidy [0, 1] z (z + 0)))
 (.seq (.post (.seq (.reg [⟨(some 9), (Op.move (Operand.tmp 0)), none, ann0⟩,
  ⟨(some 10), (Op.nilCheck (Operand.tmp 9)), none, ann0⟩,
  ⟨(some 11), (Op.fieldAddr 99 (Operand.tmp 10) 0), none, ann0⟩,
  ⟨(some 12), (Op.load 97 (Operand.tmp 11)), none, ann0⟩,
  ⟨(some 13), (Op.call { callee := (Callee.builtin Builtin.len), args := #[(Operand.tmp 12)], argTypes := #[97] }), none, ann0⟩,
  ⟨(some 14), (Op.move (Operand.const (Value.int IntKind.i64 0))), none, ann0⟩] none)
 (.post (.block 0 (.pre (.tidy [0, 1, 13, 14] z (z + 0)) (.loop (s31_1 z)))) (.tidy [] z (z + 0)))) (.tidy [] z (z + 0)))
 (.seq (.reg [⟨(some 4), (Op.assign (Operand.const (Value.int IntKind.i64 0))), none, ann0⟩,
  ⟨(some 5), (Op.assign (Operand.const (Value.int IntKind.i64 10))), none, ann0⟩] none)
 .ret))))⟩
theorem F31 (z : Nat) : FOk Try.prog 31 (s31 z) := by unfold FOk; kernel_rfl
def c32_1 (z : Nat) : SC := .post (.seq (.reg [⟨(some 13), (Op.binOp BinOp.lss 3 (Operand.tmp 12) (Operand.tmp 11) 3), none, ann0⟩] none)
 (.seq (.cond (Operand.tmp 13) .skip
 (.exit 0))
 (.seq (.post (.block 1 (.seq (.reg [⟨(some 14), (Op.move (Operand.tmp 12)), none, ann0⟩,
  ⟨(some 4), (Op.assign (Operand.tmp 14)), none, ann0⟩] none)
 (.seq (.post (.reg [⟨(some 15), (Op.move (Operand.tmp 0)), none, ann0⟩,
  ⟨(some 16), (Op.nilCheck (Operand.tmp 15)), none, ann0⟩,
  ⟨(some 17), (Op.fieldAddr 99 (Operand.tmp 16) 0), none, ann0⟩,
  ⟨(some 18), (Op.load 97 (Operand.tmp 17)), none, ann0⟩,
  ⟨(some 19), (Op.move (Operand.tmp 4)), none, ann0⟩,
  ⟨(some 20), (Op.indexAddr 97 (Operand.tmp 18) (Operand.tmp 19)), none, ann0⟩,
  ⟨(some 21), (Op.fieldAddr 91 (Operand.tmp 20) 4), none, ann0⟩,
  ⟨(some 22), (Op.load 3 (Operand.tmp 21)), none, ann0⟩,
  ⟨(some 23), (Op.binOp BinOp.eql 3 (Operand.tmp 22) (Operand.const (Value.int IntKind.i64 2)) 3), none, ann0⟩] none) (.tidy [0, 3, 4, 11, 12, 23] z (z + 1)))
 (.cond (Operand.tmp 23) (.reg [⟨(some 24), (Op.move (Operand.tmp 3)), none, ann0⟩,
  ⟨(some 25), (Op.move (Operand.tmp 0)), none, ann0⟩,
  ⟨(some 26), (Op.nilCheck (Operand.tmp 25)), none, ann0⟩,
  ⟨(some 27), (Op.fieldAddr 99 (Operand.tmp 26) 0), none, ann0⟩,
  ⟨(some 28), (Op.load 97 (Operand.tmp 27)), none, ann0⟩,
  ⟨(some 29), (Op.move (Operand.tmp 4)), none, ann0⟩,
  ⟨(some 30), (Op.indexAddr 97 (Operand.tmp 28) (Operand.tmp 29)), none, ann0⟩,
  ⟨(some 31), (Op.fieldAddr 91 (Operand.tmp 30) 0), none, ann0⟩,
  ⟨(some 32), (Op.fieldAddr 23 (Operand.tmp 31) 0), none, ann0⟩,
  ⟨(some 33), (Op.load 9 (Operand.tmp 32)), none, ann0⟩,
  ⟨(some 34), (Op.buildSlice 77 1 #[(0, (Operand.tmp 33))]), none, ⟨1, true, false⟩⟩,
  ⟨(some 35), (Op.call { callee := (Callee.builtin Builtin.append), args := #[(Operand.tmp 24), (Operand.tmp 34)], argTypes := #[77, 77] }), none, ann0⟩,
  ⟨(some 3), (Op.assign (Operand.tmp 35)), none, ann0⟩] none)
 .skip)))) (.tidy [0, 3, 11, 12] z (z + 2)))
 (.reg [⟨(some 36), (Op.binOp BinOp.add 3 (Operand.tmp 12) (Operand.const (Value.int IntKind.i64 1)) 3), none, ann0⟩,
  ⟨(some 12), (Op.move (Operand.tmp 36)), none, ann0⟩] none)))) (.tidy [0, 3, 11, 12] z (z + 1))
def s32_1 (z : Nat) : SC := c32_1 z
theorem e32_1 {C : Pg} {z : Nat} {st : St} {ks : List Fr} {K : Ex → St → Prop} : wpk C (s32_1 z) st ks K ↔ wpk C (c32_1 z) st ks K := Iff.rfl
def s32 (z : Nat) : SFn := ⟨1, 38, [(ResultVar.tmp 2)],
 (.post (.seq (.reg [⟨(some 2), (Op.assign (Operand.const (Value.slice none 0 0))), none, ann0⟩] none)
 (.seq (.seq (.reg [⟨(some 5), (Op.move (Operand.tmp 0)), none, ann0⟩,
  ⟨(some 6), (Op.binOp BinOp.eql 66 (Operand.tmp 5) (Operand.const (Value.pointer none)) 66), none, ann0⟩] none)
 (.cond (Operand.tmp 6) (.seq (.reg [⟨(some 2), (Op.assign (Operand.const (Value.slice none 0 0))), none, ann0⟩] none)
 .ret)
 .skip))
 (.seq (.post (.reg [⟨(some 3), (Op.assign (Operand.const (Value.slice none 0 0))), none, ann0⟩] none) (.mkv 3 9 1))
 (.seq (.post (.seq (.post (.reg [⟨(some 7), (Op.move (Operand.tmp 0)), none, ann0⟩,
  ⟨(some 8), (Op.nilCheck (Operand.tmp 7)), none, ann0⟩,
  ⟨(some 9), (Op.fieldAddr 99 (Operand.tmp 8) 0), none, ann0⟩,
  ⟨(some 10), (Op.load 97 (Operand.tmp 9)), none, ann0⟩,
  ⟨(some 11), (Op.call { callee := (Callee.builtin Builtin.len), args := #[(Operand.tmp 10)], argTypes := #[97] }), none, ann0⟩,
  ⟨(some 12), (Op.move (Operand.const (Value.int IntKind.i64 0))), none, ann0⟩] none) (.tidy [0, 3, 11, 12] z (z + 1)))
 (.post (.block 0 (.pre (.tidy [0, 3, 11, 12] z (z + 1)) (.loop (s32_1 z)))) (.tidy [3] z (z + 1)))) (.tidy [3] z (z + 1)))
 (.seq (.reg [⟨(some 37), (Op.move (Operand.tmp 3)), none, ann0⟩,
  ⟨(some 2), (Op.assign (Operand.tmp 37)), none, ann0⟩] none)
 .ret))))) (.frz 2))⟩
theorem F32 (z : Nat) : FOk Try.prog 32 (s32 z) := by unfold FOk; kernel_rfl
def s33 (z : Nat) : SFn := ⟨1, 16, [(ResultVar.tmp 2)],
 (.seq (.reg [⟨(some 2), (Op.assign (Operand.const (Value.pointer none))), none, ann0⟩] none)
 (.seq (.seq (.reg [⟨(some 3), (Op.move (Operand.tmp 0)), none, ann0⟩,
  ⟨(some 4), (Op.binOp BinOp.eql 66 (Operand.tmp 3) (Operand.const (Value.pointer none)) 66), none, ann0⟩] none)
 (.cond (Operand.tmp 4) (.seq (.reg [⟨(some 2), (Op.assign (Operand.const (Value.pointer none))), none, ann0⟩] none)
 .ret)
 .skip))
 (.seq (.reg [⟨(some 5), (Op.move (Operand.tmp 0)), none, ann0⟩,
  ⟨(some 6), (Op.nilCheck (Operand.tmp 5)), none, ann0⟩,
  ⟨(some 7), (Op.fieldAddr 99 (Operand.tmp 6) 0), none, ann0⟩,
  ⟨(some 8), (Op.load 97 (Operand.tmp 7)), none, ann0⟩,
  ⟨(some 9), (Op.call { callee := (Callee.value (Operand.func 43)), args := #[(Operand.tmp 8)], argTypes := #[97] }), none, ann0⟩,
  ⟨(some 10), (Op.move (Operand.tmp 0)), none, ann0⟩,
  ⟨(some 11), (Op.nilCheck (Operand.tmp 10)), none, ann0⟩,
  ⟨(some 12), (Op.fieldAddr 99 (Operand.tmp 11) 1), none, ann0⟩,
  ⟨(some 13), (Op.load 3 (Operand.tmp 12)), none, ann0⟩,
  ⟨(some 14), (Op.build 99 #[(0, (Operand.tmp 9)), (1, (Operand.tmp 13))]), none, ann0⟩,
  ⟨(some 15), (Op.box 99 (Operand.tmp 14)), none, ⟨1, false, false⟩⟩,
  ⟨(some 2), (Op.assign (Operand.tmp 15)), none, ann0⟩] (some [0, 1, 3, 7, 15, 0, 32, 96, 224, 511, 1023, 2047]))
 .ret)))⟩
theorem F33 (z : Nat) : FOk Try.prog 33 (s33 z) := by unfold FOk; kernel_rfl
def s34 (z : Nat) : SFn := ⟨1, 14, [(ResultVar.tmp 2)],
 (.seq (.reg [⟨(some 2), (Op.assign (Operand.const (Value.bool false))), none, ann0⟩] none)
 (.seq (.reg [⟨(some 3), (Op.move (Operand.tmp 0)), none, ann0⟩,
  ⟨(some 4), (Op.binOp BinOp.neq 9 (Operand.tmp 3) (Operand.const (Value.string ⟨#[]⟩)) 9), none, ann0⟩,
  ⟨(some 5), (Op.move (Operand.tmp 4)), none, ann0⟩,
  ⟨(some 6), (Op.move (Operand.tmp 0)), (some (5, true)), ann0⟩,
  ⟨(some 7), (Op.call { callee := (Callee.builtin Builtin.len), args := #[(Operand.tmp 6)], argTypes := #[9] }), (some (5, true)), ann0⟩,
  ⟨(some 8), (Op.binOp BinOp.leq 3 (Operand.tmp 7) (Operand.const (Value.int IntKind.i64 64)) 3), (some (5, true)), ann0⟩,
  ⟨(some 9), (Op.pick (Operand.tmp 5) (Operand.tmp 8) (Operand.const (Value.bool false))), none, ann0⟩,
  ⟨(some 10), (Op.move (Operand.tmp 9)), none, ann0⟩,
  ⟨(some 11), (Op.move (Operand.tmp 0)), (some (10, true)), ann0⟩,
  ⟨(some 12), (Op.call { callee := (Callee.value (Operand.func 44)), args := #[(Operand.tmp 11), (Operand.const (Value.int IntKind.u8 33)), (Operand.const (Value.int IntKind.u8 126))], argTypes := #[9, 5, 5] }), (some (10, true)), ann0⟩,
  ⟨(some 13), (Op.pick (Operand.tmp 10) (Operand.tmp 12) (Operand.const (Value.bool false))), none, ann0⟩,
  ⟨(some 2), (Op.assign (Operand.tmp 13)), none, ann0⟩] none)
 .ret))⟩
theorem F34 (z : Nat) : FOk Try.prog 34 (s34 z) := by unfold FOk; kernel_rfl
def s35 (z : Nat) : SFn := ⟨1, 9, [(ResultVar.tmp 2)],
 (.seq (.reg [⟨(some 2), (Op.assign (Operand.const (Value.bool false))), none, ann0⟩] none)
 (.seq (.reg [⟨(some 3), (Op.move (Operand.tmp 0)), none, ann0⟩,
  ⟨(some 4), (Op.binOp BinOp.geq 3 (Operand.tmp 3) (Operand.const (Value.int IntKind.i64 0)) 3), none, ann0⟩,
  ⟨(some 5), (Op.move (Operand.tmp 4)), none, ann0⟩,
  ⟨(some 6), (Op.move (Operand.tmp 0)), (some (5, true)), ann0⟩,
  ⟨(some 7), (Op.binOp BinOp.lss 3 (Operand.tmp 6) (Operand.const (Value.int IntKind.i64 1000000)) 3), (some (5, true)), ann0⟩,
  ⟨(some 8), (Op.pick (Operand.tmp 5) (Operand.tmp 7) (Operand.const (Value.bool false))), none, ann0⟩,
  ⟨(some 2), (Op.assign (Operand.tmp 8)), none, ann0⟩] none)
 .ret))⟩
theorem F35 (z : Nat) : FOk Try.prog 35 (s35 z) := by unfold FOk; kernel_rfl
def s36 (z : Nat) : SFn := ⟨1, 75, [(ResultVar.tmp 2)],
 (.seq (.reg [⟨(some 1), (Op.box 35 (Operand.tmp 0)), none, ⟨1, false, false⟩⟩,
  ⟨(some 2), (Op.assign (Operand.const (Value.int IntKind.i64 0))), none, ann0⟩] none)
 (.seq (.post (.block 0 (.seq (.post (.reg [⟨(some 4), (Op.fieldAddr 35 (Operand.tmp 1) 0), none, ann0⟩,
  ⟨(some 5), (Op.load 9 (Operand.tmp 4)), none, ann0⟩,
  ⟨(some 6), (Op.call { callee := (Callee.value (Operand.func 34)), args := #[(Operand.tmp 5)], argTypes := #[9] }), none, ann0⟩,
  ⟨(some 7), (Op.unOp UnOp.not 4 (Operand.tmp 6)), none, ann0⟩,
  ⟨(some 8), (Op.move (Operand.tmp 7)), none, ann0⟩,
  ⟨(some 9), (Op.fieldAddr 35 (Operand.tmp 1) 1), (some (8, false)), ann0⟩,
  ⟨(some 10), (Op.load 9 (Operand.tmp 9)), (some (8, false)), ann0⟩,
  ⟨(some 11), (Op.binOp BinOp.neq 9 (Operand.tmp 10) (Operand.const (Value.string ⟨#[]⟩)) 9), (some (8, false)), ann0⟩,
  ⟨(some 12), (Op.move (Operand.tmp 11)), (some (8, false)), ann0⟩,
  ⟨(some 13), (Op.fieldAddr 35 (Operand.tmp 1) 1), (some (12, true)), ann0⟩,
  ⟨(some 14), (Op.load 9 (Operand.tmp 13)), (some (12, true)), ann0⟩,
  ⟨(some 15), (Op.call { callee := (Callee.value (Operand.func 34)), args := #[(Operand.tmp 14)], argTypes := #[9] }), (some (12, true)), ann0⟩,
  ⟨(some 16), (Op.unOp UnOp.not 4 (Operand.tmp 15)), (some (12, true)), ann0⟩,
  ⟨(some 17), (Op.pick (Operand.tmp 12) (Operand.tmp 16) (Operand.const (Value.bool false))), (some (8, false)), ann0⟩,
  ⟨(some 18), (Op.pick (Operand.tmp 8) (Operand.const (Value.bool true)) (Operand.tmp 17)), none, ann0⟩,
  ⟨(some 3), (Op.assign (Operand.tmp 18)), none, ann0⟩] none) (.tidy [1, 3] z (z + 1)))
 (.cond (Operand.tmp 3) (.seq (.reg [⟨(some 2), (Op.assign (Operand.const (Value.int IntKind.i64 11))), none, ann0⟩] none)
 .ret)
 (.seq (.post (.reg [⟨(some 20), (Op.fieldAddr 35 (Operand.tmp 1) 2), none, ann0⟩,
  ⟨(some 21), (Op.load 3 (Operand.tmp 20)), none, ann0⟩,
  ⟨(some 22), (Op.binOp BinOp.lss 3 (Operand.tmp 21) (Operand.const (Value.int IntKind.i64 1)) 3), none, ann0⟩,
  ⟨(some 23), (Op.move (Operand.tmp 22)), none, ann0⟩,
  ⟨(some 24), (Op.fieldAddr 35 (Operand.tmp 1) 2), (some (23, false)), ann0⟩,
  ⟨(some 25), (Op.load 3 (Operand.tmp 24)), (some (23, false)), ann0⟩,
  ⟨(some 26), (Op.binOp BinOp.gtr 3 (Operand.tmp 25) (Operand.const (Value.int IntKind.i64 3)) 3), (some (23, false)), ann0⟩,
  ⟨(some 27), (Op.pick (Operand.tmp 23) (Operand.const (Value.bool true)) (Operand.tmp 26)), none, ann0⟩,
  ⟨(some 19), (Op.assign (Operand.tmp 27)), none, ann0⟩] none) (.tidy [1, 19] z (z + 1)))
 (.cond (Operand.tmp 19) (.seq (.reg [⟨(some 2), (Op.assign (Operand.const (Value.int IntKind.i64 12))), none, ann0⟩] none)
 .ret)
 (.seq (.post (.reg [⟨(some 29), (Op.fieldAddr 35 (Operand.tmp 1) 2), none, ann0⟩,
  ⟨(some 30), (Op.load 3 (Operand.tmp 29)), none, ann0⟩,
  ⟨(some 31), (Op.binOp BinOp.eql 3 (Operand.tmp 30) (Operand.const (Value.int IntKind.i64 3)) 3), none, ann0⟩,
  ⟨(some 32), (Op.move (Operand.tmp 31)), none, ann0⟩,
  ⟨(some 33), (Op.fieldAddr 35 (Operand.tmp 1) 3), (some (32, true)), ann0⟩,
  ⟨(some 34), (Op.load 32 (Operand.tmp 33)), (some (32, true)), ann0⟩,
  ⟨(some 35), (Op.call { callee := (Callee.value (Operand.func 45)), args := #[(Operand.tmp 34)], argTypes := #[32] }), (some (32, true)), ann0⟩,
  ⟨(some 36), (Op.unOp UnOp.not 4 (Operand.tmp 35)), (some (32, true)), ann0⟩,
  ⟨(some 37), (Op.pick (Operand.tmp 32) (Operand.tmp 36) (Operand.const (Value.bool false))), none, ann0⟩,
  ⟨(some 38), (Op.move (Operand.tmp 37)), none, ann0⟩,
  ⟨(some 39), (Op.fieldAddr 35 (Operand.tmp 1) 2), (some (38, false)), ann0⟩,
  ⟨(some 40), (Op.load 3 (Operand.tmp 39)), (some (38, false)), ann0⟩,
  ⟨(some 41), (Op.binOp BinOp.neq 3 (Operand.tmp 40) (Operand.const (Value.int IntKind.i64 3)) 3), (some (38, false)), ann0⟩,
  ⟨(some 42), (Op.move (Operand.tmp 41)), (some (38, false)), ann0⟩,
  ⟨(some 43), (Op.fieldAddr 35 (Operand.tmp 1) 3), (some (42, true)), ann0⟩,
  ⟨(some 44), (Op.load 32 (Operand.tmp 43)), (some (42, true)), ann0⟩,
  ⟨(some 45), (Op.build 32 #[]), (some (42, true)), ann0⟩,
  ⟨(some 46), (Op.binOp BinOp.neq 32 (Operand.tmp 44) (Operand.tmp 45) 32), (some (42, true)), ann0⟩,
  ⟨(some 47), (Op.pick (Operand.tmp 42) (Operand.tmp 46) (Operand.const (Value.bool false))), (some (38, false)), ann0⟩,
  ⟨(some 48), (Op.pick (Operand.tmp 38) (Operand.const (Value.bool true)) (Operand.tmp 47)), none, ann0⟩,
  ⟨(some 28), (Op.assign (Operand.tmp 48)), none, ann0⟩] none) (.tidy [1, 28] z (z + 1)))
 (.cond (Operand.tmp 28) (.seq (.reg [⟨(some 2), (Op.assign (Operand.const (Value.int IntKind.i64 3))), none, ann0⟩] none)
 .ret)
 (.seq (.post (.reg [⟨(some 50), (Op.fieldAddr 35 (Operand.tmp 1) 4), none, ann0⟩,
  ⟨(some 51), (Op.load 3 (Operand.tmp 50)), none, ann0⟩,
  ⟨(some 52), (Op.binOp BinOp.lss 3 (Operand.tmp 51) (Operand.const (Value.int IntKind.i64 0)) 3), none, ann0⟩,
  ⟨(some 53), (Op.move (Operand.tmp 52)), none, ann0⟩,
  ⟨(some 54), (Op.fieldAddr 35 (Operand.tmp 1) 4), (some (53, false)), ann0⟩,
  ⟨(some 55), (Op.load 3 (Operand.tmp 54)), (some (53, false)), ann0⟩,
  ⟨(some 56), (Op.binOp BinOp.gtr 3 (Operand.tmp 55) (Operand.const (Value.int IntKind.i64 1048576)) 3), (some (53, false)), ann0⟩,
  ⟨(some 57), (Op.pick (Operand.tmp 53) (Operand.const (Value.bool true)) (Operand.tmp 56)), none, ann0⟩,
  ⟨(some 49), (Op.assign (Operand.tmp 57)), none, ann0⟩] none) (.tidy [1, 49] z (z + 1)))
 (.cond (Operand.tmp 49) (.seq (.reg [⟨(some 2), (Op.assign (Operand.const (Value.int IntKind.i64 32))), none, ann0⟩] none)
 .ret)
 (.seq (.reg [⟨(some 59), (Op.fieldAddr 35 (Operand.tmp 1) 5), none, ann0⟩,
  ⟨(some 60), (Op.load 33 (Operand.tmp 59)), none, ann0⟩,
  ⟨(some 61), (Op.call { callee := (Callee.builtin Builtin.len), args := #[(Operand.tmp 60)], argTypes := #[33] }), none, ann0⟩,
  ⟨(some 62), (Op.binOp BinOp.gtr 3 (Operand.tmp 61) (Operand.const (Value.int IntKind.i64 1024)) 3), none, ann0⟩,
  ⟨(some 58), (Op.assign (Operand.tmp 62)), none, ann0⟩] none)
 (.cond (Operand.tmp 58) (.seq (.reg [⟨(some 2), (Op.assign (Operand.const (Value.int IntKind.i64 6))), none, ann0⟩] none)
 .ret)
 (.seq (.post (.reg [⟨(some 64), (Op.fieldAddr 35 (Operand.tmp 1) 4), none, ann0⟩,
  ⟨(some 65), (Op.load 3 (Operand.tmp 64)), none, ann0⟩,
  ⟨(some 66), (Op.fieldAddr 35 (Operand.tmp 1) 5), none, ann0⟩,
  ⟨(some 67), (Op.load 33 (Operand.tmp 66)), none, ann0⟩,
  ⟨(some 68), (Op.call { callee := (Callee.builtin Builtin.len), args := #[(Operand.tmp 67)], argTypes := #[33] }), none, ann0⟩,
  ⟨(some 69), (Op.binOp BinOp.add 3 (Operand.tmp 65) (Operand.tmp 68) 3), none, ann0⟩,
  ⟨(some 70), (Op.binOp BinOp.gtr 3 (Operand.tmp 69) (Operand.const (Value.int IntKind.i64 1048577)) 3), none, ann0⟩,
  ⟨(some 63), (Op.assign (Operand.tmp 70)), none, ann0⟩] none) (.tidy [1, 63] z (z + 1)))
 (.cond (Operand.tmp 63) (.seq (.reg [⟨(some 2), (Op.assign (Operand.const (Value.int IntKind.i64 32))), none, ann0⟩] none)
 .ret)
 (.seq (.reg [⟨(some 72), (Op.fieldAddr 35 (Operand.tmp 1) 5), none, ann0⟩,
  ⟨(some 73), (Op.load 33 (Operand.tmp 72)), none, ann0⟩,
  ⟨(some 74), (Op.call { callee := (Callee.value (Operand.func 46)), args := #[(Operand.tmp 73), (Operand.func 47)], argTypes := #[33, 86] }), none, ann0⟩,
  ⟨(some 71), (Op.assign (Operand.tmp 74)), none, ann0⟩] none)
 (.cond (Operand.tmp 71) (.seq (.reg [⟨(some 2), (Op.assign (Operand.const (Value.int IntKind.i64 2))), none, ann0⟩] none)
 .ret)
 .skip))))))))))))))) (.tidy [] z (z + 1)))
 (.seq (.reg [⟨(some 2), (Op.assign (Operand.const (Value.int IntKind.i64 0))), none, ann0⟩] none)
 .ret)))⟩
theorem F36 (z : Nat) : FOk Try.prog 36 (s36 z) := by unfold FOk; kernel_rfl
def c37_1 (z : Nat) : SC := .post (.seq (.reg [⟨(some 12), (Op.binOp BinOp.lss 3 (Operand.tmp 11) (Operand.tmp 10) 3), none, ann0⟩] none)
 (.seq (.cond (Operand.tmp 12) .skip
 (.exit 0))
 (.seq (.post (.block 1 (.seq (.reg [⟨(some 13), (Op.move (Operand.tmp 11)), none, ann0⟩,
  ⟨(some 8), (Op.assign (Operand.tmp 13)), none, ann0⟩] none)
 (.reg [⟨(some 14), (Op.move (Operand.tmp 7)), none, ann0⟩,
  ⟨(some 15), (Op.move (Operand.tmp 2)), none, ann0⟩,
  ⟨(some 16), (Op.move (Operand.tmp 0)), none, ann0⟩,
  ⟨(some 17), (Op.move (Operand.tmp 8)), none, ann0⟩,
  ⟨(some 18), (Op.indexAddr 33 (Operand.tmp 16) (Operand.tmp 17)), none, ann0⟩,
  ⟨(some 19), (Op.load 3 (Operand.tmp 18)), none, ann0⟩,
  ⟨(some 20), (Op.move (Operand.tmp 1)), none, ann0⟩,
  ⟨(some 21), (Op.move (Operand.tmp 8)), none, ann0⟩,
  ⟨(some 22), (Op.indexAddr 33 (Operand.tmp 20) (Operand.tmp 21)), none, ann0⟩,
  ⟨(some 23), (Op.load 3 (Operand.tmp 22)), none, ann0⟩,
  ⟨(some 24), (Op.call { callee := (Callee.value (Operand.tmp 15)), args := #[(Operand.tmp 19), (Operand.tmp 23)], argTypes := #[3, 3] }), none, ann0⟩,
  ⟨(some 25), (Op.buildSlice 33 1 #[(0, (Operand.tmp 24))]), none, ⟨1, true, false⟩⟩,
  ⟨(some 26), (Op.call { callee := (Callee.builtin Builtin.append), args := #[(Operand.tmp 14), (Operand.tmp 25)], argTypes := #[33, 33] }), none, ann0⟩,
  ⟨(some 7), (Op.assign (Operand.tmp 26)), none, ann0⟩] (some [0, 0, 0, 0, 12, 28, 0, 0, 192, 448, 1022, 2046, 4095, 8191])))) (.tidy [0, 1, 2, 7, 10, 11] z (z + 2)))
 (.reg [⟨(some 27), (Op.binOp BinOp.add 3 (Operand.tmp 11) (Operand.const (Value.int IntKind.i64 1)) 3), none, ann0⟩,
  ⟨(some 11), (Op.move (Operand.tmp 27)), none, ann0⟩] none)))) (.tidy [0, 1, 2, 7, 10, 11] z (z + 1))
def s37_1 (z : Nat) : SC := c37_1 z
theorem e37_1 {C : Pg} {z : Nat} {st : St} {ks : List Fr} {K : Ex → St → Prop} : wpk C (s37_1 z) st ks K ↔ wpk C (c37_1 z) st ks K := Iff.rfl
def s37 (z : Nat) : SFn := ⟨3, 29, [(ResultVar.tmp 6)],
 (.post (.seq (.reg [⟨(some 6), (Op.assign (Operand.const (Value.slice none 0 0))), none, ann0⟩] none)
 (.seq (.post (.reg [⟨(some 7), (Op.assign (Operand.const (Value.slice none 0 0))), none, ann0⟩] none) (.mkv 7 3 1))
 (.seq (.post (.seq (.reg [⟨(some 9), (Op.move (Operand.tmp 0)), none, ann0⟩,
  ⟨(some 10), (Op.call { callee := (Callee.builtin Builtin.len), args := #[(Operand.tmp 9)], argTypes := #[33] }), none, ann0⟩,
  ⟨(some 11), (Op.move (Operand.const (Value.int IntKind.i64 0))), none, ann0⟩] none)
 (.post (.block 0 (.pre (.tidy [0, 1, 2, 7, 10, 11] z (z + 1)) (.loop (s37_1 z)))) (.tidy [7] z (z + 1)))) (.tidy [7] z (z + 1)))
 (.seq (.reg [⟨(some 28), (Op.move (Operand.tmp 7)), none, ann0⟩,
  ⟨(some 6), (Op.assign (Operand.tmp 28)), none, ann0⟩] none)
 .ret)))) (.frz 6))⟩
theorem F37 (z : Nat) : FOk Try.prog 37 (s37 z) := by unfold FOk; kernel_rfl
def s38 (z : Nat) : SFn := ⟨3, 91, [(ResultVar.tmp 6)],
 (.seq (.reg [⟨(some 6), (Op.assign (Operand.const (Value.int IntKind.i64 0))), none, ann0⟩] none)
 (.seq (.post (.reg [⟨(some 7), (Op.move (Operand.tmp 0)), none, ann0⟩,
  ⟨(some 8), (Op.move (Operand.tmp 0)), none, ann0⟩,
  ⟨(some 9), (Op.nilCheck (Operand.tmp 8)), none, ann0⟩,
  ⟨(some 10), (Op.fieldAddr 91 (Operand.tmp 9) 2), none, ann0⟩,
  ⟨(some 11), (Op.load 3 (Operand.tmp 10)), none, ann0⟩,
  ⟨(some 12), (Op.binOp BinOp.rem 3 (Operand.tmp 11) (Operand.const (Value.int IntKind.i64 256)) 3), none, ann0⟩,
  ⟨(some 13), (Op.move (Operand.tmp 1)), none, ann0⟩,
  ⟨(some 14), (Op.move (Operand.tmp 2)), none, ann0⟩,
  ⟨(some 15), (Op.build 70 #[(2, (Operand.tmp 13)), (3, (Operand.tmp 14))]), none, ann0⟩,
  ⟨(some 16), (Op.nilCheck (Operand.tmp 7)), none, ann0⟩,
  ⟨(some 17), (Op.fieldAddr 91 (Operand.tmp 16) 1), none, ann0⟩,
  ⟨(some 18), (Op.indexAddr 89 (Operand.tmp 17) (Operand.tmp 12)), none, ann0⟩,
  ⟨none, (Op.store 70 (Operand.tmp 18) (Operand.tmp 15)), none, ann0⟩] (some [0, 0, 2, 6, 14, 30, 0, 0, 192, 1, 513, 2047, 4095])) (.tidy [0] z (z + 0)))
 (.seq (.post (.reg [⟨(some 19), (Op.move (Operand.tmp 0)), none, ann0⟩,
  ⟨(some 20), (Op.nilCheck (Operand.tmp 19)), none, ann0⟩,
  ⟨(some 21), (Op.fieldAddr 91 (Operand.tmp 20) 2), none, ann0⟩,
  ⟨(some 22), (Op.load 3 (Operand.tmp 21)), none, ann0⟩,
  ⟨(some 23), (Op.binOp BinOp.add 3 (Operand.tmp 22) (Operand.const (Value.int IntKind.i64 1)) 3), none, ann0⟩,
  ⟨(some 24), (Op.nilCheck (Operand.tmp 19)), none, ann0⟩,
  ⟨(some 25), (Op.fieldAddr 91 (Operand.tmp 24) 2), none, ann0⟩,
  ⟨none, (Op.store 3 (Operand.tmp 25) (Operand.tmp 23)), none, ann0⟩] none) (.tidy [0] z (z + 0)))
 (.seq (.post (.seq (.post (.reg [⟨(some 26), (Op.move (Operand.tmp 0)), none, ann0⟩,
  ⟨(some 27), (Op.move (Operand.tmp 0)), none, ann0⟩,
  ⟨(some 28), (Op.nilCheck (Operand.tmp 27)), none, ann0⟩,
  ⟨(some 29), (Op.fieldAddr 91 (Operand.tmp 28) 0), none, ann0⟩,
  ⟨(some 30), (Op.fieldAddr 23 (Operand.tmp 29) 4), none, ann0⟩,
  ⟨(some 31), (Op.load 3 (Operand.tmp 30)), none, ann0⟩,
  ⟨(some 32), (Op.call { callee := (Callee.value (Operand.func 48)), args := #[(Operand.tmp 26), (Operand.tmp 31)], argTypes := #[88, 3] }), none, ⟨0, false, true⟩⟩,
  ⟨(some 33), (Op.move (Operand.tmp 0)), none, ann0⟩,
  ⟨(some 34), (Op.nilCheck (Operand.tmp 33)), none, ann0⟩,
  ⟨(some 35), (Op.fieldAddr 91 (Operand.tmp 34) 0), none, ann0⟩,
  ⟨(some 36), (Op.fieldAddr 23 (Operand.tmp 35) 6), none, ann0⟩,
  ⟨(some 37), (Op.load 3 (Operand.tmp 36)), none, ann0⟩,
  ⟨(some 38), (Op.binOp BinOp.lss 3 (Operand.tmp 32) (Operand.tmp 37) 3), none, ann0⟩,
  ⟨(some 39), (Op.move (Operand.tmp 38)), none, ann0⟩,
  ⟨(some 40), (Op.move (Operand.tmp 0)), (some (39, false)), ann0⟩,
  ⟨(some 41), (Op.move (Operand.tmp 0)), (some (39, false)), ann0⟩,
  ⟨(some 42), (Op.nilCheck (Operand.tmp 41)), (some (39, false)), ann0⟩,
  ⟨(some 43), (Op.fieldAddr 91 (Operand.tmp 42) 0), (some (39, false)), ann0⟩,
  ⟨(some 44), (Op.fieldAddr 23 (Operand.tmp 43) 5), (some (39, false)), ann0⟩,
  ⟨(some 45), (Op.load 3 (Operand.tmp 44)), (some (39, false)), ann0⟩,
  ⟨(some 46), (Op.call { callee := (Callee.value (Operand.func 48)), args := #[(Operand.tmp 40), (Operand.tmp 45)], argTypes := #[88, 3] }), (some (39, false)), ⟨0, false, true⟩⟩,
  ⟨(some 47), (Op.move (Operand.tmp 0)), (some (39, false)), ann0⟩,
  ⟨(some 48), (Op.nilCheck (Operand.tmp 47)), (some (39, false)), ann0⟩,
  ⟨(some 49), (Op.fieldAddr 91 (Operand.tmp 48) 0), (some (39, false)), ann0⟩,
  ⟨(some 50), (Op.fieldAddr 23 (Operand.tmp 49) 6), (some (39, false)), ann0⟩,
  ⟨(some 51), (Op.load 3 (Operand.tmp 50)), (some (39, false)), ann0⟩,
  ⟨(some 52), (Op.binOp BinOp.lss 3 (Operand.tmp 46) (Operand.tmp 51) 3), (some (39, false)), ann0⟩,
  ⟨(some 53), (Op.pick (Operand.tmp 39) (Operand.const (Value.bool true)) (Operand.tmp 52)), none, ann0⟩] (some [0, 0, 2, 6, 14, 30, 63, 0, 128, 384, 896, 1920, 4095, 8191, 16383, 16383, 49151, 114687, 245759, 507903, 1048575, 16383, 2113535, 6307839, 14696447, 31473663, 67108863, 134217727])) (.tidy [0, 53] z (z + 0)))
 (.cond (Operand.tmp 53) (.seq (.post (.reg [⟨(some 54), (Op.move (Operand.tmp 0)), none, ann0⟩,
  ⟨(some 55), (Op.move (Operand.tmp 0)), none, ann0⟩,
  ⟨(some 56), (Op.nilCheck (Operand.tmp 54)), none, ann0⟩,
  ⟨(some 57), (Op.fieldAddr 91 (Operand.tmp 56) 3), none, ann0⟩,
  ⟨none, (Op.store 3 (Operand.tmp 57) (Operand.const (Value.int IntKind.i64 0))), none, ann0⟩,
  ⟨(some 58), (Op.nilCheck (Operand.tmp 55)), none, ann0⟩,
  ⟨(some 59), (Op.fieldAddr 91 (Operand.tmp 58) 4), none, ann0⟩,
  ⟨none, (Op.store 3 (Operand.tmp 59) (Operand.const (Value.int IntKind.i64 0))), none, ann0⟩] none) (.tidy [0] z (z + 0)))
 (.seq (.reg [⟨(some 60), (Op.move (Operand.tmp 0)), none, ann0⟩,
  ⟨(some 61), (Op.nilCheck (Operand.tmp 60)), none, ann0⟩,
  ⟨(some 62), (Op.fieldAddr 91 (Operand.tmp 61) 4), none, ann0⟩,
  ⟨(some 63), (Op.load 3 (Operand.tmp 62)), none, ann0⟩,
  ⟨(some 6), (Op.assign (Operand.tmp 63)), none, ann0⟩] none)
 .ret))
 .skip)) (.tidy [0] z (z + 0)))
 (.seq (.post (.reg [⟨(some 64), (Op.move (Operand.tmp 0)), none, ann0⟩,
  ⟨(some 65), (Op.nilCheck (Operand.tmp 64)), none, ann0⟩,
  ⟨(some 66), (Op.fieldAddr 91 (Operand.tmp 65) 3), none, ann0⟩,
  ⟨(some 67), (Op.load 3 (Operand.tmp 66)), none, ann0⟩,
  ⟨(some 68), (Op.binOp BinOp.add 3 (Operand.tmp 67) (Operand.const (Value.int IntKind.i64 1)) 3), none, ann0⟩,
  ⟨(some 69), (Op.nilCheck (Operand.tmp 64)), none, ann0⟩,
  ⟨(some 70), (Op.fieldAddr 91 (Operand.tmp 69) 3), none, ann0⟩,
  ⟨none, (Op.store 3 (Operand.tmp 70) (Operand.tmp 68)), none, ann0⟩] none) (.tidy [0] z (z + 0)))
 (.seq (.reg [⟨(some 71), (Op.move (Operand.tmp 0)), none, ann0⟩,
  ⟨(some 72), (Op.nilCheck (Operand.tmp 71)), none, ann0⟩,
  ⟨(some 73), (Op.fieldAddr 91 (Operand.tmp 72) 4), none, ann0⟩,
  ⟨none, (Op.store 3 (Operand.tmp 73) (Operand.const (Value.int IntKind.i64 1))), none, ann0⟩] none)
 (.seq (.post (.seq (.post (.reg [⟨(some 74), (Op.move (Operand.tmp 0)), none, ann0⟩,
  ⟨(some 75), (Op.nilCheck (Operand.tmp 74)), none, ann0⟩,
  ⟨(some 76), (Op.fieldAddr 91 (Operand.tmp 75) 3), none, ann0⟩,
  ⟨(some 77), (Op.load 3 (Operand.tmp 76)), none, ann0⟩,
  ⟨(some 78), (Op.move (Operand.tmp 0)), none, ann0⟩,
  ⟨(some 79), (Op.nilCheck (Operand.tmp 78)), none, ann0⟩,
  ⟨(some 80), (Op.fieldAddr 91 (Operand.tmp 79) 0), none, ann0⟩,
  ⟨(some 81), (Op.fieldAddr 23 (Operand.tmp 80) 7), none, ann0⟩,
  ⟨(some 82), (Op.load 3 (Operand.tmp 81)), none, ann0⟩,
  ⟨(some 83), (Op.binOp BinOp.gtr 3 (Operand.tmp 77) (Operand.tmp 82) 3), none, ann0⟩] (some [0, 1, 3, 7, 0, 16, 48, 112, 240, 511])) (.tidy [0, 83] z (z + 0)))
 (.cond (Operand.tmp 83) (.reg [⟨(some 84), (Op.move (Operand.tmp 0)), none, ann0⟩,
  ⟨(some 85), (Op.nilCheck (Operand.tmp 84)), none, ann0⟩,
  ⟨(some 86), (Op.fieldAddr 91 (Operand.tmp 85) 4), none, ann0⟩,
  ⟨none, (Op.store 3 (Operand.tmp 86) (Operand.const (Value.int IntKind.i64 2))), none, ann0⟩] none)
 .skip)) (.tidy [0] z (z + 0)))
 (.seq (.reg [⟨(some 87), (Op.move (Operand.tmp 0)), none, ann0⟩,
  ⟨(some 88), (Op.nilCheck (Operand.tmp 87)), none, ann0⟩,
  ⟨(some 89), (Op.fieldAddr 91 (Operand.tmp 88) 4), none, ann0⟩,
  ⟨(some 90), (Op.load 3 (Operand.tmp 89)), none, ann0⟩,
  ⟨(some 6), (Op.assign (Operand.tmp 90)), none, ann0⟩] none)
 .ret))))))))⟩
theorem F38 (z : Nat) : FOk Try.prog 38 (s38 z) := by unfold FOk; kernel_rfl
def c39_1 (z : Nat) : SC := .post (.seq (.seq (.reg [⟨(some 19), (Op.move (Operand.tmp 13)), none, ann0⟩,
  ⟨(some 20), (Op.move (Operand.tmp 2)), none, ann0⟩,
  ⟨(some 21), (Op.binOp BinOp.leq 3 (Operand.tmp 19) (Operand.tmp 20) 3), none, ann0⟩] none)
 (.cond (Operand.tmp 21) .skip
 (.exit 0)))
 (.seq (.post (.block 1 (.reg [⟨(some 24), (Op.move (Operand.tmp 11)), none, ann0⟩,
  ⟨(some 25), (Op.move (Operand.tmp 0)), none, ann0⟩,
  ⟨(some 26), (Op.move (Operand.tmp 13)), none, ann0⟩,
  ⟨(some 27), (Op.indexAddr 33 (Operand.tmp 25) (Operand.tmp 26)), none, ann0⟩,
  ⟨(some 28), (Op.load 3 (Operand.tmp 27)), none, ann0⟩,
  ⟨(some 29), (Op.binOp BinOp.add 3 (Operand.tmp 24) (Operand.tmp 28) 3), none, ann0⟩,
  ⟨(some 30), (Op.move (Operand.tmp 12)), none, ann0⟩,
  ⟨(some 31), (Op.move (Operand.tmp 1)), none, ann0⟩,
  ⟨(some 32), (Op.move (Operand.tmp 13)), none, ann0⟩,
  ⟨(some 33), (Op.indexAddr 33 (Operand.tmp 31) (Operand.tmp 32)), none, ann0⟩,
  ⟨(some 34), (Op.load 3 (Operand.tmp 33)), none, ann0⟩,
  ⟨(some 35), (Op.binOp BinOp.add 3 (Operand.tmp 30) (Operand.tmp 34) 3), none, ann0⟩,
  ⟨(some 11), (Op.assign (Operand.tmp 29)), none, ann0⟩,
  ⟨(some 12), (Op.assign (Operand.tmp 35)), none, ann0⟩] (some [0, 0, 0, 6, 14, 31, 0, 0, 0, 384, 896, 1984, 63, 8191]))) (.tidy [0, 1, 2, 4, 11, 12, 13] z (z + 0)))
 (.reg [⟨(some 22), (Op.move (Operand.tmp 13)), none, ann0⟩,
  ⟨(some 23), (Op.binOp BinOp.add 3 (Operand.tmp 22) (Operand.const (Value.int IntKind.i64 1)) 3), none, ann0⟩,
  ⟨(some 13), (Op.assign (Operand.tmp 23)), none, ann0⟩] none))) (.tidy [0, 1, 2, 4, 11, 12, 13] z (z + 0))
def s39_1 (z : Nat) : SC := c39_1 z
theorem e39_1 {C : Pg} {z : Nat} {st : St} {ks : List Fr} {K : Ex → St → Prop} : wpk C (s39_1 z) st ks K ↔ wpk C (c39_1 z) st ks K := Iff.rfl
def s39 (z : Nat) : SFn := ⟨5, 40, [(ResultVar.tmp 10)],
 (.seq (.reg [⟨(some 10), (Op.assign (Operand.const (Value.int IntKind.i64 0))), none, ann0⟩] none)
 (.seq (.reg [⟨(some 11), (Op.assign (Operand.const (Value.int IntKind.i64 0))), none, ann0⟩,
  ⟨(some 12), (Op.assign (Operand.const (Value.int IntKind.i64 0))), none, ann0⟩] none)
 (.seq (.post (.seq (.post (.reg [⟨(some 14), (Op.move (Operand.tmp 2)), none, ann0⟩,
  ⟨(some 15), (Op.move (Operand.tmp 3)), none, ann0⟩,
  ⟨(some 16), (Op.binOp BinOp.sub 3 (Operand.tmp 14) (Operand.tmp 15) 3), none, ann0⟩,
  ⟨(some 17), (Op.binOp BinOp.add 3 (Operand.tmp 16) (Operand.const (Value.int IntKind.i64 1)) 3), none, ann0⟩,
  ⟨(some 18), (Op.call { callee := (Callee.builtin Builtin.max), args := #[(Operand.const (Value.int IntKind.i64 0)), (Operand.tmp 17)], argTypes := #[3, 3] }), none, ann0⟩,
  ⟨(some 13), (Op.assign (Operand.tmp 18)), none, ann0⟩] none) (.tidy [0, 1, 2, 4, 11, 12, 13] z (z + 0)))
 (.post (.block 0 (.pre (.tidy [0, 1, 2, 4, 11, 12, 13] z (z + 0)) (.loop (s39_1 z)))) (.tidy [4, 11, 12] z (z + 0)))) (.tidy [4, 11, 12] z (z + 0)))
 (.seq (.reg [⟨(some 36), (Op.move (Operand.tmp 11)), none, ann0⟩,
  ⟨(some 37), (Op.move (Operand.tmp 12)), none, ann0⟩,
  ⟨(some 38), (Op.move (Operand.tmp 4)), none, ann0⟩,
  ⟨(some 39), (Op.call { callee := (Callee.value (Operand.func 25)), args := #[(Operand.tmp 36), (Operand.tmp 37), (Operand.tmp 38)], argTypes := #[3, 3, 3] }), none, ann0⟩,
  ⟨(some 10), (Op.assign (Operand.tmp 39)), none, ann0⟩] none)
 .ret))))⟩
theorem F39 (z : Nat) : FOk Try.prog 39 (s39 z) := by unfold FOk; kernel_rfl
def s40 (z : Nat) : SFn := ⟨3, 16, [(ResultVar.tmp 6)],
 (.seq (.reg [⟨(some 6), (Op.assign (Operand.const (Value.int IntKind.i64 0))), none, ann0⟩] none)
 (.seq (.seq (.reg [⟨(some 7), (Op.move (Operand.tmp 1)), none, ann0⟩,
  ⟨(some 8), (Op.binOp BinOp.eql 3 (Operand.tmp 7) (Operand.const (Value.int IntKind.i64 0)) 3), none, ann0⟩] none)
 (.cond (Operand.tmp 8) (.seq (.reg [⟨(some 6), (Op.assign (Operand.const (Value.int IntKind.i64 0))), none, ann0⟩] none)
 .ret)
 .skip))
 (.seq (.reg [⟨(some 9), (Op.move (Operand.tmp 0)), none, ann0⟩,
  ⟨(some 10), (Op.binOp BinOp.mul 3 (Operand.tmp 9) (Operand.const (Value.int IntKind.i64 1000000000)) 3), none, ann0⟩,
  ⟨(some 11), (Op.move (Operand.tmp 1)), none, ann0⟩,
  ⟨(some 12), (Op.move (Operand.tmp 2)), none, ann0⟩,
  ⟨(some 13), (Op.binOp BinOp.sub 3 (Operand.const (Value.int IntKind.i64 1000000)) (Operand.tmp 12) 3), none, ann0⟩,
  ⟨(some 14), (Op.binOp BinOp.mul 3 (Operand.tmp 11) (Operand.tmp 13) 3), none, ann0⟩,
  ⟨(some 15), (Op.binOp BinOp.quo 3 (Operand.tmp 10) (Operand.tmp 14) 3), none, ann0⟩,
  ⟨(some 6), (Op.assign (Operand.tmp 15)), none, ann0⟩] none)
 .ret)))⟩
theorem F40 (z : Nat) : FOk Try.prog 40 (s40 z) := by unfold FOk; kernel_rfl
def c41_1 (z : Nat) : SC := .post (.seq (.reg [⟨(some 9), (Op.binOp BinOp.lss 3 (Operand.tmp 8) (Operand.tmp 7) 3), none, ann0⟩] none)
 (.seq (.cond (Operand.tmp 9) .skip
 (.exit 0))
 (.seq (.post (.block 1 (.seq (.reg [⟨(some 10), (Op.move (Operand.tmp 8)), none, ann0⟩,
  ⟨(some 5), (Op.assign (Operand.tmp 10)), none, ann0⟩] none)
 (.seq (.post (.reg [⟨(some 11), (Op.move (Operand.tmp 1)), none, ann0⟩,
  ⟨(some 12), (Op.move (Operand.tmp 0)), none, ann0⟩,
  ⟨(some 13), (Op.move (Operand.tmp 5)), none, ann0⟩,
  ⟨(some 14), (Op.indexAddr 65 (Operand.tmp 12) (Operand.tmp 13)), none, ann0⟩,
  ⟨(some 15), (Op.load 70 (Operand.tmp 14)), none, ann0⟩,
  ⟨(some 16), (Op.call { callee := (Callee.value (Operand.tmp 11)), args := #[(Operand.tmp 15)], argTypes := #[70] }), none, ann0⟩] none) (.tidy [0, 1, 5, 7, 8, 16] z (z + 0)))
 (.cond (Operand.tmp 16) (.seq (.reg [⟨(some 17), (Op.move (Operand.tmp 5)), none, ann0⟩,
  ⟨(some 4), (Op.assign (Operand.tmp 17)), none, ann0⟩] none)
 .ret)
 .skip)))) (.tidy [0, 1, 7, 8] z (z + 0)))
 (.reg [⟨(some 18), (Op.binOp BinOp.add 3 (Operand.tmp 8) (Operand.const (Value.int IntKind.i64 1)) 3), none, ann0⟩,
  ⟨(some 8), (Op.move (Operand.tmp 18)), none, ann0⟩] none)))) (.tidy [0, 1, 7, 8] z (z + 0))
def s41_1 (z : Nat) : SC := c41_1 z
theorem e41_1 {C : Pg} {z : Nat} {st : St} {ks : List Fr} {K : Ex → St → Prop} : wpk C (s41_1 z) st ks K ↔ wpk C (c41_1 z) st ks K := Iff.rfl
def s41 (z : Nat) : SFn := ⟨2, 19, [(ResultVar.tmp 4)],
 (.seq (.reg [⟨(some 4), (Op.assign (Operand.const (Value.int IntKind.i64 0))), none, ann0⟩] none)
 (.seq (.post (.seq (.reg [⟨(some 6), (Op.move (Operand.tmp 0)), none, ann0⟩,
  ⟨(some 7), (Op.call { callee := (Callee.builtin Builtin.len), args := #[(Operand.tmp 6)], argTypes := #[65] }), none, ann0⟩,
  ⟨(some 8), (Op.move (Operand.const (Value.int IntKind.i64 0))), none, ann0⟩] none)
 (.post (.block 0 (.pre (.tidy [0, 1, 7, 8] z (z + 0)) (.loop (s41_1 z)))) (.tidy [] z (z + 0)))) (.tidy [] z (z + 0)))
 (.seq (.reg [⟨(some 4), (Op.assign (Operand.const (Value.int IntKind.i64 (-1)))), none, ann0⟩] none)
 .ret)))⟩
theorem F41 (z : Nat) : FOk Try.prog 41 (s41 z) := by unfold FOk; kernel_rfl
def s42 (z : Nat) : SFn := ⟨2, 22, [(ResultVar.tmp 3)],
 (.seq (.reg [⟨(some 2), (Op.box 70 (Operand.tmp 0)), none, ⟨1, false, false⟩⟩,
  ⟨(some 3), (Op.assign (Operand.const (Value.bool false))), none, ann0⟩] none)
 (.seq (.reg [⟨(some 4), (Op.fieldAddr 70 (Operand.tmp 2) 0), none, ann0⟩,
  ⟨(some 5), (Op.load 9 (Operand.tmp 4)), none, ann0⟩,
  ⟨(some 6), (Op.load 88 (Operand.tmp 1)), none, ann0⟩,
  ⟨(some 7), (Op.nilCheck (Operand.tmp 6)), none, ann0⟩,
  ⟨(some 8), (Op.fieldAddr 91 (Operand.tmp 7) 0), none, ann0⟩,
  ⟨(some 9), (Op.fieldAddr 23 (Operand.tmp 8) 1), none, ann0⟩,
  ⟨(some 10), (Op.load 9 (Operand.tmp 9)), none, ann0⟩,
  ⟨(some 11), (Op.binOp BinOp.eql 9 (Operand.tmp 5) (Operand.tmp 10) 9), none, ann0⟩,
  ⟨(some 12), (Op.move (Operand.tmp 11)), none, ann0⟩,
  ⟨(some 13), (Op.fieldAddr 70 (Operand.tmp 2) 1), (some (12, true)), ann0⟩,
  ⟨(some 14), (Op.load 9 (Operand.tmp 13)), (some (12, true)), ann0⟩,
  ⟨(some 15), (Op.load 88 (Operand.tmp 1)), (some (12, true)), ann0⟩,
  ⟨(some 16), (Op.nilCheck (Operand.tmp 15)), (some (12, true)), ann0⟩,
  ⟨(some 17), (Op.fieldAddr 91 (Operand.tmp 16) 0), (some (12, true)), ann0⟩,
  ⟨(some 18), (Op.fieldAddr 23 (Operand.tmp 17) 2), (some (12, true)), ann0⟩,
  ⟨(some 19), (Op.load 9 (Operand.tmp 18)), (some (12, true)), ann0⟩,
  ⟨(some 20), (Op.binOp BinOp.eql 9 (Operand.tmp 14) (Operand.tmp 19) 9), (some (12, true)), ann0⟩,
  ⟨(some 21), (Op.pick (Operand.tmp 12) (Operand.tmp 20) (Operand.const (Value.bool false))), none, ann0⟩,
  ⟨(some 3), (Op.assign (Operand.tmp 21)), none, ann0⟩] (some [0, 1, 0, 4, 12, 28, 60, 127, 255, 511, 1023, 511, 2559, 6655, 14847, 31231, 65535, 131071, 262143]))
 .ret))⟩
theorem F42 (z : Nat) : FOk Try.prog 42 (s42 z) := by unfold FOk; kernel_rfl
def s43 (z : Nat) : SFn := ⟨1, 8, [(ResultVar.tmp 2)],
 (.post (.seq (.reg [⟨(some 2), (Op.assign (Operand.const (Value.slice none 0 0))), none, ann0⟩] none)
 (.seq (.seq (.reg [⟨(some 3), (Op.move (Operand.tmp 0)), none, ann0⟩,
  ⟨(some 4), (Op.binOp BinOp.eql 97 (Operand.tmp 3) (Operand.const (Value.slice none 0 0)) 97), none, ann0⟩] none)
 (.cond (Operand.tmp 4) (.seq (.reg [⟨(some 2), (Op.assign (Operand.const (Value.slice none 0 0))), none, ann0⟩] none)
 .ret)
 .skip))
 (.seq (.post (.reg [⟨(some 5), (Op.buildSlice 97 0 #[]), none, ⟨1, false, false⟩⟩,
  ⟨(some 6), (Op.move (Operand.tmp 0)), none, ann0⟩,
  ⟨(some 7), (Op.call { callee := (Callee.builtin Builtin.append), args := #[(Operand.tmp 5), (Operand.tmp 6)], argTypes := #[97, 97] }), none, ann0⟩,
  ⟨(some 2), (Op.assign (Operand.tmp 7)), none, ann0⟩] none) (.frz 2))
 .ret))) (.frz 2))⟩
theorem F43 (z : Nat) : FOk Try.prog 43 (s43 z) := by unfold FOk; kernel_rfl
def c44_1 (z : Nat) : SC := .post (.seq (.reg [⟨(some 11), (Op.binOp BinOp.lss 3 (Operand.tmp 10) (Operand.tmp 9) 3), none, ann0⟩] none)
 (.seq (.cond (Operand.tmp 11) .skip
 (.exit 0))
 (.seq (.post (.block 1 (.seq (.reg [⟨(some 12), (Op.move (Operand.tmp 10)), none, ann0⟩,
  ⟨(some 7), (Op.assign (Operand.tmp 12)), none, ann0⟩] none)
 (.seq (.post (.reg [⟨(some 13), (Op.move (Operand.tmp 0)), none, ann0⟩,
  ⟨(some 14), (Op.move (Operand.tmp 7)), none, ann0⟩,
  ⟨(some 15), (Op.index 9 (Operand.tmp 13) (Operand.tmp 14)), none, ann0⟩,
  ⟨(some 16), (Op.move (Operand.tmp 1)), none, ann0⟩,
  ⟨(some 17), (Op.binOp BinOp.lss 5 (Operand.tmp 15) (Operand.tmp 16) 5), none, ann0⟩,
  ⟨(some 18), (Op.move (Operand.tmp 17)), none, ann0⟩,
  ⟨(some 19), (Op.move (Operand.tmp 0)), (some (18, false)), ann0⟩,
  ⟨(some 20), (Op.move (Operand.tmp 7)), (some (18, false)), ann0⟩,
  ⟨(some 21), (Op.index 9 (Operand.tmp 19) (Operand.tmp 20)), (some (18, false)), ann0⟩,
  ⟨(some 22), (Op.move (Operand.tmp 2)), (some (18, false)), ann0⟩,
  ⟨(some 23), (Op.binOp BinOp.gtr 5 (Operand.tmp 21) (Operand.tmp 22) 5), (some (18, false)), ann0⟩,
  ⟨(some 24), (Op.pick (Operand.tmp 18) (Operand.const (Value.bool true)) (Operand.tmp 23)), none, ann0⟩] none) (.tidy [0, 1, 2, 9, 10, 24] z (z + 0)))
 (.cond (Operand.tmp 24) (.seq (.reg [⟨(some 6), (Op.assign (Operand.const (Value.bool false))), none, ann0⟩] none)
 .ret)
 .skip)))) (.tidy [0, 1, 2, 9, 10] z (z + 0)))
 (.reg [⟨(some 25), (Op.binOp BinOp.add 3 (Operand.tmp 10) (Operand.const (Value.int IntKind.i64 1)) 3), none, ann0⟩,
  ⟨(some 10), (Op.move (Operand.tmp 25)), none, ann0⟩] none)))) (.tidy [0, 1, 2, 9, 10] z (z + 0))
def s44_1 (z : Nat) : SC := c44_1 z
theorem e44_1 {C : Pg} {z : Nat} {st : St} {ks : List Fr} {K : Ex → St → Prop} : wpk C (s44_1 z) st ks K ↔ wpk C (c44_1 z) st ks K := Iff.rfl
def s44 (z : Nat) : SFn := ⟨3, 26, [(ResultVar.tmp 6)],
 (.seq (.reg [⟨(some 6), (Op.assign (Operand.const (Value.bool false))), none, ann0⟩] none)
 (.seq (.post (.seq (.reg [⟨(some 8), (Op.move (Operand.tmp 0)), none, ann0⟩,
  ⟨(some 9), (Op.call { callee := (Callee.builtin Builtin.len), args := #[(Operand.tmp 8)], argTypes := #[9] }), none, ann0⟩,
  ⟨(some 10), (Op.move (Operand.const (Value.int IntKind.i64 0))), none, ann0⟩] none)
 (.post (.block 0 (.pre (.tidy [0, 1, 2, 9, 10] z (z + 0)) (.loop (s44_1 z)))) (.tidy [] z (z + 0)))) (.tidy [] z (z + 0)))
 (.seq (.reg [⟨(some 6), (Op.assign (Operand.const (Value.bool true))), none, ann0⟩] none)
 .ret)))⟩
theorem F44 (z : Nat) : FOk Try.prog 44 (s44 z) := by unfold FOk; kernel_rfl
def s45 (z : Nat) : SFn := ⟨1, 18, [(ResultVar.tmp 2)],
 (.seq (.reg [⟨(some 1), (Op.box 32 (Operand.tmp 0)), none, ⟨1, false, false⟩⟩,
  ⟨(some 2), (Op.assign (Operand.const (Value.bool false))), none, ann0⟩] none)
 (.seq (.reg [⟨(some 3), (Op.load 32 (Operand.tmp 1)), none, ann0⟩,
  ⟨(some 4), (Op.call { callee := (Callee.value (Operand.func 49)), args := #[(Operand.tmp 3)], argTypes := #[32] }), none, ann0⟩,
  ⟨(some 5), (Op.binOp BinOp.eql 27 (Operand.tmp 4) (Operand.const (Value.int IntKind.i64 0)) 27), none, ann0⟩,
  ⟨(some 6), (Op.move (Operand.tmp 5)), none, ann0⟩,
  ⟨(some 7), (Op.fieldAddr 32 (Operand.tmp 1) 0), (some (6, true)), ann0⟩,
  ⟨(some 8), (Op.load 3 (Operand.tmp 7)), (some (6, true)), ann0⟩,
  ⟨(some 9), (Op.binOp BinOp.gtr 3 (Operand.tmp 8) (Operand.const (Value.int IntKind.i64 0)) 3), (some (6, true)), ann0⟩,
  ⟨(some 10), (Op.pick (Operand.tmp 6) (Operand.tmp 9) (Operand.const (Value.bool false))), none, ann0⟩,
  ⟨(some 11), (Op.move (Operand.tmp 10)), none, ann0⟩,
  ⟨(some 12), (Op.fieldAddr 32 (Operand.tmp 1) 0), (some (11, true)), ann0⟩,
  ⟨(some 13), (Op.load 3 (Operand.tmp 12)), (some (11, true)), ann0⟩,
  ⟨(some 14), (Op.fieldAddr 32 (Operand.tmp 1) 1), (some (11, true)), ann0⟩,
  ⟨(some 15), (Op.load 3 (Operand.tmp 14)), (some (11, true)), ann0⟩,
  ⟨(some 16), (Op.binOp BinOp.leq 3 (Operand.tmp 13) (Operand.tmp 15) 3), (some (11, true)), ann0⟩,
  ⟨(some 17), (Op.pick (Operand.tmp 11) (Operand.tmp 16) (Operand.const (Value.bool false))), none, ann0⟩,
  ⟨(some 2), (Op.assign (Operand.tmp 17)), none, ann0⟩] none)
 .ret))⟩
theorem F45 (z : Nat) : FOk Try.prog 45 (s45 z) := by unfold FOk; kernel_rfl
def s46 (z : Nat) : SFn := ⟨2, 9, [(ResultVar.tmp 4)],
 (.seq (.reg [⟨(some 4), (Op.assign (Operand.const (Value.bool false))), none, ann0⟩] none)
 (.seq (.reg [⟨(some 5), (Op.move (Operand.tmp 0)), none, ann0⟩,
  ⟨(some 6), (Op.move (Operand.tmp 1)), none, ann0⟩,
  ⟨(some 7), (Op.call { callee := (Callee.value (Operand.func 50)), args := #[(Operand.tmp 5), (Operand.tmp 6)], argTypes := #[33, 86] }), none, ann0⟩,
  ⟨(some 8), (Op.binOp BinOp.geq 3 (Operand.tmp 7) (Operand.const (Value.int IntKind.i64 0)) 3), none, ann0⟩,
  ⟨(some 4), (Op.assign (Operand.tmp 8)), none, ann0⟩] none)
 .ret))⟩
theorem F46 (z : Nat) : FOk Try.prog 46 (s46 z) := by unfold FOk; kernel_rfl
def s47 (z : Nat) : SFn := ⟨1, 9, [(ResultVar.tmp 2)],
 (.seq (.reg [⟨(some 2), (Op.assign (Operand.const (Value.bool false))), none, ann0⟩] none)
 (.seq (.reg [⟨(some 3), (Op.move (Operand.tmp 0)), none, ann0⟩,
  ⟨(some 4), (Op.binOp BinOp.lss 3 (Operand.tmp 3) (Operand.const (Value.int IntKind.i64 0)) 3), none, ann0⟩,
  ⟨(some 5), (Op.move (Operand.tmp 4)), none, ann0⟩,
  ⟨(some 6), (Op.move (Operand.tmp 0)), (some (5, false)), ann0⟩,
  ⟨(some 7), (Op.binOp BinOp.gtr 3 (Operand.tmp 6) (Operand.const (Value.int IntKind.i64 1099511627776)) 3), (some (5, false)), ann0⟩,
  ⟨(some 8), (Op.pick (Operand.tmp 5) (Operand.const (Value.bool true)) (Operand.tmp 7)), none, ann0⟩,
  ⟨(some 2), (Op.assign (Operand.tmp 8)), none, ann0⟩] none)
 .ret))⟩
theorem F47 (z : Nat) : FOk Try.prog 47 (s47 z) := by unfold FOk; kernel_rfl
def c48_1 (z : Nat) : SC := .post (.seq (.reg [⟨(some 15), (Op.binOp BinOp.lss 3 (Operand.tmp 14) (Operand.tmp 13) 3), none, ann0⟩] none)
 (.seq (.cond (Operand.tmp 15) .skip
 (.exit 0))
 (.seq (.post (.block 1 (.seq (.reg [⟨(some 16), (Op.move (Operand.tmp 14)), none, ann0⟩,
  ⟨(some 6), (Op.assign (Operand.tmp 16)), none, ann0⟩] none)
 (.seq (.post (.reg [⟨(some 17), (Op.move (Operand.tmp 0)), none, ann0⟩,
  ⟨(some 18), (Op.move (Operand.tmp 0)), none, ann0⟩,
  ⟨(some 19), (Op.nilCheck (Operand.tmp 18)), none, ann0⟩,
  ⟨(some 20), (Op.fieldAddr 91 (Operand.tmp 19) 2), none, ann0⟩,
  ⟨(some 21), (Op.load 3 (Operand.tmp 20)), none, ann0⟩,
  ⟨(some 22), (Op.binOp BinOp.sub 3 (Operand.tmp 21) (Operand.const (Value.int IntKind.i64 1)) 3), none, ann0⟩,
  ⟨(some 23), (Op.move (Operand.tmp 6)), none, ann0⟩,
  ⟨(some 24), (Op.binOp BinOp.sub 3 (Operand.tmp 22) (Operand.tmp 23) 3), none, ann0⟩,
  ⟨(some 25), (Op.binOp BinOp.rem 3 (Operand.tmp 24) (Operand.const (Value.int IntKind.i64 256)) 3), none, ann0⟩,
  ⟨(some 26), (Op.nilCheck (Operand.tmp 17)), none, ann0⟩,
  ⟨(some 27), (Op.fieldAddr 91 (Operand.tmp 26) 1), none, ann0⟩,
  ⟨(some 28), (Op.indexAddr 89 (Operand.tmp 27) (Operand.tmp 25)), none, ann0⟩,
  ⟨(some 29), (Op.load 70 (Operand.tmp 28)), none, ann0⟩,
  ⟨(some 7), (Op.alloc 70), none, ⟨1, false, false⟩⟩,
  ⟨none, (Op.store 70 (Operand.tmp 7) (Operand.tmp 29)), none, ann0⟩] (some [0, 0, 2, 6, 14, 30, 0, 126, 254, 1, 513, 2047, 4095, 0, 16383])) (.tidy [0, 5, 7, 13, 14] z (z + 2)))
 (.reg [⟨(some 30), (Op.fieldAddr 70 (Operand.tmp 5) 2), none, ann0⟩,
  ⟨(some 31), (Op.load 3 (Operand.tmp 30)), none, ann0⟩,
  ⟨(some 32), (Op.fieldAddr 70 (Operand.tmp 7) 2), none, ann0⟩,
  ⟨(some 33), (Op.load 3 (Operand.tmp 32)), none, ann0⟩,
  ⟨(some 34), (Op.binOp BinOp.add 3 (Operand.tmp 31) (Operand.tmp 33) 3), none, ann0⟩,
  ⟨(some 35), (Op.fieldAddr 70 (Operand.tmp 5) 3), none, ann0⟩,
  ⟨(some 36), (Op.load 3 (Operand.tmp 35)), none, ann0⟩,
  ⟨(some 37), (Op.fieldAddr 70 (Operand.tmp 7) 3), none, ann0⟩,
  ⟨(some 38), (Op.load 3 (Operand.tmp 37)), none, ann0⟩,
  ⟨(some 39), (Op.binOp BinOp.add 3 (Operand.tmp 36) (Operand.tmp 38) 3), none, ann0⟩,
  ⟨(some 40), (Op.fieldAddr 70 (Operand.tmp 5) 2), none, ann0⟩,
  ⟨none, (Op.store 3 (Operand.tmp 40) (Operand.tmp 34)), none, ann0⟩,
  ⟨(some 41), (Op.fieldAddr 70 (Operand.tmp 5) 3), none, ann0⟩,
  ⟨none, (Op.store 3 (Operand.tmp 41) (Operand.tmp 39)), none, ann0⟩] (some [0, 1, 0, 4, 15, 0, 32, 0, 128, 480, 127, 1151, 4095, 8191]))))) (.tidy [0, 5, 13, 14] z (z + 2)))
 (.reg [⟨(some 42), (Op.binOp BinOp.add 3 (Operand.tmp 14) (Operand.const (Value.int IntKind.i64 1)) 3), none, ann0⟩,
  ⟨(some 14), (Op.move (Operand.tmp 42)), none, ann0⟩] none)))) (.tidy [0, 5, 13, 14] z (z + 1))
def s48_1 (z : Nat) : SC := c48_1 z
theorem e48_1 {C : Pg} {z : Nat} {st : St} {ks : List Fr} {K : Ex → St → Prop} : wpk C (s48_1 z) st ks K ↔ wpk C (c48_1 z) st ks K := Iff.rfl
def s48 (z : Nat) : SFn := ⟨2, 53, [(ResultVar.tmp 4)],
 (.seq (.reg [⟨(some 4), (Op.assign (Operand.const (Value.int IntKind.i64 0))), none, ann0⟩] none)
 (.seq (.reg [⟨(some 5), (Op.alloc 70), none, ⟨1, false, false⟩⟩] none)
 (.seq (.post (.seq (.post (.reg [⟨(some 8), (Op.move (Operand.tmp 1)), none, ann0⟩,
  ⟨(some 9), (Op.move (Operand.tmp 0)), none, ann0⟩,
  ⟨(some 10), (Op.nilCheck (Operand.tmp 9)), none, ann0⟩,
  ⟨(some 11), (Op.fieldAddr 91 (Operand.tmp 10) 2), none, ann0⟩,
  ⟨(some 12), (Op.load 3 (Operand.tmp 11)), none, ann0⟩,
  ⟨(some 13), (Op.call { callee := (Callee.builtin Builtin.min), args := #[(Operand.tmp 8), (Operand.tmp 12)], argTypes := #[3, 3] }), none, ann0⟩,
  ⟨(some 14), (Op.move (Operand.const (Value.int IntKind.i64 0))), none, ann0⟩] none) (.tidy [0, 5, 13, 14] z (z + 1)))
 (.post (.block 0 (.pre (.tidy [0, 5, 13, 14] z (z + 1)) (.loop (s48_1 z)))) (.tidy [0, 5] z (z + 1)))) (.tidy [0, 5] z (z + 1)))
 (.seq (.reg [⟨(some 43), (Op.fieldAddr 70 (Operand.tmp 5) 2), none, ann0⟩,
  ⟨(some 44), (Op.load 3 (Operand.tmp 43)), none, ann0⟩,
  ⟨(some 45), (Op.fieldAddr 70 (Operand.tmp 5) 3), none, ann0⟩,
  ⟨(some 46), (Op.load 3 (Operand.tmp 45)), none, ann0⟩,
  ⟨(some 47), (Op.move (Operand.tmp 0)), none, ann0⟩,
  ⟨(some 48), (Op.nilCheck (Operand.tmp 47)), none, ann0⟩,
  ⟨(some 49), (Op.fieldAddr 91 (Operand.tmp 48) 0), none, ann0⟩,
  ⟨(some 50), (Op.fieldAddr 23 (Operand.tmp 49) 3), none, ann0⟩,
  ⟨(some 51), (Op.load 3 (Operand.tmp 50)), none, ann0⟩,
  ⟨(some 52), (Op.call { callee := (Callee.value (Operand.func 40)), args := #[(Operand.tmp 44), (Operand.tmp 46), (Operand.tmp 51)], argTypes := #[3, 3, 3] }), none, ann0⟩,
  ⟨(some 4), (Op.assign (Operand.tmp 52)), none, ann0⟩] (some [0, 1, 0, 4, 0, 16, 48, 112, 240, 511, 1023]))
 .ret))))⟩
theorem F48 (z : Nat) : FOk Try.prog 48 (s48 z) := by unfold FOk; kernel_rfl
def s49 (z : Nat) : SFn := ⟨1, 20, [(ResultVar.tmp 2)],
 (.seq (.reg [⟨(some 1), (Op.box 32 (Operand.tmp 0)), none, ⟨1, false, false⟩⟩,
  ⟨(some 2), (Op.assign (Operand.const (Value.int IntKind.i64 0))), none, ann0⟩] none)
 (.seq (.post (.seq (.post (.reg [⟨(some 6), (Op.fieldAddr 32 (Operand.tmp 1) 0), none, ann0⟩,
  ⟨(some 7), (Op.load 3 (Operand.tmp 6)), none, ann0⟩,
  ⟨(some 8), (Op.fieldAddr 32 (Operand.tmp 1) 1), none, ann0⟩,
  ⟨(some 9), (Op.load 3 (Operand.tmp 8)), none, ann0⟩,
  ⟨(some 10), (Op.call { callee := (Callee.value (Operand.func 51)), args := #[(Operand.tmp 7), (Operand.tmp 9)], argTypes := #[3, 3] }), none, ann0⟩,
  ⟨(some 5), (Op.move (Operand.tmp 10)), none, ann0⟩,
  ⟨(some 11), (Op.extract (Operand.tmp 5) 0), none, ann0⟩,
  ⟨(some 12), (Op.extract (Operand.tmp 5) 1), none, ann0⟩,
  ⟨(some 3), (Op.alloc 32), none, ⟨1, false, false⟩⟩,
  ⟨none, (Op.store 32 (Operand.tmp 3) (Operand.tmp 11)), none, ann0⟩,
  ⟨(some 4), (Op.assign (Operand.tmp 12)), none, ann0⟩] none) (.tidy [1, 3, 4] z (z + 2)))
 (.seq (.post (.reg [⟨(some 13), (Op.move (Operand.tmp 4)), none, ann0⟩,
  ⟨(some 14), (Op.binOp BinOp.neq 27 (Operand.tmp 13) (Operand.const (Value.int IntKind.i64 0)) 27), none, ann0⟩,
  ⟨(some 15), (Op.move (Operand.tmp 14)), none, ann0⟩,
  ⟨(some 16), (Op.load 32 (Operand.tmp 3)), (some (15, false)), ann0⟩,
  ⟨(some 17), (Op.load 32 (Operand.tmp 1)), (some (15, false)), ann0⟩,
  ⟨(some 18), (Op.binOp BinOp.neq 32 (Operand.tmp 16) (Operand.tmp 17) 32), (some (15, false)), ann0⟩,
  ⟨(some 19), (Op.pick (Operand.tmp 15) (Operand.const (Value.bool true)) (Operand.tmp 18)), none, ann0⟩] none) (.tidy [19] z (z + 2)))
 (.cond (Operand.tmp 19) (.seq (.reg [⟨(some 2), (Op.assign (Operand.const (Value.int IntKind.i64 3))), none, ann0⟩] none)
 .ret)
 .skip))) (.tidy [] z (z + 2)))
 (.seq (.reg [⟨(some 2), (Op.assign (Operand.const (Value.int IntKind.i64 0))), none, ann0⟩] none)
 .ret)))⟩
theorem F49 (z : Nat) : FOk Try.prog 49 (s49 z) := by unfold FOk; kernel_rfl
def c50_1 (z : Nat) : SC := .post (.seq (.reg [⟨(some 9), (Op.binOp BinOp.lss 3 (Operand.tmp 8) (Operand.tmp 7) 3), none, ann0⟩] none)
 (.seq (.cond (Operand.tmp 9) .skip
 (.exit 0))
 (.seq (.post (.block 1 (.seq (.reg [⟨(some 10), (Op.move (Operand.tmp 8)), none, ann0⟩,
  ⟨(some 5), (Op.assign (Operand.tmp 10)), none, ann0⟩] none)
 (.seq (.post (.reg [⟨(some 11), (Op.move (Operand.tmp 1)), none, ann0⟩,
  ⟨(some 12), (Op.move (Operand.tmp 0)), none, ann0⟩,
  ⟨(some 13), (Op.move (Operand.tmp 5)), none, ann0⟩,
  ⟨(some 14), (Op.indexAddr 33 (Operand.tmp 12) (Operand.tmp 13)), none, ann0⟩,
  ⟨(some 15), (Op.load 3 (Operand.tmp 14)), none, ann0⟩,
  ⟨(some 16), (Op.call { callee := (Callee.value (Operand.tmp 11)), args := #[(Operand.tmp 15)], argTypes := #[3] }), none, ann0⟩] none) (.tidy [0, 1, 5, 7, 8, 16] z (z + 0)))
 (.cond (Operand.tmp 16) (.seq (.reg [⟨(some 17), (Op.move (Operand.tmp 5)), none, ann0⟩,
  ⟨(some 4), (Op.assign (Operand.tmp 17)), none, ann0⟩] none)
 .ret)
 .skip)))) (.tidy [0, 1, 7, 8] z (z + 0)))
 (.reg [⟨(some 18), (Op.binOp BinOp.add 3 (Operand.tmp 8) (Operand.const (Value.int IntKind.i64 1)) 3), none, ann0⟩,
  ⟨(some 8), (Op.move (Operand.tmp 18)), none, ann0⟩] none)))) (.tidy [0, 1, 7, 8] z (z + 0))
def s50_1 (z : Nat) : SC := c50_1 z
theorem e50_1 {C : Pg} {z : Nat} {st : St} {ks : List Fr} {K : Ex → St → Prop} : wpk C (s50_1 z) st ks K ↔ wpk C (c50_1 z) st ks K := Iff.rfl
def s50 (z : Nat) : SFn := ⟨2, 19, [(ResultVar.tmp 4)],
 (.seq (.reg [⟨(some 4), (Op.assign (Operand.const (Value.int IntKind.i64 0))), none, ann0⟩] none)
 (.seq (.post (.seq (.reg [⟨(some 6), (Op.move (Operand.tmp 0)), none, ann0⟩,
  ⟨(some 7), (Op.call { callee := (Callee.builtin Builtin.len), args := #[(Operand.tmp 6)], argTypes := #[33] }), none, ann0⟩,
  ⟨(some 8), (Op.move (Operand.const (Value.int IntKind.i64 0))), none, ann0⟩] none)
 (.post (.block 0 (.pre (.tidy [0, 1, 7, 8] z (z + 0)) (.loop (s50_1 z)))) (.tidy [] z (z + 0)))) (.tidy [] z (z + 0)))
 (.seq (.reg [⟨(some 4), (Op.assign (Operand.const (Value.int IntKind.i64 (-1)))), none, ann0⟩] none)
 .ret)))⟩
theorem F50 (z : Nat) : FOk Try.prog 50 (s50 z) := by unfold FOk; kernel_rfl
def s51 (z : Nat) : SFn := ⟨2, 48, [(ResultVar.cell 4 32), (ResultVar.tmp 5)],
 (.seq (.reg [⟨(some 4), (Op.alloc 32), none, ⟨1, false, false⟩⟩,
  ⟨(some 5), (Op.assign (Operand.const (Value.int IntKind.i64 0))), none, ann0⟩] none)
 (.seq (.post (.seq (.reg [⟨(some 10), (Op.move (Operand.tmp 1)), none, ann0⟩,
  ⟨(some 11), (Op.binOp BinOp.eql 3 (Operand.tmp 10) (Operand.const (Value.int IntKind.i64 0)) 3), none, ann0⟩] none)
 (.cond (Operand.tmp 11) (.seq (.reg [⟨(some 12), (Op.build 32 #[]), none, ann0⟩,
  ⟨none, (Op.store 32 (Operand.tmp 4) (Operand.tmp 12)), none, ann0⟩,
  ⟨(some 5), (Op.assign (Operand.const (Value.int IntKind.i64 19))), none, ann0⟩] none)
 .ret)
 .skip)) (.tidy [0, 1, 4] z (z + 1)))
 (.seq (.reg [⟨(some 13), (Op.move (Operand.tmp 0)), none, ann0⟩,
  ⟨(some 14), (Op.call { callee := (Callee.value (Operand.func 52)), args := #[(Operand.tmp 13)], argTypes := #[3] }), none, ann0⟩,
  ⟨(some 15), (Op.move (Operand.tmp 1)), none, ann0⟩,
  ⟨(some 16), (Op.call { callee := (Callee.value (Operand.func 52)), args := #[(Operand.tmp 15)], argTypes := #[3] }), none, ann0⟩,
  ⟨(some 6), (Op.assign (Operand.tmp 14)), none, ann0⟩,
  ⟨(some 7), (Op.assign (Operand.tmp 16)), none, ann0⟩] none)
 (.seq (.post (.reg [⟨(some 17), (Op.move (Operand.tmp 6)), none, ann0⟩,
  ⟨(some 18), (Op.move (Operand.tmp 7)), none, ann0⟩,
  ⟨(some 19), (Op.call { callee := (Callee.value (Operand.func 53)), args := #[(Operand.tmp 17), (Operand.tmp 18)], argTypes := #[112, 112] }), none, ann0⟩,
  ⟨(some 8), (Op.assign (Operand.tmp 19)), none, ann0⟩] none) (.tidy [0, 1, 4, 6, 7, 8] z (z + 1)))
 (.seq (.post (.reg [⟨(some 20), (Op.move (Operand.tmp 6)), none, ann0⟩,
  ⟨(some 21), (Op.move (Operand.tmp 8)), none, ann0⟩,
  ⟨(some 22), (Op.binOp BinOp.quo 112 (Operand.tmp 20) (Operand.tmp 21) 112), none, ann0⟩,
  ⟨(some 23), (Op.move (Operand.tmp 7)), none, ann0⟩,
  ⟨(some 24), (Op.move (Operand.tmp 8)), none, ann0⟩,
  ⟨(some 25), (Op.binOp BinOp.quo 112 (Operand.tmp 23) (Operand.tmp 24) 112), none, ann0⟩,
  ⟨(some 6), (Op.assign (Operand.tmp 22)), none, ann0⟩,
  ⟨(some 7), (Op.assign (Operand.tmp 25)), none, ann0⟩] (some [0, 0, 3, 0, 0, 24, 7, 127])) (.tidy [0, 1, 4, 6, 7] z (z + 1)))
 (.seq (.post (.seq (.reg [⟨(some 26), (Op.move (Operand.tmp 6)), none, ann0⟩,
  ⟨(some 27), (Op.binOp BinOp.gtr 112 (Operand.tmp 26) (Operand.const (Value.int IntKind.u64 1048576)) 112), none, ann0⟩,
  ⟨(some 28), (Op.move (Operand.tmp 27)), none, ann0⟩,
  ⟨(some 29), (Op.move (Operand.tmp 7)), (some (28, false)), ann0⟩,
  ⟨(some 30), (Op.binOp BinOp.gtr 112 (Operand.tmp 29) (Operand.const (Value.int IntKind.u64 1048576)) 112), (some (28, false)), ann0⟩,
  ⟨(some 31), (Op.pick (Operand.tmp 28) (Operand.const (Value.bool true)) (Operand.tmp 30)), none, ann0⟩] none)
 (.cond (Operand.tmp 31) (.seq (.reg [⟨(some 32), (Op.build 32 #[]), none, ann0⟩,
  ⟨none, (Op.store 32 (Operand.tmp 4) (Operand.tmp 32)), none, ann0⟩,
  ⟨(some 5), (Op.assign (Operand.const (Value.int IntKind.i64 20))), none, ann0⟩] none)
 .ret)
 .skip)) (.tidy [0, 1, 4, 6, 7] z (z + 1)))
 (.seq (.reg [⟨(some 33), (Op.move (Operand.tmp 6)), none, ann0⟩,
  ⟨(some 34), (Op.convert 112 3 (Operand.tmp 33)), none, ann0⟩,
  ⟨(some 35), (Op.move (Operand.tmp 7)), none, ann0⟩,
  ⟨(some 36), (Op.convert 112 3 (Operand.tmp 35)), none, ann0⟩,
  ⟨(some 37), (Op.build 32 #[(0, (Operand.tmp 34)), (1, (Operand.tmp 36))]), none, ann0⟩,
  ⟨(some 9), (Op.alloc 32), none, ⟨1, false, false⟩⟩,
  ⟨none, (Op.store 32 (Operand.tmp 9) (Operand.tmp 37)), none, ann0⟩] none)
 (.seq (.post (.seq (.post (.reg [⟨(some 38), (Op.move (Operand.tmp 0)), none, ann0⟩,
  ⟨(some 39), (Op.binOp BinOp.lss 3 (Operand.tmp 38) (Operand.const (Value.int IntKind.i64 0)) 3), none, ann0⟩,
  ⟨(some 40), (Op.move (Operand.tmp 1)), none, ann0⟩,
  ⟨(some 41), (Op.binOp BinOp.lss 3 (Operand.tmp 40) (Operand.const (Value.int IntKind.i64 0)) 3), none, ann0⟩,
  ⟨(some 42), (Op.binOp BinOp.neq 4 (Operand.tmp 39) (Operand.tmp 41) 4), none, ann0⟩] none) (.tidy [4, 9, 42] z (z + 2)))
 (.cond (Operand.tmp 42) (.reg [⟨(some 43), (Op.fieldAddr 32 (Operand.tmp 9) 0), none, ann0⟩,
  ⟨(some 44), (Op.load 3 (Operand.tmp 43)), none, ann0⟩,
  ⟨(some 45), (Op.unOp UnOp.neg 3 (Operand.tmp 44)), none, ann0⟩,
  ⟨(some 46), (Op.fieldAddr 32 (Operand.tmp 9) 0), none, ann0⟩,
  ⟨none, (Op.store 3 (Operand.tmp 46) (Operand.tmp 45)), none, ann0⟩] none)
 .skip)) (.tidy [4, 9] z (z + 2)))
 (.seq (.reg [⟨(some 47), (Op.load 32 (Operand.tmp 9)), none, ann0⟩,
  ⟨none, (Op.store 32 (Operand.tmp 4) (Operand.tmp 47)), none, ann0⟩,
  ⟨(some 5), (Op.assign (Operand.const (Value.int IntKind.i64 0))), none, ann0⟩] none)
 .ret)))))))))⟩
theorem F51 (z : Nat) : FOk Try.prog 51 (s51 z) := by unfold FOk; kernel_rfl
def s52 (z : Nat) : SFn := ⟨1, 10, [(ResultVar.tmp 2)],
 (.seq (.reg [⟨(some 2), (Op.assign (Operand.const (Value.int IntKind.u64 0))), none, ann0⟩] none)
 (.seq (.post (.seq (.reg [⟨(some 3), (Op.move (Operand.tmp 0)), none, ann0⟩,
  ⟨(some 4), (Op.binOp BinOp.lss 3 (Operand.tmp 3) (Operand.const (Value.int IntKind.i64 0)) 3), none, ann0⟩] none)
 (.cond (Operand.tmp 4) (.seq (.reg [⟨(some 5), (Op.move (Operand.tmp 0)), none, ann0⟩,
  ⟨(some 6), (Op.convert 3 112 (Operand.tmp 5)), none, ann0⟩,
  ⟨(some 7), (Op.unOp UnOp.neg 112 (Operand.tmp 6)), none, ann0⟩,
  ⟨(some 2), (Op.assign (Operand.tmp 7)), none, ann0⟩] none)
 .ret)
 .skip)) (.tidy [0] z (z + 0)))
 (.seq (.reg [⟨(some 8), (Op.move (Operand.tmp 0)), none, ann0⟩,
  ⟨(some 9), (Op.convert 3 112 (Operand.tmp 8)), none, ann0⟩,
  ⟨(some 2), (Op.assign (Operand.tmp 9)), none, ann0⟩] none)
 .ret)))⟩
theorem F52 (z : Nat) : FOk Try.prog 52 (s52 z) := by unfold FOk; kernel_rfl
def c53_1 (z : Nat) : SC := .post (.seq (.seq (.reg [⟨(some 5), (Op.move (Operand.tmp 1)), none, ann0⟩,
  ⟨(some 6), (Op.binOp BinOp.neq 112 (Operand.tmp 5) (Operand.const (Value.int IntKind.u64 0)) 112), none, ann0⟩] none)
 (.cond (Operand.tmp 6) .skip
 (.exit 0)))
 (.block 1 (.reg [⟨(some 7), (Op.move (Operand.tmp 1)), none, ann0⟩,
  ⟨(some 8), (Op.move (Operand.tmp 0)), none, ann0⟩,
  ⟨(some 9), (Op.move (Operand.tmp 1)), none, ann0⟩,
  ⟨(some 10), (Op.binOp BinOp.rem 112 (Operand.tmp 8) (Operand.tmp 9) 112), none, ann0⟩,
  ⟨(some 0), (Op.assign (Operand.tmp 7)), none, ann0⟩,
  ⟨(some 1), (Op.assign (Operand.tmp 10)), none, ann0⟩] (some [0, 0, 0, 6, 3, 31])))) (.tidy [0, 1] z (z + 0))
def s53_1 (z : Nat) : SC := c53_1 z
theorem e53_1 {C : Pg} {z : Nat} {st : St} {ks : List Fr} {K : Ex → St → Prop} : wpk C (s53_1 z) st ks K ↔ wpk C (c53_1 z) st ks K := Iff.rfl
def s53 (z : Nat) : SFn := ⟨2, 12, [(ResultVar.tmp 4)],
 (.seq (.reg [⟨(some 4), (Op.assign (Operand.const (Value.int IntKind.u64 0))), none, ann0⟩] none)
 (.seq (.post (.block 0 (.pre (.tidy [0, 1] z (z + 0)) (.loop (s53_1 z)))) (.tidy [0] z (z + 0)))
 (.seq (.reg [⟨(some 11), (Op.move (Operand.tmp 0)), none, ann0⟩,
  ⟨(some 4), (Op.assign (Operand.tmp 11)), none, ann0⟩] none)
 .ret)))⟩
theorem F53 (z : Nat) : FOk Try.prog 53 (s53 z) := by unfold FOk; kernel_rfl
def AL (z : Nat) : List (Nat × SFn) := [(10, s10 z), (12, s12 z), (13, s13 z), (14, s14 z), (15, s15 z), (16, s16 z), (17, s17 z), (18, s18 z), (19, s19 z), (20, s20 z), (21, s21 z), (22, s22 z), (23, s23 z), (24, s24 z), (25, s25 z), (26, s26 z), (28, s28 z), (29, s29 z), (30, s30 z), (31, s31 z), (32, s32 z), (33, s33 z), (34, s34 z), (35, s35 z), (36, s36 z), (37, s37 z), (38, s38 z), (39, s39 z), (40, s40 z), (41, s41 z), (42, s42 z), (43, s43 z), (44, s44 z), (45, s45 z), (46, s46 z), (47, s47 z), (48, s48 z), (49, s49 z), (50, s50 z), (51, s51 z), (52, s52 z), (53, s53 z)]
def AA (f : FuncId) (_ : List AV) (obs : List AObj) : Option SFn := getF f (AL obs.length)
theorem AL_ok (z : Nat) : AllF Try.prog (AL z) := by
  simp only [AL, AllF]
  exact ⟨F10 z, F12 z, F13 z, F14 z, F15 z, F16 z, F17 z, F18 z, F19 z, F20 z, F21 z, F22 z, F23 z, F24 z, F25 z, F26 z, F28 z, F29 z, F30 z, F31 z, F32 z, F33 z, F34 z, F35 z, F36 z, F37 z, F38 z, F39 z, F40 z, F41 z, F42 z, F43 z, F44 z, F45 z, F46 z, F47 z, F48 z, F49 z, F50 z, F51 z, F52 z, F53 z, trivial⟩
theorem AA_ok (f : FuncId) (xs : List AV) (obs : List AObj) (s : SFn) (h : AA f xs obs = some s) : (Try.prog.funcs[f]?).bind slimFn = some (s.erase Try.prog) := getF_ok (AL_ok _) h
def LL : List (Nat × SLoop) := []
def LT (k : Nat) : Option SLoop := getLp k LL
theorem LT_ok (k : Nat) (l : SLoop) (h : LT k = some l) : loopS Try.prog k = some (l.erase Try.prog) := getLp_ok (t := LL) (by simp only [LL, AllL]) h
theorem A10 (xs : List AV) (obs : List AObj) : AA 10 xs obs = some (s10 obs.length) := rfl
theorem A12 (xs : List AV) (obs : List AObj) : AA 12 xs obs = some (s12 obs.length) := rfl
theorem A13 (xs : List AV) (obs : List AObj) : AA 13 xs obs = some (s13 obs.length) := rfl
theorem A14 (xs : List AV) (obs : List AObj) : AA 14 xs obs = some (s14 obs.length) := rfl
theorem A15 (xs : List AV) (obs : List AObj) : AA 15 xs obs = some (s15 obs.length) := rfl
theorem A16 (xs : List AV) (obs : List AObj) : AA 16 xs obs = some (s16 obs.length) := rfl
theorem A17 (xs : List AV) (obs : List AObj) : AA 17 xs obs = some (s17 obs.length) := rfl
theorem A18 (xs : List AV) (obs : List AObj) : AA 18 xs obs = some (s18 obs.length) := rfl
theorem A19 (xs : List AV) (obs : List AObj) : AA 19 xs obs = some (s19 obs.length) := rfl
theorem A20 (xs : List AV) (obs : List AObj) : AA 20 xs obs = some (s20 obs.length) := rfl
theorem A21 (xs : List AV) (obs : List AObj) : AA 21 xs obs = some (s21 obs.length) := rfl
theorem A22 (xs : List AV) (obs : List AObj) : AA 22 xs obs = some (s22 obs.length) := rfl
theorem A23 (xs : List AV) (obs : List AObj) : AA 23 xs obs = some (s23 obs.length) := rfl
theorem A24 (xs : List AV) (obs : List AObj) : AA 24 xs obs = some (s24 obs.length) := rfl
theorem A25 (xs : List AV) (obs : List AObj) : AA 25 xs obs = some (s25 obs.length) := rfl
theorem A26 (xs : List AV) (obs : List AObj) : AA 26 xs obs = some (s26 obs.length) := rfl
theorem A28 (xs : List AV) (obs : List AObj) : AA 28 xs obs = some (s28 obs.length) := rfl
theorem A29 (xs : List AV) (obs : List AObj) : AA 29 xs obs = some (s29 obs.length) := rfl
theorem A30 (xs : List AV) (obs : List AObj) : AA 30 xs obs = some (s30 obs.length) := rfl
theorem A31 (xs : List AV) (obs : List AObj) : AA 31 xs obs = some (s31 obs.length) := rfl
theorem A32 (xs : List AV) (obs : List AObj) : AA 32 xs obs = some (s32 obs.length) := rfl
theorem A33 (xs : List AV) (obs : List AObj) : AA 33 xs obs = some (s33 obs.length) := rfl
theorem A34 (xs : List AV) (obs : List AObj) : AA 34 xs obs = some (s34 obs.length) := rfl
theorem A35 (xs : List AV) (obs : List AObj) : AA 35 xs obs = some (s35 obs.length) := rfl
theorem A36 (xs : List AV) (obs : List AObj) : AA 36 xs obs = some (s36 obs.length) := rfl
theorem A37 (xs : List AV) (obs : List AObj) : AA 37 xs obs = some (s37 obs.length) := rfl
theorem A38 (xs : List AV) (obs : List AObj) : AA 38 xs obs = some (s38 obs.length) := rfl
theorem A39 (xs : List AV) (obs : List AObj) : AA 39 xs obs = some (s39 obs.length) := rfl
theorem A40 (xs : List AV) (obs : List AObj) : AA 40 xs obs = some (s40 obs.length) := rfl
theorem A41 (xs : List AV) (obs : List AObj) : AA 41 xs obs = some (s41 obs.length) := rfl
theorem A42 (xs : List AV) (obs : List AObj) : AA 42 xs obs = some (s42 obs.length) := rfl
theorem A43 (xs : List AV) (obs : List AObj) : AA 43 xs obs = some (s43 obs.length) := rfl
theorem A44 (xs : List AV) (obs : List AObj) : AA 44 xs obs = some (s44 obs.length) := rfl
theorem A45 (xs : List AV) (obs : List AObj) : AA 45 xs obs = some (s45 obs.length) := rfl
theorem A46 (xs : List AV) (obs : List AObj) : AA 46 xs obs = some (s46 obs.length) := rfl
theorem A47 (xs : List AV) (obs : List AObj) : AA 47 xs obs = some (s47 obs.length) := rfl
theorem A48 (xs : List AV) (obs : List AObj) : AA 48 xs obs = some (s48 obs.length) := rfl
theorem A49 (xs : List AV) (obs : List AObj) : AA 49 xs obs = some (s49 obs.length) := rfl
theorem A50 (xs : List AV) (obs : List AObj) : AA 50 xs obs = some (s50 obs.length) := rfl
theorem A51 (xs : List AV) (obs : List AObj) : AA 51 xs obs = some (s51 obs.length) := rfl
theorem A52 (xs : List AV) (obs : List AObj) : AA 52 xs obs = some (s52 obs.length) := rfl
theorem A53 (xs : List AV) (obs : List AObj) : AA 53 xs obs = some (s53 obs.length) := rfl
end Go.Proofs.YtpooehcjchkbkaaV
